/- Part 2 of the texts for the claim. -/
import Derived.Test.YtjiojpmoleilgaaGreatDoorOrder1
namespace Go.Wf
set_option linter.unusedVariables false
set_option linter.unusedSimpArgs false
open Go
theorem ji (l : List Nat) (k : Nat) (hk : k ≤ l.length) : val l = val (l.take k) + 4294967296 ^ k * val (l.drop k) := by
 conv => lhs; rw [← List.take_append_drop k l]
 rw [Xh, List.length_take, Nat.min_eq_left hk]
theorem Jdv {a b : Nat} (h : cmpN a b < 0) : a < b := by
 unfold cmpN at h
 split at h
 ·assumption
 ·split at h <;> omega
theorem Jdh {a b : Nat} (h : ¬ cmpN a b < 0) : b ≤ a := by
 unfold cmpN at h
 split at h
 ·omega
 ·omega
theorem Z4 {a b : List Nat} (hb : trim b = b) (sa : Jo a) (h : val b ≤ val a) : b.length ≤ a.length := by
 rcases Nat.lt_or_ge a.length b.length with h1 | h1
 ·have := Ya hb sa h1; omega
 ·exact h1
theorem Jlx {a : List Nat} (ha : trim a = a) (sa : Jo a) : a = digs (val a) := by
 conv => lhs; rw [← ha, V7 sa]
theorem dv_lt {a b : List Nat} (h : val a < val b) : [] = digs (val a / val b) := by rw [Nat.div_eq_of_lt h]; rfl
theorem Ji2 {a b : List Nat} (ha : trim a = a) (sa : Jo a) (h : val a < val b) : a = digs (val a % val b) := by
 rw [Nat.mod_eq_of_lt h]; exact Jlx ha sa
theorem Y5 {a : List Nat} (sa : Jo a) (h : a.length ≤ 2) : val a < 18446744073709551616 := by
 have := Ze a sa
 have h2 : 4294967296 ^ a.length ≤ 4294967296 ^ 2 := Nat.pow_le_pow_right (by omega) h
 omega
theorem Jfq {x y : Nat} (h : x < 18446744073709551616) : x / y < 18446744073709551616 := Nat.lt_of_le_of_lt (Nat.div_le_self _ _) h
theorem Jej {x y : Nat} (h : x < 18446744073709551616) : x % y < 18446744073709551616 := Nat.lt_of_le_of_lt (Nat.mod_le _ _) h
theorem Jd9 {b : List Nat} (hb : trim b = b) (sb : Jo b) (h : b ≠ []) : 0 < b.getD (b.length - 1) 0 := by
 rcases List.eq_nil_or_concat b with rfl | ⟨q, d, rfl⟩
 ·exact absurd rfl h
 ·have h1 := K9 hb h
  simp only [List.concat_eq_append] at *
  have sq : Jo q := fun u hu => sb u (by simp [hu])
  have h2 := Ze q sq
  rw [Zu, List.length_append, List.length_singleton, Nat.add_sub_cancel] at h1
  rw [List.length_append, List.length_singleton, Nat.add_sub_cancel, List.getD_eq_getElem?_getD, List.getElem?_append_right (by omega), Nat.sub_self]
  show 0 < d
  rcases Nat.eq_zero_or_pos d with e | e
  ·rw [e, Nat.mul_zero] at h1; omega
  ·exact e
theorem Jnl {b : List Nat} (sb : Jo b) (hne : b ≠ []) {s : Nat} (hs : s ≤ 32 - blen (b.getD (b.length - 1) 0)) : val b * 2 ^ s < 4294967296 ^ b.length := by
 have hpos : 0 < b.length := List.length_pos_iff.2 hne
 have h1 := Xv (k := b.length - 1) sb (by omega)
 have h2 := Jn b (b.length - 1)
 rw [show b.length - 1 + 1 = b.length by omega, List.take_length] at h2
 have h3 := Qg (b.getD (b.length - 1) 0)
 have h4 := vo (Jg sb (b.length - 1))
 generalize b.getD (b.length - 1) 0 = t at *
 have h5 : (t + 1) * 2 ^ s ≤ 4294967296 := by
  refine Nat.le_trans (Nat.mul_le_mul_right _ (show t + 1 ≤ 2 ^ blen t by omega)) ?_
  rw [← Nat.pow_add]
  exact Nat.le_trans (Nat.pow_le_pow_right (by omega) (show blen t + s ≤ 32 by omega)) (by decide)
 have h6 : val b + 1 ≤ 4294967296 ^ (b.length - 1) * (t + 1) := by rw [Nat.mul_add, Nat.mul_one]; omega
 have h7 := Nat.mul_le_mul_right (2 ^ s) h6
 rw [Nat.mul_assoc] at h7
 have h8 := Nat.mul_le_mul_left (4294967296 ^ (b.length - 1)) h5
 rw [← Nat.pow_succ, show (b.length - 1).succ = b.length by omega] at h8
 rw [Nat.add_mul, Nat.one_mul] at h7
 have := Nat.two_pow_pos s
 omega
theorem Jnk {v n : Nat} (h1 : v < 4294967296 ^ n) (h2 : 4294967296 ^ (n - 1) ≤ v) (hn : 0 < n) : (digs v).length = n := by
 have a := Jy h1
 rcases Nat.lt_or_ge (digs v).length n with h | h
 ·have b := Vc v
  have c : 4294967296 ^ (digs v).length ≤ 4294967296 ^ (n - 1) := Nat.pow_le_pow_right (by omega) (by omega)
  omega
 ·omega
theorem Jsl {b : List Nat} (hb : trim b = b) (sb : Jo b) (hne : b ≠ []) {s : Nat} (hs : s ≤ 32 - blen (b.getD (b.length - 1) 0)) : (trim (Jr (b.length + 1) (val b * 2 ^ s))).length = b.length ∧ val (trim (Jr (b.length + 1) (val b * 2 ^ s))) = val b * 2 ^ s ∧ trim (trim (Jr (b.length + 1) (val b * 2 ^ s))) = trim (Jr (b.length + 1) (val b * 2 ^ s)) := by
 have h1 := Jnl sb hne hs
 have hpos : 0 < b.length := List.length_pos_iff.2 hne
 have h1' : val b * 2 ^ s < 4294967296 ^ (b.length + 1) := Nat.lt_of_lt_of_le h1 (Nat.pow_le_pow_right (by omega) (by omega))
 rw [K1 h1']
 refine ⟨Jnk h1 (Nat.le_trans (K9 hb hne) (Nat.le_mul_of_pos_right _ (Nat.two_pow_pos s))) hpos, Jt _, Z9 _⟩
theorem Jq5 {a b L : List Nat} (sa : Jo a) (hb : trim b = b) (hne : b ≠ []) {s : Nat} (hle : b.length ≤ a.length) (hL : L.length = a.length + 1) (hs : Jo L) (hv : val L = val a * 2 ^ s) :
  val (L.drop (a.length + 1 - b.length)) < val b * 2 ^ s := by
 have hpos : 0 < b.length := List.length_pos_iff.2 hne
 have h1 := ji L (a.length + 1 - b.length) (by omega)
 have h2 := Ze a sa
 have h3 := K9 hb hne
 have h4 : 4294967296 ^ (a.length + 1 - b.length) * val (L.drop (a.length + 1 - b.length)) < 4294967296 ^ (a.length + 1 - b.length) * (4294967296 ^ (b.length - 1) * 2 ^ s) := by
  rw [← Nat.mul_assoc, ← Nat.pow_add, show a.length + 1 - b.length + (b.length - 1) = a.length by omega]
  have := Nat.mul_lt_mul_of_pos_right h2 (Nat.two_pow_pos s)
  omega
 have h5 := Nat.lt_of_mul_lt_mul_left h4
 exact Nat.lt_of_lt_of_le h5 (Nat.mul_le_mul_right _ h3)
theorem Jm0 {L : List Nat} {J n : Nat} (hJ : 0 < J) (hl : J + n ≤ L.length) : L = L.take (J - 1) ++ (L.drop (J - 1)).take (n + 1) ++ L.drop (J + n) := by
 rw [List.append_assoc]
 conv => lhs; rw [← List.take_append_drop (J - 1) L]
 congr 1
 conv => lhs; rw [← List.take_append_drop (n + 1) (L.drop (J - 1))]
 rw [List.drop_drop, show J - 1 + (n + 1) = J + n by omega]
theorem Jiy {L : List Nat} {J n : Nat} (hJ : 0 < J) (hl : J + n ≤ L.length) : ((L.drop (J - 1)).take (n + 1)).length = n + 1 := by
 rw [List.length_take, List.length_drop]; omega
theorem Jdo {L : List Nat} {J n D : Nat} (hl : J + n ≤ L.length) (hD : D < 4294967296 ^ n) (hlo : val (L.drop J) < D) : val (L.drop (J + n)) = 0 := by
 have h := ji (L.drop J) n (by rw [List.length_drop]; omega)
 rw [List.drop_drop] at h
 rcases Nat.eq_zero_or_pos (val (L.drop (J + n))) with e | e
 ·exact e
 ·have := Nat.mul_le_mul_left (4294967296 ^ n) e
  rw [Nat.mul_one] at this
  omega
theorem Ji6 {L : List Nat} {J n D : Nat} (hJ : 0 < J) (hl : J + n ≤ L.length) (hD : D < 4294967296 ^ n) (hlo : val (L.drop J) < D) : val (L.drop (J - 1)) = val ((L.drop (J - 1)).take (n + 1)) := by
 have h := ji (L.drop (J - 1)) (n + 1) (by rw [List.length_drop]; omega)
 rw [List.drop_drop, show J - 1 + (n + 1) = J + n by omega, Jdo hl hD hlo, Nat.mul_zero, Nat.add_zero] at h
 exact h
theorem Jor {L : List Nat} {J n D : Nat} (hs : Jo L) (hJ : 0 < J) (hl : J + n ≤ L.length) (hD : D < 4294967296 ^ n) (hlo : val (L.drop J) < D) : val ((L.drop (J - 1)).take (n + 1)) < D * 4294967296 := by
 rw [← Ji6 hJ hl hD hlo, Qy hJ (by omega)]
 have := Jg hs (J - 1)
 omega
theorem Jk2 {u D : Nat} (h : u < D * 4294967296) : u / D < 4294967296 := Nat.div_lt_of_lt_mul h
theorem Jot {L : List Nat} {J n T : Nat} (hJ : 0 < J) (hl : J + n ≤ L.length) : (L.take (J - 1) ++ Jr (n + 1) T ++ L.drop (J + n)).length = L.length := by
 simp only [List.length_append, List.length_take, List.length_drop, Ji]; omega
theorem Jev {L : List Nat} {J n D u : Nat} (hJ : 0 < J) (hl : J + n ≤ L.length) (hD : D < 4294967296 ^ n) (hlo : val (L.drop J) < D) : val ((L.take (J - 1) ++ Jr (n + 1) (u % D) ++ L.drop (J + n)).drop (J - 1)) = u % D := by
 have hlen : (L.take (J - 1)).length = J - 1 := by rw [List.length_take]; omega
 have hT : u % D < 4294967296 ^ (n + 1) := by
  have h1 := Nat.mod_lt u (show 0 < D by omega)
  have h2 : 4294967296 ^ n ≤ 4294967296 ^ (n + 1) := Nat.pow_le_pow_right (by omega) (by omega)
  omega
 rw [List.append_assoc, List.drop_append_of_le_length (by omega), List.drop_of_length_le (by omega), List.nil_append, Xh, J8 _ _ hT, Jdo hl hD hlo, Nat.mul_zero, Nat.add_zero]
theorem Jsh {L Q : List Nat} {J n D N : Nat} (hJ : 0 < J) (hl : J + n ≤ L.length) (hD : D < 4294967296 ^ n) (hlo : val (L.drop J) < D) (hN : N = val Q * D * 4294967296 ^ J + val L) :
  N = val ((val ((L.drop (J - 1)).take (n + 1)) / D) :: Q) * D * 4294967296 ^ (J - 1) + val (L.take (J - 1) ++ Jr (n + 1) (val ((L.drop (J - 1)).take (n + 1)) % D) ++ L.drop (J + n)) := by
 have hlen : (L.take (J - 1)).length = J - 1 := by rw [List.length_take]; omega
 have h1 := ji (L.take (J - 1) ++ Jr (n + 1) (val ((L.drop (J - 1)).take (n + 1)) % D) ++ L.drop (J + n)) (J - 1) (by rw [Jot hJ hl]; omega)
 rw [Jev hJ hl hD hlo] at h1
 rw [List.append_assoc, List.take_append_of_le_length (by omega), List.take_take, Nat.min_self, ← List.append_assoc] at h1
 have h2 := ji L (J - 1) (by omega)
 have h3 := Ji6 hJ hl hD hlo
 rw [h3] at h2
 rw [h1, hN, h2, val]
 generalize val ((L.drop (J - 1)).take (n + 1)) = u
 have h4 := Nat.div_add_mod u D
 generalize u % D = r at *
 generalize u / D = d at *
 have e : 4294967296 ^ J = 4294967296 * 4294967296 ^ (J - 1) := by rw [Nat.mul_comm, ← Nat.pow_succ, show (J - 1).succ = J by omega]
 rw [e, ← h4]
 generalize 4294967296 ^ (J - 1) = p
 generalize val (L.take (J - 1)) = t
 generalize val Q = q
 rw [Nat.add_mul, Nat.add_mul, Nat.mul_add, Nat.mul_comm d D, Nat.mul_comm (D * d) p]
 have e2 : q * D * (4294967296 * p) = 4294967296 * q * D * p := by
  rw [← Nat.mul_assoc, Nat.mul_comm (q * D), ← Nat.mul_assoc]
 rw [e2]
 omega
theorem Jn7 {a : List Nat} (sa : Jo a) {s : Nat} (hs : s ≤ 32) : val a * 2 ^ s < 4294967296 ^ (a.length + 1) := by
 have h1 := Ze a sa
 have h2 : 2 ^ s ≤ 4294967296 := Nat.le_trans (Nat.pow_le_pow_right (by omega) hs) (by decide)
 have h3 := Nat.mul_le_mul_left (val a) h2
 have h4 := Nat.mul_lt_mul_of_pos_right h1 (show 0 < 4294967296 by decide)
 rw [Nat.pow_succ]
 omega
theorem Jie {L : List Nat} {i k n T : Nat} (hs : Jo L) : Jo (L.take i ++ Jr n T ++ L.drop k) := Z5 (Z5 (Qp hs _) (Jz _ _)) (jf hs _)
theorem dv_q {a b Q L : List Nat} {s : Nat} (hQ : Jo Q) (hb : 0 < val b) (hN : val a * 2 ^ s = val Q * (val b * 2 ^ s) * 4294967296 ^ 0 + val L) (hlo : val (L.drop 0) < val b * 2 ^ s) : trim Q = digs (val a / val b) := by
 rw [List.drop_zero] at hlo
 rw [Nat.pow_zero, Nat.mul_one] at hN
 rw [V7 hQ]
 congr 1
 have hp := Nat.two_pow_pos s
 have h1 : val a * 2 ^ s / (val b * 2 ^ s) = val Q := by
  rw [hN, Nat.mul_comm (val Q), Nat.mul_add_div (Nat.mul_pos hb hp), Nat.div_eq_of_lt hlo, Nat.add_zero]
 rw [← h1, Nat.mul_div_mul_right _ _ hp]
theorem dv_r {a b Q L : List Nat} {s n : Nat} (hL : Jo L) (hb : 0 < val b) (hn : n ≤ L.length) (hD : val b * 2 ^ s < 4294967296 ^ n) (hN : val a * 2 ^ s = val Q * (val b * 2 ^ s) * 4294967296 ^ 0 + val L) (hlo : val (L.drop 0) < val b * 2 ^ s) :
  trim (Jr (L.take n).length (val (L.take n) / 2 ^ s)) = digs (val a % val b) := by
 rw [List.drop_zero] at hlo
 rw [Nat.pow_zero, Nat.mul_one] at hN
 have hp := Nat.two_pow_pos s
 have h0 : val (L.take n) = val L := by
  have h := ji L n hn
  have e := Jdo (J := 0) (n := n) (L := L) (by omega) hD (by rw [List.drop_zero]; exact hlo)
  rw [Nat.zero_add] at e
  rw [e] at h; omega
 have h1 : val L = val a * 2 ^ s % (val b * 2 ^ s) := by
  rw [hN, Nat.mul_comm (val Q), Nat.mul_add_mod, Nat.mod_eq_of_lt hlo]
 have h2 : val L / 2 ^ s = val a % val b := by
  rw [h1, Nat.mul_mod_mul_right, Nat.mul_div_cancel _ hp]
 rw [h0, h2]
 refine K1 ?_
 rw [← h2, List.length_take, Nat.min_eq_left hn]
 exact Nat.lt_of_le_of_lt (Nat.div_le_self _ _) (Nat.lt_trans hlo hD)
end Go.Wf
namespace Go.Wf
set_option linter.unusedVariables false
set_option linter.unusedSimpArgs false
open Go
theorem X4 (b : Bool) (n : Nat) : (Jk b n).natAbs = n := by cases b <;> simp [Jk]
theorem Je5 (b : Bool) (n : Nat) : decide (Jk b n < 0) = (b && decide (0 < n)) := by
 cases b
 ·simp [Jk]
 ·simp [Jk]
theorem Jcl (b : Bool) (n : Nat) : Jk (!b) n = - Jk b n := by cases b <;> simp [Jk]
theorem Z7 (n : Nat) : Jk false n = n := rfl
theorem Qb (v : Nat) : decide (0 < (digs v).length) = decide (0 < v) := by
 rcases Nat.eq_zero_or_pos v with rfl | h
 ·rfl
 ·have : digs v ≠ [] := fun e => by rw [j3] at e; omega
  rw [decide_eq_true h, decide_eq_true (List.length_pos_iff.2 this)]
theorem Jkc {b : Bool} {m : List Nat} (h : Jo m) : mkSg b m = ofZ (Jk b (val m)) := by
 unfold mkSg ofZ
 rw [V7 h, X4, Je5, Qb]
theorem Yn {b : Bool} {m : List Nat} {z : Int} (h : Jo m) (e : Jk b (val m) = z) : mkSg b m = ofZ z := by rw [Jkc h, e]
theorem Jp (z : Int) : (ofZ z).toZ = z := by
 unfold GInt.toZ ofZ
 rw [Jt]
 rcases Int.lt_or_le z 0 with h | h
 ·rw [decide_eq_true h]; simp [Jk]; omega
 ·rw [decide_eq_false (by omega)]; simp [Jk]; omega
theorem Y8 (z : Int) : Jo (ofZ z).mag := Zr _
theorem Qq (z : Int) : trim (ofZ z).mag = (ofZ z).mag := Z9 _
theorem Jjt {y z : Int} (h : ofZ y = ofZ z) : y = z := by rw [← Jp y, h, Jp]
theorem X3 (z : Int) : (ofZ z).mag = digs z.natAbs := rfl
theorem Jas (z : Int) : (ofZ z).neg = decide (z < 0) := rfl
theorem Xc (a : GInt) : a.toZ.natAbs = val a.mag := X4 _ _
theorem j7 {a : GInt} : a.toZ = 0 ↔ val a.mag = 0 := by rw [← Int.natAbs_eq_zero, Xc]
theorem Ku {m : List Nat} (_h : Jo m) : (trim m).length = 0 ↔ val m = 0 := by
 rw [List.length_eq_zero_iff, Ka]
theorem Jjk {a : GInt} (h : val a.mag = 0) : (0 : Int) = a.toZ.sign := by rw [j7.2 h]; rfl
theorem vm {a : GInt} (hn : a.neg = true) (h : val a.mag ≠ 0) : (-1 : Int) = a.toZ.sign := by
 unfold GInt.toZ; rw [hn]; rw [Int.sign_eq_neg_one_of_neg]; simp [Jk]; omega
theorem Jnc {a : GInt} (hn : a.neg = false) (h : val a.mag ≠ 0) : (1 : Int) = a.toZ.sign := by
 unfold GInt.toZ; rw [hn]; rw [Int.sign_eq_one_of_pos]; simp [Jk]; omega
theorem Jfd {a : GInt} {b : List Nat} {n : Bool} (h : a.neg = n) : Jk n (val a.mag + val b) = a.toZ + Jk n (val b) := by
 unfold GInt.toZ; rw [h]; cases n <;> simp [Jk] <;> omega
theorem Jnq {a : GInt} {b : List Nat} {n : Bool} (h : ¬ a.neg = n) (hle : val b ≤ val a.mag) : Jk a.neg (val a.mag - val b) = a.toZ + Jk n (val b) := by
 unfold GInt.toZ
 have : n = !a.neg := by cases n <;> cases hh : a.neg <;> simp_all
 rw [this]; cases a.neg <;> simp [Jk] <;> omega
theorem Jnx {a : GInt} {b : List Nat} {n : Bool} (h : ¬ a.neg = n) (hle : val a.mag ≤ val b) : Jk n (val b - val a.mag) = a.toZ + Jk n (val b) := by
 unfold GInt.toZ
 have : n = !a.neg := by cases n <;> cases hh : a.neg <;> simp_all
 rw [this]; cases a.neg <;> simp [Jk] <;> omega
theorem Jco (a b : GInt) : Jk (a.neg != b.neg) (val a.mag * val b.mag) = a.toZ * b.toZ := by
 unfold GInt.toZ
 cases a.neg <;> cases b.neg <;> simp [Jk, Int.neg_mul, Int.mul_neg]
theorem Vu {a b : GInt} (hb : val b.mag ≠ 0) (h : a.neg = false ∨ val a.mag % val b.mag = 0) :
  Jk (a.neg != b.neg) (val a.mag / val b.mag) = a.toZ / b.toZ ∧ ((val a.mag % val b.mag : Nat) : Int) = a.toZ % b.toZ := by
 unfold GInt.toZ
 have hm := Nat.div_add_mod (val a.mag) (val b.mag)
 generalize val a.mag = x at *
 generalize val b.mag = y at *
 cases ha : a.neg with
 | false =>
  cases b.neg with
  | false => simp [Jk]
  | true => simp [Jk]
 | true =>
  have h0 : x % y = 0 := by
   rcases h with h | h
   ·rw [ha] at h; cases h
   ·exact h
  rw [h0, Nat.add_zero] at hm
  generalize x / y = q at *
  subst hm
  have hy : (y : Int) ≠ 0 := by omega
  cases b.neg with
  | false =>
   simp only [Jk]
   refine ⟨?_, ?_⟩
   ·have : -((y * q : Nat) : Int) = (y : Int) * (-(q : Int)) := by simp [Int.mul_neg]
    simp only [if_true, Bool.bne_false, if_false, Bool.false_eq_true]
    rw [this, Int.mul_ediv_cancel_left _ hy]
   ·simp [h0]
  | true =>
   simp only [Jk]
   refine ⟨?_, ?_⟩
   ·have : -((y * q : Nat) : Int) = (-(y : Int)) * (q : Int) := by simp [Int.neg_mul]
    simp only [if_true, bne_self_eq_false, if_false, Bool.false_eq_true]
    rw [this, Int.mul_ediv_cancel_left _ (by omega)]
   ·simp [h0]
theorem xi {a b : GInt} (hb : val b.mag ≠ 0) (ha : a.neg = true) (h : val a.mag % val b.mag ≠ 0) :
  Jk (a.neg != b.neg) (val a.mag / val b.mag + 1) = a.toZ / b.toZ ∧ ((val b.mag - val a.mag % val b.mag : Nat) : Int) = a.toZ % b.toZ := by
 unfold GInt.toZ
 have hm := Nat.div_add_mod (val a.mag) (val b.mag)
 have hlt := Nat.mod_lt (val a.mag) (show 0 < val b.mag by omega)
 generalize val a.mag = x at *
 generalize val b.mag = y at *
 generalize x / y = q at *
 generalize x % y = r at *
 rw [ha]
 have key : ∀ s : Int, (s = y ∨ s = -y) → ∀ Q : Int, -(x : Int) = s * Q + ((y - r : Nat) : Int) → Q = -(x : Int) / s ∧ ((y - r : Nat) : Int) = -(x : Int) % s := by
  intro s hs Q hQ
  have h1 : 0 ≤ ((y - r : Nat) : Int) := Int.natCast_nonneg _
  have h2 : ((y - r : Nat) : Int) < s.natAbs := by
   have : s.natAbs = y := by rcases hs with rfl | rfl <;> simp
   rw [this]; omega
  have hs0 : s ≠ 0 := by rcases hs with rfl | rfl <;> omega
  have e1 : -(x : Int) / s = Q := by
   have h3 : ((y - r : Nat) : Int) / s = 0 := by
    rcases hs with rfl | rfl
    ·exact Int.ediv_eq_zero_of_lt h1 (by omega)
    ·rw [Int.ediv_neg, Int.ediv_eq_zero_of_lt h1 (by omega), Int.neg_zero]
   rw [hQ, Int.mul_add_ediv_left _ _ hs0, h3, Int.add_zero]
  refine ⟨e1.symm, ?_⟩
  have := Int.emod_def (-(x : Int)) s
  rw [this, e1]; omega
 have hx : (x : Int) = (y : Int) * q + r := by rw [← hm]; simp
 have hsub : ((y - r : Nat) : Int) = (y : Int) - r := by omega
 cases b.neg with
 | false =>
  have := key y (.inl rfl) (-((q : Int) + 1)) (by rw [hsub, hx, Int.mul_neg, Int.mul_add]; omega)
  simpa [Jk] using this
 | true =>
  have := key (-y) (.inr rfl) ((q : Int) + 1) (by rw [hsub, hx, Int.neg_mul, Int.mul_add]; omega)
  simpa [Jk] using this
end Go.Wf
namespace Go.Wf
set_option linter.unusedVariables false
set_option linter.unusedSimpArgs false
open Go
def GRat.q (r : GRat) : Rat := Rat.divInt r.num.toZ r.den.toZ
def ofQ (q : Rat) : GRat := ⟨ofZ q.num, ofZ (q.den : Int)⟩
theorem Yv (q : Rat) : (ofQ q).q = q := by
 unfold GRat.q ofQ
 rw [Jp, Jp]
 exact Rat.num_divInt_den q
def low (n d : Int) : GRat := ofQ (Rat.divInt n d)
theorem Jcs (n : Int) : low n 0 = ⟨ofZ 0, ofZ 1⟩ := by
 unfold low ofQ
 rw [Rat.divInt_zero]; rfl
theorem Jbv (d : Int) : low 0 d = ⟨ofZ 0, ofZ 1⟩ := by
 unfold low ofQ
 rw [Rat.zero_divInt]; rfl
theorem Jc8 {n d : Int} (hd : 0 < d) : low n d = ⟨ofZ (n / (Int.gcd n d : Int)), ofZ (d / (Int.gcd n d : Int))⟩ := by
 unfold low ofQ
 rw [Rat.num_divInt, Rat.den_divInt, if_neg (by omega), Int.gcd_comm, Int.sign_eq_one_of_pos hd, Int.one_mul]
 congr 2
 have : (d.natAbs : Int) = d := by omega
 rw [← this]
 simp
theorem Jpa {n d : Int} (hd : d = 1) : low n d = ⟨ofZ n, ofZ d⟩ := by
 subst hd
 rw [Jc8 (by decide), Int.gcd_one_right]
 simp
theorem Jdk {n d : Int} (hd : 0 < d) (h : Int.gcd n d = 1) : low n d = ⟨ofZ n, ofZ d⟩ := by
 rw [Jc8 hd, h]; simp
theorem kn {a : GRat} (h : a.den.toZ = 0) : a.q = 0 := by
 unfold GRat.q; rw [h, Rat.divInt_zero]
theorem Jsb {a b : GRat} (ha : a.den.toZ ≠ 0) (hb : b.den.toZ ≠ 0) : a.q + b.q = Rat.divInt (a.num.toZ * b.den.toZ + b.num.toZ * a.den.toZ) (a.den.toZ * b.den.toZ) := Rat.divInt_add_divInt _ _ ha hb
theorem Jwq (a : GRat) : Rat.divInt (-a.num.toZ) a.den.toZ = - a.q := by
 unfold GRat.q; rw [Rat.neg_divInt]
def qv (q : Rat) : Int := q.num.sign
theorem Jn9 (a : GRat) : a.num.toZ.sign * a.den.toZ.sign = qv a.q := by
 unfold GRat.q qv
 rw [Rat.num_divInt]
 generalize a.num.toZ = n
 generalize a.den.toZ = d
 rcases Int.lt_trichotomy d 0 with h | h | h
 ·rw [Int.sign_eq_neg_one_of_neg h]
  have hg : 0 < Int.gcd d n := Int.gcd_pos_of_ne_zero_left _ (by omega)
  have hdvd : (Int.gcd d n : Int) ∣ n := Int.gcd_dvd_right _ _
  obtain ⟨k, hk⟩ := hdvd
  generalize Int.gcd d n = g at *
  subst hk
  rw [show (-1 : Int) * ((g : Int) * k) = (g : Int) * (-k) by rw [Int.mul_neg, Int.neg_mul, Int.one_mul], Int.mul_ediv_cancel_left _ (by omega), Int.sign_mul, Int.sign_neg, Int.sign_eq_one_of_pos (by omega)]
  omega
 ·subst h; simp
 ·rw [Int.sign_eq_one_of_pos h]
  have hg : 0 < Int.gcd d n := Int.gcd_pos_of_ne_zero_left _ (by omega)
  have hdvd : (Int.gcd d n : Int) ∣ n := Int.gcd_dvd_right _ _
  obtain ⟨k, hk⟩ := hdvd
  generalize Int.gcd d n = g at *
  subst hk
  rw [Int.one_mul, Int.mul_ediv_cancel_left _ (by omega), Int.sign_mul, Int.sign_eq_one_of_pos (show 0 < (g : Int) by omega)]
  omega
end Go.Wf
namespace Go.Wf
set_option linter.unusedVariables false
set_option linter.unusedSimpArgs false
open Go
def ocmp (c d : Int) : Int := if c = 0 then d else c
def cmpI (a b : Int) : Int := if a < b then -1 else if a = b then 0 else 1
def qcmp (p q : Rat) : Int := qv (p - q)
def cmpL {α : Type} (f : α → α → Int) : List α → List α → Int
 | [], [] => 0
 | [], _ :: _ => -1
 | _ :: _, [] => 1
 | a :: as0, b :: bs => ocmp (f a b) (cmpL f as0 bs)
def cmpB (a b : UInt8) : Int := cmpI a.toNat b.toNat
mutual
def cmpE : GExpr → GExpr → Int
 | .mk o n c s as0, e => ocmp (cmpI o e.op) (ocmp (cmpL cmpI n e.n) (ocmp (qcmp c.q e.c.q) (ocmp (cmpL cmpB s e.name) (Kf as0 e.args))))
def Kf : List GExpr → List GExpr → Int
 | [], [] => 0
 | [], _ :: _ => -1
 | _ :: _, [] => 1
 | a :: as0, b :: bs => ocmp (cmpE a b) (Kf as0 bs)
end
theorem Xa (a e : GExpr) : cmpE a e = ocmp (cmpI a.op e.op) (ocmp (cmpL cmpI a.n e.n) (ocmp (qcmp a.c.q e.c.q) (ocmp (cmpL cmpB a.name e.name) (Kf a.args e.args)))) := by
 cases a; rw [cmpE]; rfl
def Anti (p q : Int) : Prop := q = -p
def Tri (ab bc ac : Int) : Prop := ab ≤ 0 → bc ≤ 0 → ac ≤ 0
theorem kd {p q p' q' : Int} (h : Anti p q) (h' : Anti p' q') : Anti (ocmp p p') (ocmp q q') := by
 unfold Anti ocmp at *
 split <;> split <;> omega
theorem Jgl {ab bc ac ba cb ca ab' bc' ac' : Int} (h1 : Anti ab ba) (h2 : Anti bc cb) (h3 : Anti ac ca) (t : Tri ab bc ac) (t1 : Tri ca ab cb) (t2 : Tri bc ca ba) (t' : Tri ab' bc' ac') :
  Tri (ocmp ab ab') (ocmp bc bc') (ocmp ac ac') := by
 unfold Tri Anti ocmp at *
 intro ha hb
 split at ha <;> split at hb <;> split <;> first | omega | skip
 all_goals first | exact t' ha hb | skip
 all_goals omega
structure IsCmp {α : Type} (f : α → α → Int) : Prop where
 anti : ∀ a b, Anti (f a b) (f b a)
 tri : ∀ a b c, Tri (f a b) (f b c) (f a c)
theorem jd : IsCmp cmpI := by
 refine ⟨fun a b => ?_, fun a b c => ?_⟩
 ·unfold Anti cmpI; split <;> split <;> (try split) <;> (try split) <;> omega
 ·unfold Tri cmpI; split <;> split <;> (try split) <;> (try split) <;> (try split) <;> (try split) <;> omega
theorem Jhy : IsCmp cmpB := ⟨fun a b => jd.anti _ _, fun a b c => jd.tri _ _ _⟩
theorem Ji4 (q : Rat) : qv (-q) = - qv q := by
 unfold qv; rw [Rat.neg_num, Int.sign_neg]
theorem vh {q : Rat} : qv q ≤ 0 ↔ q ≤ 0 := by
 unfold qv
 have h : 0 ≤ (-q).num ↔ 0 ≤ -q := Rat.num_nonneg
 rw [Rat.neg_num] at h
 have h2 : 0 ≤ -q ↔ q ≤ 0 := by
  constructor
  ·intro h; have := Rat.neg_le_neg h; rwa [Rat.neg_neg, Rat.neg_zero] at this
  ·intro h; have := Rat.neg_le_neg h; rwa [Rat.neg_zero] at this
 rw [← h2, ← h]
 constructor
 ·intro hs
  rcases Int.lt_or_le 0 q.num with h3 | h3
  ·rw [Int.sign_eq_one_of_pos h3] at hs; omega
  ·omega
 ·intro hs
  rcases Int.lt_or_le q.num 0 with h3 | h3
  ·rw [Int.sign_eq_neg_one_of_neg h3]; omega
  ·rw [show q.num = 0 by omega]; decide
theorem Jkl : IsCmp qcmp := by
 refine ⟨fun a b => ?_, fun a b c => ?_⟩
 ·unfold Anti qcmp
  rw [← Ji4, Rat.neg_sub]
 ·unfold Tri qcmp
  rw [vh, vh, vh]
  intro h1 h2
  have e : a - c = (a - b) + (b - c) := by
   rw [Rat.sub_eq_add_neg, Rat.sub_eq_add_neg, Rat.sub_eq_add_neg, Rat.add_assoc, ← Rat.add_assoc (-b), Rat.neg_add_cancel, Rat.zero_add]
  rw [e]
  have h3 : (a - b) + (b - c) ≤ (a - b) + 0 := (Rat.add_le_add_left).2 h2
  rw [Rat.add_zero] at h3
  exact Rat.le_trans h3 h1
theorem vx {α : Type} {f : α → α → Int} (h : IsCmp f) : IsCmp (cmpL f) := by
 have anti : ∀ a b, Anti (cmpL f a b) (cmpL f b a) := by
  intro a
  induction a with
  | nil => intro b; cases b <;> simp [cmpL, Anti]
  | cons x a ih =>
   intro b
   cases b with
   | nil => simp [cmpL, Anti]
   | cons y b => exact kd (h.anti _ _) (ih b)
 refine ⟨anti, ?_⟩
 intro a
 induction a with
 | nil => intro b c; cases b <;> cases c <;> simp [cmpL, Tri]
 | cons x a ih =>
  intro b c
  cases b with
  | nil => intro h1; simp [cmpL] at h1
  | cons y b =>
   cases c with
   | nil => intro _ h2; simp [cmpL] at h2
   | cons z c => exact Jgl (h.anti _ _) (h.anti _ _) (h.anti _ _) (h.tri _ _ _) (h.tri _ _ _) (h.tri _ _ _) (ih b c)
theorem K8 : (∀ a b : GExpr, Anti (cmpE a b) (cmpE b a)) ∧ ∀ a b : List GExpr, Anti (Kf a b) (Kf b a) := by
 have key : ∀ n, (∀ a b : GExpr, SizeOf.sizeOf a < n → Anti (cmpE a b) (cmpE b a)) ∧ ∀ a b : List GExpr, SizeOf.sizeOf a < n → Anti (Kf a b) (Kf b a) := by
  intro n
  induction n with
  | zero => exact ⟨fun _ _ h => absurd h (Nat.not_lt_zero _), fun _ _ h => absurd h (Nat.not_lt_zero _)⟩
  | succ n ih =>
   refine ⟨fun a b h => ?_, fun a b h => ?_⟩
   ·rw [Xa, Xa]
    refine kd (jd.anti _ _) (kd ((vx jd).anti _ _) (kd (Jkl.anti _ _) (kd ((vx Jhy).anti _ _) (ih.2 _ _ ?_))))
    cases a; simp [GExpr.args] at h ⊢; omega
   ·cases a with
    | nil => cases b <;> simp [Kf, Anti]
    | cons x a =>
     cases b with
     | nil => simp [Kf, Anti]
     | cons y b =>
      rw [Kf, Kf]
      simp at h
      exact kd (ih.1 _ _ (by omega)) (ih.2 _ _ (by omega))
 exact ⟨fun a b => (key _).1 a b (Nat.lt_succ_self _), fun a b => (key _).2 a b (Nat.lt_succ_self _)⟩
theorem Jis : (∀ a b c : GExpr, Tri (cmpE a b) (cmpE b c) (cmpE a c)) ∧ ∀ a b c : List GExpr, Tri (Kf a b) (Kf b c) (Kf a c) := by
 have key : ∀ n, (∀ a b c : GExpr, SizeOf.sizeOf a + SizeOf.sizeOf b + SizeOf.sizeOf c < n → Tri (cmpE a b) (cmpE b c) (cmpE a c)) ∧ ∀ a b c : List GExpr, SizeOf.sizeOf a + SizeOf.sizeOf b + SizeOf.sizeOf c < n → Tri (Kf a b) (Kf b c) (Kf a c) := by
  intro n
  induction n with
  | zero => exact ⟨fun _ _ _ h => absurd h (Nat.not_lt_zero _), fun _ _ _ h => absurd h (Nat.not_lt_zero _)⟩
  | succ n ih =>
   refine ⟨fun a b c h => ?_, fun a b c h => ?_⟩
   ·rw [Xa, Xa, Xa]
    have I := jd
    have L := vx jd
    have S := vx Jhy
    have Q := Jkl
    refine Jgl (I.anti _ _) (I.anti _ _) (I.anti _ _) (I.tri _ _ _) (I.tri _ _ _) (I.tri _ _ _)
     (Jgl (L.anti _ _) (L.anti _ _) (L.anti _ _) (L.tri _ _ _) (L.tri _ _ _) (L.tri _ _ _)
     (Jgl (Q.anti _ _) (Q.anti _ _) (Q.anti _ _) (Q.tri _ _ _) (Q.tri _ _ _) (Q.tri _ _ _)
     (Jgl (S.anti _ _) (S.anti _ _) (S.anti _ _) (S.tri _ _ _) (S.tri _ _ _) (S.tri _ _ _) (ih.2 _ _ _ ?_))))
    cases a; cases b; cases c; simp [GExpr.args] at h ⊢; omega
   ·cases a with
    | nil => cases b <;> cases c <;> simp [Kf, Tri]
    | cons x a =>
     cases b with
     | nil => intro h1; simp [Kf] at h1
     | cons y b =>
      cases c with
      | nil => intro _ h2; simp [Kf] at h2
      | cons z c =>
       rw [Kf, Kf, Kf]
       simp at h
       exact Jgl (K8.1 _ _) (K8.1 _ _) (K8.1 _ _) (ih.1 _ _ _ (by omega)) (ih.1 _ _ _ (by omega)) (ih.1 _ _ _ (by omega)) (ih.2 _ _ _ (by omega))
 exact ⟨fun a b c => (key _).1 a b c (Nat.lt_succ_self _), fun a b c => (key _).2 a b c (Nat.lt_succ_self _)⟩
theorem Ye (a b : GExpr) : ¬ (cmpE a b < 0 ∧ cmpE b a < 0) := by
 have := K8.1 a b
 unfold Anti at this; omega
theorem Yd (a : GExpr) : ¬ cmpE a a < 0 := by
 have := K8.1 a a
 unfold Anti at this; omega
theorem Yf (a b : GExpr) : (¬ cmpE a b < 0 ∧ ¬ cmpE b a < 0) ↔ cmpE a b = 0 := by
 have := K8.1 a b
 unfold Anti at this; omega
theorem Zx (a b c : GExpr) (h1 : cmpE a b < 0) (h2 : cmpE b c < 0) : cmpE a c < 0 := by
 have t := Jis.1 a b c (by omega) (by omega)
 rcases Int.lt_or_eq_of_le t with h | h
 ·exact h
 ·have e1 := K8.1 a c
  have e2 := K8.1 b c
  unfold Anti at e1 e2
  have := Jis.1 c a b (by omega) (by omega)
  omega
end Go.Wf
namespace Go.Wf
open Go Go.Proofs Go.RowKit
set_option maxRecDepth 100000
set_option linter.unusedVariables false
set_option linter.unusedSimpArgs false
section
variable {P : Program} {ops : Array Oper} {n : Nat} {Q : Post} {r : List Oper} {f : Fr} {w : World}
theorem Oy {d : Nat} {op : Op} {ty : TypeId} {pos : String} {after : Array Edge} {j : Nat} {b : Bool} (hlo : Nat.blt d n = true) (hy : Zv ops f j = none)
  (h : Sq P ops n Q r (updO f (some d) undef) w) :
  Sq P ops n Q (⟨some d, op, ty, pos, after, some (j, b)⟩ :: r) f w := ⟨Nat.le_of_ble_eq_true hlo, by simp only [Region.wanted, hy]; exact h⟩
end
section
variable {P : Program} {ρ : Operand → Value} {w : World} {K : Value → World → Prop} {Kp : List PanicEntry → World → Prop} {dst : Option Tmp} {ty : TypeId} {pos : String} {after : Array Edge} {gd : Option (Nat × Bool)} {X0 x y : Nat → Prop} {w0 : Bs}
theorem St.callVR {o : Operand} {k : FuncId} {args : Array Operand} {ts : Array TypeId} {vs : List Value} {Φ : Value → World → Prop} (C : Cx X0 w0 x y w) (hk : Jd P k = true)
  (ha : args.toList.map ρ = vs) (he : ρ o = .func (.func k) #[] #[]) (hc : Calls P k vs.toArray w (Ret w Φ))
  (h : ∀ v w', Cx X0 w0 x y w' → Sp x y w x y w' Yc → Φ v w' → K v w') :
  St P ρ ⟨dst, .call { callee := .value o, args := args, argTypes := ts }, ty, pos, after, gd⟩ w K Kp := by
 unfold Jd at hk
 split at hk
 ·rename_i fn hf
  simp only [Bool.and_eq_true, Bool.not_eq_true'] at hk
  refine St.callV he hf hk.1 hk.2 (by rw [ha]; simp) (Calls.mono hc ?_)
  intro e w' hr
  cases e with
  | returned v => obtain ⟨h1, h2⟩ := hr; obtain ⟨c, s⟩ := C.next h2; exact h v w' c s h1
  | panicked ch => exact hr.elim
  | outgrown => exact hr.elim
 ·cases hk
theorem St.max3 {x y z : Operand} {ts : Array TypeId} {k k' k'' : IntKind} {a b c e : Int} (hx : ρ x = .int k a) (hy : ρ y = .int k' b) (hw : ρ z = .int k'' c) (hz : (if c > (if b > a then b else a) then c else (if b > a then b else a)) = e) (h : K (.int k e) w) :
  St P ρ ⟨dst, .call { callee := .builtin .max, args := #[x, y, z], argTypes := ts }, ty, pos, after, gd⟩ w K Kp := by
 subst hz
 refine St.of_run (v := .int k (if c > (if b > a then b else a) then c else (if b > a then b else a))) ?_ h
 simp [execOp, resolve, invoke, builtin, hx, hy, hw, Builtin.max_, Builtin.max2]
end
theorem Js {X : Nat → Prop} {w : World} {s1 s2 s3 s4 : Value} (m : GExpr) (g1 : -9223372036854775808 ≤ m.op) (g2 : m.op ≤ 9223372036854775807) (g3 : m.name.length ≤ maxLen)
  (h1 : RS Ke X w s1 m.n) (h2 : RS Jb X w s2 m.c.num.mag) (h3 : RS Jb X w s3 m.c.den.mag) (h4 : RS J0 X w s4 m.args) :
  RV J0 X w (.agg #[.int .i64 m.op, s1, .bool m.c.num.neg, s2, .bool m.c.den.neg, s3, str m.name, s4]) m := by
 have h := Js9 (b := m.c.num.neg) (d := m.c.den.neg) g1 g2 g3 h1 h2 h3 h4
 cases m; exact h
theorem RV.args_max {X : Nat → Prop} {w : World} {v : Value} {a : GExpr} (h : RV J0 X w v a) : a.args.length ≤ 9223372036854775807 := by
 obtain ⟨a1, c1, a2, c2, a3, c3, a4, c4, _, h'⟩ := RV.expr h
 obtain ⟨_, _, _, h1, h2⟩ := h'.args.len
 have hml : maxLen = 9223372036854775807 := rfl
 omega
theorem ki : ∀ a b : List UInt8, Lib.compareBytes a b = cmpL cmpB a b
 | [], [] => rfl
 | [], _ :: _ => rfl
 | _ :: _, [] => rfl
 | a :: l, b :: m => by
  unfold Lib.compareBytes cmpL
  rw [ki l m]
  unfold ocmp cmpB cmpI
  simp only [UInt8.lt_iff_toNat_lt]
  by_cases h1 : a.toNat < b.toNat
  ·simp [h1]
  ·by_cases h2 : b.toNat < a.toNat
   ·have : ¬ ((a.toNat : Nat) : Int) = ((b.toNat : Nat) : Int) := by omega
    simp [h1, h2, if_neg this]
   ·have : a.toNat = b.toNat := by omega
    simp [this]
theorem Jvv : ∃ fn, Tryz.prog.funcs[173]? = some fn ∧ (fn.name == "runtime.NumGoroutine") = false ∧ fn.body.isNone = true ∧ Extern.findNext fn = none ∧ Extern.find fn = some Extern.BytealgCompare.compare :=
 ⟨Tryz.f173, Tryz.func173, by kernel_rfl, rfl, by kernel_rfl, by kernel_rfl⟩
theorem St.cmpStr {ρ : Operand → Value} {w : World} {K : Value → World → Prop} {Kp : List PanicEntry → World → Prop} {dst : Option Tmp} {ty : TypeId} {pos : String} {after : Array Edge} {gd : Option (Nat × Bool)} {args : Array Operand} {ts : Array TypeId} {a b : List UInt8}
  (ha : args.toList.map ρ = [str a, str b]) (he : ρ (.func 173) = .func (.func 173) #[] #[]) (h : K (.int .i64 (cmpL cmpB a b)) w) :
  St Tryz.prog ρ ⟨dst, .call { callee := .value (.func 173), args := args, argTypes := ts }, ty, pos, after, gd⟩ w K Kp := by
 obtain ⟨fn, h1, h2, h3, h4, h5⟩ := Jvv
 refine St.of_run (v := .int .i64 (cmpL cmpB a b)) (w' := w) ?_ h
 have ha' : args.map ρ = #[str a, str b] := by apply Array.ext'; simpa using ha
 have hr : (callFunc 173 #[str a, str b]).run Tryz.prog w = .ok (.value (.int .i64 (cmpL cmpB a b))) w := by
  rw [run_callFunc_extern h1 h2 h3 h4 h5]
  unfold str
  rw [Lib.run_compareString]
  rw [← ki]; rfl
 simp [execOp, resolve, Deferred.ofValue, he, invoke, ha', hr]
end Go.Wf
namespace Go.Proofs.YtjiojpmoleilgaaGreatDoor
set_option linter.unusedVariables false
set_option linter.unusedSimpArgs false
open Go Go.Proofs Go.Wf Go.RowKit Go.ChangeShapes Go.WideShapes
set_option maxRecDepth 100000
theorem Jik {α : Type} {p : Nat → α → Prop} : ∀ (k : Nat) (h : ∀ i, i < k → ∃ x, p i x), ∃ l : List α, l.length = k ∧ ∀ i x, l[i]? = some x → p i x
 | 0, _ => ⟨[], rfl, fun i x h => by simp at h⟩
 | k + 1, h => by
  obtain ⟨l, hl, hp⟩ := Jik k fun i hi => h i (by omega)
  obtain ⟨x, hx⟩ := h k (by omega)
  refine ⟨l ++ [x], by simp [hl], fun i y hy => ?_⟩
  rcases Nat.lt_or_ge i l.length with h1 | h1
  ·rw [List.getElem?_append_left h1] at hy; exact hp i y hy
  ·rw [List.getElem?_append_right h1] at hy
   have h2 : i - l.length = 0 := by
    have := (List.getElem?_eq_some_iff.1 hy).1
    simp at this; omega
   rw [h2] at hy
   simp at hy
   subst hy
   rw [show i = k by omega]; exact hx
abbrev NX : Nat → Prop := fun _ => False
section
variable {H : Type} {enc : TypeId × Value → H} {w : World} {base : Nat} {sp : Nat → Bool} {held : Bool}
theorem Jjb {α : Type} {T : Ty α} {P : Program} {t e : TypeId} (ht : P.underlying t = some (.slice e)) (hc : P.cellsOf e = T.sz) {fuel : Nat} {cs : List Value} {y : DataW H × List MemPlace}
  (h : DataW.trod enc P w base sp held fuel t cs = some y) (hel : ∀ n, fuel = n + 1 → ∀ cs y, DataW.trod enc P w base sp held n e cs = some y → ∃ x, T.rd NX w cs x) :
  ∃ v l, cs = [v] ∧ RS T NX w v l := by
 rcases DataW.trod_slice ht h with ⟨rfl, _⟩ | ⟨a, len, cap, elems, rest, n, hn, rfl, _, hb, hl, hm, hlen, hi, _, _⟩
 ·exact ⟨_, [], rfl, RS.nil⟩
 ·obtain ⟨l, hll, hp⟩ := Jik (p := fun i x => ∃ cs', T.rd NX w cs' x ∧ ∀ j, j < T.sz → w.cell? ((a.add (i * T.sz)).add j) = cs'[j]?) len (by
   intro i hil
   have h1 := hi i hil
   rw [List.getElem?_eq_getElem (by omega), hc] at h1
   obtain ⟨cs', h2, h3⟩ := Option.bind_eq_some_iff.1 h1
   obtain ⟨_, _, h4⟩ := World.cells?_some h2
   obtain ⟨x, hx⟩ := hel n hn _ _ h3
   exact ⟨x, cs', hx, h4⟩)
  refine ⟨_, l, rfl, some a, cap, by rw [hll], by omega, hm, ?_⟩
  by_cases h0 : l = []
  ·exact .inl h0
  ·have hpos : 0 < l.length := List.length_pos_iff.2 h0
   have hsp : a.spot = none := by
    obtain ⟨cs', h1, h2⟩ := hp 0 l[0] (List.getElem?_eq_getElem hpos)
    have h3 := h2 0 T.pos
    rw [List.getElem?_eq_getElem (by rw [T.len h1]; exact T.pos)] at h3
    have h4 := World.cell?_spot h3
    simpa [Addr.add] using h4
   obtain ⟨b, o, s⟩ := a
   have hsp : s = none := hsp
   subst hsp
   refine .inr ⟨b, o, rfl, id, fun i x hx => ?_⟩
   obtain ⟨cs', h1, h2⟩ := hp i x hx
   refine ⟨cs', h1, fun j u hu => ?_⟩
   have hj : j < T.sz := by
    have := (List.getElem?_eq_some_iff.1 hu).1
    rwa [T.len h1] at this
   have h3 := h2 j hj
   rw [hu] at h3
   rw [Addr.add_lit, Addr.add_lit] at h3
   exact h3
theorem Joo : Tryz.prog.cellsOf 3 = 1 := by kernel_rfl
theorem Jwe : Tryz.prog.cellsOf 4 = 1 := by kernel_rfl
theorem Jt8 : Tryz.prog.cellsOf 9 = 1 := by kernel_rfl
theorem Jq6 : Tryz.prog.cellsOf 23 = 1 := by kernel_rfl
theorem Jo1 : Tryz.prog.cellsOf 24 = 1 := by kernel_rfl
theorem Jqm : Tryz.prog.cellsOf 29 = 1 := by kernel_rfl
theorem Jjz : Tryz.prog.cellsOf 26 = 2 := by kernel_rfl
theorem Jku : Tryz.prog.cellsOf 28 = 4 := by kernel_rfl
theorem Jj8 : Tryz.prog.cellsOf 31 = 8 := by kernel_rfl
theorem Jlt : Tryz.prog.cellsOf 118 = 1 := by kernel_rfl
theorem und3 : Tryz.prog.underlying 3 = some (.int .i64) := by kernel_rfl
theorem und4 : Tryz.prog.underlying 4 = some .bool := by kernel_rfl
theorem und9 : Tryz.prog.underlying 9 = some .string := by kernel_rfl
theorem Jt6 : Tryz.prog.underlying 118 = some (.int .u32) := by kernel_rfl
theorem und23 : Tryz.prog.underlying 23 = some (.slice 3) := by kernel_rfl
theorem und24 : Tryz.prog.underlying 24 = some (.slice 118) := by kernel_rfl
theorem und29 : Tryz.prog.underlying 29 = some (.slice 31) := by kernel_rfl
theorem Jmq {fuel : Nat} {cs : List Value} {y : DataW H × List MemPlace} (h : DataW.trod enc Tryz.prog w base sp held fuel 23 cs = some y) : ∃ v l, cs = [v] ∧ RS Ke NX w v l := by
 refine Jjb und23 Joo h fun n _ cs y h => ?_
 obtain ⟨z, rfl, _, hw⟩ := DataW.trod_int und3 h
 exact ⟨z, rfl, by simpa [Lit.wf, IntKind.min, IntKind.max, IntKind.signed, IntKind.bits] using hw⟩
theorem Jjh {fuel : Nat} {cs : List Value} {y : DataW H × List MemPlace} (h : DataW.trod enc Tryz.prog w base sp held fuel 24 cs = some y) : ∃ v l, cs = [v] ∧ RS Jb NX w v l := by
 refine Jjb und24 Jlt h fun n _ cs y h => ?_
 obtain ⟨z, rfl, _, hw⟩ := DataW.trod_int Jt6 h
 have hw : 0 ≤ z ∧ z ≤ 4294967295 := by simpa [Lit.wf, IntKind.min, IntKind.max, IntKind.signed, IntKind.bits] using hw
 exact ⟨z.toNat, by rw [show ((z.toNat : Nat) : Int) = z by omega], by omega⟩
theorem Ju0 {l : List Value} (h : l.length = 2) : ∃ a b, l = [a, b] := by
 match l, h with
 | [a, b], _ => exact ⟨a, b, rfl⟩
theorem Jq4 {l : List Value} (h : l.length = 4) : ∃ a b c d, l = [a, b, c, d] := by
 match l, h with
 | [a, b, c, d], _ => exact ⟨a, b, c, d, rfl⟩
theorem Jl8 {l : List Value} (h : l.length = 8) : ∃ a b c d e f g i, l = [a, b, c, d, e, f, g, i] := by
 match l, h with
 | [a, b, c, d, e, f, g, i], _ => exact ⟨a, b, c, d, e, f, g, i, rfl⟩
theorem Jim {fuel : Nat} {cs : List Value} {y : DataW H × List MemPlace} (h : DataW.trod enc Tryz.prog w base sp held fuel 26 cs = some y) : ∃ z, Jv.rd NX w cs z := by
 obtain ⟨xs, n, rfl, _, hlen, hxl, hf⟩ := DataW.trod_struct Tryz.underlying26 h
 rw [Jjz] at hlen
 obtain ⟨a, b, rfl⟩ := Ju0 hlen
 have f0 : DataW.trod enc Tryz.prog w base sp held n 4 ((List.drop 0 [a, b]).take (Tryz.prog.cellsOf 4)) = xs[0]? := hf 0 _ rfl
 have f1 : DataW.trod enc Tryz.prog w base sp held n 24 ((List.drop 1 [a, b]).take (Tryz.prog.cellsOf 24)) = xs[1]? := hf 1 _ rfl
 rw [List.getElem?_eq_getElem (by rw [hxl]; decide)] at f0 f1
 rw [Jwe] at f0
 rw [Jo1] at f1
 obtain ⟨b', e0, _⟩ := DataW.trod_bool und4 f0
 obtain ⟨v, l, e1, h1⟩ := Jjh f1
 cases e0
 cases e1
 exact ⟨⟨b', l⟩, _, rfl, h1⟩
theorem Jr5 {fuel : Nat} {cs : List Value} {y : DataW H × List MemPlace} (h : DataW.trod enc Tryz.prog w base sp held fuel 28 cs = some y) : ∃ z, Yk.rd NX w cs z := by
 obtain ⟨xs, n, rfl, _, hlen, hxl, hf⟩ := DataW.trod_struct Tryz.underlying28 h
 rw [Jku] at hlen
 obtain ⟨a, b, c, d, rfl⟩ := Jq4 hlen
 have f0 : DataW.trod enc Tryz.prog w base sp held n 26 ((List.drop 0 [a, b, c, d]).take (Tryz.prog.cellsOf 26)) = xs[0]? := hf 0 _ rfl
 have f1 : DataW.trod enc Tryz.prog w base sp held n 26 ((List.drop 2 [a, b, c, d]).take (Tryz.prog.cellsOf 26)) = xs[1]? := hf 1 _ rfl
 rw [List.getElem?_eq_getElem (by rw [hxl]; decide)] at f0 f1
 rw [Jjz] at f0 f1
 obtain ⟨z0, s0, e0, h0⟩ := Jim f0
 obtain ⟨z1, s1, e1, h1⟩ := Jim f1
 cases e0
 cases e1
 exact ⟨⟨z0, z1⟩, _, _, rfl, h0, h1⟩
theorem Jlo : ∀ (fuel : Nat) (cs : List Value) (y : DataW H × List MemPlace), DataW.trod enc Tryz.prog w base sp held fuel 31 cs = some y → ∃ e, J0.rd NX w cs e := by
 intro fuel
 induction fuel using Nat.strongRecOn with
 | ind fuel ih =>
 intro cs y h
 obtain ⟨xs, n, rfl, _, hlen, hxl, hf⟩ := DataW.trod_struct Tryz.underlying31 h
 rw [Jj8] at hlen
 obtain ⟨c0, c1, c2, c3, c4, c5, c6, c7, rfl⟩ := Jl8 hlen
 have f0 : DataW.trod enc Tryz.prog w base sp held n 3 ((List.drop 0 [c0, c1, c2, c3, c4, c5, c6, c7]).take (Tryz.prog.cellsOf 3)) = xs[0]? := hf 0 _ rfl
 have f1 : DataW.trod enc Tryz.prog w base sp held n 23 ((List.drop 1 [c0, c1, c2, c3, c4, c5, c6, c7]).take (Tryz.prog.cellsOf 23)) = xs[1]? := hf 1 _ rfl
 have f2 : DataW.trod enc Tryz.prog w base sp held n 28 ((List.drop 2 [c0, c1, c2, c3, c4, c5, c6, c7]).take (Tryz.prog.cellsOf 28)) = xs[2]? := hf 2 _ rfl
 have f3 : DataW.trod enc Tryz.prog w base sp held n 9 ((List.drop 6 [c0, c1, c2, c3, c4, c5, c6, c7]).take (Tryz.prog.cellsOf 9)) = xs[3]? := hf 3 _ rfl
 have f4 : DataW.trod enc Tryz.prog w base sp held n 29 ((List.drop 7 [c0, c1, c2, c3, c4, c5, c6, c7]).take (Tryz.prog.cellsOf 29)) = xs[4]? := hf 4 _ rfl
 rw [List.getElem?_eq_getElem (by rw [hxl]; decide)] at f0 f1 f2 f3 f4
 rw [Joo] at f0
 rw [Jq6] at f1
 rw [Jku] at f2
 rw [Jt8] at f3
 rw [Jqm] at f4
 obtain ⟨op, e0, _, hw⟩ := DataW.trod_int und3 f0
 obtain ⟨v1, ns, e1, h1⟩ := Jmq f1
 obtain ⟨r, s0, s1, e2, h2, h3⟩ := Jr5 f2
 obtain ⟨s, e3, _, hs⟩ := DataW.trod_string und9 f3
 obtain ⟨v4, l, e4, h4⟩ := Jjb (T := J0) und29 Jj8 f4 fun m hm cs y h => ih m (by omega) cs y h
 have hw : -9223372036854775808 ≤ op ∧ op ≤ 9223372036854775807 := by simpa [Lit.wf, IntKind.min, IntKind.max, IntKind.signed, IntKind.bits] using hw
 cases e0
 cases e1
 cases e2
 cases e3
 cases e4
 refine ⟨.mk op ns r s.data.toList l, jg.2 ⟨_, _, _, _, ?_, hw.1, hw.2, ?_, h1, h2, h3, h4⟩⟩
 ·obtain ⟨⟨d⟩⟩ := s; rfl
 ·obtain ⟨⟨d⟩⟩ := s; exact hs
theorem Jj6 {r : Reach} {b0 : Nat} {v : Value} {d : DataW H} {ps : List MemPlace} (hv : Value.okWide Tryz.prog w r b0 31 v) (hd : DataW.Trod enc Tryz.prog w base sp held 31 v d ps) :
  ∃ e, RV J0 NX w v e := by
 obtain ⟨cs, rfl, hcs⟩ := okWide_struct Tryz.underlying31 hv
 obtain ⟨fuel, hf⟩ := hd
 have hc : (Value.agg cs).cells = cs := by rfl
 rw [hc] at hf
 obtain ⟨e, he⟩ := Jlo fuel _ _ hf
 exact ⟨e, cs.toList, by simp, he⟩
end
end Go.Proofs.YtjiojpmoleilgaaGreatDoor
namespace Go.Wf
set_option linter.unusedVariables false
set_option linter.unusedSimpArgs false
open Go Go.Proofs
set_option maxRecDepth 100000
theorem io3 : Zi Tryz.prog 3 = some (.int .i64 0, 1, 8) := by kernel_rfl
theorem pl3 : Yo Tryz.prog 3 = true := by kernel_rfl
theorem pl4 : Yo Tryz.prog 4 = true := by kernel_rfl
theorem pl9 : Yo Tryz.prog 9 = true := by kernel_rfl
theorem pl23 : Yo Tryz.prog 23 = true := by kernel_rfl
theorem pl24 : Yo Tryz.prog 24 = true := by kernel_rfl
theorem io26 : Zi Tryz.prog 26 = some (.agg #[.bool false, .slice none 0 0], 2, 32) := by kernel_rfl
theorem ag26 : jc Tryz.prog 26 2 = true := by kernel_rfl
theorem io28 : Zi Tryz.prog 28 = some (.agg #[.bool false, .slice none 0 0, .bool false, .slice none 0 0], 4, 64) := by kernel_rfl
theorem ag28 : jc Tryz.prog 28 4 = true := by kernel_rfl
theorem pl29 : Yo Tryz.prog 29 = true := by kernel_rfl
theorem io31 : Zi Tryz.prog 31 = some (.agg #[.int .i64 0, .slice none 0 0, .bool false, .slice none 0 0, .bool false, .slice none 0 0, str [], .slice none 0 0], 8, 136) := by kernel_rfl
theorem ag31 : jc Tryz.prog 31 8 = true := by kernel_rfl
theorem Jh : Zi Tryz.prog 118 = some (.int .u32 0, 1, 4) := by kernel_rfl
theorem J9 : Yo Tryz.prog 118 = true := by kernel_rfl
theorem sl23 : Tryz.prog.underlying 23 = some (.slice 3) := by kernel_rfl
theorem sl24 : Tryz.prog.underlying 24 = some (.slice 118) := by kernel_rfl
theorem sl29 : Tryz.prog.underlying 29 = some (.slice 31) := by kernel_rfl
theorem un3 : Tryz.prog.underlying 3 = some (.int .i64) := by kernel_rfl
theorem us3 : (Tryz.prog.underlying 3).isSome = true := by kernel_rfl
theorem un5 : Tryz.prog.underlying 5 = some (.int .u8) := by kernel_rfl
theorem us5 : (Tryz.prog.underlying 5).isSome = true := by kernel_rfl
theorem Yh : Tryz.prog.underlying 118 = some (.int .u32) := by kernel_rfl
theorem Zt : (Tryz.prog.underlying 118).isSome = true := by kernel_rfl
theorem Zw : Tryz.prog.underlying 140 = some (.int .u64) := by kernel_rfl
theorem Yj : (Tryz.prog.underlying 140).isSome = true := by kernel_rfl
theorem Jl2 : Tryz.prog.underlying 110 = some (.int .u64) := by kernel_rfl
theorem un9 : Tryz.prog.underlying 9 = some .string := by kernel_rfl
theorem un4 : Tryz.prog.underlying 4 = some .bool := by kernel_rfl
theorem Zg : Zs Tryz.prog 26 0 = some 0 := by kernel_rfl
theorem J3 : Zs Tryz.prog 26 1 = some 1 := by kernel_rfl
theorem Kt : Zs Tryz.prog 28 0 = some 0 := by kernel_rfl
theorem Ym : Zs Tryz.prog 28 1 = some 2 := by kernel_rfl
theorem Q4 : Zs Tryz.prog 31 0 = some 0 := by kernel_rfl
theorem j4 : Zs Tryz.prog 31 1 = some 1 := by kernel_rfl
theorem jw : Zs Tryz.prog 31 2 = some 2 := by kernel_rfl
theorem yh : Zs Tryz.prog 31 3 = some 6 := by kernel_rfl
theorem Y4 : Zs Tryz.prog 31 4 = some 7 := by kernel_rfl
theorem cb9 : Jd Tryz.prog 9 = true := by kernel_rfl
theorem cb13 : Jd Tryz.prog 13 = true := by kernel_rfl
theorem cb22 : Jd Tryz.prog 22 = true := by kernel_rfl
theorem cb24 : Jd Tryz.prog 24 = true := by kernel_rfl
theorem cb36 : Jd Tryz.prog 36 = true := by kernel_rfl
theorem cb37 : Jd Tryz.prog 37 = true := by kernel_rfl
theorem cb38 : Jd Tryz.prog 38 = true := by kernel_rfl
theorem cb42 : Jd Tryz.prog 42 = true := by kernel_rfl
theorem cb51 : Jd Tryz.prog 51 = true := by kernel_rfl
theorem cb54 : Jd Tryz.prog 54 = true := by kernel_rfl
theorem cb55 : Jd Tryz.prog 55 = true := by kernel_rfl
theorem cb56 : Jd Tryz.prog 56 = true := by kernel_rfl
theorem cb57 : Jd Tryz.prog 57 = true := by kernel_rfl
theorem cb77 : Jd Tryz.prog 77 = true := by kernel_rfl
theorem cb82 : Jd Tryz.prog 82 = true := by kernel_rfl
theorem cb84 : Jd Tryz.prog 84 = true := by kernel_rfl
theorem cb85 : Jd Tryz.prog 85 = true := by kernel_rfl
theorem cb86 : Jd Tryz.prog 86 = true := by kernel_rfl
theorem cb87 : Jd Tryz.prog 87 = true := by kernel_rfl
theorem cb88 : Jd Tryz.prog 88 = true := by kernel_rfl
theorem cb92 : Jd Tryz.prog 92 = true := by kernel_rfl
theorem cb102 : Jd Tryz.prog 102 = true := by kernel_rfl
theorem cb106 : Jd Tryz.prog 106 = true := by kernel_rfl
theorem Jln : Jd Tryz.prog 112 = true := by kernel_rfl
theorem cb113 : Jd Tryz.prog 113 = true := by kernel_rfl
theorem cb114 : Jd Tryz.prog 114 = true := by kernel_rfl
theorem Jq8 : Jd Tryz.prog 115 = true := by kernel_rfl
theorem Jtc : Jd Tryz.prog 116 = true := by kernel_rfl
theorem Jk5 : Jd Tryz.prog 117 = true := by kernel_rfl
theorem qw : Jd Tryz.prog 118 = true := by kernel_rfl
theorem Jlj : Jd Tryz.prog 119 = true := by kernel_rfl
theorem cb121 : Jd Tryz.prog 121 = true := by kernel_rfl
theorem cb122 : Jd Tryz.prog 122 = true := by kernel_rfl
theorem cb123 : Jd Tryz.prog 123 = true := by kernel_rfl
theorem cb124 : Jd Tryz.prog 124 = true := by kernel_rfl
theorem cb125 : Jd Tryz.prog 125 = true := by kernel_rfl
theorem cb135 : Jd Tryz.prog 135 = true := by kernel_rfl
theorem Jne : Jd Tryz.prog 137 = true := by kernel_rfl
theorem cb141 : Jd Tryz.prog 141 = true := by kernel_rfl
theorem Jgh : Jd Tryz.prog 152 = true := by kernel_rfl
theorem Jrw : Jd Tryz.prog 154 = true := by kernel_rfl
theorem Jpq : Jd Tryz.prog 158 = true := by kernel_rfl
theorem Jpr : Jd Tryz.prog 165 = true := by kernel_rfl
theorem Jgu : Jd Tryz.prog 166 = true := by kernel_rfl
theorem ja : Jd Tryz.prog 167 = true := by kernel_rfl
theorem Jqd : Jd Tryz.prog 168 = true := by kernel_rfl
theorem Jrp : Jd Tryz.prog 169 = true := by kernel_rfl
theorem Jb0 : Jd Tryz.prog 170 = true := by kernel_rfl
theorem Jnd : Jd Tryz.prog 171 = true := by kernel_rfl
theorem Jwm : Jd Tryz.prog 172 = true := by kernel_rfl
theorem Jte : Jd Tryz.prog 174 = true := by kernel_rfl
theorem Jpp : Jd Tryz.prog 175 = true := by kernel_rfl
theorem Ju7 : Jd Tryz.prog 182 = true := by kernel_rfl
theorem Jus : Jd Tryz.prog 183 = true := by kernel_rfl
theorem Jle : Jd Tryz.prog 184 = true := by kernel_rfl
theorem Jrh : Jd Tryz.prog 186 = true := by kernel_rfl
theorem Jg6 : Jd Tryz.prog 187 = true := by kernel_rfl
theorem Qj : Jd Tryz.prog 205 = true := by kernel_rfl
theorem cb206 : Jd Tryz.prog 206 = true := by kernel_rfl
theorem Va : Jd Tryz.prog 208 = true := by kernel_rfl
theorem Jk3 : Jd Tryz.prog 209 = true := by kernel_rfl
theorem Jd2 : Jd Tryz.prog 211 = true := by kernel_rfl
theorem cb215 : Jd Tryz.prog 215 = true := by kernel_rfl
theorem Jvx : Jd Tryz.prog 216 = true := by kernel_rfl
theorem cb217 : Jd Tryz.prog 217 = true := by kernel_rfl
theorem Jsk : Jd Tryz.prog 218 = true := by kernel_rfl
theorem Jm6 : Jd Tryz.prog 219 = true := by kernel_rfl
theorem cb221 : Jd Tryz.prog 221 = true := by kernel_rfl
theorem cb222 : Jd Tryz.prog 222 = true := by kernel_rfl
theorem cb225 : Jd Tryz.prog 225 = true := by kernel_rfl
theorem cb226 : Jd Tryz.prog 226 = true := by kernel_rfl
theorem cb235 : Jd Tryz.prog 235 = true := by kernel_rfl
theorem Jl0 : Jd Tryz.prog 239 = true := by kernel_rfl
theorem Jvn : Jd Tryz.prog 240 = true := by kernel_rfl
theorem Jl5 : Jd Tryz.prog 241 = true := by kernel_rfl
theorem Jsi : Jd Tryz.prog 242 = true := by kernel_rfl
theorem Jww : Jd Tryz.prog 243 = true := by kernel_rfl
theorem Jqp : Jd Tryz.prog 244 = true := by kernel_rfl
theorem Ju8 : Jd Tryz.prog 246 = true := by kernel_rfl
theorem cb253 : Jd Tryz.prog 253 = true := by kernel_rfl
theorem Jv4 : Jd Tryz.prog 254 = true := by kernel_rfl
theorem cb255 : Jd Tryz.prog 255 = true := by kernel_rfl
theorem cb256 : Jd Tryz.prog 256 = true := by kernel_rfl
theorem Jht : Jd Tryz.prog 257 = true := by kernel_rfl
theorem Jlm : Jd Tryz.prog 258 = true := by kernel_rfl
theorem cb260 : Jd Tryz.prog 260 = true := by kernel_rfl
theorem Zc : Tryz.prog.follows .mixedOrders = true := by kernel_rfl
end Go.Wf
namespace Go.Wf
open Go Go.Proofs Go.RowKit
set_option maxRecDepth 100000
set_option linter.unusedVariables false
set_option linter.unusedSimpArgs false
set_option maxHeartbeats 1000000 in
theorem Jva {X : Nat → Prop} {w : World} (hX : ∀ b, X b → b < w.heap.size) {n : Int}  : Calls Tryz.prog 260 #[(.int .i64 n)] w (Ret w fun v w' => v = (.int .i64 ((n).sign))) := by
 have C := Cx.start hX
 refine Calls.ofW (args := [(.int .i64 n)]) Tryz.func260 rfl rfl (Nat.le_of_ble_eq_true rfl) (Rg (Oa (Nl (W.seq (W.block (Rg (Om (O rfl (St.lss2 rfl rfl (fun hc1 => ?_) (fun hc1 => ?_))))))))))
 ·exact Oa (Nl (W.condT rfl (Rg (Oa (Nl (W.ret (Jf rfl (resV.t rfl) (Ret.intro (congrArg (Value.int _) (by rw [Int.sign_eq_neg_one_of_neg (by omega)])) C.below))))))))
 refine Oa (Nl (W.condF rfl (Rg (Om (O rfl (St.gtr2 rfl rfl (fun hc2 => ?_) (fun hc2 => ?_)))))))
 ·exact Oa (Nl (W.condT rfl (Rg (Oa (Nl (W.ret (Jf rfl (resV.t rfl) (Ret.intro (congrArg (Value.int _) (by rw [Int.sign_eq_one_of_pos (by omega)])) C.below))))))))
 exact Oa (Nl (W.condF rfl (W.skip (Rg (Oa (Nl (W.ret (Jf rfl (resV.t rfl) (Ret.intro (congrArg (Value.int _) (by rw [show n = 0 by omega]; rfl)) C.below)))))))))
set_option maxHeartbeats 1000000 in
theorem Zf {X : Nat → Prop} {w : World} (hX : ∀ b, X b → b < w.heap.size) {v0 : Value} {m : List Nat} (r0 : RS Jb X w v0 m) (hm : m.length ≤ 1099511627776) : Calls Tryz.prog 205 #[v0] w (Ret w fun v w' => RS Jb X w' v (trim m)) := by
 obtain ⟨a1, c2, rfl, _, _⟩ := r0.len
 have C := Cx.start hX
 refine Calls.ofW (args := [(.slice a1 m.length c2)]) Tryz.func205 rfl rfl (Nat.le_of_ble_eq_true rfl) (Rg (Oa (Nl (W.seq (W.block (W.loopN (fun μ f v => ∃ (x y : Nat → Prop) (j : Nat), Cx X w x y v ∧ f 2 = (.slice none 0 0) ∧ f 0 = (.slice a1 j c2) ∧ RS Jb x v (.slice a1 j c2) (m.take j) ∧ j ≤ m.length ∧ trim (m.take j) = trim m ∧ μ = j) _ ⟨_, _, m.length, C, rfl, rfl, (by rw [List.take_length]; exact r0), (Nat.le_refl _), (by rw [List.take_length]), rfl⟩ ?_))))))
 rintro m11 f3 w4 ⟨x5, y6, j, C7, e8, e9, hj, hjl, htr, hmu10⟩
 obtain ⟨f12, rfl⟩ := rebK (aC e8 (aC e9 aN))
 clear e8 e9
 refine Rh (Om (O rfl (St.len sl24 rfl (O rfl (St.gtr2 rfl rfl (fun hc13 => ?_) (fun hc13 => ?_))))))
 ·refine Om (Og rfl rfl (St.move (Og rfl rfl (St.move (Og rfl rfl (St.len sl24 rfl (Og rfl rfl (St.sub (z := (((j : Nat) : Int) - 1)) rfl rfl (IntWalk.i64_in _ (by omega)) (Og rfl rfl (St.idx (j := (j - 1)) (u := (m.getD (j - 1) 0)) hj sl24 Jh rfl rfl (by omega) (Jsw hjl (by omega)) ?_))))))))))
  intro b14 o15 cs16 e17
  obtain ⟨rfl, bd18⟩ : cs16 = _ ∧ _ := e17.rd
  refine Og rfl rfl (St.load1 J9 rfl (e17.cell 0 _ rfl) (Og rfl rfl (St.eql2 rfl rfl (fun hc19 => ?_) (fun hc19 => ?_))))
  ·refine OT (Nl (W.condT rfl (W.skip (W.block (W.region (Om (Om (O rfl (St.len sl24 rfl (O rfl (St.sub (z := (((j : Nat) : Int) - 1)) rfl rfl (IntWalk.i64_in _ (by omega)) (O rfl (St.slr (j := (j - 1)) hj sl24 Jh rfl rfl (by omega) (by rw [List.length_take]; omega) ?_)))))))))))))
   intro h20
   refine Oa (Nl (⟨_, (by omega), _, _, (j - 1), C7, rfl, rfl, (by rw [List.take_take, Nat.min_eq_left (by omega)] at h20; exact h20), (by omega), (Ja2 hjl hc13 hc19 htr), rfl⟩))
  exact OT (Nl (W.condF rfl (W.exit (Rg (Om (Oa (Nl (W.ret (Jf rfl (resV.t rfl) (Ret.intro (RS.eqv ((hj : RS _ _ _ _ _).tr (Tr.weak C7.base)) ((Jax hjl hc13 hc19 htr))) C7.below))))))))))
 exact Om (Ox rfl rfl rfl (Ox rfl rfl rfl (Ox rfl rfl rfl (Ox rfl rfl rfl (Ox rfl rfl rfl (Ox rfl rfl rfl (Ox rfl rfl rfl (OF (Nl (W.condF rfl (W.exit (Rg (Om (Oa (Nl (W.ret (Jf rfl (resV.t rfl) (Ret.intro (RS.eqv ((hj : RS _ _ _ _ _).tr (Tr.weak C7.base)) ((Jen hjl hc13 htr))) C7.below))))))))))))))))))
set_option maxHeartbeats 1000000 in
theorem Z8 {X : Nat → Prop} {w : World} (hX : ∀ b, X b → b < w.heap.size) {b : Bool} {v1 : Value} {m : List Nat} (r1 : RS Jb X w v1 m) (hm : m.length ≤ 1099511627776) : Calls Tryz.prog 208 #[(.bool b), v1] w (Ret w fun v w' => RV Jv X w' v (mkSg b m)) := by
 obtain ⟨a1, c2, rfl, _, _⟩ := r1.len
 have C := Cx.start hX
 cases b
 ·refine Calls.ofW (args := [(.bool false), (.slice a1 m.length c2)]) Tryz.func208 rfl rfl (Nat.le_of_ble_eq_true rfl) (Rg (O rfl (St.allocC C io26 rfl ?_)))
  intro g3 w4 x5 y6 lt7 C8 s9 o10
  replace r1 := r1.sp s9
  refine Nl (Rg (Om (O rfl (St.callR C8 Qj rfl rfl (Zf C8.bd r1 (by omega)) ?_))))
  intro v11 w12 C13 s14 h15
  replace o10 := o10.spn s14
  obtain ⟨a16, c17, rfl, _, _⟩ := h15.len
  refine Oa (Nl (Rg (Om (Om (Ox rfl rfl rfl (Ox rfl rfl rfl (Ox rfl rfl rfl (OF (Om (O rfl (St.build (cs := [(.bool false), (.slice a16 (trim m).length c17)]) rfl (by kernel_rfl) (On (St.storeC (cs' := [(.bool false), (.slice a16 (trim m).length c17)]) C13 o10 io26 rfl rfl rfl rfl rfl rfl ?_)))))))))))))
  intro w18 C19 s20 o21
  replace h15 := h15.sp s20
  refine Nl (W.ret (Jf rfl (resV.c o21 rfl ag26 rfl) (Ret.intro ?_ C19.below)))
  exact RV.eqv (a := (⟨false, (trim m)⟩ : GInt)) ((Jj h15).tr (Tr.weak C19.base)) (by simp [mkSg])
 refine Calls.ofW (args := [(.bool true), (.slice a1 m.length c2)]) Tryz.func208 rfl rfl (Nat.le_of_ble_eq_true rfl) (Rg (O rfl (St.allocC C io26 rfl ?_)))
 intro g22 w23 x24 y25 lt26 C27 s28 o29
 replace r1 := r1.sp s28
 refine Nl (Rg (Om (O rfl (St.callR C27 Qj rfl rfl (Zf C27.bd r1 (by omega)) ?_))))
 intro v30 w31 C32 s33 h34
 replace o29 := o29.spn s33
 obtain ⟨a35, c36, rfl, _, _⟩ := h34.len
 refine Oa (Nl (Rg (Om (Om (Og rfl rfl (St.move (Og rfl rfl (St.len sl24 rfl (Og rfl rfl (St.gtr rfl rfl rfl (OT (Om (O rfl (St.build (cs := [(.bool (decide (0 < (((trim m).length : Nat) : Int)))), (.slice a35 (trim m).length c36)]) rfl (by kernel_rfl) (On (St.storeC (cs' := [(.bool (decide (0 < (((trim m).length : Nat) : Int)))), (.slice a35 (trim m).length c36)]) C32 o29 io26 rfl rfl rfl rfl rfl rfl ?_))))))))))))))))
 intro w37 C38 s39 o40
 replace h34 := h34.sp s39
 refine Nl (W.ret (Jf rfl (resV.c o40 rfl ag26 rfl) (Ret.intro ?_ C38.below)))
 exact RV.eqv (a := (⟨(decide (0 < (((trim m).length : Nat) : Int))), (trim m)⟩ : GInt)) ((Jj h34).tr (Tr.weak C38.base)) (by simp [mkSg])
set_option maxHeartbeats 1000000 in
theorem zp {X : Nat → Prop} {w : World} (hX : ∀ b, X b → b < w.heap.size) {v0 : Value} {m : List Nat} (r0 : RS Jb X w v0 m) (hm : m.length ≤ 1099511627776) : Calls Tryz.prog 209 #[v0] w (Ret w fun v w' => RS Jb X w' v m) := by
 obtain ⟨a1, c2, rfl, _, _⟩ := r0.len
 have C := Cx.start hX
 refine Calls.ofW (args := [(.slice a1 m.length c2)]) Tryz.func209 rfl rfl (Nat.le_of_ble_eq_true rfl) (Rg (Oa (Nl (Rh (Om (O rfl (St.eqlNil sl24 r0 rfl rfl (fun hc3 => ?_) ?_)))))))
 ·exact Nl (W.condT rfl (Rg (Oa (Nl (W.ret (Jf rfl (resV.t rfl) (Ret.intro (RS.eqv ((RS.nil : RS _ _ _ _ _).tr (Tr.weak C.base)) (hc3.symm)) C.below)))))))
 refine Nl (W.condF rfl (W.skip (Rg (O rfl (St.bs0 (T := Jb) C sl24 Jh ?_)))))
 intro g8 w4 x9 C5 s6 u10 h7
 replace r0 := r0.sp s6
 refine Om (O rfl (St.appendC (T := Jb) C5 sl24 Jh rfl rfl h7 (V8 r0) (by simp only [List.length_nil, maxLen]; omega) (by simp only [List.length_nil]; omega) rfl ?_))
 intro v11 w12 x13 C14 s15 u16 h17
 rw [List.nil_append] at h17
 obtain ⟨a18, c19, rfl, _, _⟩ := h17.len
 exact Oa (Nl (W.ret (Jf rfl (resV.t rfl) (Ret.intro (RS.eqv (h17.toRS C14 hX) (rfl)) C14.below))))
set_option maxHeartbeats 1000000 in
theorem yb {X : Nat → Prop} {w : World} (hX : ∀ b, X b → b < w.heap.size) {n : Nat} (hn : n < 18446744073709551616) : Calls Tryz.prog 211 #[(.int .u64 ((n : Nat) : Int))] w (Ret w fun v w' => RS Jb X w' v (digs n)) := by
 have C := Cx.start hX
 refine Calls.ofW (args := [(.int .u64 ((n : Nat) : Int))]) Tryz.func211 rfl rfl (Nat.le_of_ble_eq_true rfl) (Rg (Oa (Nl (W.seq (W.block (Rg (Om (O rfl (St.eql2 rfl rfl (fun hc1 => ?_) (fun hc1 => ?_))))))))))
 ·exact Oa (Nl (W.condT rfl (Rg (Oa (Nl (W.ret (Jf rfl (resV.t rfl) (Ret.intro (RS.eqv ((RS.nil : RS _ _ _ _ _).tr (Tr.weak C.base)) (by rw [show n = 0 by omega]; rfl)) C.below))))))))
 refine Oa (Nl (W.condF rfl (Rg (Om (O rfl (St.lss2 rfl rfl (fun hc2 => ?_) (fun hc2 => ?_)))))))
 ·refine Oa (Nl (W.condT rfl (Rg (Om (O rfl (St.conv (z := ((n % 4294967296 : Nat) : Int)) Yj Yh rfl (Jm _) (O rfl (St.bsPub (T := Jb) (css := [[(.int .u32 ((n % 4294967296 : Nat) : Int))]]) (l := [n % 4294967296]) C sl24 Jh (by decide) (by decide) rfl (by kernel_rfl) ⟨⟨rfl, (by omega)⟩, trivial⟩ ?_))))))))
  intro g7 w3 C4 s5 h6
  exact Oa (Nl (W.ret (Jf rfl (resV.t rfl) (Ret.intro (RS.eqv ((h6 : RS _ _ _ _ _).tr (Tr.weak C4.base)) (by rw [Jaa (by omega) (by omega)]; congr 1; omega)) C4.below))))
 refine Oa (Nl (W.condF rfl (W.skip (Rg (Om (O rfl (St.conv (z := ((n % 4294967296 : Nat) : Int)) Yj Yh rfl (Jm _) (Om (O rfl (St.shr rfl rfl (by decide) (Yi (d := 4294967296) _ (by decide)) (O rfl (St.conv (z := (((n / 4294967296) % 4294967296 : Nat) : Int)) Yj Yh rfl (Jm _) ?_))))))))))))
 refine O rfl (St.bsPub (T := Jb) (css := [[(.int .u32 ((n % 4294967296 : Nat) : Int))], [(.int .u32 (((n / 4294967296) % 4294967296 : Nat) : Int))]]) (l := [n % 4294967296, (n / 4294967296) % 4294967296]) C sl24 Jh (by decide) (by decide) rfl (by kernel_rfl) ⟨⟨rfl, (by omega)⟩, ⟨rfl, (by omega)⟩, trivial⟩ ?_)
 intro g14 w10 C11 s12 h13
 exact Oa (Nl (W.ret (Jf rfl (resV.t rfl) (Ret.intro (RS.eqv ((h13 : RS _ _ _ _ _).tr (Tr.weak C11.base)) (by rw [Jm3 (by omega) (by omega)]; congr 2; omega)) C11.below))))
set_option maxHeartbeats 1000000 in
theorem Jeh {X : Nat → Prop} {w : World} (hX : ∀ b, X b → b < w.heap.size) {v0 : Value} {m : List Nat} (r0 : RS Jb X w v0 m) (hm : m.length ≤ 2) : Calls Tryz.prog 241 #[v0] w (Ret w fun v w' => v = (.int .u64 (((val m) : Nat) : Int))) := by
 obtain ⟨a1, c2, rfl, _, _⟩ := r0.len
 have C := Cx.start hX
 have hs := r0.u32_small
 have hs0 := Jg hs 0
 have hs1 := Jg hs 1
 refine Calls.ofW (args := [(.slice a1 m.length c2)]) Tryz.func241 rfl rfl (Nat.le_of_ble_eq_true rfl) (Rg (Oa (Nl (Rh (Om (O rfl (St.len sl24 rfl (Nl (W.block (Rg (O rfl (St.eql2 rfl rfl (fun hc3 => ?_) (fun hc3 => ?_)))))))))))))
 ·exact Oa (Nl (W.condT rfl (Rg (Oa (Nl (W.ret (Jf rfl (resV.t rfl) (Ret.intro (congrArg (Value.int _) (Jtq (by omega))) C.below))))))))
 refine Oa (Nl (W.condF rfl (Rg (O rfl (St.eql2 rfl rfl (fun hc4 => ?_) (fun hc4 => ?_))))))
 ·refine Oa (Nl (W.condT rfl (Rg (Om (O rfl (St.idx (j := 0) (u := (m.getD 0 0)) r0 sl24 Jh rfl rfl rfl (Jl (by omega)) ?_))))))
  intro b5 o6 cs7 e8
  obtain ⟨rfl, bd9⟩ : cs7 = _ ∧ _ := e8.rd
  exact O rfl (St.load1 J9 rfl (e8.cell 0 _ rfl) (O rfl (St.conv (z := (((m.getD 0 0) : Nat) : Int)) Zt Zw rfl (IntWalk.u64_in _ (by omega)) (Oa (Nl (W.ret (Jf rfl (resV.t rfl) (Ret.intro (congrArg (Value.int _) (Js1 (by omega))) C.below))))))))
 refine Oa (Nl (W.condF rfl (W.skip (W.seq (W.drawC Zc 9 [[], [0], [1], [2], [3], [], [5], [6], [7]] C [fx (.slice a1 m.length c2), fE Jb (m.getD 1 0), fx (.int .u32 (((m.getD 1 0) : Nat) : Int)), fx (.int .u64 (((m.getD 1 0) : Nat) : Int)), fx (.int .u64 ((m.getD 1 0 * 4294967296 : Nat) : Int)), fx (.slice a1 m.length c2), fE Jb (m.getD 0 0), fx (.int .u32 (((m.getD 0 0) : Nat) : Int)), fx (.int .u64 (((m.getD 0 0) : Nat) : Int))] (by kernel_rfl) ⟨sx, sE, sx, sx, sx, sx, sE, sx, sx, trivial⟩ fun f21 s22 w23 ⟨C26, S27⟩ k25 => ?_)))))
 replace r0 := r0.sp S27
 have k25 : Keep [13, 14, 15, 16, 17, 18, 19, 20, 21] _ f21 := k25
 refine ⟨⟨fun _ => ?_, fun ⟨e28, _⟩ => ?_, fun ⟨d29, _⟩ => ?_, fun ⟨e30, _⟩ => ?_, fun ⟨e31, _⟩ => ?_, fun _ => ?_, fun ⟨e32, _⟩ => ?_, fun ⟨d33, _⟩ => ?_, fun ⟨e34, _⟩ => ?_, trivial⟩, fun ⟨e35, d36, e37, e38, e39, e40, d41, e42, e43, _⟩ => ?_⟩
 ·exact Ja k25 aN fun _ => OpSt.op (St.move ⟨s22, RC.same C26, rfl⟩)
 ·refine Ja k25 (aC e28 aN) fun _ => OpSt.op (St.idx (j := 1) (u := (m.getD 1 0)) r0 sl24 Jh rfl rfl rfl (Jl (by omega)) ?_)
  intro b44 o45 cs46 e47
  obtain ⟨rfl, bd48⟩ : cs46 = _ ∧ _ := e47.rd
  exact ⟨s22, RC.same C26, ⟨_, _, _, rfl, e47⟩⟩
 ·obtain ⟨b50, o51, cs52, e49, e53⟩ := d29
  obtain ⟨rfl, bd54⟩ : cs52 = _ ∧ _ := e53.rd
  exact Ja k25 (aC e49 aN) fun _ => OpSt.op (St.load1 J9 rfl (e53.cell 0 _ rfl) ⟨s22, RC.same C26, rfl⟩)
 ·exact Ja k25 (aC e30 aN) fun _ => OpSt.op (St.conv (z := (((m.getD 1 0) : Nat) : Int)) Zt Zw rfl (IntWalk.u64_in _ (by omega)) ⟨s22, RC.same C26, rfl⟩)
 ·exact Ja k25 (aC e31 aN) fun _ => OpSt.op (St.shl (z := ((m.getD 1 0 * 4294967296 : Nat) : Int)) rfl rfl (by decide) (ky (Jg hs 1)) ⟨s22, RC.same C26, rfl⟩)
 ·exact Ja k25 aN fun _ => OpSt.op (St.move ⟨s22, RC.same C26, rfl⟩)
 ·refine Ja k25 (aC e32 aN) fun _ => OpSt.op (St.idx (j := 0) (u := (m.getD 0 0)) r0 sl24 Jh rfl rfl rfl (Jl (by omega)) ?_)
  intro b55 o56 cs57 e58
  obtain ⟨rfl, bd59⟩ : cs57 = _ ∧ _ := e58.rd
  exact ⟨s22, RC.same C26, ⟨_, _, _, rfl, e58⟩⟩
 ·obtain ⟨b61, o62, cs63, e60, e64⟩ := d33
  obtain ⟨rfl, bd65⟩ : cs63 = _ ∧ _ := e64.rd
  exact Ja k25 (aC e60 aN) fun _ => OpSt.op (St.load1 J9 rfl (e64.cell 0 _ rfl) ⟨s22, RC.same C26, rfl⟩)
 ·exact Ja k25 (aC e34 aN) fun _ => OpSt.op (St.conv (z := (((m.getD 0 0) : Nat) : Int)) Zt Zw rfl (IntWalk.u64_in _ (by omega)) ⟨s22, RC.same C26, rfl⟩)
 obtain ⟨b67, o68, cs69, e66, e70⟩ := d36
 obtain ⟨rfl, bd71⟩ : cs69 = _ ∧ _ := e70.rd
 obtain ⟨b73, o74, cs75, e72, e76⟩ := d41
 obtain ⟨rfl, bd77⟩ : cs75 = _ ∧ _ := e76.rd
 obtain ⟨f78, rfl⟩ := mixK k25 (aC e35 (aC e66 (aC e37 (aC e38 (aC e39 (aC e40 (aC e72 (aC e42 (aC e43 aN)))))))))
 exact O rfl (St.or (z := ((m.getD 1 0 * 4294967296 + m.getD 0 0 : Nat) : Int)) rfl rfl (k5 (Jg hs 1) (Jg hs 0)) (Oa (Nl (W.ret (Jf rfl (resV.t rfl) (Ret.intro (congrArg (Value.int _) (Jtj (by omega))) C26.below))))))
set_option maxHeartbeats 1000000 in
theorem Jcm {X : Nat → Prop} {w : World} (hX : ∀ b, X b → b < w.heap.size) {v0 : Value} {a : List Nat} (r0 : RS Jb X w v0 a) {v1 : Value} {b : List Nat} (r1 : RS Jb X w v1 b) (ha : trim a = a) (hb : trim b = b) (hla : a.length ≤ 1099511627776) (hlb : b.length ≤ 1099511627776) : Calls Tryz.prog 246 #[v0, v1] w (Ret w fun v w' => v = (.int .i64 (cmpN (val a) (val b)))) := by
 obtain ⟨a1, c2, rfl, _, _⟩ := r0.len
 obtain ⟨a3, c4, rfl, _, _⟩ := r1.len
 have C := Cx.start hX
 have sa := r0.u32_small
 have sb := r1.u32_small
 refine Calls.ofW (args := [(.slice a1 a.length c2), (.slice a3 b.length c4)]) Tryz.func246 rfl rfl (Nat.le_of_ble_eq_true rfl) (Rg (Oa (Nl (Rh (Om (O rfl (St.len sl24 rfl (Om (O rfl (St.len sl24 rfl (O rfl (St.neq2 rfl rfl (fun hc5 => ?_) (fun hc5 => ?_)))))))))))))
 ·refine Nl (W.condT rfl (Rg (Om (O rfl (St.len sl24 rfl (Om (O rfl (St.len sl24 rfl (O rfl (St.sub (z := (((a.length : Nat) : Int) - ((b.length : Nat) : Int))) rfl rfl (IntWalk.i64_in _ (by omega)) (O rfl (St.callR C cb260 rfl rfl (Jva C.bd) ?_))))))))))))
  intro v6 w7 C8 s9 h10
  subst h10
  exact Oa (Nl (W.ret (Jf rfl (resV.t rfl) (Ret.intro (congrArg (Value.int _) ((Jr8 ha hb sa sb (by omega)))) C8.below))))
 refine Nl (W.condF rfl (W.skip (Rh (Om (O rfl (St.len sl24 rfl (O rfl (St.sub (z := (((a.length : Nat) : Int) - 1)) rfl rfl (IntWalk.i64_in _ (by omega)) (Oa (Nl (W.block (W.loopN (fun μ f v => ∃ (x y : Nat → Prop) (j : Nat), Cx X w x y v ∧ f 0 = (.slice a1 a.length c2) ∧ f 1 = (.slice a3 b.length c4) ∧ f 5 = (.int .i64 ((j : Int) - 1)) ∧ RS Jb x v (.slice a1 a.length c2) a ∧ RS Jb x v (.slice a3 b.length c4) b ∧ j ≤ a.length ∧ a.drop j = b.drop j ∧ μ = j) _ ⟨_, _, a.length, C, rfl, rfl, rfl, r0, r1, (Nat.le_refl _), (by rw [List.drop_of_length_le (Nat.le_refl _), List.drop_of_length_le (by omega)]), rfl⟩ ?_))))))))))))
 rintro m20 f11 w12 ⟨x13, y14, j, C15, e16, e17, e18, r0, r1, hj, heq, hmu19⟩
 obtain ⟨f21, rfl⟩ := rebK (aC e16 (aC e17 (aC e18 aN)))
 clear e16 e17 e18
 refine Rh (Om (O rfl (St.geq2 rfl rfl (fun hc22 => ?_) (fun hc22 => ?_))))
 ·refine Nl (W.condT rfl (W.skip (W.seq (W.block (W.seq (W.drawC Zc 8 [[], [], [0, 1], [2], [], [], [4, 5], [6]] C15 [fx (.slice a1 a.length c2), fx (.int .i64 ((j : Int) - 1)), fE Jb (a.getD (j - 1) 0), fx (.int .u32 (((a.getD (j - 1) 0) : Nat) : Int)), fx (.slice a3 b.length c4), fx (.int .i64 ((j : Int) - 1)), fE Jb (b.getD (j - 1) 0), fx (.int .u32 (((b.getD (j - 1) 0) : Nat) : Int))] (by kernel_rfl) ⟨sx, sx, sE, sx, sx, sx, sE, sx, trivial⟩ fun f34 s35 w36 ⟨C39, S40⟩ k38 => ?_))))))
  replace r0 := r0.sp S40
  replace r1 := r1.sp S40
  have k38 : Keep [24, 25, 26, 27, 28, 29, 30, 31] _ f34 := k38
  refine ⟨⟨fun _ => ?_, fun _ => ?_, fun ⟨e41, e42, _⟩ => ?_, fun ⟨d43, _⟩ => ?_, fun _ => ?_, fun _ => ?_, fun ⟨e44, e45, _⟩ => ?_, fun ⟨d46, _⟩ => ?_, trivial⟩, fun ⟨e47, e48, d49, e50, e51, e52, d53, e54, _⟩ => ?_⟩
  ·exact Ja k38 aN fun _ => OpSt.op (St.move ⟨s35, RC.same C39, rfl⟩)
  ·exact Ja k38 aN fun _ => OpSt.op (St.move ⟨s35, RC.same C39, rfl⟩)
  ·refine Ja k38 (aC e41 (aC e42 aN)) fun _ => OpSt.op (St.idx (j := (j - 1)) (u := (a.getD (j - 1) 0)) r0 sl24 Jh rfl rfl (by omega) (Jl (by omega)) ?_)
   intro b55 o56 cs57 e58
   obtain ⟨rfl, bd59⟩ : cs57 = _ ∧ _ := e58.rd
   exact ⟨s35, RC.same C39, ⟨_, _, _, rfl, e58⟩⟩
  ·obtain ⟨b61, o62, cs63, e60, e64⟩ := d43
   obtain ⟨rfl, bd65⟩ : cs63 = _ ∧ _ := e64.rd
   exact Ja k38 (aC e60 aN) fun _ => OpSt.op (St.load1 J9 rfl (e64.cell 0 _ rfl) ⟨s35, RC.same C39, rfl⟩)
  ·exact Ja k38 aN fun _ => OpSt.op (St.move ⟨s35, RC.same C39, rfl⟩)
  ·exact Ja k38 aN fun _ => OpSt.op (St.move ⟨s35, RC.same C39, rfl⟩)
  ·refine Ja k38 (aC e44 (aC e45 aN)) fun _ => OpSt.op (St.idx (j := (j - 1)) (u := (b.getD (j - 1) 0)) r1 sl24 Jh rfl rfl (by omega) (Jl (by omega)) ?_)
   intro b66 o67 cs68 e69
   obtain ⟨rfl, bd70⟩ : cs68 = _ ∧ _ := e69.rd
   exact ⟨s35, RC.same C39, ⟨_, _, _, rfl, e69⟩⟩
  ·obtain ⟨b72, o73, cs74, e71, e75⟩ := d46
   obtain ⟨rfl, bd76⟩ : cs74 = _ ∧ _ := e75.rd
   exact Ja k38 (aC e71 aN) fun _ => OpSt.op (St.load1 J9 rfl (e75.cell 0 _ rfl) ⟨s35, RC.same C39, rfl⟩)
  obtain ⟨b78, o79, cs80, e77, e81⟩ := d49
  obtain ⟨rfl, bd82⟩ : cs80 = _ ∧ _ := e81.rd
  obtain ⟨b84, o85, cs86, e83, e87⟩ := d53
  obtain ⟨rfl, bd88⟩ : cs86 = _ ∧ _ := e87.rd
  obtain ⟨f89, rfl⟩ := mixK k38 (aC e47 (aC e48 (aC e77 (aC e50 (aC e51 (aC e52 (aC e83 (aC e54 aN))))))))
  refine O rfl (St.neq2 rfl rfl (fun hc90 => ?_) (fun hc90 => ?_))
  ·refine Nl (W.condT rfl (W.seq (W.seq (W.drawC Zc 8 [[], [], [0, 1], [2], [], [], [4, 5], [6]] C39 [fx (.slice a1 a.length c2), fx (.int .i64 ((j : Int) - 1)), fE Jb (a.getD (j - 1) 0), fx (.int .u32 (((a.getD (j - 1) 0) : Nat) : Int)), fx (.slice a3 b.length c4), fx (.int .i64 ((j : Int) - 1)), fE Jb (b.getD (j - 1) 0), fx (.int .u32 (((b.getD (j - 1) 0) : Nat) : Int))] (by kernel_rfl) ⟨sx, sx, sE, sx, sx, sx, sE, sx, trivial⟩ fun f102 s103 w104 ⟨C107, S108⟩ k106 => ?_))))
   replace r0 := r0.sp S108
   replace r1 := r1.sp S108
   have k106 : Keep [33, 34, 35, 36, 37, 38, 39, 40] _ f102 := k106
   refine ⟨⟨fun _ => ?_, fun _ => ?_, fun ⟨e109, e110, _⟩ => ?_, fun ⟨d111, _⟩ => ?_, fun _ => ?_, fun _ => ?_, fun ⟨e112, e113, _⟩ => ?_, fun ⟨d114, _⟩ => ?_, trivial⟩, fun ⟨e115, e116, d117, e118, e119, e120, d121, e122, _⟩ => ?_⟩
   ·exact Ja k106 aN fun _ => OpSt.op (St.move ⟨s103, RC.same C107, rfl⟩)
   ·exact Ja k106 aN fun _ => OpSt.op (St.move ⟨s103, RC.same C107, rfl⟩)
   ·refine Ja k106 (aC e109 (aC e110 aN)) fun _ => OpSt.op (St.idx (j := (j - 1)) (u := (a.getD (j - 1) 0)) r0 sl24 Jh rfl rfl (by omega) (Jl (by omega)) ?_)
    intro b123 o124 cs125 e126
    obtain ⟨rfl, bd127⟩ : cs125 = _ ∧ _ := e126.rd
    exact ⟨s103, RC.same C107, ⟨_, _, _, rfl, e126⟩⟩
   ·obtain ⟨b129, o130, cs131, e128, e132⟩ := d111
    obtain ⟨rfl, bd133⟩ : cs131 = _ ∧ _ := e132.rd
    exact Ja k106 (aC e128 aN) fun _ => OpSt.op (St.load1 J9 rfl (e132.cell 0 _ rfl) ⟨s103, RC.same C107, rfl⟩)
   ·exact Ja k106 aN fun _ => OpSt.op (St.move ⟨s103, RC.same C107, rfl⟩)
   ·exact Ja k106 aN fun _ => OpSt.op (St.move ⟨s103, RC.same C107, rfl⟩)
   ·refine Ja k106 (aC e112 (aC e113 aN)) fun _ => OpSt.op (St.idx (j := (j - 1)) (u := (b.getD (j - 1) 0)) r1 sl24 Jh rfl rfl (by omega) (Jl (by omega)) ?_)
    intro b134 o135 cs136 e137
    obtain ⟨rfl, bd138⟩ : cs136 = _ ∧ _ := e137.rd
    exact ⟨s103, RC.same C107, ⟨_, _, _, rfl, e137⟩⟩
   ·obtain ⟨b140, o141, cs142, e139, e143⟩ := d114
    obtain ⟨rfl, bd144⟩ : cs142 = _ ∧ _ := e143.rd
    exact Ja k106 (aC e139 aN) fun _ => OpSt.op (St.load1 J9 rfl (e143.cell 0 _ rfl) ⟨s103, RC.same C107, rfl⟩)
   obtain ⟨b146, o147, cs148, e145, e149⟩ := d117
   obtain ⟨rfl, bd150⟩ : cs148 = _ ∧ _ := e149.rd
   obtain ⟨b152, o153, cs154, e151, e155⟩ := d121
   obtain ⟨rfl, bd156⟩ : cs154 = _ ∧ _ := e155.rd
   obtain ⟨f157, rfl⟩ := mixK k106 (aC e115 (aC e116 (aC e145 (aC e118 (aC e119 (aC e120 (aC e151 (aC e122 aN))))))))
   refine O rfl (St.lss2 rfl rfl (fun hc158 => ?_) (fun hc158 => ?_))
   ·exact Nl (W.condT rfl (Rg (Oa (Nl (W.ret (Jf rfl (resV.t rfl) (Ret.intro (congrArg (Value.int _) ((Jjw sa sb (by omega) (by omega) (by omega) (by omega) heq))) C107.below)))))))
   exact Nl (W.condF rfl (W.skip (Rg (Oa (Nl (W.ret (Jf rfl (resV.t rfl) (Ret.intro (congrArg (Value.int _) ((Jny sa sb (by omega) (by omega) (by omega) (by omega) (by omega) heq))) C107.below))))))))
  refine Nl (W.condF rfl (W.skip (W.region (Om (O rfl (St.sub (z := (((j : Int) - 1) - 1)) rfl rfl (IntWalk.i64_in _ (by omega)) (Oa (Nl (⟨_, (by omega), _, _, (j - 1), C39, rfl, rfl, (congrArg (Value.int .i64) (by omega)), r0, r1, (by omega), (Jes (by omega) (by omega) (by omega) hc90 heq), rfl⟩)))))))))
 exact Nl (W.condF rfl (W.exit (Rg (Oa (Nl (W.ret (Jf rfl (resV.t rfl) (Ret.intro (congrArg (Value.int _) ((Jn4 (show j = 0 by omega) heq))) C15.below))))))))
end Go.Wf
namespace Go.Wf
open Go Go.Proofs Go.RowKit
set_option maxRecDepth 100000
set_option linter.unusedVariables false
set_option linter.unusedSimpArgs false
set_option maxHeartbeats 1000000 in
theorem ym {X : Nat → Prop} {w : World} (hX : ∀ b, X b → b < w.heap.size) {x : Nat} {y : Nat} {c : Nat} (hx : x < 4294967296) (hy : y < 4294967296) (hc : c ≤ 1) : Calls Tryz.prog 257 #[(.int .u32 ((x : Nat) : Int)), (.int .u32 ((y : Nat) : Int)), (.int .u32 ((c : Nat) : Int))] w (Ret w fun v w' => ∃ v0 v1, v = .tuple #[v0, v1] ∧ (v0 = (.int .u32 ((((x + y + c) % 4294967296) : Nat) : Int))) ∧ (v1 = (.int .u32 ((((x + y + c) / 4294967296) : Nat) : Int)))) := by
 have C := Cx.start hX
 refine Calls.ofW (args := [(.int .u32 ((x : Nat) : Int)), (.int .u32 ((y : Nat) : Int)), (.int .u32 ((c : Nat) : Int))]) Tryz.func257 rfl rfl (Nat.le_of_ble_eq_true rfl) (Rg (Oa (Oa (Nl (Rg (Om (O rfl (St.conv (z := ((x : Nat) : Int)) Zt Zw rfl (IntWalk.u64_in _ (by omega)) (Om ?_)))))))))
 refine O rfl (St.conv (z := ((y : Nat) : Int)) Zt Zw rfl (IntWalk.u64_in _ (by omega)) (O rfl (St.add rfl rfl (J4 (a := x) (b := y) (by omega)) (Om (O rfl (St.conv (z := ((c : Nat) : Int)) Zt Zw rfl (IntWalk.u64_in _ (by omega)) (O rfl (St.add rfl rfl (J4 (a := x + y) (b := c) (by omega)) (Oa (Nl (W.seq ?_)))))))))))
 refine W.region (Om (O rfl (St.conv (z := ((((x + y) + c) % 4294967296 : Nat) : Int)) Yj Yh rfl (Jm _) (Oa (Nl (Rg (Om (O rfl (St.shr rfl rfl (by decide) (Yi (d := 4294967296) _ (by decide)) (O rfl (St.conv (z := (((((x + y) + c) / 4294967296) % 4294967296 : Nat) : Int)) Yj Yh rfl (Jm _) ?_)))))))))))
 refine Oa (Nl (W.ret (Qk rfl (resV.t rfl) (resV.t rfl) (Ret.intro ?_ C.below))))
 refine ⟨_, _, rfl, ?_, ?_⟩
 ·skip
  rfl
 ·skip
  exact congrArg (Value.int _) (by omega)
set_option maxHeartbeats 1000000 in
theorem Jai {X : Nat → Prop} {w : World} (hX : ∀ b, X b → b < w.heap.size) {x : Nat} {y : Nat} {b : Nat} (hx : x < 4294967296) (hy : y < 4294967296) (hb : b ≤ 1) : Calls Tryz.prog 258 #[(.int .u32 ((x : Nat) : Int)), (.int .u32 ((y : Nat) : Int)), (.int .u32 ((b : Nat) : Int))] w (Ret w fun v w' => ∃ v0 v1, v = .tuple #[v0, v1] ∧ (v0 = (.int .u32 ((((x + 8589934592 - y - b) % 4294967296) : Nat) : Int))) ∧ (v1 = (.int .u32 (((if x < y + b then 1 else 0) : Nat) : Int)))) := by
 have C := Cx.start hX
 have hxy : x ^^^ y < 4294967296 := Nat.xor_lt_two_pow (n := 32) hx hy
 have h1 : (4294967295 - x) &&& y < 4294967296 := Nat.and_lt_two_pow _ (n := 32) hy
 have h2 : ∀ d, d < 4294967296 → (4294967295 - (x ^^^ y)) &&& d < 4294967296 := fun d hd => Nat.and_lt_two_pow _ (n := 32) hd
 refine Calls.ofW (args := [(.int .u32 ((x : Nat) : Int)), (.int .u32 ((y : Nat) : Int)), (.int .u32 ((b : Nat) : Int))]) Tryz.func258 rfl rfl (Nat.le_of_ble_eq_true rfl) (Rg (Oa (Oa (Nl (Rg (Om (Om (O rfl (St.sub (z := (((x + 4294967296 - y) % 4294967296 : Nat) : Int)) rfl rfl (Jol hy) ?_)))))))))
 refine Om (O rfl (St.sub (z := (((x + 8589934592 - y - b) % 4294967296 : Nat) : Int)) rfl rfl ((Jol (by omega)).trans (by omega)) (Oa (Nl (Rg (Om (O rfl (St.notI rfl (qm (by omega)) (Om (O rfl (St.and rfl rfl (qk (a := 4294967295 - x) (b := y) (by omega) (by omega)) (Om ?_))))))))))))
 refine Om (O rfl (St.xor rfl rfl (Jd3 (a := x) (b := y) (by omega) (by omega)) (O rfl (St.notI rfl (qm (by omega)) (Om (O rfl (St.and rfl rfl (qk (a := 4294967295 - (x ^^^ y)) (b := (x + 8589934592 - y - b) % 4294967296) (by omega) (by omega)) (O rfl (St.or rfl rfl (jk (a := (4294967295 - x) &&& y) (b := (4294967295 - (x ^^^ y)) &&& ((x + 8589934592 - y - b) % 4294967296)) (by omega) (h2 _ (by omega))) ?_)))))))))
 refine O rfl (St.shr rfl rfl (by decide) (Yi (d := 2147483648) _ (by decide)) (Oa (Nl (W.ret (Qk rfl (resV.t rfl) (resV.t rfl) (Ret.intro ?_ C.below))))))
 refine ⟨_, _, rfl, ?_, ?_⟩
 ·skip
  rfl
 ·skip
  exact congrArg (Value.int _) (congrArg _ (Jg7 hx hy hb rfl))
set_option maxHeartbeats 1000000 in
theorem Jqo {X : Nat → Prop} {w : World} (hX : ∀ b, X b → b < w.heap.size) {hi : Nat} {lo : Nat} {y : Nat} (hh : hi < y) (hl : lo < 4294967296) (hy : y < 4294967296) : Calls Tryz.prog 235 #[(.int .u32 ((hi : Nat) : Int)), (.int .u32 ((lo : Nat) : Int)), (.int .u32 ((y : Nat) : Int))] w (Ret w fun v w' => ∃ v0 v1, v = .tuple #[v0, v1] ∧ (v0 = (.int .u32 ((((hi * 4294967296 + lo) / y) : Nat) : Int))) ∧ (v1 = (.int .u32 ((((hi * 4294967296 + lo) % y) : Nat) : Int)))) := by
 have C := Cx.start hX
 have hq : (hi * 4294967296 + lo) / y < 4294967296 := Nat.div_lt_of_lt_mul (by have := Nat.mul_le_mul_right 4294967296 (show hi + 1 ≤ y by omega); omega)
 have hr := Nat.mod_lt (hi * 4294967296 + lo) (show 0 < y by omega)
 refine Calls.ofW (args := [(.int .u32 ((hi : Nat) : Int)), (.int .u32 ((lo : Nat) : Int)), (.int .u32 ((y : Nat) : Int))]) Tryz.func235 rfl rfl (Nat.le_of_ble_eq_true rfl) (Rg (Oa (Oa (Nl (Rh (Om (O rfl (St.neq (t := true) rfl rfl (by rw [decide_eq_false (by omega)]; rfl) (Om ?_)))))))))
 refine Og rfl rfl (St.move (Og rfl rfl (St.move (Og rfl rfl (St.leq (t := false) rfl rfl (decide_eq_false (by omega)) (OT (Nl (W.condF rfl (W.skip (Rg (Om (O rfl (St.conv (z := ((hi : Nat) : Int)) Zt Zw rfl (IntWalk.u64_in _ (by omega)) (O rfl (St.shl rfl rfl (by decide) (Vk (a := hi) (d := 4294967296) (by decide) (by omega)) ?_)))))))))))))))
 refine Om (O rfl (St.conv (z := ((lo : Nat) : Int)) Zt Zw rfl (IntWalk.u64_in _ (by omega)) (O rfl (St.or (z := ((hi * 4294967296 + lo : Nat) : Int)) rfl rfl (k5 (by omega) (by omega)) (Oa (Nl (W.seq (W.drawC Zc 11 [[], [], [1], [0, 2], [3], [], [], [6], [5, 7], [8], [4]] C [fx (.int .u64 ((hi * 4294967296 + lo : Nat) : Int)), fx (.int .u32 ((y : Nat) : Int)), fx (.int .u64 ((y : Nat) : Int)), fx (.int .u64 (((hi * 4294967296 + lo) / y : Nat) : Int)), fx (.int .u32 ((((hi * 4294967296 + lo) / y) % 4294967296 : Nat) : Int)), fx (.int .u64 ((hi * 4294967296 + lo : Nat) : Int)), fx (.int .u32 ((y : Nat) : Int)), fx (.int .u64 ((y : Nat) : Int)), fx (.int .u64 (((hi * 4294967296 + lo) % y : Nat) : Int)), fx (.int .u32 ((((hi * 4294967296 + lo) % y) % 4294967296 : Nat) : Int)), fx (.int .u32 ((((hi * 4294967296 + lo) / y) % 4294967296 : Nat) : Int))] (by kernel_rfl) ⟨sx, sx, sx, sx, sx, sx, sx, sx, sx, sx, sx, trivial⟩ fun f2 s3 w4 ⟨C7, S8⟩ k6 => ?_))))))))
 have k6 : Keep [23, 24, 25, 26, 27, 28, 29, 30, 31, 32, 6] _ f2 := k6
 refine ⟨⟨fun _ => ?_, fun _ => ?_, fun ⟨e9, _⟩ => ?_, fun ⟨e10, e11, _⟩ => ?_, fun ⟨e12, _⟩ => ?_, fun _ => ?_, fun _ => ?_, fun ⟨e13, _⟩ => ?_, fun ⟨e14, e15, _⟩ => ?_, fun ⟨e16, _⟩ => ?_, fun ⟨e17, _⟩ => ?_, trivial⟩, fun ⟨e18, e19, e20, e21, e22, e23, e24, e25, e26, e27, e28, _⟩ => ?_⟩
 ·exact Ja k6 aN fun _ => OpSt.op (St.move ⟨s3, RC.same C7, rfl⟩)
 ·exact Ja k6 aN fun _ => OpSt.op (St.move ⟨s3, RC.same C7, rfl⟩)
 ·exact Ja k6 (aC e9 aN) fun _ => OpSt.op (St.conv (z := ((y : Nat) : Int)) Zt Zw rfl (IntWalk.u64_in _ (by omega)) ⟨s3, RC.same C7, rfl⟩)
 ·exact Ja k6 (aC e10 (aC e11 aN)) fun _ => OpSt.op (St.quo rfl rfl (by omega) (Xp (a := hi * 4294967296 + lo) (b := y) (by omega)) ⟨s3, RC.same C7, rfl⟩)
 ·exact Ja k6 (aC e12 aN) fun _ => OpSt.op (St.conv (z := ((((hi * 4294967296 + lo) / y) % 4294967296 : Nat) : Int)) Yj Yh rfl (Jm _) ⟨s3, RC.same C7, rfl⟩)
 ·exact Ja k6 aN fun _ => OpSt.op (St.move ⟨s3, RC.same C7, rfl⟩)
 ·exact Ja k6 aN fun _ => OpSt.op (St.move ⟨s3, RC.same C7, rfl⟩)
 ·exact Ja k6 (aC e13 aN) fun _ => OpSt.op (St.conv (z := ((y : Nat) : Int)) Zt Zw rfl (IntWalk.u64_in _ (by omega)) ⟨s3, RC.same C7, rfl⟩)
 ·exact Ja k6 (aC e14 (aC e15 aN)) fun _ => OpSt.op (St.rem rfl rfl (by omega) (Xw (hi * 4294967296 + lo) y) ⟨s3, RC.same C7, rfl⟩)
 ·exact Ja k6 (aC e16 aN) fun _ => OpSt.op (St.conv (z := ((((hi * 4294967296 + lo) % y) % 4294967296 : Nat) : Int)) Yj Yh rfl (Jm _) ⟨s3, RC.same C7, rfl⟩)
 ·exact Ja k6 (aC e17 aN) fun _ => OpSt.op (St.assign ⟨s3, RC.same C7, rfl⟩)
 obtain ⟨f29, rfl⟩ := mixK k6 (aC e18 (aC e19 (aC e20 (aC e21 (aC e22 (aC e23 (aC e24 (aC e25 (aC e26 (aC e27 (aC e28 aN)))))))))))
 refine Oa (Nl (W.ret (Qk rfl (resV.t rfl) (resV.t rfl) (Ret.intro ?_ C7.below))))
 refine ⟨_, _, rfl, ?_, ?_⟩
 ·skip
  exact congrArg (Value.int _) (congrArg _ (Nat.mod_eq_of_lt hq))
 ·skip
  exact congrArg (Value.int _) (congrArg _ (Nat.mod_eq_of_lt (Nat.lt_trans hr hy)))
set_option maxHeartbeats 1000000 in
theorem Jos {X : Nat → Prop} {w : World} (hX : ∀ b, X b → b < w.heap.size) {v0 : Value} {a : List Nat} (r0 : RS Jb X w v0 a) {v1 : Value} {b : List Nat} (r1 : RS Jb X w v1 b) (hla : a.length ≤ 549755813888) (hlb : b.length ≤ 549755813888) : Calls Tryz.prog 243 #[v0, v1] w (Ret w fun v w' => RS Jb X w' v (Jr (max a.length b.length + 1) (val a + val b))) := by
 obtain ⟨a1, c2, rfl, _, _⟩ := r0.len
 obtain ⟨a3, c4, rfl, _, _⟩ := r1.len
 have C := Cx.start hX
 have sa := r0.u32_small
 have sb := r1.u32_small
 refine Calls.ofW (args := [(.slice a1 a.length c2), (.slice a3 b.length c4)]) Tryz.func243 rfl rfl (Nat.le_of_ble_eq_true rfl) (Rg (Oa (Nl (Rh (Om (O rfl (St.len sl24 rfl (Om (O rfl (St.len sl24 rfl (O rfl (St.lss2 rfl rfl (fun hc5 => ?_) (fun hc5 => ?_)))))))))))))
 ·refine Nl (W.condT rfl (W.region (Om (Om (Oa (Oa (Nl (Rg (Om (O rfl (St.len sl24 rfl (O rfl (St.add rfl rfl (Je (a := b.length) (b := 1) (by omega)) (O rfl (St.makeRow (n := (b.length + 1)) C sl24 rfl rfl rfl (by omega) Jh (by decide) ?_)))))))))))))))
  intro g6 w7 x8 y9 lt10 C11 s12 o13
  replace r0 := r0.sp s12
  replace r1 := r1.sp s12
  refine Oa (Nl (Rg (Oa (Nl (Rh (Om (O rfl (St.len sl24 rfl (Om (Nl (W.block (W.loopN (fun μ f v => ∃ (x y : Nat → Prop) (i : Nat) (p : List Nat) (c : Nat), Cx X w x y v ∧ f 0 = (.slice a3 b.length c4) ∧ f 1 = (.slice a1 a.length c2) ∧ f 4 = (.slice none 0 0) ∧ f 5 = (.slice (some ⟨g6, 0, none⟩) (b.length + 1) (b.length + 1)) ∧ f 21 = (.slice a3 b.length c4) ∧ f 22 = (.int .i64 ((b.length : Nat) : Int)) ∧ f 23 = (.int .i64 ((i : Nat) : Int)) ∧ f 6 = (.int .u32 ((c : Nat) : Int)) ∧ RS Jb x v (.slice a1 a.length c2) a ∧ RS Jb x v (.slice a3 b.length c4) b ∧ Own w y v g6 ((p ++ List.replicate ((b.length + 1) - i) 0).map u32v) 118 ∧ i ≤ b.length ∧ p.length = i ∧ Jo p ∧ c ≤ 1 ∧ val p + 4294967296 ^ i * c = val (b.take i) + val (a.take i) ∧ μ = (b.length - i)) _ ⟨_, _, 0, [], 0, C11, rfl, rfl, rfl, rfl, rfl, rfl, rfl, rfl, r0, r1, o13, (Nat.zero_le _), rfl, J6, (by omega), (by simp [val]), rfl⟩ ?_))))))))))))
  rintro m29 f14 w15 ⟨x16, y17, i, p, c, C18, e19, e20, e21, e22, e23, e24, e25, e26, r0, r1, o27, hi, hp, hs, hc, hv, hmu28⟩
  obtain ⟨f30, rfl⟩ := rebK (aC e19 (aC e20 (aC e21 (aC e22 (aC e23 (aC e24 (aC e25 (aC e26 aN))))))))
  clear e19 e20 e21 e22 e23 e24 e25 e26
  refine Rg (O rfl (St.lss2 rfl rfl (fun hc31 => ?_) (fun hc31 => ?_)))
  ·refine Nl (W.seq (W.condT rfl (W.skip (W.seq (W.block (Rg (Om (O rfl (St.idx (j := i) (u := (b.getD i 0)) r1 sl24 Jh rfl rfl rfl (Jl (by omega)) ?_)))))))))
   intro b32 o33 cs34 e35
   obtain ⟨rfl, bd36⟩ : cs34 = _ ∧ _ := e35.rd
   refine O rfl (St.load1 J9 rfl (e35.cell 0 _ rfl) (Oa (Oa (Nl (Rg (Oa (Nl (Rh (Om (Om (O rfl (St.len sl24 rfl (O rfl (St.lss2 rfl rfl (fun hc37 => ?_) (fun hc37 => ?_)))))))))))))))
   ·refine Nl (W.condT rfl (W.region (Om (Om (O rfl (St.idx (j := i) (u := (a.getD i 0)) r0 sl24 Jh rfl rfl rfl (Jl (by omega)) ?_))))))
    intro b38 o39 cs40 e41
    obtain ⟨rfl, bd42⟩ : cs40 = _ ∧ _ := e41.rd
    refine O rfl (St.load1 J9 rfl (e41.cell 0 _ rfl) (Oa (Nl (W.region (Om (Om (Om (Om (Om (O rfl (St.callR C18 Jht rfl rfl (ym C18.bd (x := (b.getD i 0)) (y := (a.getD i 0)) (c := c) (by omega) (by omega) hc) ?_)))))))))))
    intro v43 w44 C45 s46 h47
    replace o27 := o27.spn s46
    obtain ⟨v48, v49, rfl, rfl, rfl⟩ := h47
    refine Om (O rfl (St.extract rfl rfl (O rfl (St.extract rfl rfl (O rfl (St.idxRow (j := i) sl24 Jh rfl rfl rfl (by omega) (On (St.storeRow (j := i) (u := (((b.getD i 0) + (a.getD i 0) + c) % 4294967296)) C45 o27 Jh rfl rfl (by rw [List.length_append, List.length_replicate, hp]; omega) ?_))))))))
    intro w52 C53 s54 o55
    replace r0 := (r0.sp s46).sp s54
    replace r1 := (r1.sp s46).sp s54
    rw [Ky hp (by omega)] at o55
    refine Oa (Nl (W.region (O rfl (St.add rfl rfl (Je (a := i) (b := 1) (by omega)) (Om (Nl (⟨_, (by omega), _, _, (i + 1), (p ++ [(((b.getD i 0) + (a.getD i 0) + c) % 4294967296)]), (((b.getD i 0) + (a.getD i 0) + c) / 4294967296), C53, rfl, rfl, rfl, rfl, rfl, rfl, rfl, rfl, r0, r1, o55, (by omega), (by rw [List.length_append, hp]; rfl), (Jw hs (by omega)), (by omega), (Vo hp hv rfl rfl), rfl⟩)))))))
   refine Nl (W.condF rfl (W.skip (W.region (Om (Om (Om (Om (Om (O rfl (St.callR C18 Jht rfl rfl (ym C18.bd (x := (b.getD i 0)) (y := 0) (c := c) (by omega) (by omega) hc) ?_))))))))))
   intro v56 w57 C58 s59 h60
   replace o27 := o27.spn s59
   obtain ⟨v61, v62, rfl, rfl, rfl⟩ := h60
   refine Om (O rfl (St.extract rfl rfl (O rfl (St.extract rfl rfl (O rfl (St.idxRow (j := i) sl24 Jh rfl rfl rfl (by omega) (On (St.storeRow (j := i) (u := (((b.getD i 0) + 0 + c) % 4294967296)) C58 o27 Jh rfl rfl (by rw [List.length_append, List.length_replicate, hp]; omega) ?_))))))))
   intro w65 C66 s67 o68
   replace r0 := (r0.sp s59).sp s67
   replace r1 := (r1.sp s59).sp s67
   rw [Ky hp (by omega)] at o68
   refine Oa (Nl (W.region (O rfl (St.add rfl rfl (Je (a := i) (b := 1) (by omega)) (Om (Nl (⟨_, (by omega), _, _, (i + 1), (p ++ [(((b.getD i 0) + 0 + c) % 4294967296)]), (((b.getD i 0) + 0 + c) / 4294967296), C66, rfl, rfl, rfl, rfl, rfl, rfl, rfl, rfl, r0, r1, o68, (by omega), (by rw [List.length_append, hp]; rfl), (Jw hs (by omega)), (by omega), (Vo hp hv rfl (Y2 (by omega))), rfl⟩)))))))
  refine Nl (W.seq (W.condF rfl (W.exit (Rg (Om (Om (O rfl (St.len sl24 rfl (Om (O rfl (St.idxRow (j := b.length) sl24 Jh rfl rfl rfl (by omega) (On (St.storeRow (j := b.length) (u := c) C18 o27 Jh rfl rfl (by rw [List.length_append, List.length_replicate, hp]; omega) ?_)))))))))))))
  intro w69 C70 s71 o72
  rw [Jcg hp (by omega)] at o72
  exact Nl (Rg (Om (Oa (Nl (W.ret (Jf rfl (resV.t rfl) (Ret.intro (RS.eqv (o72.rowRS C70 hX (by rw [List.length_append, hp]; show _ = _ + 1; omega) (by omega) (Jw hs (by omega)) id) (((Je6 (A := b) (B := a) hs (by omega) rfl (by omega) hc (by rw [show b.length = i by omega]; exact hv)).trans (by rw [Nat.max_eq_right (by omega), Nat.add_comm (val b)])))) C70.below)))))))
 refine Nl (W.condF rfl (W.skip (Rg (Om (O rfl (St.len sl24 rfl (O rfl (St.add rfl rfl (Je (a := a.length) (b := 1) (by omega)) (O rfl (St.makeRow (n := (a.length + 1)) C sl24 rfl rfl rfl (by omega) Jh (by decide) ?_))))))))))
 intro g73 w74 x75 y76 lt77 C78 s79 o80
 replace r0 := r0.sp s79
 replace r1 := r1.sp s79
 refine Oa (Nl (Rg (Oa (Nl (Rh (Om (O rfl (St.len sl24 rfl (Om (Nl (W.block (W.loopN (fun μ f v => ∃ (x y : Nat → Prop) (i : Nat) (p : List Nat) (c : Nat), Cx X w x y v ∧ f 0 = (.slice a1 a.length c2) ∧ f 1 = (.slice a3 b.length c4) ∧ f 4 = (.slice none 0 0) ∧ f 5 = (.slice (some ⟨g73, 0, none⟩) (a.length + 1) (a.length + 1)) ∧ f 21 = (.slice a1 a.length c2) ∧ f 22 = (.int .i64 ((a.length : Nat) : Int)) ∧ f 23 = (.int .i64 ((i : Nat) : Int)) ∧ f 6 = (.int .u32 ((c : Nat) : Int)) ∧ RS Jb x v (.slice a1 a.length c2) a ∧ RS Jb x v (.slice a3 b.length c4) b ∧ Own w y v g73 ((p ++ List.replicate ((a.length + 1) - i) 0).map u32v) 118 ∧ i ≤ a.length ∧ p.length = i ∧ Jo p ∧ c ≤ 1 ∧ val p + 4294967296 ^ i * c = val (a.take i) + val (b.take i) ∧ μ = (a.length - i)) _ ⟨_, _, 0, [], 0, C78, rfl, rfl, rfl, rfl, rfl, rfl, rfl, rfl, r0, r1, o80, (Nat.zero_le _), rfl, J6, (by omega), (by simp [val]), rfl⟩ ?_))))))))))))
 rintro m96 f81 w82 ⟨x83, y84, i, p, c, C85, e86, e87, e88, e89, e90, e91, e92, e93, r0, r1, o94, hi, hp, hs, hc, hv, hmu95⟩
 obtain ⟨f97, rfl⟩ := rebK (aC e86 (aC e87 (aC e88 (aC e89 (aC e90 (aC e91 (aC e92 (aC e93 aN))))))))
 clear e86 e87 e88 e89 e90 e91 e92 e93
 refine Rg (O rfl (St.lss2 rfl rfl (fun hc98 => ?_) (fun hc98 => ?_)))
 ·refine Nl (W.seq (W.condT rfl (W.skip (W.seq (W.block (Rg (Om (O rfl (St.idx (j := i) (u := (a.getD i 0)) r0 sl24 Jh rfl rfl rfl (Jl (by omega)) ?_)))))))))
  intro b99 o100 cs101 e102
  obtain ⟨rfl, bd103⟩ : cs101 = _ ∧ _ := e102.rd
  refine O rfl (St.load1 J9 rfl (e102.cell 0 _ rfl) (Oa (Oa (Nl (Rg (Oa (Nl (Rh (Om (Om (O rfl (St.len sl24 rfl (O rfl (St.lss2 rfl rfl (fun hc104 => ?_) (fun hc104 => ?_)))))))))))))))
  ·refine Nl (W.condT rfl (W.region (Om (Om (O rfl (St.idx (j := i) (u := (b.getD i 0)) r1 sl24 Jh rfl rfl rfl (Jl (by omega)) ?_))))))
   intro b105 o106 cs107 e108
   obtain ⟨rfl, bd109⟩ : cs107 = _ ∧ _ := e108.rd
   refine O rfl (St.load1 J9 rfl (e108.cell 0 _ rfl) (Oa (Nl (W.region (Om (Om (Om (Om (Om (O rfl (St.callR C85 Jht rfl rfl (ym C85.bd (x := (a.getD i 0)) (y := (b.getD i 0)) (c := c) (by omega) (by omega) hc) ?_)))))))))))
   intro v110 w111 C112 s113 h114
   replace o94 := o94.spn s113
   obtain ⟨v115, v116, rfl, rfl, rfl⟩ := h114
   refine Om (O rfl (St.extract rfl rfl (O rfl (St.extract rfl rfl (O rfl (St.idxRow (j := i) sl24 Jh rfl rfl rfl (by omega) (On (St.storeRow (j := i) (u := (((a.getD i 0) + (b.getD i 0) + c) % 4294967296)) C112 o94 Jh rfl rfl (by rw [List.length_append, List.length_replicate, hp]; omega) ?_))))))))
   intro w119 C120 s121 o122
   replace r0 := (r0.sp s113).sp s121
   replace r1 := (r1.sp s113).sp s121
   rw [Ky hp (by omega)] at o122
   refine Oa (Nl (W.region (O rfl (St.add rfl rfl (Je (a := i) (b := 1) (by omega)) (Om (Nl (⟨_, (by omega), _, _, (i + 1), (p ++ [(((a.getD i 0) + (b.getD i 0) + c) % 4294967296)]), (((a.getD i 0) + (b.getD i 0) + c) / 4294967296), C120, rfl, rfl, rfl, rfl, rfl, rfl, rfl, rfl, r0, r1, o122, (by omega), (by rw [List.length_append, hp]; rfl), (Jw hs (by omega)), (by omega), (Vo hp hv rfl rfl), rfl⟩)))))))
  refine Nl (W.condF rfl (W.skip (W.region (Om (Om (Om (Om (Om (O rfl (St.callR C85 Jht rfl rfl (ym C85.bd (x := (a.getD i 0)) (y := 0) (c := c) (by omega) (by omega) hc) ?_))))))))))
  intro v123 w124 C125 s126 h127
  replace o94 := o94.spn s126
  obtain ⟨v128, v129, rfl, rfl, rfl⟩ := h127
  refine Om (O rfl (St.extract rfl rfl (O rfl (St.extract rfl rfl (O rfl (St.idxRow (j := i) sl24 Jh rfl rfl rfl (by omega) (On (St.storeRow (j := i) (u := (((a.getD i 0) + 0 + c) % 4294967296)) C125 o94 Jh rfl rfl (by rw [List.length_append, List.length_replicate, hp]; omega) ?_))))))))
  intro w132 C133 s134 o135
  replace r0 := (r0.sp s126).sp s134
  replace r1 := (r1.sp s126).sp s134
  rw [Ky hp (by omega)] at o135
  refine Oa (Nl (W.region (O rfl (St.add rfl rfl (Je (a := i) (b := 1) (by omega)) (Om (Nl (⟨_, (by omega), _, _, (i + 1), (p ++ [(((a.getD i 0) + 0 + c) % 4294967296)]), (((a.getD i 0) + 0 + c) / 4294967296), C133, rfl, rfl, rfl, rfl, rfl, rfl, rfl, rfl, r0, r1, o135, (by omega), (by rw [List.length_append, hp]; rfl), (Jw hs (by omega)), (by omega), (Vo hp hv rfl (Y2 (by omega))), rfl⟩)))))))
 refine Nl (W.seq (W.condF rfl (W.exit (Rg (Om (Om (O rfl (St.len sl24 rfl (Om (O rfl (St.idxRow (j := a.length) sl24 Jh rfl rfl rfl (by omega) (On (St.storeRow (j := a.length) (u := c) C85 o94 Jh rfl rfl (by rw [List.length_append, List.length_replicate, hp]; omega) ?_)))))))))))))
 intro w136 C137 s138 o139
 rw [Jcg hp (by omega)] at o139
 exact Nl (Rg (Om (Oa (Nl (W.ret (Jf rfl (resV.t rfl) (Ret.intro (RS.eqv (o139.rowRS C137 hX (by rw [List.length_append, hp]; show _ = _ + 1; omega) (by omega) (Jw hs (by omega)) id) (((Je6 (A := a) (B := b) hs (by omega) rfl (by omega) hc (by rw [show a.length = i by omega]; exact hv)).trans (by rw [Nat.max_eq_left (by omega)])))) C137.below)))))))
set_option maxHeartbeats 1000000 in
theorem Jif {X : Nat → Prop} {w : World} (hX : ∀ b, X b → b < w.heap.size) {v0 : Value} {a : List Nat} (r0 : RS Jb X w v0 a) {v1 : Value} {b : List Nat} (r1 : RS Jb X w v1 b) (hla : a.length ≤ 1099511627776) (hlb : b.length ≤ a.length) (hle : val b ≤ val a) : Calls Tryz.prog 244 #[v0, v1] w (Ret w fun v w' => RS Jb X w' v (Jr a.length (val a - val b))) := by
 obtain ⟨a1, c2, rfl, _, _⟩ := r0.len
 obtain ⟨a3, c4, rfl, _, _⟩ := r1.len
 have C := Cx.start hX
 have sa := r0.u32_small
 have sb := r1.u32_small
 refine Calls.ofW (args := [(.slice a1 a.length c2), (.slice a3 b.length c4)]) Tryz.func244 rfl rfl (Nat.le_of_ble_eq_true rfl) (Rg (Oa (Nl (Rg (Om (O rfl (St.len sl24 rfl (O rfl (St.makeRow (n := a.length) C sl24 rfl rfl rfl (by omega) Jh (by decide) ?_)))))))))
 intro g5 w6 x7 y8 lt9 C10 s11 o12
 replace r0 := r0.sp s11
 replace r1 := r1.sp s11
 refine Oa (Nl (Rg (Oa (Nl (Rh (Om (O rfl (St.len sl24 rfl (Om (Nl (W.block (W.loopN (fun μ f v => ∃ (x y : Nat → Prop) (i : Nat) (p : List Nat) (c : Nat), Cx X w x y v ∧ f 1 = (.slice a3 b.length c4) ∧ f 4 = (.slice none 0 0) ∧ f 5 = (.slice (some ⟨g5, 0, none⟩) a.length a.length) ∧ f 13 = (.slice a1 a.length c2) ∧ f 14 = (.int .i64 ((a.length : Nat) : Int)) ∧ f 15 = (.int .i64 ((i : Nat) : Int)) ∧ f 6 = (.int .u32 ((c : Nat) : Int)) ∧ RS Jb x v (.slice a1 a.length c2) a ∧ RS Jb x v (.slice a3 b.length c4) b ∧ Own w y v g5 ((p ++ List.replicate (a.length - i) 0).map u32v) 118 ∧ i ≤ a.length ∧ p.length = i ∧ Jo p ∧ c ≤ 1 ∧ val p + val (b.take i) = val (a.take i) + 4294967296 ^ i * c ∧ μ = (a.length - i)) _ ⟨_, _, 0, [], 0, C10, rfl, rfl, rfl, rfl, rfl, rfl, rfl, r0, r1, o12, (Nat.zero_le _), rfl, J6, (by omega), (by simp [val]), rfl⟩ ?_))))))))))))
 rintro m27 f13 w14 ⟨x15, y16, i, p, c, C17, e18, e19, e20, e21, e22, e23, e24, r0, r1, o25, hi, hp, hs, hc, hv, hmu26⟩
 obtain ⟨f28, rfl⟩ := rebK (aC e18 (aC e19 (aC e20 (aC e21 (aC e22 (aC e23 (aC e24 aN)))))))
 clear e18 e19 e20 e21 e22 e23 e24
 refine Rg (O rfl (St.lss2 rfl rfl (fun hc29 => ?_) (fun hc29 => ?_)))
 ·refine Nl (W.seq (W.condT rfl (W.skip (W.seq (W.block (Rg (Om (O rfl (St.idx (j := i) (u := (a.getD i 0)) r0 sl24 Jh rfl rfl rfl (Jl (by omega)) ?_)))))))))
  intro b30 o31 cs32 e33
  obtain ⟨rfl, bd34⟩ : cs32 = _ ∧ _ := e33.rd
  refine O rfl (St.load1 J9 rfl (e33.cell 0 _ rfl) (Oa (Oa (Nl (Rg (Oa (Nl (Rh (Om (Om (O rfl (St.len sl24 rfl (O rfl (St.lss2 rfl rfl (fun hc35 => ?_) (fun hc35 => ?_)))))))))))))))
  ·refine Nl (W.condT rfl (W.region (Om (Om (O rfl (St.idx (j := i) (u := (b.getD i 0)) r1 sl24 Jh rfl rfl rfl (Jl (by omega)) ?_))))))
   intro b36 o37 cs38 e39
   obtain ⟨rfl, bd40⟩ : cs38 = _ ∧ _ := e39.rd
   refine O rfl (St.load1 J9 rfl (e39.cell 0 _ rfl) (Oa (Nl (W.region (Om (Om (Om (Om (Om (O rfl (St.callR C17 Jlm rfl rfl (Jai C17.bd (x := (a.getD i 0)) (y := (b.getD i 0)) (b := c) (by omega) (by omega) hc) ?_)))))))))))
   intro v41 w42 C43 s44 h45
   replace o25 := o25.spn s44
   obtain ⟨v46, v47, rfl, rfl, rfl⟩ := h45
   refine Om (O rfl (St.extract rfl rfl (O rfl (St.extract rfl rfl (O rfl (St.idxRow (j := i) sl24 Jh rfl rfl rfl (by omega) (On (St.storeRow (j := i) (u := (((a.getD i 0) + 8589934592 - (b.getD i 0) - c) % 4294967296)) C43 o25 Jh rfl rfl (by rw [List.length_append, List.length_replicate, hp]; omega) ?_))))))))
   intro w50 C51 s52 o53
   replace r0 := (r0.sp s44).sp s52
   replace r1 := (r1.sp s44).sp s52
   rw [Ky hp (by omega)] at o53
   refine Oa (Nl (W.region (O rfl (St.add rfl rfl (Je (a := i) (b := 1) (by omega)) (Om (Nl (⟨_, (by omega), _, _, (i + 1), (p ++ [(((a.getD i 0) + 8589934592 - (b.getD i 0) - c) % 4294967296)]), (if (a.getD i 0) < (b.getD i 0) + c then 1 else 0), C51, rfl, rfl, rfl, rfl, rfl, rfl, rfl, r0, r1, o53, (by omega), (by rw [List.length_append, hp]; rfl), (Jw hs (by omega)), (by split <;> omega), (Jbl hp hc (Jg sa _) (Jg sb _) hv rfl rfl), rfl⟩)))))))
  refine Nl (W.condF rfl (W.skip (W.region (Om (Om (Om (Om (Om (O rfl (St.callR C17 Jlm rfl rfl (Jai C17.bd (x := (a.getD i 0)) (y := 0) (b := c) (by omega) (by omega) hc) ?_))))))))))
  intro v54 w55 C56 s57 h58
  replace o25 := o25.spn s57
  obtain ⟨v59, v60, rfl, rfl, rfl⟩ := h58
  refine Om (O rfl (St.extract rfl rfl (O rfl (St.extract rfl rfl (O rfl (St.idxRow (j := i) sl24 Jh rfl rfl rfl (by omega) (On (St.storeRow (j := i) (u := (((a.getD i 0) + 8589934592 - 0 - c) % 4294967296)) C56 o25 Jh rfl rfl (by rw [List.length_append, List.length_replicate, hp]; omega) ?_))))))))
  intro w63 C64 s65 o66
  replace r0 := (r0.sp s57).sp s65
  replace r1 := (r1.sp s57).sp s65
  rw [Ky hp (by omega)] at o66
  refine Oa (Nl (W.region (O rfl (St.add rfl rfl (Je (a := i) (b := 1) (by omega)) (Om (Nl (⟨_, (by omega), _, _, (i + 1), (p ++ [(((a.getD i 0) + 8589934592 - 0 - c) % 4294967296)]), (if (a.getD i 0) < 0 + c then 1 else 0), C64, rfl, rfl, rfl, rfl, rfl, rfl, rfl, r0, r1, o66, (by omega), (by rw [List.length_append, hp]; rfl), (Jw hs (by omega)), (by split <;> omega), (Jbl hp hc (Jg sa _) (by omega) hv rfl (Y2 (by omega))), rfl⟩)))))))
 exact Nl (W.seq (W.condF rfl (W.exit (Rg (Om (Oa (Nl (W.ret (Jf rfl (resV.t rfl) (Ret.intro (RS.eqv (o25.rowRS C17 hX (by rw [List.length_append, List.length_replicate, hp]; omega) (by omega) (Z5 hs (Kc _)) id) ((by rw [show a.length - i = 0 by omega, List.replicate_zero, List.append_nil]; exact Je8 hs hp (by omega) hlb hle hv))) C17.below))))))))))
end Go.Wf
namespace Go.Wf
open Go Go.Proofs Go.RowKit
set_option maxRecDepth 100000
set_option linter.unusedVariables false
set_option linter.unusedSimpArgs false
set_option maxHeartbeats 4000000 in
theorem Jro {X : Nat → Prop} {w : World} (hX : ∀ b, X b → b < w.heap.size) {v0 : Value} {a : List Nat} (r0 : RS Jb X w v0 a) {v1 : Value} {b : List Nat} (r1 : RS Jb X w v1 b) (hla : a.length ≤ 549755813888) (hlb : b.length ≤ 549755813888) : Calls Tryz.prog 226 #[v0, v1] w (Ret w fun v w' => RS Jb X w' v (K3 a b)) := by
 obtain ⟨a1, c2, rfl, _, _⟩ := r0.len
 obtain ⟨a3, c4, rfl, _, _⟩ := r1.len
 have C := Cx.start hX
 have sa := r0.u32_small
 have sb := r1.u32_small
 have hm0 := Jio (Jg sa 0) (Jg sb 0)
 have hx0 := Jg sa 0
 have hy0 := Jg sb 0
 refine Calls.ofW (args := [(.slice a1 a.length c2), (.slice a3 b.length c4)]) Tryz.func226 rfl rfl (Nat.le_of_ble_eq_true rfl) (Rg (Oa (Nl (Rh (Om (O rfl (St.len sl24 rfl (O rfl (St.eql2 rfl rfl (fun hc5 => ?_) (fun hc5 => ?_))))))))))
 ·exact Om (Ox rfl rfl rfl (Ox rfl rfl rfl (Ox rfl rfl rfl (OT (Nl (W.condT rfl (Rg (Oa (Nl (W.ret (Jf rfl (resV.t rfl) (Ret.intro (RS.eqv ((RS.nil : RS _ _ _ _ _).tr (Tr.weak C.base)) ((Jce (by omega)))) C.below))))))))))))
 refine Om (Og rfl rfl (St.move (Og rfl rfl (St.len sl24 rfl (Og rfl rfl (St.eql2 rfl rfl (fun hc6 => ?_) (fun hc6 => ?_)))))))
 ·exact OF (Nl (W.condT rfl (Rg (Oa (Nl (W.ret (Jf rfl (resV.t rfl) (Ret.intro (RS.eqv ((RS.nil : RS _ _ _ _ _).tr (Tr.weak C.base)) ((Jce (by omega)))) C.below))))))))
 refine OF (Nl (W.condF rfl (W.skip (W.seq (W.cut (fun f v => ∃ (x y : Nat → Prop), Cx X w x y v ∧ f 0 = (.slice a1 a.length c2) ∧ f 1 = (.slice a3 b.length c4) ∧ RS Jb x v (.slice a1 a.length c2) a ∧ RS Jb x v (.slice a3 b.length c4) b ∧ 0 < a.length ∧ 0 < b.length ∧ ¬(a.length = 1 ∧ b.length = 1)) ?_ ?_)))))
 ·refine Rg (Om (O rfl (St.len sl24 rfl (O rfl (St.eql2 rfl rfl (fun hc7 => ?_) (fun hc7 => ?_))))))
  ·refine Om (Og rfl rfl (St.move (Og rfl rfl (St.len sl24 rfl (Og rfl rfl (St.eql2 rfl rfl (fun hc8 => ?_) (fun hc8 => ?_)))))))
   ·refine OT (Nl (W.condT rfl (W.seq (W.drawC Zc 8 [[], [0], [1], [2], [], [4], [5], [6]] C [fx (.slice a1 a.length c2), fE Jb (a.getD 0 0), fx (.int .u32 (((a.getD 0 0) : Nat) : Int)), fx (.int .u64 (((a.getD 0 0) : Nat) : Int)), fx (.slice a3 b.length c4), fE Jb (b.getD 0 0), fx (.int .u32 (((b.getD 0 0) : Nat) : Int)), fx (.int .u64 (((b.getD 0 0) : Nat) : Int))] (by kernel_rfl) ⟨sx, sE, sx, sx, sx, sE, sx, sx, trivial⟩ fun f20 s21 w22 ⟨C25, S26⟩ k24 => ?_))))
    replace r0 := r0.sp S26
    replace r1 := r1.sp S26
    have k24 : Keep [28, 29, 30, 31, 32, 33, 34, 35] _ f20 := k24
    refine ⟨⟨fun _ => ?_, fun ⟨e27, _⟩ => ?_, fun ⟨d28, _⟩ => ?_, fun ⟨e29, _⟩ => ?_, fun _ => ?_, fun ⟨e30, _⟩ => ?_, fun ⟨d31, _⟩ => ?_, fun ⟨e32, _⟩ => ?_, trivial⟩, fun ⟨e33, d34, e35, e36, e37, d38, e39, e40, _⟩ => ?_⟩
    ·exact Ja k24 aN fun _ => OpSt.op (St.move ⟨s21, RC.same C25, rfl⟩)
    ·refine Ja k24 (aC e27 aN) fun _ => OpSt.op (St.idx (j := 0) (u := (a.getD 0 0)) r0 sl24 Jh rfl rfl rfl (Jl (by omega)) ?_)
     intro b41 o42 cs43 e44
     obtain ⟨rfl, bd45⟩ : cs43 = _ ∧ _ := e44.rd
     exact ⟨s21, RC.same C25, ⟨_, _, _, rfl, e44⟩⟩
    ·obtain ⟨b47, o48, cs49, e46, e50⟩ := d28
     obtain ⟨rfl, bd51⟩ : cs49 = _ ∧ _ := e50.rd
     exact Ja k24 (aC e46 aN) fun _ => OpSt.op (St.load1 J9 rfl (e50.cell 0 _ rfl) ⟨s21, RC.same C25, rfl⟩)
    ·exact Ja k24 (aC e29 aN) fun _ => OpSt.op (St.conv (z := (((a.getD 0 0) : Nat) : Int)) Zt Zw rfl (IntWalk.u64_in _ (by omega)) ⟨s21, RC.same C25, rfl⟩)
    ·exact Ja k24 aN fun _ => OpSt.op (St.move ⟨s21, RC.same C25, rfl⟩)
    ·refine Ja k24 (aC e30 aN) fun _ => OpSt.op (St.idx (j := 0) (u := (b.getD 0 0)) r1 sl24 Jh rfl rfl rfl (Jl (by omega)) ?_)
     intro b52 o53 cs54 e55
     obtain ⟨rfl, bd56⟩ : cs54 = _ ∧ _ := e55.rd
     exact ⟨s21, RC.same C25, ⟨_, _, _, rfl, e55⟩⟩
    ·obtain ⟨b58, o59, cs60, e57, e61⟩ := d31
     obtain ⟨rfl, bd62⟩ : cs60 = _ ∧ _ := e61.rd
     exact Ja k24 (aC e57 aN) fun _ => OpSt.op (St.load1 J9 rfl (e61.cell 0 _ rfl) ⟨s21, RC.same C25, rfl⟩)
    ·exact Ja k24 (aC e32 aN) fun _ => OpSt.op (St.conv (z := (((b.getD 0 0) : Nat) : Int)) Zt Zw rfl (IntWalk.u64_in _ (by omega)) ⟨s21, RC.same C25, rfl⟩)
    obtain ⟨b64, o65, cs66, e63, e67⟩ := d34
    obtain ⟨rfl, bd68⟩ : cs66 = _ ∧ _ := e67.rd
    obtain ⟨b70, o71, cs72, e69, e73⟩ := d38
    obtain ⟨rfl, bd74⟩ : cs72 = _ ∧ _ := e73.rd
    obtain ⟨f75, rfl⟩ := mixK k24 (aC e33 (aC e63 (aC e35 (aC e36 (aC e37 (aC e69 (aC e39 (aC e40 aN))))))))
    refine O rfl (St.mul rfl rfl (K6 (a := (a.getD 0 0)) (b := (b.getD 0 0)) (by omega)) (O rfl (St.callR C25 Jd2 rfl rfl (yb C25.bd (n := (a.getD 0 0) * (b.getD 0 0)) (by omega)) ?_)))
    intro v76 w77 C78 s79 h80
    obtain ⟨a81, c82, rfl, _, _⟩ := h80.len
    exact Oa (Nl (W.ret (Jf rfl (resV.t rfl) (Ret.intro (RS.eqv ((h80 : RS _ _ _ _ _).tr (Tr.weak C78.base)) ((Jhu (by omega) (by omega)))) C78.below))))
   refine OT (Nl (W.condF rfl (W.skip (⟨_, _, C, rfl, rfl, r0, r1, (by omega), (by omega), (by omega)⟩))))
  refine Om (Ox rfl rfl rfl (Ox rfl rfl rfl (Ox rfl rfl rfl (OF (Nl (W.condF rfl (W.skip (⟨_, _, C, rfl, rfl, r0, r1, (by omega), (by omega), (by omega)⟩))))))))
 rintro f83 w84 ⟨x85, y86, C87, e88, e89, r0, r1, h0, h1, h2⟩
 obtain ⟨f90, rfl⟩ := rebK (aC e88 (aC e89 aN))
 clear e88 e89
 refine Rg (Om (O rfl (St.len sl24 rfl (Om (O rfl (St.len sl24 rfl (O rfl (St.add rfl rfl (Je (a := a.length) (b := b.length) (by omega)) (O rfl (St.makeRow (n := (a.length + b.length)) C87 sl24 rfl rfl rfl (by omega) Jh (by decide) ?_))))))))))
 intro g91 w92 x93 y94 lt95 C96 s97 o98
 replace r0 := r0.sp s97
 replace r1 := r1.sp s97
 refine Oa (Nl (Rh (Om (O rfl (St.len sl24 rfl (Om (Nl (W.block (W.loopN (fun μ f v => ∃ (x y : Nat → Prop) (i : Nat) (L : List Nat), Cx X w x y v ∧ f 1 = (.slice a3 b.length c4) ∧ f 5 = (.slice (some ⟨g91, 0, none⟩) (a.length + b.length) (a.length + b.length)) ∧ f 44 = (.slice a1 a.length c2) ∧ f 45 = (.int .i64 ((a.length : Nat) : Int)) ∧ f 46 = (.int .i64 ((i : Nat) : Int)) ∧ RS Jb x v (.slice a1 a.length c2) a ∧ RS Jb x v (.slice a3 b.length c4) b ∧ Own w y v g91 (L.map u32v) 118 ∧ i ≤ a.length ∧ L.length = a.length + b.length ∧ Jo L ∧ (∀ k, L.getD (i + b.length + k) 0 = 0 ∨ L.length ≤ i + b.length + k) ∧ val L = val (a.take i) * val b ∧ μ = (a.length - i)) _ ⟨_, _, 0, (List.replicate (a.length + b.length) 0), C96, rfl, rfl, rfl, rfl, rfl, r0, r1, o98, (Nat.zero_le _), (List.length_replicate ..), (Kc _), (fun k => .inl (by simp [List.getD_eq_getElem?_getD, List.getElem?_replicate]; split <;> rfl)), (by rw [vb]; simp [val]), rfl⟩ ?_)))))))))
 rintro m111 f99 w100 ⟨x101, y102, i, L, C103, e104, e105, e106, e107, e108, r0, r1, o109, hi, hL, hs, hz, hv, hmu110⟩
 obtain ⟨f112, rfl⟩ := rebK (aC e104 (aC e105 (aC e106 (aC e107 (aC e108 aN)))))
 clear e104 e105 e106 e107 e108
 refine Rg (O rfl (St.lss2 rfl rfl (fun hc113 => ?_) (fun hc113 => ?_)))
 ·refine Nl (W.seq (W.condT rfl (W.skip (W.seq (W.block (Rg (Om (O rfl (St.idx (j := i) (u := (a.getD i 0)) r0 sl24 Jh rfl rfl rfl (Jl (by omega)) ?_)))))))))
  intro b114 o115 cs116 e117
  obtain ⟨rfl, bd118⟩ : cs116 = _ ∧ _ := e117.rd
  refine O rfl (St.load1 J9 rfl (e117.cell 0 _ rfl) (Oa (Oa (Nl (Rg (Oa (Nl (Rh (Om (O rfl (St.len sl24 rfl (Om (Nl (W.block (W.loopN (fun μ f v => ∃ (x y : Nat → Prop) (j : Nat) (L2 : List Nat) (c : Nat), Cx X w x y v ∧ f 1 = (.slice a3 b.length c4) ∧ f 5 = (.slice (some ⟨g91, 0, none⟩) (a.length + b.length) (a.length + b.length)) ∧ f 6 = (.int .i64 ((i : Nat) : Int)) ∧ f 7 = (.int .u32 (((a.getD i 0) : Nat) : Int)) ∧ f 44 = (.slice a1 a.length c2) ∧ f 45 = (.int .i64 ((a.length : Nat) : Int)) ∧ f 46 = (.int .i64 ((i : Nat) : Int)) ∧ f 47 = (.bool true) ∧ f 48 = (.int .i64 ((i : Nat) : Int)) ∧ f 49 = (.pointer (some ⟨b114, o115, none⟩)) ∧ f 50 = (.int .u32 (((a.getD i 0) : Nat) : Int)) ∧ f 51 = (.slice a3 b.length c4) ∧ f 52 = (.int .i64 ((b.length : Nat) : Int)) ∧ f 53 = (.int .i64 ((j : Nat) : Int)) ∧ f 8 = (.int .u64 ((c : Nat) : Int)) ∧ RS Jb x v (.slice a1 a.length c2) a ∧ RS Jb x v (.slice a3 b.length c4) b ∧ ElAt Jb x v b114 o115 [(.int .u32 (((a.getD i 0) : Nat) : Int))] (a.getD i 0) ∧ Own w y v g91 (L2.map u32v) 118 ∧ j ≤ b.length ∧ L2.length = a.length + b.length ∧ Jo L2 ∧ c < 4294967296 ∧ (∀ k, L2.getD (i + b.length + k) 0 = 0 ∨ L2.length ≤ i + b.length + k) ∧ val L2 + 4294967296 ^ (i + j) * c = val (a.take i) * val b + 4294967296 ^ i * (a.getD i 0 * val (b.take j)) ∧ μ = (b.length - j)) _ ⟨_, _, 0, L, 0, C103, rfl, rfl, rfl, rfl, rfl, rfl, rfl, rfl, rfl, rfl, rfl, rfl, rfl, rfl, rfl, r0, r1, e117, o109, (Nat.zero_le _), hL, hs, (by omega), hz, (by rw [hv]; simp [val]), rfl⟩ ?_)))))))))))))))
  rintro m141 f119 w120 ⟨x121, y122, j, L2, c, C123, e124, e125, e126, e127, e128, e129, e130, e131, e132, e133, e134, e135, e136, e137, e138, r0, r1, e117, o139, hj, hL2, hs2, hc, hz2, hv2, hmu140⟩
  obtain ⟨f142, rfl⟩ := rebK (aC e124 (aC e125 (aC e126 (aC e127 (aC e128 (aC e129 (aC e130 (aC e131 (aC e132 (aC e133 (aC e134 (aC e135 (aC e136 (aC e137 (aC e138 aN)))))))))))))))
  clear e124 e125 e126 e127 e128 e129 e130 e131 e132 e133 e134 e135 e136 e137 e138
  have hxi := Jg sa i
  have hyj := Jg sb j
  have hm := Jio hxi hyj
  have hl2 := Jg hs2 (i + j)
  refine Rg (O rfl (St.lss2 rfl rfl (fun hc143 => ?_) (fun hc143 => ?_)))
  ·refine Nl (W.seq (W.condT rfl (W.skip (W.seq (W.block (Rg (Om (O rfl (St.idx (j := j) (u := (b.getD j 0)) r1 sl24 Jh rfl rfl rfl (Jl (by omega)) ?_)))))))))
   intro b144 o145 cs146 e147
   obtain ⟨rfl, bd148⟩ : cs146 = _ ∧ _ := e147.rd
   refine O rfl (St.load1 J9 rfl (e147.cell 0 _ rfl) (Oa (Oa (Nl (Rg (Om (O rfl (St.conv (z := (((a.getD i 0) : Nat) : Int)) Zt Zw rfl (IntWalk.u64_in _ (by omega)) (Om (O rfl (St.conv (z := (((b.getD j 0) : Nat) : Int)) Zt Zw rfl (IntWalk.u64_in _ (by omega)) (O rfl (St.mul rfl rfl (K6 (a := (a.getD i 0)) (b := (b.getD j 0)) (by omega)) ?_)))))))))))))
   refine Om (Om (Om (O rfl (St.add rfl rfl (Je (a := i) (b := j) (by omega)) (O rfl (St.idxRow (j := i + j) sl24 Jh rfl rfl rfl (by omega) (O rfl (St.loadRow (j := i + j) (u := (L2.getD (i + j) 0)) o139 J9 rfl (Jl (by omega)) (O rfl (St.conv (z := (((L2.getD (i + j) 0) : Nat) : Int)) Zt Zw rfl (IntWalk.u64_in _ (by omega)) ?_))))))))))
   refine O rfl (St.add rfl rfl (J4 (a := (a.getD i 0) * (b.getD j 0)) (b := (L2.getD (i + j) 0)) (by omega)) (Om (O rfl (St.add rfl rfl (J4 (a := ((a.getD i 0) * (b.getD j 0)) + (L2.getD (i + j) 0)) (b := c) (by omega)) (Oa (Nl (W.region (Om (Om (Om (O rfl (St.add rfl rfl (Je (a := i) (b := j) (by omega)) ?_))))))))))))
   refine Om (O rfl (St.conv (z := ((((((a.getD i 0) * (b.getD j 0)) + (L2.getD (i + j) 0)) + c) % 4294967296 : Nat) : Int)) Yj Yh rfl (Jm _) (Om (O rfl (St.shr rfl rfl (by decide) (Yi (d := 4294967296) _ (by decide)) (O rfl (St.idxRow (j := i + j) sl24 Jh rfl rfl rfl (by omega) (On (St.storeRow (j := i + j) (u := ((((a.getD i 0) * (b.getD j 0)) + (L2.getD (i + j) 0)) + c) % 4294967296) C123 o139 Jh rfl rfl (by omega) ?_)))))))))
   intro w149 C150 s151 o152
   replace r0 := r0.sp s151
   replace r1 := r1.sp s151
   replace e117 := e117.sp s151
   refine Oa (Nl (W.region (O rfl (St.add rfl rfl (Je (a := j) (b := 1) (by omega)) (Om (Nl (⟨_, (by omega), _, _, (j + 1), (L2.set (i + j) (((((a.getD i 0) * (b.getD j 0)) + (L2.getD (i + j) 0)) + c) % 4294967296)), ((((a.getD i 0) * (b.getD j 0)) + (L2.getD (i + j) 0)) + c) / 4294967296, C150, rfl, rfl, rfl, rfl, rfl, rfl, rfl, rfl, rfl, rfl, rfl, rfl, rfl, rfl, rfl, r0, r1, e117, o152, (by omega), (by rw [List.length_set]; exact hL2), (Qh hs2 (Nat.mod_lt _ (by omega)) _), (by omega), (Jek (by omega) hz2), (ks (by omega) hv2 (Jn b j)), rfl⟩)))))))
  refine Nl (W.seq (W.condF rfl (W.exit (W.region (Om (Om (Om (O rfl (St.len sl24 rfl (O rfl (St.add rfl rfl (Je (a := i) (b := b.length) (by omega)) (Om (O rfl (St.conv (z := ((c : Nat) : Int)) Yj Yh rfl (IntWalk.u32_in _ (by omega)) (O rfl (St.idxRow (j := i + b.length) sl24 Jh rfl rfl rfl (by omega) ?_))))))))))))))))
  refine On (St.storeRow (j := i + b.length) (u := c) C123 o139 Jh rfl rfl (by omega) ?_)
  intro w153 C154 s155 o156
  replace r0 := r0.sp s155
  replace r1 := r1.sp s155
  refine Nl (W.region (O rfl (St.add rfl rfl (Je (a := i) (b := 1) (by omega)) (Om (Nl (⟨_, (by omega), _, _, (i + 1), (L2.set (i + b.length) c), C154, rfl, rfl, rfl, rfl, rfl, r0, r1, o156, (by omega), (by rw [List.length_set]; exact hL2), (Qh hs2 (by omega) _), (Jjv hz2 ), (by rw [Jn]; exact Jcr (by omega) (Je3 hz2 (by omega)) (by rw [show i + b.length = i + j by omega, hv2, List.take_of_length_le (show b.length ≤ j by omega)])), rfl⟩))))))
 exact Nl (W.seq (W.condF rfl (W.exit (Rg (Om (Oa (Nl (W.ret (Jf rfl (resV.t rfl) (Ret.intro (RS.eqv (o109.rowRS C103 hX (by omega) (by omega) hs id) ((Jh0 h0 h1 h2 hL hs (by rw [hv, List.take_of_length_le (show a.length ≤ i by omega)])))) C103.below))))))))))
set_option maxHeartbeats 1000000 in
theorem Jqc {X : Nat → Prop} {w : World} (hX : ∀ b, X b → b < w.heap.size) {v0 : Value} {a : List Nat} (r0 : RS Jb X w v0 a) {d : Nat} (hla : a.length ≤ 1099511627776) (hd : 0 < d) (hd2 : d < 4294967296) : Calls Tryz.prog 206 #[v0, (.int .u32 ((d : Nat) : Int))] w (Ret w fun v w' => ∃ v0 v1, v = .tuple #[v0, v1] ∧ (RS Jb X w' v0 (Jr a.length (val a / d))) ∧ (v1 = (.int .u32 (((val a % d) : Nat) : Int)))) := by
 obtain ⟨a1, c2, rfl, _, _⟩ := r0.len
 have C := Cx.start hX
 have sa := r0.u32_small
 refine Calls.ofW (args := [(.slice a1 a.length c2), (.int .u32 ((d : Nat) : Int))]) Tryz.func206 rfl rfl (Nat.le_of_ble_eq_true rfl) (Rg (Oa (Oa (Nl (Rg (Om (O rfl (St.len sl24 rfl (O rfl (St.makeRow (n := a.length) C sl24 rfl rfl rfl (by omega) Jh (by decide) ?_))))))))))
 intro g3 w4 x5 y6 lt7 C8 s9 o10
 replace r0 := r0.sp s9
 refine Oa (Nl (Rg (Oa (Nl (Rh (Om (O rfl (St.len sl24 rfl (O rfl (St.sub (z := (((a.length : Nat) : Int) - 1)) rfl rfl (IntWalk.i64_in _ (by omega)) (Oa (Nl (W.block ?_)))))))))))))
 rw [← List.append_nil (List.replicate a.length 0)] at o10
 refine W.loopN (fun μ f v => ∃ (x y : Nat → Prop) (j : Nat) (q : List Nat) (r : Nat), Cx X w x y v ∧ f 0 = (.slice a1 a.length c2) ∧ f 1 = (.int .u32 ((d : Nat) : Int)) ∧ f 4 = (.slice none 0 0) ∧ f 5 = (.int .u32 0) ∧ f 6 = (.slice (some ⟨g3, 0, none⟩) a.length a.length) ∧ f 8 = (.int .i64 ((j : Int) - 1)) ∧ f 7 = (.int .u32 ((r : Nat) : Int)) ∧ RS Jb x v (.slice a1 a.length c2) a ∧ Own w y v g3 ((List.replicate j 0 ++ q).map u32v) 118 ∧ j ≤ a.length ∧ j + q.length = a.length ∧ Jo q ∧ r < d ∧ val q * d + r = val (a.drop j) ∧ μ = j) _ ⟨_, _, a.length, [], 0, C8, rfl, rfl, rfl, rfl, rfl, rfl, rfl, r0, o10, (Nat.le_refl _), rfl, J6, hd, (by rw [List.drop_of_length_le (Nat.le_refl _)]; simp [val]), rfl⟩ ?_
 rintro m25 f11 w12 ⟨x13, y14, j, q, r, C15, e16, e17, e18, e19, e20, e21, e22, r0, o23, hj, hl, hq, hr, hv, hmu24⟩
 obtain ⟨f26, rfl⟩ := rebK (aC e16 (aC e17 (aC e18 (aC e19 (aC e20 (aC e21 (aC e22 aN)))))))
 clear e16 e17 e18 e19 e20 e21 e22
 have hQ : (r * 4294967296 + a.getD (j - 1) 0) / d < 4294967296 := Nat.div_lt_of_lt_mul (by have := Nat.mul_le_mul_right 4294967296 (show r + 1 ≤ d by omega); have := Jg sa (j - 1); omega)
 refine Rh (Om (O rfl (St.geq2 rfl rfl (fun hc27 => ?_) (fun hc27 => ?_))))
 ·refine Nl (W.condT rfl (W.skip (W.seq (W.block (W.region (Om (Om (Om (Om (Om (O rfl (St.idx (j := (j - 1)) (u := (a.getD (j - 1) 0)) r0 sl24 Jh rfl rfl (by omega) (Jl (by omega)) ?_))))))))))))
  intro b28 o29 cs30 e31
  obtain ⟨rfl, bd32⟩ : cs30 = _ ∧ _ := e31.rd
  refine O rfl (St.load1 J9 rfl (e31.cell 0 _ rfl) (Om (O rfl (St.callR C15 cb235 rfl rfl (Jqo C15.bd (hi := r) (lo := (a.getD (j - 1) 0)) (y := d) hr (Jg sa _) hd2) ?_))))
  intro v33 w34 C35 s36 h37
  replace o23 := o23.spn s36
  obtain ⟨v38, v39, rfl, rfl, rfl⟩ := h37
  refine Om (O rfl (St.extract rfl rfl (O rfl (St.extract rfl rfl (O rfl (St.idxRow (j := (j - 1)) sl24 Jh rfl rfl (by omega) (by omega) (On (St.storeRow (j := (j - 1)) (u := ((r * 4294967296 + (a.getD (j - 1) 0)) / d)) C35 o23 Jh rfl rfl (by rw [List.length_append, List.length_replicate]; omega) ?_))))))))
  intro w42 C43 s44 o45
  replace r0 := (r0.sp s36).sp s44
  rw [Jfw (by omega)] at o45
  refine Oa (Nl (W.region (Om (O rfl (St.sub (z := (((j : Int) - 1) - 1)) rfl rfl (IntWalk.i64_in _ (by omega)) (Oa (Nl (⟨_, (by omega), _, _, (j - 1), (((r * 4294967296 + (a.getD (j - 1) 0)) / d) :: q), ((r * 4294967296 + (a.getD (j - 1) 0)) % d), C43, rfl, rfl, rfl, rfl, rfl, (congrArg (Value.int .i64) (by omega)), rfl, r0, o45, (by omega), (by rw [List.length_cons]; omega), (Zm (by omega) hq), (Nat.mod_lt _ hd), (Jgg (by omega) hj hv), rfl⟩))))))))
 refine Nl (W.condF rfl (W.exit (Rg (Om (Om (Oa (Oa (Nl (W.ret (Qk rfl (resV.t rfl) (resV.t rfl) (Ret.intro ?_ C15.below)))))))))))
 refine ⟨_, _, rfl, ?_, ?_⟩
 ·skip
  exact RS.eqv (o23.rowRS C15 hX (by rw [List.length_append, List.length_replicate]; omega) (by omega) (Z5 (Kc _) hq) id) ((Jaz (by omega) hq hl hr hv).1)
 ·skip
  exact congrArg (Value.int _) ((congrArg _ (Jaz (by omega) hq hl hr hv).2))
set_option maxHeartbeats 1000000 in
theorem Jky {X : Nat → Prop} {w : World} (hX : ∀ b, X b → b < w.heap.size) {v0 : Value} {a : List Nat} (r0 : RS Jb X w v0 a) {s : Nat} (hla : a.length < 1099511627776) (hs : s < 32) : Calls Tryz.prog 254 #[v0, (.int .u64 ((s : Nat) : Int))] w (Ret w fun v w' => RS Jb X w' v (Jr (a.length + 1) (val a * 2 ^ s))) := by
 obtain ⟨a1, c2, rfl, _, _⟩ := r0.len
 have C := Cx.start hX
 have sa := r0.u32_small
 have hps := Vm hs
 refine Calls.ofW (args := [(.slice a1 a.length c2), (.int .u64 ((s : Nat) : Int))]) Tryz.func254 rfl rfl (Nat.le_of_ble_eq_true rfl) (Rg (Oa (Nl (Rg (Om (O rfl (St.len sl24 rfl (O rfl (St.add rfl rfl (Je (a := a.length) (b := 1) (by omega)) (O rfl (St.makeRow (n := (a.length + 1)) C sl24 rfl rfl rfl (by omega) Jh (by decide) ?_)))))))))))
 intro g3 w4 x5 y6 lt7 C8 s9 o10
 replace r0 := r0.sp s9
 refine Oa (Nl (Rh (Om (O rfl (St.len sl24 rfl (Om (Nl (W.block (W.loopN (fun μ f v => ∃ (x y : Nat → Prop) (i : Nat) (p : List Nat) (h : Nat), Cx X w x y v ∧ f 1 = (.int .u64 ((s : Nat) : Int)) ∧ f 4 = (.slice none 0 0) ∧ f 5 = (.slice (some ⟨g3, 0, none⟩) (a.length + 1) (a.length + 1)) ∧ f 13 = (.slice a1 a.length c2) ∧ f 14 = (.int .i64 ((a.length : Nat) : Int)) ∧ f 15 = (.int .i64 ((i : Nat) : Int)) ∧ RS Jb x v (.slice a1 a.length c2) a ∧ Own w y v g3 ((p ++ h :: List.replicate (a.length - i) 0).map u32v) 118 ∧ i ≤ a.length ∧ p.length = i ∧ Jo p ∧ h < 2 ^ s ∧ val p + 4294967296 ^ i * h = val (a.take i) * 2 ^ s ∧ μ = (a.length - i)) _ ⟨_, _, 0, [], 0, C8, rfl, rfl, rfl, rfl, rfl, rfl, r0, o10, (Nat.zero_le _), rfl, J6, (Nat.two_pow_pos s), (by simp [val]), rfl⟩ ?_)))))))))
 rintro m24 f11 w12 ⟨x13, y14, i, p, h, C15, e16, e17, e18, e19, e20, e21, r0, o22, hi, hp, hq, hh, hv, hmu23⟩
 obtain ⟨f25, rfl⟩ := rebK (aC e16 (aC e17 (aC e18 (aC e19 (aC e20 (aC e21 aN))))))
 clear e16 e17 e18 e19 e20 e21
 have hx := Jg sa i
 have hxd := Jkw (s := s) hx
 refine Rg (O rfl (St.lss2 rfl rfl (fun hc26 => ?_) (fun hc26 => ?_)))
 ·refine Nl (W.seq (W.condT rfl (W.skip (W.seq (W.block (Rg (Om (O rfl (St.idx (j := i) (u := (a.getD i 0)) r0 sl24 Jh rfl rfl rfl (Jl (by omega)) ?_)))))))))
  intro b27 o28 cs29 e30
  obtain ⟨rfl, bd31⟩ : cs29 = _ ∧ _ := e30.rd
  refine O rfl (St.load1 J9 rfl (e30.cell 0 _ rfl) (Oa (Oa (Nl (Rg (Om (O rfl (St.conv (z := (((a.getD i 0) : Nat) : Int)) Zt Zw rfl (IntWalk.u64_in _ (by omega)) (Om (O rfl (St.shl rfl rfl (by omega) (X6 (Jii hx hs)) (Oa (Nl (Rg (Om ?_)))))))))))))))
  refine Om (O rfl (St.idxRow (j := i) sl24 Jh rfl rfl rfl (by omega) (O rfl (St.loadRow (j := i) (u := h) o22 J9 rfl (Jjx hp) (Om (O rfl (St.conv (z := ((((a.getD i 0) * 2 ^ s) % 4294967296 : Nat) : Int)) Yj Yh rfl (Jm _) (O rfl (St.or (z := ((h + a.getD i 0 * 2 ^ s % 4294967296 : Nat) : Int)) rfl rfl ((jk (a := h) (b := a.getD i 0 * 2 ^ s % 4294967296) (by omega) (by omega)).trans (congrArg _ (Jkb hs hh))) ?_)))))))))
  refine O rfl (St.idxRow (j := i) sl24 Jh rfl rfl rfl (by omega) (On (St.storeRow (j := i) (u := h + a.getD i 0 * 2 ^ s % 4294967296) C15 o22 Jh rfl rfl (by simp only [List.length_append, List.length_cons, List.length_replicate, List.length_nil]; omega) ?_)))
  intro w32 C33 s34 o35
  rw [Joa hp] at o35
  refine Nl (W.region (Om (Om (O rfl (St.add rfl rfl (Je (a := i) (b := 1) (by omega)) (Om (O rfl (St.shr rfl rfl (by decide) (Yi (d := 4294967296) _ (by decide)) (O rfl (St.conv (z := ((a.getD i 0 * 2 ^ s / 4294967296 : Nat) : Int)) Yj Yh rfl (IntWalk.u32_in _ (by omega)) (O rfl (St.idxRow (j := i + 1) sl24 Jh rfl rfl rfl (by omega) ?_))))))))))))
  refine On (St.storeRow (j := i + 1) (u := a.getD i 0 * 2 ^ s / 4294967296) C33 o35 Jh rfl rfl (by simp only [List.length_append, List.length_cons, List.length_replicate, List.length_nil]; omega) ?_)
  intro w36 C37 s38 o39
  replace r0 := (r0.sp s34).sp s38
  rw [Jil hp (by omega)] at o39
  refine Nl (W.region (O rfl (St.add rfl rfl (Je (a := i) (b := 1) (by omega)) (Om (Nl (⟨_, (by omega), _, _, (i + 1), (p ++ [h + a.getD i 0 * 2 ^ s % 4294967296]), (a.getD i 0 * 2 ^ s / 4294967296), C37, rfl, rfl, rfl, rfl, rfl, rfl, r0, o39, (by omega), (by rw [List.length_append, hp]; rfl), (Jw hq (Jb8 hs hh)), hxd, (jx hp hv), rfl⟩))))))
 exact Nl (W.seq (W.condF rfl (W.exit (Rg (Om (Oa (Nl (W.ret (Jf rfl (resV.t rfl) (Ret.intro (RS.eqv (o22.rowRS C15 hX (by simp only [List.length_append, List.length_cons, List.length_replicate, List.length_nil]; omega) (by omega) (Z5 hq (Zm (by omega) (Kc _))) id) ((qf hq hs hh hp (by omega) hv))) C15.below))))))))))
set_option maxHeartbeats 1000000 in
theorem Jd8 {X : Nat → Prop} {w : World} (hX : ∀ b, X b → b < w.heap.size) {v0 : Value} {a : List Nat} (r0 : RS Jb X w v0 a) {s : Nat} (hla : a.length ≤ 1099511627776) (hs : s < 32) : Calls Tryz.prog 256 #[v0, (.int .u64 ((s : Nat) : Int))] w (Ret w fun v w' => RS Jb X w' v (Jr a.length (val a / 2 ^ s))) := by
 obtain ⟨a1, c2, rfl, _, _⟩ := r0.len
 have C := Cx.start hX
 have sa := r0.u32_small
 refine Calls.ofW (args := [(.slice a1 a.length c2), (.int .u64 ((s : Nat) : Int))]) Tryz.func256 rfl rfl (Nat.le_of_ble_eq_true rfl) (Rg (Oa (Nl (Rg (Om (O rfl (St.len sl24 rfl (O rfl (St.makeRow (n := a.length) C sl24 rfl rfl rfl (by omega) Jh (by decide) ?_)))))))))
 intro g3 w4 x5 y6 lt7 C8 s9 o10
 replace r0 := r0.sp s9
 refine Oa (Nl (Rh (Om (O rfl (St.len sl24 rfl (Om (Nl (W.block (W.loopN (fun μ f v => ∃ (x y : Nat → Prop) (i : Nat), Cx X w x y v ∧ f 0 = (.slice a1 a.length c2) ∧ f 1 = (.int .u64 ((s : Nat) : Int)) ∧ f 4 = (.slice none 0 0) ∧ f 5 = (.slice (some ⟨g3, 0, none⟩) a.length a.length) ∧ f 12 = (.int .i64 ((a.length : Nat) : Int)) ∧ f 13 = (.int .i64 ((i : Nat) : Int)) ∧ RS Jb x v (.slice a1 a.length c2) a ∧ Own w y v g3 ((Jr i (val a / 2 ^ s) ++ List.replicate (a.length - i) 0).map u32v) 118 ∧ i ≤ a.length ∧ μ = (a.length - i)) _ ⟨_, _, 0, C8, rfl, rfl, rfl, rfl, rfl, rfl, r0, o10, (Nat.zero_le _), rfl⟩ ?_)))))))))
 rintro m24 f11 w12 ⟨x13, y14, i, C15, e16, e17, e18, e19, e20, e21, r0, o22, hi, hmu23⟩
 obtain ⟨f25, rfl⟩ := rebK (aC e16 (aC e17 (aC e18 (aC e19 (aC e20 (aC e21 aN))))))
 clear e16 e17 e18 e19 e20 e21
 have hx := Jg sa i
 have hx1 := Jg sa (i + 1)
 have hlN := Ji i (val a / 2 ^ s)
 refine Rg (O rfl (St.lss2 rfl rfl (fun hc26 => ?_) (fun hc26 => ?_)))
 ·refine Nl (W.seq (W.condT rfl (W.skip (W.seq (W.block (Rg (Om (Oa (Nl (Rg (Om (Om (O rfl (St.idx (j := i) (u := (a.getD i 0)) r0 sl24 Jh rfl rfl rfl (Jl (by omega)) ?_))))))))))))))
  intro b27 o28 cs29 e30
  obtain ⟨rfl, bd31⟩ : cs29 = _ ∧ _ := e30.rd
  refine O rfl (St.load1 J9 rfl (e30.cell 0 _ rfl) (O rfl (St.conv (z := (((a.getD i 0) : Nat) : Int)) Zt Zw rfl (IntWalk.u64_in _ (by omega)) (Oa (Nl (Rh (Om (O rfl (St.add rfl rfl (Je (a := i) (b := 1) (by omega)) (Om (O rfl (St.len sl24 rfl (O rfl (St.lss2 rfl rfl (fun hc32 => ?_) (fun hc32 => ?_)))))))))))))))
  ·refine Nl (W.condT rfl (W.region (Om (Om (Om (O rfl (St.add rfl rfl (Je (a := i) (b := 1) (by omega)) (O rfl (St.idx (j := i + 1) (u := (a.getD (i + 1) 0)) r0 sl24 Jh rfl rfl rfl (Jl (by omega)) ?_)))))))))
   intro b33 o34 cs35 e36
   obtain ⟨rfl, bd37⟩ : cs35 = _ ∧ _ := e36.rd
   refine O rfl (St.load1 J9 rfl (e36.cell 0 _ rfl) (O rfl (St.conv (z := (((a.getD (i + 1) 0) : Nat) : Int)) Zt Zw rfl (IntWalk.u64_in _ (by omega)) (O rfl (St.shl rfl rfl (by decide) (Vk (a := (a.getD (i + 1) 0)) (d := 4294967296) (by decide) (by omega)) (O rfl (St.or (z := ((a.getD i 0 + a.getD (i + 1) 0 * 4294967296 : Nat) : Int)) rfl rfl ((Jgd (a := a.getD i 0) (b := a.getD (i + 1) 0 * 4294967296) (by omega) (by omega)).trans (congrArg _ (Jtv hx))) ?_)))))))
   refine Oa (Nl (W.region (Om (Om (Om (Om (O rfl (St.shr rfl rfl (by omega) (jy (by omega)) (O rfl (St.conv (z := ((((a.getD i 0 + a.getD (i + 1) 0 * 4294967296) / 2 ^ s) % 4294967296 : Nat) : Int)) Yj Yh rfl (Jm _) (O rfl (St.idxRow (j := i) sl24 Jh rfl rfl rfl (by omega) ?_))))))))))))
   refine On (St.storeRow (j := i) (u := ((a.getD i 0 + a.getD (i + 1) 0 * 4294967296) / 2 ^ s) % 4294967296) C15 o22 Jh rfl rfl (by rw [List.length_append, List.length_replicate, hlN]; omega) ?_)
   intro w38 C39 s40 o41
   replace r0 := r0.sp s40
   rw [Ky hlN (by omega), Jb4 sa hs (by omega) rfl] at o41
   refine Nl (W.region (O rfl (St.add rfl rfl (Je (a := i) (b := 1) (by omega)) (Om (Nl (⟨_, (by omega), _, _, (i + 1), C39, rfl, rfl, rfl, rfl, rfl, rfl, r0, o41, (by omega), rfl⟩))))))
  refine Nl (W.condF rfl (W.skip (W.region (Om (Om (Om (Om (O rfl (St.shr rfl rfl (by omega) (jy (by omega)) (O rfl (St.conv (z := ((((a.getD i 0) / 2 ^ s) % 4294967296 : Nat) : Int)) Yj Yh rfl (Jm _) (O rfl (St.idxRow (j := i) sl24 Jh rfl rfl rfl (by omega) (On (St.storeRow (j := i) (u := ((a.getD i 0) / 2 ^ s) % 4294967296) C15 o22 Jh rfl rfl (by rw [List.length_append, List.length_replicate, hlN]; omega) ?_)))))))))))))))
  intro w42 C43 s44 o45
  replace r0 := r0.sp s44
  rw [Ky hlN (by omega), Jgc sa hs (by omega) (by omega)] at o45
  refine Nl (W.region (O rfl (St.add rfl rfl (Je (a := i) (b := 1) (by omega)) (Om (Nl (⟨_, (by omega), _, _, (i + 1), C43, rfl, rfl, rfl, rfl, rfl, rfl, r0, o45, (by omega), rfl⟩))))))
 exact Nl (W.seq (W.condF rfl (W.exit (Rg (Om (Oa (Nl (W.ret (Jf rfl (resV.t rfl) (Ret.intro (RS.eqv (o22.rowRS C15 hX (by rw [List.length_append, List.length_replicate, Ji]; omega) (by omega) (Z5 (Jz _ _) (Kc _)) id) ((by rw [show a.length - i = 0 by omega, List.replicate_zero, List.append_nil, show i = a.length by omega]))) C15.below))))))))))
end Go.Wf
namespace Go.Wf
open Go Go.Proofs Go.RowKit
set_option maxRecDepth 100000
set_option linter.unusedVariables false
set_option linter.unusedSimpArgs false
set_option maxHeartbeats 1000000 in
theorem Jpc {X : Nat → Prop} {w : World} (hX : ∀ b, X b → b < w.heap.size) {x : Nat} (hx : x < 4294967296) : Calls Tryz.prog 135 #[(.int .u32 ((x : Nat) : Int))] w (Ret w fun v w' => v = (.int .i64 (((blen x) : Nat) : Int))) := by
 have C := Cx.start hX
 refine Calls.ofW (args := [(.int .u32 ((x : Nat) : Int))]) Tryz.func135 rfl rfl (Nat.le_of_ble_eq_true rfl) (Rg (Oa (Nl (Rh (Om (O rfl (St.geq2 rfl rfl (fun hc1 => ?_) (fun hc1 => ?_))))))))
 ·refine Nl (W.condT rfl (Rg (Om (O rfl (St.shr rfl rfl (by decide) (Yi (d := 65536) _ (by decide)) (Oa (Nl (W.region (Oa (Nl (Rh (Om (O rfl (St.geq2 rfl rfl (fun hc2 => ?_) (fun hc2 => ?_)))))))))))))))
  ·refine Nl (W.condT rfl (Rg (Om (O rfl (St.shr rfl rfl (by decide) (Yi (d := 256) _ (by decide)) (Oa (Nl (W.region (Om (O rfl (St.add (z := (16 + 8)) rfl rfl (IntWalk.i64_in _ (by omega)) (Oa (Nl (W.seq ?_))))))))))))))
   have hb8 := UInt8.toNat_lt (UInt8.ofNat (blen ((x / 65536) / 256 % 256)))
   refine W.region (Om (Om (O rfl (St.conv (z := ((((x / 65536) / 256) % 256 : Nat) : Int)) Zt un5 rfl (Xo _) (O rfl (St.indexL (j := ((x / 65536) / 256) % 256) (c := (UInt8.ofNat (blen (((x / 65536) / 256) % 256)))) un9 rfl rfl rfl (Qu (Nat.mod_lt _ (by decide))) (O rfl (St.conv (z := (((UInt8.ofNat (blen (((x / 65536) / 256) % 256))).toNat : Nat) : Int)) us5 un3 rfl (IntWalk.i64_in _ (by omega)) ?_))))))))
   exact O rfl (St.add (z := ((16 + 8) + (((UInt8.ofNat (blen (((x / 65536) / 256) % 256))).toNat : Nat) : Int))) rfl rfl (IntWalk.i64_in _ (by omega)) (Oa (Nl (W.ret (Jf rfl (resV.t rfl) (Ret.intro (congrArg (Value.int _) ((by rw [tabv (Nat.mod_lt _ (by decide)), Jp8 (x := x) (by omega) (by omega) hx]; omega))) C.below))))))
  refine Nl (W.condF rfl (W.skip (W.seq ?_)))
  have hb8 := UInt8.toNat_lt (UInt8.ofNat (blen (x / 65536 % 256)))
  refine W.region (Om (Om (O rfl (St.conv (z := (((x / 65536) % 256 : Nat) : Int)) Zt un5 rfl (Xo _) (O rfl (St.indexL (j := (x / 65536) % 256) (c := (UInt8.ofNat (blen ((x / 65536) % 256)))) un9 rfl rfl rfl (Qu (Nat.mod_lt _ (by decide))) (O rfl (St.conv (z := (((UInt8.ofNat (blen ((x / 65536) % 256))).toNat : Nat) : Int)) us5 un3 rfl (IntWalk.i64_in _ (by omega)) ?_))))))))
  exact O rfl (St.add rfl rfl (Je (a := 16) (b := (UInt8.ofNat (blen ((x / 65536) % 256))).toNat) (by omega)) (Oa (Nl (W.ret (Jf rfl (resV.t rfl) (Ret.intro (congrArg (Value.int _) ((by rw [tabv (Nat.mod_lt _ (by decide)), Jqh (x := x) (by omega) (by omega)]; omega))) C.below))))))
 refine Nl (W.condF rfl (W.skip (Rh (Om (O rfl (St.geq2 rfl rfl (fun hc3 => ?_) (fun hc3 => ?_)))))))
 ·refine Nl (W.condT rfl (Rg (Om (O rfl (St.shr rfl rfl (by decide) (Yi (d := 256) _ (by decide)) (Oa (Nl (W.region (Om (O rfl (St.add (z := (0 + 8)) rfl rfl (IntWalk.i64_in _ (by omega)) (Oa (Nl (W.seq ?_))))))))))))))
  have hb8 := UInt8.toNat_lt (UInt8.ofNat (blen (x / 256 % 256)))
  refine W.region (Om (Om (O rfl (St.conv (z := (((x / 256) % 256 : Nat) : Int)) Zt un5 rfl (Xo _) (O rfl (St.indexL (j := (x / 256) % 256) (c := (UInt8.ofNat (blen ((x / 256) % 256)))) un9 rfl rfl rfl (Qu (Nat.mod_lt _ (by decide))) (O rfl (St.conv (z := (((UInt8.ofNat (blen ((x / 256) % 256))).toNat : Nat) : Int)) us5 un3 rfl (IntWalk.i64_in _ (by omega)) ?_))))))))
  exact O rfl (St.add (z := ((0 + 8) + (((UInt8.ofNat (blen ((x / 256) % 256))).toNat : Nat) : Int))) rfl rfl (IntWalk.i64_in _ (by omega)) (Oa (Nl (W.ret (Jf rfl (resV.t rfl) (Ret.intro (congrArg (Value.int _) ((by rw [tabv (Nat.mod_lt _ (by decide)), Jp5 (x := x) (by omega) (by omega)]; omega))) C.below))))))
 refine Nl (W.condF rfl (W.skip (W.seq ?_)))
 have hb8 := UInt8.toNat_lt (UInt8.ofNat (blen (x % 256)))
 refine W.region (Om (Om (O rfl (St.conv (z := ((x % 256 : Nat) : Int)) Zt un5 rfl (Xo _) (O rfl (St.indexL (j := x % 256) (c := (UInt8.ofNat (blen (x % 256)))) un9 rfl rfl rfl (Qu (Nat.mod_lt _ (by decide))) (O rfl (St.conv (z := (((UInt8.ofNat (blen (x % 256))).toNat : Nat) : Int)) us5 un3 rfl (IntWalk.i64_in _ (by omega)) ?_))))))))
 exact O rfl (St.add rfl rfl (Je (a := 0) (b := (UInt8.ofNat (blen (x % 256))).toNat) (by omega)) (Oa (Nl (W.ret (Jf rfl (resV.t rfl) (Ret.intro (congrArg (Value.int _) ((by rw [tabv (Nat.mod_lt _ (by decide)), Jqa (x := x) (by omega)]; omega))) C.below))))))
set_option maxHeartbeats 1000000 in
theorem Ju1 {X : Nat → Prop} {w : World} (hX : ∀ b, X b → b < w.heap.size) {x : Nat} (hx : x < 4294967296) : Calls Tryz.prog 253 #[(.int .u32 ((x : Nat) : Int))] w (Ret w fun v w' => v = (.int .i64 (((32 - blen x) : Nat) : Int))) := by
 have C := Cx.start hX
 have hb := vo hx
 refine Calls.ofW (args := [(.int .u32 ((x : Nat) : Int))]) Tryz.func253 rfl rfl (Nat.le_of_ble_eq_true rfl) (Rg (Oa (Nl (Rg (Om (O rfl (St.callR C cb135 rfl rfl (Jpc C.bd (x := x) (by omega)) ?_)))))))
 intro v1 w2 C3 s4 h5
 subst h5
 exact O rfl (St.sub (z := (32 - (((blen x) : Nat) : Int))) rfl rfl (IntWalk.i64_in _ (by omega)) (Oa (Nl (W.ret (Jf rfl (resV.t rfl) (Ret.intro (congrArg (Value.int _) ((by omega))) C3.below))))))
set_option maxHeartbeats 4000000 in
theorem Jp4 {X : Nat → Prop} {w : World} (hX : ∀ b, X b → b < w.heap.size) {g j c : Nat} {A U Z : List Nat} (hA : A.length = j) (hB : Blk w g ((A ++ U ++ Z).map u32v) 118) (hXg : X g) {v1 : Value} {V : List Nat} (r1 : RS Jb X w v1 V) (sU : Jo U) (hn : 2 ≤ V.length) (hnB : V.length ≤ 1099511627776) (hU : U.length = V.length + 1) (htop : 0 < (V.getD (V.length - 1) 0)) (hlt : val U < val V * 4294967296) : Calls Tryz.prog 255 #[(.slice (some ⟨g, j, none⟩) U.length c), v1] w (RetM w g fun v w' => v = (.int .u32 (((val U / val V) : Nat) : Int)) ∧ Blk w' g ((A ++ (Jr (V.length + 1) (val U % val V)) ++ Z).map u32v) 118) := by
 obtain ⟨a1, c2, rfl, _, _⟩ := r1.len
 have C := Cx.startM g hX hXg
 have o0 := Own.startM hB
 have sv := r1.u32_small
 have hUe := kn_hU hn hU
 have hVe := kn_hV hn
 have hu2 := Jg sU (V.length - 2)
 have hun := Jg sU V.length
 have hu1 := Jg sU (V.length - 1)
 have hv1 := Jg sv (V.length - 1)
 have hv2 := Jg sv (V.length - 2)
 have hUl := Xv (k := V.length - 2) sU (by omega)
 have hVl := Xv (k := V.length - 2) sv (by omega)
 have htopb := Jrf hVl hv2 hu1 (by rw [← hUe, ← hVe]; exact hlt)
 have hVpos : 0 < val V := by rw [hVe]; exact Nat.lt_of_lt_of_le (Nat.mul_pos (Nat.pow_pos (by decide)) (show 0 < (V.getD (V.length - 2) 0) + 4294967296 * (V.getD (V.length - 1) 0) by omega)) (Nat.le_add_left _ _)
 refine Calls.ofW (args := [(.slice (some ⟨g, j, none⟩) U.length c), (.slice a1 V.length c2)]) Tryz.func255 rfl rfl (Nat.le_of_ble_eq_true rfl) (Rg (Oa (Nl (Rg (Om (O rfl (St.len sl24 rfl (Oa (Nl (W.seq (W.drawC Zc 12 [[], [], [0, 1], [2], [3], [4], [], [], [7], [6, 8], [9], [10]] C [fx (.slice (some ⟨g, j, none⟩) U.length c), fx (.int .i64 ((V.length : Nat) : Int)), fx (.pointer (some ⟨g, j + V.length, none⟩)), fx (.int .u32 (((U.getD V.length 0) : Nat) : Int)), fx (.int .u64 (((U.getD V.length 0) : Nat) : Int)), fx (.int .u64 (((U.getD V.length 0) * 4294967296 : Nat) : Int)), fx (.slice (some ⟨g, j, none⟩) U.length c), fx (.int .i64 ((V.length : Nat) : Int)), fx (.int .i64 ((V.length - 1 : Nat) : Int)), fx (.pointer (some ⟨g, j + (V.length - 1), none⟩)), fx (.int .u32 (((U.getD (V.length - 1) 0) : Nat) : Int)), fx (.int .u64 (((U.getD (V.length - 1) 0) : Nat) : Int))] (by kernel_rfl) ⟨sx, sx, sx, sx, sx, sx, sx, sx, sx, sx, sx, sx, trivial⟩ fun f4 s5 w6 ⟨C9, S10⟩ k8 => ?_)))))))))))
 replace o0 := o0.spn S10
 have k8 : Keep [19, 20, 21, 22, 23, 24, 25, 26, 27, 28, 29, 30] _ f4 := k8
 refine ⟨⟨fun _ => ?_, fun _ => ?_, fun ⟨e12, e13, _⟩ => ?_, fun ⟨e14, _⟩ => ?_, fun ⟨e15, _⟩ => ?_, fun ⟨e16, _⟩ => ?_, fun _ => ?_, fun _ => ?_, fun ⟨e17, _⟩ => ?_, fun ⟨e18, e19, _⟩ => ?_, fun ⟨e20, _⟩ => ?_, fun ⟨e21, _⟩ => ?_, trivial⟩, fun ⟨e22, e23, e24, e25, e26, e27, e28, e29, e30, e31, e32, e33, _⟩ => ?_⟩
 ·exact Ja k8 aN fun _ => OpSt.op (St.move ⟨s5, RC.same C9, rfl⟩)
 ·exact Ja k8 aN fun _ => OpSt.op (St.move ⟨s5, RC.same C9, rfl⟩)
 ·exact Ja k8 (aC e12 (aC e13 aN)) fun _ => OpSt.op (St.idxRowO (j := V.length) sl24 Jh rfl rfl rfl (by omega) ⟨s5, RC.same C9, rfl⟩)
 ·exact Ja k8 (aC e14 aN) fun _ => OpSt.op (St.loadRowO (j := V.length) (u := (U.getD V.length 0)) hA o0 J9 rfl (Jl (by omega)) ⟨s5, RC.same C9, rfl⟩)
 ·exact Ja k8 (aC e15 aN) fun _ => OpSt.op (St.conv (z := (((U.getD V.length 0) : Nat) : Int)) Zt Zw rfl (IntWalk.u64_in _ (by omega)) ⟨s5, RC.same C9, rfl⟩)
 ·exact Ja k8 (aC e16 aN) fun _ => OpSt.op (St.shl (z := (((U.getD V.length 0) * 4294967296 : Nat) : Int)) rfl rfl (by decide) (ky hun) ⟨s5, RC.same C9, rfl⟩)
 ·exact Ja k8 aN fun _ => OpSt.op (St.move ⟨s5, RC.same C9, rfl⟩)
 ·exact Ja k8 aN fun _ => OpSt.op (St.move ⟨s5, RC.same C9, rfl⟩)
 ·exact Ja k8 (aC e17 aN) fun _ => OpSt.op (St.sub rfl rfl (Zz (a := V.length) (b := 1) (by omega) (by omega)) ⟨s5, RC.same C9, rfl⟩)
 ·exact Ja k8 (aC e18 (aC e19 aN)) fun _ => OpSt.op (St.idxRowO (j := V.length - 1) sl24 Jh rfl rfl rfl (by omega) ⟨s5, RC.same C9, rfl⟩)
 ·exact Ja k8 (aC e20 aN) fun _ => OpSt.op (St.loadRowO (j := V.length - 1) (u := (U.getD (V.length - 1) 0)) hA o0 J9 rfl (Jl (by omega)) ⟨s5, RC.same C9, rfl⟩)
 ·exact Ja k8 (aC e21 aN) fun _ => OpSt.op (St.conv (z := (((U.getD (V.length - 1) 0) : Nat) : Int)) Zt Zw rfl (IntWalk.u64_in _ (by omega)) ⟨s5, RC.same C9, rfl⟩)
 obtain ⟨f34, rfl⟩ := mixK k8 (aC e22 (aC e23 (aC e24 (aC e25 (aC e26 (aC e27 (aC e28 (aC e29 (aC e30 (aC e31 (aC e32 (aC e33 aN))))))))))))
 refine O rfl (St.or (z := (((U.getD V.length 0) * 4294967296 + (U.getD (V.length - 1) 0) : Nat) : Int)) rfl rfl (k5 hun hu1) (Oa (Nl (W.seq (W.drawC Zc 17 [[], [], [], [2], [1, 3], [4], [5], [0, 6], [], [], [], [10], [9, 11], [12], [13], [8, 14], [7]] C9 [fx (.int .u64 (((U.getD V.length 0) * 4294967296 + (U.getD (V.length - 1) 0) : Nat) : Int)), fx (.slice a1 V.length c2), fx (.int .i64 ((V.length : Nat) : Int)), fx (.int .i64 ((V.length - 1 : Nat) : Int)), fE Jb (V.getD (V.length - 1) 0), fx (.int .u32 (((V.getD (V.length - 1) 0) : Nat) : Int)), fx (.int .u64 (((V.getD (V.length - 1) 0) : Nat) : Int)), fx (.int .u64 ((((U.getD V.length 0) * 4294967296 + (U.getD (V.length - 1) 0)) / (V.getD (V.length - 1) 0) : Nat) : Int)), fx (.int .u64 (((U.getD V.length 0) * 4294967296 + (U.getD (V.length - 1) 0) : Nat) : Int)), fx (.slice a1 V.length c2), fx (.int .i64 ((V.length : Nat) : Int)), fx (.int .i64 ((V.length - 1 : Nat) : Int)), fE Jb (V.getD (V.length - 1) 0), fx (.int .u32 (((V.getD (V.length - 1) 0) : Nat) : Int)), fx (.int .u64 (((V.getD (V.length - 1) 0) : Nat) : Int)), fx (.int .u64 ((((U.getD V.length 0) * 4294967296 + (U.getD (V.length - 1) 0)) % (V.getD (V.length - 1) 0) : Nat) : Int)), fx (.int .u64 ((((U.getD V.length 0) * 4294967296 + (U.getD (V.length - 1) 0)) / (V.getD (V.length - 1) 0) : Nat) : Int))] (by kernel_rfl) ⟨sx, sx, sx, sx, sE, sx, sx, sx, sx, sx, sx, sx, sE, sx, sx, sx, sx, trivial⟩ fun f46 s47 w48 ⟨C51, S52⟩ k50 => ?_)))))
 replace r1 := (r1.sp S10).sp S52
 replace o0 := o0.spn S52
 have k50 : Keep [32, 33, 34, 35, 36, 37, 38, 39, 40, 41, 42, 43, 44, 45, 46, 47, 7] _ f46 := k50
 refine ⟨⟨fun _ => ?_, fun _ => ?_, fun _ => ?_, fun ⟨e54, _⟩ => ?_, fun ⟨e55, e56, _⟩ => ?_, fun ⟨d57, _⟩ => ?_, fun ⟨e58, _⟩ => ?_, fun ⟨e59, e60, _⟩ => ?_, fun _ => ?_, fun _ => ?_, fun _ => ?_, fun ⟨e61, _⟩ => ?_, fun ⟨e62, e63, _⟩ => ?_, fun ⟨d64, _⟩ => ?_, fun ⟨e65, _⟩ => ?_, fun ⟨e66, e67, _⟩ => ?_, fun ⟨e68, _⟩ => ?_, trivial⟩, fun ⟨e69, e70, e71, e72, d73, e74, e75, e76, e77, e78, e79, e80, d81, e82, e83, e84, e85, _⟩ => ?_⟩
 ·exact Ja k50 aN fun _ => OpSt.op (St.move ⟨s47, RC.same C51, rfl⟩)
 ·exact Ja k50 aN fun _ => OpSt.op (St.move ⟨s47, RC.same C51, rfl⟩)
 ·exact Ja k50 aN fun _ => OpSt.op (St.move ⟨s47, RC.same C51, rfl⟩)
 ·exact Ja k50 (aC e54 aN) fun _ => OpSt.op (St.sub rfl rfl (Zz (a := V.length) (b := 1) (by omega) (by omega)) ⟨s47, RC.same C51, rfl⟩)
 ·refine Ja k50 (aC e55 (aC e56 aN)) fun _ => OpSt.op (St.idx (j := V.length - 1) (u := (V.getD (V.length - 1) 0)) r1 sl24 Jh rfl rfl rfl (Jl (by omega)) ?_)
  intro b86 o87 cs88 e89
  obtain ⟨rfl, bd90⟩ : cs88 = _ ∧ _ := e89.rd
  exact ⟨s47, RC.same C51, ⟨_, _, _, rfl, e89⟩⟩
 ·obtain ⟨b92, o93, cs94, e91, e95⟩ := d57
  obtain ⟨rfl, bd96⟩ : cs94 = _ ∧ _ := e95.rd
  exact Ja k50 (aC e91 aN) fun _ => OpSt.op (St.load1 J9 rfl (e95.cell 0 _ rfl) ⟨s47, RC.same C51, rfl⟩)
 ·exact Ja k50 (aC e58 aN) fun _ => OpSt.op (St.conv (z := (((V.getD (V.length - 1) 0) : Nat) : Int)) Zt Zw rfl (IntWalk.u64_in _ (by omega)) ⟨s47, RC.same C51, rfl⟩)
 ·exact Ja k50 (aC e59 (aC e60 aN)) fun _ => OpSt.op (St.quo rfl rfl (by omega) (Xp (a := (U.getD V.length 0) * 4294967296 + (U.getD (V.length - 1) 0)) (b := (V.getD (V.length - 1) 0)) (by omega)) ⟨s47, RC.same C51, rfl⟩)
 ·exact Ja k50 aN fun _ => OpSt.op (St.move ⟨s47, RC.same C51, rfl⟩)
 ·exact Ja k50 aN fun _ => OpSt.op (St.move ⟨s47, RC.same C51, rfl⟩)
 ·exact Ja k50 aN fun _ => OpSt.op (St.move ⟨s47, RC.same C51, rfl⟩)
 ·exact Ja k50 (aC e61 aN) fun _ => OpSt.op (St.sub rfl rfl (Zz (a := V.length) (b := 1) (by omega) (by omega)) ⟨s47, RC.same C51, rfl⟩)
 ·refine Ja k50 (aC e62 (aC e63 aN)) fun _ => OpSt.op (St.idx (j := V.length - 1) (u := (V.getD (V.length - 1) 0)) r1 sl24 Jh rfl rfl rfl (Jl (by omega)) ?_)
  intro b97 o98 cs99 e100
  obtain ⟨rfl, bd101⟩ : cs99 = _ ∧ _ := e100.rd
  exact ⟨s47, RC.same C51, ⟨_, _, _, rfl, e100⟩⟩
 ·obtain ⟨b103, o104, cs105, e102, e106⟩ := d64
  obtain ⟨rfl, bd107⟩ : cs105 = _ ∧ _ := e106.rd
  exact Ja k50 (aC e102 aN) fun _ => OpSt.op (St.load1 J9 rfl (e106.cell 0 _ rfl) ⟨s47, RC.same C51, rfl⟩)
 ·exact Ja k50 (aC e65 aN) fun _ => OpSt.op (St.conv (z := (((V.getD (V.length - 1) 0) : Nat) : Int)) Zt Zw rfl (IntWalk.u64_in _ (by omega)) ⟨s47, RC.same C51, rfl⟩)
 ·exact Ja k50 (aC e66 (aC e67 aN)) fun _ => OpSt.op (St.rem rfl rfl (by omega) (Xw ((U.getD V.length 0) * 4294967296 + (U.getD (V.length - 1) 0)) (V.getD (V.length - 1) 0)) ⟨s47, RC.same C51, rfl⟩)
 ·exact Ja k50 (aC e68 aN) fun _ => OpSt.op (St.assign ⟨s47, RC.same C51, rfl⟩)
 obtain ⟨b109, o110, cs111, e108, e112⟩ := d73
 obtain ⟨rfl, bd113⟩ : cs111 = _ ∧ _ := e112.rd
 obtain ⟨b115, o116, cs117, e114, e118⟩ := d81
 obtain ⟨rfl, bd119⟩ : cs117 = _ ∧ _ := e118.rd
 obtain ⟨f120, rfl⟩ := mixK k50 (aC e69 (aC e70 (aC e71 (aC e72 (aC e108 (aC e74 (aC e75 (aC e76 (aC e77 (aC e78 (aC e79 (aC e80 (aC e114 (aC e82 (aC e83 (aC e84 (aC e85 aN)))))))))))))))))
 refine Oa (Nl (W.seq (W.cut (fun f v => ∃ (x y : Nat → Prop) (q : Nat), Cx X ⟨w, (· = g)⟩ x y v ∧ f 0 = (.slice (some ⟨g, j, none⟩) U.length c) ∧ f 1 = (.slice a1 V.length c2) ∧ f 4 = (.int .u32 0) ∧ f 5 = (.int .i64 ((V.length : Nat) : Int)) ∧ f 7 = (.int .u64 ((q : Nat) : Int)) ∧ RS Jb x v (.slice a1 V.length c2) V ∧ Own ⟨w, (· = g)⟩ y v g ((A ++ U ++ Z).map u32v) 118 ∧ val U / val V ≤ q ∧ q ≤ val U / val V + 1 ∧ q < 4294967296) ?_ ?_)))
 ·refine W.block (W.loopN (fun μ f v => ∃ (x y : Nat → Prop) (k : Nat) (r : Nat), Cx X ⟨w, (· = g)⟩ x y v ∧ f 0 = (.slice (some ⟨g, j, none⟩) U.length c) ∧ f 1 = (.slice a1 V.length c2) ∧ f 4 = (.int .u32 0) ∧ f 5 = (.int .i64 ((V.length : Nat) : Int)) ∧ f 7 = (.int .u64 ((k : Nat) : Int)) ∧ f 8 = (.int .u64 ((r : Nat) : Int)) ∧ RS Jb x v (.slice a1 V.length c2) V ∧ Own ⟨w, (· = g)⟩ y v g ((A ++ U ++ Z).map u32v) 118 ∧ val U / val V ≤ k ∧ k * (V.getD (V.length - 1) 0) + r = (U.getD V.length 0) * 4294967296 + (U.getD (V.length - 1) 0) ∧ r < 4294967296 ∧ μ = k) _ ⟨_, _, ((U.getD V.length 0) * 4294967296 + (U.getD (V.length - 1) 0)) / (V.getD (V.length - 1) 0), ((U.getD V.length 0) * 4294967296 + (U.getD (V.length - 1) 0)) % (V.getD (V.length - 1) 0), C51, rfl, rfl, rfl, rfl, rfl, rfl, r1, o0, (by rw [hUe, hVe]; exact (kn_g0 hUl hu2).resolve_right (by omega)), (by rw [Nat.mul_comm]; exact Nat.div_add_mod _ _), (Nat.lt_trans (Nat.mod_lt _ htop) hv1), rfl⟩ ?_)
  rintro m134 f121 w122 ⟨x123, y124, k, r, C125, e126, e127, e128, e129, e130, e131, r1, o132, hk, hkr, hr, hmu133⟩
  obtain ⟨f135, rfl⟩ := rebK (aC e126 (aC e127 (aC e128 (aC e129 (aC e130 (aC e131 aN))))))
  clear e126 e127 e128 e129 e130 e131
  have hkb := kn_kb htop hkr
  refine W.seq (W.seq ?_)
  by_cases hgB : 4294967296 ≤ k
  ·refine W.drawC Zc 20 [[], [0], [1], [2], [2], [2], [2, 5], [2, 4, 6], [2, 7], [2, 8], [2, 3, 9], [2], [2, 11], [2], [2], [2, 14], [2, 13, 15], [2, 16], [2, 17], [2, 12, 18]] C125 [fx (.int .u64 ((k : Nat) : Int)), fx (.bool true), fx (.bool true), noG, noG, noG, noG, noG, noG, noG, noG, noG, noG, noG, noG, noG, noG, noG, noG, noG] (by kernel_rfl) ⟨sx, sx, sx, (fun _ _ _ _ _ h _ => h), (fun _ _ _ _ _ h _ => h), (fun _ _ _ _ _ h _ => h), (fun _ _ _ _ _ h _ => h), (fun _ _ _ _ _ h _ => h), (fun _ _ _ _ _ h _ => h), (fun _ _ _ _ _ h _ => h), (fun _ _ _ _ _ h _ => h), (fun _ _ _ _ _ h _ => h), (fun _ _ _ _ _ h _ => h), (fun _ _ _ _ _ h _ => h), (fun _ _ _ _ _ h _ => h), (fun _ _ _ _ _ h _ => h), (fun _ _ _ _ _ h _ => h), (fun _ _ _ _ _ h _ => h), (fun _ _ _ _ _ h _ => h), (fun _ _ _ _ _ h _ => h), trivial⟩ fun f137 s138 w139 ⟨C142, S143⟩ k141 => ?_
   replace r1 := r1.sp S143
   replace o132 := o132.spn S143
   have k141 : Keep [48, 49, 50, 51, 52, 53, 54, 55, 56, 57, 58, 59, 60, 61, 62, 63, 64, 65, 66, 67] _ f137 := k141
   refine ⟨⟨fun _ => ?_, fun ⟨e145, _⟩ => ?_, fun ⟨e146, _⟩ => ?_, fun ⟨e147, _⟩ => ?_, fun ⟨e148, _⟩ => ?_, fun ⟨e149, _⟩ => ?_, fun ⟨e150, d151, _⟩ => ?_, fun ⟨e152, d153, d154, _⟩ => ?_, fun ⟨e155, d156, _⟩ => ?_, fun ⟨e157, d158, _⟩ => ?_, fun ⟨e159, d160, d161, _⟩ => ?_, fun ⟨e162, _⟩ => ?_, fun ⟨e163, d164, _⟩ => ?_, fun ⟨e165, _⟩ => ?_, fun ⟨e166, _⟩ => ?_, fun ⟨e167, d168, _⟩ => ?_, fun ⟨e169, d170, d171, _⟩ => ?_, fun ⟨e172, d173, _⟩ => ?_, fun ⟨e174, d175, _⟩ => ?_, fun ⟨e176, d177, d178, _⟩ => ?_, trivial⟩, fun ⟨e179, e180, e181, d182, d183, d184, d185, d186, d187, d188, d189, d190, d191, d192, d193, d194, d195, d196, d197, d198, _⟩ => ?_⟩
   ·exact Ja k141 aN fun _ => OpSt.op (St.move ⟨s138, RC.same C142, rfl⟩)
   ·exact Ja k141 (aC e145 aN) fun _ => OpSt.op (St.geq (t := true) rfl rfl (decide_eq_true (by omega)) ⟨s138, RC.same C142, rfl⟩)
   ·exact Ja k141 (aC e146 aN) fun _ => OpSt.op (St.move ⟨s138, RC.same C142, rfl⟩)
   ·exact Ja k141 (aC e147 aN) fun _ => OpSt.opn rfl rfl ⟨s138, RC.same C142, trivial⟩
   ·exact Ja k141 (aC e148 aN) fun _ => OpSt.opn rfl rfl ⟨s138, RC.same C142, trivial⟩
   ·exact Ja k141 (aC e149 aN) fun _ => OpSt.opn rfl rfl ⟨s138, RC.same C142, trivial⟩
   ·exact Ja k141 (aC e150 aN) fun _ => OpSt.opn rfl rfl ⟨s138, RC.same C142, trivial⟩
   ·exact Ja k141 (aC e152 aN) fun _ => OpSt.opn rfl rfl ⟨s138, RC.same C142, trivial⟩
   ·exact Ja k141 (aC e155 aN) fun _ => OpSt.opn rfl rfl ⟨s138, RC.same C142, trivial⟩
   ·exact Ja k141 (aC e157 aN) fun _ => OpSt.opn rfl rfl ⟨s138, RC.same C142, trivial⟩
   ·exact Ja k141 (aC e159 aN) fun _ => OpSt.opn rfl rfl ⟨s138, RC.same C142, trivial⟩
   ·exact Ja k141 (aC e162 aN) fun _ => OpSt.opn rfl rfl ⟨s138, RC.same C142, trivial⟩
   ·exact Ja k141 (aC e163 aN) fun _ => OpSt.opn rfl rfl ⟨s138, RC.same C142, trivial⟩
   ·exact Ja k141 (aC e165 aN) fun _ => OpSt.opn rfl rfl ⟨s138, RC.same C142, trivial⟩
   ·exact Ja k141 (aC e166 aN) fun _ => OpSt.opn rfl rfl ⟨s138, RC.same C142, trivial⟩
   ·exact Ja k141 (aC e167 aN) fun _ => OpSt.opn rfl rfl ⟨s138, RC.same C142, trivial⟩
   ·exact Ja k141 (aC e169 aN) fun _ => OpSt.opn rfl rfl ⟨s138, RC.same C142, trivial⟩
   ·exact Ja k141 (aC e172 aN) fun _ => OpSt.opn rfl rfl ⟨s138, RC.same C142, trivial⟩
   ·exact Ja k141 (aC e174 aN) fun _ => OpSt.opn rfl rfl ⟨s138, RC.same C142, trivial⟩
   ·exact Ja k141 (aC e176 aN) fun _ => OpSt.opn rfl rfl ⟨s138, RC.same C142, trivial⟩
   obtain ⟨f199, rfl⟩ := mixK k141 (aC e179 (aC e180 (aC e181 aN)))
   refine Ox rfl rfl rfl (OT (Nl (W.condT rfl (W.skip (W.block (W.seq ?_))))))
   have hq : val U / val V < k := by rw [hUe, hVe]; exact Jtm (by rw [← hUe, ← hVe]; exact hlt) hgB
   have hk1 : 0 < k := by omega
   refine W.region (Om (O rfl (St.sub rfl rfl (Yx (a := k) (b := 1) (by omega) (by omega)) (Oa (Nl (Rg (Om (Om (Om (O rfl (St.sub rfl rfl (Zz (a := V.length) (b := 1) (by omega) (by omega)) (O rfl (St.idx (j := V.length - 1) (u := (V.getD (V.length - 1) 0)) r1 sl24 Jh rfl rfl rfl (Jl (by omega)) ?_)))))))))))))
   intro b200 o201 cs202 e203
   obtain ⟨rfl, bd204⟩ : cs202 = _ ∧ _ := e203.rd
   refine O rfl (St.load1 J9 rfl (e203.cell 0 _ rfl) (O rfl (St.conv (z := (((V.getD (V.length - 1) 0) : Nat) : Int)) Zt Zw rfl (IntWalk.u64_in _ (by omega)) (O rfl (St.add rfl rfl (J4 (a := r) (b := (V.getD (V.length - 1) 0)) (by omega)) (Oa (Nl (Rg (Om (O rfl (St.geq2 rfl rfl (fun hc205 => ?_) (fun hc205 => ?_))))))))))))
   ·refine Nl (W.condT rfl (W.exit (⟨_, _, (k - 1), C142, rfl, rfl, rfl, rfl, rfl, r1, o132, (Jag hq), (by rw [hUe, hVe]; exact Nat.le_succ_of_le (Jma hVl hv2 htop htopb (Jgi hk1 hkr) (by omega)).1), (Jma (Ul := 0) (u2 := 0) hVl hv2 htop htopb (Jgi hk1 hkr) (by omega)).2⟩)))
   refine Nl (W.condF rfl (W.skip (⟨_, (by omega), _, _, (k - 1), (r + (V.getD (V.length - 1) 0)), C142, rfl, rfl, rfl, rfl, rfl, rfl, r1, o132, (Jag hq), (Jgi hk1 hkr), (by omega), rfl⟩)))
  refine W.drawC Zc 20 [[], [0], [1], [2], [2], [2], [2, 5], [2, 4, 6], [2, 7], [2, 8], [2, 3, 9], [2], [2, 11], [2], [2], [2, 14], [2, 13, 15], [2, 16], [2, 17], [2, 12, 18]] C125 [fx (.int .u64 ((k : Nat) : Int)), fx (.bool false), fx (.bool false), fx (.int .u64 ((k : Nat) : Int)), fx (.slice a1 V.length c2), fx (.int .i64 ((V.length : Nat) : Int)), fx (.int .i64 ((V.length - 2 : Nat) : Int)), fE Jb (V.getD (V.length - 2) 0), fx (.int .u32 (((V.getD (V.length - 2) 0) : Nat) : Int)), fx (.int .u64 (((V.getD (V.length - 2) 0) : Nat) : Int)), fx (.int .u64 ((k * (V.getD (V.length - 2) 0) : Nat) : Int)), fx (.int .u64 ((r : Nat) : Int)), fx (.int .u64 ((r * 4294967296 : Nat) : Int)), fx (.slice (some ⟨g, j, none⟩) U.length c), fx (.int .i64 ((V.length : Nat) : Int)), fx (.int .i64 ((V.length - 2 : Nat) : Int)), fx (.pointer (some ⟨g, j + (V.length - 2), none⟩)), fx (.int .u32 (((U.getD (V.length - 2) 0) : Nat) : Int)), fx (.int .u64 (((U.getD (V.length - 2) 0) : Nat) : Int)), fx (.int .u64 ((r * 4294967296 + (U.getD (V.length - 2) 0) : Nat) : Int))] (by kernel_rfl) ⟨sx, sx, sx, sx, sx, sx, sx, sE, sx, sx, sx, sx, sx, sx, sx, sx, sx, sx, sx, sx, trivial⟩ fun f212 s213 w214 ⟨C217, S218⟩ k216 => ?_
  replace r1 := r1.sp S218
  replace o132 := o132.spn S218
  have k216 : Keep [48, 49, 50, 51, 52, 53, 54, 55, 56, 57, 58, 59, 60, 61, 62, 63, 64, 65, 66, 67] _ f212 := k216
  refine ⟨⟨fun _ => ?_, fun ⟨e220, _⟩ => ?_, fun ⟨e221, _⟩ => ?_, fun ⟨e222, _⟩ => ?_, fun ⟨e223, _⟩ => ?_, fun ⟨e224, _⟩ => ?_, fun ⟨e225, e226, _⟩ => ?_, fun ⟨e227, e228, e229, _⟩ => ?_, fun ⟨e230, d231, _⟩ => ?_, fun ⟨e232, e233, _⟩ => ?_, fun ⟨e234, e235, e236, _⟩ => ?_, fun ⟨e237, _⟩ => ?_, fun ⟨e238, e239, _⟩ => ?_, fun ⟨e240, _⟩ => ?_, fun ⟨e241, _⟩ => ?_, fun ⟨e242, e243, _⟩ => ?_, fun ⟨e244, e245, e246, _⟩ => ?_, fun ⟨e247, e248, _⟩ => ?_, fun ⟨e249, e250, _⟩ => ?_, fun ⟨e251, e252, e253, _⟩ => ?_, trivial⟩, fun ⟨e254, e255, e256, e257, e258, e259, e260, d261, e262, e263, e264, e265, e266, e267, e268, e269, e270, e271, e272, e273, _⟩ => ?_⟩
  ·exact Ja k216 aN fun _ => OpSt.op (St.move ⟨s213, RC.same C217, rfl⟩)
  ·exact Ja k216 (aC e220 aN) fun _ => OpSt.op (St.geq (t := false) rfl rfl (decide_eq_false (by omega)) ⟨s213, RC.same C217, rfl⟩)
  ·exact Ja k216 (aC e221 aN) fun _ => OpSt.op (St.move ⟨s213, RC.same C217, rfl⟩)
  ·exact Ja k216 (aC e222 aN) fun _ => OpSt.opg rfl (St.move ⟨s213, RC.same C217, rfl⟩)
  ·exact Ja k216 (aC e223 aN) fun _ => OpSt.opg rfl (St.move ⟨s213, RC.same C217, rfl⟩)
  ·exact Ja k216 (aC e224 aN) fun _ => OpSt.opg rfl (St.move ⟨s213, RC.same C217, rfl⟩)
  ·exact Ja k216 (aC e225 (aC e226 aN)) fun _ => OpSt.opg rfl (St.sub rfl rfl (Zz (a := V.length) (b := 2) (by omega) (by omega)) ⟨s213, RC.same C217, rfl⟩)
  ·refine Ja k216 (aC e227 (aC e228 (aC e229 aN))) fun _ => OpSt.opg rfl (St.idx (j := V.length - 2) (u := (V.getD (V.length - 2) 0)) r1 sl24 Jh rfl rfl rfl (Jl (by omega)) ?_)
   intro b274 o275 cs276 e277
   obtain ⟨rfl, bd278⟩ : cs276 = _ ∧ _ := e277.rd
   exact ⟨s213, RC.same C217, ⟨_, _, _, rfl, e277⟩⟩
  ·obtain ⟨b280, o281, cs282, e279, e283⟩ := d231
   obtain ⟨rfl, bd284⟩ : cs282 = _ ∧ _ := e283.rd
   exact Ja k216 (aC e230 (aC e279 aN)) fun _ => OpSt.opg rfl (St.load1 J9 rfl (e283.cell 0 _ rfl) ⟨s213, RC.same C217, rfl⟩)
  ·exact Ja k216 (aC e232 (aC e233 aN)) fun _ => OpSt.opg rfl (St.conv (z := (((V.getD (V.length - 2) 0) : Nat) : Int)) Zt Zw rfl (IntWalk.u64_in _ (by omega)) ⟨s213, RC.same C217, rfl⟩)
  ·exact Ja k216 (aC e234 (aC e235 (aC e236 aN))) fun _ => OpSt.opg rfl (St.mul rfl rfl (K6 (a := k) (b := (V.getD (V.length - 2) 0)) (by have hmu := Jio (show k < 4294967296 by omega) hv2; omega)) ⟨s213, RC.same C217, rfl⟩)
  ·exact Ja k216 (aC e237 aN) fun _ => OpSt.opg rfl (St.move ⟨s213, RC.same C217, rfl⟩)
  ·exact Ja k216 (aC e238 (aC e239 aN)) fun _ => OpSt.opg rfl (St.shl (z := ((r * 4294967296 : Nat) : Int)) rfl rfl (by decide) (ky hr) ⟨s213, RC.same C217, rfl⟩)
  ·exact Ja k216 (aC e240 aN) fun _ => OpSt.opg rfl (St.move ⟨s213, RC.same C217, rfl⟩)
  ·exact Ja k216 (aC e241 aN) fun _ => OpSt.opg rfl (St.move ⟨s213, RC.same C217, rfl⟩)
  ·exact Ja k216 (aC e242 (aC e243 aN)) fun _ => OpSt.opg rfl (St.sub rfl rfl (Zz (a := V.length) (b := 2) (by omega) (by omega)) ⟨s213, RC.same C217, rfl⟩)
  ·exact Ja k216 (aC e244 (aC e245 (aC e246 aN))) fun _ => OpSt.opg rfl (St.idxRowO (j := V.length - 2) sl24 Jh rfl rfl rfl (by omega) ⟨s213, RC.same C217, rfl⟩)
  ·exact Ja k216 (aC e247 (aC e248 aN)) fun _ => OpSt.opg rfl (St.loadRowO (j := V.length - 2) (u := (U.getD (V.length - 2) 0)) hA o132 J9 rfl (Jl (by omega)) ⟨s213, RC.same C217, rfl⟩)
  ·exact Ja k216 (aC e249 (aC e250 aN)) fun _ => OpSt.opg rfl (St.conv (z := (((U.getD (V.length - 2) 0) : Nat) : Int)) Zt Zw rfl (IntWalk.u64_in _ (by omega)) ⟨s213, RC.same C217, rfl⟩)
  ·exact Ja k216 (aC e251 (aC e252 (aC e253 aN))) fun _ => OpSt.opg rfl (St.or (z := ((r * 4294967296 + (U.getD (V.length - 2) 0) : Nat) : Int)) rfl rfl (k5 hr hu2) ⟨s213, RC.same C217, rfl⟩)
  obtain ⟨b286, o287, cs288, e285, e289⟩ := d261
  obtain ⟨rfl, bd290⟩ : cs288 = _ ∧ _ := e289.rd
  obtain ⟨f291, rfl⟩ := mixK k216 (aC e254 (aC e255 (aC e256 (aC e257 (aC e258 (aC e259 (aC e260 (aC e285 (aC e262 (aC e263 (aC e264 (aC e265 (aC e266 (aC e267 (aC e268 (aC e269 (aC e270 (aC e271 (aC e272 (aC e273 aN))))))))))))))))))))
  refine Og rfl rfl (St.gtr2 rfl rfl (fun hc292 => ?_) (fun hc292 => ?_))
  ·refine OF (Nl (W.condT rfl (W.skip (W.block (W.seq ?_)))))
   have hlt2 : r * 4294967296 + (U.getD (V.length - 2) 0) < k * (V.getD (V.length - 2) 0) := Int.ofNat_lt.1 hc292
   have hq : val U / val V < k := by rw [hUe, hVe]; exact Jt5 hUl hkr hlt2
   have hk1 : 0 < k := Jtt hlt2
   refine W.region (Om (O rfl (St.sub rfl rfl (Yx (a := k) (b := 1) (by omega) (by omega)) (Oa (Nl (Rg (Om (Om (Om (O rfl (St.sub rfl rfl (Zz (a := V.length) (b := 1) (by omega) (by omega)) (O rfl (St.idx (j := V.length - 1) (u := (V.getD (V.length - 1) 0)) r1 sl24 Jh rfl rfl rfl (Jl (by omega)) ?_)))))))))))))
   intro b293 o294 cs295 e296
   obtain ⟨rfl, bd297⟩ : cs295 = _ ∧ _ := e296.rd
   refine O rfl (St.load1 J9 rfl (e296.cell 0 _ rfl) (O rfl (St.conv (z := (((V.getD (V.length - 1) 0) : Nat) : Int)) Zt Zw rfl (IntWalk.u64_in _ (by omega)) (O rfl (St.add rfl rfl (J4 (a := r) (b := (V.getD (V.length - 1) 0)) (by omega)) (Oa (Nl (Rg (Om (O rfl (St.geq2 rfl rfl (fun hc298 => ?_) (fun hc298 => ?_))))))))))))
   ·refine Nl (W.condT rfl (W.exit (⟨_, _, (k - 1), C217, rfl, rfl, rfl, rfl, rfl, r1, o132, (Jag hq), (by rw [hUe, hVe]; exact Nat.le_succ_of_le (Jma hVl hv2 htop htopb (Jgi hk1 hkr) (by omega)).1), (Jma (Ul := 0) (u2 := 0) hVl hv2 htop htopb (Jgi hk1 hkr) (by omega)).2⟩)))
   refine Nl (W.condF rfl (W.skip (⟨_, (by omega), _, _, (k - 1), (r + (V.getD (V.length - 1) 0)), C217, rfl, rfl, rfl, rfl, rfl, rfl, r1, o132, (Jag hq), (Jgi hk1 hkr), (by omega), rfl⟩)))
  refine OF (Nl (W.condF rfl (W.exit (⟨_, _, k, C217, rfl, rfl, rfl, rfl, rfl, r1, o132, hk, (by rw [hUe, hVe]; exact kn_e2 (Nat.pow_pos (by decide)) hVl htop (by omega) hkr (by omega)), (by omega)⟩))))
 rintro f299 w300 ⟨x301, y302, q, C303, e304, e305, e306, e307, e308, r1, o309, hq1, hq2, hqb⟩
 obtain ⟨f310, rfl⟩ := rebK (aC e304 (aC e305 (aC e306 (aC e307 (aC e308 aN)))))
 clear e304 e305 e306 e307 e308
 refine Rg (Oa (Nl (Rg (Oa (Nl (Rh (Om (O rfl (St.len sl24 rfl (Om (Nl (W.block (W.loopN (fun μ f v => ∃ (x y : Nat → Prop) (i : Nat) (p : List Nat) (cy : Nat) (bo : Nat), Cx X ⟨w, (· = g)⟩ x y v ∧ f 0 = (.slice (some ⟨g, j, none⟩) U.length c) ∧ f 1 = (.slice a1 V.length c2) ∧ f 4 = (.int .u32 0) ∧ f 5 = (.int .i64 ((V.length : Nat) : Int)) ∧ f 7 = (.int .u64 ((q : Nat) : Int)) ∧ f 82 = (.slice a1 V.length c2) ∧ f 83 = (.int .i64 ((V.length : Nat) : Int)) ∧ f 84 = (.int .i64 ((i : Nat) : Int)) ∧ f 9 = (.int .u64 ((cy : Nat) : Int)) ∧ f 10 = (.int .u32 ((bo : Nat) : Int)) ∧ RS Jb x v (.slice a1 V.length c2) V ∧ Own ⟨w, (· = g)⟩ y v g ((A ++ (p ++ U.drop i) ++ Z).map u32v) 118 ∧ i ≤ V.length ∧ p.length = i ∧ Jo p ∧ cy < 4294967296 ∧ bo ≤ 1 ∧ val p + q * val (V.take i) = val (U.take i) + 4294967296 ^ i * (cy + bo) ∧ μ = (V.length - i)) _ ⟨_, _, 0, [], 0, 0, C303, rfl, rfl, rfl, rfl, rfl, rfl, rfl, rfl, rfl, rfl, r1, o309, (Nat.zero_le _), rfl, J6, (by omega), (by omega), (by simp [val]), rfl⟩ ?_)))))))))))))
 rintro m328 f311 w312 ⟨x313, y314, i, p, cy, bo, C315, e316, e317, e318, e319, e320, e321, e322, e323, e324, e325, r1, o326, hi, hp, hsp, hcy, hbo, hv2, hmu327⟩
 obtain ⟨f329, rfl⟩ := rebK (aC e316 (aC e317 (aC e318 (aC e319 (aC e320 (aC e321 (aC e322 (aC e323 (aC e324 (aC e325 aN))))))))))
 clear e316 e317 e318 e319 e320 e321 e322 e323 e324 e325
 have hx := Jg sv i
 have hui := Jg sU i
 have hcar := Jvc hqb hx hcy
 refine Rg (O rfl (St.lss2 rfl rfl (fun hc330 => ?_) (fun hc330 => ?_)))
 ·refine Nl (W.seq (W.condT rfl (W.skip (W.seq (W.block (Rg (Om (O rfl (St.idx (j := i) (u := (V.getD i 0)) r1 sl24 Jh rfl rfl rfl (Jl (by omega)) ?_)))))))))
  intro b331 o332 cs333 e334
  obtain ⟨rfl, bd335⟩ : cs333 = _ ∧ _ := e334.rd
  refine O rfl (St.load1 J9 rfl (e334.cell 0 _ rfl) (Oa (Oa (Nl (Rg (Om (Om (O rfl (St.conv (z := (((V.getD i 0) : Nat) : Int)) Zt Zw rfl (IntWalk.u64_in _ (by omega)) (O rfl (St.mul rfl rfl (K6 (a := q) (b := (V.getD i 0)) (by omega)) (Om (O rfl (St.add rfl rfl (J4 (a := q * (V.getD i 0)) (b := cy) (by omega)) ?_))))))))))))))
  refine Oa (Nl (Rg (Om (Om (Om (Om (O rfl (St.idxRowO (j := i) sl24 Jh rfl rfl rfl (by omega) (O rfl (St.loadRowO (j := i) (u := (U.getD i 0)) hA o326 J9 rfl (Jmf hp rfl (by omega)) (Om (O rfl (St.conv (z := ((((q * (V.getD i 0)) + cy) % 4294967296 : Nat) : Int)) Yj Yh rfl (Jm _) ?_)))))))))))))
  refine Om (O rfl (St.callR C315 Jlm rfl rfl (Jai C315.bd (x := (U.getD i 0)) (y := ((q * (V.getD i 0)) + cy) % 4294967296) (b := bo) hui (Nat.mod_lt _ (by decide)) hbo) ?_))
  intro v336 w337 C338 s339 h340
  replace o326 := o326.spn s339
  obtain ⟨v341, v342, rfl, rfl, rfl⟩ := h340
  refine Om (O rfl (St.extract rfl rfl (O rfl (St.extract rfl rfl (O rfl (St.idxRowO (j := i) sl24 Jh rfl rfl rfl (by omega) (On (St.storeRowO (j := i) (u := (((U.getD i 0) + 8589934592 - (((q * (V.getD i 0)) + cy) % 4294967296) - bo) % 4294967296)) hA C338 o326 Jh rfl rfl (by rw [List.length_append, List.length_drop, hp]; omega) ?_))))))))
  intro w345 C346 s347 o348
  replace r1 := (r1.sp s339).sp s347
  rw [Jpl hp (by omega)] at o348
  refine Oa (Nl (W.region (Om (O rfl (St.shr rfl rfl (by decide) (Yi (d := 4294967296) _ (by decide)) (Oa (Nl (W.region (O rfl (St.add rfl rfl (Je (a := i) (b := 1) (by omega)) (Om (Nl (⟨_, (by omega), _, _, (i + 1), (p ++ [(((U.getD i 0) + 8589934592 - (((q * (V.getD i 0)) + cy) % 4294967296) - bo) % 4294967296)]), ((q * (V.getD i 0)) + cy) / 4294967296, (if (U.getD i 0) < (((q * (V.getD i 0)) + cy) % 4294967296) + bo then 1 else 0), C346, rfl, rfl, rfl, rfl, rfl, rfl, rfl, rfl, rfl, rfl, r1, o348, (by omega), (by rw [List.length_append, hp]; rfl), (Jw hsp (by omega)), hcar.2, (by split <;> omega), (Jtw hp hqb hx hcy hbo hui hv2 (Jn V i)), rfl⟩)))))))))))))
 refine Nl (W.seq (W.condF rfl (W.exit (W.seq (W.cut (fun f v => ∃ (x y : Nat → Prop) (R : List Nat) (e : Nat), Cx X ⟨w, (· = g)⟩ x y v ∧ f 0 = (.slice (some ⟨g, j, none⟩) U.length c) ∧ f 1 = (.slice a1 V.length c2) ∧ f 4 = (.int .u32 0) ∧ f 5 = (.int .i64 ((V.length : Nat) : Int)) ∧ f 7 = (.int .u64 ((q : Nat) : Int)) ∧ f 10 = (.int .u32 ((e : Nat) : Int)) ∧ RS Jb x v (.slice a1 V.length c2) V ∧ Own ⟨w, (· = g)⟩ y v g ((A ++ R ++ Z).map u32v) 118 ∧ R.length = V.length + 1 ∧ Jo R ∧ e ≤ 1 ∧ val R + q * val V = val U + 4294967296 ^ (V.length + 1) * e) ?_ ?_)))))
 ·refine W.region (Om (Om (Om (Om (O rfl (St.idxRowO (j := V.length) sl24 Jh rfl rfl rfl (by omega) (O rfl (St.loadRowO (j := V.length) (u := (U.getD V.length 0)) hA o326 J9 rfl (Jmf hp (by omega) (by omega)) (Om (O rfl (St.conv (z := ((cy : Nat) : Int)) Yj Yh rfl (IntWalk.u32_in _ (by omega)) ?_)))))))))))
  refine Om (O rfl (St.callR C315 Jlm rfl rfl (Jai C315.bd (x := (U.getD V.length 0)) (y := cy) (b := bo) hun hcy hbo) ?_))
  intro v349 w350 C351 s352 h353
  replace o326 := o326.spn s352
  obtain ⟨v354, v355, rfl, rfl, rfl⟩ := h353
  refine Om (O rfl (St.extract rfl rfl (O rfl (St.extract rfl rfl (O rfl (St.idxRowO (j := V.length) sl24 Jh rfl rfl rfl (by omega) (On (St.storeRowO (j := V.length) (u := (((U.getD V.length 0) + 8589934592 - cy - bo) % 4294967296)) hA C351 o326 Jh rfl rfl (by rw [List.length_append, List.length_drop, hp]; omega) ?_))))))))
  intro w358 C359 s360 o361
  replace r1 := (r1.sp s352).sp s360
  rw [Jnw hp (by omega) (by omega)] at o361
  refine Oa (Nl (⟨_, _, (p ++ [(((U.getD V.length 0) + 8589934592 - cy - bo) % 4294967296)]), (if (U.getD V.length 0) < cy + bo then 1 else 0), C359, rfl, rfl, rfl, rfl, rfl, rfl, r1, o361, (by rw [List.length_append, hp]; show i + 1 = _; omega), (Jw hsp (by omega)), (by split <;> omega), (Jox (by omega) hcy hbo hun hU (by have hh := hv2; rw [show i = V.length by omega, List.take_length] at hh; exact hh))⟩))
 rintro f362 w363 ⟨x364, y365, R, e, C366, e367, e368, e369, e370, e371, e372, r1, o373, hR, hRs, he, hRv⟩
 obtain ⟨f374, rfl⟩ := rebK (aC e367 (aC e368 (aC e369 (aC e370 (aC e371 (aC e372 aN))))))
 clear e367 e368 e369 e370 e371 e372
 refine Rh (Om (O rfl (St.neq2 rfl rfl (fun hc375 => ?_) (fun hc375 => ?_))))
 ·refine Nl (W.condT rfl (W.seq ?_))
  obtain ⟨hb3, hq0, hb5⟩ := Jpb (U := val U) (V := val V) (R := val R) (M := 4294967296 ^ (V.length + 1)) (g := q) hVpos hq2 (by have hh := Ze R hRs; rwa [hR] at hh) (by rw [hRv, show e = 1 by omega, Nat.mul_one])
  refine W.region (Om (O rfl (St.sub rfl rfl (Yx (a := q) (b := 1) (by omega) (by omega)) (Oa (Nl (Rg (Oa (Nl (Rh (Om (O rfl (St.len sl24 rfl (Om (Nl (W.block (W.loopN (fun μ f v => ∃ (x y : Nat → Prop) (i : Nat) (p : List Nat) (cy : Nat), Cx X ⟨w, (· = g)⟩ x y v ∧ f 0 = (.slice (some ⟨g, j, none⟩) U.length c) ∧ f 4 = (.int .u32 0) ∧ f 5 = (.int .i64 ((V.length : Nat) : Int)) ∧ f 7 = (.int .u64 ((q - 1 : Nat) : Int)) ∧ f 130 = (.slice a1 V.length c2) ∧ f 131 = (.int .i64 ((V.length : Nat) : Int)) ∧ f 132 = (.int .i64 ((i : Nat) : Int)) ∧ f 14 = (.int .u32 ((cy : Nat) : Int)) ∧ RS Jb x v (.slice a1 V.length c2) V ∧ Own ⟨w, (· = g)⟩ y v g ((A ++ (p ++ R.drop i) ++ Z).map u32v) 118 ∧ i ≤ V.length ∧ p.length = i ∧ Jo p ∧ cy ≤ 1 ∧ val p + 4294967296 ^ i * cy = val (R.take i) + val (V.take i) ∧ μ = (V.length - i)) _ ⟨_, _, 0, [], 0, C366, rfl, rfl, rfl, rfl, rfl, rfl, rfl, rfl, r1, o373, (Nat.zero_le _), rfl, J6, (by omega), (by simp [val]), rfl⟩ ?_))))))))))))))))
  rintro m391 f376 w377 ⟨x378, y379, i, p, cy, C380, e381, e382, e383, e384, e385, e386, e387, e388, r1, o389, hi, hp, hsp, hcy, hv3, hmu390⟩
  obtain ⟨f392, rfl⟩ := rebK (aC e381 (aC e382 (aC e383 (aC e384 (aC e385 (aC e386 (aC e387 (aC e388 aN))))))))
  clear e381 e382 e383 e384 e385 e386 e387 e388
  have hx := Jg sv i
  have hri := Jg hRs i
  refine Rg (O rfl (St.lss2 rfl rfl (fun hc393 => ?_) (fun hc393 => ?_)))
  ·refine Nl (W.seq (W.condT rfl (W.skip (W.seq (W.block (Rg (Om (O rfl (St.idx (j := i) (u := (V.getD i 0)) r1 sl24 Jh rfl rfl rfl (Jl (by omega)) ?_)))))))))
   intro b394 o395 cs396 e397
   obtain ⟨rfl, bd398⟩ : cs396 = _ ∧ _ := e397.rd
   refine O rfl (St.load1 J9 rfl (e397.cell 0 _ rfl) (Oa (Oa (Nl (W.region (Om (Om (Om (Om (O rfl (St.idxRowO (j := i) sl24 Jh rfl rfl rfl (by omega) (O rfl (St.loadRowO (j := i) (u := (R.getD i 0)) hA o389 J9 rfl (Jmf hp rfl (by omega)) (Om (Om ?_)))))))))))))))
   refine O rfl (St.callR C380 Jht rfl rfl (ym C380.bd (x := (R.getD i 0)) (y := (V.getD i 0)) (c := cy) hri hx hcy) ?_)
   intro v399 w400 C401 s402 h403
   replace o389 := o389.spn s402
   obtain ⟨v404, v405, rfl, rfl, rfl⟩ := h403
   refine Om (O rfl (St.extract rfl rfl (O rfl (St.extract rfl rfl (O rfl (St.idxRowO (j := i) sl24 Jh rfl rfl rfl (by omega) (On (St.storeRowO (j := i) (u := (((R.getD i 0) + (V.getD i 0) + cy) % 4294967296)) hA C401 o389 Jh rfl rfl (by rw [List.length_append, List.length_drop, hp]; omega) ?_))))))))
   intro w408 C409 s410 o411
   replace r1 := (r1.sp s402).sp s410
   rw [Jpl hp (by omega)] at o411
   refine Oa (Nl (W.region (O rfl (St.add rfl rfl (Je (a := i) (b := 1) (by omega)) (Om (Nl (⟨_, (by omega), _, _, (i + 1), (p ++ [(((R.getD i 0) + (V.getD i 0) + cy) % 4294967296)]), (((R.getD i 0) + (V.getD i 0) + cy) / 4294967296), C409, rfl, rfl, rfl, rfl, rfl, rfl, rfl, rfl, r1, o411, (by omega), (by rw [List.length_append, hp]; rfl), (Jw hsp (by omega)), (by omega), (Jf9 hp hv3 (Jn V i)), rfl⟩)))))))
  refine Nl (W.seq (W.condF rfl (W.exit (W.region (Om (Om (O rfl (St.idxRowO (j := V.length) sl24 Jh rfl rfl rfl (by omega) (O rfl (St.loadRowO (j := V.length) (u := (R.getD V.length 0)) hA o389 J9 rfl (Jmf hp (by omega) (by omega)) (Om (O rfl (St.add (z := (((R.getD V.length 0 + cy) % 4294967296 : Nat) : Int)) rfl rfl (by rw [← Int.natCast_add]; exact Jm _) ?_)))))))))))))
  refine O rfl (St.idxRowO (j := V.length) sl24 Jh rfl rfl rfl (by omega) (On (St.storeRowO (j := V.length) (u := (R.getD V.length 0 + cy) % 4294967296) hA C380 o389 Jh rfl rfl (by rw [List.length_append, List.length_drop, hp]; omega) ?_)))
  intro w412 C413 s414 o415
  rw [Jnw hp (by omega) (by omega)] at o415
  refine Nl (Rg (Om (O rfl (St.conv (z := ((q - 1 : Nat) : Int)) Yj Yh rfl (IntWalk.u32_in _ (by omega)) (Oa (Nl (W.ret (Jf rfl (resV.t rfl) (RetM.intro ⟨?_, ?_⟩ C413.below)))))))))
  ·exact congrArg (Value.int _) (congrArg _ hb3)
  have hh := o415.blk
  rw [Jge (by omega) hsp hcy hR (kn_T sv hVpos) (by have hh := hv3; rw [show i = V.length by omega, List.take_length] at hh; exact hh) hb5] at hh
  exact hh
 refine Nl (W.condF rfl (W.skip (Rg (Om (O rfl (St.conv (z := ((q : Nat) : Int)) Yj Yh rfl (IntWalk.u32_in _ (by omega)) (Oa (Nl (W.ret (Jf rfl (resV.t rfl) (RetM.intro ⟨?_, ?_⟩ C366.below)))))))))))
 ·exact congrArg (Value.int _) (congrArg _ (Juo hVpos hq1 (by rw [hRv, show e = 0 by omega, Nat.mul_zero, Nat.add_zero])).1)
 have hh := o373.blk
 rw [show R = Jr (V.length + 1) (val U % val V) from Yg hRs hR (Juo hVpos hq1 (by rw [hRv, show e = 0 by omega, Nat.mul_zero, Nat.add_zero])).2] at hh
 exact hh
end Go.Wf
namespace Go.Wf
open Go Go.Proofs Go.RowKit
set_option maxRecDepth 100000
set_option linter.unusedVariables false
set_option linter.unusedSimpArgs false
section
variable {P : Program} {ρ : Operand → Value} {dst : Option Tmp} {ty : TypeId} {pos : String} {after : Array Edge} {gd : Option (Nat × Bool)}
 {w : World} {K : Value → World → Prop} {Kp : List PanicEntry → World → Prop}
theorem St.sliceRowE {a lo r : Operand} {t e : TypeId} {z : Value} {by_ g n c : Nat} {k k' : IntKind} {m m' : Int} {i j u : Nat} (hu : j - i = u)
  (ht : P.underlying t = some (.slice e)) (hi : Zi P e = some (z, 1, by_)) (hx : ρ a = .slice (some ⟨g, 0, none⟩) n c) (hy : ρ lo = .int k m) (hm : m = i) (hy' : ρ r = .int k' m') (hm' : m' = j) (hij : i ≤ j) (hj : j ≤ c) (hic : i < c)
  (h : K (.slice (some ⟨g, i, none⟩) u (c - i)) w) : St P ρ ⟨dst, .slice t a (some lo) (some r) none, ty, pos, after, gd⟩ w K Kp :=
 St.sliceRow ht hi hx hy hm hy' hm' hij hj hic (by rw [hu]; exact h)
end
set_option maxHeartbeats 1000000 in
theorem Jg9 {X : Nat → Prop} {w : World} (hX : ∀ b, X b → b < w.heap.size) {v0 : Value} {a : List Nat} (r0 : RS Jb X w v0 a) {s : Nat} (hla : a.length < 1099511627776) (hs : s < 32) : Calls Tryz.prog 254 #[v0, (.int .u64 ((s : Nat) : Int))] w (Ret w fun v w' => Ju5 w ((Jr (a.length + 1) (val a * 2 ^ s)).map u32v) (a.length + 1) 118 v w') := by
 obtain ⟨a1, c2, rfl, _, _⟩ := r0.len
 have C := Cx.start hX
 have sa := r0.u32_small
 have hps := Vm hs
 refine Calls.ofW (args := [(.slice a1 a.length c2), (.int .u64 ((s : Nat) : Int))]) Tryz.func254 rfl rfl (Nat.le_of_ble_eq_true rfl) (Rg (Oa (Nl (Rg (Om (O rfl (St.len sl24 rfl (O rfl (St.add rfl rfl (Je (a := a.length) (b := 1) (by omega)) (O rfl (St.makeRow (n := (a.length + 1)) C sl24 rfl rfl rfl (by omega) Jh (by decide) ?_)))))))))))
 intro g3 w4 x5 y6 lt7 C8 s9 o10
 replace r0 := r0.sp s9
 refine Oa (Nl (Rh (Om (O rfl (St.len sl24 rfl (Om (Nl (W.block (W.loopN (fun μ f v => ∃ (x y : Nat → Prop) (i : Nat) (p : List Nat) (h : Nat), Cx X w x y v ∧ f 1 = (.int .u64 ((s : Nat) : Int)) ∧ f 4 = (.slice none 0 0) ∧ f 5 = (.slice (some ⟨g3, 0, none⟩) (a.length + 1) (a.length + 1)) ∧ f 13 = (.slice a1 a.length c2) ∧ f 14 = (.int .i64 ((a.length : Nat) : Int)) ∧ f 15 = (.int .i64 ((i : Nat) : Int)) ∧ RS Jb x v (.slice a1 a.length c2) a ∧ Own w y v g3 ((p ++ h :: List.replicate (a.length - i) 0).map u32v) 118 ∧ i ≤ a.length ∧ p.length = i ∧ Jo p ∧ h < 2 ^ s ∧ val p + 4294967296 ^ i * h = val (a.take i) * 2 ^ s ∧ μ = (a.length - i)) _ ⟨_, _, 0, [], 0, C8, rfl, rfl, rfl, rfl, rfl, rfl, r0, o10, (Nat.zero_le _), rfl, J6, (Nat.two_pow_pos s), (by simp [val]), rfl⟩ ?_)))))))))
 rintro m24 f11 w12 ⟨x13, y14, i, p, h, C15, e16, e17, e18, e19, e20, e21, r0, o22, hi, hp, hq, hh, hv, hmu23⟩
 obtain ⟨f25, rfl⟩ := rebK (aC e16 (aC e17 (aC e18 (aC e19 (aC e20 (aC e21 aN))))))
 clear e16 e17 e18 e19 e20 e21
 have hx := Jg sa i
 have hxd := Jkw (s := s) hx
 refine Rg (O rfl (St.lss2 rfl rfl (fun hc26 => ?_) (fun hc26 => ?_)))
 ·refine Nl (W.seq (W.condT rfl (W.skip (W.seq (W.block (Rg (Om (O rfl (St.idx (j := i) (u := (a.getD i 0)) r0 sl24 Jh rfl rfl rfl (Jl (by omega)) ?_)))))))))
  intro b27 o28 cs29 e30
  obtain ⟨rfl, bd31⟩ : cs29 = _ ∧ _ := e30.rd
  refine O rfl (St.load1 J9 rfl (e30.cell 0 _ rfl) (Oa (Oa (Nl (Rg (Om (O rfl (St.conv (z := (((a.getD i 0) : Nat) : Int)) Zt Zw rfl (IntWalk.u64_in _ (by omega)) (Om (O rfl (St.shl rfl rfl (by omega) (X6 (Jii hx hs)) (Oa (Nl (Rg (Om ?_)))))))))))))))
  refine Om (O rfl (St.idxRow (j := i) sl24 Jh rfl rfl rfl (by omega) (O rfl (St.loadRow (j := i) (u := h) o22 J9 rfl (Jjx hp) (Om (O rfl (St.conv (z := ((((a.getD i 0) * 2 ^ s) % 4294967296 : Nat) : Int)) Yj Yh rfl (Jm _) (O rfl (St.or (z := ((h + a.getD i 0 * 2 ^ s % 4294967296 : Nat) : Int)) rfl rfl ((jk (a := h) (b := a.getD i 0 * 2 ^ s % 4294967296) (by omega) (by omega)).trans (congrArg _ (Jkb hs hh))) ?_)))))))))
  refine O rfl (St.idxRow (j := i) sl24 Jh rfl rfl rfl (by omega) (On (St.storeRow (j := i) (u := h + a.getD i 0 * 2 ^ s % 4294967296) C15 o22 Jh rfl rfl (by simp only [List.length_append, List.length_cons, List.length_replicate, List.length_nil]; omega) ?_)))
  intro w32 C33 s34 o35
  rw [Joa hp] at o35
  refine Nl (W.region (Om (Om (O rfl (St.add rfl rfl (Je (a := i) (b := 1) (by omega)) (Om (O rfl (St.shr rfl rfl (by decide) (Yi (d := 4294967296) _ (by decide)) (O rfl (St.conv (z := ((a.getD i 0 * 2 ^ s / 4294967296 : Nat) : Int)) Yj Yh rfl (IntWalk.u32_in _ (by omega)) (O rfl (St.idxRow (j := i + 1) sl24 Jh rfl rfl rfl (by omega) ?_))))))))))))
  refine On (St.storeRow (j := i + 1) (u := a.getD i 0 * 2 ^ s / 4294967296) C33 o35 Jh rfl rfl (by simp only [List.length_append, List.length_cons, List.length_replicate, List.length_nil]; omega) ?_)
  intro w36 C37 s38 o39
  replace r0 := (r0.sp s34).sp s38
  rw [Jil hp (by omega)] at o39
  refine Nl (W.region (O rfl (St.add rfl rfl (Je (a := i) (b := 1) (by omega)) (Om (Nl (⟨_, (by omega), _, _, (i + 1), (p ++ [h + a.getD i 0 * 2 ^ s % 4294967296]), (a.getD i 0 * 2 ^ s / 4294967296), C37, rfl, rfl, rfl, rfl, rfl, rfl, r0, o39, (by omega), (by rw [List.length_append, hp]; rfl), (Jw hq (Jb8 hs hh)), hxd, (jx hp hv), rfl⟩))))))
 refine Nl (W.seq (W.condF rfl (W.exit (Rg (Om (Oa (Nl (W.ret (Jf rfl (resV.t rfl) (Ret.intro ?_ C15.below))))))))))
 refine ⟨_, rfl, o22.ge.resolve_right id, ?_⟩
 have hblk := o22.blk
 rw [qf hq hs hh hp (by omega) hv] at hblk
 exact hblk
set_option maxHeartbeats 4000000 in
theorem Jaq {X : Nat → Prop} {w : World} (hX : ∀ b, X b → b < w.heap.size) {v0 : Value} {a : List Nat} (r0 : RS Jb X w v0 a) {v1 : Value} {b : List Nat} (r1 : RS Jb X w v1 b) (ha : trim a = a) (hb : trim b = b) (hne : b ≠ []) (hla : a.length ≤ 549755813888) (hlb : b.length ≤ 549755813888) : Calls Tryz.prog 242 #[v0, v1] w (Ret w fun v w' => ∃ v0 v1, v = .tuple #[v0, v1] ∧ (RS Jb X w' v0 (digs (val a / val b))) ∧ (RS Jb X w' v1 (digs (val a % val b)))) := by
 obtain ⟨a1, c2, rfl, _, _⟩ := r0.len
 obtain ⟨a3, c4, rfl, _, _⟩ := r1.len
 have C := Cx.start hX
 have sa := r0.u32_small
 have sb := r1.u32_small
 have hbpos : 0 < val b := Nat.lt_of_lt_of_le (Nat.pow_pos (by decide)) (K9 hb hne)
 have hbl0 := List.length_pos_iff.2 hne
 refine Calls.ofW (args := [(.slice a1 a.length c2), (.slice a3 b.length c4)]) Tryz.func242 rfl rfl (Nat.le_of_ble_eq_true rfl) (Rg (Oa (Oa (Nl (Rh (Om (Om (O rfl (St.callR C Ju8 rfl rfl (Jcm C.bd r0 r1 ha hb (by omega) (by omega)) ?_)))))))))
 intro v5 w6 C7 s8 h9
 replace r0 := r0.sp s8
 replace r1 := r1.sp s8
 subst h9
 refine O rfl (St.lss2 rfl rfl (fun hc10 => ?_) (fun hc10 => ?_))
 ·refine Nl (W.condT rfl (Rg (Om (O rfl (St.callR C7 Jk3 rfl rfl (zp C7.bd r0 (by omega)) ?_)))))
  intro v11 w12 C13 s14 h15
  obtain ⟨a16, c17, rfl, _, _⟩ := h15.len
  refine Oa (Oa (Nl (W.ret (Qk rfl (resV.t rfl) (resV.t rfl) (Ret.intro ?_ C13.below)))))
  refine ⟨_, _, rfl, ?_, ?_⟩
  ·skip
   exact RS.eqv ((RS.nil : RS _ _ _ _ _).tr (Tr.weak C13.base)) ((dv_lt (Jdv hc10)))
  ·skip
   exact RS.eqv ((h15 : RS _ _ _ _ _).tr (Tr.weak C13.base)) ((Ji2 ha sa (Jdv hc10)))
 refine Nl (W.condF rfl (W.skip (Rh (Om (O rfl (St.len sl24 rfl (O rfl (St.leq2 rfl rfl (fun hc18 => ?_) (fun hc18 => ?_)))))))))
 ·refine Nl (W.condT rfl (W.seq ?_))
  have hlab := Z4 hb sa (Jdh hc10)
  refine W.region (Om (O rfl (St.callR C7 Jl5 rfl rfl (Jeh C7.bd r0 (by omega)) ?_)))
  intro v19 w20 C21 s22 h23
  replace r1 := r1.sp s22
  subst h23
  refine Om (O rfl (St.callR C21 Jl5 rfl rfl (Jeh C21.bd r1 (by omega)) ?_))
  intro v24 w25 C26 s27 h28
  subst h28
  refine Oa (Oa (Nl (W.seq ?_)))
  have hva64 := Y5 sa (by omega)
  refine W.drawC Zc 7 [[], [], [0, 1], [2], [], [], [4, 5]] C26 [fx (.int .u64 (((val a) : Nat) : Int)), fx (.int .u64 (((val b) : Nat) : Int)), fx (.int .u64 (((val a) / (val b) : Nat) : Int)), fs Jb (digs ((val a) / (val b))), fx (.int .u64 (((val a) : Nat) : Int)), fx (.int .u64 (((val b) : Nat) : Int)), fx (.int .u64 (((val a) % (val b) : Nat) : Int))] (by kernel_rfl) ⟨sx, sx, sx, ss, sx, sx, sx, trivial⟩ fun f37 s38 w39 ⟨C42, S43⟩ k41 => ?_
  have k41 : Keep [28, 29, 30, 31, 32, 33, 34] _ f37 := k41
  refine ⟨⟨fun _ => ?_, fun _ => ?_, fun ⟨e44, e45, _⟩ => ?_, fun ⟨e46, _⟩ => ?_, fun _ => ?_, fun _ => ?_, fun ⟨e47, e48, _⟩ => ?_, trivial⟩, fun ⟨e49, e50, e51, d52, e53, e54, e55, _⟩ => ?_⟩
  ·exact Ja k41 aN fun _ => OpSt.op (St.move ⟨s38, RC.same C42, rfl⟩)
  ·exact Ja k41 aN fun _ => OpSt.op (St.move ⟨s38, RC.same C42, rfl⟩)
  ·exact Ja k41 (aC e44 (aC e45 aN)) fun _ => OpSt.op (St.quo rfl rfl (by omega) (Xp (a := (val a)) (b := (val b)) (by omega)) ⟨s38, RC.same C42, rfl⟩)
  ·refine Ja k41 (aC e46 aN) fun _ => OpSt.op (St.callR C42 Jd2 rfl rfl (yb C42.bd (n := (val a) / (val b)) (Jfq (Y5 sa (by omega)))) ?_)
   intro v56 w57 C58 s59 h60
   exact ⟨s38, ⟨C58, s59⟩, h60⟩
  ·exact Ja k41 aN fun _ => OpSt.op (St.move ⟨s38, RC.same C42, rfl⟩)
  ·exact Ja k41 aN fun _ => OpSt.op (St.move ⟨s38, RC.same C42, rfl⟩)
  ·exact Ja k41 (aC e47 (aC e48 aN)) fun _ => OpSt.op (St.rem rfl rfl (by omega) (Xw (val a) (val b)) ⟨s38, RC.same C42, rfl⟩)
  obtain ⟨a62, c63, e61, d52⟩ := RS.opn d52
  obtain ⟨f64, rfl⟩ := mixK k41 (aC e49 (aC e50 (aC e51 (aC e61 (aC e53 (aC e54 (aC e55 aN)))))))
  refine O rfl (St.callR C42 Jd2 rfl rfl (yb C42.bd (n := (val a) % (val b)) (Jej (Y5 sa (by omega)))) ?_)
  intro v65 w66 C67 s68 h69
  replace d52 := d52.sp s68
  obtain ⟨a70, c71, rfl, _, _⟩ := h69.len
  refine Oa (Oa (Nl (W.ret (Qk rfl (resV.t rfl) (resV.t rfl) (Ret.intro ?_ C67.below)))))
  refine ⟨_, _, rfl, ?_, ?_⟩
  ·skip
   exact RS.eqv ((d52 : RS _ _ _ _ _).tr (Tr.weak C67.base)) (rfl)
  ·skip
   exact RS.eqv ((h69 : RS _ _ _ _ _).tr (Tr.weak C67.base)) (rfl)
 refine Nl (W.condF rfl (W.skip (W.seq (W.seq ?_))))
 have hlab := Z4 hb sa (Jdh hc10)
 refine W.region (Om (O rfl (St.len sl24 rfl (O rfl (St.eql2 rfl rfl (fun hc72 => ?_) (fun hc72 => ?_))))))
 ·refine Nl (W.condT rfl (W.seq ?_))
  have h1v := Jc1 (a := b) (by omega)
  refine W.region (Om (Om (O rfl (St.idx (j := 0) (u := (b.getD 0 0)) r1 sl24 Jh rfl rfl rfl (Jl (by omega)) ?_))))
  intro b73 o74 cs75 e76
  obtain ⟨rfl, bd77⟩ : cs75 = _ ∧ _ := e76.rd
  refine O rfl (St.load1 J9 rfl (e76.cell 0 _ rfl) (O rfl (St.callR C7 cb206 rfl rfl (Jqc C7.bd r0 (d := (b.getD 0 0)) (by omega) (by rw [h1v]; exact hbpos) (Jg sb _)) ?_)))
  intro v78 w79 C80 s81 h82
  obtain ⟨v83, v84, rfl, h85, rfl⟩ := h82
  obtain ⟨a87, c88, rfl, _, _⟩ := h85.len
  refine Om (O rfl (St.extract rfl rfl (O rfl (St.extract rfl rfl (Oa (Oa (Nl (Rg (Om (O rfl (St.callR C80 Qj rfl rfl (Zf C80.bd h85 (by rw [Ji]; omega)) ?_)))))))))))
  intro v89 w90 C91 s92 h93
  obtain ⟨a94, c95, rfl, _, _⟩ := h93.len
  refine Om (O rfl (St.conv (z := ((val a % b.getD 0 0 : Nat) : Int)) Zt Zw rfl (IntWalk.u64_in _ (by have := Jg sb 0; have := Nat.mod_lt (val a) (show 0 < b.getD 0 0 by rw [h1v]; exact hbpos); omega)) (O rfl (St.callR C91 Jd2 rfl rfl (yb C91.bd (n := val a % b.getD 0 0) (by have := Jg sb 0; have := Nat.mod_lt (val a) (show 0 < b.getD 0 0 by rw [h1v]; exact hbpos); omega)) ?_))))
  intro v96 w97 C98 s99 h100
  replace h93 := h93.sp s99
  obtain ⟨a101, c102, rfl, _, _⟩ := h100.len
  refine Oa (Oa (Nl (W.ret (Qk rfl (resV.t rfl) (resV.t rfl) (Ret.intro ?_ C98.below)))))
  refine ⟨_, _, rfl, ?_, ?_⟩
  ·skip
   exact RS.eqv ((h93 : RS _ _ _ _ _).tr (Tr.weak C98.base)) ((by rw [h1v]; exact K1 (Nat.lt_of_le_of_lt (Nat.div_le_self _ _) (Ze a sa))))
  ·skip
   exact RS.eqv ((h100 : RS _ _ _ _ _).tr (Tr.weak C98.base)) ((by rw [h1v]))
 refine Nl (W.condF rfl (W.skip (Rg (Om (Om (O rfl (St.len sl24 rfl (O rfl (St.sub (z := (((b.length : Nat) : Int) - 1)) rfl rfl (IntWalk.i64_in _ (by omega)) (O rfl (St.idx (j := (b.length - 1)) (u := (b.getD (b.length - 1) 0)) r1 sl24 Jh rfl rfl (by omega) (Jl (by omega)) ?_)))))))))))
 intro b103 o104 cs105 e106
 obtain ⟨rfl, bd107⟩ : cs105 = _ ∧ _ := e106.rd
 refine O rfl (St.load1 J9 rfl (e106.cell 0 _ rfl) (O rfl (St.callR C7 cb253 rfl rfl (Ju1 C7.bd (x := (b.getD (b.length - 1) 0)) (Jg sb _)) ?_)))
 intro v108 w109 C110 s111 h112
 replace r0 := r0.sp s111
 subst h112
 refine O rfl (St.conv (z := (((32 - blen (b.getD (b.length - 1) 0)) : Nat) : Int)) us3 Jl2 rfl (IntWalk.u64_in _ (by omega)) (Oa (Nl (W.seq ?_))))
 have hbl := V0 (Jd9 hb sb hne)
 refine W.region (Om (Om (O rfl (St.callF C110 Jv4 rfl rfl (Jg9 C110.bd r0 (s := (32 - blen (b.getD (b.length - 1) 0))) (by omega) (by omega)) ?_))))
 intro g113 w114 x115 y116 lt117 C118 s119 o120
 replace r1 := (r1.sp s111).sp s119
 refine Om (Om (O rfl (St.callR C118 Jv4 rfl rfl (Jky C118.bd r1 (s := (32 - blen (b.getD (b.length - 1) 0))) (by omega) (by omega)) ?_)))
 intro v121 w122 C123 s124 h125
 obtain ⟨a126, c127, rfl, _, _⟩ := h125.len
 refine O rfl (St.callR C123 Qj rfl rfl (Zf C123.bd h125 (by rw [Ji]; omega)) ?_)
 intro v128 w129 C130 s131 h132
 replace o120 := (o120.spn s124).spn s131
 obtain ⟨a133, c134, rfl, _, _⟩ := h132.len
 refine Oa (Oa (Nl (W.seq ?_)))
 have hs32 : (32 - blen (b.getD (b.length - 1) 0)) < 32 := by omega
 obtain ⟨hVl, hVv, hVt⟩ := Jsl hb sb hne (Nat.le_refl (32 - blen (b.getD (b.length - 1) 0)))
 have hVs := h132.u32_small
 have hi0 := Jq5 sa hb hne (s := (32 - blen (b.getD (b.length - 1) 0))) hlab (Ji (a.length + 1) (val a * 2 ^ (32 - blen (b.getD (b.length - 1) 0)))) (Jz _ _) (J8 _ _ (Jn7 sa (Nat.le_of_lt hs32)))
 have hva := J8 (a.length + 1) (val a * 2 ^ (32 - blen (b.getD (b.length - 1) 0))) (Jn7 sa (Nat.le_of_lt hs32))
 generalize (trim (Jr (b.length + 1) (val b * 2 ^ (32 - blen (b.getD (b.length - 1) 0))))) = V at *
 generalize (32 - blen (b.getD (b.length - 1) 0)) = s at *
 rw [← hVl, ← hVv] at hi0
 have hVD := Ze V hVs
 have hVpos : 0 < val V := by rw [hVv]; exact Nat.mul_pos hbpos (Nat.two_pow_pos s)
 have hVne : V ≠ [] := by rintro rfl; simp at hVl; omega
 refine W.region (Om (O rfl (St.len sl24 rfl (Oa (Nl (Rg (Om (O rfl (St.len sl24 rfl (Om (O rfl (St.sub rfl rfl (Zz (a := (a.length + 1)) (b := V.length) (by omega) (by omega)) (O rfl (St.makeRow (n := (a.length + 1 - V.length)) C130 sl24 rfl rfl rfl (by omega) Jh (by decide) ?_))))))))))))))
 intro g135 w136 x137 y138 lt139 C140 s141 o142
 have n143 := lt139 _ o120.blk.lt
 replace h132 := h132.sp s141
 replace o120 := o120.spn s141
 refine Oa (Nl (Rh (Om (O rfl (St.len sl24 rfl (O rfl (St.sub (z := ((((a.length + 1 - V.length) : Nat) : Int) - 1)) rfl rfl (IntWalk.i64_in _ (by omega)) (Oa (Nl (W.block ?_))))))))))
 rw [← List.append_nil (List.replicate (a.length + 1 - V.length) 0)] at o142
 refine W.loopN (fun μ f v => ∃ (x y : Nat → Prop) (J : Nat) (Q : List Nat) (L : List Nat), Cx X w x y v ∧ f 4 = (.slice (some ⟨g135, 0, none⟩) (a.length + 1 - V.length) (a.length + 1 - V.length)) ∧ f 5 = (.slice none 0 0) ∧ f 10 = (.int .u64 ((s : Nat) : Int)) ∧ f 11 = (.slice (some ⟨g113, 0, none⟩) (a.length + 1) (a.length + 1)) ∧ f 12 = (.slice a133 V.length c134) ∧ f 13 = (.int .i64 ((V.length : Nat) : Int)) ∧ f 14 = (.int .i64 ((J : Int) - 1)) ∧ RS Jb x v (.slice a133 V.length c134) V ∧ Own w y v g113 (L.map u32v) 118 ∧ Own w y v g135 ((List.replicate J 0 ++ Q).map u32v) 118 ∧ J ≤ a.length + 1 - V.length ∧ J + Q.length = a.length + 1 - V.length ∧ Jo Q ∧ L.length = a.length + 1 ∧ Jo L ∧ val (L.drop J) < val V ∧ val a * 2 ^ s = val Q * val V * 4294967296 ^ J + val L ∧ μ = J) _ ⟨_, _, (a.length + 1 - V.length), [], (Jr (a.length + 1) (val a * 2 ^ s)), C140, rfl, rfl, rfl, rfl, rfl, rfl, (congrArg (Value.int .i64) (by omega)), h132, o120, o142, (Nat.le_refl _), rfl, J6, (Ji _ _), (Jz _ _), hi0, (by rw [hva]; simp [val]), rfl⟩ ?_
 rintro m159 f144 w145 ⟨x146, y147, J, Q, L, C148, e149, e150, e151, e152, e153, e154, e155, h132, o156, o157, hJ, hQl, hQs, hLl, hLs, hlo, hN, hmu158⟩
 obtain ⟨f160, rfl⟩ := rebK (aC e149 (aC e150 (aC e151 (aC e152 (aC e153 (aC e154 (aC e155 aN)))))))
 clear e149 e150 e151 e152 e153 e154 e155
 have hJL : 0 < J → J + V.length ≤ L.length := fun _ => by omega
 refine Rh (Om (O rfl (St.geq2 rfl rfl (fun hc161 => ?_) (fun hc161 => ?_))))
 ·refine Nl (W.condT rfl (W.skip (W.seq (W.block (W.region (Om (Om (Om (Om (Om (Om (O rfl (St.add (z := (((J : Int) - 1) + ((V.length : Nat) : Int))) rfl rfl (IntWalk.i64_in _ (by omega)) (O rfl (St.add (z := ((((J : Int) - 1) + ((V.length : Nat) : Int)) + 1)) rfl rfl (IntWalk.i64_in _ (by omega)) ?_)))))))))))))))
  refine O rfl (St.sliceRowE (i := (J - 1)) (j := (J + V.length)) (by rw [Jiy (by omega) (by omega)]; omega) sl24 Jh rfl rfl (by omega) rfl (by omega) (by omega) (by omega) (by omega) (Om (O rfl (St.callT C148 o156 cb255 rfl rfl (Jp4 C148.bd (A := (L.take (J - 1))) (U := ((L.drop (J - 1)).take (V.length + 1))) (Z := (L.drop (J + V.length))) (by rw [List.length_take]; omega) (by have hh := o156.blk; rw [Jm0 (L := L) (J := J) (n := V.length) (by omega) (by omega)] at hh; exact hh) (C148.yx _ o156.mem) h132 (Qp (jf hLs _) _) (by omega) (by omega) (Jiy (by omega) (by omega)) (Jd9 hVt hVs hVne) (Jor hLs (by omega) (by omega) hVD hlo)) ?_))))
  intro v162 w163 C164 s165 o166 h167
  replace o157 := o157.spo s165 (Ne.symm n143)
  subst h167
  refine O rfl (St.idxRow (j := (J - 1)) sl24 Jh rfl rfl (by omega) (by omega) (On (St.storeRow (j := (J - 1)) (u := (val ((L.drop (J - 1)).take (V.length + 1)) / val V)) C164 o157 Jh rfl rfl (by rw [List.length_append, List.length_replicate]; omega) ?_)))
  intro w168 C169 s170 o171
  replace h132 := (h132.sp s165).sp s170
  replace o166 := o166.spo s170 n143
  rw [Jfw (by omega)] at o171
  refine Nl (W.region (Om (O rfl (St.sub (z := (((J : Int) - 1) - 1)) rfl rfl (IntWalk.i64_in _ (by omega)) (Oa (Nl (⟨_, (by omega), _, _, (J - 1), ((val ((L.drop (J - 1)).take (V.length + 1))) / val V :: Q), (L.take (J - 1) ++ Jr (V.length + 1) ((val ((L.drop (J - 1)).take (V.length + 1))) % val V) ++ L.drop (J + V.length)), C169, rfl, rfl, rfl, rfl, rfl, rfl, (congrArg (Value.int .i64) (by omega)), h132, o166, o171, (by omega), (by rw [List.length_cons]; omega), (Zm (Jk2 (Jor hLs (by omega) (by omega) hVD hlo)) hQs), ((Jot (by omega) (by omega)).trans hLl), (Jie hLs), (by rw [Jev (by omega) (by omega) hVD hlo]; exact Nat.mod_lt _ hVpos), (Jsh (by omega) (by omega) hVD hlo hN), rfl⟩)))))))
 refine Nl (W.condF rfl (W.exit (W.seq ?_)))
 have hJ0 : J = 0 := by omega
 rw [hVv, hJ0] at hN
 rw [hVv, hJ0] at hlo
 have h172 := o157.frRS (x := x146) (n := (a.length + 1 - V.length)) (c := (a.length + 1 - V.length)) (by rw [List.length_append, List.length_replicate]; omega) (Nat.le_refl _) (by omega) (Z5 (Kc _) hQs)
 rw [hJ0, List.replicate_zero, List.nil_append, List.take_of_length_le (by omega)] at h172
 have C173 := C148.freeze hX o157 id
 replace o156 := o156.frz n143
 have h174 := o156.frRS (x := (Jf8 x146 g135)) (n := (a.length + 1)) (c := (a.length + 1)) (by omega) (Nat.le_refl _) (by omega) hLs
 rw [List.take_of_length_le (by omega)] at h174
 have C175 := C173.freeze hX o156 id
 refine W.drawC Zc 6 [[], [0], [], [], [2, 3], []] C175 [fx (.slice (some ⟨g135, 0, none⟩) (a.length + 1 - V.length) (a.length + 1 - V.length)), fs Jb (trim Q), fx (.slice (some ⟨g113, 0, none⟩) (a.length + 1) (a.length + 1)), fx (.int .i64 ((V.length : Nat) : Int)), fs Jb (L.take V.length), fx (.int .u64 ((s : Nat) : Int))] (by kernel_rfl) ⟨sx, ss, sx, sx, ss, sx, trivial⟩ fun f185 s186 w187 ⟨C190, S191⟩ k189 => ?_
 replace h172 := (h172.tr (Tr.frz (g := g113))).sp S191
 replace h174 := h174.sp S191
 have k189 : Keep [93, 94, 95, 96, 97, 98] _ f185 := k189
 refine ⟨⟨fun _ => ?_, fun ⟨e192, _⟩ => ?_, fun _ => ?_, fun _ => ?_, fun ⟨e193, e194, _⟩ => ?_, fun _ => ?_, trivial⟩, fun ⟨e195, d196, e197, e198, d199, e200, _⟩ => ?_⟩
 ·exact Ja k189 aN fun _ => OpSt.op (St.move ⟨s186, RC.same C190, rfl⟩)
 ·refine Ja k189 (aC e192 aN) fun _ => OpSt.op (St.callR C190 Qj rfl rfl (Zf C190.bd h172 (by omega)) ?_)
  intro v201 w202 C203 s204 h205
  exact ⟨s186, ⟨C203, s204⟩, h205⟩
 ·exact Ja k189 aN fun _ => OpSt.op (St.move ⟨s186, RC.same C190, rfl⟩)
 ·exact Ja k189 aN fun _ => OpSt.op (St.move ⟨s186, RC.same C190, rfl⟩)
 ·refine Ja k189 (aC e193 (aC e194 aN)) fun _ => OpSt.op (St.slr (j := V.length) h174 sl24 Jh rfl rfl rfl (by omega) ?_)
  intro h206
  exact ⟨s186, RC.same C190, h206⟩
 ·exact Ja k189 aN fun _ => OpSt.op (St.move ⟨s186, RC.same C190, rfl⟩)
 obtain ⟨a208, c209, e207, d196⟩ := RS.opn d196
 obtain ⟨a211, c212, e210, d199⟩ := RS.opn d199
 obtain ⟨f213, rfl⟩ := mixK k189 (aC e195 (aC e207 (aC e197 (aC e198 (aC e210 (aC e200 aN))))))
 refine O rfl (St.callR C190 cb256 rfl rfl (Jd8 C190.bd d199 (s := s) (by rw [List.length_take]; omega) hs32) ?_)
 intro v214 w215 C216 s217 h218
 obtain ⟨a219, c220, rfl, _, _⟩ := h218.len
 refine O rfl (St.callR C216 Qj rfl rfl (Zf C216.bd h218 (by rw [Ji, List.length_take]; omega)) ?_)
 intro v221 w222 C223 s224 h225
 replace d196 := (d196.sp s217).sp s224
 obtain ⟨a226, c227, rfl, _, _⟩ := h225.len
 refine Oa (Oa (Nl (W.ret (Qk rfl (resV.t rfl) (resV.t rfl) (Ret.intro ?_ C223.below)))))
 refine ⟨_, _, rfl, ?_, ?_⟩
 ·skip
  exact RS.eqv ((d196 : RS _ _ _ _ _).tr (Tr.weak C223.base)) ((dv_q hQs hbpos hN hlo))
 ·skip
  exact RS.eqv ((h225 : RS _ _ _ _ _).tr (Tr.weak C223.base)) ((dv_r hLs hbpos (by omega) (by rw [← hVv]; exact hVD) hN hlo))
end Go.Wf
namespace Go.Wf
open Go Go.Proofs Go.RowKit
set_option maxRecDepth 100000
set_option linter.unusedVariables false
set_option linter.unusedSimpArgs false
theorem RV.int_small {X : Nat → Prop} {w : World} {v : Value} {a : GInt} (h : RV Jv X w v a) : Jo a.mag := by
 obtain ⟨s, c, rfl, h2⟩ := RV.int h
 exact h2.u32_small
theorem Jan {a b : List Nat} (sa : Jo a) (sb : Jo b) : val a + val b < 4294967296 ^ (max a.length b.length + 1) := by
 have h1 := Ze a sa
 have h2 := Ze b sb
 have h3 : 4294967296 ^ a.length ≤ 4294967296 ^ max a.length b.length := Nat.pow_le_pow_right (by omega) (Nat.le_max_left _ _)
 have h4 : 4294967296 ^ b.length ≤ 4294967296 ^ max a.length b.length := Nat.pow_le_pow_right (by omega) (Nat.le_max_right _ _)
 rw [Nat.pow_succ]
 omega
set_option maxHeartbeats 1000000 in
theorem Jfs {X : Nat → Prop} {w : World} (hX : ∀ b, X b → b < w.heap.size) {v0 : Value} {a : GInt} (r0 : RV Jv X w v0 a) (hl : a.mag.length ≤ 1099511627776) : Calls Tryz.prog 182 #[v0] w (Ret w fun v w' => RV Jv X w' v (ofZ a.toZ)) := by
 obtain ⟨a1, c2, rfl, h3⟩ := RV.int r0
 have C := Cx.start hX
 have sa := r0.int_small
 refine Calls.ofW (args := [(.agg #[(.bool a.neg), (.slice a1 a.mag.length c2)])]) Tryz.func182 rfl rfl (Nat.le_of_ble_eq_true rfl) (Rg (O rfl (St.boxC C rfl ?_)))
 intro g4 w5 x6 y7 lt8 C9 s10 o11
 replace h3 := h3.sp s10
 refine O rfl (St.allocC C9 io26 rfl ?_)
 intro g12 w13 x14 y15 lt16 C17 s18 o19
 refine Nl (W.seq (W.drawC Zc 6 [[], [0], [], [2], [3], [4]] C17 [fx (.pointer (some ⟨g4, 0, none⟩)), fx (.bool a.neg), fx (.pointer (some ⟨g4, 1, none⟩)), fx (.slice a1 a.mag.length c2), fs Jb (trim a.mag), fs Jb (trim a.mag)] (by kernel_rfl) ⟨sx, sx, sx, sx, ss, ss, trivial⟩ fun f36 s37 w38 ⟨C41, S42⟩ k40 => ?_))
 replace h3 := (h3.sp s18).sp S42
 replace o11 := (o11.spn s18).spn S42
 have k40 : Keep [3, 4, 5, 6, 7, 8] _ f36 := k40
 refine ⟨⟨fun _ => ?_, fun ⟨e45, _⟩ => ?_, fun _ => ?_, fun ⟨e46, _⟩ => ?_, fun ⟨e47, _⟩ => ?_, fun ⟨d48, _⟩ => ?_, trivial⟩, fun ⟨e49, e50, e51, e52, d53, d54, _⟩ => ?_⟩
 ·exact Ja k40 aN fun _ => OpSt.op (St.fieldAddr Zg rfl ⟨s37, RC.same C41, rfl⟩)
 ·exact Ja k40 (aC e45 aN) fun _ => OpSt.op (St.loadO1 o11 pl4 rfl rfl ⟨s37, RC.same C41, rfl⟩)
 ·exact Ja k40 aN fun _ => OpSt.op (St.fieldAddr J3 rfl ⟨s37, RC.same C41, rfl⟩)
 ·exact Ja k40 (aC e46 aN) fun _ => OpSt.op (St.loadO1 o11 pl24 rfl rfl ⟨s37, RC.same C41, rfl⟩)
 ·refine Ja k40 (aC e47 aN) fun _ => OpSt.op (St.callR C41 Qj rfl rfl (Zf C41.bd h3 (by omega)) ?_)
  intro v55 w56 C57 s58 h59
  exact ⟨s37, ⟨C57, s58⟩, h59⟩
 ·obtain ⟨a61, c62, e60, d48⟩ := RS.opn d48
  refine Ja k40 (aC e60 aN) fun _ => OpSt.op (St.callR C41 Jk3 rfl rfl (zp C41.bd d48 (Nat.le_trans (Ju _) (by omega))) ?_)
  intro v63 w64 C65 s66 h67
  exact ⟨s37, ⟨C65, s66⟩, h67⟩
 obtain ⟨a69, c70, e68, d53⟩ := RS.opn d53
 obtain ⟨a72, c73, e71, d54⟩ := RS.opn d54
 obtain ⟨f74, rfl⟩ := mixK k40 (aC e49 (aC e50 (aC e51 (aC e52 (aC e68 (aC e71 aN))))))
 refine O rfl (St.callR C41 Va rfl rfl (Z8 C41.bd d54 (Nat.le_trans (Ju _) (by omega))) ?_)
 intro v75 w76 C77 s78 h79
 replace o19 := (o19.spn S42).spn s78
 obtain ⟨a80, c81, rfl, h82⟩ := RV.int h79
 refine On (St.storeC (cs' := [(.bool (mkSg a.neg (trim a.mag)).neg), (.slice a80 (mkSg a.neg (trim a.mag)).mag.length c81)]) C77 o19 io26 rfl rfl rfl rfl rfl rfl ?_)
 intro w83 C84 s85 o86
 replace h82 := h82.sp s85
 refine Nl (W.ret (Jf rfl (resV.c o86 rfl ag26 rfl) (Ret.intro ?_ C84.below)))
 exact RV.eqv (a := (mkSg a.neg (trim a.mag))) ((Jj h82).tr (Tr.weak C84.base)) (Yn (J5 sa) (by rw [Z6]; rfl))
set_option maxHeartbeats 1000000 in
theorem Jac {X : Nat → Prop} {w : World} (hX : ∀ b, X b → b < w.heap.size) {v0 : Value} {a : GInt} (r0 : RV Jv X w v0 a) (hl : a.mag.length ≤ 1099511627776) : Calls Tryz.prog 171 #[v0] w (Ret w fun v w' => v = (.int .i64 a.toZ.sign)) := by
 obtain ⟨a1, c2, rfl, h3⟩ := RV.int r0
 have C := Cx.start hX
 have sa := r0.int_small
 refine Calls.ofW (args := [(.agg #[(.bool a.neg), (.slice a1 a.mag.length c2)])]) Tryz.func171 rfl rfl (Nat.le_of_ble_eq_true rfl) (Rg (O rfl (St.boxC C rfl ?_)))
 intro g4 w5 x6 y7 lt8 C9 s10 o11
 replace h3 := h3.sp s10
 refine Oa (Nl (W.seq (W.block (Rg (O rfl (St.fieldAddr J3 rfl (O rfl (St.loadO1 o11 pl24 rfl rfl (O rfl (St.callR C9 Qj rfl rfl (Zf C9.bd h3 (by omega)) ?_))))))))))
 intro v12 w13 C14 s15 h16
 replace o11 := o11.spn s15
 obtain ⟨a17, c18, rfl, _, _⟩ := h16.len
 refine O rfl (St.len sl24 rfl (O rfl (St.eql2 rfl rfl (fun hc19 => ?_) (fun hc19 => ?_))))
 ·exact Oa (Nl (W.condT rfl (Rg (Oa (Nl (W.ret (Jf rfl (resV.t rfl) (Ret.intro (congrArg (Value.int _) ((Jjk ((Ku sa).1 (by omega))))) C14.below))))))))
 refine Oa (Nl (W.condF rfl (Rg (O rfl (St.fieldAddr Zg rfl (O rfl (St.bool (St.loadO1 o11 pl4 rfl rfl ⟨_, rfl, fun hb20 => ?_, fun hb20 => ?_⟩))))))))
 ·exact Oa (Nl (W.condT rfl (Rg (Oa (Nl (W.ret (Jf rfl (resV.t rfl) (Ret.intro (congrArg (Value.int _) ((vm hb20 (fun h => hc19 (by rw [(Ku sa).2 h]; rfl))))) C14.below))))))))
 exact Oa (Nl (W.condF rfl (W.skip (Rg (Oa (Nl (W.ret (Jf rfl (resV.t rfl) (Ret.intro (congrArg (Value.int _) ((Jnc hb20 (fun h => hc19 (by rw [(Ku sa).2 h]; rfl))))) C14.below)))))))))
set_option maxHeartbeats 1000000 in
theorem Jip {X : Nat → Prop} {w : World} (hX : ∀ b, X b → b < w.heap.size) {v0 : Value} {a : GInt} (r0 : RV Jv X w v0 a) (hl : a.mag.length ≤ 1099511627776) : Calls Tryz.prog 154 #[v0] w (Ret w fun v w' => RV Jv X w' v (ofZ (-a.toZ))) := by
 obtain ⟨a1, c2, rfl, h3⟩ := RV.int r0
 have C := Cx.start hX
 have sa := r0.int_small
 refine Calls.ofW (args := [(.agg #[(.bool a.neg), (.slice a1 a.mag.length c2)])]) Tryz.func154 rfl rfl (Nat.le_of_ble_eq_true rfl) (Rg (O rfl (St.boxC C rfl ?_)))
 intro g4 w5 x6 y7 lt8 C9 s10 o11
 replace h3 := h3.sp s10
 refine O rfl (St.allocC C9 io26 rfl ?_)
 intro g12 w13 x14 y15 lt16 C17 s18 o19
 refine Nl (W.seq (W.drawC Zc 7 [[], [0], [1], [], [3], [4], [5]] C17 [fx (.pointer (some ⟨g4, 0, none⟩)), fx (.bool a.neg), fx (.bool (!a.neg)), fx (.pointer (some ⟨g4, 1, none⟩)), fx (.slice a1 a.mag.length c2), fs Jb (trim a.mag), fs Jb (trim a.mag)] (by kernel_rfl) ⟨sx, sx, sx, sx, sx, ss, ss, trivial⟩ fun f36 s37 w38 ⟨C41, S42⟩ k40 => ?_))
 replace h3 := (h3.sp s18).sp S42
 replace o11 := (o11.spn s18).spn S42
 have k40 : Keep [3, 4, 5, 6, 7, 8, 9] _ f36 := k40
 refine ⟨⟨fun _ => ?_, fun ⟨e45, _⟩ => ?_, fun ⟨e46, _⟩ => ?_, fun _ => ?_, fun ⟨e47, _⟩ => ?_, fun ⟨e48, _⟩ => ?_, fun ⟨d49, _⟩ => ?_, trivial⟩, fun ⟨e50, e51, e52, e53, e54, d55, d56, _⟩ => ?_⟩
 ·exact Ja k40 aN fun _ => OpSt.op (St.fieldAddr Zg rfl ⟨s37, RC.same C41, rfl⟩)
 ·exact Ja k40 (aC e45 aN) fun _ => OpSt.op (St.loadO1 o11 pl4 rfl rfl ⟨s37, RC.same C41, rfl⟩)
 ·exact Ja k40 (aC e46 aN) fun _ => OpSt.op (St.not rfl ⟨s37, RC.same C41, rfl⟩)
 ·exact Ja k40 aN fun _ => OpSt.op (St.fieldAddr J3 rfl ⟨s37, RC.same C41, rfl⟩)
 ·exact Ja k40 (aC e47 aN) fun _ => OpSt.op (St.loadO1 o11 pl24 rfl rfl ⟨s37, RC.same C41, rfl⟩)
 ·refine Ja k40 (aC e48 aN) fun _ => OpSt.op (St.callR C41 Qj rfl rfl (Zf C41.bd h3 (by omega)) ?_)
  intro v57 w58 C59 s60 h61
  exact ⟨s37, ⟨C59, s60⟩, h61⟩
 ·obtain ⟨a63, c64, e62, d49⟩ := RS.opn d49
  refine Ja k40 (aC e62 aN) fun _ => OpSt.op (St.callR C41 Jk3 rfl rfl (zp C41.bd d49 (Nat.le_trans (Ju _) (by omega))) ?_)
  intro v65 w66 C67 s68 h69
  exact ⟨s37, ⟨C67, s68⟩, h69⟩
 obtain ⟨a71, c72, e70, d55⟩ := RS.opn d55
 obtain ⟨a74, c75, e73, d56⟩ := RS.opn d56
 obtain ⟨f76, rfl⟩ := mixK k40 (aC e50 (aC e51 (aC e52 (aC e53 (aC e54 (aC e70 (aC e73 aN)))))))
 refine O rfl (St.callR C41 Va rfl rfl (Z8 C41.bd d56 (Nat.le_trans (Ju _) (by omega))) ?_)
 intro v77 w78 C79 s80 h81
 replace o19 := (o19.spn S42).spn s80
 obtain ⟨a82, c83, rfl, h84⟩ := RV.int h81
 refine On (St.storeC (cs' := [(.bool (mkSg (!a.neg) (trim a.mag)).neg), (.slice a82 (mkSg (!a.neg) (trim a.mag)).mag.length c83)]) C79 o19 io26 rfl rfl rfl rfl rfl rfl ?_)
 intro w85 C86 s87 o88
 replace h84 := h84.sp s87
 refine Nl (W.ret (Jf rfl (resV.c o88 rfl ag26 rfl) (Ret.intro ?_ C86.below)))
 exact RV.eqv (a := (mkSg (!a.neg) (trim a.mag))) ((Jj h84).tr (Tr.weak C86.base)) (Yn (J5 sa) (by rw [Z6, Jcl]; rfl))
set_option maxHeartbeats 1000000 in
theorem Jwc {X : Nat → Prop} {w : World} (hX : ∀ b, X b → b < w.heap.size) {v0 : Value} {a : GInt} (r0 : RV Jv X w v0 a) {n : Bool} {v2 : Value} {b : List Nat} (r2 : RS Jb X w v2 b) (hla : a.mag.length ≤ 549755813888) (hb : trim b = b) (hlb : b.length ≤ 549755813888) : Calls Tryz.prog 225 #[v0, (.bool n), v2] w (Ret w fun v w' => RV Jv X w' v (ofZ (a.toZ + Jk n (val b)))) := by
 obtain ⟨a1, c2, rfl, h3⟩ := RV.int r0
 obtain ⟨a4, c5, rfl, _, _⟩ := r2.len
 have C := Cx.start hX
 have sa := r0.int_small
 have sb := r2.u32_small
 have tt := K5 sa
 have tl := Ju a.mag
 have tv := Z6 a.mag
 have tb : ¬ cmpN (val (trim a.mag)) (val b) ≥ 0 → val a.mag ≤ val b := fun h => by rw [← tv]; exact Nat.le_of_lt (Jdv (by omega))
 have tg : cmpN (val (trim a.mag)) (val b) ≥ 0 → val b ≤ val (trim a.mag) := fun h => Jdh (by omega)
 have tll : val a.mag ≤ val b → (trim a.mag).length ≤ b.length := fun h => Z4 tt sb (by omega)
 have tgl : val b ≤ val (trim a.mag) → b.length ≤ (trim a.mag).length := fun h => Z4 hb (J5 sa) h
 refine Calls.ofW (args := [(.agg #[(.bool a.neg), (.slice a1 a.mag.length c2)]), (.bool n), (.slice a4 b.length c5)]) Tryz.func225 rfl rfl (Nat.le_of_ble_eq_true rfl) (Rg (O rfl (St.boxC C rfl ?_)))
 intro g6 w7 x8 y9 lt10 C11 s12 o13
 replace r2 := r2.sp s12
 refine O rfl (St.allocC C11 io26 rfl ?_)
 intro g14 w15 x16 y17 lt18 C19 s20 o21
 replace h3 := (h3.sp s12).sp s20
 replace o13 := o13.spn s20
 refine Nl (Rg (O rfl (St.fieldAddr J3 rfl (O rfl (St.loadO1 o13 pl24 rfl rfl (O rfl (St.callR C19 Qj rfl rfl (Zf C19.bd h3 (by omega)) ?_)))))))
 intro v23 w24 C25 s26 h27
 replace r2 := (r2.sp s20).sp s26
 replace o13 := o13.spn s26
 replace o21 := o21.spn s26
 obtain ⟨a28, c29, rfl, _, _⟩ := h27.len
 refine Oa (Nl (Rh (O rfl (St.fieldAddr Zg rfl (O rfl (St.loadO1 o13 pl4 rfl rfl (Om (O rfl (St.bool (St.eqlB un4 rfl rfl rfl ⟨_, rfl, fun hb30 => ?_, fun hb30 => ?_⟩))))))))))
 ·refine Nl (W.condT rfl (Rg (Om (Om (Om (O rfl (St.callR C25 Jww rfl rfl (Jos C25.bd h27 r2 (by omega) (by omega)) ?_)))))))
  intro v31 w32 C33 s34 h35
  obtain ⟨a36, c37, rfl, _, _⟩ := h35.len
  refine O rfl (St.callR C33 Va rfl rfl (Z8 C33.bd h35 (by rw [Ji]; omega)) ?_)
  intro v38 w39 C40 s41 h42
  replace o21 := (o21.spn s34).spn s41
  obtain ⟨a43, c44, rfl, h45⟩ := RV.int h42
  refine On (St.storeC (cs' := [(.bool (mkSg n (Jr (max (trim a.mag).length b.length + 1) (val (trim a.mag) + val b))).neg), (.slice a43 (mkSg n (Jr (max (trim a.mag).length b.length + 1) (val (trim a.mag) + val b))).mag.length c44)]) C40 o21 io26 rfl rfl rfl rfl rfl rfl ?_)
  intro w46 C47 s48 o49
  replace h45 := h45.sp s48
  refine Nl (W.ret (Jf rfl (resV.c o49 rfl ag26 rfl) (Ret.intro ?_ C47.below)))
  exact RV.eqv (a := (mkSg n (Jr (max (trim a.mag).length b.length + 1) (val (trim a.mag) + val b)))) ((Jj h45).tr (Tr.weak C47.base)) (Yn (Jz _ _) (by rw [J8 _ _ (Jan (J5 sa) sb), tv]; exact Jfd (by simpa using hb30)))
 refine Nl (W.condF rfl (W.skip (Rh (Om (Om (O rfl (St.callR C25 Ju8 rfl rfl (Jcm C25.bd h27 r2 tt hb (by omega) (by omega)) ?_)))))))
 intro v50 w51 C52 s53 h54
 replace r2 := r2.sp s53
 replace h27 := h27.sp s53
 replace o21 := o21.spn s53
 subst h54
 refine O rfl (St.geq2 rfl rfl (fun hc55 => ?_) (fun hc55 => ?_))
 ·refine Nl (W.condT rfl (W.seq (W.drawC Zc 5 [[], [0], [], [], [2, 3]] C52 [fx (.pointer (some ⟨g6, 0, none⟩)), fx (.bool a.neg), fx (.slice a28 (trim a.mag).length c29), fx (.slice a4 b.length c5), fs Jb (Jr (trim a.mag).length (val (trim a.mag) - val b))] (by kernel_rfl) ⟨sx, sx, sx, sx, ss, trivial⟩ fun f64 s65 w66 ⟨C69, S70⟩ k68 => ?_)))
  replace r2 := r2.sp S70
  replace h27 := h27.sp S70
  replace o13 := (o13.spn s53).spn S70
  have k68 : Keep [24, 25, 26, 27, 28] _ f64 := k68
  refine ⟨⟨fun _ => ?_, fun ⟨e73, _⟩ => ?_, fun _ => ?_, fun _ => ?_, fun ⟨e74, e75, _⟩ => ?_, trivial⟩, fun ⟨e76, e77, e78, e79, d80, _⟩ => ?_⟩
  ·exact Ja k68 aN fun _ => OpSt.op (St.fieldAddr Zg rfl ⟨s65, RC.same C69, rfl⟩)
  ·exact Ja k68 (aC e73 aN) fun _ => OpSt.op (St.loadO1 o13 pl4 rfl rfl ⟨s65, RC.same C69, rfl⟩)
  ·exact Ja k68 aN fun _ => OpSt.op (St.move ⟨s65, RC.same C69, rfl⟩)
  ·exact Ja k68 aN fun _ => OpSt.op (St.move ⟨s65, RC.same C69, rfl⟩)
  ·refine Ja k68 (aC e74 (aC e75 aN)) fun _ => OpSt.op (St.callR C69 Jqp rfl rfl (Jif C69.bd h27 r2 (by omega) (tgl (tg (by omega))) (tg (by omega))) ?_)
   intro v81 w82 C83 s84 h85
   exact ⟨s65, ⟨C83, s84⟩, h85⟩
  obtain ⟨a87, c88, e86, d80⟩ := RS.opn d80
  obtain ⟨f89, rfl⟩ := mixK k68 (aC e76 (aC e77 (aC e78 (aC e79 (aC e86 aN)))))
  refine O rfl (St.callR C69 Va rfl rfl (Z8 C69.bd d80 (by rw [Ji]; omega)) ?_)
  intro v90 w91 C92 s93 h94
  replace o21 := (o21.spn S70).spn s93
  obtain ⟨a95, c96, rfl, h97⟩ := RV.int h94
  refine On (St.storeC (cs' := [(.bool (mkSg a.neg (Jr (trim a.mag).length (val (trim a.mag) - val b))).neg), (.slice a95 (mkSg a.neg (Jr (trim a.mag).length (val (trim a.mag) - val b))).mag.length c96)]) C92 o21 io26 rfl rfl rfl rfl rfl rfl ?_)
  intro w98 C99 s100 o101
  replace h97 := h97.sp s100
  refine Nl (W.ret (Jf rfl (resV.c o101 rfl ag26 rfl) (Ret.intro ?_ C99.below)))
  exact RV.eqv (a := (mkSg a.neg (Jr (trim a.mag).length (val (trim a.mag) - val b)))) ((Jj h97).tr (Tr.weak C99.base)) (Yn (Jz _ _) (by rw [J8 _ _ (Nat.lt_of_le_of_lt (Nat.sub_le _ _) (Ze _ (J5 sa))), tv]; exact Jnq (by simpa using hb30) (by rw [← tv]; exact tg (by omega))))
 refine Nl (W.condF rfl (W.skip (Rg (Om (Om (Om (O rfl (St.callR C52 Jqp rfl rfl (Jif C52.bd r2 h27 (by omega) (tll (tb (by omega))) (by rw [tv]; exact tb (by omega))) ?_))))))))
 intro v102 w103 C104 s105 h106
 obtain ⟨a107, c108, rfl, _, _⟩ := h106.len
 refine O rfl (St.callR C104 Va rfl rfl (Z8 C104.bd h106 (by rw [Ji]; omega)) ?_)
 intro v109 w110 C111 s112 h113
 replace o21 := (o21.spn s105).spn s112
 obtain ⟨a114, c115, rfl, h116⟩ := RV.int h113
 refine On (St.storeC (cs' := [(.bool (mkSg n (Jr b.length (val b - val (trim a.mag)))).neg), (.slice a114 (mkSg n (Jr b.length (val b - val (trim a.mag)))).mag.length c115)]) C111 o21 io26 rfl rfl rfl rfl rfl rfl ?_)
 intro w117 C118 s119 o120
 replace h116 := h116.sp s119
 refine Nl (W.ret (Jf rfl (resV.c o120 rfl ag26 rfl) (Ret.intro ?_ C118.below)))
 exact RV.eqv (a := (mkSg n (Jr b.length (val b - val (trim a.mag))))) ((Jj h116).tr (Tr.weak C118.base)) (Yn (Jz _ _) (by rw [J8 _ _ (Nat.lt_of_le_of_lt (Nat.sub_le _ _) (Ze _ sb)), tv]; exact Jnx (by simpa using hb30) (tb (by omega))))
end Go.Wf
namespace Go.Wf
open Go Go.Proofs Go.RowKit
set_option maxRecDepth 100000
set_option linter.unusedVariables false
set_option linter.unusedSimpArgs false
theorem Jhh {b : Bool} {m : List Nat} {v : Nat} {z : Int} (h : trim m = digs v) (e : Jk b v = z) : mkSg b m = ofZ z := by
 subst e
 unfold mkSg ofZ
 rw [h, X4, Je5, Qb]
theorem Jps {a b : List Nat} (sa : Jo a) (sb : Jo b) : (digs (Nat.gcd (val a) (val b))).length ≤ a.length + b.length := by
 refine Jy ?_
 have h1 := Ze a sa
 have h2 := Ze b sb
 have h3 : 4294967296 ^ a.length ≤ 4294967296 ^ (a.length + b.length) := Nat.pow_le_pow_right (by omega) (by omega)
 have h4 : 4294967296 ^ b.length ≤ 4294967296 ^ (a.length + b.length) := Nat.pow_le_pow_right (by omega) (by omega)
 rcases Nat.eq_zero_or_pos (val a) with e | e
 ·rw [e, Nat.gcd_zero_left]; omega
 ·have := Nat.gcd_le_left (val b) e; omega
theorem zm (x y : Nat) : Nat.gcd y (x % y) = Nat.gcd x y := by rw [Nat.gcd_comm x y, Nat.gcd_rec y x, Nat.gcd_comm]
theorem Qd {a b : List Nat} (sb : Jo b) (h : 0 < val b) : (digs (val a % val b)).length ≤ b.length := Jy (Nat.lt_trans (Nat.mod_lt _ h) (Ze b sb))
theorem Jbc {a : List Nat} (sa : Jo a) (n : Nat) : (digs (val a / n)).length ≤ a.length := Jy (Nat.lt_of_le_of_lt (Nat.div_le_self _ _) (Ze a sa))
theorem Ji9 : Jo [1] := Zm (by decide) J6
set_option maxHeartbeats 1000000 in
theorem Jkt {X : Nat → Prop} {w : World} (hX : ∀ b, X b → b < w.heap.size) {v0 : Value} {a : GInt} (r0 : RV Jv X w v0 a) {v1 : Value} {b : GInt} (r1 : RV Jv X w v1 b) (hla : a.mag.length ≤ 549755813888) (hlb : b.mag.length ≤ 549755813888) : Calls Tryz.prog 186 #[v0, v1] w (Ret w fun v w' => RV Jv X w' v (ofZ (a.toZ + b.toZ))) := by
 obtain ⟨a1, c2, rfl, h3⟩ := RV.int r0
 obtain ⟨a4, c5, rfl, h6⟩ := RV.int r1
 have C := Cx.start hX
 have sa := r0.int_small
 have sb := r1.int_small
 refine Calls.ofW (args := [(.agg #[(.bool a.neg), (.slice a1 a.mag.length c2)]), (.agg #[(.bool b.neg), (.slice a4 b.mag.length c5)])]) Tryz.func186 rfl rfl (Nat.le_of_ble_eq_true rfl) (Rg (O rfl (St.boxC C rfl ?_)))
 intro g7 w8 x9 y10 lt11 C12 s13 o14
 refine O rfl (St.boxC C12 rfl ?_)
 intro g15 w16 x17 y18 lt19 C20 s21 o22
 replace h3 := (h3.sp s13).sp s21
 replace h6 := (h6.sp s13).sp s21
 replace o14 := o14.spn s21
 refine O rfl (St.allocC C20 io26 rfl ?_)
 intro g24 w25 x26 y27 lt28 C29 s30 o31
 refine Nl (W.seq (W.drawC Zc 6 [[], [], [1], [], [3], [4]] C29 [fx (.agg #[(.bool a.neg), (.slice a1 a.mag.length c2)]), fx (.pointer (some ⟨g15, 0, none⟩)), fx (.bool b.neg), fx (.pointer (some ⟨g15, 1, none⟩)), fx (.slice a4 b.mag.length c5), fs Jb (trim b.mag)] (by kernel_rfl) ⟨sx, sx, sx, sx, sx, ss, trivial⟩ fun f42 s43 w44 ⟨C47, S48⟩ k46 => ?_))
 replace h3 := (h3.sp s30).sp S48
 replace h6 := (h6.sp s30).sp S48
 replace o14 := (o14.spn s30).spn S48
 replace o22 := (o22.spn s30).spn S48
 have k46 : Keep [5, 6, 7, 8, 9, 10] _ f42 := k46
 refine ⟨⟨fun _ => ?_, fun _ => ?_, fun ⟨e52, _⟩ => ?_, fun _ => ?_, fun ⟨e53, _⟩ => ?_, fun ⟨e54, _⟩ => ?_, trivial⟩, fun ⟨e55, e56, e57, e58, e59, d60, _⟩ => ?_⟩
 ·exact Ja k46 aN fun _ => OpSt.op (St.loadOA (vs := [(.bool a.neg), (.slice a1 a.mag.length c2)]) o14 ag26 rfl rfl rfl ⟨s43, RC.same C47, rfl⟩)
 ·exact Ja k46 aN fun _ => OpSt.op (St.fieldAddr Zg rfl ⟨s43, RC.same C47, rfl⟩)
 ·exact Ja k46 (aC e52 aN) fun _ => OpSt.op (St.loadO1 o22 pl4 rfl rfl ⟨s43, RC.same C47, rfl⟩)
 ·exact Ja k46 aN fun _ => OpSt.op (St.fieldAddr J3 rfl ⟨s43, RC.same C47, rfl⟩)
 ·exact Ja k46 (aC e53 aN) fun _ => OpSt.op (St.loadO1 o22 pl24 rfl rfl ⟨s43, RC.same C47, rfl⟩)
 ·refine Ja k46 (aC e54 aN) fun _ => OpSt.op (St.callR C47 Qj rfl rfl (Zf C47.bd h6 (by omega)) ?_)
  intro v61 w62 C63 s64 h65
  exact ⟨s43, ⟨C63, s64⟩, h65⟩
 obtain ⟨a67, c68, e66, d60⟩ := RS.opn d60
 obtain ⟨f69, rfl⟩ := mixK k46 (aC e55 (aC e56 (aC e57 (aC e58 (aC e59 (aC e66 aN))))))
 refine O rfl (St.callR C47 cb225 rfl rfl (Jwc C47.bd (a := a) (Jj h3) d60 (by omega) (K5 sb) (Nat.le_trans (Ju _) (by omega))) ?_)
 intro v70 w71 C72 s73 h74
 replace o31 := (o31.spn S48).spn s73
 obtain ⟨a75, c76, rfl, h77⟩ := RV.int h74
 refine On (St.storeC (cs' := [(.bool (ofZ (a.toZ + Jk b.neg (val (trim b.mag)))).neg), (.slice a75 (ofZ (a.toZ + Jk b.neg (val (trim b.mag)))).mag.length c76)]) C72 o31 io26 rfl rfl rfl rfl rfl rfl ?_)
 intro w78 C79 s80 o81
 replace h77 := h77.sp s80
 refine Nl (W.ret (Jf rfl (resV.c o81 rfl ag26 rfl) (Ret.intro ?_ C79.below)))
 exact RV.eqv (a := (ofZ (a.toZ + Jk b.neg (val (trim b.mag))))) ((Jj h77).tr (Tr.weak C79.base)) ((by rw [Z6]; rfl))
set_option maxHeartbeats 1000000 in
theorem ke {X : Nat → Prop} {w : World} (hX : ∀ b, X b → b < w.heap.size) {v0 : Value} {a : GInt} (r0 : RV Jv X w v0 a) {v1 : Value} {b : GInt} (r1 : RV Jv X w v1 b) (hla : a.mag.length ≤ 549755813888) (hlb : b.mag.length ≤ 549755813888) : Calls Tryz.prog 187 #[v0, v1] w (Ret w fun v w' => RV Jv X w' v (ofZ (a.toZ * b.toZ))) := by
 obtain ⟨a1, c2, rfl, h3⟩ := RV.int r0
 obtain ⟨a4, c5, rfl, h6⟩ := RV.int r1
 have C := Cx.start hX
 have sa := r0.int_small
 have sb := r1.int_small
 have tla := Ju a.mag
 have tlb := Ju b.mag
 have tdl := xm (J5 sa) (J5 sb)
 refine Calls.ofW (args := [(.agg #[(.bool a.neg), (.slice a1 a.mag.length c2)]), (.agg #[(.bool b.neg), (.slice a4 b.mag.length c5)])]) Tryz.func187 rfl rfl (Nat.le_of_ble_eq_true rfl) (Rg (O rfl (St.boxC C rfl ?_)))
 intro g7 w8 x9 y10 lt11 C12 s13 o14
 refine O rfl (St.boxC C12 rfl ?_)
 intro g15 w16 x17 y18 lt19 C20 s21 o22
 replace h3 := (h3.sp s13).sp s21
 replace h6 := (h6.sp s13).sp s21
 replace o14 := o14.spn s21
 refine O rfl (St.allocC C20 io26 rfl ?_)
 intro g24 w25 x26 y27 lt28 C29 s30 o31
 refine Nl (W.seq (W.drawC Zc 12 [[], [0], [], [2], [1, 3], [], [5], [6], [], [8], [9], [7, 10]] C29 [fx (.pointer (some ⟨g7, 0, none⟩)), fx (.bool a.neg), fx (.pointer (some ⟨g15, 0, none⟩)), fx (.bool b.neg), fx (.bool (a.neg != b.neg)), fx (.pointer (some ⟨g7, 1, none⟩)), fx (.slice a1 a.mag.length c2), fs Jb (trim a.mag), fx (.pointer (some ⟨g15, 1, none⟩)), fx (.slice a4 b.mag.length c5), fs Jb (trim b.mag), fs Jb (K3 (trim a.mag) (trim b.mag))] (by kernel_rfl) ⟨sx, sx, sx, sx, sx, sx, sx, ss, sx, sx, ss, ss, trivial⟩ fun f56 s57 w58 ⟨C61, S62⟩ k60 => ?_))
 replace h3 := (h3.sp s30).sp S62
 replace h6 := (h6.sp s30).sp S62
 replace o14 := (o14.spn s30).spn S62
 replace o22 := (o22.spn s30).spn S62
 have k60 : Keep [5, 6, 7, 8, 9, 10, 11, 12, 13, 14, 15, 16] _ f56 := k60
 refine ⟨⟨fun _ => ?_, fun ⟨e66, _⟩ => ?_, fun _ => ?_, fun ⟨e67, _⟩ => ?_, fun ⟨e68, e69, _⟩ => ?_, fun _ => ?_, fun ⟨e70, _⟩ => ?_, fun ⟨e71, _⟩ => ?_, fun _ => ?_, fun ⟨e72, _⟩ => ?_, fun ⟨e73, _⟩ => ?_, fun ⟨d74, d75, _⟩ => ?_, trivial⟩, fun ⟨e76, e77, e78, e79, e80, e81, e82, d83, e84, e85, d86, d87, _⟩ => ?_⟩
 ·exact Ja k60 aN fun _ => OpSt.op (St.fieldAddr Zg rfl ⟨s57, RC.same C61, rfl⟩)
 ·exact Ja k60 (aC e66 aN) fun _ => OpSt.op (St.loadO1 o14 pl4 rfl rfl ⟨s57, RC.same C61, rfl⟩)
 ·exact Ja k60 aN fun _ => OpSt.op (St.fieldAddr Zg rfl ⟨s57, RC.same C61, rfl⟩)
 ·exact Ja k60 (aC e67 aN) fun _ => OpSt.op (St.loadO1 o22 pl4 rfl rfl ⟨s57, RC.same C61, rfl⟩)
 ·exact Ja k60 (aC e68 (aC e69 aN)) fun _ => OpSt.op (St.neqB un4 rfl rfl rfl ⟨s57, RC.same C61, rfl⟩)
 ·exact Ja k60 aN fun _ => OpSt.op (St.fieldAddr J3 rfl ⟨s57, RC.same C61, rfl⟩)
 ·exact Ja k60 (aC e70 aN) fun _ => OpSt.op (St.loadO1 o14 pl24 rfl rfl ⟨s57, RC.same C61, rfl⟩)
 ·refine Ja k60 (aC e71 aN) fun _ => OpSt.op (St.callR C61 Qj rfl rfl (Zf C61.bd h3 (by omega)) ?_)
  intro v88 w89 C90 s91 h92
  exact ⟨s57, ⟨C90, s91⟩, h92⟩
 ·exact Ja k60 aN fun _ => OpSt.op (St.fieldAddr J3 rfl ⟨s57, RC.same C61, rfl⟩)
 ·exact Ja k60 (aC e72 aN) fun _ => OpSt.op (St.loadO1 o22 pl24 rfl rfl ⟨s57, RC.same C61, rfl⟩)
 ·refine Ja k60 (aC e73 aN) fun _ => OpSt.op (St.callR C61 Qj rfl rfl (Zf C61.bd h6 (by omega)) ?_)
  intro v93 w94 C95 s96 h97
  exact ⟨s57, ⟨C95, s96⟩, h97⟩
 ·obtain ⟨a99, c100, e98, d74⟩ := RS.opn d74
  obtain ⟨a102, c103, e101, d75⟩ := RS.opn d75
  refine Ja k60 (aC e98 (aC e101 aN)) fun _ => OpSt.op (St.callR C61 cb226 rfl rfl (Jro C61.bd d74 d75 (by omega) (by omega)) ?_)
  intro v104 w105 C106 s107 h108
  exact ⟨s57, ⟨C106, s107⟩, h108⟩
 obtain ⟨a110, c111, e109, d83⟩ := RS.opn d83
 obtain ⟨a113, c114, e112, d86⟩ := RS.opn d86
 obtain ⟨a116, c117, e115, d87⟩ := RS.opn d87
 obtain ⟨f118, rfl⟩ := mixK k60 (aC e76 (aC e77 (aC e78 (aC e79 (aC e80 (aC e81 (aC e82 (aC e109 (aC e84 (aC e85 (aC e112 (aC e115 aN))))))))))))
 refine O rfl (St.callR C61 Va rfl rfl (Z8 C61.bd d87 (by omega)) ?_)
 intro v119 w120 C121 s122 h123
 replace o31 := (o31.spn S62).spn s122
 obtain ⟨a124, c125, rfl, h126⟩ := RV.int h123
 refine On (St.storeC (cs' := [(.bool (mkSg (a.neg != b.neg) (K3 (trim a.mag) (trim b.mag))).neg), (.slice a124 (mkSg (a.neg != b.neg) (K3 (trim a.mag) (trim b.mag))).mag.length c125)]) C121 o31 io26 rfl rfl rfl rfl rfl rfl ?_)
 intro w127 C128 s129 o130
 replace h126 := h126.sp s129
 refine Nl (W.ret (Jf rfl (resV.c o130 rfl ag26 rfl) (Ret.intro ?_ C128.below)))
 exact RV.eqv (a := (mkSg (a.neg != b.neg) (K3 (trim a.mag) (trim b.mag)))) ((Jj h126).tr (Tr.weak C128.base)) (Jhh (Jdi (J5 sa) (J5 sb)) (by rw [Z6, Z6]; exact Jco a b))
set_option maxHeartbeats 1000000 in
theorem Jkv {X : Nat → Prop} {w : World} (hX : ∀ b, X b → b < w.heap.size) {v0 : Value} {a : GInt} (r0 : RV Jv X w v0 a) {v1 : Value} {b : GInt} (r1 : RV Jv X w v1 b) (hla : a.mag.length ≤ 274877906944) (hlb : b.mag.length ≤ 274877906944) (hb0 : val b.mag ≠ 0) : Calls Tryz.prog 222 #[v0, v1] w (Ret w fun v w' => ∃ v0 v1 v2, v = .tuple #[v0, v1, v2] ∧ (RV Jv X w' v0 (ofZ (a.toZ / b.toZ))) ∧ (RV Jv X w' v1 (ofZ (a.toZ % b.toZ))) ∧ (v2 = (.int .i64 0))) := by
 obtain ⟨a1, c2, rfl, h3⟩ := RV.int r0
 obtain ⟨a4, c5, rfl, h6⟩ := RV.int r1
 have C := Cx.start hX
 have sa := r0.int_small
 have sb := r1.int_small
 have tla := Ju a.mag
 have tlb := Ju b.mag
 have tb : (trim b.mag).length ≠ 0 := fun h => hb0 ((Ku sb).1 h)
 have tva := Z6 a.mag
 have tvb := Z6 b.mag
 have hbp : 0 < val (trim b.mag) := by omega
 have hdl := Jbc (J5 sa) (val (trim b.mag))
 have hml := Qd (a := trim a.mag) (J5 sb) hbp
 have hmz : ¬ (digs (val (trim a.mag) % val (trim b.mag))).length > 0 ↔ val a.mag % val b.mag = 0 := by rw [tva, tvb]; have := Qb (val a.mag % val b.mag); simp only [decide_eq_decide] at this; omega
 refine Calls.ofW (args := [(.agg #[(.bool a.neg), (.slice a1 a.mag.length c2)]), (.agg #[(.bool b.neg), (.slice a4 b.mag.length c5)])]) Tryz.func222 rfl rfl (Nat.le_of_ble_eq_true rfl) (Rg (O rfl (St.boxC C rfl ?_)))
 intro g7 w8 x9 y10 lt11 C12 s13 o14
 replace h3 := h3.sp s13
 refine O rfl (St.boxC C12 rfl ?_)
 intro g15 w16 x17 y18 lt19 C20 s21 o22
 replace h6 := (h6.sp s13).sp s21
 refine O rfl (St.allocC C20 io26 rfl ?_)
 intro g24 w25 x26 y27 lt28 C29 s30 o31
 replace h3 := (h3.sp s21).sp s30
 replace o14 := (o14.spn s21).spn s30
 refine O rfl (St.allocC C29 io26 rfl ?_)
 intro g34 w35 x36 y37 lt38 C39 s40 o41
 have n44 := lt38 _ o31.blk.lt
 replace h6 := (h6.sp s30).sp s40
 replace o22 := (o22.spn s30).spn s40
 refine Oa (Nl (Rg (O rfl (St.fieldAddr J3 rfl (O rfl (St.loadO1 o22 pl24 rfl rfl (O rfl (St.callR C39 Qj rfl rfl (Zf C39.bd h6 (by omega)) ?_))))))))
 intro v45 w46 C47 s48 h49
 replace h3 := (h3.sp s40).sp s48
 replace o14 := (o14.spn s40).spn s48
 replace o22 := o22.spn s48
 replace o31 := (o31.spn s40).spn s48
 replace o41 := o41.spn s48
 obtain ⟨a50, c51, rfl, _, _⟩ := h49.len
 refine Oa (Nl (Rh (Om (O rfl (St.len sl24 rfl (O rfl (St.eql (t := false) rfl rfl (decide_eq_false (by omega)) (Nl (W.condF rfl (W.skip (Rg (O rfl (St.fieldAddr J3 rfl (O rfl (St.loadO1 o14 pl24 rfl rfl (O rfl (St.callR C47 Qj rfl rfl (Zf C47.bd h3 (by omega)) ?_)))))))))))))))))
 intro v52 w53 C54 s55 h56
 replace h49 := h49.sp s55
 obtain ⟨a57, c58, rfl, _, _⟩ := h56.len
 refine Om (O rfl (St.callR C54 Jsi rfl rfl (Jaq C54.bd h56 h49 (K5 sa) (K5 sb) (by intro e; rw [e] at tb; exact tb rfl) (by omega) (by omega)) ?_))
 intro v59 w60 C61 s62 h63
 replace h49 := h49.sp s62
 replace o14 := (o14.spn s55).spn s62
 replace o22 := (o22.spn s55).spn s62
 replace o31 := (o31.spn s55).spn s62
 replace o41 := (o41.spn s55).spn s62
 obtain ⟨v64, v65, rfl, h66, h67⟩ := h63
 obtain ⟨a68, c69, rfl, _, _⟩ := h66.len
 obtain ⟨a70, c71, rfl, _, _⟩ := h67.len
 refine Om (O rfl (St.extract rfl rfl (O rfl (St.extract rfl rfl (Oa (Oa (Nl (Rh (O rfl (St.fieldAddr Zg rfl (O rfl (St.bool (St.loadO1 o14 pl4 rfl rfl ⟨_, rfl, fun hb72 => ?_, fun hb72 => ?_⟩)))))))))))))
 ·refine Om (Og rfl rfl (St.move (Og rfl rfl (St.len sl24 rfl (Og rfl rfl (St.gtr2 rfl rfl (fun hc73 => ?_) (fun hc73 => ?_)))))))
  ·refine OT (Nl (W.condT rfl (W.region (Om (O rfl (St.bsPub (T := Jb) (css := [[(.int .u32 1)]]) (l := [1]) C61 sl24 Jh (by decide) (by decide) rfl (by kernel_rfl) ⟨⟨rfl, (by omega)⟩, trivial⟩ ?_))))))
   intro g78 w74 C75 s76 h77
   replace h66 := h66.sp s76
   replace o14 := o14.spn s76
   replace o22 := o22.spn s76
   replace o31 := o31.spn s76
   refine O rfl (St.callR C75 Jww rfl rfl (Jos C75.bd h66 h77 (by omega) (by simp)) ?_)
   intro v81 w82 C83 s84 h85
   replace h49 := (h49.sp s76).sp s84
   replace h67 := (h67.sp s76).sp s84
   replace o41 := (o41.spn s76).spn s84
   obtain ⟨a86, c87, rfl, _, _⟩ := h85.len
   refine Om (Om (O rfl (St.callR C83 Jqp rfl rfl (Jif C83.bd h49 h67 (by omega) (by omega) (by rw [Jt]; exact Nat.le_of_lt (Nat.mod_lt _ hbp))) ?_)))
   intro v88 w89 C90 s91 h92
   replace h85 := h85.sp s91
   replace o14 := (o14.spn s84).spn s91
   replace o22 := (o22.spn s84).spn s91
   replace o31 := (o31.spn s84).spn s91
   obtain ⟨a93, c94, rfl, _, _⟩ := h92.len
   refine Oa (Oa (Nl (Rg (O rfl (St.fieldAddr Zg rfl (O rfl (St.loadO1 o14 pl4 rfl rfl (O rfl (St.fieldAddr Zg rfl (O rfl (St.loadO1 o22 pl4 rfl rfl (O rfl (St.neqB un4 rfl rfl rfl (Om (O rfl (St.callR C90 Va rfl rfl (Z8 C90.bd h85 (by first | omega | (rw [Ji]; simp; omega))) ?_))))))))))))))))
   intro v95 w96 C97 s98 h99
   replace h92 := h92.sp s98
   replace o41 := (o41.spn s91).spn s98
   obtain ⟨a100, c101, rfl, h102⟩ := RV.int h99
   refine Om (O rfl (St.callR C97 Va rfl rfl (Z8 C97.bd h92 (by first | omega | (rw [Ji]; omega))) ?_))
   intro v103 w104 C105 s106 h107
   replace h102 := h102.sp s106
   replace o31 := (o31.spn s98).spn s106
   obtain ⟨a108, c109, rfl, h110⟩ := RV.int h107
   refine On (St.storeC (cs' := [(.bool (mkSg (a.neg != b.neg) (Jr (max (digs (val (trim a.mag) / val (trim b.mag))).length [1].length + 1) (val (digs (val (trim a.mag) / val (trim b.mag))) + val [1]))).neg), (.slice a100 (mkSg (a.neg != b.neg) (Jr (max (digs (val (trim a.mag) / val (trim b.mag))).length [1].length + 1) (val (digs (val (trim a.mag) / val (trim b.mag))) + val [1]))).mag.length c101)]) C105 o31 io26 rfl rfl rfl rfl rfl rfl ?_)
   intro w111 C112 s113 o114
   replace o41 := (o41.spn s106).spo s113 (Ne.symm n44)
   refine On (St.storeC (cs' := [(.bool (mkSg false (Jr (trim b.mag).length (val (trim b.mag) - val (digs (val (trim a.mag) % val (trim b.mag)))))).neg), (.slice a108 (mkSg false (Jr (trim b.mag).length (val (trim b.mag) - val (digs (val (trim a.mag) % val (trim b.mag)))))).mag.length c109)]) C112 o41 io26 rfl rfl rfl rfl rfl rfl ?_)
   intro w115 C116 s117 o118
   replace h102 := (h102.sp s113).sp s117
   replace h110 := (h110.sp s113).sp s117
   replace o114 := o114.spo s117 n44
   refine Oa (Nl (W.ret (Jq7 rfl (resV.c o114 rfl ag26 rfl) (resV.c o118 rfl ag26 rfl) (resV.t rfl) (Ret.intro ?_ C116.below))))
   refine ⟨_, _, _, rfl, ?_, ?_, ?_⟩
   ·skip
    exact RV.eqv (a := (mkSg (a.neg != b.neg) (Jr (max (digs (val (trim a.mag) / val (trim b.mag))).length [1].length + 1) (val (digs (val (trim a.mag) / val (trim b.mag))) + val [1])))) ((Jj h102).tr (Tr.weak C116.base)) (by exact Yn (Jz _ _) (by rw [J8 _ _ (Jan (Zr _) Ji9), Jt, tva, tvb, show val [1] = 1 from rfl]; exact (xi hb0 hb72 (fun h => by have := hmz.2 h; omega)).1))
   ·skip
    exact RV.eqv (a := (mkSg false (Jr (trim b.mag).length (val (trim b.mag) - val (digs (val (trim a.mag) % val (trim b.mag))))))) ((Jj h110).tr (Tr.weak C116.base)) (by exact Yn (Jz _ _) (by rw [J8 _ _ (Nat.lt_of_le_of_lt (Nat.sub_le _ _) (Ze _ (J5 sb))), Jt, tva, tvb, Z7]; exact (xi hb0 hb72 (fun h => by have := hmz.2 h; omega)).2))
   ·skip
    rfl
  refine OT (Nl (W.condF rfl (W.skip (Rg (O rfl (St.fieldAddr Zg rfl (O rfl (St.loadO1 o14 pl4 rfl rfl (O rfl (St.fieldAddr Zg rfl (O rfl (St.loadO1 o22 pl4 rfl rfl (O rfl (St.neqB un4 rfl rfl rfl (Om (O rfl (St.callR C61 Va rfl rfl (Z8 C61.bd h66 (by first | omega | (rw [Ji]; simp; omega))) ?_)))))))))))))))))
  intro v119 w120 C121 s122 h123
  replace h67 := h67.sp s122
  replace o41 := o41.spn s122
  obtain ⟨a124, c125, rfl, h126⟩ := RV.int h123
  refine Om (O rfl (St.callR C121 Va rfl rfl (Z8 C121.bd h67 (by first | omega | (rw [Ji]; omega))) ?_))
  intro v127 w128 C129 s130 h131
  replace h126 := h126.sp s130
  replace o31 := (o31.spn s122).spn s130
  obtain ⟨a132, c133, rfl, h134⟩ := RV.int h131
  refine On (St.storeC (cs' := [(.bool (mkSg (a.neg != b.neg) (digs (val (trim a.mag) / val (trim b.mag)))).neg), (.slice a124 (mkSg (a.neg != b.neg) (digs (val (trim a.mag) / val (trim b.mag)))).mag.length c125)]) C129 o31 io26 rfl rfl rfl rfl rfl rfl ?_)
  intro w135 C136 s137 o138
  replace o41 := (o41.spn s130).spo s137 (Ne.symm n44)
  refine On (St.storeC (cs' := [(.bool (mkSg false (digs (val (trim a.mag) % val (trim b.mag)))).neg), (.slice a132 (mkSg false (digs (val (trim a.mag) % val (trim b.mag)))).mag.length c133)]) C136 o41 io26 rfl rfl rfl rfl rfl rfl ?_)
  intro w139 C140 s141 o142
  replace h126 := (h126.sp s137).sp s141
  replace h134 := (h134.sp s137).sp s141
  replace o138 := o138.spo s141 n44
  refine Oa (Nl (W.ret (Jq7 rfl (resV.c o138 rfl ag26 rfl) (resV.c o142 rfl ag26 rfl) (resV.t rfl) (Ret.intro ?_ C140.below))))
  refine ⟨_, _, _, rfl, ?_, ?_, ?_⟩
  ·skip
   exact RV.eqv (a := (mkSg (a.neg != b.neg) (digs (val (trim a.mag) / val (trim b.mag))))) ((Jj h126).tr (Tr.weak C140.base)) (by exact Yn (Zr _) (by rw [Jt, tva, tvb]; exact (Vu hb0 (.inr (hmz.1 (by omega)))).1))
  ·skip
   exact RV.eqv (a := (mkSg false (digs (val (trim a.mag) % val (trim b.mag))))) ((Jj h134).tr (Tr.weak C140.base)) (by exact Yn (Zr _) (by rw [Jt, tva, tvb, Z7]; exact (Vu hb0 (.inr (hmz.1 (by omega)))).2))
  ·skip
   rfl
 refine Om (Ox rfl rfl rfl (Ox rfl rfl rfl (Ox rfl rfl rfl (OF (Nl (W.condF rfl (W.skip (Rg (O rfl (St.fieldAddr Zg rfl (O rfl (St.loadO1 o14 pl4 rfl rfl (O rfl (St.fieldAddr Zg rfl (O rfl (St.loadO1 o22 pl4 rfl rfl (O rfl (St.neqB un4 rfl rfl rfl (Om (O rfl (St.callR C61 Va rfl rfl (Z8 C61.bd h66 (by first | omega | (rw [Ji]; simp; omega))) ?_)))))))))))))))))))))
 intro v143 w144 C145 s146 h147
 replace h67 := h67.sp s146
 replace o41 := o41.spn s146
 obtain ⟨a148, c149, rfl, h150⟩ := RV.int h147
 refine Om (O rfl (St.callR C145 Va rfl rfl (Z8 C145.bd h67 (by first | omega | (rw [Ji]; omega))) ?_))
 intro v151 w152 C153 s154 h155
 replace h150 := h150.sp s154
 replace o31 := (o31.spn s146).spn s154
 obtain ⟨a156, c157, rfl, h158⟩ := RV.int h155
 refine On (St.storeC (cs' := [(.bool (mkSg (a.neg != b.neg) (digs (val (trim a.mag) / val (trim b.mag)))).neg), (.slice a148 (mkSg (a.neg != b.neg) (digs (val (trim a.mag) / val (trim b.mag)))).mag.length c149)]) C153 o31 io26 rfl rfl rfl rfl rfl rfl ?_)
 intro w159 C160 s161 o162
 replace o41 := (o41.spn s154).spo s161 (Ne.symm n44)
 refine On (St.storeC (cs' := [(.bool (mkSg false (digs (val (trim a.mag) % val (trim b.mag)))).neg), (.slice a156 (mkSg false (digs (val (trim a.mag) % val (trim b.mag)))).mag.length c157)]) C160 o41 io26 rfl rfl rfl rfl rfl rfl ?_)
 intro w163 C164 s165 o166
 replace h150 := (h150.sp s161).sp s165
 replace h158 := (h158.sp s161).sp s165
 replace o162 := o162.spo s165 n44
 refine Oa (Nl (W.ret (Jq7 rfl (resV.c o162 rfl ag26 rfl) (resV.c o166 rfl ag26 rfl) (resV.t rfl) (Ret.intro ?_ C164.below))))
 refine ⟨_, _, _, rfl, ?_, ?_, ?_⟩
 ·skip
  exact RV.eqv (a := (mkSg (a.neg != b.neg) (digs (val (trim a.mag) / val (trim b.mag))))) ((Jj h150).tr (Tr.weak C164.base)) (by exact Yn (Zr _) (by rw [Jt, tva, tvb]; exact (Vu hb0 (.inl hb72)).1))
 ·skip
  exact RV.eqv (a := (mkSg false (digs (val (trim a.mag) % val (trim b.mag))))) ((Jj h158).tr (Tr.weak C164.base)) (by exact Yn (Zr _) (by rw [Jt, tva, tvb, Z7]; exact (Vu hb0 (.inl hb72)).2))
 ·skip
  rfl
end Go.Wf
