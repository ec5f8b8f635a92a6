/-
  What the functions compute, in plain words.
-/
namespace Go.Wf
set_option linter.unusedVariables false
set_option linter.unusedSimpArgs false
/-! ### the data of this program -/
structure GInt where
  neg : Bool
  mag : List Nat
  deriving DecidableEq, Inhabited
structure GRat where
  num : GInt
  den : GInt
  deriving DecidableEq, Inhabited
inductive GExpr where
  | mk (op : Int) (n : List Int) (c : GRat) (name : List UInt8) (args : List GExpr)
  deriving Inhabited
def GExpr.op : GExpr → Int | .mk o _ _ _ _ => o
def GExpr.n : GExpr → List Int | .mk _ n _ _ _ => n
def GExpr.c : GExpr → GRat | .mk _ _ c _ _ => c
def GExpr.name : GExpr → List UInt8 | .mk _ _ _ s _ => s
def GExpr.args : GExpr → List GExpr | .mk _ _ _ _ a => a
theorem GExpr.eta (e : GExpr) : GExpr.mk e.op e.n e.c e.name e.args = e := by cases e; rfl

/-- digits without leading zeros -/
def trim : List Nat → List Nat
  | [] => []
  | d :: r => match trim r with
    | [] => if d = 0 then [] else [d]
    | t => d :: t
theorem trim_snoc0 : ∀ l : List Nat, trim (l ++ [0]) = trim l
  | [] => by simp [trim]
  | d :: r => by rw [List.cons_append, trim, trim, trim_snoc0 r]
theorem trim_snoc {d : Nat} (h : d ≠ 0) : ∀ l : List Nat, trim (l ++ [d]) = l ++ [d]
  | [] => by simp [trim, h]
  | e :: r => by
    rw [List.cons_append, trim, trim_snoc h r]
    cases r <;> rfl
theorem takeSucc (m : List Nat) (j : Nat) (h : j < m.length) : m.take (j + 1) = m.take j ++ [m.getD j 0] := by
  rw [List.take_succ_eq_append_getElem h, List.getD_eq_getElem?_getD, List.getElem?_eq_getElem h]; rfl
theorem getTake {m : List Nat} {i j : Nat} (hj : j ≤ m.length) (hi : i < j) : (m.take j)[i]? = some (m.getD i 0) := by
  rw [List.getElem?_take, if_pos hi, List.getD_eq_getElem?_getD, List.getElem?_eq_getElem (by omega)]; rfl
theorem trim_step {m : List Nat} {j : Nat} (hj : j ≤ m.length) (h0 : (0 : Int) < (j : Int)) (hz : ((m.getD (j - 1) 0 : Nat) : Int) = 0) (h : trim (m.take j) = trim m) : trim (m.take (j - 1)) = trim m := by
  obtain ⟨i, rfl⟩ : ∃ i, j = i + 1 := ⟨j - 1, by omega⟩
  rw [Nat.add_sub_cancel] at hz ⊢
  have hz' : m.getD i 0 = 0 := by omega
  rw [takeSucc m i (by omega), hz', trim_snoc0] at h
  exact h
theorem trim_end {m : List Nat} {j : Nat} (_hj : j ≤ m.length) (h0 : ¬ (0 : Int) < (j : Int)) (h : trim (m.take j) = trim m) : m.take j = trim m := by
  have : j = 0 := by omega
  subst this
  rw [← h]; rfl
theorem trim_end2 {m : List Nat} {j : Nat} (hj : j ≤ m.length) (h0 : (0 : Int) < (j : Int)) (hz : ¬ ((m.getD (j - 1) 0 : Nat) : Int) = 0) (h : trim (m.take j) = trim m) : m.take j = trim m := by
  obtain ⟨i, rfl⟩ : ∃ i, j = i + 1 := ⟨j - 1, by omega⟩
  rw [Nat.add_sub_cancel] at hz
  have hz' : m.getD i 0 ≠ 0 := by omega
  rw [takeSucc m i (by omega), trim_snoc hz'] at h
  rw [takeSucc m i (by omega)]
  exact h
/-! ### digits to base 2^32 -/
def val : List Nat → Nat
  | [] => 0
  | d :: r => d + 4294967296 * val r
def digsN : Nat → Nat → List Nat
  | 0, _ => []
  | n + 1, v => v % 4294967296 :: digsN n (v / 4294967296)
def digs (v : Nat) : List Nat := trim (digsN v v)
def small (l : List Nat) : Prop := ∀ u ∈ l, u < 4294967296
theorem small_nil : small [] := fun _ h => by cases h
theorem small_cons {d : Nat} {l : List Nat} (hd : d < 4294967296) (h : small l) : small (d :: l) := by
  intro u hu
  cases hu with
  | head => exact hd
  | tail _ hu => exact h u hu
theorem small_append {l m : List Nat} (h : small l) (k : small m) : small (l ++ m) := by
  intro u hu
  rcases List.mem_append.1 hu with hu | hu
  · exact h u hu
  · exact k u hu
theorem small_take {l : List Nat} (h : small l) (n : Nat) : small (l.take n) := fun u hu => h u (List.mem_of_mem_take hu)
theorem small_drop {l : List Nat} (h : small l) (n : Nat) : small (l.drop n) := fun u hu => h u (List.mem_of_mem_drop hu)
theorem small_rep (n : Nat) : small (List.replicate n 0) := fun u hu => by rw [List.eq_of_mem_replicate hu]; omega
theorem small_getD {l : List Nat} (h : small l) (i : Nat) : l.getD i 0 < 4294967296 := by
  rw [List.getD_eq_getElem?_getD]
  cases hi : l[i]? with
  | none => simp
  | some u => exact h u (List.mem_of_getElem? hi)
theorem digsN_length : ∀ n v, (digsN n v).length = n
  | 0, _ => rfl
  | n + 1, v => by rw [digsN, List.length_cons, digsN_length n]
theorem digsN_small : ∀ n v, small (digsN n v)
  | 0, _ => small_nil
  | n + 1, v => small_cons (Nat.mod_lt _ (by omega)) (digsN_small n _)
theorem val_append : ∀ l m : List Nat, val (l ++ m) = val l + 4294967296 ^ l.length * val m
  | [], m => by simp [val]
  | d :: l, m => by
    rw [List.cons_append, val, val, val_append l m, List.length_cons, Nat.pow_succ]
    rw [Nat.mul_add, ← Nat.mul_assoc, Nat.mul_comm (4294967296 ^ l.length) 4294967296]; omega
theorem val_rep (n : Nat) : val (List.replicate n 0) = 0 := by
  induction n with
  | zero => rfl
  | succ n ih => rw [List.replicate_succ, val, ih]
theorem val_snoc (l : List Nat) (d : Nat) : val (l ++ [d]) = val l + 4294967296 ^ l.length * d := by rw [val_append]; simp [val]
theorem val_lt : ∀ l : List Nat, small l → val l < 4294967296 ^ l.length
  | [], _ => by simp [val]
  | d :: l, h => by
    have h1 : d < 4294967296 := h d (by simp)
    have h2 := val_lt l fun u hu => h u (by simp [hu])
    rw [val, List.length_cons, Nat.pow_succ]
    omega
theorem val_digsN : ∀ n v, v < 4294967296 ^ n → val (digsN n v) = v
  | 0, v, h => by simp at h; subst h; rfl
  | n + 1, v, h => by
    rw [digsN, val, val_digsN n (v / 4294967296) (by rw [Nat.pow_succ] at h; exact Nat.div_lt_of_lt_mul (by rw [Nat.mul_comm]; exact h))]
    omega
theorem digsN_val : ∀ l : List Nat, small l → digsN l.length (val l) = l
  | [], _ => rfl
  | d :: l, h => by
    have h1 : d < 4294967296 := h d (by simp)
    have h2 := digsN_val l fun u hu => h u (by simp [hu])
    rw [List.length_cons, digsN, val]
    rw [show (d + 4294967296 * val l) % 4294967296 = d by omega, show (d + 4294967296 * val l) / 4294967296 = val l by omega, h2]
theorem val_trim : ∀ l : List Nat, val (trim l) = val l
  | [] => rfl
  | d :: r => by
    have := val_trim r
    rw [trim]
    split
    · rename_i h
      rw [h] at this
      simp only [val] at this
      split
      · rename_i hd; simp only [val]; omega
      · simp only [val]; omega
    · simp only [val]; omega
theorem trim_zero_iff : ∀ l : List Nat, trim l = [] ↔ val l = 0
  | [] => by simp [trim, val]
  | d :: r => by
    have := trim_zero_iff r
    rw [trim, val]
    split
    · rename_i h
      have hv := this.1 h
      split
      · rename_i hd; simp [hd, hv]
      · rename_i hd; simp; omega
    · rename_i h
      constructor
      · intro e; cases e
      · intro e; exact absurd (this.2 (by omega)) h
theorem trim_length_le : ∀ l : List Nat, (trim l).length ≤ l.length
  | [] => Nat.le_refl _
  | d :: r => by
    have := trim_length_le r
    rw [trim]
    split
    · split <;> simp
    · simp only [List.length_cons]; omega
theorem small_trim : ∀ {l : List Nat}, small l → small (trim l)
  | [], _ => small_nil
  | d :: r, h => by
    have hd : d < 4294967296 := h d (by simp)
    have hr := small_trim (l := r) fun u hu => h u (by simp [hu])
    rw [trim]
    split
    · split
      · exact small_nil
      · exact small_cons hd small_nil
    · exact small_cons hd hr
/-- digits without leading zeros are told by their value -/
theorem trim_inj : ∀ {l m : List Nat}, small l → small m → val l = val m → trim l = trim m
  | [], m, _, _, h => by rw [(trim_zero_iff m).2 h.symm]; rfl
  | d :: r, [], _, _, h => by rw [(trim_zero_iff (d :: r)).2 h]; rfl
  | d :: r, e :: q, hl, hm, h => by
    have h1 : d < 4294967296 := hl d (by simp)
    have h2 : e < 4294967296 := hm e (by simp)
    rw [val, val] at h
    have hde : d = e := by omega
    have := trim_inj (l := r) (m := q) (fun u hu => hl u (by simp [hu])) (fun u hu => hm u (by simp [hu])) (by omega)
    rw [trim, trim, this, hde]
theorem pow_gt (v : Nat) : v < 4294967296 ^ v := Nat.lt_pow_self (by omega)
theorem val_digs (v : Nat) : val (digs v) = v := by rw [digs, val_trim, val_digsN v v (pow_gt v)]
theorem small_digs (v : Nat) : small (digs v) := small_trim (digsN_small _ _)
theorem trim_eq {l : List Nat} (h : small l) : trim l = digs (val l) := by
  unfold digs
  exact trim_inj h (digsN_small _ _) (by rw [val_digsN _ _ (pow_gt _)])
theorem trim_of {l : List Nat} {v : Nat} (h : small l) (hv : val l = v) : trim l = digs v := by rw [trim_eq h, hv]
theorem trim_digs (v : Nat) : trim (digs v) = digs v := by rw [trim_eq (small_digs v), val_digs]
theorem trim_trim {l : List Nat} (h : small l) : trim (trim l) = trim l := by rw [trim_eq h, trim_digs]
theorem digs_zero : digs 0 = [] := rfl
theorem digs_nil_iff (v : Nat) : digs v = [] ↔ v = 0 := by
  unfold digs; rw [trim_zero_iff, val_digsN _ _ (pow_gt v)]
theorem digs_inj {u v : Nat} (h : digs u = digs v) : u = v := by rw [← val_digs u, h, val_digs]
theorem digs_length_le {v n : Nat} (h : v < 4294967296 ^ n) : (digs v).length ≤ n := by
  have : digs v = trim (digsN n v) := (trim_of (digsN_small n v) (val_digsN n v h)).symm
  rw [this]
  exact Nat.le_trans (trim_length_le _) (by rw [digsN_length]; exact Nat.le_refl _)
theorem val_digs_lt (v : Nat) : v < 4294967296 ^ (digs v).length := by
  have := val_lt _ (small_digs v); rwa [val_digs] at this
theorem digs_one {v : Nat} (h0 : v ≠ 0) (h : v < 4294967296) : digs v = [v] := by
  have : trim [v] = digs v := trim_of (small_cons h small_nil) (by simp [val])
  rw [← this]; simp [trim, h0]
theorem digs_two {v : Nat} (h0 : 4294967296 ≤ v) (h : v < 18446744073709551616) : digs v = [v % 4294967296, v / 4294967296] := by
  have : trim [v % 4294967296, v / 4294967296] = digs v := trim_of (small_cons (Nat.mod_lt _ (by omega)) (small_cons (by omega) small_nil)) (by simp [val]; omega)
  rw [← this]
  simp [trim, show ¬ v / 4294967296 = 0 by omega]
theorem val_take_succ (l : List Nat) (i : Nat) : val (l.take (i + 1)) = val (l.take i) + 4294967296 ^ i * l.getD i 0 := by
  rcases Nat.lt_or_ge i l.length with h | h
  · rw [takeSucc l i h, val_snoc, List.length_take, Nat.min_eq_left (by omega)]
  · rw [List.take_of_length_le (by omega), List.take_of_length_le h, List.getD_eq_getElem?_getD, List.getElem?_eq_none h]; simp
theorem digsN_uniq {l : List Nat} {n v : Nat} (hs : small l) (hl : l.length = n) (hv : val l = v) : l = digsN n v := by
  rw [← hl, ← hv, digsN_val l hs]
theorem trim_digsN {n v : Nat} (h : v < 4294967296 ^ n) : trim (digsN n v) = digs v := trim_of (digsN_small n v) (val_digsN n v h)

/-! ### integers -/
def zsign (b : Bool) (n : Nat) : Int := if b then -(n : Int) else n
def GInt.toZ (a : GInt) : Int := zsign a.neg (val a.mag)
def ofZ (z : Int) : GInt := ⟨decide (z < 0), digs z.natAbs⟩
def mkSg (neg : Bool) (m : List Nat) : GInt := ⟨neg && decide (0 < (trim m).length), trim m⟩
end Go.Wf
