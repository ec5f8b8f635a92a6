/-
  The operations that look at no memory.
-/
import Derived.Test.YtjadodiecjkmoaaGreatDoorEvC
namespace Go.Ev
set_option linter.unusedVariables false
set_option linter.unusedSimpArgs false
open Go Go.Wf Go.RowKit

theorem recB {n : Nat} {r : Res} {b : Bool} {v : AV} {h : Hp} (e : (Bool.rec (Res.no n) r b : Res) = .ok v h) : b = true ∧ r = .ok v h := by
  cases b
  · cases e
  · exact ⟨rfl, e⟩
theorem recBk {α : Type} {b : Bool} {x y : α} : (Bool.rec x y b : α) = if b then y else x := by cases b <;> rfl
theorem ok_inj {v v' : AV} {h h' : Hp} (e : Res.ok v h = .ok v' h') : v = v' ∧ h = h' := by cases e; exact ⟨rfl, rfl⟩
theorem recN {n : Nat} {r : Nat → Res} {v : AV} {h : Hp} {a : AV} (e : natOf a r (.no n) = .ok v h) : ∃ k m, a = .i k (Int.ofNat m) ∧ r m = .ok v h := by
  unfold natOf at e
  split at e
  · rename_i k z
    cases z with
    | ofNat m => exact ⟨k, m, rfl, e⟩
    | negSucc m => cases e
  · cases e
section
variable {P : Program} {Φ : Phi} {ρ : Operand → Value} {dst : Option Tmp} {ty yt t : TypeId} {pos : String} {after : Array Edge} {gd : Option (Nat × Bool)} {w : World} {a b v : AV} {h h' : Hp} {x y : Operand}
abbrev KP (Φ : Phi) (w : World) (v : AV) : Value → World → Prop := fun u w' => w' = w ∧ Rv Φ v u
abbrev KF : List PanicEntry → World → Prop := fun _ _ => False
theorem Rv.iI {k : IntKind} {n : Int} {u : Value} (h : Rv Φ (.i k n) u) : u = .int k n := by simp only [Rv] at h; exact h
theorem Rv.mi {k : IntKind} {n : Int} : Rv Φ (.i k n) (.int k n) := by simp only [Rv]
theorem Rv.bI {n : Bool} {u : Value} (h : Rv Φ (.b n) u) : u = .bool n := by simp only [Rv] at h; exact h
theorem Rv.mb {n : Bool} : Rv Φ (.b n) (.bool n) := by simp only [Rv]
theorem Rv.sI {l : List Nat} {u : Value} (h : Rv Φ (.s l) u) : (∀ n ∈ l, n < 256) ∧ u = str (l.map UInt8.ofNat) := by simp only [Rv] at h; exact h
theorem Rv.ms {l : List Nat} (hl : ∀ n ∈ l, n < 256) : Rv Φ (.s l) (str (l.map UInt8.ofNat)) := by simp only [Rv]; exact ⟨hl, trivial⟩
theorem Rv.pI {id off : Nat} {u : Value} (h : Rv Φ (.p id off) u) : ∃ e, Φ id = some e ∧ u = .pointer (some ⟨e.g, e.base + off, none⟩) := by simp only [Rv] at h; exact h
theorem Rv.mp {id off : Nat} {e : Ent} (h : Φ id = some e) : Rv Φ (.p id off) (.pointer (some ⟨e.g, e.base + off, none⟩)) := by simp only [Rv]; exact ⟨e, h, rfl⟩
theorem Rv.slI {id off n z : Nat} {cap : Option Nat} {v : Value} (h : Rv Φ (.sl id off n z cap) v) : ∃ e c, Φ id = some e ∧ v = .slice (some ⟨e.g, e.base + off, none⟩) n c ∧ n ≤ c ∧ c ≤ maxLen ∧ off + c * z ≤ e.k ∧ capOk cap c := by simp only [Rv] at h; exact h
theorem Rv.msl {id off n z : Nat} {cap : Option Nat} {e : Ent} {c : Nat} (h : Φ id = some e) (h1 : n ≤ c) (h2 : c ≤ maxLen) (h3 : off + c * z ≤ e.k) (h4 : capOk cap c) : Rv Φ (.sl id off n z cap) (.slice (some ⟨e.g, e.base + off, none⟩) n c) := by
  simp only [Rv]; exact ⟨e, c, h, rfl, h1, h2, h3, h4⟩
theorem Rv.fnI {k : FuncId} {cap : List AV} {v : Value} (h : Rv Φ (.fn k cap) v) : ∃ vs : List Value, v = .func (.func k) #[] vs.toArray ∧ RvL Φ cap vs := by simp only [Rv] at h; exact h
theorem okI_ok {k : IntKind} {z : Int} (e : okI k z h = .ok v h') : v = .i k z ∧ h = h' := by rw [okI_eq] at e; obtain ⟨rfl, rfl⟩ := ok_inj e; exact ⟨rfl, rfl⟩
theorem okB_ok {t : Bool} (e : okB t h = .ok v h') : v = .b t ∧ h = h' := by rw [okB_eq] at e; obtain ⟨rfl, rfl⟩ := ok_inj e; exact ⟨rfl, rfl⟩
theorem and_t {p q : Bool} (h : (p && q) = true) : p = true ∧ q = true := by simpa using h
theorem not_t {p : Bool} (h : (!p) = true) : p = false := by simpa using h

theorem list_of_nat {l : List Nat} (hl : ∀ n ∈ l, n < 256) : (l.map UInt8.ofNat).map UInt8.toNat = l := by
  rw [List.map_map]
  conv => rhs; rw [← List.map_id l]
  apply List.map_congr_left
  intro n hn
  simp [UInt8.toNat_ofNat, Nat.mod_eq_of_lt (hl n hn)]
theorem map_inj {l m : List Nat} (hl : ∀ n ∈ l, n < 256) (hm : ∀ n ∈ m, n < 256) (h : l.map UInt8.ofNat = m.map UInt8.ofNat) : l = m := by
  rw [← list_of_nat hl, ← list_of_nat hm, h]
theorem leqL_eq : ∀ (a b : List Nat), leqL a b = decide (a = b) := by
  intro a
  induction a with
  | nil => intro b; cases b <;> rfl
  | cons x a ih =>
    intro b
    cases b with
    | nil => rfl
    | cons y b =>
      show (Bool.rec false (leqL a b) (Nat.beq x y) : Bool) = _
      rw [beq_eq, ih]
      by_cases e : x = y
      · rw [decide_eq_true e]; subst e; show decide (a = b) = _; simp
      · rw [decide_eq_false e]; show false = _; simp [e]

theorem binS {op : BinOp} {u : Value} (hg : eqGuard op t x y (ρ x) (ρ y) = pure ()) (hr : (binOp op t (ρ x) (ρ y)).run P w = .ok u w) (h : Rv Φ v u) :
    St P ρ ⟨dst, .binOp op t x y yt, ty, pos, after, gd⟩ w (KP Φ w v) KF := binOp_run hg hr ⟨rfl, h⟩

theorem bAdd_s (e : bAdd a b h = .ok v h') : h' = h ∧ (Rv Φ a (ρ x) → Rv Φ b (ρ y) → St P ρ ⟨dst, .binOp .add t x y yt, ty, pos, after, gd⟩ w (KP Φ w v) KF) := by
  unfold bAdd at e
  split at e
  · obtain ⟨he, e⟩ := recB e
    obtain ⟨rfl, rfl⟩ := okI_ok e
    refine ⟨rfl, fun hx hy => ?_⟩
    have := ikEq_eq he; subst this
    exact St.add hx.iI hy.iI (wrapF_eq _ _).symm ⟨rfl, Rv.mi⟩
  · rename_i l m
    obtain ⟨he, e⟩ := recB e
    rw [appK_eq] at e
    obtain ⟨rfl, rfl⟩ := ok_inj e
    refine ⟨rfl, fun hx hy => ?_⟩
    obtain ⟨h1, hx⟩ := hx.sI
    obtain ⟨h2, hy⟩ := hy.sI
    refine St.addL hx hy ?_ ⟨rfl, ?_⟩
    · have := of_blt he
      rw [len_eq, len_eq] at this
      have : l.length + m.length < 1000000 := this
      rw [List.length_map, List.length_map]; omega
    · rw [← List.map_append]
      exact Rv.ms fun n hn => (List.mem_append.1 hn).elim (h1 n) (h2 n)
  · cases e
theorem bSub_s (e : bSub a b h = .ok v h') : h' = h ∧ (Rv Φ a (ρ x) → Rv Φ b (ρ y) → St P ρ ⟨dst, .binOp .sub t x y yt, ty, pos, after, gd⟩ w (KP Φ w v) KF) := by
  unfold bSub at e
  split at e
  · obtain ⟨he, e⟩ := recB e
    obtain ⟨rfl, rfl⟩ := okI_ok e
    refine ⟨rfl, fun hx hy => ?_⟩
    have := ikEq_eq he; subst this
    exact St.sub hx.iI hy.iI (wrapF_eq _ _).symm ⟨rfl, Rv.mi⟩
  · cases e
theorem bMul_s (e : bMul a b h = .ok v h') : h' = h ∧ (Rv Φ a (ρ x) → Rv Φ b (ρ y) → St P ρ ⟨dst, .binOp .mul t x y yt, ty, pos, after, gd⟩ w (KP Φ w v) KF) := by
  unfold bMul at e
  split at e
  · obtain ⟨he, e⟩ := recB e
    obtain ⟨rfl, rfl⟩ := okI_ok e
    refine ⟨rfl, fun hx hy => ?_⟩
    have := ikEq_eq he; subst this
    exact St.mul hx.iI hy.iI (wrapF_eq _ _).symm ⟨rfl, Rv.mi⟩
  · cases e
theorem nz {b : Int} (h : (!ieq b 0) = true) : b ≠ 0 := by
  have := not_t h
  rw [ieq_eq] at this
  exact of_decide_eq_false this
theorem bQuo_s (e : bQuo a b h = .ok v h') : h' = h ∧ (Rv Φ a (ρ x) → Rv Φ b (ρ y) → St P ρ ⟨dst, .binOp .quo t x y yt, ty, pos, after, gd⟩ w (KP Φ w v) KF) := by
  unfold bQuo at e
  split at e
  · obtain ⟨he, e⟩ := recB e
    obtain ⟨he, hb⟩ := and_t he
    obtain ⟨rfl, rfl⟩ := okI_ok e
    refine ⟨rfl, fun hx hy => ?_⟩
    have := ikEq_eq he; subst this
    exact St.quo hx.iI hy.iI (nz hb) (wrapF_eq _ _).symm ⟨rfl, Rv.mi⟩
  · cases e
theorem bRem_s (e : bRem a b h = .ok v h') : h' = h ∧ (Rv Φ a (ρ x) → Rv Φ b (ρ y) → St P ρ ⟨dst, .binOp .rem t x y yt, ty, pos, after, gd⟩ w (KP Φ w v) KF) := by
  unfold bRem at e
  split at e
  · obtain ⟨he, e⟩ := recB e
    obtain ⟨he, hb⟩ := and_t he
    obtain ⟨rfl, rfl⟩ := okI_ok e
    refine ⟨rfl, fun hx hy => ?_⟩
    have := ikEq_eq he; subst this
    exact St.rem hx.iI hy.iI (nz hb) rfl ⟨rfl, Rv.mi⟩
  · cases e
theorem nneg {b : Int} (h : (!ilt b 0) = true) : 0 ≤ b := by
  have := not_t h
  rw [ilt_eq] at this
  have := of_decide_eq_false this
  omega
theorem pow_nat (n : Nat) : ((Nat.pow 2 n : Nat) : Int) = (2 : Int) ^ n := by show ((2 ^ n : Nat) : Int) = _; rw [Int.natCast_pow]; rfl
theorem bShl_s (e : bShl a b h = .ok v h') : h' = h ∧ (Rv Φ a (ρ x) → Rv Φ b (ρ y) → St P ρ ⟨dst, .binOp .shl t x y yt, ty, pos, after, gd⟩ w (KP Φ w v) KF) := by
  unfold bShl at e
  split at e
  · obtain ⟨he, e⟩ := recB e
    obtain ⟨rfl, rfl⟩ := okI_ok e
    refine ⟨rfl, fun hx hy => ?_⟩
    refine St.shl hx.iI hy.iI (nneg he) ?_ ⟨rfl, Rv.mi⟩
    rw [wrapF_eq]
    congr 1
  · cases e
theorem bShr_s (e : bShr a b h = .ok v h') : h' = h ∧ (Rv Φ a (ρ x) → Rv Φ b (ρ y) → St P ρ ⟨dst, .binOp .shr t x y yt, ty, pos, after, gd⟩ w (KP Φ w v) KF) := by
  unfold bShr at e
  split at e
  · obtain ⟨he, e⟩ := recB e
    obtain ⟨rfl, rfl⟩ := okI_ok e
    refine ⟨rfl, fun hx hy => ?_⟩
    refine St.shr hx.iI hy.iI (nneg he) ?_ ⟨rfl, Rv.mi⟩
    show _ = _ / ((Nat.pow 2 _ : Nat) : Int)
    rw [pow_nat]
  · cases e
theorem bv_nat (k m : Nat) : (BitVec.ofInt k (Int.ofNat m)).toNat = m % 2 ^ k := by
  show (BitVec.ofInt k (m : Int)).toNat = _
  rw [BitVec.ofInt_natCast, BitVec.toNat_ofNat]
theorem bitS {op : BinOp} {g : Nat → Nat → Nat} {k : IntKind} {m n : Nat} (hop : ∀ (p q : Value), binOp op t p q = match p, q with | .int k a, .int k' b => if k ≠ k' then stuck "BinOp: operands of different kinds" else Op.intBits op k a b | _, _ => binOp op t p q)
    (hb : ∀ m n, Op.intBits op k (Int.ofNat m) (Int.ofNat n) = pure (.int k (k.wrap (Int.ofNat (g (m % 2 ^ k.bits) (n % 2 ^ k.bits))))))
    (hg : ∀ p q, eqGuard op t x y p q = pure ()) (hx : ρ x = .int k (Int.ofNat m)) (hy : ρ y = .int k (Int.ofNat n)) :
    St P ρ ⟨dst, .binOp op t x y yt, ty, pos, after, gd⟩ w (KP Φ w (.i k (wrapF k (Int.ofNat (g (Nat.mod m (Nat.pow 2 k.bits)) (Nat.mod n (Nat.pow 2 k.bits))))))) KF := by
  refine binS (u := .int k (k.wrap (Int.ofNat (g (m % 2 ^ k.bits) (n % 2 ^ k.bits))))) (hg _ _) ?_ ?_
  · rw [hx, hy, hop]
    simp only [ne_eq, not_true_eq_false, if_false]
    rw [hb]; rfl
  · rw [wrapF_eq]; exact Rv.mi
theorem bBits_s {op : BinOp} {g : Nat → Nat → Nat} (hop : ∀ (p q : Value), binOp op t p q = match p, q with | .int k a, .int k' b => if k ≠ k' then stuck "BinOp: operands of different kinds" else Op.intBits op k a b | _, _ => binOp op t p q)
    (hb : ∀ (k : IntKind) m n, Op.intBits op k (Int.ofNat m) (Int.ofNat n) = pure (.int k (k.wrap (Int.ofNat (g (m % 2 ^ k.bits) (n % 2 ^ k.bits))))))
    (hg : ∀ p q, eqGuard op t x y p q = pure ()) (e : bBits g a b h = .ok v h') : h' = h ∧ (Rv Φ a (ρ x) → Rv Φ b (ρ y) → St P ρ ⟨dst, .binOp op t x y yt, ty, pos, after, gd⟩ w (KP Φ w v) KF) := by
  unfold bBits at e
  split at e
  · rename_i k a' k' b'
    obtain ⟨he, e2⟩ := recB e
    clear e
    have := ikEq_eq he; subst this
    cases a' with
    | negSucc m => cases e2
    | ofNat m =>
      cases b' with
      | negSucc n => cases e2
      | ofNat n =>
        obtain ⟨rfl, rfl⟩ := okI_ok e2
        exact ⟨rfl, fun hx hy => bitS hop (hb k) hg hx.iI hy.iI⟩
  · cases e
theorem bAnd_s (e : bBits Nat.land a b h = .ok v h') : h' = h ∧ (Rv Φ a (ρ x) → Rv Φ b (ρ y) → St P ρ ⟨dst, .binOp .and t x y yt, ty, pos, after, gd⟩ w (KP Φ w v) KF) := by
  refine bBits_s ?_ ?_ (fun _ _ => rfl) e
  · intro p q; cases p <;> cases q <;> rfl
  · intro k m n
    simp only [Op.intBits, BitVec.toNat_and, bv_nat]; rfl
theorem bOr_s (e : bBits Nat.lor a b h = .ok v h') : h' = h ∧ (Rv Φ a (ρ x) → Rv Φ b (ρ y) → St P ρ ⟨dst, .binOp .or t x y yt, ty, pos, after, gd⟩ w (KP Φ w v) KF) := by
  refine bBits_s ?_ ?_ (fun _ _ => rfl) e
  · intro p q; cases p <;> cases q <;> rfl
  · intro k m n
    simp only [Op.intBits, BitVec.toNat_or, bv_nat]; rfl
theorem bXor_s (e : bBits Nat.xor a b h = .ok v h') : h' = h ∧ (Rv Φ a (ρ x) → Rv Φ b (ρ y) → St P ρ ⟨dst, .binOp .xor t x y yt, ty, pos, after, gd⟩ w (KP Φ w v) KF) := by
  refine bBits_s ?_ ?_ (fun _ _ => rfl) e
  · intro p q; cases p <;> cases q <;> rfl
  · intro k m n
    simp only [Op.intBits, BitVec.toNat_xor, bv_nat]; rfl
theorem land_ldiff (k m n : Nat) (hm : m < 2 ^ k) : (BitVec.ofNat k m &&& ~~~ BitVec.ofNat k n).toNat = Nat.xor m (Nat.land m (n % 2 ^ k)) := by
  show _ = m ^^^ (m &&& (n % 2 ^ k))
  apply Nat.eq_of_testBit_eq
  intro i
  rw [Nat.testBit_xor, Nat.testBit_and, Nat.testBit_mod_two_pow, ← BitVec.getLsbD]
  simp only [BitVec.getLsbD_and, BitVec.getLsbD_not, BitVec.getLsbD_ofNat]
  by_cases hi : i < k
  · simp [hi]; cases Nat.testBit m i <;> cases Nat.testBit n i <;> rfl
  · have : Nat.testBit m i = false := Nat.testBit_lt_two_pow (Nat.lt_of_lt_of_le hm (Nat.pow_le_pow_right (by omega) (by omega)))
    simp [hi, this]
theorem bAndNot_s (e : bBits (fun m n => Nat.xor m (Nat.land m n)) a b h = .ok v h') : h' = h ∧ (Rv Φ a (ρ x) → Rv Φ b (ρ y) → St P ρ ⟨dst, .binOp .andNot t x y yt, ty, pos, after, gd⟩ w (KP Φ w v) KF) := by
  refine bBits_s ?_ ?_ (fun _ _ => rfl) e
  · intro p q; cases p <;> cases q <;> rfl
  · intro k m n
    have e1 : (BitVec.ofInt k.bits (Int.ofNat m)) = BitVec.ofNat k.bits (m % 2 ^ k.bits) := by
      apply BitVec.eq_of_toNat_eq; rw [bv_nat, BitVec.toNat_ofNat, Nat.mod_mod]
    have e2 : (BitVec.ofInt k.bits (Int.ofNat n)) = BitVec.ofNat k.bits n := by
      apply BitVec.eq_of_toNat_eq; rw [bv_nat, BitVec.toNat_ofNat]
    simp only [Op.intBits]
    rw [e1, e2, land_ldiff _ _ _ (Nat.mod_lt _ (Nat.two_pow_pos _))]; rfl
end
end Go.Ev
