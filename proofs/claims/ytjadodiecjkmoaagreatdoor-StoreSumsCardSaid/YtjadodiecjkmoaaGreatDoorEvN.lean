/-
  Open regions: the machine's own order.
-/
import Derived.Test.YtjadodiecjkmoaaGreatDoorEvM
namespace Go.Ev
set_option linter.unusedVariables false
set_option linter.unusedSimpArgs false
open Go Go.Wf Go.RowKit

noncomputable def setd (d : Option Tmp) (v : AV) (f : Fr) : Fr := match d with
  | none => f
  | some t => setF t v f
section
variable (P : Program) (call : CallF) (n : Nat) (ops : Array Oper)
def One (i a : Nat) (o : Oper) (s : DS) (v : AV) (s1 : DS) : Prop := ∃ h', match kdOf P o.op with
  | .pure => evOp P call o.op s.f s.h = .ok v h' ∧ s1 = s
  | .read => evOp P call o.op s.f ⟨flush s.qt a s.fl s.h.t, s.h.n⟩ = .ok v h' ∧ s1 = ⟨s.f, s.h, s.fl, s.qt, s.hs, (i, s.f, v) :: s.rs⟩
  | .quiet => evOp P call o.op s.f s.h = .ok v h' ∧ s1 = ⟨s.f, ⟨s.h.t, h'.n⟩, s.fl, (i, s.h.n, get5 s.h.n h'.t) :: s.qt, s.hs, s.rs⟩
  | .move => evOp P call o.op s.f ⟨flush s.qt a s.fl s.h.t, s.h.n⟩ = .ok v h' ∧ s1 = ⟨s.f, h', Nat.lor s.fl a, s.qt, s.hs ++ [(h', Nat.lor s.fl a)], s.rs⟩
def Stp (i a : Nat) (o : Oper) (s s' : DS) : Prop := lo n o.dst ∧
  ((wantB ops o.guard s.f = some true ∧ ∃ v s1, One P call i a o s v s1 ∧ s' = ⟨setd o.dst v s.f, s1.h, s1.fl, s1.qt, s1.hs, s1.rs⟩) ∨
   (wantB ops o.guard s.f = some false ∧ s' = ⟨setd o.dst (.tp []) s.f, s.h, s.fl, s.qt, if isMove (kdOf P o.op) then s.hs ++ [(s.h, s.fl)] else s.hs, s.rs⟩))
end
section
variable {P : Program} {call : CallF} {n : Nat} {ops : Array Oper}
theorem setO_d {d : Option Tmp} {v : AV} {f : Fr} {k : Fr → Out} (e : okO (setO n d v f k)) : setO n d v f k = k (setd d v f) ∧ lo n d := by
  obtain ⟨f', h1, h2, h3⟩ := setO_s e
  refine ⟨?_, h2⟩
  rw [h1]
  rcases h3 with ⟨rfl, rfl⟩ | ⟨t, rfl, _, rfl⟩ <;> rfl
theorem evOne_s {i a : Nat} {o : Oper} {s : DS} {k : AV → DS → Out} (e : okO (evOne P call i a o s k)) : ∃ v s1, One P call i a o s v s1 ∧ evOne P call i a o s k = k v s1 := by
  rw [evOne_eq] at e ⊢
  unfold evOneS at e ⊢
  unfold One
  cases hk : kdOf P o.op with
  | pure =>
    rw [hk] at e
    simp only at e ⊢
    obtain ⟨v, h', h1, h2⟩ := recR0 e
    exact ⟨v, s, ⟨h', h1, rfl⟩, h2⟩
  | read =>
    rw [hk] at e
    simp only at e ⊢
    obtain ⟨v, h', h1, h2⟩ := recR0 e
    exact ⟨v, _, ⟨h', h1, rfl⟩, h2⟩
  | quiet =>
    rw [hk] at e
    simp only at e ⊢
    obtain ⟨v, h', h1, h2⟩ := recR0 e
    exact ⟨v, _, ⟨h', h1, rfl⟩, h2⟩
  | move =>
    rw [hk] at e
    simp only at e ⊢
    obtain ⟨v, h', h1, h2⟩ := recR0 e
    refine ⟨v, _, ⟨h', h1, rfl⟩, ?_⟩
    rw [h2, fz_eq, snoc_eq]
theorem evPre_s : ∀ (l : List Oper) (i : Nat) (ms : List Nat) (s : DS) (k : DS → Out), okO (evPre P call n ops l i ms s k) →
    ∃ S : Nat → DS, S i = s ∧ evPre P call n ops l i ms s k = k (S (i + l.length)) ∧ ∀ (j : Nat) (o : Oper), l[j]? = some o → ∃ a, ms[j]? = some a ∧ Stp P call n ops (i + j) a o (S (i + j)) (S (i + j + 1)) := by
  intro l
  induction l with
  | nil => intro i ms s k _; exact ⟨fun _ => s, rfl, rfl, fun j o h => by simp at h⟩
  | cons o l ih =>
    intro i ms s k e
    cases ms with
    | nil => exact e.elim
    | cons a ms =>
      have e0 : evPre P call n ops (o :: l) i (a :: ms) s k = wantK ops o.guard s.f
          (evOne P call i a o s fun v s' => setO n o.dst v s'.f fun f' => evPre P call n ops l (Nat.succ i) ms ⟨f', s'.h, s'.fl, s'.qt, s'.hs, s'.rs⟩ k)
          (setO n o.dst (.tp []) s.f fun f' => evPre P call n ops l (Nat.succ i) ms ⟨f', s.h, s.fl, s.qt, Bool.rec s.hs (snoc s.hs (s.h, s.fl)) (isMove (kdOf P o.op)), s.rs⟩ k) (.no 42) := rfl
      rw [e0, wantK_eq] at e
      rw [e0, wantK_eq]
      have fin : ∀ s', Stp P call n ops i a o s s' → okO (evPre P call n ops l (Nat.succ i) ms s' k) → ∃ S : Nat → DS, S i = s ∧ evPre P call n ops l (Nat.succ i) ms s' k = k (S (i + (o :: l).length)) ∧
          ∀ (j : Nat) (o' : Oper), (o :: l)[j]? = some o' → ∃ a', (a :: ms)[j]? = some a' ∧ Stp P call n ops (i + j) a' o' (S (i + j)) (S (i + j + 1)) := by
        intro s' hs' he
        obtain ⟨S, h1, h2, h3⟩ := ih (Nat.succ i) ms s' k he
        refine ⟨fun m => if m = i then s else S m, if_pos rfl, ?_, ?_⟩
        · rw [h2]
          have : ¬ (i + (o :: l).length = i) := by simp
          show k (S (Nat.succ i + l.length)) = k (if i + (o :: l).length = i then s else S (i + (o :: l).length))
          rw [if_neg this]
          congr 2
          simp only [List.length_cons]; omega
        · intro j o' hj
          cases j with
          | zero =>
            simp at hj; subst hj
            refine ⟨a, rfl, ?_⟩
            show Stp P call n ops (i + 0) a o (if i + 0 = i then s else S (i + 0)) (if i + 0 + 1 = i then s else S (i + 0 + 1))
            rw [Nat.add_zero, if_pos rfl, if_neg (by omega), show i + 1 = Nat.succ i from rfl, h1]
            exact hs'
          | succ j =>
            obtain ⟨a', g1, g2⟩ := h3 j o' (by simpa using hj)
            refine ⟨a', by simpa using g1, ?_⟩
            show Stp P call n ops (i + (j + 1)) a' o' (if i + (j + 1) = i then s else S (i + (j + 1))) (if i + (j + 1) + 1 = i then s else S (i + (j + 1) + 1))
            rw [if_neg (by omega), if_neg (by omega), show i + (j + 1) = Nat.succ i + j by omega]
            exact g2
      cases hw : wantB ops o.guard s.f with
      | none => rw [hw] at e; exact e.elim
      | some b =>
        rw [hw] at e
        cases b with
        | true =>
          simp only at e ⊢
          obtain ⟨v, s1, h1, h2⟩ := evOne_s e
          rw [h2] at e ⊢
          have hf1 : s1.f = s.f := by
            obtain ⟨h', h1⟩ := h1
            cases hk : kdOf P o.op <;> rw [hk] at h1 <;> simp only at h1 <;> rw [h1.2]
          obtain ⟨h3, h4⟩ := setO_d e
          rw [h3] at e ⊢
          rw [hf1] at e ⊢
          exact fin _ ⟨h4, .inl ⟨hw, v, s1, h1, rfl⟩⟩ e
        | false =>
          simp only at e ⊢
          obtain ⟨h3, h4⟩ := setO_d e
          rw [h3] at e ⊢
          have hh : (Bool.rec s.hs (snoc s.hs (s.h, s.fl)) (isMove (kdOf P o.op)) : List (Hp × Nat)) = if isMove (kdOf P o.op) then s.hs ++ [(s.h, s.fl)] else s.hs := by
            rw [recBk, snoc_eq]
          rw [hh] at e ⊢
          exact fin _ ⟨h4, .inr ⟨hw, rfl⟩⟩ e
/-- the machine's way through an open region -/
structure Run (P : Program) (call : CallF) (n : Nat) (ops : Array Oper) (f : Fr) (h : Hp) (S : Nat → DS) : Prop where
  s0 : S 0 = ⟨f, h, 0, [], [(h, 0)], []⟩
  st : ∀ (k : Nat) (o : Oper), ops[k]? = some o → Stp P call n ops k (msk ops k) o (S k) (S (k + 1))
  cs : CallS P call
  n256 : n ≤ 4096
  lim : h.n ≤ big5
def mcn (P : Program) (ops : Array Oper) (i : Nat) : Nat := (List.range i).countP (isMv P ops)
theorem mcn_succ (i : Nat) : mcn P ops (i + 1) = mcn P ops i + if isMv P ops i then 1 else 0 := by
  unfold mcn
  rw [List.range_succ, List.countP_append, List.countP_singleton]
theorem isMv_at {k : Nat} {o : Oper} (ho : ops[k]? = some o) : isMv P ops k = isMove (kdOf P o.op) := by unfold isMv; rw [ho]; rfl
/-- the region's blocks put into memory -/
theorem fl_get {id : Nat} {a fl : Nat} {t : T5 (Option Blk)} (hid : id < big5) : ∀ (qt : QT), (∀ e ∈ qt, e.2.1 < big5) →
    (get5 id (flush qt a fl t) = get5 id t ∧ ∀ e ∈ qt, e.2.1 = id → tb a e.1 = true → tb fl e.1 = false → False) ∨ ∃ e ∈ qt, e.2.1 = id ∧ tb a e.1 = true ∧ tb fl e.1 = false ∧ get5 id (flush qt a fl t) = e.2.2 := by
  intro qt
  induction qt with
  | nil => intro _; exact .inl ⟨rfl, fun e he => by cases he⟩
  | cons p qt ih =>
    intro hq
    have e0 : flush (p :: qt) a fl t = Bool.rec (flush qt a fl t) (Bool.rec (set5 p.2.1 p.2.2 (flush qt a fl t)) (flush qt a fl t) (tb fl p.1)) (tb a p.1) := rfl
    have ih := ih fun e he => hq e (List.mem_cons_of_mem _ he)
    have rest : (tb a p.1 = true → tb fl p.1 = false → p.2.1 ≠ id) → flush (p :: qt) a fl t = flush qt a fl t ∨ get5 id (flush (p :: qt) a fl t) = get5 id (flush qt a fl t) → (get5 id (flush (p :: qt) a fl t) = get5 id t ∧ ∀ e ∈ p :: qt, e.2.1 = id → tb a e.1 = true → tb fl e.1 = false → False) ∨ ∃ e ∈ p :: qt, e.2.1 = id ∧ tb a e.1 = true ∧ tb fl e.1 = false ∧ get5 id (flush (p :: qt) a fl t) = e.2.2 := by
      intro hne he
      have he : get5 id (flush (p :: qt) a fl t) = get5 id (flush qt a fl t) := he.elim (fun h => by rw [h]) fun h => h
      rw [he]
      rcases ih with ⟨h1, h2⟩ | ⟨e, h1, h2⟩
      · refine .inl ⟨h1, fun e hm => ?_⟩
        cases hm with
        | head => intro x y z; exact hne y z x
        | tail _ hm => exact h2 e hm
      · exact .inr ⟨e, List.mem_cons_of_mem _ h1, h2⟩
    cases ha : tb a p.1 with
    | false => exact rest (fun h => by rw [ha] at h; cases h) (.inl (by rw [e0, ha]))
    | true =>
      cases hf : tb fl p.1 with
      | true => exact rest (fun _ h => by rw [hf] at h; cases h) (.inl (by rw [e0, ha, hf]))
      | false =>
        have e1 : flush (p :: qt) a fl t = set5 p.2.1 p.2.2 (flush qt a fl t) := by rw [e0, ha, hf]
        by_cases hx : p.2.1 = id
        · refine .inr ⟨p, List.mem_cons_self, hx, ha, hf, ?_⟩
          rw [e1, get5_set5 _ _ _ _ hid (hq p List.mem_cons_self), if_pos hx.symm]
        · refine rest (fun _ _ => hx) (.inr ?_)
          rw [e1, get5_set5 _ _ _ _ hid (hq p List.mem_cons_self), if_neg (fun h => hx h.symm)]
section
variable {f : Fr} {h : Hp} {S : Nat → DS} (R : Run P call n ops f h S)
include R
/-- one operation that was carried out -/
theorem Run.grow {k : Nat} {o : Oper} (ho : ops[k]? = some o) (hl : (S k).h.n ≤ big5) : (S k).h.n ≤ (S (k + 1)).h.n ∧ (S (k + 1)).h.n ≤ big5 := by
  obtain ⟨_, ⟨_, v, s1, ⟨h', h1⟩, h2⟩ | ⟨_, h2⟩⟩ := R.st k o ho
  · rw [h2]
    cases hk : kdOf P o.op with
    | pure => rw [hk] at h1; simp only at h1; rw [h1.2]; exact ⟨Nat.le_refl _, hl⟩
    | read => rw [hk] at h1; simp only at h1; rw [h1.2]; exact ⟨Nat.le_refl _, hl⟩
    | quiet =>
      rw [hk] at h1; simp only at h1
      obtain ⟨b, hb, hh, _⟩ := evOp_quiet hk h1.1
      rw [h1.2, hh]
      exact ⟨Nat.le_succ _, hb⟩
    | move =>
      rw [hk] at h1; simp only at h1
      have g := (evOp_s R.cs h1.1).1 hl
      rw [h1.2]
      exact ⟨g.le, g.lim hl⟩
  · rw [h2]; exact ⟨Nat.le_refl _, hl⟩
theorem Run.lims : ∀ i, i ≤ ops.size → (S i).h.n ≤ big5 ∧ h.n ≤ (S i).h.n := by
  intro i
  induction i with
  | zero => intro _; rw [R.s0]; exact ⟨R.lim, Nat.le_refl _⟩
  | succ i ih =>
    intro hi
    obtain ⟨h1, h2⟩ := ih (by omega)
    have ho : ops[i]? = some ops[i] := by simp [show i < ops.size by omega]
    obtain ⟨g1, g2⟩ := R.grow ho h1
    exact ⟨g2, Nat.le_trans h2 g1⟩
theorem Run.mono : ∀ i j, i ≤ j → j ≤ ops.size → (S i).h.n ≤ (S j).h.n := by
  intro i j hij
  induction hij with
  | refl => intro _; exact Nat.le_refl _
  | step hij ih =>
    rename_i j
    intro hj
    have hj : j + 1 ≤ ops.size := hj
    have ho : ops[j]? = some ops[j] := by simp [show j < ops.size by omega]
    exact Nat.le_trans (ih (by omega)) (R.grow ho (R.lims j (by omega)).1).1
/-- the memories after the movers -/
theorem Run.hs : ∀ i, i ≤ ops.size → (S i).hs.length = mcn P ops i + 1 ∧ ∃ hl, (S i).hs[mcn P ops i]? = some (hl, (S i).fl) ∧ (S i).h.t = hl.t ∧ hl.n ≤ (S i).h.n := by
  intro i
  induction i with
  | zero => intro _; rw [R.s0]; exact ⟨rfl, h, rfl, rfl, Nat.le_refl _⟩
  | succ i ih =>
    intro hi
    obtain ⟨h1, hl, h2, h3, h4⟩ := ih (by omega)
    have ho : ops[i]? = some ops[i] := by simp [show i < ops.size by omega]
    rw [mcn_succ, isMv_at (P := P) ho]
    have hlast : ∀ x, ((S i).hs ++ [x])[mcn P ops i + 1]? = some x := fun x => by
      rw [List.getElem?_append_right (by omega), h1, Nat.sub_self]; rfl
    obtain ⟨_, ⟨_, v, s1, ⟨h', g1⟩, g2⟩ | ⟨_, g2⟩⟩ := R.st i _ ho
    · cases hk : kdOf P ops[i].op with
      | pure => rw [hk] at g1; simp only at g1; rw [g2, g1.2]; exact ⟨h1, hl, h2, h3, h4⟩
      | read => rw [hk] at g1; simp only at g1; rw [g2, g1.2]; exact ⟨h1, hl, h2, h3, h4⟩
      | quiet =>
        rw [hk] at g1; simp only at g1
        obtain ⟨b, hb, hh, _⟩ := evOp_quiet hk g1.1
        rw [g2, g1.2]
        refine ⟨h1, hl, h2, h3, ?_⟩
        show hl.n ≤ h'.n
        rw [hh]; exact Nat.le_succ_of_le h4
      | move =>
        rw [hk] at g1; simp only at g1
        rw [g2, g1.2]
        refine ⟨by simp [h1, isMove], h', hlast _, rfl, Nat.le_refl _⟩
    · rw [g2]
      cases hk : isMove (kdOf P ops[i].op) with
      | false => exact ⟨h1, hl, h2, h3, h4⟩
      | true => exact ⟨by simp [h1], (S i).h, hlast _, rfl, Nat.le_refl _⟩
theorem Run.hs_step {k : Nat} {o : Oper} (ho : ops[k]? = some o) : (∃ l, (S (k + 1)).hs = (S k).hs ++ l) ∧ (∃ l, (S (k + 1)).qt = l ++ (S k).qt) := by
  obtain ⟨_, ⟨_, v, s1, ⟨h', g1⟩, g2⟩ | ⟨_, g2⟩⟩ := R.st k o ho
  · cases hk : kdOf P o.op with
    | pure => rw [hk] at g1; simp only at g1; rw [g2, g1.2]; exact ⟨⟨[], by simp⟩, ⟨[], rfl⟩⟩
    | read => rw [hk] at g1; simp only at g1; rw [g2, g1.2]; exact ⟨⟨[], by simp⟩, ⟨[], rfl⟩⟩
    | quiet => rw [hk] at g1; simp only at g1; rw [g2, g1.2]; exact ⟨⟨[], by simp⟩, ⟨[_], rfl⟩⟩
    | move => rw [hk] at g1; simp only at g1; rw [g2, g1.2]; exact ⟨⟨_, rfl⟩, ⟨[], rfl⟩⟩
  · rw [g2]
    cases hk : isMove (kdOf P o.op) with
    | false => exact ⟨⟨[], by simp⟩, ⟨[], rfl⟩⟩
    | true => exact ⟨⟨_, rfl⟩, ⟨[], rfl⟩⟩
theorem Run.hs_pre : ∀ i j, i ≤ j → j ≤ ops.size → (∀ (p : Nat) x, (S i).hs[p]? = some x → (S j).hs[p]? = some x) ∧ ∀ e ∈ (S i).qt, e ∈ (S j).qt := by
  intro i j hij
  induction hij with
  | refl => intro _; exact ⟨fun _ _ h => h, fun _ h => h⟩
  | step hij ih =>
    rename_i j
    intro hj
    have hj : j + 1 ≤ ops.size := hj
    have ho : ops[j]? = some ops[j] := by simp [show j < ops.size by omega]
    obtain ⟨i1, i2⟩ := ih (by omega)
    obtain ⟨⟨l, hl⟩, ⟨m, hm⟩⟩ := R.hs_step ho
    refine ⟨fun p x hx => ?_, fun e he => ?_⟩
    · have := i1 p x hx
      show (S (j + 1)).hs[p]? = some x
      rw [hl, List.getElem?_append_left (List.getElem?_eq_some_iff.1 this).1]; exact this
    · show e ∈ (S (j + 1)).qt
      rw [hm]; exact List.mem_append_right _ (i2 e he)
/-- the blocks held ready -/
theorem Run.qt : ∀ i, i ≤ ops.size → ∀ e ∈ (S i).qt, e.1 < i ∧ ∃ o v b, ops[e.1]? = some o ∧ kdOf P o.op = .quiet ∧ wantB ops o.guard (S e.1).f = some true ∧
    evOp P call o.op (S e.1).f (S e.1).h = .ok v ⟨set5 (S e.1).h.n (some b) (S e.1).h.t, (S e.1).h.n + 1⟩ ∧ e.2.1 = (S e.1).h.n ∧ e.2.2 = some b ∧ (S (e.1 + 1)).h.n = (S e.1).h.n + 1 ∧ (S e.1).h.n < big5 := by
  intro i
  induction i with
  | zero => intro _ e he; rw [R.s0] at he; cases he
  | succ i ih =>
    intro hi e he
    have ho : ops[i]? = some ops[i] := by simp [show i < ops.size by omega]
    have old : e ∈ (S i).qt → e.1 < i + 1 ∧ ∃ o v b, ops[e.1]? = some o ∧ kdOf P o.op = .quiet ∧ wantB ops o.guard (S e.1).f = some true ∧
        evOp P call o.op (S e.1).f (S e.1).h = .ok v ⟨set5 (S e.1).h.n (some b) (S e.1).h.t, (S e.1).h.n + 1⟩ ∧ e.2.1 = (S e.1).h.n ∧ e.2.2 = some b ∧ (S (e.1 + 1)).h.n = (S e.1).h.n + 1 ∧ (S e.1).h.n < big5 := by
      intro he
      obtain ⟨h1, h2⟩ := ih (by omega) e he
      exact ⟨by omega, h2⟩
    have hst := R.st i _ ho
    obtain ⟨_, ⟨hw, v, s1, ⟨h', g1⟩, g2⟩ | ⟨_, g2⟩⟩ := hst
    · cases hk : kdOf P ops[i].op with
      | pure => rw [hk] at g1; simp only at g1; rw [g2, g1.2] at he; exact old he
      | read => rw [hk] at g1; simp only at g1; rw [g2, g1.2] at he; exact old he
      | move => rw [hk] at g1; simp only at g1; rw [g2, g1.2] at he; exact old he
      | quiet =>
        rw [hk] at g1; simp only at g1
        obtain ⟨b, hb, hh, _⟩ := evOp_quiet hk g1.1
        have he' : e ∈ (i, (S i).h.n, get5 (S i).h.n h'.t) :: (S i).qt := by rw [g2, g1.2] at he; exact he
        cases he' with
        | tail _ he => exact old he
        | head =>
          refine ⟨Nat.lt_succ_self i, ops[i], v, b, ho, hk, hw, by rw [← hh]; exact g1.1, rfl, ?_, ?_, hb⟩
          · rw [hh]
            show get5 (S i).h.n (set5 (S i).h.n (some b) (S i).h.t) = some b
            rw [get5_set5 _ _ _ _ hb hb, if_pos rfl]
          · rw [g2, g1.2, hh]
    · rw [g2] at he; exact old he
/-- names of different operations are different -/
theorem Run.apart {q i : Nat} {id : Nat} (hq : q < ops.size) (hi : i < ops.size) (hqi : q ≠ i) (h1 : (S q).h.n ≤ id) (h2 : id < (S (q + 1)).h.n) : ¬ ((S i).h.n ≤ id ∧ id < (S (i + 1)).h.n) := by
  intro ⟨h3, h4⟩
  rcases Nat.lt_or_ge q i with hl | hl
  · have := R.mono (q + 1) i hl (by omega); omega
  · have := R.mono (i + 1) q (by omega) (by omega); omega
theorem Run.frame {k : Nat} {o : Oper} (ho : ops[k]? = some o) {t : Nat} (ht : t < 4096) (hne : o.dst ≠ some t) : getF t (S (k + 1)).f = getF t (S k).f := by
  have key : ∀ v, getF t (setd o.dst v (S k).f) = getF t (S k).f := by
    intro v
    have hlo := (R.st k o ho).1
    cases hd : o.dst with
    | none => rfl
    | some d =>
      rw [hd] at hlo hne
      have hlo : d < n := hlo
      show getF t (setF d v (S k).f) = _
      rw [getF_setF _ _ _ _ ht (Nat.lt_of_lt_of_le hlo R.n256), if_neg (fun e => hne (by rw [e]))]
  obtain ⟨_, ⟨_, v, s1, _, g2⟩ | ⟨_, g2⟩⟩ := R.st k o ho
  · rw [g2]; exact key v
  · rw [g2]; exact key (.tp [])
theorem Run.frames {t : Nat} (ht : t < 4096) : ∀ i j, i ≤ j → j ≤ ops.size → (∀ (k : Nat) (o : Oper), i ≤ k → k < j → ops[k]? = some o → o.dst ≠ some t) → getF t (S j).f = getF t (S i).f := by
  intro i j hij
  induction hij with
  | refl => intro _ _; rfl
  | step hij ih =>
    rename_i j
    intro hj hh
    have hj : j + 1 ≤ ops.size := hj
    have hij : i ≤ j := hij
    have ho : ops[j]? = some ops[j] := by simp [show j < ops.size by omega]
    have e1 : getF t (S (j + 1)).f = getF t (S j).f := R.frame ho ht (hh j _ hij (Nat.lt_succ_self j) ho)
    show getF t (S (j + 1)).f = _
    rw [e1]
    exact ih (by omega) fun k o h1 h2 => hh k o h1 (Nat.lt_succ_of_lt h2)
theorem Run.qt_id {i : Nat} (hi : i ≤ ops.size) : ∀ e ∈ (S i).qt, e.2.1 < (S i).h.n ∧ e.2.1 < big5 ∧ h.n ≤ e.2.1 := by
  intro e he
  obtain ⟨h1, o, v, b, _, _, _, _, h2, _, h3, h4⟩ := R.qt i hi e he
  have := R.mono (e.1 + 1) i h1 hi
  have h5 := (R.lims e.1 (by omega)).2
  refine ⟨by omega, by omega, by omega⟩
theorem Run.one {i : Nat} (hi : i ≤ ops.size) {e e' : Nat × Nat × Option Blk} (he : e ∈ (S i).qt) (he' : e' ∈ (S i).qt) (hid : e.2.1 = e'.2.1) : e.1 = e'.1 := by
  obtain ⟨h1, o, v, b, _, _, _, _, h2, _, h3, h4⟩ := R.qt i hi e he
  obtain ⟨h1', o', v', b', _, _, _, _, h2', _, h3', h4'⟩ := R.qt i hi e' he'
  refine Classical.byContradiction fun hne => ?_
  exact R.apart (q := e.1) (i := e'.1) (id := e.2.1) (by omega) (by omega) hne (by omega) (by omega) ⟨by omega, by omega⟩
/-- a block that is not in memory yet is nowhere -/
theorem Run.none_ (hfin : ∀ id, h.n ≤ id → id < big5 → get5 id h.t = none) : ∀ i, i ≤ ops.size → ∀ (p : Nat) x, (S i).hs[p]? = some x → (∀ e ∈ (S ops.size).qt, tb x.2 e.1 = false → get5 e.2.1 x.1.t = none) ∧ ∀ id, id < h.n → get5 id h.t = none → get5 id x.1.t = none := by
  intro i
  induction i with
  | zero =>
    intro _ p x hx
    rw [R.s0] at hx
    cases p with
    | zero =>
      simp at hx; subst hx
      refine ⟨fun e he _ => ?_, fun id _ hn => hn⟩
      obtain ⟨_, h2, h3⟩ := R.qt_id (Nat.le_refl _) e he
      exact hfin _ h3 h2
    | succ p => simp at hx
  | succ i ih =>
    intro hi p x hx
    have hi' : i < ops.size := by omega
    have ho : ops[i]? = some ops[i] := by simp [hi']
    have ihh := ih (by omega)
    obtain ⟨hlen, hl, hlast, hlt, hln⟩ := R.hs i (by omega)
    have hlim := (R.lims i (by omega))
    obtain ⟨k1, k2⟩ := ihh _ _ hlast
    have old : (S i).hs[p]? = some x → _ := fun hx => ihh p x hx
    have new_ : ∀ y, ((S i).hs ++ [y])[p]? = some x → (S i).hs[p]? = some x ∨ x = y := by
      intro y hy
      rw [List.getElem?_append] at hy
      split at hy
      · exact .inl hy
      · refine .inr ?_
        have := (List.getElem?_eq_some_iff.1 hy).1
        have e0 : p - (S i).hs.length = 0 := by simp at this; omega
        rw [e0] at hy
        simp at hy; exact hy.symm
    obtain ⟨_, ⟨_, v, s1, ⟨h', g1⟩, g2⟩ | ⟨_, g2⟩⟩ := R.st i _ ho
    · cases hk : kdOf P ops[i].op with
      | pure => rw [hk] at g1; simp only at g1; rw [g2, g1.2] at hx; exact old hx
      | read => rw [hk] at g1; simp only at g1; rw [g2, g1.2] at hx; exact old hx
      | quiet => rw [hk] at g1; simp only at g1; rw [g2, g1.2] at hx; exact old hx
      | move =>
        rw [hk] at g1; simp only at g1
        have hn1 : (S (i + 1)).h = h' := by rw [g2, g1.2]
        rw [g2, g1.2] at hx
        rcases new_ _ hx with hx | rfl
        · exact old hx
        · have g := (evOp_s R.cs g1.1).1 hlim.1
          have hqb : ∀ e ∈ (S i).qt, e.2.1 < big5 := fun e he => (R.qt_id (by omega) e he).2.1
          constructor
          · intro e he htb
            simp only at htb ⊢
            rw [tb_lor] at htb
            obtain ⟨t1, t2⟩ := Bool.or_eq_false_iff.1 htb
            obtain ⟨he0, oq, vq, bq, hoq, hkq, _, _, hidq, _, hnq, hbq⟩ := R.qt _ (Nat.le_refl _) e he
            have hne : e.1 ≠ i := by
              intro e1
              rw [e1, ho] at hoq; cases hoq
              rw [hk] at hkq; cases hkq
            have hap := R.apart (q := e.1) (i := i) (id := e.2.1) he0 hi' hne (by omega) (by omega)
            rw [hn1] at hap
            refine g.none_ e.2.1 (by omega) hap ?_
            show get5 e.2.1 (flush (S i).qt (msk ops i) (S i).fl (S i).h.t) = none
            rcases fl_get (a := msk ops i) (fl := (S i).fl) (t := (S i).h.t) (id := e.2.1) (by omega) (S i).qt hqb with ⟨q1, _⟩ | ⟨e', q1, q2, q3, q4, _⟩
            · rw [q1, hlt]
              exact k1 e he t1
            · have := R.one (Nat.le_refl _) ((R.hs_pre i ops.size (by omega) (Nat.le_refl _)).2 e' q1) he q2
              rw [this] at q3
              rw [q3] at t2; cases t2
          · intro id hid hn
            simp only
            have hsz : id < big5 := by have := R.lim; omega
            refine g.none_ id hsz (fun hh => by have hh1 : (S i).h.n ≤ id := hh.1; omega) ?_
            show get5 id (flush (S i).qt (msk ops i) (S i).fl (S i).h.t) = none
            rcases fl_get (a := msk ops i) (fl := (S i).fl) (t := (S i).h.t) (id := id) hsz (S i).qt hqb with ⟨q1, _⟩ | ⟨e', q1, q2, _⟩
            · rw [q1, hlt]
              exact k2 id hid hn
            · have := (R.qt_id (by omega) e' q1).2.2
              omega
    · rw [g2] at hx
      cases hk : isMove (kdOf P ops[i].op) with
      | false => rw [hk] at hx; exact old hx
      | true =>
        rw [hk] at hx
        rcases new_ _ hx with hx | rfl
        · exact old hx
        · constructor
          · intro e he htb
            show get5 e.2.1 (S i).h.t = none
            rw [hlt]; exact k1 e he htb
          · intro id hid hn
            show get5 id (S i).h.t = none
            rw [hlt]; exact k2 id hid hn
theorem Run.none2 : ∀ i, i ≤ ops.size → ∀ (p : Nat) x, (S i).hs[p]? = some x → ∀ id, id < big5 → ¬ (h.n ≤ id ∧ id < (S ops.size).h.n) → get5 id h.t = none → get5 id x.1.t = none := by
  intro i
  induction i with
  | zero =>
    intro _ p x hx
    rw [R.s0] at hx
    cases p with
    | zero => simp at hx; subst hx; exact fun id _ _ hn => hn
    | succ p => simp at hx
  | succ i ih =>
    intro hi p x hx
    have hi' : i < ops.size := by omega
    have ho : ops[i]? = some ops[i] := by simp [hi']
    have ihh := ih (by omega)
    obtain ⟨hlen, hl, hlast, hlt, hln⟩ := R.hs i (by omega)
    have hlim := (R.lims i (by omega))
    have k2 := ihh _ _ hlast
    have hmN := R.mono (i + 1) ops.size (by omega) (Nat.le_refl _)
    have hm1 := R.mono i (i + 1) (by omega) (by omega)
    have old : (S i).hs[p]? = some x → _ := fun hx => ihh p x hx
    have new_ : ∀ y, ((S i).hs ++ [y])[p]? = some x → (S i).hs[p]? = some x ∨ x = y := by
      intro y hy
      rw [List.getElem?_append] at hy
      split at hy
      · exact .inl hy
      · refine .inr ?_
        have := (List.getElem?_eq_some_iff.1 hy).1
        have e0 : p - (S i).hs.length = 0 := by simp at this; omega
        rw [e0] at hy
        simp at hy; exact hy.symm
    obtain ⟨_, ⟨_, v, s1, ⟨h', g1⟩, g2⟩ | ⟨_, g2⟩⟩ := R.st i _ ho
    · cases hk : kdOf P ops[i].op with
      | pure => rw [hk] at g1; simp only at g1; have e9 : (S (i + 1)).hs = (S i).hs := by rw [g2, g1.2]
                rw [e9] at hx; exact old hx
      | read => rw [hk] at g1; simp only at g1; have e9 : (S (i + 1)).hs = (S i).hs := by rw [g2, g1.2]
                rw [e9] at hx; exact old hx
      | quiet => rw [hk] at g1; simp only at g1; have e9 : (S (i + 1)).hs = (S i).hs := by rw [g2, g1.2]
                 rw [e9] at hx; exact old hx
      | move =>
        rw [hk] at g1; simp only at g1
        have hn1 : (S (i + 1)).h = h' := by rw [g2, g1.2]
        have e9 : (S (i + 1)).hs = (S i).hs ++ [(h', Nat.lor (S i).fl (msk ops i))] := by rw [g2, g1.2]
        rw [e9] at hx
        rcases new_ _ hx with hx | rfl
        · exact old hx
        · have g := (evOp_s R.cs g1.1).1 hlim.1
          have hqb : ∀ e ∈ (S i).qt, e.2.1 < big5 := fun e he => (R.qt_id (by omega) e he).2.1
          intro id hsz hid hn
          simp only
          refine g.none_ id hsz (fun hh => hid ⟨Nat.le_trans hlim.2 hh.1, by have h9 : id < h'.n := hh.2; rw [← hn1] at h9; omega⟩) ?_
          show get5 id (flush (S i).qt (msk ops i) (S i).fl (S i).h.t) = none
          rcases fl_get (a := msk ops i) (fl := (S i).fl) (t := (S i).h.t) (id := id) hsz (S i).qt hqb with ⟨q1, _⟩ | ⟨e', q1, q2, _⟩
          · rw [q1, hlt]
            exact k2 id hsz hid hn
          · have q9 := R.qt_id (by omega) e' q1
            exact absurd ⟨by omega, by omega⟩ hid
    · have e9 : (S (i + 1)).hs = if isMove (kdOf P ops[i].op) then (S i).hs ++ [((S i).h, (S i).fl)] else (S i).hs := by rw [g2]
      rw [e9] at hx
      split at hx
      · rcases new_ _ hx with hx | rfl
        · exact old hx
        · intro id hsz hid hn
          show get5 id (S i).h.t = none
          rw [hlt]; exact k2 id hsz hid hn
      · exact old hx
end
end
end Go.Ev
