/-
  Open regions: any order comes to what the machine comes to.
-/
import Derived.Test.YtjadodiecjkmoaaGreatDoorEvN
namespace Go.Ev
set_option linter.unusedVariables false
set_option linter.unusedSimpArgs false
open Go Go.Wf Go.RowKit

theorem optEq_s {a b : Option Nat} (h : optEq a b = true) : a = b := by
  unfold optEq at h
  split at h
  · rfl
  · rw [Nat.eq_of_beq_eq_true h]
  · cases h
theorem avEq_s {a b : AV} (h : avEq a b = true) : a = b := by
  unfold avEq at h
  split at h
  · rw [eq_of_beq h]
  · obtain ⟨h1, h2⟩ := and_t h
    rw [ieq_eq] at h2
    rw [ikEq_eq h1, of_decide_eq_true h2]
  · rw [leqL_eq] at h; rw [of_decide_eq_true h]
  · rfl
  · obtain ⟨h1, h2⟩ := and_t h
    rw [Nat.eq_of_beq_eq_true h1, Nat.eq_of_beq_eq_true h2]
  · rfl
  · obtain ⟨h, h5⟩ := and_t h
    obtain ⟨h, h4⟩ := and_t h
    obtain ⟨h, h3⟩ := and_t h
    obtain ⟨h1, h2⟩ := and_t h
    rw [Nat.eq_of_beq_eq_true h1, Nat.eq_of_beq_eq_true h2, Nat.eq_of_beq_eq_true h3, Nat.eq_of_beq_eq_true h4, optEq_s h5]
  · rfl
  · rfl
  · cases h
theorem avsEq_s : ∀ (a b : List AV), avsEq a b = true → a = b := by
  intro a
  induction a with
  | nil => intro b h; cases b with
    | nil => rfl
    | cons y b => cases h
  | cons x a ih =>
    intro b h
    cases b with
    | nil => cases h
    | cons y b =>
      have h : (Bool.rec false (avsEq a b) (avEq x y) : Bool) = true := h
      cases hb : avEq x y with
      | false => rw [hb] at h; cases h
      | true => rw [hb] at h; rw [avEq_s hb, ih b h]
theorem avEq1_s {a b : AV} (h : avEq1 a b = true) : a = b := by
  unfold avEq1 at h
  split at h
  · rw [avsEq_s _ _ h]
  · exact avEq_s h
noncomputable def resF (l : List Nat) (f : Fr) : Fr := l.foldr (fun t acc => setF t (getF t f) acc) (fillF AV.u)
theorem resF_get {l : List Nat} {f : Fr} (hl : ∀ x ∈ l, x < 4096) {t : Nat} (ht : t < 4096) : getF t (resF l f) = if t ∈ l then getF t f else AV.u := by
  induction l with
  | nil => exact getF_fill t AV.u
  | cons x l ih =>
    have ih := ih fun y hy => hl y (by simp [hy])
    show getF t (setF x (getF x f) (resF l f)) = _
    rw [getF_setF _ _ _ _ ht (hl x (by simp)), ih]
    by_cases h1 : t = x
    · subst h1; simp
    · rw [if_neg h1]; simp [h1]
section
variable {P : Program} {call : CallF} {n : Nat} {ops : Array Oper} {f : Fr} {h : Hp} {S : Nat → DS}
theorem relFlush {Φ : Phi} {τ : Tau} {H : Hp} {w : World} {qt : QT} {a fl m : Nat} (r : Rel Φ τ H w) (h1 : H.n ≤ m) (h2 : m ≤ big5) (hq : ∀ e ∈ qt, e.2.1 < m)
    (hb : ∀ e ∈ qt, tb a e.1 = true → tb fl e.1 = false → ∀ b, e.2.2 = some b → BlkRel Φ τ w e.2.1 b) : Rel Φ τ ⟨flush qt a fl H.t, m⟩ w := by
  have hq5 : ∀ e ∈ qt, e.2.1 < big5 := fun e he => by have := hq e he; omega
  refine ⟨h2, ?_, ?_⟩
  · intro id b hid hg
    have hid : id < m := hid
    have hg : get5 id (flush qt a fl H.t) = some b := hg
    rcases fl_get (a := a) (fl := fl) (t := H.t) (id := id) (by omega) qt hq5 with ⟨q1, _⟩ | ⟨e, q1, q2, q3, q4, q5⟩
    · rw [q1] at hg
      rcases Nat.lt_or_ge id H.n with hl | hl
      · exact r.blk id b hl hg
      · rw [r.fin id hl (by omega)] at hg; cases hg
    · rw [q5] at hg
      rw [← q2]
      exact hb e q1 q3 q4 b hg
  · intro id hid h5
    have hid : m ≤ id := hid
    show get5 id (flush qt a fl H.t) = none
    rcases fl_get (a := a) (fl := fl) (t := H.t) (id := id) h5 qt hq5 with ⟨q1, _⟩ | ⟨e, q1, q2, _⟩
    · rw [q1]; exact r.fin id (by omega) h5
    · have := hq e q1; omega
def cnt (P : Program) (ops : Array Oper) (L : Array Bool) : Nat := (List.range ops.size).countP fun i => L.getD i false && isMv P ops i
structure IvS (P : Program) (ops : Array Oper) (f : Fr) (h : Hp) (S : Nat → DS) (Φ0 : Phi) (τ0 : Tau) (w0 : World) (L : Array Bool) (F : Wf.Fr) (w : World) (Φ : Phi) (τ : Tau) : Prop where
  tw : Tw Φ0 τ0 h w0 Φ τ (S ops.size).h.n w
  fre : ∀ i, i < ops.size → L.getD i false = false → Fre Φ (S i).h.n (S (i + 1)).h.n
  fw : ∀ t, t < 4096 → ∀ (j : Nat) (o : Oper), ops[j]? = some o → o.dst = some t → L.getD j false = true → Rv Φ (getF t (S (j + 1)).f) (F t)
  f0 : ∀ t, t < 4096 → (∀ (j : Nat) (o : Oper), ops[j]? = some o → o.dst = some t → L.getD j false = false) → Rv Φ (getF t f) (F t)
  rel : ∀ x, (S ops.size).hs[cnt P ops L]? = some x → Rel Φ τ x.1 w
  qs : ∀ x, (S ops.size).hs[cnt P ops L]? = some x → ∀ e ∈ (S ops.size).qt, L.getD e.1 false = true → tb x.2 e.1 = false → ∀ b, e.2.2 = some b → BlkRel Φ τ w e.2.1 b
theorem set_get {L : Array Bool} {i : Nat} (hi : i < L.size) (j : Nat) : (L.setIfInBounds i true).getD j false = if j = i then true else L.getD j false := by
  rw [Array.getD_eq_getD_getElem?, Array.getElem?_setIfInBounds]
  by_cases e : i = j
  · subst e; simp [hi]
  · rw [if_neg e, if_neg (fun h => e h.symm), ← Array.getD_eq_getD_getElem?]
theorem cnt_set {L : Array Bool} {i : Nat} (hi : i < ops.size) (hs : L.size = ops.size) (hf : L.getD i false = false) : cnt P ops (L.setIfInBounds i true) = cnt P ops L + if isMv P ops i then 1 else 0 := by
  cases hm : isMv P ops i with
  | true =>
    simp only [if_true]
    refine countP_set _ List.nodup_range _ _ i (by simpa using hi) ?_ ?_ ?_
    · show ((L.setIfInBounds i true).getD i false && isMv P ops i) = true; rw [set_get (by omega), if_pos rfl, hm]; rfl
    · show (L.getD i false && isMv P ops i) = false; rw [hf]; rfl
    · intro j hj
      show _ = ((L.setIfInBounds i true).getD j false && isMv P ops j)
      rw [set_get (by omega), if_neg hj]
  | false =>
    simp only [Bool.false_eq_true, if_false, Nat.add_zero]
    unfold cnt
    apply List.countP_congr
    intro j _
    rw [set_get (by omega)]
    by_cases e : j = i
    · subst e; rw [hm]; simp
    · rw [if_neg e]
theorem countP_lt (p : Nat → Bool) : ∀ (N i : Nat), i ≤ N → (List.range N).countP (fun j => decide (j < i) && p j) = (List.range i).countP p := by
  intro N
  induction N with
  | zero => intro i hi; have : i = 0 := by omega
            subst this; rfl
  | succ N ih =>
    intro i hi
    rw [List.range_succ, List.countP_append, List.countP_singleton]
    by_cases e : i = N + 1
    · subst e
      rw [List.range_succ, List.countP_append, List.countP_singleton]
      have h1 : (List.range N).countP (fun j => decide (j < N + 1) && p j) = (List.range N).countP p := by
        apply List.countP_congr
        intro j hj
        have : j < N := by simpa using hj
        simp [show j < N + 1 by omega]
      rw [h1]; simp
    · rw [ih i (by omega)]
      have : decide (N < i) = false := decide_eq_false (by omega)
      rw [this]; simp
section
variable (R : Run P call n ops f h S) (K : Lk P n ops)
include K
omit K in
theorem notL {L : Array Bool} (hs : L.size = ops.size) (hc : closedL ops L) {i j : Nat} (hj : j < ops.size) (hi : L.getD i false = false) (ha : tb (msk ops j) i = true) : L.getD j false = false := by
  cases hb : L.getD j false with
  | false => rfl
  | true =>
    have ho : ops[j]? = some ops[j] := by simp [hj]
    have hjj : L.getD j true = true := by
      have : L[j]? = some L[j] := by simp [hs, hj]
      simp [Array.getD_eq_getD_getElem?, this] at hb ⊢; exact hb
    have := msk_L hs hc j _ i ho (fun e he hbe => hc j hj hjj _ ho e he hbe) ha
    rw [hi] at this; cases this
theorem cnt_mover {L : Array Bool} (hs : L.size = ops.size) (hc : closedL ops L) {i : Nat} {o : Oper} (ho : ops[i]? = some o) (hi : L.getD i false = false) (hp : ∀ e ∈ o.after, Region.binds .any e = true → L.getD e.on false = true) (hm : isMv P ops i = true) : cnt P ops L = mcn P ops i := by
  have hiN := (Array.getElem?_eq_some_iff.1 ho).1
  unfold cnt mcn
  rw [← countP_lt (isMv P ops) ops.size i (by omega)]
  apply List.countP_congr
  intro j hj
  have hj : j < ops.size := by simpa using hj
  cases hmj : isMv P ops j with
  | false => simp
  | true =>
    simp only [Bool.and_true]
    rcases Nat.lt_trichotomy j i with h1 | h1 | h1
    · rw [decide_eq_true h1, msk_L hs hc i o j ho hp (K.chain j i h1 hmj hm)]
    · subst h1; rw [hi]; simp
    · rw [decide_eq_false (by omega), notL hs hc hj hi (K.chain i j h1 hm hmj)]
include R
theorem frm {L : Array Bool} {F : Wf.Fr} {w w0 : World} {Φ Φ0 : Phi} {τ τ0 : Tau} (I : IvS P ops f h S Φ0 τ0 w0 L F w Φ τ) (hs : L.size = ops.size) (hc : closedL ops L) {i : Nat} {o : Oper} (ho : ops[i]? = some o) (hi : L.getD i false = false)
    (hp : ∀ e ∈ o.after, Region.binds .any e = true → L.getD e.on false = true) {t : Nat} (ht : t < 4096)
    (hw : ∀ (j : Nat) (o' : Oper), ops[j]? = some o' → o'.dst = some t → tb (msk ops i) j = true ∨ tb (msk ops j) i = true) : Rv Φ (getF t (S i).f) (F t) := by
  have hiN := (Array.getElem?_eq_some_iff.1 ho).1
  by_cases hex : ∃ (j : Nat) (o' : Oper), ops[j]? = some o' ∧ o'.dst = some t ∧ L.getD j false = true
  · obtain ⟨j, o', hj, hd, hl⟩ := hex
    have hjN := (Array.getElem?_eq_some_iff.1 hj).1
    rcases hw j o' hj hd with h1 | h1
    · have hlt := msk_lt i o j ho K.back h1
      have e1 : getF t (S i).f = getF t (S (j + 1)).f := R.frames ht (j + 1) i hlt (by omega) fun k ok h2 h3 hk hd2 => by
        have := K.uniq j k o' ok t hj hk hd hd2
        omega
      rw [e1]
      exact I.fw t ht j o' hj hd hl
    · have := notL hs hc hjN hi h1
      rw [hl] at this; cases this
  · have hall : ∀ (j : Nat) (o' : Oper), ops[j]? = some o' → o'.dst = some t → L.getD j false = false := by
      intro j o' hj hd
      cases hb : L.getD j false with
      | false => rfl
      | true => exact absurd ⟨j, o', hj, hd, hb⟩ hex
    have e1 : getF t (S i).f = getF t (S 0).f := R.frames ht 0 i (Nat.zero_le _) (by omega) fun k ok _ h3 hk hd => by
      rcases hw k ok hk hd with h1 | h1
      · have := msk_L hs hc i o k ho hp h1
        rw [hall k ok hk hd] at this; cases this
      · have := msk_lt k ok i hk K.back h1
        omega
    rw [e1, R.s0]
    exact I.f0 t ht hall
/-- the frame as an operation sees it -/
theorem frmOp {L : Array Bool} {F : Wf.Fr} {w w0 : World} {Φ Φ0 : Phi} {τ τ0 : Tau} (I : IvS P ops f h S Φ0 τ0 w0 L F w Φ τ) (hs : L.size = ops.size) (hc : closedL ops L) {i : Nat} {o : Oper} (ho : ops[i]? = some o) (hi : L.getD i false = false)
    (hp : ∀ e ∈ o.after, Region.binds .any e = true → L.getD e.on false = true) : ∃ g, FR Φ g F ∧ ∀ H, evOp P call o.op (S i).f H = evOp P call o.op g H := by
  refine ⟨resF ((opTmps o.op.operands.toList).filter (fun t => decide (t < 4096))) (S i).f, ?_, fun H => evOp_agr ?_⟩
  · intro t ht
    rw [resF_get (fun x hx => by simpa using (List.mem_filter.1 hx).2) ht]
    split
    · rename_i hm
      have hm := (List.mem_filter.1 hm).1
      exact frm R K I hs hc ho hi hp ht fun j o' hj hd => K.read i o t j o' ho hm hj hd
    · simp only [Rv]
  · intro t hm ht
    rw [resF_get (fun x hx => by simpa using (List.mem_filter.1 hx).2) ht, if_pos]
    exact List.mem_filter.2 ⟨mem_opTmps hm, by simpa using ht⟩
theorem frmWant {L : Array Bool} {F : Wf.Fr} {w w0 : World} {Φ Φ0 : Phi} {τ τ0 : Tau} (I : IvS P ops f h S Φ0 τ0 w0 L F w Φ τ) (hs : L.size = ops.size) (hc : closedL ops L) {i : Nat} {o : Oper} (ho : ops[i]? = some o) (hi : L.getD i false = false)
    (hp : ∀ e ∈ o.after, Region.binds .any e = true → L.getD e.on false = true) {b : Bool} (hw : wantB ops o.guard (S i).f = some b) : Region.wanted o (yieldedF ops F) = b := by
  refine wantB_s (Φ := Φ) hw fun p d hg hd => ?_
  show Rv Φ (Bool.rec AV.u (getF d (S i).f) (Nat.ble (Nat.succ d) 4096)) (F d)
  cases hb : Nat.ble (Nat.succ d) 4096 with
  | false => simp only [Rv]
  | true =>
    have hd5 : d < 4096 := Nat.le_of_ble_eq_true hb
    rw [Option.bind_eq_some_iff] at hd
    obtain ⟨og, hog, hd⟩ := hd
    refine frm R K I hs hc ho hi hp hd5 fun j o' hj hdj => ?_
    have := K.uniq p.1 j og o' d hog hj hd hdj
    subst this
    exact .inl (K.gd i o p ho hg)
end
end
end Go.Ev
