/-
  Open regions: one step in any order; the whole.
-/
import Derived.Test.YtjadodiecjkmoaaGreatDoorEvO
namespace Go.Ev
set_option linter.unusedVariables false
set_option linter.unusedSimpArgs false
open Go Go.Wf Go.RowKit

section
variable {P : Program} {call : CallF} {n : Nat} {ops : Array Oper} {f : Fr} {h : Hp} {S : Nat → DS}
theorem updO_at {F : Wf.Fr} {d t : Nat} {v : Value} : Wf.updO F (some d) v t = if t = d then v else F t := rfl
theorem IvS.upd {Φ0 Φ Φ' : Phi} {τ0 τ τ' : Tau} {w0 w w' : World} {L : Array Bool} {F : Wf.Fr} {i : Nat} {o : Oper} {v : Value} (R : Run P call n ops f h S) (K : Lk P n ops) (I : IvS P ops f h S Φ0 τ0 w0 L F w Φ τ) (hs : L.size = ops.size)
    (ho : ops[i]? = some o) (hi : L.getD i false = false) (tw : Tw Φ0 τ0 h w0 Φ' τ' (S ops.size).h.n w') (sub : Sub Φ Φ')
    (fre : ∀ j, j < ops.size → j ≠ i → L.getD j false = false → Fre Φ' (S j).h.n (S (j + 1)).h.n) (val : ∀ t, t < 4096 → o.dst = some t → Rv Φ' (getF t (S (i + 1)).f) v)
    (rel : ∀ x, (S ops.size).hs[cnt P ops L + if isMv P ops i then 1 else 0]? = some x → Rel Φ' τ' x.1 w')
    (qs : ∀ x, (S ops.size).hs[cnt P ops L + if isMv P ops i then 1 else 0]? = some x → ∀ e ∈ (S ops.size).qt, (e.1 = i ∨ L.getD e.1 false = true) → tb x.2 e.1 = false → ∀ b, e.2.2 = some b → BlkRel Φ' τ' w' e.2.1 b) :
    IvS P ops f h S Φ0 τ0 w0 (L.setIfInBounds i true) (updO F o.dst v) w' Φ' τ' := by
  have hiN := (Array.getElem?_eq_some_iff.1 ho).1
  have hg := fun j => set_get (L := L) (i := i) (by omega) j
  have hc := cnt_set (P := P) hiN hs hi
  refine ⟨tw, ?_, ?_, ?_, ?_, ?_⟩
  · intro j hj hl
    rw [hg] at hl
    split at hl
    · cases hl
    · rename_i hne; exact fre j hj hne hl
  · intro t ht j o' hj hd hl
    rw [hg] at hl
    by_cases e : j = i
    · subst e
      rw [ho] at hj; cases hj
      have := val t ht hd
      rw [hd, updO_at, if_pos rfl]; exact this
    · rw [if_neg e] at hl
      have hne : o.dst ≠ some t := fun hd2 => e (K.uniq j i o' o t hj ho hd hd2)
      have := (I.fw t ht j o' hj hd hl).mono sub
      cases hod : o.dst with
      | none => exact this
      | some d =>
        rw [updO_at, if_neg (fun e => hne (by rw [hod, e]))]; exact this
  · intro t ht hall
    have hne : o.dst ≠ some t := by
      intro hd
      have := hall i o ho hd
      rw [hg, if_pos rfl] at this; cases this
    have := (I.f0 t ht fun j o' hj hd => by
      have := hall j o' hj hd
      rw [hg] at this
      split at this
      · cases this
      · exact this).mono sub
    cases hod : o.dst with
    | none => exact this
    | some d =>
      rw [updO_at, if_neg (fun e => hne (by rw [hod, e]))]; exact this
  · intro x hx
    rw [hc] at hx; exact rel x hx
  · intro x hx e he hl hb
    rw [hc] at hx
    rw [hg] at hl
    refine qs x hx e he ?_ hb
    split at hl
    · exact .inl (by assumption)
    · exact .inr hl
/-- a window's reads -/
theorem winK_s {m a : Nat} {qt : QT} {g : Fr} {o : Oper} {v : AV} {k : Out} : ∀ (l : List (Hp × Nat)), okO (winK P call m qt a g o v l k) → winK P call m qt a g o v l k = k ∧ ∀ x ∈ l, ∃ h', evOp P call o.op g ⟨flush qt a x.2 x.1.t, m⟩ = .ok v h' := by
  intro l
  induction l with
  | nil => intro _; exact ⟨rfl, fun x hx => by cases hx⟩
  | cons y l ih =>
    intro e
    have e0 : winK P call m qt a g o v (y :: l) k = Res.rec (fun v' _ => Bool.rec (.no 61) (winK P call m qt a g o v l k) (avEq1 v v')) Out.no (fun _ _ => .no 60) (evOp P call o.op g ⟨flush qt a y.2 y.1.t, m⟩) := rfl
    rw [e0] at e ⊢
    obtain ⟨v', h', h1, h2⟩ := recR0 e
    rw [h2] at e ⊢
    cases hb : avEq1 v v' with
    | false => rw [hb] at e; exact e.elim
    | true =>
      rw [hb] at e
      obtain ⟨h3, h4⟩ := ih e
      refine ⟨h3, fun x hx => ?_⟩
      cases hx with
      | head => rw [avEq1_s hb]; exact ⟨h', h1⟩
      | tail _ hx => exact h4 x hx
theorem winsK_s {m : Nat} {qt : QT} {rs : List (Nat × Fr × AV)} {hs : List (Hp × Nat)} {k : Out} : ∀ (l : List (Nat × Oper × Nat × Nat × Nat)), okO (winsK P call m qt rs hs k l) → winsK P call m qt rs hs k l = k ∧
    ∀ p ∈ l, ∀ r, findR rs p.1 = some r → ∀ x ∈ tk (dr hs p.2.2.2.1) (Nat.succ (Nat.sub p.2.2.2.2 p.2.2.2.1)), ∃ h', evOp P call p.2.1.op r.1 ⟨flush qt p.2.2.1 x.2 x.1.t, m⟩ = .ok r.2 h' := by
  intro l
  induction l with
  | nil => intro _; exact ⟨rfl, fun p hp => by cases hp⟩
  | cons q l ih =>
    intro e
    have e0 : winsK P call m qt rs hs k (q :: l) = Option.rec (winsK P call m qt rs hs k l) (fun r => winK P call m qt q.2.2.1 r.1 q.2.1 r.2 (tk (dr hs q.2.2.2.1) (Nat.succ (Nat.sub q.2.2.2.2 q.2.2.2.1))) (winsK P call m qt rs hs k l)) (findR rs q.1) := rfl
    rw [e0] at e ⊢
    cases hf : findR rs q.1 with
    | none =>
      rw [hf] at e
      obtain ⟨h1, h2⟩ := ih e
      refine ⟨h1, fun p hp => ?_⟩
      cases hp with
      | head => intro r hr; rw [hf] at hr; cases hr
      | tail _ hp => exact h2 p hp
    | some r =>
      rw [hf] at e
      simp only at e ⊢
      obtain ⟨h1, h2⟩ := winK_s _ e
      rw [h1] at e ⊢
      obtain ⟨h3, h4⟩ := ih e
      refine ⟨h3, fun p hp => ?_⟩
      cases hp with
      | head => intro r' hr; rw [hf] at hr; cases hr; exact h2
      | tail _ hp => exact h4 p hp
theorem loM_s (mv a : Nat) : ∀ (l : List Nat) (i : Nat), loM mv a l i = (List.range l.length).countP fun j => tb (Nat.land mv a) (i + j) := by
  intro l
  induction l with
  | nil => intro i; rfl
  | cons b l ih =>
    intro i
    have e0 : loM mv a (b :: l) i = Bool.rec (loM mv a l (Nat.succ i)) (Nat.succ (loM mv a l (Nat.succ i))) (tb (Nat.land mv a) i) := rfl
    rw [e0, ih, List.length_cons, List.range_succ_eq_map, List.countP_cons, List.countP_map]
    have e1 : (List.range l.length).countP ((fun j => tb (Nat.land mv a) (i + j)) ∘ Nat.succ) = (List.range l.length).countP fun j => tb (Nat.land mv a) (Nat.succ i + j) := by
      apply List.countP_congr
      intro j _
      simp only [Function.comp]
      rw [show i + Nat.succ j = Nat.succ i + j by omega]
    rw [e1, Nat.add_zero]
    cases tb (Nat.land mv a) i <;> rfl
theorem recNat (p r : Bool) (G : Nat) : (Bool.rec G (Bool.rec (Nat.succ G) G r) p : Nat) = G + if p && !r then 1 else 0 := by cases p <;> cases r <;> rfl
theorem hiM_s (mv q : Nat) : ∀ (l : List Nat) (i : Nat), hiM mv q l i = (List.range l.length).countP fun j => tb mv (i + j) && !tb ((l[j]?).getD 0) q := by
  intro l
  induction l with
  | nil => intro i; rfl
  | cons b l ih =>
    intro i
    have e0 : hiM mv q (b :: l) i = Bool.rec (hiM mv q l (Nat.succ i)) (Bool.rec (Nat.succ (hiM mv q l (Nat.succ i))) (hiM mv q l (Nat.succ i)) (tb b q)) (tb mv i) := rfl
    rw [e0, ih, List.length_cons, List.range_succ_eq_map, List.countP_cons, List.countP_map]
    have e1 : (List.range l.length).countP ((fun j => tb mv (i + j) && !tb (((b :: l)[j]?).getD 0) q) ∘ Nat.succ) = (List.range l.length).countP fun j => tb mv (Nat.succ i + j) && !tb ((l[j]?).getD 0) q := by
      apply List.countP_congr
      intro j _
      simp only [Function.comp, List.getElem?_cons_succ]
      rw [show i + Nat.succ j = Nat.succ i + j by omega]
    rw [e1, Nat.add_zero]
    simp only [List.getElem?_cons_zero, Option.getD_some]
    exact recNat _ _ _
theorem winM_s {P : Program} {mv : Nat} {ms : List Nat} : ∀ (l : List Oper) (m : List Nat) (i j : Nat) (o : Oper) (a : Nat), l[j]? = some o → m[j]? = some a → isRead (kdOf P o.op) = true → loM mv a ms 0 ≠ hiM mv (i + j) ms 0 →
    m.length = l.length → (i + j, o, a, loM mv a ms 0, hiM mv (i + j) ms 0) ∈ winM P mv ms l m i := by
  intro l
  induction l with
  | nil => intro m i j o a h; simp at h
  | cons x l ih =>
    intro m i j o a hj hm hr hne hlen
    cases m with
    | nil => simp at hm
    | cons b m =>
      have e0 : winM P mv ms (x :: l) (b :: m) i = Bool.rec (winM P mv ms l m (Nat.succ i)) (Bool.rec ((i, x, b, loM mv b ms 0, hiM mv i ms 0) :: winM P mv ms l m (Nat.succ i)) (winM P mv ms l m (Nat.succ i)) (Nat.beq (loM mv b ms 0) (hiM mv i ms 0))) (isRead (kdOf P x.op)) := rfl
      rw [e0]
      cases j with
      | zero =>
        simp at hj hm; subst hj; subst hm
        rw [Nat.add_zero] at hne ⊢
        have hb : Nat.beq (loM mv b ms 0) (hiM mv i ms 0) = false := by rw [beq_eq]; exact decide_eq_false hne
        rw [hr, hb]
        exact List.mem_cons_self
      | succ j =>
        have := ih m (Nat.succ i) j o a (by simpa using hj) (by simpa using hm) hr (by rw [show Nat.succ i + j = i + (j + 1) by omega]; exact hne) (by simpa using hlen)
        rw [show Nat.succ i + j = i + (j + 1) by omega] at this
        cases isRead (kdOf P x.op) with
        | false => exact this
        | true =>
          cases Nat.beq (loM mv b ms 0) (hiM mv i ms 0) with
          | true => exact this
          | false => exact List.mem_cons_of_mem _ this
section
variable (R : Run P call n ops f h S) (K : Lk P n ops)
include R
theorem Run.rs {k : Nat} {o : Oper} (ho : ops[k]? = some o) (hr : kdOf P o.op = .read) (hw : wantB ops o.guard (S k).f = some true) :
    ∃ v h', evOp P call o.op (S k).f ⟨flush (S k).qt (msk ops k) (S k).fl (S k).h.t, (S k).h.n⟩ = .ok v h' ∧ (∀ t, o.dst = some t → t < 4096 → getF t (S (k + 1)).f = v) ∧ ∀ j, k + 1 ≤ j → j ≤ ops.size → findR (S j).rs k = some ((S k).f, v) := by
  have hkN := (Array.getElem?_eq_some_iff.1 ho).1
  obtain ⟨hlo, ⟨_, v, s1, ⟨h', g1⟩, g2⟩ | ⟨hw2, g2⟩⟩ := R.st k o ho
  · rw [hr] at g1
    simp only at g1
    refine ⟨v, h', g1.1, ?_, ?_⟩
    · intro t hd ht
      rw [g2, hd]
      show getF t (setF t v (S k).f) = v
      rw [getF_setF _ _ _ _ ht ht, if_pos rfl]
    · intro j hj
      induction hj with
      | refl =>
        intro _
        rw [g2, g1.2]
        show (Bool.rec (findR (S k).rs k) (some ((S k).f, v)) (Nat.beq k k) : Option (Fr × AV)) = _
        rw [show Nat.beq k k = true from Nat.beq_refl k]
      | step hj ih =>
        rename_i j
        intro hjN
        have hjN : j + 1 ≤ ops.size := hjN
        have hj : k + 1 ≤ j := hj
        have hoj : ops[j]? = some ops[j] := by simp [show j < ops.size by omega]
        have ih := ih (by omega)
        obtain ⟨_, ⟨_, v2, s2, ⟨h2, q1⟩, q2⟩ | ⟨_, q2⟩⟩ := R.st j _ hoj
        · cases hk : kdOf P ops[j].op with
          | pure => rw [hk] at q1; simp only at q1; rw [q2, q1.2]; exact ih
          | quiet => rw [hk] at q1; simp only at q1; rw [q2, q1.2]; exact ih
          | move => rw [hk] at q1; simp only at q1; rw [q2, q1.2]; exact ih
          | read =>
            rw [hk] at q1; simp only at q1; rw [q2, q1.2]
            show (Bool.rec (findR (S j).rs k) (some ((S j).f, v2)) (Nat.beq j k) : Option (Fr × AV)) = _
            have : Nat.beq j k = false := by rw [beq_eq]; exact decide_eq_false (by omega)
            rw [this]; exact ih
        · rw [q2]; exact ih
  · rw [hw] at hw2; cases hw2
include K
theorem stepI (hfin : ∀ id, h.n ≤ id → id < big5 → get5 id h.t = none) (hwin : ∀ p ∈ winM P (movM P ops.toList 0) (ancM ops.toList []) ops.toList (ancM ops.toList []) 0, ∀ r, findR (S ops.size).rs p.1 = some r → ∀ x ∈ tk (dr (S ops.size).hs p.2.2.2.1) (Nat.succ (Nat.sub p.2.2.2.2 p.2.2.2.1)),
      ∃ h', evOp P call p.2.1.op r.1 ⟨flush (S ops.size).qt p.2.2.1 x.2 x.1.t, (S ops.size).h.n⟩ = .ok r.2 h')
    {Φ0 Φ : Phi} {τ0 τ : Tau} {w0 w : World} {L : Array Bool} {F : Wf.Fr} (I : IvS P ops f h S Φ0 τ0 w0 L F w Φ τ) (hs : L.size = ops.size) (hc : closedL ops L) {i : Nat} {o : Oper} (ho : ops[i]? = some o) (hi : L.getD i false = false)
    (hp : ∀ e ∈ o.after, Region.binds .any e = true → L.getD e.on false = true) :
    lo n o.dst ∧ OpSt P ops F o w (fun v w' => ∃ Φ' τ', IvS P ops f h S Φ0 τ0 w0 (L.setIfInBounds i true) (updO F o.dst v) w' Φ' τ') (fun _ _ => False) := by
  have hiN := (Array.getElem?_eq_some_iff.1 ho).1
  have hmono1 := R.mono i (i + 1) (by omega) (by omega)
  have hmonoN := R.mono (i + 1) ops.size (by omega) (Nat.le_refl _)
  have hlimN := (R.lims ops.size (Nat.le_refl _))
  have hlimi := R.lims i (by omega)
  obtain ⟨hhl, hlx, hlat, hlt, hln⟩ := R.hs i (by omega)
  have hlatN := (R.hs_pre i ops.size (by omega) (Nat.le_refl _)).1 _ _ hlat
  have hqN := (R.hs_pre i ops.size (by omega) (Nat.le_refl _)).2
  have setv : ∀ {t : Nat} {v : AV} {g : Fr}, t < 4096 → o.dst = some t → getF t (setd o.dst v g) = v := by
    intro t v g ht hd
    rw [hd]
    show getF t (setF t v g) = v
    rw [getF_setF _ _ _ _ ht ht, if_pos rfl]
  -- the memory as a mover sees it
  have relAt : ∀ {x : Hp × Nat}, (S ops.size).hs[cnt P ops L]? = some x → ∀ {qt : QT} {m : Nat}, (∀ e ∈ qt, e ∈ (S ops.size).qt ∧ e.2.1 < m) → x.1.n ≤ m → m ≤ big5 → Rel Φ τ ⟨flush qt (msk ops i) x.2 x.1.t, m⟩ w := by
    intro x hx qt m hq h1 h2
    refine relFlush (I.rel x hx) h1 h2 (fun e he => (hq e he).2) fun e he ha hf b hb => ?_
    exact I.qs x hx e (hq e he).1 (msk_L hs hc i o e.1 ho hp ha) hf b hb
  obtain ⟨hlo, hst⟩ := R.st i o ho
  refine ⟨hlo, ?_⟩
  obtain ⟨g, hF, hev⟩ := frmOp R K I hs hc ho hi hp
  rcases hst with ⟨hw, v, s1, ⟨h', g1⟩, g2⟩ | ⟨hw, g2⟩
  · have hwant := frmWant R K I hs hc ho hi hp hw
    unfold OpSt
    rw [if_pos hwant]
    cases hk : kdOf P o.op with
    | pure =>
      have hmv : isMv P ops i = false := by rw [isMv_at ho, hk]; rfl
      rw [hk] at g1; simp only at g1
      obtain ⟨g1, rfl⟩ := g1
      rw [hev] at g1
      obtain ⟨_, pu⟩ := evOp_pure hk g1
      obtain ⟨dst, op, ty, pos, after, gd⟩ := o
      refine (pu Φ F w dst ty pos after gd hF).mono ?_ fun _ _ h => h
      rintro x w' ⟨rfl, hv⟩
      refine ⟨Φ, τ, I.upd R K hs ho hi I.tw (Sub.refl _) (fun j hj hne hl => I.fre j hj hl) (fun t ht hd => ?_) ?_ ?_⟩
      · rw [g2]; simp only; rw [setv ht hd]; exact hv
      · rw [hmv]; exact I.rel
      · rw [hmv]
        intro x hx e he hl
        rcases hl with hl | hl
        · obtain ⟨_, o', _, _, ho', hk', _⟩ := R.qt _ (Nat.le_refl _) e he
          rw [hl, ho] at ho'; cases ho'
          rw [hk] at hk'; cases hk'
        · exact I.qs x hx e he hl
    | read =>
      have hmv : isMv P ops i = false := by rw [isMv_at ho, hk]; rfl
      obtain ⟨vr, hr', e1, e2, e3⟩ := R.rs ho hk hw
      have e3 := e3 ops.size (by omega) (Nat.le_refl _)
      -- the place in the chain
      have hlo1 : loM (movM P ops.toList 0) (msk ops i) (ancM ops.toList []) 0 ≤ cnt P ops L := by
        rw [loM_s, msk_len]
        unfold cnt
        apply List.countP_mono_left
        intro j hj hb
        rw [Nat.zero_add] at hb
        have e5 : tb (Nat.land (movM P ops.toList 0) (msk ops i)) j = (tb (movM P ops.toList 0) j && tb (msk ops i) j) := by rw [tb_eq, tb_eq, tb_eq]; exact Nat.testBit_and _ _ _
        rw [e5, mvM] at hb
        obtain ⟨b1, b2⟩ := and_t hb
        rw [msk_L hs hc i o j ho hp b2, b1]; rfl
      have hhi1 : cnt P ops L ≤ hiM (movM P ops.toList 0) i (ancM ops.toList []) 0 := by
        rw [hiM_s, msk_len]
        unfold cnt
        apply List.countP_mono_left
        intro j hj hb
        have hj : j < ops.size := by simpa using hj
        obtain ⟨b1, b2⟩ := and_t hb
        rw [Nat.zero_add, mvM, b2]
        cases hd : tb (((ancM ops.toList [])[j]?).getD 0) i with
        | false => rfl
        | true =>
          have := notL hs hc hj hi hd
          rw [b1] at this; cases this
      have hlo2 : loM (movM P ops.toList 0) (msk ops i) (ancM ops.toList []) 0 ≤ mcn P ops i := by
        rw [loM_s, msk_len]
        unfold mcn
        rw [← countP_lt (isMv P ops) ops.size i (by omega)]
        apply List.countP_mono_left
        intro j hj hb
        rw [Nat.zero_add] at hb
        have e5 : tb (Nat.land (movM P ops.toList 0) (msk ops i)) j = (tb (movM P ops.toList 0) j && tb (msk ops i) j) := by rw [tb_eq, tb_eq, tb_eq]; exact Nat.testBit_and _ _ _
        rw [e5, mvM] at hb
        obtain ⟨b1, b2⟩ := and_t hb
        rw [b1, decide_eq_true (msk_lt i o j ho K.back b2)]; rfl
      have hhi2 : mcn P ops i ≤ hiM (movM P ops.toList 0) i (ancM ops.toList []) 0 := by
        rw [hiM_s, msk_len]
        unfold mcn
        rw [← countP_lt (isMv P ops) ops.size i (by omega)]
        apply List.countP_mono_left
        intro j hj hb
        have hj : j < ops.size := by simpa using hj
        obtain ⟨b1, b2⟩ := and_t hb
        have b1 : j < i := of_decide_eq_true b1
        rw [Nat.zero_add, mvM, b2]
        cases hd : tb (((ancM ops.toList [])[j]?).getD 0) i with
        | false => rfl
        | true =>
          have := msk_lt j ops[j] i (by simp [hj]) K.back hd
          omega
      have hlenN := (R.hs ops.size (Nat.le_refl _)).1
      have hcN : cnt P ops L ≤ mcn P ops ops.size := by
        unfold cnt mcn
        apply List.countP_mono_left
        intro j _ hb
        exact (and_t hb).2
      obtain ⟨x, hx⟩ : ∃ x, (S ops.size).hs[cnt P ops L]? = some x := ⟨_, List.getElem?_eq_getElem (by omega)⟩
      have rd : ∃ hq, evOp P call o.op (S i).f hq = .ok vr hr' ∨ (∃ h2, evOp P call o.op (S i).f hq = .ok vr h2) ∧ True := ⟨_, .inl e1⟩
      have core : ∃ H h2, evOp P call o.op (S i).f H = .ok vr h2 ∧ Rel Φ τ H w := by
        by_cases hne : loM (movM P ops.toList 0) (msk ops i) (ancM ops.toList []) 0 = hiM (movM P ops.toList 0) i (ancM ops.toList []) 0
        · have hcc : cnt P ops L = mcn P ops i := by omega
          rw [← hcc] at hlatN
          refine ⟨_, _, e1, ?_⟩
          have := relAt hlatN (qt := (S i).qt) (m := (S i).h.n) (fun e he => ⟨hqN e he, (R.qt_id (by omega) e he).1⟩) hln hlimi.1
          rw [hlt]; exact this
        · have hmem := winM_s (P := P) (mv := movM P ops.toList 0) (ms := ancM ops.toList []) ops.toList (ancM ops.toList []) 0 i o (msk ops i) (by simpa using ho) (msk_at hiN) (by rw [hk]; rfl) (by rw [Nat.zero_add]; exact hne) (by rw [msk_len]; simp)
          rw [Nat.zero_add] at hmem
          have hxm : x ∈ tk (dr (S ops.size).hs (loM (movM P ops.toList 0) (msk ops i) (ancM ops.toList []) 0)) (Nat.succ (Nat.sub (hiM (movM P ops.toList 0) i (ancM ops.toList []) 0) (loM (movM P ops.toList 0) (msk ops i) (ancM ops.toList []) 0))) := by
            rw [tk_eq, dr_eq]
            apply List.mem_of_getElem? (i := cnt P ops L - loM (movM P ops.toList 0) (msk ops i) (ancM ops.toList []) 0)
            rw [List.getElem?_take, if_pos, List.getElem?_drop]
            · rw [← hx]; congr 1; omega
            · show _ < (hiM (movM P ops.toList 0) i (ancM ops.toList []) 0 - loM (movM P ops.toList 0) (msk ops i) (ancM ops.toList []) 0) + 1
              omega
          obtain ⟨h2, hh2⟩ := hwin _ hmem _ e3 x hxm
          refine ⟨_, h2, hh2, ?_⟩
          have hxn : x.1.n ≤ (S ops.size).h.n := by
            -- counters do not fall
            have key : ∀ j, j ≤ ops.size → ∀ (p : Nat) y, (S j).hs[p]? = some y → y.1.n ≤ (S j).h.n := by
              intro j
              induction j with
              | zero =>
                intro _ p y hy
                rw [R.s0] at hy ⊢
                cases p with
                | zero => simp at hy; subst hy; exact Nat.le_refl _
                | succ p => simp at hy
              | succ j ih =>
                intro hj p y hy
                have hoj : ops[j]? = some ops[j] := by simp [show j < ops.size by omega]
                have hm := R.mono j (j + 1) (by omega) hj
                have old : (S j).hs[p]? = some y → y.1.n ≤ (S (j + 1)).h.n := fun hy => Nat.le_trans (ih (by omega) p y hy) hm
                have new_ : ∀ z : Hp × Nat, z.1.n ≤ (S (j + 1)).h.n → ((S j).hs ++ [z])[p]? = some y → y.1.n ≤ (S (j + 1)).h.n := by
                  intro z hz hy
                  rw [List.getElem?_append] at hy
                  split at hy
                  · exact old hy
                  · have := (List.getElem?_eq_some_iff.1 hy).1
                    have e0 : p - (S j).hs.length = 0 := by simp at this; omega
                    rw [e0] at hy
                    simp at hy; subst hy; exact hz
                obtain ⟨_, ⟨_, v2, s2, ⟨h2, q1⟩, q2⟩ | ⟨_, q2⟩⟩ := R.st j _ hoj
                · cases hkj : kdOf P ops[j].op with
                  | pure => rw [hkj] at q1; simp only at q1; have e9 : (S (j + 1)).hs = (S j).hs := by rw [q2, q1.2]
                            rw [e9] at hy; exact old hy
                  | read => rw [hkj] at q1; simp only at q1; have e9 : (S (j + 1)).hs = (S j).hs := by rw [q2, q1.2]
                            rw [e9] at hy; exact old hy
                  | quiet => rw [hkj] at q1; simp only at q1; have e9 : (S (j + 1)).hs = (S j).hs := by rw [q2, q1.2]
                             rw [e9] at hy; exact old hy
                  | move =>
                    rw [hkj] at q1; simp only at q1
                    have e9 : (S (j + 1)).hs = (S j).hs ++ [(h2, Nat.lor (S j).fl (msk ops j))] := by rw [q2, q1.2]
                    rw [e9] at hy
                    exact new_ _ (by rw [q2, q1.2]; exact Nat.le_refl _) hy
                · have e9 : (S (j + 1)).hs = if isMove (kdOf P ops[j].op) then (S j).hs ++ [((S j).h, (S j).fl)] else (S j).hs := by rw [q2]
                  rw [e9] at hy
                  split at hy
                  · exact new_ _ hm hy
                  · exact old hy
            exact key ops.size (Nat.le_refl _) _ x hx
          exact relAt hx (fun e he => ⟨he, (R.qt_id (Nat.le_refl _) e he).1⟩) hxn hlimN.1
      obtain ⟨H, h2, hev2, hrel⟩ := core
      rw [hev] at hev2
      obtain ⟨_, rdd⟩ := evOp_read hk hev2
      obtain ⟨dst, op, ty, pos, after, gd⟩ := o
      refine (rdd Φ τ F w dst ty pos after gd hF hrel).mono ?_ fun _ _ h => h
      rintro y w' ⟨rfl, hv⟩
      refine ⟨Φ, τ, I.upd R K hs ho hi I.tw (Sub.refl _) (fun j hj hne hl => I.fre j hj hl) (fun t ht hd => ?_) ?_ ?_⟩
      · rw [e2 t hd ht]; exact hv
      · rw [hmv]; exact I.rel
      · rw [hmv]
        intro x hx e he hl
        rcases hl with hl | hl
        · obtain ⟨_, o', _, _, ho', hk', _⟩ := R.qt _ (Nat.le_refl _) e he
          rw [hl, ho] at ho'; cases ho'
          rw [hk] at hk'; cases hk'
        · exact I.qs x hx e he hl
    | quiet =>
      have hmv : isMv P ops i = false := by rw [isMv_at ho, hk]; rfl
      rw [hk] at g1; simp only at g1
      obtain ⟨g1, hs1⟩ := g1
      have g1' := g1
      rw [hev] at g1
      obtain ⟨b, hb, hh, qt⟩ := evOp_quiet hk g1
      have hni : (S (i + 1)).h.n = (S i).h.n + 1 := by rw [g2, hs1, hh]
      have hfr : Φ (S i).h.n = none := I.fre i hiN hi _ (Nat.le_refl _) (by omega)
      obtain ⟨dst, op, ty, pos, after, gd⟩ := o
      refine (qt Φ F w dst ty pos after gd hF hfr).mono ?_ fun _ _ h => h
      rintro y w' ⟨kk, O, wn, hv, nb⟩
      have hsub : Sub Φ (ext Φ (S i).h.n ⟨w.heap.size, 0, kk⟩) := Sub.ext hfr
      have hkeep : ∀ g, g < w.heap.size → w'.heap[g]? = w.heap[g]? ∧ (if g = w.heap.size then (if b.ro then Lab.ro else Lab.own (S i).h.n) else τ g) = τ g := fun g hg => ⟨wn.old g hg, if_neg (by omega)⟩
      refine ⟨_, fun g => if g = w.heap.size then (if b.ro then Lab.ro else Lab.own (S i).h.n) else τ g, I.upd R K hs ho hi ?_ hsub ?_ ?_ ?_ ?_⟩
      · refine ⟨wn.os.trans I.tw.os, wn.tape.trans I.tw.tape, wn.output.trans I.tw.output, by rw [wn.size]; have := I.tw.size; omega, I.tw.sub.trans hsub, ?_, ?_⟩
        · intro id hid
          rw [← I.tw.same id hid]
          unfold ext
          rw [if_neg (by omega)]
        · intro g hg hkp
          obtain ⟨k1, k2⟩ := I.tw.keep g hg hkp
          obtain ⟨k3, k4⟩ := hkeep g (Nat.lt_of_lt_of_le hg I.tw.size)
          exact ⟨k3.trans k1, k4.trans k2⟩
      · intro j hj hne hl id h1 h2
        have := I.fre j hj hl id h1 h2
        unfold ext
        rw [if_neg]
        · exact this
        · rintro rfl
          exact R.apart hiN hj (fun e => hne e.symm) (Nat.le_refl _) (by omega) ⟨h1, h2⟩
      · intro t ht hd
        rw [g2]; simp only; rw [setv ht hd]; exact hv
      · rw [hmv]
        intro x hx
        exact (I.rel x hx).kept hsub hkeep
      · rw [hmv]
        intro x hx e he hl htb b' hb'
        rcases hl with hl | hl
        · -- its own block
          obtain ⟨he0, oq, vq, bq, hoq, hkq, hwq, hevq, hidq, hbq, _, _⟩ := R.qt _ (Nat.le_refl _) e he
          rw [hl, ho] at hoq; cases hoq
          rw [hl] at hevq hidq
          rw [g1'] at hevq
          have h9 := (ok_inj hevq).2
          rw [hh] at h9
          have h10 := congrArg Hp.t h9
          have h11 : get5 (S i).h.n (set5 (S i).h.n (some b) (S i).h.t) = get5 (S i).h.n (set5 (S i).h.n (some bq) (S i).h.t) := by
            have : set5 (S i).h.n (some b) (S i).h.t = set5 (S i).h.n (some bq) (S i).h.t := h10
            rw [this]
          rw [get5_set5 _ _ _ _ hb hb, get5_set5 _ _ _ _ hb hb, if_pos rfl, if_pos rfl] at h11
          cases h11
          rw [hbq] at hb'
          cases hb'
          rw [hidq]
          exact nb _ _ _ hsub (ext_at _ _ _) wn.new_ (if_pos rfl)
        · obtain ⟨en, _, hlt, _, k⟩ := (I.qs x hx e he hl htb b' hb').at_
          exact k hsub (hkeep _ hlt).1 (hkeep _ hlt).2
    | move =>
      have hmv : isMv P ops i = true := by rw [isMv_at ho, hk]; rfl
      have hcc := cnt_mover K hs hc ho hi hp hmv
      rw [hk] at g1; simp only at g1
      obtain ⟨g1, hs1⟩ := g1
      rw [hev] at g1
      obtain ⟨gw, sop⟩ := evOp_s R.cs g1
      have gw := gw hlimi.1
      have hn1 : (S (i + 1)).h = h' := by rw [g2, hs1]
      have hlatC : (S ops.size).hs[cnt P ops L]? = some (hlx, (S i).fl) := by rw [hcc]; exact hlatN
      have hrelE : Rel Φ τ ⟨flush (S i).qt (msk ops i) (S i).fl (S i).h.t, (S i).h.n⟩ w := by
        have := relAt hlatC (qt := (S i).qt) (m := (S i).h.n) (fun e he => ⟨hqN e he, (R.qt_id (by omega) e he).1⟩) hln hlimi.1
        rw [hlt]; exact this
      have hqb : ∀ e ∈ (S i).qt, e.2.1 < big5 := fun e he => (R.qt_id (by omega) e he).2.1
      have hnone := R.none_ hfin ops.size (Nat.le_refl _) _ _ hlatN
      obtain ⟨dst, op, ty, pos, after, gd⟩ := o
      refine (sop Φ τ F w dst ty pos after gd hF hrelE (by rw [← hn1]; exact I.fre i hiN hi)).mono ?_ fun _ _ h => h
      rintro y w' ⟨Φ', τ', hv, hrel', tw'⟩
      have hnew : (S ops.size).hs[cnt P ops L + 1]? = some (h', Nat.lor (S i).fl (msk ops i)) := by
        refine (R.hs_pre (i + 1) ops.size (by omega) (Nat.le_refl _)).1 _ _ ?_
        have e9 : (S (i + 1)).hs = (S i).hs ++ [(h', Nat.lor (S i).fl (msk ops i))] := by rw [g2, hs1]
        rw [e9, hcc, List.getElem?_append_right (by omega), hhl, Nat.sub_self]; rfl
      have hnN : h'.n ≤ (S ops.size).h.n := by rw [← hn1]; exact hmonoN
      refine ⟨Φ', τ', I.upd R K hs ho hi ?_ tw'.sub ?_ ?_ ?_ ?_⟩
      · refine ⟨tw'.os.trans I.tw.os, tw'.tape.trans I.tw.tape, tw'.output.trans I.tw.output, Nat.le_trans I.tw.size tw'.size, I.tw.sub.trans tw'.sub, ?_, ?_⟩
        · intro id hid
          rw [tw'.same id (fun hh => hid ⟨Nat.le_trans hlimi.2 hh.1, Nat.lt_of_lt_of_le hh.2 hnN⟩), I.tw.same id hid]
        · intro g hg hkp
          obtain ⟨k1, k2⟩ := I.tw.keep g hg hkp
          obtain ⟨k3, k4⟩ := tw'.keep g (Nat.lt_of_lt_of_le hg I.tw.size) (fun id e => by
            rw [k2] at e
            obtain ⟨z1, z2⟩ := hkp id e
            refine ⟨fun hid => ?_, fun hh => z2 ⟨Nat.le_trans hlimi.2 hh.1, Nat.lt_of_lt_of_le hh.2 hnN⟩⟩
            have hid : id < (S i).h.n := hid
            have hidh : id < h.n := by
              rcases Nat.lt_or_ge id h.n with hl | hl
              · exact hl
              · exact absurd ⟨hl, by omega⟩ z2
            show get5 id (flush (S i).qt (msk ops i) (S i).fl (S i).h.t) = none
            rcases fl_get (a := msk ops i) (fl := (S i).fl) (t := (S i).h.t) (id := id) (by have := R.lim; omega) (S i).qt hqb with ⟨q1, _⟩ | ⟨e', q1, q2, _⟩
            · rw [q1, hlt]; exact hnone.2 id hidh (z1 hidh)
            · have := (R.qt_id (by omega) e' q1).2.2
              omega)
          exact ⟨k3.trans k1, k4.trans k2⟩
      · intro j hj hne hl id h1 h2
        rw [tw'.same id (fun hh => R.apart hj hiN hne h1 h2 ⟨hh.1, by rw [hn1]; exact hh.2⟩)]
        exact I.fre j hj hl id h1 h2
      · intro t ht hd
        rw [g2]; simp only; rw [setv ht hd]; exact hv
      · rw [hmv]
        intro x hx
        simp only [if_true] at hx
        rw [hnew] at hx; cases hx
        exact hrel'
      · rw [hmv]
        intro x hx e he hl htb b' hb'
        simp only [if_true] at hx
        rw [hnew] at hx; cases hx
        simp only at htb
        rw [tb_lor] at htb
        obtain ⟨t1, t2⟩ := Bool.or_eq_false_iff.1 htb
        obtain ⟨he0, oq, vq, bq, hoq, hkq, _, _, hidq, _, hnq, hbq⟩ := R.qt _ (Nat.le_refl _) e he
        have hne : e.1 ≠ i := by
          intro e1
          rw [e1, ho] at hoq; cases hoq
          rw [hk] at hkq; cases hkq
        have hl : L.getD e.1 false = true := hl.resolve_left hne
        have hnoq := hnone.1 e he t1
        obtain ⟨en, _, hlt2, hlab, kk⟩ := (I.qs _ hlatC e he hl t1 b' hb').at_
        have hkp := tw'.keep en.g hlt2 (fun id e9 => by
          rw [hlab] at e9
          split at e9
          · cases e9
          · cases e9
            refine ⟨fun _ => ?_, fun hh => R.apart he0 hiN hne (by omega) (by omega) ⟨hh.1, by rw [hn1]; exact hh.2⟩⟩
            show get5 e.2.1 (flush (S i).qt (msk ops i) (S i).fl (S i).h.t) = none
            rcases fl_get (a := msk ops i) (fl := (S i).fl) (t := (S i).h.t) (id := e.2.1) (by omega) (S i).qt hqb with ⟨q1, _⟩ | ⟨e', q1, q2, q3, q4, _⟩
            · rw [q1, hlt]; exact hnoq
            · have := R.one (Nat.le_refl _) (hqN e' q1) he q2
              rw [this] at q3
              rw [q3] at t2; cases t2)
        exact kk tw'.sub hkp.1 hkp.2
  · -- not wanted
    have hwant := frmWant R K I hs hc ho hi hp hw
    unfold OpSt
    rw [if_neg (by rw [hwant]; simp)]
    refine ⟨Φ, τ, I.upd R K hs ho hi I.tw (Sub.refl _) (fun j hj hne hl => I.fre j hj hl) (fun t ht hd => ?_) ?_ ?_⟩
    · rw [g2]; simp only; rw [setv ht hd]; simp only [Rv, RvL]; exact ⟨[], rfl, rfl⟩
    · cases hmv : isMv P ops i with
      | false => exact I.rel
      | true =>
        have hcc := cnt_mover K hs hc ho hi hp hmv
        have hnew : (S ops.size).hs[cnt P ops L + 1]? = some ((S i).h, (S i).fl) := by
          refine (R.hs_pre (i + 1) ops.size (by omega) (Nat.le_refl _)).1 _ _ ?_
          have hm2 : isMove (kdOf P o.op) = true := by rw [← isMv_at (P := P) ho]; exact hmv
          have e9 : (S (i + 1)).hs = (S i).hs ++ [((S i).h, (S i).fl)] := by rw [g2]; simp only; rw [if_pos hm2]
          rw [e9, hcc, List.getElem?_append_right (by omega), hhl, Nat.sub_self]; rfl
        intro x hx
        simp only [if_true] at hx
        rw [hnew] at hx; cases hx
        have r0 := I.rel (hlx, (S i).fl) (by rw [hcc]; exact hlatN)
        refine ⟨hlimi.1, fun id b hid hb => ?_, fun id hid h5 => ?_⟩
        · have hid : id < (S i).h.n := hid
          have hb : get5 id (S i).h.t = some b := hb
          rw [hlt] at hb
          rcases Nat.lt_or_ge id hlx.n with hl | hl
          · exact r0.blk id b hl hb
          · rw [r0.fin id hl (by omega)] at hb; cases hb
        · show get5 id (S i).h.t = none
          rw [hlt]; exact r0.fin id (Nat.le_trans hln hid) h5
    · intro x hx e he hl htb b' hb'
      have hq : e.1 = i → False := by
        intro e1
        obtain ⟨_, o', _, _, ho', _, hwq, _⟩ := R.qt _ (Nat.le_refl _) e he
        rw [e1, ho] at ho'; cases ho'
        rw [e1, hw] at hwq; cases hwq
      have hl : L.getD e.1 false = true := hl.resolve_left hq
      cases hmv : isMv P ops i with
      | false => rw [hmv] at hx; exact I.qs x hx e he hl htb b' hb'
      | true =>
        rw [hmv] at hx
        have hcc := cnt_mover K hs hc ho hi hp hmv
        have hnew : (S ops.size).hs[cnt P ops L + 1]? = some ((S i).h, (S i).fl) := by
          refine (R.hs_pre (i + 1) ops.size (by omega) (Nat.le_refl _)).1 _ _ ?_
          have hm2 : isMove (kdOf P o.op) = true := by rw [← isMv_at (P := P) ho]; exact hmv
          have e9 : (S (i + 1)).hs = (S i).hs ++ [((S i).h, (S i).fl)] := by rw [g2]; simp only; rw [if_pos hm2]
          rw [e9, hcc, List.getElem?_append_right (by omega), hhl, Nat.sub_self]; rfl
        simp only [if_true] at hx
        rw [hnew] at hx; cases hx
        exact I.qs (hlx, (S i).fl) (by rw [hcc]; exact hlatN) e he hl htb b' hb'
end
end
end Go.Ev
