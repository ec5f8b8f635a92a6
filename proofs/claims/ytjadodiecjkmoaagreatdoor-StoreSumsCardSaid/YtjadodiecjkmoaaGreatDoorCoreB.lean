/-
  A statement whose order of evaluation is open: its operations but the last ones may come in any order that their edges allow; each leaves a fact that the others keep.
-/
import Derived.Test.YtjadodiecjkmoaaGreatDoorCoreA
import Derived.Orders
import Derived.OrdersIn
namespace Go.Wf
set_option linter.unusedVariables false
set_option linter.unusedSimpArgs false
open Go

def dstOf (ops : Array Oper) (j : Nat) : Nat := ((ops[j]?).bind (·.dst)).getD 0
def directB (ops : Array Oper) (j k : Nat) : Bool := ((ops[k]?).map fun o => o.after.any fun e => Region.binds .any e && e.on == j).getD false
/-- j comes before k, by at most the given number of edges. -/
def ancB (ops : Array Oper) : Nat → Nat → Nat → Bool
  | 0, _, _ => false
  | n + 1, j, k => directB ops j k || ((ops[k]?).map fun o => o.after.any fun e => Region.binds .any e && ancB ops n j e.on).getD false
def Keep (ds : List Nat) (f0 f : Fr) : Prop := ∀ t, ds.contains t = false → f t = f0 t
def noG {σ : Type} : σ → Value → World → Prop := fun _ _ _ => True
def Deps {σ : Type} (ops : Array Oper) (Gl : List (σ → Value → World → Prop)) (f : Fr) (s : σ) (w : World) : List Nat → Prop
  | [] => True
  | j :: r => (Gl.getD j noG) s (f (dstOf ops j)) w ∧ Deps ops Gl f s w r
def OpSt (P : Program) (ops : Array Oper) (f : Fr) (o : Oper) (w : World) (K : Value → World → Prop) (Kp : List PanicEntry → World → Prop) : Prop :=
  if Region.wanted o (yieldedF ops f) then St P (fe f) o w K Kp else K undef w
def Steps {σ : Type} (P : Program) (ops : Array Oper) (Q : Post) (R : σ → World → σ → World → Prop) (Gl : List (σ → Value → World → Prop)) (f0 : Fr) (s0 : σ) (w0 : World) (ds : List Nat) : List Oper → List (List Nat) → Nat → Prop
  | o :: l, d :: dl, k =>
    (∀ f s w, R s0 w0 s w → Keep ds f0 f → Deps ops Gl f s w d → OpSt P ops f o w (fun v w' => ∃ s', R s w s' w' ∧ (Gl.getD k noG) s' v w') (fun ch w' => ∀ f, Q (.panic ch) f w')) ∧
      Steps P ops Q R Gl f0 s0 w0 ds l dl (k + 1)
  | _, _, _ => True
def Stable {σ : Type} (R : σ → World → σ → World → Prop) : List (σ → Value → World → Prop) → Prop
  | [] => True
  | g :: r => (∀ v s w s' w', g s v w → R s w s' w' → g s' v w') ∧ Stable R r
def prefixDs (ops : Array Oper) (m : Nat) : List Nat := (ops.toList.take m).filterMap (·.dst)

/-- What a computation must find of the region. -/
def drawOk (ops : Array Oper) (m n : Nat) (dl : List (List Nat)) : Bool :=
  let N := ops.size
  m ≤ N && dl.length == m &&
  (ops.toList.all fun o => match o.dst with | some d => d < n | none => true) &&
  ((List.range N).all fun k => ((ops[k]?).map fun o => o.after.all fun e => !Region.binds .any e || e.on < k).getD false) &&
  ((List.range m).all fun k => (dl.getD k []).all fun j => ancB ops N j k && j < m) &&
  ((List.range N).all fun k => k < m || (List.range k).all fun j => ancB ops N j k) &&
  ((List.range m).all fun k => ((ops[k]?).bind (·.dst)).isSome && (List.range m).all fun j => j == k || dstOf ops j != dstOf ops k)

section
variable {fc : Fence} [Fw fc] {P : Program} {ops : Array Oper} {n : Nat} {D : List Deferred} {Q : Post} {f0 : Fr} {w0 : World}

def closedL (ops : Array Oper) (L : Array Bool) : Prop := ∀ k, k < ops.size → L.getD k true = true → ∀ o, ops[k]? = some o → ∀ e ∈ o.after, Region.binds .any e = true → L.getD e.on false = true

theorem anc_listed {L : Array Bool} (hs : L.size = ops.size) (hc : closedL ops L) : ∀ fuel j k, k < ops.size →
    (∀ o, ops[k]? = some o → ∀ e ∈ o.after, Region.binds .any e = true → L.getD e.on false = true) → ancB ops fuel j k = true → L.getD j false = true := by
  intro fuel
  induction fuel with
  | zero => intro j k _ _ h; simp [ancB] at h
  | succ fuel ih =>
    intro j k hk hd h
    obtain ⟨o, ho⟩ : ∃ o, ops[k]? = some o := ⟨ops[k], by simp [hk]⟩
    simp only [ancB, directB, ho, Option.map_some, Option.getD_some, Bool.or_eq_true, Array.any_eq_true', Bool.and_eq_true, beq_iff_eq] at h
    rcases h with ⟨e, he, hb, rfl⟩ | ⟨e, he, hb, hanc⟩
    · exact hd o ho e he hb
    · have hl := hd o ho e he hb
      have hlt : e.on < ops.size := by
        rcases Nat.lt_or_ge e.on L.size with h | h
        · omega
        · simp [Array.getD_eq_getD_getElem?, Array.getElem?_eq_none h] at hl
      refine ih j e.on hlt ?_ hanc
      intro o' ho' e' he' hb'
      refine hc e.on hlt ?_ o' ho' e' he' hb'
      simp only [Array.getD_eq_getD_getElem?] at hl ⊢
      have : L[e.on]? = some L[e.on] := by simp [hs, hlt]
      rw [this] at hl ⊢; exact hl

def unl (N : Nat) (L : Array Bool) : Nat := (List.range N).countP fun i => !L.getD i true

theorem countP_set (l : List Nat) (hn : l.Nodup) (p q : Nat → Bool) (i : Nat) (hi : i ∈ l) (hp : p i = true) (hq : q i = false) (h : ∀ j, j ≠ i → q j = p j) : l.countP p = l.countP q + 1 := by
  induction l with
  | nil => cases hi
  | cons x l ih =>
    obtain ⟨hx, hn'⟩ := List.nodup_cons.1 hn
    by_cases e : x = i
    · subst e
      have : l.countP p = l.countP q := by
        apply List.countP_congr
        intro y hy
        have : y ≠ x := fun e => hx (e ▸ hy)
        rw [h y this]
      rw [List.countP_cons_of_pos hp, List.countP_cons_of_neg (by simp [hq]), this]
    · have hi' : i ∈ l := by cases hi with | head => exact absurd rfl e | tail _ h => exact h
      have := ih hn' hi'
      rw [List.countP_cons, List.countP_cons, h x e, this]
      omega

theorem unl_set {N : Nat} {L : Array Bool} (hs : L.size = N) {i : Nat} (hi : i < N) (hf : L.getD i true = false) : unl N L = unl N (L.setIfInBounds i true) + 1 := by
  refine countP_set _ List.nodup_range _ _ i (by simpa using hi) (by simp [hf]) ?_ ?_
  · simp [Array.getD_eq_getD_getElem?, hs, hi]
  · intro j hj
    have : ¬ i = j := fun e => hj e.symm
    simp [Array.getD_eq_getD_getElem?, Array.getElem?_setIfInBounds, this]

theorem unl_zero {N : Nat} {L : Array Bool} (h : unl N L = 0) : ∀ i, i < N → L.getD i true = true := by
  intro i hi
  have := List.countP_eq_zero.1 h i (by simpa using hi)
  simpa using this

theorem ready_mem {L : Array Bool} {i : Nat} : i ∈ Region.ready .any ops L ↔ i < ops.size ∧ L.getD i true = false ∧ ∃ o, ops[i]? = some o ∧ ∀ e ∈ o.after, Region.binds .any e = true → L.getD e.on false = true := by
  unfold Region.ready
  simp only [List.mem_filter, List.mem_range, Bool.and_eq_true, Bool.not_eq_true']
  constructor
  · rintro ⟨h1, h2, h3⟩
    refine ⟨h1, h2, ops[i], by simp [h1], ?_⟩
    have ho : ops[i]? = some ops[i] := by simp [h1]
    rw [ho] at h3
    simp only [Option.map_some, Option.getD_some, Array.all_eq_true'] at h3
    intro e he hb
    have := h3 e he
    simpa [hb] using this
  · rintro ⟨h1, h2, o, ho, h3⟩
    refine ⟨h1, h2, ?_⟩
    rw [ho]
    simp only [Option.map_some, Option.getD_some, Array.all_eq_true']
    intro e he
    cases hb : Region.binds .any e with
    | false => simp
    | true => simp [h3 e he hb]

structure DrawFacts (ops : Array Oper) (m n : Nat) (dl : List (List Nat)) : Prop where
  le : m ≤ ops.size
  len : dl.length = m
  dst : ∀ (k : Nat) (o : Oper), ops[k]? = some o → lo n o.dst
  back : ∀ (k : Nat) (o : Oper), ops[k]? = some o → ∀ e ∈ o.after, Region.binds .any e = true → e.on < k
  deps : ∀ k, k < m → ∀ j ∈ dl.getD k [], ancB ops ops.size j k = true ∧ j < m
  tail : ∀ k, k < ops.size → m ≤ k → ∀ j, j < k → ancB ops ops.size j k = true
  some : ∀ k, k < m → ((ops[k]?).bind (·.dst)).isSome = true
  apart : ∀ k, k < m → ∀ j, j < m → j ≠ k → dstOf ops j ≠ dstOf ops k

theorem drawOk_facts {m : Nat} {dl : List (List Nat)} (h : drawOk ops m n dl = true) : DrawFacts ops m n dl := by
  simp only [drawOk, Bool.and_eq_true, decide_eq_true_eq, beq_iff_eq, List.all_eq_true, List.mem_range, Bool.or_eq_true, bne_iff_ne] at h
  obtain ⟨⟨⟨⟨⟨⟨h1, h2⟩, h3⟩, h4⟩, h5⟩, h6⟩, h7⟩ := h
  refine ⟨h1, h2, ?_, ?_, fun k hk j hj => by have := h5 k hk j hj; exact this, ?_, fun k hk => (h7 k hk).1, ?_⟩
  · intro k o ho
    have hm : o ∈ ops.toList := by
      have := Array.getElem?_eq_some_iff.1 ho
      obtain ⟨hk, rfl⟩ := this
      simp
    have := h3 o hm
    unfold lo
    cases hd : o.dst with
    | none => trivial
    | some d => rw [hd] at this; simpa using this
  · intro k o ho e he hb
    have hk := (Array.getElem?_eq_some_iff.1 ho).1
    have := h4 k hk
    rw [ho] at this
    simp only [Option.map_some, Option.getD_some, Array.all_eq_true'] at this
    have := this e he
    simpa [hb] using this
  · intro k hk hm j hj
    rcases h6 k hk with h | h
    · omega
    · exact h j hj
  · intro k hk j hj hne
    rcases (h7 k hk).2 j hj with h | h
    · exact absurd h hne
    · exact h

/-- one operation, the wp of the model -/
theorem wpOp_of {i : Nat} {o : Oper} {a : Act} {w : World} {K : Act → World → Prop} {Kv : Value → World → Prop} {Kp : List PanicEntry → World → Prop}
    (ho : ops[i]? = some o) (ha : Good n D a)
    (h : OpSt P ops (frOf a) o w Kv Kp) (hk : ∀ v w', Kv v w' → K (a.put o.dst v) w') (hp : ∀ c w', Kp c w' → Q (.panic c) (frOf a) w') :
    wpOpIn fc 0 P ops (fun e a' w' => Good n D a' ∧ Q e (frOf a') w') i K a w := by
  unfold wpOpIn
  rw [ho]
  have hy : yielded ops a.tmps = yieldedF ops (frOf a) := funext (yielded_eq ops a)
  simp only [hy]
  unfold OpSt at h
  split at h <;> rename_i hw
  · rw [if_pos hw]
    exact upon_of_St ha h hk (fun c w' q => ⟨ha, hp c w' q⟩)
  · rw [if_neg hw]; exact ⟨fun f _ => Fw.fn f, hk _ _ h⟩

theorem tail_wp {m : Nat} {dl : List (List Nat)} (F : DrawFacts ops m n dl) : ∀ (fuel k : Nat) (L : Array Bool) (a : Act) (w : World), m ≤ k → k + fuel = ops.size → L.size = ops.size →
    (∀ i, i < ops.size → (L.getD i true = true ↔ i < k)) → Good n D a → Sq P ops n Q (ops.toList.drop k) (frOf a) w →
    wpAnyIn fc 0 P .any ops (fun e a' w' => Good n D a' ∧ Q e (frOf a') w') fuel L a w := by
  intro fuel
  have bridge : ∀ (L : Array Bool), L.size = ops.size → ∀ i, i < ops.size → L.getD i false = L.getD i true := by
    intro L hs i hi
    have : L[i]? = some L[i] := by simp [hs, hi]
    simp [Array.getD_eq_getD_getElem?, this]
  induction fuel with
  | zero =>
    intro k L a w hm hk hs hL ha h
    refine ⟨?_, ?_⟩
    · rw [List.eq_nil_iff_forall_not_mem]
      intro i hi
      obtain ⟨h1, h2, _⟩ := ready_mem.1 hi
      have := (hL i h1).2 (by omega)
      rw [this] at h2; cases h2
    · rw [List.drop_of_length_le (by simp; omega)] at h
      exact ⟨ha, h⟩
  | succ fuel ih =>
    intro k L a w hm hk hs hL ha h
    have hkN : k < ops.size := by omega
    have hok : ops[k]? = some ops[k] := by simp [hkN]
    have hdr : ops.toList.drop k = ops[k] :: ops.toList.drop (k + 1) := by
      rw [List.drop_eq_getElem_cons (by simpa using hkN)]; simp
    rw [hdr] at h
    have hrk : k ∈ Region.ready .any ops L := by
      refine ready_mem.2 ⟨hkN, ?_, ops[k], hok, ?_⟩
      · cases hb : L.getD k true with
        | false => rfl
        | true => have := (hL k hkN).1 hb; omega
      · intro e he hb
        have hlt := F.back k _ hok e he hb
        rw [bridge L hs _ (by omega)]
        exact (hL _ (by omega)).2 hlt
    refine ⟨(fun hnil => by rw [hnil] at hrk; cases hrk), ?_⟩
    intro i hi
    obtain ⟨h1, h2, o, ho, h3⟩ := ready_mem.1 hi
    have hik : i = k := by
      have hge : k ≤ i := by
        rcases Nat.lt_or_ge i k with hl | hl
        · rw [(hL i h1).2 hl] at h2; cases h2
        · exact hl
      rcases Nat.eq_or_lt_of_le hge with e | hlt
      · exact e.symm
      · exfalso
        have hc : closedL ops L := by
          intro k' hk' hl o' ho' e' he' hb'
          have hlt' := F.back k' _ ho' e' he' hb'
          rw [bridge L hs _ (by omega)]
          have := (hL k' hk').1 hl
          exact (hL _ (by omega)).2 (by omega)
        have := anc_listed hs hc ops.size k i h1 (fun o' ho' => by rw [ho] at ho'; cases ho'; exact h3) (F.tail i h1 (by omega) k hlt)
        rw [bridge L hs k hkN] at this
        have := (hL k hkN).1 this
        omega
    subst hik
    simp only [Sq] at h
    obtain ⟨hlo, h⟩ := h
    refine wpOp_of (Kv := fun v w' => Sq P ops n Q (ops.toList.drop (i + 1)) (updO (frOf a) ops[i].dst v) w') (Kp := fun ch w' => Q (.panic ch) (frOf a) w') hok ha h ?_ (fun _ _ q => q)
    intro v w' hk'
    refine ih (i + 1) _ _ _ (by omega) (by omega) (by simp [hs]) ?_ (ha.put _ _) (by rw [frOf_put ha _ hlo]; exact hk')
    intro j hj
    rw [Array.getD_eq_getD_getElem?, Array.getElem?_setIfInBounds]
    by_cases e : i = j
    · subst e; simp [hs, hkN]
    · have := hL j hj
      rw [Array.getD_eq_getD_getElem?] at this
      simp only [e, if_false]
      rw [this]; omega

theorem Deps.of {σ : Type} {Gl : List (σ → Value → World → Prop)} {f : Fr} {s : σ} {w : World} : ∀ (d : List Nat), (∀ j ∈ d, (Gl.getD j noG) s (f (dstOf ops j)) w) → Deps ops Gl f s w d := by
  intro d
  induction d with
  | nil => intro _; trivial
  | cons j r ih => intro h; exact ⟨h j (by simp), ih fun i hi => h i (by simp [hi])⟩

theorem Stable.at {σ : Type} {R : σ → World → σ → World → Prop} : ∀ (Gl : List (σ → Value → World → Prop)), Stable R Gl → ∀ j v s w s' w', (Gl.getD j noG) s v w → R s w s' w' → (Gl.getD j noG) s' v w' := by
  intro Gl
  induction Gl with
  | nil => intro _ j v s w s' w' _ _; simp [List.getD, noG]
  | cons g r ih =>
    intro h j v s w s' w' hg hr
    cases j with
    | zero => exact h.1 v s w s' w' hg hr
    | succ j => exact ih h.2 j v s w s' w' hg hr

theorem Steps.at {σ : Type} {s0 : σ} {R : σ → World → σ → World → Prop} {Gl : List (σ → Value → World → Prop)} {ds : List Nat} : ∀ (l : List Oper) (dl : List (List Nat)) (k : Nat), Steps P ops Q R Gl f0 s0 w0 ds l dl k →
    ∀ i o, l[i]? = some o → i < dl.length → ∀ f s w, R s0 w0 s w → Keep ds f0 f → Deps ops Gl f s w (dl.getD i []) →
      OpSt P ops f o w (fun v w' => ∃ s', R s w s' w' ∧ (Gl.getD (k + i) noG) s' v w') (fun ch w' => ∀ f, Q (.panic ch) f w') := by
  intro l
  induction l with
  | nil => intro dl k _ i o h; simp at h
  | cons x l ih =>
    intro dl k hst i o ho hi
    cases dl with
    | nil => simp at hi
    | cons d dl =>
      cases i with
      | zero => simp at ho; subst ho; exact hst.1
      | succ i =>
        have := ih dl (k + 1) hst.2 i o (by simpa using ho) (by simpa using hi)
        intro f s w h1 h2 h3
        have := this f s w h1 h2 (by simpa using h3)
        rw [show k + (i + 1) = k + 1 + i by omega]
        exact this

theorem OpSt.mono {f : Fr} {o : Oper} {w : World} {K K' : Value → World → Prop} {Kp Kp' : List PanicEntry → World → Prop} (h : OpSt P ops f o w K Kp) (hk : ∀ v w, K v w → K' v w)
    (hp : ∀ c w, Kp c w → Kp' c w) : OpSt P ops f o w K' Kp' := by
  unfold OpSt at *
  split at h
  · rename_i hw; rw [if_pos hw]; exact h.mono hk hp
  · rename_i hw; rw [if_neg hw]; exact hk _ _ h

theorem draw_wp {σ : Type} {s0 : σ} {m : Nat} {dl : List (List Nat)} (F : DrawFacts ops m n dl) {R : σ → World → σ → World → Prop} {Gl : List (σ → Value → World → Prop)}
    (htr : ∀ s a t b u c, R s a t b → R t b u c → R s a u c) (hG : Stable R Gl)
    (hst : Steps P ops Q R Gl f0 s0 w0 (prefixDs ops m) ops.toList dl 0)
    (htail : ∀ f s w, R s0 w0 s w → Keep (prefixDs ops m) f0 f → Deps ops Gl f s w (List.range m) → Sq P ops n Q (ops.toList.drop m) f w) :
    ∀ (fuel : Nat) (L : Array Bool) (a : Act) (s : σ) (w : World), unl ops.size L = fuel → L.size = ops.size → closedL ops L →
      (∀ i, i < ops.size → m ≤ i → L.getD i true = false) → Good n D a → R s0 w0 s w → Keep (prefixDs ops m) f0 (frOf a) →
      (∀ j, j < m → L.getD j true = true → (Gl.getD j noG) s (frOf a (dstOf ops j)) w) →
      wpAnyIn fc 0 P .any ops (fun e a' w' => Good n D a' ∧ Q e (frOf a') w') fuel L a w := by
  intro fuel
  have bridge : ∀ (L : Array Bool), L.size = ops.size → ∀ i, i < ops.size → L.getD i false = L.getD i true := by
    intro L hs i hi
    have : L[i]? = some L[i] := by simp [hs, hi]
    simp [Array.getD_eq_getD_getElem?, this]
  have done : ∀ (L : Array Bool) (a : Act) (s : σ) (w : World), unl ops.size L = ops.size - m → L.size = ops.size → (∀ i, i < m → L.getD i true = true) →
      (∀ i, i < ops.size → m ≤ i → L.getD i true = false) → Good n D a → R s0 w0 s w → Keep (prefixDs ops m) f0 (frOf a) →
      (∀ j, j < m → L.getD j true = true → (Gl.getD j noG) s (frOf a (dstOf ops j)) w) →
      wpAnyIn fc 0 P .any ops (fun e a' w' => Good n D a' ∧ Q e (frOf a') w') (ops.size - m) L a w := by
    intro L a s w _ hs hall hno ha hR hK hg
    refine tail_wp F (ops.size - m) m L a w (Nat.le_refl _) (by have := F.le; omega) hs ?_ ha (htail _ _ _ hR hK (Deps.of _ fun j hj => hg j (by simpa using hj) (hall j (by simpa using hj))))
    intro i hi
    constructor
    · intro h
      rcases Nat.lt_or_ge i m with hl | hl
      · exact hl
      · rw [hno i hi hl] at h; cases h
    · intro h; exact hall i h
  have cnt : ∀ (L : Array Bool), (∀ i, i < m → L.getD i true = true) → (∀ i, i < ops.size → m ≤ i → L.getD i true = false) → unl ops.size L = ops.size - m := by
    intro L h1 h2
    have hle := F.le
    have : ∀ N, m ≤ N → N ≤ ops.size → unl N L = N - m := by
      intro N hN
      induction N with
      | zero => intro _; simp [unl]
      | succ N ih =>
        intro hNs
        simp only [unl, List.range_succ, List.countP_append, List.countP_singleton]
        rcases Nat.eq_or_lt_of_le hN with e | hlt
        · have : unl N L = 0 := by
            refine List.countP_eq_zero.2 ?_
            intro i hi
            have hi' : i < N := by simpa using hi
            simp [h1 i (by omega)]
          unfold unl at this
          rw [this, h1 N (by omega)]
          simp; omega
        · have := ih (by omega) (by omega)
          unfold unl at this
          rw [this, h2 N (by omega) (by omega)]
          simp; omega
    exact this ops.size hle (Nat.le_refl _)
  induction fuel with
  | zero =>
    intro L a s w hu hs hc hno ha hR hK hg
    have hall := unl_zero hu
    have hall' : ∀ i, i < m → L.getD i true = true := fun i hi => hall i (by have := F.le; omega)
    have hu' := cnt L hall' hno
    have := done L a s w hu' hs hall' hno ha hR hK hg
    rw [hu'.symm, hu] at this
    exact this
  | succ fuel ih =>
    intro L a s w hu hs hc hno ha hR hK hg
    by_cases hall : ∀ i, i < m → L.getD i true = true
    · have hu' := cnt L hall hno
      have := done L a s w hu' hs hall hno ha hR hK hg
      rw [hu'.symm, hu] at this
      exact this
    · -- some operation of the first ones is still to come
      have hex : ∃ i, i < m ∧ L.getD i true = false := by
        refine Classical.byContradiction fun hn => hall fun i hi => ?_
        cases hb : L.getD i true with
        | true => rfl
        | false => exact absurd ⟨i, hi, hb⟩ hn
      have hmin : ∃ i, i < m ∧ L.getD i true = false ∧ ∀ j, j < i → L.getD j true = true := by
        obtain ⟨i, hi, hb⟩ := hex
        induction i using Nat.strongRecOn with
        | _ i ihh =>
          by_cases h : ∃ j, j < i ∧ L.getD j true = false
          · obtain ⟨j, hj, hjb⟩ := h; exact ihh j hj (by omega) hjb
          · refine ⟨i, hi, hb, fun j hj => ?_⟩
            cases hjb : L.getD j true with
            | true => rfl
            | false => exact absurd ⟨j, hj, hjb⟩ h
      obtain ⟨i0, hi0, hb0, hlow⟩ := hmin
      have hle := F.le
      have hr0 : i0 ∈ Region.ready .any ops L := by
        have hok : ops[i0]? = some ops[i0] := by simp [show i0 < ops.size by omega]
        refine ready_mem.2 ⟨by omega, hb0, ops[i0], hok, ?_⟩
        intro e he hbe
        have hlt := F.back i0 _ hok e he hbe
        rw [bridge L hs _ (by omega)]
        exact hlow _ hlt
      refine ⟨(fun hnil => by rw [hnil] at hr0; cases hr0), ?_⟩
      intro i hi
      obtain ⟨h1, h2, o, ho, h3⟩ := ready_mem.1 hi
      have him : i < m := by
        rcases Nat.lt_or_ge i m with hl | hl
        · exact hl
        · exfalso
          have := anc_listed hs hc ops.size i0 i h1 (fun o' ho' => by rw [ho] at ho'; cases ho'; exact h3) (F.tail i h1 hl i0 (by omega))
          rw [bridge L hs i0 (by omega), hb0] at this
          cases this
      have hdep : Deps ops Gl (frOf a) s w (dl.getD i []) := by
        refine Deps.of _ fun j hj => ?_
        obtain ⟨hanc, hjm⟩ := F.deps i him j hj
        have := anc_listed hs hc ops.size j i h1 (fun o' ho' => by rw [ho] at ho'; cases ho'; exact h3) hanc
        rw [bridge L hs j (by omega)] at this
        exact hg j hjm this
      have hstep := Steps.at ops.toList dl 0 hst i o (by simpa using ho) (by rw [F.len]; exact him) (frOf a) s w hR hK hdep
      rw [Nat.zero_add] at hstep
      have hsome := F.some i him
      rw [ho] at hsome
      have hdi : dstOf ops i = (o.dst).getD 0 := by simp [dstOf, ho]
      obtain ⟨d, hd⟩ := Option.isSome_iff_exists.1 hsome
      simp only [Option.bind_some] at hd
      have hdd : dstOf ops i = d := by rw [hdi, hd]; rfl
      have hlo := F.dst i o ho
      refine wpOp_of (Kv := fun v w' => ∃ s', R s w s' w' ∧ (Gl.getD i noG) s' v w') (Kp := fun ch w' => ∀ f, Q (.panic ch) f w') ho ha hstep ?_ ?_
      · rintro v w' ⟨s', hRR, hgv⟩
        refine ih _ _ s' _ ?_ (by simp [hs]) ?_ ?_ (ha.put _ _) (htr _ _ _ _ _ _ hR hRR) ?_ ?_
        · have := unl_set hs h1 h2; omega
        · intro k hk hl o' ho' e he hb
          rw [Array.getD_eq_getD_getElem?, Array.getElem?_setIfInBounds]
          by_cases e1 : i = e.on
          · subst e1; simp [hs, h1]
          · simp only [e1, if_false]
            rw [← Array.getD_eq_getD_getElem?]
            by_cases e2 : i = k
            · subst e2; rw [ho] at ho'; cases ho'; exact h3 e he hb
            · rw [Array.getD_eq_getD_getElem?, Array.getElem?_setIfInBounds] at hl
              simp only [e2, if_false] at hl
              rw [← Array.getD_eq_getD_getElem?] at hl
              exact hc k hk hl o' ho' e he hb
        · intro k hk hmk
          have : ¬ i = k := by omega
          rw [Array.getD_eq_getD_getElem?, Array.getElem?_setIfInBounds]
          simp only [this, if_false]
          rw [← Array.getD_eq_getD_getElem?]
          exact hno k hk hmk
        · rw [frOf_put ha _ hlo, hd]
          intro t ht
          have htd : t ≠ d := by
            rintro rfl
            have : t ∈ prefixDs ops m := by
              refine List.mem_filterMap.2 ⟨o, ?_, hd⟩
              have h' : ops.toList[i]? = some o := by simpa using ho
              have : (ops.toList.take m)[i]? = some o := by rw [List.getElem?_take, if_pos him]; exact h'
              exact List.mem_of_getElem? this
            have : (prefixDs ops m).contains t = true := by simpa using this
            rw [this] at ht; cases ht
          simp only [updO, upd, htd, if_false]
          exact hK t ht
        · intro j hj hl
          rw [frOf_put ha _ hlo, hd]
          by_cases e : j = i
          · subst e
            rw [hdd]
            simp only [updO, upd, if_true]
            exact hgv
          · have hne : dstOf ops j ≠ d := by rw [← hdd]; exact F.apart i him j hj e
            simp only [updO, upd, hne, if_false]
            have e' : ¬ i = j := fun h => e h.symm
            rw [Array.getD_eq_getD_getElem?, Array.getElem?_setIfInBounds] at hl
            simp only [e', if_false] at hl
            rw [← Array.getD_eq_getD_getElem?] at hl
            exact Stable.at Gl hG j _ s w s' w' (hg j hj hl) hRR
      · intro c w' hq
        exact hq _

theorem W.draw {σ : Type} {id : Nat} (hm : P.follows .mixedOrders = true) (m : Nat) (dl : List (List Nat)) (s0 : σ) (R : σ → World → σ → World → Prop) (Gl : List (σ → Value → World → Prop))
    (chk : drawOk ops m n dl = true) (h0 : R s0 w0 s0 w0.drew) (htr : ∀ s a t b u c, R s a t b → R t b u c → R s a u c) (hG : Stable R Gl)
    (hst : Steps P ops Q R Gl f0 s0 w0 (prefixDs ops m) ops.toList dl 0)
    (htail : ∀ f s w, R s0 w0 s w → Keep (prefixDs ops m) f0 f → Deps ops Gl f s w (List.range m) → Sq P ops n Q (ops.toList.drop m) f w) :
    W fc P (Code.region id ops true) n D Q f0 w0 := by
  intro a ha hf
  have F := drawOk_facts chk
  refine wpIn_region_any hm ?_
  have hz : ∀ i, i < ops.size → (Array.replicate ops.size false).getD i true = false := by
    intro i hi
    simp [Array.getD_eq_getD_getElem?, hi]
  refine draw_wp F htr hG hst htail ops.size _ a s0 _ ?_ (by simp) ?_ (fun i hi _ => hz i hi) ha h0 (fun t _ => by rw [hf]) ?_
  · unfold unl
    have : (List.range ops.size).countP (fun i => !(Array.replicate ops.size false).getD i true) = (List.range ops.size).length := by
      refine List.countP_eq_length.2 ?_
      intro i hi
      simp [hz i (by simpa using hi)]
    rw [this]; simp
  · intro k hk hl
    rw [hz k hk] at hl; cases hl
  · intro j hj hl
    rw [hz j (by have := F.le; omega)] at hl; cases hl
end
end Go.Wf
