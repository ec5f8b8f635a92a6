/-
  What the machine's values and memory mean in a world.
-/
import Derived.Test.YtjadodiecjkmoaaGreatDoorEvB
namespace Go.Ev
set_option linter.unusedVariables false
set_option linter.unusedSimpArgs false
open Go Go.Wf

structure Ent where
  g : Nat
  base : Nat
  k : Nat
inductive Lab | out | ro | own (id : Nat)
abbrev Phi := Nat → Option Ent
abbrev Tau := Nat → Lab
def capOk (cap : Option Nat) (c : Nat) : Prop := match cap with | none => True | some k => c = k
mutual
def Rv (Φ : Phi) : AV → Value → Prop
  | .u, _ => True
  | .b x, v => v = .bool x
  | .i k n, v => v = .int k n
  | .s l, v => (∀ n ∈ l, n < 256) ∧ v = str (l.map UInt8.ofNat)
  | .np, v => v = .pointer none
  | .p id off, v => ∃ e, Φ id = some e ∧ v = .pointer (some ⟨e.g, e.base + off, none⟩)
  | .ns, v => v = .slice none 0 0
  | .sl id off n z cap, v => ∃ e c, Φ id = some e ∧ v = .slice (some ⟨e.g, e.base + off, none⟩) n c ∧ n ≤ c ∧ c ≤ maxLen ∧ off + c * z ≤ e.k ∧ capOk cap c
  | .z0, v => ∃ a c, v = .slice a 0 c
  | .ag l, v => ∃ vs : List Value, v = .agg vs.toArray ∧ RvL Φ l vs
  | .tp l, v => ∃ vs : List Value, v = .tuple vs.toArray ∧ RvL Φ l vs
  | .fn k cap, v => ∃ vs : List Value, v = .func (.func k) #[] vs.toArray ∧ RvL Φ cap vs
  | .nf, v => v = .nilFunc
  | .ifc t a, v => ∃ x, v = .iface t x ∧ Rv Φ a x
  | .nif, v => v = .nilIface
  | .mp id, v => ∃ e, Φ id = some e ∧ v = .map (some e.g)
  | .nm, v => v = .map none
  | .yv id, v => ∃ e, Φ id = some e ∧ v = .func (.yield e.g) #[] #[]
  | .gp g off, v => v = .pointer (some ⟨g, off, none⟩)
def RvL (Φ : Phi) : List AV → List Value → Prop
  | [], vs => vs = []
  | a :: l, vs => ∃ v r, vs = v :: r ∧ Rv Φ a v ∧ RvL Φ l r
end
def Sub (Φ Φ' : Phi) : Prop := ∀ id e, Φ id = some e → Φ' id = some e
theorem Sub.refl (Φ : Phi) : Sub Φ Φ := fun _ _ h => h
theorem Sub.trans {Φ Ψ Χ : Phi} (a : Sub Φ Ψ) (b : Sub Ψ Χ) : Sub Φ Χ := fun id e h => b id e (a id e h)
mutual
theorem Rv.mono {Φ Φ' : Phi} (s : Sub Φ Φ') : ∀ (a : AV) (v : Value), Rv Φ a v → Rv Φ' a v
  | .u, _, _ => by simp only [Rv]
  | .b _, _, h => by simp only [Rv] at h ⊢; exact h
  | .i _ _, _, h => by simp only [Rv] at h ⊢; exact h
  | .s _, _, h => by simp only [Rv] at h ⊢; exact h
  | .np, _, h => by simp only [Rv] at h ⊢; exact h
  | .p _ _, _, h => by simp only [Rv] at h ⊢; obtain ⟨e, h1, h2⟩ := h; exact ⟨e, s _ _ h1, h2⟩
  | .ns, _, h => by simp only [Rv] at h ⊢; exact h
  | .sl _ _ _ _ _, _, h => by simp only [Rv] at h ⊢; obtain ⟨e, c, h1, h2⟩ := h; exact ⟨e, c, s _ _ h1, h2⟩
  | .z0, _, h => by simp only [Rv] at h ⊢; exact h
  | .ag l, _, h => by simp only [Rv] at h ⊢; obtain ⟨vs, h1, h2⟩ := h; exact ⟨vs, h1, RvL.mono s l vs h2⟩
  | .tp l, _, h => by simp only [Rv] at h ⊢; obtain ⟨vs, h1, h2⟩ := h; exact ⟨vs, h1, RvL.mono s l vs h2⟩
  | .fn _ l, _, h => by simp only [Rv] at h ⊢; obtain ⟨vs, h1, h2⟩ := h; exact ⟨vs, h1, RvL.mono s l vs h2⟩
  | .nf, _, h => by simp only [Rv] at h ⊢; exact h
  | .ifc _ a, _, h => by simp only [Rv] at h ⊢; obtain ⟨x, h1, h2⟩ := h; exact ⟨x, h1, Rv.mono s a x h2⟩
  | .nif, _, h => by simp only [Rv] at h ⊢; exact h
  | .mp _, _, h => by simp only [Rv] at h ⊢; obtain ⟨e, h1, h2⟩ := h; exact ⟨e, s _ _ h1, h2⟩
  | .nm, _, h => by simp only [Rv] at h ⊢; exact h
  | .yv _, _, h => by simp only [Rv] at h ⊢; obtain ⟨e, h1, h2⟩ := h; exact ⟨e, s _ _ h1, h2⟩
  | .gp _ _, _, h => by simp only [Rv] at h ⊢; exact h
theorem RvL.mono {Φ Φ' : Phi} (s : Sub Φ Φ') : ∀ (a : List AV) (v : List Value), RvL Φ a v → RvL Φ' a v
  | [], _, h => by simp only [RvL] at h ⊢; exact h
  | a :: l, _, h => by simp only [RvL] at h ⊢; obtain ⟨v, r, h1, h2, h3⟩ := h; exact ⟨v, r, h1, Rv.mono s a v h2, RvL.mono s l r h3⟩
end
section
variable {Φ : Phi}
theorem RvL.len : ∀ {l : List AV} {vs : List Value}, RvL Φ l vs → vs.length = l.length := by
  intro l
  induction l with
  | nil => intro vs h; simp only [RvL] at h; subst h; rfl
  | cons a l ih => intro vs h; simp only [RvL] at h; obtain ⟨v, r, rfl, _, h⟩ := h; simp [ih h]
theorem RvL.at : ∀ {l : List AV} {vs : List Value} {i : Nat} {a : AV}, RvL Φ l vs → l[i]? = some a → ∃ v, vs[i]? = some v ∧ Rv Φ a v := by
  intro l
  induction l with
  | nil => intro vs i a _ hi; simp at hi
  | cons x l ih =>
    intro vs i a h hi
    simp only [RvL] at h
    obtain ⟨v, r, rfl, h1, h2⟩ := h
    cases i with
    | zero => simp at hi; subst hi; exact ⟨v, rfl, h1⟩
    | succ i =>
      obtain ⟨u, hu, hr⟩ := ih (i := i) h2 (by simpa using hi)
      exact ⟨u, by simpa using hu, hr⟩
theorem RvL.mk : ∀ {l : List AV} {vs : List Value}, vs.length = l.length → (∀ (i : Nat) a v, l[i]? = some a → vs[i]? = some v → Rv Φ a v) → RvL Φ l vs := by
  intro l
  induction l with
  | nil => intro vs h _; simp only [RvL]; exact List.eq_nil_of_length_eq_zero h
  | cons x l ih =>
    intro vs h hh
    cases vs with
    | nil => simp at h
    | cons v r =>
      simp only [RvL]
      exact ⟨v, r, rfl, hh 0 x v rfl rfl, ih (by simpa using h) fun i a u hi hu => hh (i + 1) a u (by simpa using hi) (by simpa using hu)⟩
theorem RvL.app {l m : List AV} {vs us : List Value} (h : RvL Φ l vs) (k : RvL Φ m us) : RvL Φ (l ++ m) (vs ++ us) := by
  refine RvL.mk (by rw [List.length_append, List.length_append, h.len, k.len]) ?_
  intro i a v hi hv
  rw [List.getElem?_append] at hi hv
  rw [h.len] at hv
  split at hi <;> rename_i hlt
  · rw [if_pos hlt] at hv
    obtain ⟨u, hu, hr⟩ := h.at hi
    rw [hu] at hv; cases hv; exact hr
  · rw [if_neg hlt] at hv
    obtain ⟨u, hu, hr⟩ := k.at hi
    rw [hu] at hv; cases hv; exact hr
theorem RvL.take {l : List AV} {vs : List Value} (h : RvL Φ l vs) (n : Nat) : RvL Φ (l.take n) (vs.take n) := by
  refine RvL.mk (by rw [List.length_take, List.length_take, h.len]) ?_
  intro i a v hi hv
  rw [List.getElem?_take] at hi hv
  split at hi <;> rename_i hlt
  · rw [if_pos hlt] at hv
    obtain ⟨u, hu, hr⟩ := h.at hi
    rw [hu] at hv; cases hv; exact hr
  · cases hi
theorem RvL.drop {l : List AV} {vs : List Value} (h : RvL Φ l vs) (n : Nat) : RvL Φ (l.drop n) (vs.drop n) := by
  refine RvL.mk (by rw [List.length_drop, List.length_drop, h.len]) ?_
  intro i a v hi hv
  rw [List.getElem?_drop] at hi hv
  obtain ⟨u, hu, hr⟩ := h.at hi
  rw [hu] at hv; cases hv; exact hr
theorem Rv.scal {a : AV} {v : Value} (h : Rv Φ a v) (hs : scal a = true) : v.oneCell' = true := by
  cases a <;> simp only [Rv] at h <;> first
    | (simp only [Ev.scal] at hs; done)
    | (cases hs; done)
    | (subst h; rfl)
    | (obtain ⟨_, rfl⟩ := h; rfl)
    | (obtain ⟨_, _, rfl⟩ := h; rfl)
    | (obtain ⟨_, rfl, _⟩ := h; rfl)
    | (obtain ⟨_, _, _, rfl, _⟩ := h; rfl)
end
/-- a row's cells -/
def CR (Φ : Phi) (C : Array Value) (base : Nat) (cs : List AV) : Prop := ∀ (i : Nat) a, cs[i]? = some a → ∃ v, C[base + i]? = some v ∧ Rv Φ a v
structure BR (Φ : Phi) (τ : Tau) (w : World) (b : Blk) (e : Ent) (id : Nat) (C : Array Value) (T : TypeId) : Prop where
  ent : Φ id = some e
  lab : τ e.g = if b.ro then .ro else .own id
  row : b.ob = .row
  ty : T = b.ty
  obj : ∃ fr, w.heap[e.g]? = some (.cells C T fr) ∧ (b.ro = false → fr = (0, 0))
  size : C.size = e.base + e.k
  le : b.cs.length ≤ e.k
  exact_ : b.ex = true → e.base = 0 ∧ b.cs.length = e.k
  cr : CR Φ C e.base b.cs
def FR (Φ : Phi) (f : Fr) (F : Wf.Fr) : Prop := ∀ t, t < 4096 → Rv Φ (getF t f) (F t)
theorem FR.mono {Φ Φ' : Phi} {f : Fr} {F : Wf.Fr} (h : FR Φ f F) (s : Sub Φ Φ') : FR Φ' f F := fun t ht => (h t ht).mono s
/-- a map's entry; entries -/
def EnR (Φ : Phi) (e : En) (m : MapEntry) : Prop := Rv Φ e.k m.key ∧ Rv Φ e.v m.val ∧ m.born = e.b
def EsR (Φ : Phi) : List En → List MapEntry → Prop
  | [], ms => ms = []
  | e :: l, ms => ∃ m r, ms = m :: r ∧ EnR Φ e m ∧ EsR Φ l r
theorem EsR.mono {Φ Φ' : Phi} (s : Sub Φ Φ') : ∀ {l : List En} {ms : List MapEntry}, EsR Φ l ms → EsR Φ' l ms := by
  intro l
  induction l with
  | nil => intro ms h; exact h
  | cons e l ih =>
    rintro ms ⟨m, r, h1, ⟨a, b, c⟩, h2⟩
    exact ⟨m, r, h1, ⟨a.mono s, b.mono s, c⟩, ih h2⟩
/-- an object that is no row -/
def ObR (Φ : Phi) : Ob → Obj → Prop
  | .row, _ => False
  | .map es c, o => ∃ E : List MapEntry, o = .map E.toArray c ∧ EsR Φ es E
  | .sit l pos, o => (∀ n ∈ l, n < 256) ∧ o = .stringIter ⟨(l.map UInt8.ofNat).toArray⟩ pos
  | .glb, _ => False
  | .lp .., _ => False
  | .mit none since seen last, o => o = .mapIter none since seen.toArray last
  | .mit (some i) since seen last, o => ∃ e, Φ i = some e ∧ o = .mapIter (some e.g) since seen.toArray last
theorem ObR.mono {Φ Φ' : Phi} (s : Sub Φ Φ') {b : Ob} {o : Obj} (h : ObR Φ b o) : ObR Φ' b o := by
  cases b with
  | row => exact h
  | map es c => obtain ⟨E, h1, h2⟩ := h; exact ⟨E, h1, h2.mono s⟩
  | sit l pos => exact h
  | glb => exact h
  | lp _ _ _ _ _ _ => exact h
  | mit m since seen last =>
    cases m with
    | none => exact h
    | some i => obtain ⟨e, h1, h2⟩ := h; exact ⟨e, s _ _ h1, h2⟩
structure OR (Φ : Phi) (τ : Tau) (w : World) (b : Blk) (e : Ent) (id : Nat) (O : Obj) : Prop where
  ent : Φ id = some e
  lab : τ e.g = .own id
  ro : b.ro = false
  base : e.base = 0
  obj : w.heap[e.g]? = some O
  ob : ObR Φ b.ob O
/-- a table of the program's: the block's name is its place -/
structure GR (Φ : Phi) (τ : Tau) (w : World) (b : Blk) (e : Ent) (id : Nat) (C : Array Value) : Prop where
  ent : Φ id = some e
  at_ : e.g = id
  lab : τ e.g = .ro
  ro : b.ro = true
  glb : b.ob = .glb
  obj : ∃ T fr, w.heap[e.g]? = some (.cells C T fr)
  cr : CR Φ C 0 b.cs
/-- a range over a function that is under way: the record -/
structure LR (Φ : Phi) (τ : Tau) (w : World) (b : Blk) (e : Ent) (id : Nat) (r : Loop) : Prop where
  ent : Φ id = some e
  lab : τ e.g = .own id
  ro : b.ro = false
  obj : w.heap[e.g]? = some (.loop r)
  ob : ∃ busy n ps a bb f, b.ob = .lp busy n ps a bb f ∧ r.state = (if busy then .busy else .ready) ∧ r.pending = none ∧ r.params.toList = ps ∧ r.assign = a ∧ r.body = bb ∧ r.tmps.size = n ∧ n ≤ 4096 ∧ FR Φ f fun t => r.tmps.getD t undef
def BlkRel (Φ : Phi) (τ : Tau) (w : World) (id : Nat) (b : Blk) : Prop := (∃ e C T, BR Φ τ w b e id C T) ∨ (∃ e O, OR Φ τ w b e id O) ∨ (∃ e C, GR Φ τ w b e id C) ∨ ∃ e r, LR Φ τ w b e id r
def isOb : Ob → Bool
  | .map .. | .sit .. | .mit .. => true
  | _ => false
theorem LR.is {Φ : Phi} {τ : Tau} {w : World} {b : Blk} {e : Ent} {id : Nat} {r : Loop} (h : LR Φ τ w b e id r) {o : Ob} (hb : b.ob = o) (ho : ∀ a b c d e f, o ≠ .lp a b c d e f) : False := by
  obtain ⟨busy, n, ps, a, bb, f, h1, _⟩ := h.ob
  exact ho busy n ps a bb f (hb.symm.trans h1)
theorem BlkRel.row {Φ : Phi} {τ : Tau} {w : World} {id : Nat} {b : Blk} (h : BlkRel Φ τ w id b) (hb : b.ob = .row) : ∃ e C T, BR Φ τ w b e id C T := by
  rcases h with h | ⟨e, O, h⟩ | ⟨e, C, h⟩ | ⟨e, r, h⟩
  · exact h
  · have := h.ob; rw [hb] at this; exact this.elim
  · have := h.glb; rw [hb] at this; cases this
  · exact (h.is hb (by intros; intro hq; cases hq)).elim
theorem BlkRel.obj {Φ : Phi} {τ : Tau} {w : World} {id : Nat} {b : Blk} (h : BlkRel Φ τ w id b) (hb : isOb b.ob = true) : ∃ e O, OR Φ τ w b e id O := by
  rcases h with ⟨e, C, T, h⟩ | h | ⟨e, C, h⟩ | ⟨e, r, h⟩
  · rw [h.row] at hb; cases hb
  · exact h
  · rw [h.glb] at hb; cases hb
  · obtain ⟨busy, n, ps, a, bb, f, h1, _⟩ := h.ob
    rw [h1] at hb; cases hb
theorem BlkRel.tab {Φ : Phi} {τ : Tau} {w : World} {id : Nat} {b : Blk} (h : BlkRel Φ τ w id b) (hb : b.ob = .glb) : ∃ e C, GR Φ τ w b e id C := by
  rcases h with ⟨e, C, T, h⟩ | ⟨e, O, h⟩ | h | ⟨e, r, h⟩
  · have := h.row; rw [hb] at this; cases this
  · have := h.ob; rw [hb] at this; exact this.elim
  · exact h
  · exact (h.is hb (by intros; intro hq; cases hq)).elim
theorem BlkRel.loop {Φ : Phi} {τ : Tau} {w : World} {id : Nat} {b : Blk} (h : BlkRel Φ τ w id b) {busy : Bool} {n : Nat} {ps : List Tmp} {a bb : Code} {f : TF AV} (hb : b.ob = .lp busy n ps a bb f) : ∃ e r, LR Φ τ w b e id r := by
  rcases h with ⟨e, C, T, h⟩ | ⟨e, O, h⟩ | ⟨e, C, h⟩ | h
  · have := h.row; rw [hb] at this; cases this
  · have := h.ob; rw [hb] at this; exact this.elim
  · have := h.glb; rw [hb] at this; cases this
  · exact h
theorem BR.obj0 {Φ : Phi} {τ : Tau} {w : World} {b : Blk} {e : Ent} {id : Nat} {C : Array Value} {T : TypeId} (r : BR Φ τ w b e id C T) (hro : b.ro = false) : w.heap[e.g]? = some (.cells C T (0, 0)) := by
  obtain ⟨fr, h1, h2⟩ := r.obj
  rw [h2 hro] at h1; exact h1
structure Rel (Φ : Phi) (τ : Tau) (h : Hp) (w : World) : Prop where
  lim : h.n ≤ big5
  blk : ∀ id b, id < h.n → get5 id h.t = some b → BlkRel Φ τ w id b
  fin : ∀ id, h.n ≤ id → id < big5 → get5 id h.t = none
def Fre (Φ : Phi) (a b : Nat) : Prop := ∀ id, a ≤ id → id < b → Φ id = none
structure Grow (h h' : Hp) : Prop where
  le : h.n ≤ h'.n
  none_ : ∀ id, id < big5 → ¬ (h.n ≤ id ∧ id < h'.n) → get5 id h.t = none → get5 id h'.t = none
  lim : h.n ≤ big5 → h'.n ≤ big5
theorem Grow.refl (h : Hp) : Grow h h := ⟨Nat.le_refl _, fun _ _ _ h => h, id⟩
theorem Grow.trans {a b c : Hp} (x : Grow a b) (y : Grow b c) : Grow a c := ⟨Nat.le_trans x.le y.le, fun id h0 h1 h2 => y.none_ id h0 (fun hh => h1 ⟨Nat.le_trans x.le hh.1, hh.2⟩) (x.none_ id h0 (fun hh => h1 ⟨hh.1, Nat.lt_of_lt_of_le hh.2 y.le⟩) h2), fun h => y.lim (x.lim h)⟩
def Gw (h h' : Hp) : Prop := h.n ≤ big5 → Grow h h'
theorem Gw.trans {a b c : Hp} (x : Gw a b) (y : Gw b c) : Gw a c := fun h => (x h).trans (y ((x h).lim h))
theorem Gw.refl (h : Hp) : Gw h h := fun _ => Grow.refl h
def Kp (h : Hp) (n' : Nat) (l : Lab) : Prop := ∀ id, l = .own id → (id < h.n → get5 id h.t = none) ∧ ¬ (h.n ≤ id ∧ id < n')
structure Tw (Φ : Phi) (τ : Tau) (h : Hp) (w : World) (Φ' : Phi) (τ' : Tau) (n' : Nat) (w' : World) : Prop where
  os : w'.os = w.os
  tape : w'.tape = w.tape
  output : w'.output = w.output
  size : w.heap.size ≤ w'.heap.size
  sub : Sub Φ Φ'
  same : ∀ id, ¬ (h.n ≤ id ∧ id < n') → Φ' id = Φ id
  keep : ∀ g, g < w.heap.size → Kp h n' (τ g) → w'.heap[g]? = w.heap[g]? ∧ τ' g = τ g
section
variable {Φ Φ' Φ'' : Phi} {τ τ' τ'' : Tau} {h h' h'' : Hp} {w w' w'' : World}
theorem Tw.refl (Φ : Phi) (τ : Tau) (h : Hp) (w : World) (n : Nat) : Tw Φ τ h w Φ τ n w := ⟨rfl, rfl, rfl, Nat.le_refl _, Sub.refl _, fun _ _ => rfl, fun _ _ _ => ⟨rfl, rfl⟩⟩
theorem Tw.trans {n : Nat} (a : Tw Φ τ h w Φ' τ' h'.n w') (g : Grow h h') (hn : h'.n ≤ n) (hb5 : h'.n ≤ big5) (b : Tw Φ' τ' h' w' Φ'' τ'' n w'') : Tw Φ τ h w Φ'' τ'' n w'' := by
  refine ⟨b.os.trans a.os, b.tape.trans a.tape, b.output.trans a.output, Nat.le_trans a.size b.size, a.sub.trans b.sub, ?_, ?_⟩
  · intro id hid
    rw [b.same id (fun hh => hid ⟨Nat.le_trans g.le hh.1, hh.2⟩), a.same id (fun hh => hid ⟨hh.1, Nat.lt_of_lt_of_le hh.2 hn⟩)]
  · intro x hx hk
    obtain ⟨h1, h2⟩ := a.keep x hx (fun id e => ⟨(hk id e).1, fun hh => (hk id e).2 ⟨hh.1, Nat.lt_of_lt_of_le hh.2 hn⟩⟩)
    obtain ⟨h3, h4⟩ := b.keep x (Nat.lt_of_lt_of_le hx a.size) (fun id e => by
      rw [h2] at e
      refine ⟨fun hid => ?_, fun hh => (hk id e).2 ⟨Nat.le_trans g.le hh.1, hh.2⟩⟩
      rcases Nat.lt_or_ge id h.n with hl | hl
      · exact g.none_ id (by omega) (fun hh => by omega) ((hk id e).1 hl)
      · exact absurd ⟨hl, Nat.lt_of_lt_of_le hid hn⟩ (hk id e).2)
    exact ⟨h3.trans h1, h4.trans h2⟩
theorem BR.lt {b : Blk} {e : Ent} {id : Nat} {C : Array Value} {T : TypeId} (r : BR Φ τ w b e id C T) : e.g < w.heap.size := by
  obtain ⟨fr, h1, _⟩ := r.obj
  exact (Array.getElem?_eq_some_iff.1 h1).1
theorem OR.lt {b : Blk} {e : Ent} {id : Nat} {O : Obj} (r : OR Φ τ w b e id O) : e.g < w.heap.size := (Array.getElem?_eq_some_iff.1 r.obj).1
theorem CR.mono {C : Array Value} {base : Nat} {cs : List AV} (h : CR Φ C base cs) (s : Sub Φ Φ') : CR Φ' C base cs := fun i a hi => let ⟨v, h1, h2⟩ := h i a hi; ⟨v, h1, h2.mono s⟩
/-- a block that no step turns -/
theorem BR.kept {b : Blk} {e : Ent} {id : Nat} {C : Array Value} {T : TypeId} (r : BR Φ τ w b e id C T) (s : Sub Φ Φ') (ho : w'.heap[e.g]? = w.heap[e.g]?) (hl : τ' e.g = τ e.g) : BR Φ' τ' w' b e id C T :=
  ⟨s _ _ r.ent, hl.trans r.lab, r.row, r.ty, (by obtain ⟨fr, h1, h2⟩ := r.obj; exact ⟨fr, ho.trans h1, h2⟩), r.size, r.le, r.exact_, r.cr.mono s⟩
theorem OR.kept {b : Blk} {e : Ent} {id : Nat} {O : Obj} (r : OR Φ τ w b e id O) (s : Sub Φ Φ') (ho : w'.heap[e.g]? = w.heap[e.g]?) (hl : τ' e.g = τ e.g) : OR Φ' τ' w' b e id O :=
  ⟨s _ _ r.ent, hl.trans r.lab, r.ro, r.base, ho.trans r.obj, r.ob.mono s⟩
/-- the block's object: where it lies, what keeps it -/
theorem BlkRel.at_ {b : Blk} {id : Nat} (r : BlkRel Φ τ w id b) : ∃ e, Φ id = some e ∧ e.g < w.heap.size ∧ (τ e.g = if b.ro then .ro else .own id) ∧
    ∀ {Φ' : Phi} {τ' : Tau} {w' : World}, Sub Φ Φ' → w'.heap[e.g]? = w.heap[e.g]? → τ' e.g = τ e.g → BlkRel Φ' τ' w' id b := by
  rcases r with ⟨e, C, T, r⟩ | ⟨e, O, r⟩ | ⟨e, C, r⟩ | ⟨e, l, r⟩
  · exact ⟨e, r.ent, r.lt, r.lab, fun s ho hl => .inl ⟨e, C, T, r.kept s ho hl⟩⟩
  · exact ⟨e, r.ent, r.lt, by rw [r.ro]; exact r.lab, fun s ho hl => .inr (.inl ⟨e, O, r.kept s ho hl⟩)⟩
  · obtain ⟨T, fr, ho⟩ := r.obj
    exact ⟨e, r.ent, (Array.getElem?_eq_some_iff.1 ho).1, by rw [r.ro]; exact r.lab, fun s h hl => .inr (.inr (.inl ⟨e, C, s _ _ r.ent, r.at_, hl.trans r.lab, r.ro, r.glb, ⟨T, fr, h.trans ho⟩, r.cr.mono s⟩))⟩
  · refine ⟨e, r.ent, (Array.getElem?_eq_some_iff.1 r.obj).1, by rw [r.ro]; exact r.lab, fun s h hl => .inr (.inr (.inr ⟨e, l, s _ _ r.ent, hl.trans r.lab, r.ro, h.trans r.obj, ?_⟩))⟩
    obtain ⟨busy, n, ps, a, bb, f, h1, h2, h3, h4, h5, h6, h7, h8, h9⟩ := r.ob
    exact ⟨busy, n, ps, a, bb, f, h1, h2, h3, h4, h5, h6, h7, h8, h9.mono s⟩
theorem Rel.kept {h : Hp} (r : Rel Φ τ h w) (s : Sub Φ Φ') (ho : ∀ g, g < w.heap.size → w'.heap[g]? = w.heap[g]? ∧ τ' g = τ g) : Rel Φ' τ' h w' :=
  ⟨r.lim, fun id b hid hb => let ⟨e, _, hlt, _, k⟩ := (r.blk id b hid hb).at_; k s (ho _ hlt).1 (ho _ hlt).2, r.fin⟩
theorem FR.set {f : Fr} {F : Wf.Fr} {t : Nat} {a : AV} {v : Value} (h : FR Φ f F) (ht : t < 4096) (hv : Rv Φ a v) : FR Φ (setF t a f) (upd F t v) := by
  intro s hs
  rw [getF_setF _ _ _ _ hs ht]
  unfold upd
  by_cases e : s = t
  · rw [if_pos e, if_pos e]; exact hv
  · rw [if_neg e, if_neg e]; exact h s hs
theorem cv_sound (v : Value) : Rv Φ (cv v) v := by
  unfold cv
  split
  · simp only [Rv]
  · simp only [Rv]
  · rename_i s
    simp only [Rv]
    refine ⟨?_, ?_⟩
    · intro n hn
      obtain ⟨c, _, rfl⟩ := List.mem_map.1 hn
      exact c.toNat_lt
    · rw [List.map_map]
      have : (UInt8.ofNat ∘ UInt8.toNat) = id := by funext c; simp
      rw [this, List.map_id]
      unfold str
      congr 1
  · simp only [Rv]
  · simp only [Rv]
  · simp only [Rv]
  · simp only [Rv]
  · simp only [Rv]
  · simp only [Rv]
theorem opd_sound {f : Fr} {F : Wf.Fr} (h : FR Φ f F) (o : Operand) : Rv Φ (opd f o) (fe F o) := by
  cases o with
  | tmp t =>
    show Rv Φ (Bool.rec .u (getF t f) (Nat.ble (Nat.succ t) 4096)) (F t)
    cases e : Nat.ble (Nat.succ t) 4096 with
    | false => simp only [Rv]
    | true => exact h t (Nat.le_of_ble_eq_true e)
  | const v => exact cv_sound v
  | global g => show Rv Φ (.gp g 0) _; simp only [Rv]; rfl
  | func k => show Rv Φ (.fn k []) _; simp only [Rv]; exact ⟨[], rfl, by simp only [RvL]⟩
theorem opds_sound {f : Fr} {F : Wf.Fr} (h : FR Φ f F) (l : List Operand) : RvL Φ (opds f l) (l.map (fe F)) := by
  induction l with
  | nil => show RvL Φ [] _; simp only [RvL, List.map_nil]
  | cons o l ih => show RvL Φ (opd f o :: opds f l) _; simp only [RvL, List.map_cons]; exact ⟨_, _, rfl, opd_sound h o, ih⟩
end
end Go.Ev
