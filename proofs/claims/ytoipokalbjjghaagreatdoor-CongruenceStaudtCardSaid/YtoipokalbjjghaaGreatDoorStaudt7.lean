/- Part 7 of the texts for the claim. -/
import Derived.Test.YtoipokalbjjghaaGreatDoorStaudt6
import Derived.KernelRfl
set_option linter.unusedVariables false
set_option linter.unusedSimpArgs false
namespace Go.Ev
set_option linter.unusedVariables false
set_option linter.unusedSimpArgs false
open Go Go.Wf Go.RowKit
inductive Tg | z | q | n | s
inductive In
  | z (m : GInt)
  | q (m : GRat)
  | n (x : Int)
  | s (l : List Nat)
inductive Ou
  | z (x : Int)
  | q (x : Rat)
  | n (x : Int)
  | b (x : Bool)
  | s (l : List Nat)
  | qs (l : List Rat)
def digN : List AV → Option (List Nat)
  | [] => some []
  | .i .u32 (.ofNat d) :: l => bif Nat.blt d 4294967296 then (match digN l with | some r => some (d :: r) | none => none) else none
  | _ :: _ => none
noncomputable def frzS (h : Hp) (a : AV) : Hp := match a with
  | .sl id _ _ _ _ => getB h id (fun b => bif b.ro then h else putB h id (some ⟨b.ty, b.ex, true, b.cs, b.ob⟩)) h
  | _ => h
noncomputable def rdS (h : Hp) (a : AV) : Option (List Nat) := match a with
  | .ns => some []
  | .z0 => some []
  | .sl id off n z _ => bif Nat.beq z 1 && Nat.ble n 64 then getB h id (fun b => bif b.ro && Nat.ble (Nat.add off n) (len b.cs) then digN (tk (dr b.cs off) n) else none) none else none
  | _ => none
noncomputable def frzA (h : Hp) (t : Tg) (a : AV) : Hp := match t, a with
  | .z, .ag [_, s] => frzS h s
  | .q, .ag [_, s, _, s2] => frzS (frzS h s) s2
  | _, _ => h
noncomputable def rdA (h : Hp) (t : Tg) (a : AV) : Option In := match t, a with
  | .z, .ag [.b s, x] => (match rdS h x with | some l => some (.z ⟨s, l⟩) | none => none)
  | .q, .ag [.b s, x, .b s2, y] => (match rdS h x, rdS h y with | some l, some m => some (.q ⟨⟨s, l⟩, ⟨s2, m⟩⟩) | _, _ => none)
  | .n, .i .i64 x => some (.n x)
  | .s, .s l => some (.s l)
  | _, _ => none
noncomputable def frzL (h : Hp) : List Tg → List AV → Hp
  | t :: ts, a :: as0 => frzL (frzA h t a) ts as0
  | _, _ => h
noncomputable def rdL (h : Hp) : List Tg → List AV → Option (List In)
  | [], [] => some []
  | t :: ts, a :: as0 => (match rdA h t a, rdL h ts as0 with | some i, some r => some (i :: r) | _, _ => none)
  | _, _ => none
noncomputable def dgK : Nat → Nat → (List AV → Res) → Res
  | 0, _, _ => .no 72
  | f + 1, n, k => bif Nat.beq n 0 then k [] else fz (Nat.mod n 4294967296) fun d => fz (Nat.div n 4294967296) fun m => dgK f m fun l => k (.i .u32 (.ofNat d) :: l)
noncomputable def emS (h : Hp) (l : List AV) (k : AV → Hp → Res) : Res := match l with
  | [] => k .z0 h
  | a :: r => newB h ⟨fo, false, true, a :: r, .row⟩ fun id h' => fz (len (a :: r)) fun n => k (.sl id 0 n 1 none) h'
noncomputable def emI (h : Hp) (z : Int) (k : Bool → AV → Hp → Res) : Res := match z with
  | .ofNat n => fz n fun n => dgK 40 n fun l => emS h l (k false)
  | .negSucc n => fz (Nat.succ n) fun n => dgK 40 n fun l => emS h l (k true)
noncomputable def fL : List Nat → (List Nat → Res) → Res
  | [], k => k []
  | x :: l, k => fz x fun x => fL l fun l => k (x :: l)
noncomputable def emQc (h : Hp) (l : List Rat) (k : List AV → Hp → Res) : Res := match l with
  | [] => k [] h
  | x :: r => emI h x.num fun s a h1 => emI h1 (Int.ofNat x.den) fun t b h2 => emQc h2 r fun cs h3 => k (.b s :: a :: .b t :: b :: cs) h3
noncomputable def emQs (h : Hp) (l : List Rat) (k : AV → Hp → Res) : Res := match l with
  | [] => k .z0 h
  | x :: r => emQc h (x :: r) fun cs h1 => newB h1 ⟨fo, false, true, cs, .row⟩ fun id h' => fz (len (x :: r)) fun n => k (.sl id 0 n 4 none) h'
noncomputable def emO (h : Hp) (o : Ou) (k : AV → Hp → Res) : Res := match o with
  | .z x => emI h x fun s a h1 => k (.ag [.b s, a]) h1
  | .q x => emI h x.num fun s a h1 => emI h1 (Int.ofNat x.den) fun t b h2 => k (.ag [.b s, a, .b t, b]) h2
  | .n x => fI x fun x => k (.i .i64 x) h
  | .b x => Bool.rec (k (.b false) h) (k (.b true) h) x
  | .s l => fL l fun l => k (.s l) h
  | .qs l => emQs h l k
noncomputable def emL (h : Hp) (os : List Ou) (k : List AV → Hp → Res) : Res := match os with
  | [] => k [] h
  | o :: r => emO h o fun a h1 => emL h1 r fun as0 h2 => k (a :: as0) h2
def wrp (l : List AV) : AV := match l with
  | [a] => a
  | l => .tp l
noncomputable def prF (ts : List Tg) (f : List In → Option (List Ou)) (args : List AV) (h : Hp) : Res :=
  (fun h1 => match rdL h1 ts args with
    | none => .no 74
    | some ins => match f ins with
      | none => .no 75
      | some os => emL h1 os fun as0 h2 => .ok (wrp as0) h2) (frzL h ts args)
abbrev PrT := List (FuncId × List Tg × (List In → Option (List Ou)))
noncomputable def prOf : PrT → Prim
  | [] => fun _ => none
  | e :: r => fun j => bif Nat.beq j e.1 then some (prF e.2.1 e.2.2) else prOf r j
def XR (τ : Tau) (w : World) : Nat → Prop := fun b => b < w.heap.size ∧ τ b ≠ .ro
def InR (X : Nat → Prop) (w : World) : In → Value → Prop
  | .z m, v => RV intTy X w v m ∧ m.mag.length ≤ 64
  | .q m, v => RV ratTy X w v m ∧ m.num.mag.length ≤ 64 ∧ m.den.mag.length ≤ 64
  | .n x, v => v = .int .i64 x
  | .s l, v => (∀ n ∈ l, n < 256) ∧ v = str (l.map UInt8.ofNat)
def InL (X : Nat → Prop) (w : World) : List In → List Value → Prop
  | [], vs => vs = []
  | i :: r, vs => ∃ v us, vs = v :: us ∧ InR X w i v ∧ InL X w r us
def OuR (X : Nat → Prop) (w : World) : Ou → Value → Prop
  | .z x, v => RV intTy X w v (ofZ x)
  | .q x, v => RV ratTy X w v (ofQ x)
  | .n x, v => v = .int .i64 x
  | .b x, v => v = .bool x
  | .s l, v => (∀ n ∈ l, n < 256) ∧ v = str (l.map UInt8.ofNat)
  | .qs l, v => RS ratTy X w v (l.map ofQ)
def OuL (X : Nat → Prop) (w : World) : List Ou → List Value → Prop
  | [], vs => vs = []
  | i :: r, vs => ∃ v us, vs = v :: us ∧ OuR X w i v ∧ OuL X w r us
def PoR (X : Nat → Prop) (w : World) (os : List Ou) (v : Value) : Prop := match os with
  | [o] => OuR X w o v
  | os => ∃ vs : List Value, v = .tuple vs.toArray ∧ OuL X w os vs
def ConOK (P : Program) (k : FuncId) (f : List In → Option (List Ou)) : Prop := ∀ (X : Nat → Prop) (w : World) ins vs os, (∀ b, X b → b < w.heap.size) → InL X w ins vs → f ins = some os →
  Calls P k vs.toArray w (Ret w fun v w' => PoR X w' os v)
section
variable {Φ : Phi} {τ : Tau} {h h' : Hp} {w w' : World}
theorem digN_s : ∀ {l : List AV} {ds : List Nat}, digN l = some ds → ds.length = l.length ∧ ∀ (i : Nat) (d : Nat), ds[i]? = some d → l[i]? = some (AV.i .u32 (Int.ofNat d)) ∧ d < 4294967296 := by
  intro l
  induction l with
  | nil => intro ds e; cases e; exact ⟨rfl, fun i d hi => by simp at hi⟩
  | cons a l ih =>
    intro ds e
    unfold digN at e
    split at e
    · rename_i hh; cases hh
    · rename_i d l' hh
      cases hh
      cases hb : Nat.blt d 4294967296 with
      | false => rw [hb] at e; cases e
      | true =>
        rw [hb] at e
        simp only [cond_true] at e
        cases hd : digN l with
        | none => rw [hd] at e; cases e
        | some r =>
          rw [hd] at e
          cases e
          obtain ⟨i1, i2⟩ := ih hd
          refine ⟨by simp [i1], fun i x hi => ?_⟩
          cases i with
          | zero => simp only [List.getElem?_cons_zero, Option.some.injEq] at hi ⊢; subst hi; exact ⟨rfl, of_blt hb⟩
          | succ i => simp only [List.getElem?_cons_succ] at hi ⊢; exact i2 i x hi
    · cases e
theorem Rel.frz {id : Nat} {b : Blk} (r : Rel Φ τ h w) (hid : id < h.n) (hb : get5 id h.t = some b) (hrow : b.ob = .row) (hro : b.ro = false) :
    ∃ τ', Rel Φ τ' (putB h id (some ⟨b.ty, b.ex, true, b.cs, b.ob⟩)) w ∧ Tw Φ τ h w Φ τ' h.n w := by
  obtain ⟨en, C, T, br⟩ := (r.blk id b hid hb).row hrow
  have hlab := br.own hro
  refine ⟨fun g => if g = en.g then .ro else τ g, ⟨r.lim, ?_, ?_⟩, ⟨rfl, rfl, rfl, Nat.le_refl _, Sub.refl _, fun _ _ => rfl, ?_⟩⟩
  · intro id' b'' hid' hb''
    have hid' : id' < h.n := hid'
    have hb'' : get5 id' (set5 id (some ⟨b.ty, b.ex, true, b.cs, b.ob⟩) h.t) = some b'' := hb''
    rw [get5_set5 _ _ _ _ (get5_lt r hid') (get5_lt r hid)] at hb''
    by_cases e : id' = id
    · rw [if_pos e] at hb''
      cases hb''
      subst e
      exact .inl ⟨en, C, T, br.ent, if_pos rfl, hrow, .inl (br.own_ hro), let ⟨fr, o1, _⟩ := br.obj; ⟨fr, o1, fun hh => by cases hh⟩, br.le, br.exact_, br.cr⟩
    · rw [if_neg e] at hb''
      obtain ⟨en2, _, _, hl2, k⟩ := (r.blk id' b'' hid' hb'').at_
      have hne : en2.g ≠ en.g := by
        intro hg
        rw [hg, hlab] at hl2
        split at hl2
        · cases hl2
        · cases hl2; exact e rfl
      exact k (Sub.refl _) rfl (if_neg hne)
  · intro i hi hi5
    have hi : h.n ≤ i := hi
    show get5 i (set5 id _ h.t) = none
    rw [get5_set5 _ _ _ _ hi5 (get5_lt r hid), if_neg (by omega)]
    exact r.fin i hi hi5
  · intro g hg hk
    refine ⟨rfl, if_neg ?_⟩
    intro e
    subst e
    have := (hk id hlab).1 hid
    rw [hb] at this; cases this
theorem getB_w {α : Type} {id : Nat} {k : Blk → α} {no : α} : (∃ b, id < h.n ∧ get5 id h.t = some b ∧ b.ob = .row ∧ getB h id k no = k b) ∨ getB h id k no = no := by
  unfold getB
  cases hn : Nat.blt id h.n with
  | false => exact .inr rfl
  | true =>
    cases hb : get5 id h.t with
    | none => exact .inr rfl
    | some b =>
      cases ho : b.ob with
      | row => exact .inl ⟨b, of_blt hn, rfl, ho, by simp only [ho]⟩
      | _ => exact .inr (by simp only [ho])
theorem frzS_g (a : AV) : (frzS h a).n = h.n ∧ (h.n ≤ big5 → Grow h (frzS h a)) := by
  unfold frzS
  split
  · rename_i id _ _ _ _
    rcases getB_w (h := h) (id := id) (k := fun b => bif b.ro then h else putB h id (some ⟨b.ty, b.ex, true, b.cs, b.ob⟩)) (no := h) with ⟨b, h1, h2, _, e⟩ | e
    · rw [e]
      cases b.ro with
      | true => exact ⟨rfl, fun _ => Grow.refl _⟩
      | false => exact ⟨rfl, fun hl => Grow.put hl h1 h2⟩
    · rw [e]; exact ⟨rfl, fun _ => Grow.refl _⟩
  · exact ⟨rfl, fun _ => Grow.refl _⟩
def Fz (Φ : Phi) (τ : Tau) (h : Hp) (w : World) (h' : Hp) : Prop := ∃ τ', Rel Φ τ' h' w ∧ Tw Φ τ h w Φ τ' h'.n w
theorem frzS_s (a : AV) (r : Rel Φ τ h w) : Fz Φ τ h w (frzS h a) := by
  unfold frzS
  split
  · rename_i id _ _ _ _
    rcases getB_w (h := h) (id := id) (k := fun b => bif b.ro then h else putB h id (some ⟨b.ty, b.ex, true, b.cs, b.ob⟩)) (no := h) with ⟨b, h1, h2, h3, e⟩ | e
    · rw [e]
      cases hro : b.ro with
      | true => exact ⟨τ, r, Tw.refl _ _ _ _ _⟩
      | false => obtain ⟨τ', q1, q2⟩ := r.frz h1 h2 h3 hro; exact ⟨τ', q1, q2⟩
    · rw [e]; exact ⟨τ, r, Tw.refl _ _ _ _ _⟩
  · exact ⟨τ, r, Tw.refl _ _ _ _ _⟩
theorem Fz.then {h1 h2 : Hp} (g : Gw h h1) (hn : h1.n = h.n) (a : Fz Φ τ h w h1) (r : Rel Φ τ h w) (hn2 : h2.n = h1.n) (b : ∀ τ', Rel Φ τ' h1 w → Fz Φ τ' h1 w h2) : Fz Φ τ h w h2 := by
  obtain ⟨τ1, r1, t1⟩ := a
  obtain ⟨τ2, r2, t2⟩ := b τ1 r1
  exact ⟨τ2, r2, t1.trans (g r.lim) (by omega) r1.lim t2⟩
theorem frzA_g (t : Tg) (a : AV) : (frzA h t a).n = h.n ∧ Gw h (frzA h t a) := by
  unfold frzA
  split
  · exact frzS_g _
  · rename_i s _ s2
    obtain ⟨a1, a2⟩ := frzS_g (h := h) s
    obtain ⟨b1, b2⟩ := frzS_g (h := frzS h s) s2
    exact ⟨b1.trans a1, Gw.trans a2 b2⟩
  · exact ⟨rfl, Gw.refl _⟩
theorem frzA_s (t : Tg) (a : AV) (r : Rel Φ τ h w) : Fz Φ τ h w (frzA h t a) := by
  unfold frzA
  split
  · exact frzS_s _ r
  · rename_i s _ s2
    exact Fz.then (frzS_g s).2 (frzS_g s).1 (frzS_s s r) r (frzS_g s2).1 fun τ' r' => frzS_s s2 r'
  · exact ⟨τ, r, Tw.refl _ _ _ _ _⟩
theorem frzL_g : ∀ (ts : List Tg) (as0 : List AV) (h : Hp), (frzL h ts as0).n = h.n ∧ Gw h (frzL h ts as0)
  | [], as0, h => by unfold frzL; exact ⟨rfl, Gw.refl _⟩
  | _ :: _, [], h => by unfold frzL; exact ⟨rfl, Gw.refl _⟩
  | t :: ts, a :: as0, h => by
    unfold frzL
    obtain ⟨a1, a2⟩ := frzA_g (h := h) t a
    obtain ⟨b1, b2⟩ := frzL_g ts as0 (frzA h t a)
    exact ⟨b1.trans a1, Gw.trans a2 b2⟩
theorem frzL_s : ∀ (ts : List Tg) (as0 : List AV) (h : Hp) (τ : Tau), Rel Φ τ h w → Fz Φ τ h w (frzL h ts as0)
  | [], as0, h, τ, r => by unfold frzL; exact ⟨τ, r, Tw.refl _ _ _ _ _⟩
  | _ :: _, [], h, τ, r => by unfold frzL; exact ⟨τ, r, Tw.refl _ _ _ _ _⟩
  | t :: ts, a :: as0, h, τ, r => by
    unfold frzL
    exact Fz.then (frzA_g t a).2 (frzA_g t a).1 (frzA_s t a r) r (frzL_g ts as0 _).1 fun τ' r' => frzL_s ts as0 _ τ' r'
theorem rdS_s {a : AV} {v : Value} {ds : List Nat} (r : Rel Φ τ h w) (hv : Rv Φ a v) (e : rdS h a = some ds) : RS u32Ty (XR τ w) w v ds ∧ ds.length ≤ 64 := by
  unfold rdS at e
  split at e
  · cases e
    simp only [Rv] at hv
    exact ⟨⟨none, 0, hv, Nat.le_refl _, Nat.zero_le _, .inl rfl⟩, by simp⟩
  · cases e
    simp only [Rv] at hv
    obtain ⟨p, c, hv, hc⟩ := hv
    exact ⟨⟨p, c, hv, Nat.zero_le _, hc, .inl rfl⟩, by simp⟩
  · rename_i id off n z cap
    cases hz : (Nat.beq z 1 && Nat.ble n 64) with
    | false => rw [hz] at e; cases e
    | true =>
      rw [hz] at e
      obtain ⟨hz1, hz2⟩ := and_t hz
      have hz1 := Nat.eq_of_beq_eq_true hz1
      have hz2 := Nat.le_of_ble_eq_true hz2
      subst hz1
      simp only [cond_true] at e
      rcases getB_w (h := h) (id := id) (k := fun b => bif b.ro && Nat.ble (Nat.add off n) (len b.cs) then digN (tk (dr b.cs off) n) else none) (no := none) with ⟨b, h1, h2, h3, e2⟩ | e2
      · rw [e2] at e
        cases hq : (b.ro && Nat.ble (Nat.add off n) (len b.cs)) with
        | false => rw [hq] at e; cases e
        | true =>
          rw [hq] at e
          obtain ⟨q1, q2⟩ := and_t hq
          have q2 := Nat.le_of_ble_eq_true q2
          rw [len_eq] at q2
          have q2 : off + n ≤ b.cs.length := q2
          simp only [cond_true] at e
          rw [tk_eq, dr_eq] at e
          obtain ⟨d1, d2⟩ := digN_s e
          obtain ⟨en, c, hen, hvv, g1, g2, g3, _⟩ := hv.slI
          obtain ⟨en', C, T, br⟩ := (r.blk id b h1 h2).row h3
          have := br.ent
          rw [hen] at this; cases this
          have hl : ds.length = n := by rw [d1, List.length_take, List.length_drop]; omega
          refine ⟨⟨_, c, by rw [hl]; exact hvv, by rw [hl]; exact g1, g2, .inr ⟨en.g, en.base + off, rfl, ?_, ?_⟩⟩, by omega⟩
          · intro hx
            have := br.lab
            rw [q1] at this
            exact hx.2 this
          · intro i x hi
            obtain ⟨k1, k2⟩ := d2 i x hi
            rw [List.getElem?_take] at k1
            split at k1
            · rw [List.getElem?_drop] at k1
              obtain ⟨u, u1, u2⟩ := br.cell k1
              refine ⟨[.int .u32 x], ⟨rfl, k2⟩, fun j u' hj => ?_⟩
              cases j with
              | zero =>
                cases hj
                simp only [Rv] at u2
                subst u2
                show w.cell? ⟨en.g, en.base + off + i * 1 + 0, none⟩ = _
                rw [show en.base + off + i * 1 + 0 = en.base + (off + i) by omega]
                exact u1
              | succ j => simp at hj
            · cases k1
      · rw [e2] at e; cases e
  · cases e
theorem rdA_s {t : Tg} {a : AV} {v : Value} {i : In} (r : Rel Φ τ h w) (hv : Rv Φ a v) (e : rdA h t a = some i) : InR (XR τ w) w i v := by
  unfold rdA at e
  split at e
  · rename_i s x
    cases hx : rdS h x with
    | none => rw [hx] at e; cases e
    | some l =>
      rw [hx] at e
      cases e
      simp only [Rv, RvL] at hv
      obtain ⟨vs, rfl, v1, r1, rfl, rfl, v2, r2, rfl, h2, rfl⟩ := hv
      obtain ⟨k1, k2⟩ := rdS_s r h2 hx
      exact ⟨mkInt k1, k2⟩
  · rename_i s x u y
    cases hx : rdS h x with
    | none => rw [hx] at e; cases e
    | some l =>
      cases hy : rdS h y with
      | none => rw [hx, hy] at e; cases e
      | some m =>
        rw [hx, hy] at e
        cases e
        simp only [Rv, RvL] at hv
        obtain ⟨vs, rfl, v1, r1, rfl, rfl, v2, r2, rfl, h2, v3, r3, rfl, rfl, v4, r4, rfl, h4, rfl⟩ := hv
        obtain ⟨k1, k2⟩ := rdS_s r h2 hx
        obtain ⟨k3, k4⟩ := rdS_s r h4 hy
        exact ⟨mkRat k1 k3, k2, k4⟩
  · cases e; simp only [Rv] at hv; exact hv
  · cases e; simp only [Rv] at hv; exact hv
  · cases e
theorem rdL_s : ∀ {ts : List Tg} {as0 : List AV} {vs : List Value} {is : List In}, Rel Φ τ h w → RvL Φ as0 vs → rdL h ts as0 = some is → InL (XR τ w) w is vs := by
  intro ts
  induction ts with
  | nil =>
    intro as0 vs is r hv e
    cases as0 with
    | nil => cases e; simp only [RvL] at hv; exact hv
    | cons a as0 => unfold rdL at e; cases e
  | cons t ts ih =>
    intro as0 vs is r hv e
    cases as0 with
    | nil => unfold rdL at e; cases e
    | cons a as0 =>
      unfold rdL at e
      cases h1 : rdA h t a with
      | none => rw [h1] at e; cases e
      | some i =>
        cases h2 : rdL h ts as0 with
        | none => rw [h1, h2] at e; cases e
        | some is' =>
          rw [h1, h2] at e
          cases e
          simp only [RvL] at hv
          obtain ⟨v, us, rfl, v1, v2⟩ := hv
          exact ⟨v, us, rfl, rdA_s r v1 h1, ih r v2 h2⟩
def dA (d : Nat) : AV := .i .u32 (Int.ofNat d)
theorem digs_step {n : Nat} (h : n ≠ 0) : digs n = n % 4294967296 :: digs (n / 4294967296) := by
  have hs : small (n % 4294967296 :: digs (n / 4294967296)) := small_cons (Nat.mod_lt _ (by decide)) (small_digs _)
  have hv : val (n % 4294967296 :: digs (n / 4294967296)) = n := by
    rw [val, val_digs]; omega
  have ht : trim (n % 4294967296 :: digs (n / 4294967296)) = n % 4294967296 :: digs (n / 4294967296) := by
    rw [trim, trim_digs]
    cases hd : digs (n / 4294967296) with
    | nil =>
      have := (digs_nil_iff _).1 hd
      show (if n % 4294967296 = 0 then [] else _) = _
      rw [if_neg (by omega)]
    | cons a t => rfl
  have := canon ht hs
  rw [hv] at this
  exact this.symm
theorem dgK_s : ∀ (f n : Nat) (k : List AV → Res) (r : Res), dgK f n k = r → okR r → k ((digs n).map dA) = r := by
  intro f
  induction f with
  | zero => intro n k r e hr; unfold dgK at e; subst e; exact hr.elim
  | succ f ih =>
    intro n k r e hr
    unfold dgK at e
    cases hn : Nat.beq n 0 with
    | true =>
      rw [hn] at e
      have := Nat.eq_of_beq_eq_true hn
      subst this
      exact e
    | false =>
      rw [hn] at e
      simp only [cond_false, fz_eq] at e
      have h0 : n ≠ 0 := fun hh => by subst hh; cases hn
      have := ih _ _ _ e hr
      rw [digs_step h0]
      exact this
noncomputable def hRow (h : Hp) (l : List Nat) : Hp := ⟨set5 h.n (some ⟨fo, false, true, l.map dA, .row⟩) h.t, h.n + 1⟩
theorem cells_of {b o : Nat} {u : Value} (hc : w.cell? ⟨b, o, none⟩ = some u) : ∃ C T fr, w.heap[b]? = some (.cells C T fr) ∧ C[o]? = some u := by
  unfold World.cell? at hc
  split at hc
  · rename_i C T fr ho
    exact ⟨C, T, fr, ho, by simpa using hc⟩
  · cases hc
theorem Rel.row {l : List Nat} {v : Value} {X : Nat → Prop} (r : Rel Φ τ h w) (hb : h.n < big5) (hf : Φ h.n = none) (hX : ∀ b, ¬ X b → τ b = .ro) (rs : RS u32Ty X w v l) (hl : l ≠ []) :
    ∃ Φ', Rel Φ' τ (hRow h l) w ∧ Rv Φ' (.sl h.n 0 l.length 1 none) v ∧ Tw Φ τ h w Φ' τ (h.n + 1) w := by
  obtain ⟨a, c, rfl, h1, h2, h3⟩ := rs
  obtain ⟨b, o, rfl, hx, h3⟩ := h3.resolve_left hl
  obtain ⟨d, l', rfl⟩ := List.exists_cons_of_ne_nil hl
  obtain ⟨cs, hcs, hcell⟩ := h3 0 d rfl
  have hcs := hcs.1
  subst hcs
  obtain ⟨C, T, fr, ho, _⟩ := cells_of (hcell 0 _ rfl)
  have hall : CR (ext Φ h.n ⟨b, o, c⟩) C o ((d :: l').map dA) := by
    intro i a hi
    rw [List.getElem?_map] at hi
    cases hd : (d :: l')[i]? with
    | none => rw [hd] at hi; cases hi
    | some x =>
      rw [hd] at hi
      cases hi
      obtain ⟨cs, k1, k2⟩ := h3 i x hd
      have k1 := k1.1
      subst k1
      obtain ⟨C', T', fr', ho', hc'⟩ := cells_of (k2 0 _ rfl)
      rw [ho] at ho'
      cases ho'
      refine ⟨.int .u32 x, ?_, by unfold dA; simp only [Rv]; rfl⟩
      have : u32Ty.sz = 1 := rfl
      rw [this] at hc'
      rw [show o + i = o + i * 1 + 0 by omega]
      exact hc'
  have hlt : b < w.heap.size := (Array.getElem?_eq_some_iff.1 ho).1
  refine ⟨ext Φ h.n ⟨b, o, c⟩, ⟨hb, ?_, ?_⟩, ?_, ⟨rfl, rfl, rfl, Nat.le_refl _, Sub.ext hf, ?_, fun _ _ _ => ⟨rfl, rfl⟩⟩⟩
  · intro id b' hid hb'
    have hid : id < h.n + 1 := hid
    have hb' : get5 id (set5 h.n (some ⟨fo, false, true, (d :: l').map dA, .row⟩) h.t) = some b' := hb'
    rw [get5_set5 _ _ _ _ (by omega) hb] at hb'
    by_cases e : id = h.n
    · rw [if_pos e] at hb'
      cases hb'
      subst e
      exact .inl ⟨⟨b, o, c⟩, C, T, ext_at _ _ _, (hX b hx).trans rfl, rfl, .inr ⟨rfl, rfl⟩, ⟨fr, ho, fun hh => by cases hh⟩, by rw [List.length_map]; exact h1, (fun hh => by cases hh), hall⟩
    · rw [if_neg e] at hb'
      obtain ⟨en, _, _, _, k⟩ := (r.blk id b' (by omega) hb').at_
      exact k (Sub.ext hf) rfl rfl
  · intro id hid hid5
    have hid : h.n + 1 ≤ id := hid
    show get5 id (set5 h.n _ h.t) = none
    rw [get5_set5 _ _ _ _ hid5 hb, if_neg (by omega)]
    exact r.fin id (by omega) hid5
  · have := Rv.msl (Φ := ext Φ h.n ⟨b, o, c⟩) (id := h.n) (off := 0) (n := (d :: l').length) (z := 1) (cap := none) (e := ⟨b, o, c⟩) (c := c) (ext_at _ _ _) h1 h2 (by show 0 + c * 1 ≤ c; omega) trivial
    exact this
  · intro id hid
    unfold Ev.ext
    rw [if_neg (by omega)]
def Em (h h1 : Hp) (φ : (Nat → Prop) → World → Value → Prop) (a : AV) : Prop := h.n ≤ h1.n ∧ Gw h h1 ∧
  ∀ (Φ : Phi) (τ : Tau) (w : World) (X : Nat → Prop) (v : Value), Rel Φ τ h w → (∀ b, ¬ X b → τ b = .ro) → φ X w v → Fre Φ h.n h1.n → ∃ Φ', Rel Φ' τ h1 w ∧ Rv Φ' a v ∧ Tw Φ τ h w Φ' τ h1.n w
theorem emS_s {l : List Nat} {k : AV → Hp → Res} {r : Res} (e : emS h (l.map dA) k = r) (hr : okR r) : ∃ a h1, k a h1 = r ∧ Em h h1 (fun X w v => RS u32Ty X w v l) a := by
  cases l with
  | nil =>
    refine ⟨.z0, h, e, Nat.le_refl _, Gw.refl _, fun Φ τ w X v hR _ rs _ => ⟨Φ, hR, ?_, Tw.refl _ _ _ _ _⟩⟩
    obtain ⟨a, c, rfl, h1, h2, _⟩ := rs
    simp only [Rv]
    exact ⟨a, c, rfl, h2⟩
  | cons d l =>
    have e : newB h ⟨fo, false, true, (d :: l).map dA, .row⟩ (fun id h' => fz (len ((d :: l).map dA)) fun n => k (.sl id 0 n 1 none) h') = r := e
    unfold newB at e
    cases hb : Nat.blt h.n big5 with
    | false => rw [hb] at e; have e : Res.no 30 = r := e; subst e; exact hr.elim
    | true =>
      rw [hb] at e
      simp only [fz_eq, len_eq, List.length_map] at e
      have hb := of_blt hb
      refine ⟨.sl h.n 0 (d :: l).length 1 none, hRow h (d :: l), e, Nat.le_succ _, fun _ => Grow.new hb, fun Φ τ w X v hR hX rs hF => ?_⟩
      exact hR.row hb (hF _ (Nat.le_refl _) (Nat.lt_succ_self _)) hX rs (by simp)
theorem emI_s {z : Int} {k : Bool → AV → Hp → Res} {r : Res} (e : emI h z k = r) (hr : okR r) : ∃ a h1, k (decide (z < 0)) a h1 = r ∧ Em h h1 (fun X w v => RS u32Ty X w v (digs z.natAbs)) a := by
  unfold emI at e
  split at e
  · rename_i n
    rw [fz_eq] at e
    obtain ⟨a, h1, k1, k2⟩ := emS_s (dgK_s _ _ _ _ e hr) hr
    refine ⟨a, h1, ?_, k2⟩
    rw [decide_eq_false (by simp)]; exact k1
  · rename_i n
    rw [fz_eq] at e
    obtain ⟨a, h1, k1, k2⟩ := emS_s (dgK_s _ _ _ _ e hr) hr
    refine ⟨a, h1, ?_, k2⟩
    rw [decide_eq_true (Int.negSucc_lt_zero n)]; exact k1
theorem Fre.on {Φ Φ' : Phi} {a b c : Nat} (hf : Fre Φ a c) (hab : a ≤ b) (hs : ∀ id, ¬ (a ≤ id ∧ id < b) → Φ' id = Φ id) : Fre Φ' b c := fun id h1 h2 => by
  rw [hs id (by omega)]; exact hf id (by omega) h2
def RdQ (X : Nat → Prop) (w : World) : List GRat → List Value → Prop
  | [], vs => vs = []
  | q :: r, vs => ∃ s u us, vs = .bool q.num.neg :: s :: .bool q.den.neg :: u :: us ∧ RS u32Ty X w s q.num.mag ∧ RS u32Ty X w u q.den.mag ∧ RdQ X w r us
theorem rdQ_of {X : Nat → Prop} : ∀ (l : List GRat) (p : Nat → Value → Prop), (∀ (i : Nat) x, l[i]? = some x → ∃ cs, ratTy.rd X w cs x ∧ ∀ (j : Nat) u, cs[j]? = some u → p (i * 4 + j) u) →
    ∃ vs, RdQ X w l vs ∧ vs.length = l.length * 4 ∧ ∀ (i : Nat) v, vs[i]? = some v → p i v
  | [], p, _ => ⟨[], rfl, rfl, fun i v h => by simp at h⟩
  | q :: r, p, h => by
    obtain ⟨cs, hcs, hp⟩ := h 0 q rfl
    obtain ⟨s, u, rfl, h1, h2⟩ := hcs
    obtain ⟨us, k1, k2, k3⟩ := rdQ_of r (fun i v => p (i + 4) v) (fun i x hi => by
      obtain ⟨cs, q1, q2⟩ := h (i + 1) x (by simpa using hi)
      exact ⟨cs, q1, fun j u hj => by
        have := q2 j u hj
        rw [show (i + 1) * 4 + j = i * 4 + j + 4 by omega] at this
        exact this⟩)
    refine ⟨_, ⟨s, u, us, rfl, h1, h2, k1⟩, by simp [k2]; omega, ?_⟩
    intro i v hv
    match i with
    | 0 => exact hp 0 v hv
    | 1 => exact hp 1 v hv
    | 2 => exact hp 2 v hv
    | 3 => exact hp 3 v hv
    | i + 4 => exact k3 i v (by simpa using hv)
def EmC (h h1 : Hp) (l : List Rat) (cs : List AV) : Prop := h.n ≤ h1.n ∧ Gw h h1 ∧
  ∀ (Φ : Phi) (τ : Tau) (w : World) (X : Nat → Prop) (vs : List Value), Rel Φ τ h w → (∀ b, ¬ X b → τ b = .ro) → RdQ X w (l.map ofQ) vs → Fre Φ h.n h1.n → ∃ Φ', Rel Φ' τ h1 w ∧ RvL Φ' cs vs ∧ Tw Φ τ h w Φ' τ h1.n w
theorem emQc_s : ∀ {l : List Rat} {h : Hp} {k : List AV → Hp → Res} {r : Res}, emQc h l k = r → okR r → ∃ cs h1, k cs h1 = r ∧ cs.length = l.length * 4 ∧ EmC h h1 l cs := by
  intro l
  induction l with
  | nil =>
    intro h k r e hr
    refine ⟨[], h, e, rfl, Nat.le_refl _, Gw.refl _, fun Φ τ w X vs hR _ hv _ => ⟨Φ, hR, ?_, Tw.refl _ _ _ _ _⟩⟩
    simp only [RvL]; exact hv
  | cons x l ih =>
    intro h k r e hr
    unfold emQc at e
    obtain ⟨a, h1, e2, g1, g2, g3⟩ := emI_s e hr
    obtain ⟨b, h2, e3, f1, f2, f3⟩ := emI_s e2 hr
    obtain ⟨cs, h3, e4, hl, d1, d2, d3⟩ := ih e3 hr
    refine ⟨_, h3, e4, by simp [hl]; omega, Nat.le_trans g1 (Nat.le_trans f1 d1), Gw.trans g2 (Gw.trans f2 d2), fun Φ τ w X vs hR hX hv hF => ?_⟩
    obtain ⟨s, u, us, rfl, rs, rs2, hv⟩ := hv
    obtain ⟨Φ1, q1, q2, q3⟩ := g3 Φ τ w X _ hR hX rs (fun id i1 i2 => hF id i1 (Nat.lt_of_lt_of_le i2 (Nat.le_trans f1 d1)))
    have hF1 : Fre Φ1 h1.n h3.n := hF.on g1 q3.same
    obtain ⟨Φ2, u1, u2, u3⟩ := f3 Φ1 τ w X _ q1 hX rs2 (fun id i1 i2 => hF1 id i1 (Nat.lt_of_lt_of_le i2 d1))
    obtain ⟨Φ3, w1, w2, w3⟩ := d3 Φ2 τ w X _ u1 hX hv (hF1.on f1 u3.same)
    refine ⟨Φ3, w1, ?_, (q3.trans (g2 hR.lim) f1 q1.lim u3).trans (Grow.trans (g2 hR.lim) (f2 q1.lim)) d1 u1.lim w3⟩
    simp only [RvL]
    refine ⟨_, _, rfl, ?_, _, _, rfl, (q2.mono u3.sub).mono w3.sub, _, _, rfl, ?_, _, _, rfl, u2.mono w3.sub, w2⟩
    · simp only [Rv]; rfl
    · simp only [Rv]; rfl
theorem RvL.at_ {Φ : Phi} : ∀ {l : List AV} {vs : List Value}, RvL Φ l vs → ∀ (i : Nat) a, l[i]? = some a → ∃ v, vs[i]? = some v ∧ Rv Φ a v
  | [], _, _, i, a, h => by simp at h
  | x :: l, vs, h, i, a, hi => by
    simp only [RvL] at h
    obtain ⟨v, r, rfl, h1, h2⟩ := h
    cases i with
    | zero => cases hi; exact ⟨v, rfl, h1⟩
    | succ i => exact RvL.at_ h2 i a (by simpa using hi)
theorem Rel.rows {cs : List AV} {vs : List Value} {b o c n z : Nat} (r : Rel Φ τ h w) (hb : h.n < big5) (hf : Φ h.n = none) (hro : τ b = .ro) (hv : RvL Φ cs vs) (hc : ∀ (i : Nat) v, vs[i]? = some v → w.cell? ⟨b, o + i, none⟩ = some v)
    (h0 : 0 < cs.length) (hl : cs.length = n * z) (hn : n ≤ c) (hcm : c ≤ maxLen) :
    ∃ Φ', Rel Φ' τ ⟨set5 h.n (some ⟨fo, false, true, cs, .row⟩) h.t, h.n + 1⟩ w ∧ Rv Φ' (.sl h.n 0 n z none) (.slice (some ⟨b, o, none⟩) n c) ∧ Tw Φ τ h w Φ' τ (h.n + 1) w := by
  obtain ⟨v0, hv0, _⟩ := hv.at_ 0 cs[0] (List.getElem?_eq_getElem h0)
  obtain ⟨C, T, fr, ho, _⟩ := cells_of (hc 0 v0 hv0)
  have hall : CR (ext Φ h.n ⟨b, o, c * z⟩) C o cs := by
    intro i a hi
    obtain ⟨v, k1, k2⟩ := hv.at_ i a hi
    obtain ⟨C', T', fr', ho', hc'⟩ := cells_of (hc i v k1)
    rw [ho] at ho'
    cases ho'
    exact ⟨v, hc', k2.mono (Sub.ext hf)⟩
  refine ⟨ext Φ h.n ⟨b, o, c * z⟩, ⟨hb, ?_, ?_⟩, ?_, ⟨rfl, rfl, rfl, Nat.le_refl _, Sub.ext hf, ?_, fun _ _ _ => ⟨rfl, rfl⟩⟩⟩
  · intro id b' hid hb'
    have hid : id < h.n + 1 := hid
    have hb' : get5 id (set5 h.n (some ⟨fo, false, true, cs, .row⟩) h.t) = some b' := hb'
    rw [get5_set5 _ _ _ _ (by omega) hb] at hb'
    by_cases e : id = h.n
    · rw [if_pos e] at hb'
      cases hb'
      subst e
      exact .inl ⟨⟨b, o, c * z⟩, C, T, ext_at _ _ _, hro.trans rfl, rfl, .inr ⟨rfl, rfl⟩, ⟨fr, ho, fun hh => by cases hh⟩, by rw [hl]; exact Nat.mul_le_mul_right z hn, (fun hh => by cases hh), hall⟩
    · rw [if_neg e] at hb'
      obtain ⟨en, _, _, _, k⟩ := (r.blk id b' (by omega) hb').at_
      exact k (Sub.ext hf) rfl rfl
  · intro id hid hid5
    have hid : h.n + 1 ≤ id := hid
    show get5 id (set5 h.n _ h.t) = none
    rw [get5_set5 _ _ _ _ hid5 hb, if_neg (by omega)]
    exact r.fin id (by omega) hid5
  · have := Rv.msl (Φ := ext Φ h.n ⟨b, o, c * z⟩) (id := h.n) (off := 0) (n := n) (z := z) (cap := none) (e := ⟨b, o, c * z⟩) (c := c) (ext_at _ _ _) hn hcm (by show 0 + c * z ≤ c * z; omega) trivial
    exact this
  · intro id hid
    unfold Ev.ext
    rw [if_neg (by omega)]
theorem emQs_s {l : List Rat} {k : AV → Hp → Res} {r : Res} (e : emQs h l k = r) (hr : okR r) : ∃ a h1, k a h1 = r ∧ Em h h1 (fun X w v => RS ratTy X w v (l.map ofQ)) a := by
  cases l with
  | nil =>
    refine ⟨.z0, h, e, Nat.le_refl _, Gw.refl _, fun Φ τ w X v hR _ rs _ => ⟨Φ, hR, ?_, Tw.refl _ _ _ _ _⟩⟩
    obtain ⟨a, c, rfl, h1, h2, _⟩ := rs
    simp only [Rv]
    exact ⟨a, c, rfl, h2⟩
  | cons x l =>
    have e : emQc h (x :: l) (fun cs h1 => newB h1 ⟨fo, false, true, cs, .row⟩ fun id h' => fz (len (x :: l)) fun n => k (.sl id 0 n 4 none) h') = r := e
    obtain ⟨cs, h1, e2, hl, g1, g2, g3⟩ := emQc_s e hr
    unfold newB at e2
    cases hb : Nat.blt h1.n big5 with
    | false => rw [hb] at e2; have e2 : Res.no 30 = r := e2; subst e2; exact hr.elim
    | true =>
      rw [hb] at e2
      simp only [fz_eq, len_eq] at e2
      have hb := of_blt hb
      refine ⟨.sl h1.n 0 (x :: l).length 4 none, ⟨set5 h1.n (some ⟨fo, false, true, cs, .row⟩) h1.t, h1.n + 1⟩, e2, Nat.le_succ_of_le g1, Gw.trans g2 (fun _ => Grow.new hb), fun Φ τ w X v hR hX rs hF => ?_⟩
      obtain ⟨a, c, rfl, r1, r2, r3⟩ := rs
      obtain ⟨b, o, rfl, hx, r3⟩ := r3.resolve_left (by simp)
      have hF : Fre Φ h.n (h1.n + 1) := hF
      obtain ⟨vs, v1, v2, v3⟩ := rdQ_of ((x :: l).map ofQ) (fun i v => w.cell? ⟨b, o + i, none⟩ = some v) (fun i y hi => by
        obtain ⟨cs, q1, q2⟩ := r3 i y hi
        refine ⟨cs, q1, fun j u hj => ?_⟩
        have := q2 j u hj
        have hs : ratTy.sz = 4 := rfl
        rw [hs] at this
        rw [← Nat.add_assoc]; exact this)
      obtain ⟨Φ', q1, q2, q3⟩ := g3 Φ τ w X vs hR hX v1 (fun id i1 i2 => hF id i1 (Nat.lt_succ_of_lt i2))
      have hF1 : Fre Φ' h1.n (h1.n + 1) := hF.on g1 q3.same
      obtain ⟨Φ2, u1, u2, u3⟩ := q1.rows (n := (x :: l).length) (z := 4) hb (hF1 _ (Nat.le_refl _) (Nat.lt_succ_self _)) (hX b hx) q2 v3 (by rw [hl]; simp) hl (by rw [List.length_map] at r1; exact r1) r2
      refine ⟨Φ2, u1, ?_, q3.trans (g2 hR.lim) (Nat.le_succ _) q1.lim u3⟩
      rw [List.length_map]; exact u2
theorem fL_eq : ∀ (l : List Nat) (k : List Nat → Res), fL l k = k l
  | [], _ => rfl
  | x :: l, k => by unfold fL; rw [fz_eq, fL_eq l]
theorem emO_s {o : Ou} {k : AV → Hp → Res} {r : Res} (e : emO h o k = r) (hr : okR r) : ∃ a h1, k a h1 = r ∧ Em h h1 (fun X w v => OuR X w o v) a := by
  unfold emO at e
  split at e
  · rename_i x
    obtain ⟨a, h1, k1, g1, g2, g3⟩ := emI_s e hr
    refine ⟨.ag [.b (decide (x < 0)), a], h1, k1, g1, g2, fun Φ τ w X v hR hX hv hF => ?_⟩
    obtain ⟨p, c, rfl, rs⟩ := RV.int hv
    obtain ⟨Φ', q1, q2, q3⟩ := g3 Φ τ w X _ hR hX rs hF
    refine ⟨Φ', q1, ?_, q3⟩
    simp only [Rv, RvL]
    exact ⟨_, rfl, _, _, rfl, rfl, _, _, rfl, q2, rfl⟩
  · rename_i x
    obtain ⟨a, h1, e2, g1, g2, g3⟩ := emI_s e hr
    obtain ⟨b, h2, k1, f1, f2, f3⟩ := emI_s e2 hr
    refine ⟨.ag [.b (decide (x.num < 0)), a, .b (decide ((Int.ofNat x.den) < 0)), b], h2, k1, Nat.le_trans g1 f1, Gw.trans g2 f2, fun Φ τ w X v hR hX hv hF => ?_⟩
    obtain ⟨p, c, p2, c2, rfl, rs, rs2⟩ := RV.rat hv
    obtain ⟨Φ', q1, q2, q3⟩ := g3 Φ τ w X _ hR hX rs (fun id i1 i2 => hF id i1 (Nat.lt_of_lt_of_le i2 f1))
    obtain ⟨Φ2, u1, u2, u3⟩ := f3 Φ' τ w X _ q1 hX rs2 (hF.on g1 q3.same)
    refine ⟨Φ2, u1, ?_, q3.trans (g2 hR.lim) f1 q1.lim u3⟩
    simp only [Rv, RvL]
    exact ⟨_, rfl, _, _, rfl, rfl, _, _, rfl, q2.mono u3.sub, _, _, rfl, rfl, _, _, rfl, u2, rfl⟩
  · rename_i x
    rw [fI_eq] at e
    refine ⟨_, h, e, Nat.le_refl _, Gw.refl _, fun Φ τ w X v hR _ hv _ => ⟨Φ, hR, ?_, Tw.refl _ _ _ _ _⟩⟩
    simp only [Rv]; exact hv
  · rename_i x
    refine ⟨.b x, h, by cases x <;> exact e, Nat.le_refl _, Gw.refl _, fun Φ τ w X v hR _ hv _ => ⟨Φ, hR, ?_, Tw.refl _ _ _ _ _⟩⟩
    simp only [Rv]; exact hv
  · rename_i l
    rw [fL_eq] at e
    refine ⟨.s l, h, e, Nat.le_refl _, Gw.refl _, fun Φ τ w X v hR _ hv _ => ⟨Φ, hR, ?_, Tw.refl _ _ _ _ _⟩⟩
    simp only [Rv]; exact hv
  · exact emQs_s e hr
def EmL (h h1 : Hp) (os : List Ou) (as0 : List AV) : Prop := h.n ≤ h1.n ∧ Gw h h1 ∧
  ∀ (Φ : Phi) (τ : Tau) (w : World) (X : Nat → Prop) (vs : List Value), Rel Φ τ h w → (∀ b, ¬ X b → τ b = .ro) → OuL X w os vs → Fre Φ h.n h1.n → ∃ Φ', Rel Φ' τ h1 w ∧ RvL Φ' as0 vs ∧ Tw Φ τ h w Φ' τ h1.n w
theorem emL_s : ∀ {os : List Ou} {h : Hp} {k : List AV → Hp → Res} {r : Res}, emL h os k = r → okR r → ∃ as0 h1, k as0 h1 = r ∧ as0.length = os.length ∧ EmL h h1 os as0 := by
  intro os
  induction os with
  | nil =>
    intro h k r e hr
    refine ⟨[], h, e, rfl, Nat.le_refl _, Gw.refl _, fun Φ τ w X vs hR _ hv _ => ⟨Φ, hR, ?_, Tw.refl _ _ _ _ _⟩⟩
    simp only [RvL]; exact hv
  | cons o os ih =>
    intro h k r e hr
    unfold emL at e
    obtain ⟨a, h1, e2, g1, g2, g3⟩ := emO_s e hr
    obtain ⟨as0, h2, k1, hl, f1, f2, f3⟩ := ih e2 hr
    refine ⟨a :: as0, h2, k1, by simp [hl], Nat.le_trans g1 f1, Gw.trans g2 f2, fun Φ τ w X vs hR hX hv hF => ?_⟩
    obtain ⟨v, us, rfl, v1, v2⟩ := hv
    obtain ⟨Φ', q1, q2, q3⟩ := g3 Φ τ w X _ hR hX v1 (fun id i1 i2 => hF id i1 (Nat.lt_of_lt_of_le i2 f1))
    obtain ⟨Φ2, u1, u2, u3⟩ := f3 Φ' τ w X _ q1 hX v2 (hF.on g1 q3.same)
    refine ⟨Φ2, u1, ?_, q3.trans (g2 hR.lim) f1 q1.lim u3⟩
    simp only [RvL]
    exact ⟨_, _, rfl, q2.mono u3.sub, u2⟩
theorem wrp_s {os : List Ou} {as0 : List AV} {h h1 : Hp} (hl : as0.length = os.length) (g : EmL h h1 os as0) : Em h h1 (fun X w v => PoR X w os v) (wrp as0) := by
  obtain ⟨g1, g2, g3⟩ := g
  refine ⟨g1, g2, fun Φ τ w X v hR hX hv hF => ?_⟩
  unfold PoR at hv
  split at hv
  · rename_i o
    match as0, hl with
    | [a], _ =>
      obtain ⟨Φ', q1, q2, q3⟩ := g3 Φ τ w X [v] hR hX ⟨v, [], rfl, hv, rfl⟩ hF
      simp only [RvL] at q2
      obtain ⟨_, _, e, q2, rfl⟩ := q2
      cases e
      exact ⟨Φ', q1, q2, q3⟩
  · rename_i hne
    obtain ⟨vs, rfl, hv⟩ := hv
    obtain ⟨Φ', q1, q2, q3⟩ := g3 Φ τ w X vs hR hX hv hF
    refine ⟨Φ', q1, ?_, q3⟩
    have hw : wrp as0 = .tp as0 := by
      unfold wrp
      split
      · rename_i a
        match os, hl with
        | [o], _ => exact absurd rfl (hne o)
      · rfl
    rw [hw]
    simp only [Rv]
    exact ⟨vs, rfl, q2⟩
end
theorem prF_g {P : Program} {k : FuncId} {ts : List Tg} {f : List In → Option (List Ou)} (hk : callable P k = true) {args : List AV} {h : Hp} {r : Res}
    (con : ∀ (Φ : Phi) (τ τ1 : Tau) (w : World), Rel Φ τ h w → Tw Φ τ h w Φ τ1 h.n w → ∀ ins vs os, InL (XR τ1 w) w ins vs → f ins = some os → Calls P k vs.toArray w (Ret w fun v w' => PoR (XR τ1 w) w' os v)) (e : prF ts f args h = r) (hr : okR r) :
    (∃ fn, P.funcs[k]? = some fn ∧ (fn.name == "runtime.NumGoroutine") = false ∧ fn.body.isNone = false) ∧ (h.n ≤ big5 → Grow h (hpR r h)) ∧
    ∀ Φ τ w vs, Rel Φ τ h w → Fre Φ h.n (hpR r h).n → RvL Φ args vs → Calls P k vs.toArray w (RetE Φ τ h w r) := by
  refine ⟨?_, ?_⟩
  · unfold callable at hk
    cases hf : P.funcs[k]? with
    | none => rw [hf] at hk; cases hk
    | some fn =>
      rw [hf] at hk
      obtain ⟨k1, k2⟩ := and_t hk
      exact ⟨fn, rfl, not_t k1, not_t k2⟩
  unfold prF at e
  cases hrd : rdL (frzL h ts args) ts args with
  | none => simp only [hrd] at e; subst e; exact hr.elim
  | some ins =>
    cases hf : f ins with
    | none => simp only [hrd, hf] at e; subst e; exact hr.elim
    | some os =>
      simp only [hrd, hf] at e
      obtain ⟨as0, h2, rfl, hl, g⟩ := emL_s e hr
      obtain ⟨z1, z2⟩ := frzL_g ts args h
      obtain ⟨w1, w2, w3⟩ := wrp_s hl g
      refine ⟨Gw.trans z2 w2, fun Φ τ w vs hR hF hv => ?_⟩
      have hF : Fre Φ h.n h2.n := hF
      obtain ⟨τ1, r1, t1⟩ := frzL_s ts args h τ hR
      have hin := rdL_s r1 hv hrd
      refine (con Φ τ τ1 w hR (z1 ▸ t1) ins vs os hin hf).mono ?_
      intro en w' hq
      cases en with
      | returned x =>
        obtain ⟨po, be⟩ := hq
        have hb : ∀ g, g < w.heap.size → w'.heap[g]? = w.heap[g]? ∧ (fun g => if g < w.heap.size then τ1 g else Lab.ro) g = τ1 g := fun g hg => ⟨be.block g hg, if_pos hg⟩
        have r2 : Rel Φ (fun g => if g < w.heap.size then τ1 g else .ro) (frzL h ts args) w' := r1.kept (Sub.refl _) hb
        have t2 : Tw Φ τ1 (frzL h ts args) w Φ (fun g => if g < w.heap.size then τ1 g else .ro) (frzL h ts args).n w' := ⟨be.os, be.tape, be.output, be.size, Sub.refl _, fun _ _ => rfl, fun g hg _ => hb g hg⟩
        have hX : ∀ b, ¬ XR τ1 w b → (fun g => if g < w.heap.size then τ1 g else Lab.ro) b = .ro := by
          intro b hx
          show (if b < w.heap.size then τ1 b else Lab.ro) = .ro
          by_cases hlt : b < w.heap.size
          · rw [if_pos hlt]
            exact Classical.byContradiction fun hne => hx ⟨hlt, hne⟩
          · rw [if_neg hlt]
        obtain ⟨Φ', q1, q2, q3⟩ := w3 Φ _ w' _ x r2 hX po (by rw [z1]; exact hF)
        exact ⟨_, _, rfl, Φ', _, q2, q1, (t1.trans (z2 hR.lim) (Nat.le_refl _) r1.lim t2).trans (z2 hR.lim) w1 r1.lim q3⟩
      | panicked ch => exact hq.elim
      | outgrown => exact hq.elim
theorem prF_s {P : Program} {k : FuncId} {ts : List Tg} {f : List In → Option (List Ou)} (hk : callable P k = true) (con : ConOK P k f) {args : List AV} {h : Hp} {r : Res} (e : prF ts f args h = r) (hr : okR r) :
    (∃ fn, P.funcs[k]? = some fn ∧ (fn.name == "runtime.NumGoroutine") = false ∧ fn.body.isNone = false) ∧ (h.n ≤ big5 → Grow h (hpR r h)) ∧
    ∀ Φ τ w vs, Rel Φ τ h w → Fre Φ h.n (hpR r h).n → RvL Φ args vs → Calls P k vs.toArray w (RetE Φ τ h w r) :=
  prF_g hk (fun Φ τ τ1 w _ _ ins vs os hin hf => con (XR τ1 w) w ins vs os (fun b hb => hb.1) hin hf) e hr
theorem prOf_s {P : Program} : ∀ {T : PrT}, (∀ e ∈ T, callable P e.1 = true ∧ ConOK P e.1 e.2.2) → PrimS P (prOf T) := by
  intro T
  induction T with
  | nil => intro _ k p h; cases h
  | cons x T ih =>
    intro hT k p hp args h r e hr
    have hp : (bif Nat.beq k x.1 then some (prF x.2.1 x.2.2) else prOf T k) = some p := hp
    cases hb : Nat.beq k x.1 with
    | true =>
      rw [hb] at hp
      cases hp
      have := Nat.eq_of_beq_eq_true hb
      subst this
      obtain ⟨c1, c2⟩ := hT x (by simp)
      exact prF_s c1 c2 e hr
    | false =>
      rw [hb] at hp
      exact ih (fun e he => hT e (by simp [he])) k p hp args h r e hr
end Go.Ev
namespace Go.Ev
set_option linter.unusedVariables false
set_option linter.unusedSimpArgs false
open Go Go.Wf Go.RowKit
abbrev PrL := List (FuncId × (List AV → Hp → Res))
noncomputable def prL : PrL → Prim
  | [] => fun _ => none
  | e :: r => fun j => bif Nat.beq j e.1 then some e.2 else prL r j
def PrimK (P : Program) (k : FuncId) (p : List AV → Hp → Res) : Prop := ∀ args h r, p args h = r → okR r →
  (∃ fn, P.funcs[k]? = some fn ∧ (fn.name == "runtime.NumGoroutine") = false ∧ fn.body.isNone = false) ∧ (h.n ≤ big5 → Grow h (hpR r h)) ∧
  ∀ Φ τ w vs, Rel Φ τ h w → Fre Φ h.n (hpR r h).n → RvL Φ args vs → Calls P k vs.toArray w (RetE Φ τ h w r)
theorem prL_s {P : Program} : ∀ {T : PrL}, (∀ e ∈ T, PrimK P e.1 e.2) → PrimS P (prL T) := by
  intro T
  induction T with
  | nil => intro _ k p h; cases h
  | cons x T ih =>
    intro hT k p hp args h r e hr
    have hp : (bif Nat.beq k x.1 then some x.2 else prL T k) = some p := hp
    cases hb : Nat.beq k x.1 with
    | true =>
      rw [hb] at hp
      cases hp
      have := Nat.eq_of_beq_eq_true hb
      subst this
      exact hT x (by simp) args h r e hr
    | false =>
      rw [hb] at hp
      exact ih (fun e he => hT e (by simp [he])) k p hp args h r e hr
theorem primK {P : Program} {k : FuncId} {ts : List Tg} {f : List In → Option (List Ou)} (hk : callable P k = true) (con : ConOK P k f) : PrimK P k (prF ts f) := fun _ _ _ e hr => prF_s hk con e hr
noncomputable def tabB (h : Hp) : List (Nat × List AV) → Bool
  | [] => true
  | p :: r => getG h p.1 (fun cs => avsEq cs p.2) false && tabB h r
def allI : List AV → Bool
  | [] => true
  | .i _ _ :: l => allI l
  | _ :: _ => false
theorem allI_s : ∀ {l : List AV}, allI l = true → ∀ (i : Nat) a, l[i]? = some a → ∃ k n, a = .i k n := by
  intro l
  induction l with
  | nil => intro _ i a h; simp at h
  | cons x l ih =>
    intro h i a hi
    unfold allI at h
    split at h
    · rename_i hh; cases hh
    · rename_i k n l' hh
      cases hh
      cases i with
      | zero => cases hi; exact ⟨k, n, rfl⟩
      | succ i => exact ih h i a (by simpa using hi)
    · cases h
theorem getG_w {h : Hp} {id : Nat} {k : List AV → Bool} (e : getG h id k false = true) : ∃ b, id < h.n ∧ get5 id h.t = some b ∧ b.ob = .glb ∧ k b.cs = true := by
  unfold getG at e
  cases hn : Nat.blt id h.n with
  | false => rw [hn] at e; cases e
  | true =>
    rw [hn] at e
    cases hb : get5 id h.t with
    | none => rw [hb] at e; cases e
    | some b =>
      rw [hb] at e
      cases ho : b.ob with
      | glb => simp only [ho] at e; exact ⟨b, of_blt hn, rfl, ho, e⟩
      | _ => simp only [ho] at e; cases e
theorem tabB_s {Φ : Phi} {τ : Tau} {h : Hp} {w : World} : ∀ {l : List (Nat × List AV)}, tabB h l = true → (∀ p ∈ l, allI p.2 = true) → Rel Φ τ h w → TabsIn w h.n l ∧ ∀ p ∈ l, p.1 < w.heap.size ∧ τ p.1 = .ro := by
  intro l
  induction l with
  | nil => intro _ _ _; exact ⟨fun p hp => by simp at hp, fun p hp => by simp at hp⟩
  | cons q l ih =>
    intro h1 h2 hR
    unfold tabB at h1
    obtain ⟨k1, k2⟩ := and_t h1
    obtain ⟨b, hid, hb, hg, he⟩ := getG_w k1
    have he := avsEq_s _ _ he
    obtain ⟨e, C, g⟩ := (hR.blk q.1 b hid hb).tab hg
    obtain ⟨T, fr, ho⟩ := g.obj
    have hat := g.at_
    obtain ⟨i1, i2⟩ := ih k2 (fun p hp => h2 p (by simp [hp])) hR
    have hq := h2 q (by simp)
    refine ⟨fun p hp => ?_, fun p hp => ?_⟩
    · rcases List.mem_cons.1 hp with rfl | hp
      · refine ⟨hid, C, T, fr, by rw [← hat]; exact ho, fun Φ2 i a hi => ?_⟩
        obtain ⟨kk, n, rfl⟩ := allI_s hq i a hi
        obtain ⟨v, v1, v2⟩ := g.cr i _ (by rw [he]; exact hi)
        exact ⟨v, v1, by simp only [Rv] at v2 ⊢; exact v2⟩
      · exact i1 p hp
    · rcases List.mem_cons.1 hp with rfl | hp
      · rw [← hat]; exact ⟨(Array.getElem?_eq_some_iff.1 ho).1, g.lab⟩
      · exact i2 p hp
def ConT (P : Program) (l : List (Nat × List AV)) (k : FuncId) (f : List In → Option (List Ou)) : Prop := ∀ (X : Nat → Prop) (w : World) (n : Nat) ins vs os, (∀ b, X b → b < w.heap.size) → (∀ p ∈ l, ¬ X p.1) → n ≤ big5 → TabsIn w n l → InL X w ins vs → f ins = some os →
  Calls P k vs.toArray w (Ret w fun v w' => PoR X w' os v)
noncomputable def prFT (l : List (Nat × List AV)) (ts : List Tg) (f : List In → Option (List Ou)) (args : List AV) (h : Hp) : Res := bif tabB h l then prF ts f args h else .no 77
theorem primT {P : Program} {l : List (Nat × List AV)} {k : FuncId} {ts : List Tg} {f : List In → Option (List Ou)} (hl : ∀ p ∈ l, allI p.2 = true) (hk : callable P k = true) (con : ConT P l k f) : PrimK P k (prFT l ts f) := by
  intro args h r e hr
  unfold prFT at e
  cases hb : tabB h l with
  | false => rw [hb] at e; have e : Res.no 77 = r := e; subst e; exact hr.elim
  | true =>
    rw [hb] at e
    refine prF_g hk ?_ e hr
    intro Φ τ τ1 w hR t ins vs os hin hf
    obtain ⟨i1, i2⟩ := tabB_s hb hl hR
    refine con (XR τ1 w) w h.n ins vs os (fun b hb => hb.1) ?_ hR.lim i1 hin hf
    intro p hp hx
    obtain ⟨j1, j2⟩ := i2 p hp
    have := (t.keep p.1 j1 (fun id hh => by rw [j2] at hh; cases hh)).2
    exact hx.2 (this.trans j2)
noncomputable def rd0 (h : Hp) (a : AV) : Option (List Nat) := match a with
  | .ns => some []
  | .z0 => some []
  | .sl id off n z _ => bif Nat.beq z 1 then getB h id (fun b => bif Nat.ble (Nat.add off n) (len b.cs) then digN (tk (dr b.cs off) n) else none) none else none
  | _ => none
noncomputable def rdQc (h : Hp) : List AV → Option (List GRat)
  | [] => some []
  | .b s :: x :: .b s2 :: y :: r => (match rd0 h x, rd0 h y, rdQc h r with | some l, some m, some k => some (⟨⟨s, l⟩, ⟨s2, m⟩⟩ :: k) | _, _, _ => none)
  | _ => none
noncomputable def rdQs (h : Hp) (a : AV) : Option (List GRat) := match a with
  | .ns => some []
  | .z0 => some []
  | .sl id off n z _ => bif Nat.beq z 4 then getB h id (fun b => bif Nat.ble (Nat.add off (Nat.mul n 4)) (len b.cs) then rdQc h (tk (dr b.cs off) (Nat.mul n 4)) else none) none else none
  | _ => none
def dgF : Nat → Nat → Option (List Nat)
  | 0, _ => none
  | f + 1, n => bif Nat.beq n 0 then some [] else (match dgF f (Nat.div n 4294967296) with | some l => some (Nat.mod n 4294967296 :: l) | none => none)
noncomputable def eqZ (g : GInt) (z : Int) : Bool := match dgF 40 z.natAbs with
  | some l => g.neg == (match z with | .ofNat _ => false | .negSucc _ => true) && leqL g.mag l
  | none => false
noncomputable def eqQs : List GRat → List Rat → Bool
  | [], [] => true
  | g :: r, q :: s => eqZ g.num q.num && eqZ g.den (Int.ofNat q.den) && eqQs r s
  | _, _ => false
noncomputable def chkQs (r : Res) (l : List Rat) : Bool := match r with
  | .ok v h => (match rdQs h v with | some gs => eqQs gs l | none => false)
  | _ => false
theorem dgF_s : ∀ {f n : Nat} {l : List Nat}, dgF f n = some l → l = digs n := by
  intro f
  induction f with
  | zero => intro n l e; cases e
  | succ f ih =>
    intro n l e
    unfold dgF at e
    cases hn : Nat.beq n 0 with
    | true =>
      rw [hn] at e
      have := Nat.eq_of_beq_eq_true hn
      subst this
      cases e; rfl
    | false =>
      rw [hn] at e
      simp only [cond_false] at e
      have h0 : n ≠ 0 := fun hh => by subst hh; cases hn
      cases hd : dgF f (Nat.div n 4294967296) with
      | none => rw [hd] at e; cases e
      | some k =>
        rw [hd] at e
        cases e
        rw [digs_step h0, ih hd]; rfl
theorem eqZ_s {g : GInt} {z : Int} (h : eqZ g z = true) : g = ofZ z := by
  unfold eqZ at h
  split at h
  · rename_i l hl
    obtain ⟨h1, h2⟩ := and_t h
    rw [leqL_eq] at h2
    have h2 := of_decide_eq_true h2
    have h1 := eq_of_beq h1
    cases g with
    | mk a m =>
      have h2 : m = l := h2
      have h1 : a = _ := h1
      subst h2
      rw [h1, dgF_s hl]
      unfold ofZ
      cases z with
      | ofNat n => simp
      | negSucc n => simp [Int.negSucc_lt_zero]
  · cases h
theorem eqQs_s : ∀ {gs : List GRat} {l : List Rat}, eqQs gs l = true → gs = l.map ofQ := by
  intro gs
  induction gs with
  | nil => intro l h; cases l with
    | nil => rfl
    | cons q l => cases h
  | cons g gs ih =>
    intro l h
    cases l with
    | nil => cases h
    | cons q l =>
      unfold eqQs at h
      obtain ⟨h, h3⟩ := and_t h
      obtain ⟨h1, h2⟩ := and_t h
      have e1 := eqZ_s h1
      have e2 := eqZ_s h2
      rw [ih h3]
      cases g with
      | mk a b =>
        have e1 : a = _ := e1
        have e2 : b = _ := e2
        subst e1 e2
        rfl
section
variable {Φ : Phi} {τ : Tau} {h h' : Hp} {w w' : World} {X : Nat → Prop}
def Out_ (Φ : Phi) (h : Hp) (X : Nat → Prop) : Prop := ∀ id b e, id < h.n → get5 id h.t = some b → Φ id = some e → ¬ X e.g
theorem rd0_s {a : AV} {v : Value} {ds : List Nat} (r : Rel Φ τ h w) (hO : Out_ Φ h X) (hv : Rv Φ a v) (e : rd0 h a = some ds) : RS u32Ty X w v ds := by
  unfold rd0 at e
  split at e
  · cases e
    simp only [Rv] at hv
    exact ⟨none, 0, hv, Nat.le_refl _, Nat.zero_le _, .inl rfl⟩
  · cases e
    simp only [Rv] at hv
    obtain ⟨p, c, hv, hc⟩ := hv
    exact ⟨p, c, hv, Nat.zero_le _, hc, .inl rfl⟩
  · rename_i id off n z cap
    cases hz : Nat.beq z 1 with
    | false => rw [hz] at e; cases e
    | true =>
      rw [hz] at e
      have hz1 := Nat.eq_of_beq_eq_true hz
      subst hz1
      simp only [cond_true] at e
      rcases getB_w (h := h) (id := id) (k := fun b => bif Nat.ble (Nat.add off n) (len b.cs) then digN (tk (dr b.cs off) n) else none) (no := none) with ⟨b, h1, h2, h3, e2⟩ | e2
      · rw [e2] at e
        cases hq : Nat.ble (Nat.add off n) (len b.cs) with
        | false => rw [hq] at e; cases e
        | true =>
          rw [hq] at e
          have q2 := Nat.le_of_ble_eq_true hq
          rw [len_eq] at q2
          have q2 : off + n ≤ b.cs.length := q2
          simp only [cond_true] at e
          rw [tk_eq, dr_eq] at e
          obtain ⟨d1, d2⟩ := digN_s e
          obtain ⟨en, c, hen, hvv, g1, g2, g3, _⟩ := hv.slI
          obtain ⟨en', C, T, br⟩ := (r.blk id b h1 h2).row h3
          have := br.ent
          rw [hen] at this; cases this
          have hl : ds.length = n := by rw [d1, List.length_take, List.length_drop]; omega
          refine ⟨_, c, by rw [hl]; exact hvv, by rw [hl]; exact g1, g2, .inr ⟨en.g, en.base + off, rfl, hO id b en h1 h2 hen, ?_⟩⟩
          intro i x hi
          obtain ⟨k1, k2⟩ := d2 i x hi
          rw [List.getElem?_take] at k1
          split at k1
          · rw [List.getElem?_drop] at k1
            obtain ⟨u, u1, u2⟩ := br.cell k1
            refine ⟨[.int .u32 x], ⟨rfl, k2⟩, fun j u' hj => ?_⟩
            cases j with
            | zero =>
              cases hj
              simp only [Rv] at u2
              subst u2
              show w.cell? ⟨en.g, en.base + off + i * 1 + 0, none⟩ = _
              rw [show en.base + off + i * 1 + 0 = en.base + (off + i) by omega]
              exact u1
            | succ j => simp at hj
          · cases k1
      · rw [e2] at e; cases e
  · cases e
theorem rdQc_s (r : Rel Φ τ h w) (hO : Out_ Φ h X) : ∀ {cs : List AV} {vs : List Value} {gs : List GRat}, RvL Φ cs vs → rdQc h cs = some gs → gs.length * 4 = cs.length ∧ ∀ (i : Nat) g, gs[i]? = some g → ∃ us, ratTy.rd X w us g ∧ ∀ (j : Nat) u, us[j]? = some u → vs[i * 4 + j]? = some u
  | [], vs, gs, hv, e => by
    unfold rdQc at e
    cases e
    exact ⟨rfl, fun i g hi => by simp at hi⟩
  | .b s :: x :: .b q :: y :: cs, vs, gs, hv, e => by
    unfold rdQc at e
    cases hx : rd0 h x with
    | none => rw [hx] at e; cases e
    | some l =>
      cases hy : rd0 h y with
      | none => rw [hx, hy] at e; cases e
      | some m =>
        cases hc : rdQc h cs with
        | none => rw [hx, hy, hc] at e; cases e
        | some k =>
          rw [hx, hy, hc] at e
          cases e
          simp only [RvL, Rv] at hv
          obtain ⟨v1, r1, rfl, rfl, v2, r2, rfl, a2, v3, r3, rfl, rfl, v4, r4, rfl, a4, hv⟩ := hv
          obtain ⟨i1, i2⟩ := rdQc_s r hO hv hc
          refine ⟨by simp only [List.length_cons]; omega, fun i g hi => ?_⟩
          cases i with
          | zero =>
            cases hi
            refine ⟨[.bool s, v2, .bool q, v4], ⟨v2, v4, rfl, rd0_s r hO a2 hx, rd0_s r hO a4 hy⟩, fun j u hj => ?_⟩
            match j with
            | 0 => cases hj; rfl
            | 1 => cases hj; rfl
            | 2 => cases hj; rfl
            | 3 => cases hj; rfl
            | j + 4 => simp at hj
          | succ i =>
            obtain ⟨us, u1, u2⟩ := i2 i g (by simpa using hi)
            refine ⟨us, u1, fun j u hj => ?_⟩
            rw [show (i + 1) * 4 + j = i * 4 + j + 4 by omega]
            exact u2 j u hj
theorem rdQs_s {a : AV} {v : Value} {gs : List GRat} (r : Rel Φ τ h w) (hO : Out_ Φ h X) (hv : Rv Φ a v) (e : rdQs h a = some gs) : RS ratTy X w v gs := by
  unfold rdQs at e
  split at e
  · cases e
    simp only [Rv] at hv
    exact ⟨none, 0, hv, Nat.le_refl _, Nat.zero_le _, .inl rfl⟩
  · cases e
    simp only [Rv] at hv
    obtain ⟨p, c, hv, hc⟩ := hv
    exact ⟨p, c, hv, Nat.zero_le _, hc, .inl rfl⟩
  · rename_i id off n z cap
    cases hz : Nat.beq z 4 with
    | false => rw [hz] at e; cases e
    | true =>
      rw [hz] at e
      have hz1 := Nat.eq_of_beq_eq_true hz
      subst hz1
      simp only [cond_true] at e
      rcases getB_w (h := h) (id := id) (k := fun b => bif Nat.ble (Nat.add off (Nat.mul n 4)) (len b.cs) then rdQc h (tk (dr b.cs off) (Nat.mul n 4)) else none) (no := none) with ⟨b, h1, h2, h3, e2⟩ | e2
      · rw [e2] at e
        cases hq : Nat.ble (Nat.add off (Nat.mul n 4)) (len b.cs) with
        | false => rw [hq] at e; cases e
        | true =>
          rw [hq] at e
          have q2 := Nat.le_of_ble_eq_true hq
          rw [len_eq] at q2
          have q2 : off + n * 4 ≤ b.cs.length := q2
          simp only [cond_true] at e
          rw [tk_eq, dr_eq] at e
          have e : rdQc h ((b.cs.drop off).take (n * 4)) = some gs := e
          obtain ⟨en, c, hen, hvv, g1, g2, g3, _⟩ := hv.slI
          obtain ⟨en', C, T, br⟩ := (r.blk id b h1 h2).row h3
          have := br.ent
          rw [hen] at this; cases this
          obtain ⟨vs, v1, v2, v3⟩ := br.cells off (n * 4) (by rw [List.length_drop]; omega)
          obtain ⟨d1, d2⟩ := rdQc_s r hO v2 e
          have hl : gs.length = n := by rw [List.length_take, List.length_drop] at d1; omega
          refine ⟨_, c, by rw [hl]; exact hvv, by rw [hl]; exact g1, g2, .inr ⟨en.g, en.base + off, rfl, hO id b en h1 h2 hen, ?_⟩⟩
          intro i x hi
          obtain ⟨us, u1, u2⟩ := d2 i x hi
          refine ⟨us, u1, fun j u hj => ?_⟩
          have := v3 _ _ (u2 j u hj)
          have hs : ratTy.sz = 4 := rfl
          rw [hs, Nat.add_assoc (en.base + off)]
          exact this
      · rw [e2] at e; cases e
  · cases e
end
theorem closedR {P : Program} {pr : Prim} {ex : FuncId → Nat} (hx : ExS P ex) (hp : PrimS P pr) (hm : P.follows .mixedOrders = true) {m k n : Nat} {l : List (Nat × List AV)} {args : List AV} {v : AV} {h' : Hp} (e : evCall P pr ex m k args (hpG n l) = .ok v h')
    (X : Nat → Prop) (w : World) (hX : ∀ b, X b → b < w.heap.size) (hT : ∀ p ∈ l, ¬ X p.1) (hn : n ≤ big5) (hw : TabsIn w n l) (vs : List Value) (hv : ∀ Φ, RvL Φ args vs) :
    Calls P k vs.toArray w (Ret w fun x w' => ∃ Φ τ, Rv Φ v x ∧ Rel Φ τ h' w' ∧ Out_ Φ h' X) := by
  obtain ⟨_, _, s⟩ := (call_s hx hp hm m).run k args (hpG n l) _ e trivial
  have := s (PhiG l) (TauG l) w vs (relG hn hw) (fun id h1 _ => if_neg (fun hh => by
    obtain ⟨p, hp, rfl⟩ := List.mem_map.1 hh
    exact absurd (hw p hp).1 (Nat.not_lt.2 h1))) (hv _)
  refine this.mono ?_
  intro en w' hh
  have hlab : ∀ g id, TauG l g = .own id → False := by
    intro g id e
    unfold TauG at e
    split at e <;> cases e
  cases en with
  | returned x =>
    obtain ⟨v2, h2, e9, Φ', τ', hv, hr, t⟩ := hh
    cases e9
    refine ⟨⟨Φ', τ', hv, hr, ?_⟩, ⟨t.os, t.tape, t.output, t.size, fun g hg => (t.keep g hg fun id e => (hlab g id e).elim).1⟩⟩
    intro id b en hid hb hen hxg
    have hlt := hX _ hxg
    obtain ⟨e2, he2, _, hl2, _⟩ := (hr.blk id b hid hb).at_
    rw [hen] at he2
    cases he2
    have hk := (t.keep en.g hlt fun id e => (hlab en.g id e).elim).2
    rw [hk] at hl2
    have hro : TauG l en.g = .ro := by
      split at hl2
      · exact hl2
      · exact (hlab _ _ hl2).elim
    unfold TauG at hro
    split at hro
    · rename_i hm
      obtain ⟨p, hp, e3⟩ := List.mem_map.1 hm
      exact hT p hp (by rw [e3]; exact hxg)
    · cases hro
  | panicked ch => obtain ⟨v2, h2, e9, _⟩ := hh; cases e9
  | outgrown => exact hh.elim
theorem closedQs {P : Program} {pr : Prim} {ex : FuncId → Nat} (hx : ExS P ex) (hp : PrimS P pr) (hm : P.follows .mixedOrders = true) {m k n : Nat} {l : List (Nat × List AV)} {args : List AV} {qs : List Rat} (e : chkQs (evCall P pr ex m k args (hpG n l)) qs = true)
    (X : Nat → Prop) (w : World) (hX : ∀ b, X b → b < w.heap.size) (hT : ∀ p ∈ l, ¬ X p.1) (hn : n ≤ big5) (hw : TabsIn w n l) (vs : List Value) (hv : ∀ Φ, RvL Φ args vs) :
    Calls P k vs.toArray w (Ret w fun x w' => RS ratTy X w' x (qs.map ofQ)) := by
  unfold chkQs at e
  split at e
  · rename_i v h' he
    split at e
    · rename_i gs hg
      refine (closedR hx hp hm he X w hX hT hn hw vs hv).mono ?_
      intro en w' hh
      cases en with
      | returned x =>
        obtain ⟨⟨Φ, τ, h1, h2, h3⟩, hb⟩ := hh
        exact ⟨by rw [← eqQs_s e]; exact rdQs_s h2 h3 h1 hg, hb⟩
      | panicked ch => exact hh.elim
      | outgrown => exact hh.elim
    · cases e
  · cases e
end Go.Ev
namespace Go.Ev
set_option linter.unusedVariables false
set_option linter.unusedSimpArgs false
open Go Go.Wf
def fZ (g : GInt → Ou) : List In → Option (List Ou) | [.z a] => some [g a] | _ => none
def fZZ (g : GInt → GInt → Ou) : List In → Option (List Ou) | [.z a, .z b] => some [g a b] | _ => none
def fQ (g : GRat → Ou) : List In → Option (List Ou) | [.q a] => some [g a] | _ => none
def fQQ (g : GRat → GRat → Ou) : List In → Option (List Ou) | [.q a, .q b] => some [g a b] | _ => none
def i64B (n : Int) : Bool := match n with
  | .ofNat m => Nat.ble m 9223372036854775807
  | .negSucc m => Nat.ble m 9223372036854775807
def fN (g : Int → Ou) : List In → Option (List Ou) | [.n a] => bif i64B a then some [g a] else none | _ => none
def fDM : List In → Option (List Ou) | [.z a, .z b] => bif Nat.beq (val b.mag) 0 then none else some [.z (a.toZ / b.toZ), .z (a.toZ % b.toZ), .n 0] | _ => none
def fEx : List In → Option (List Ou) | [.z a, .z b] => bif Nat.beq (val b.mag) 0 then none else bif Nat.beq (Int.natAbs (a.toZ % b.toZ)) 0 then some [.z (a.toZ / b.toZ), .n 0] else none | _ => none
def oneB (a : GInt) : Bool := match a with
  | ⟨false, [1]⟩ => true
  | _ => false
def fOv : List In → Option (List Ou) | [.z a, .z b] => some [.q (Rat.divInt a.toZ b.toZ)] | _ => none
end Go.Ev
namespace Go.Ev
set_option linter.unusedVariables false
set_option linter.unusedSimpArgs false
open Go Go.Wf Go.Proofs
section
variable {P : Program} {k : FuncId}
theorem conZ {g : GInt → Ou} (h : ∀ (X : Nat → Prop) (w : World) v a, (∀ b, X b → b < w.heap.size) → RV intTy X w v a → a.mag.length ≤ 64 → Calls P k #[v] w (Ret w fun v w' => OuR X w' (g a) v)) : ConOK P k (fZ g) := by
  intro X w ins vs os hX hin e
  unfold fZ at e
  split at e
  · cases e
    obtain ⟨v, u, rfl, ⟨r0, l0⟩, rfl⟩ := hin
    exact h X w v _ hX r0 l0
  · cases e
theorem conZZ {g : GInt → GInt → Ou} (h : ∀ (X : Nat → Prop) (w : World) v a v1 b, (∀ b, X b → b < w.heap.size) → RV intTy X w v a → a.mag.length ≤ 64 → RV intTy X w v1 b → b.mag.length ≤ 64 → Calls P k #[v, v1] w (Ret w fun v w' => OuR X w' (g a b) v)) : ConOK P k (fZZ g) := by
  intro X w ins vs os hX hin e
  unfold fZZ at e
  split at e
  · cases e
    obtain ⟨v, u, rfl, ⟨r0, l0⟩, v1, u1, rfl, ⟨r1, l1⟩, rfl⟩ := hin
    exact h X w v _ v1 _ hX r0 l0 r1 l1
  · cases e
theorem conQ {g : GRat → Ou} (h : ∀ (X : Nat → Prop) (w : World) v a, (∀ b, X b → b < w.heap.size) → RV ratTy X w v a → a.num.mag.length ≤ 64 → a.den.mag.length ≤ 64 → Calls P k #[v] w (Ret w fun v w' => OuR X w' (g a) v)) : ConOK P k (fQ g) := by
  intro X w ins vs os hX hin e
  unfold fQ at e
  split at e
  · cases e
    obtain ⟨v, u, rfl, ⟨r0, l0, m0⟩, rfl⟩ := hin
    exact h X w v _ hX r0 l0 m0
  · cases e
theorem conQQ {g : GRat → GRat → Ou} (h : ∀ (X : Nat → Prop) (w : World) v a v1 b, (∀ b, X b → b < w.heap.size) → RV ratTy X w v a → a.num.mag.length ≤ 64 → a.den.mag.length ≤ 64 → RV ratTy X w v1 b → b.num.mag.length ≤ 64 → b.den.mag.length ≤ 64 →
    Calls P k #[v, v1] w (Ret w fun v w' => OuR X w' (g a b) v)) : ConOK P k (fQQ g) := by
  intro X w ins vs os hX hin e
  unfold fQQ at e
  split at e
  · cases e
    obtain ⟨v, u, rfl, ⟨r0, l0, m0⟩, v1, u1, rfl, ⟨r1, l1, m1⟩, rfl⟩ := hin
    exact h X w v _ v1 _ hX r0 l0 m0 r1 l1 m1
  · cases e
theorem i64B_s {n : Int} (h : i64B n = true) : -9223372036854775808 ≤ n ∧ n ≤ 9223372036854775807 := by
  unfold i64B at h
  split at h
  · rename_i m
    have := Nat.le_of_ble_eq_true h
    have e : Int.ofNat m = (m : Int) := rfl
    rw [e]; constructor <;> omega
  · rename_i m
    have := Nat.le_of_ble_eq_true h
    have e : Int.negSucc m = -(m : Int) - 1 := by omega
    rw [e]; constructor <;> omega
theorem conN {g : Int → Ou} (h : ∀ (X : Nat → Prop) (w : World) n, (∀ b, X b → b < w.heap.size) → -9223372036854775808 ≤ n → n ≤ 9223372036854775807 → Calls P k #[.int .i64 n] w (Ret w fun v w' => OuR X w' (g n) v)) : ConOK P k (fN g) := by
  intro X w ins vs os hX hin e
  unfold fN at e
  split at e
  · rename_i a
    cases hb : i64B a with
    | false => rw [hb] at e; cases e
    | true =>
      rw [hb] at e
      cases e
      obtain ⟨v, u, rfl, rfl, rfl⟩ := hin
      obtain ⟨h1, h2⟩ := i64B_s hb
      exact h X w a hX h1 h2
  · cases e
theorem Calls.po {args : Array Value} {w : World} {φ ψ : Value → World → Prop} (c : Calls P k args w (Ret w φ)) (h : ∀ v w', φ v w' → ψ v w') : Calls P k args w (Ret w ψ) := by
  refine Calls.mono c ?_
  intro en w' hq
  cases en with
  | returned v => exact ⟨h _ _ hq.1, hq.2⟩
  | panicked ch => exact hq.elim
  | outgrown => exact hq.elim
end
theorem con_dm : ConOK Tryz.prog 26 fDM := by
  intro X w ins vs os hX hin e
  unfold fDM at e
  split at e
  · rename_i a b
    cases hb : Nat.beq (val b.mag) 0 with
    | true => rw [hb] at e; cases e
    | false =>
      rw [hb] at e
      cases e
      obtain ⟨v, u, rfl, ⟨r0, l0⟩, v1, u1, rfl, ⟨r1, l1⟩, rfl⟩ := hin
      refine Calls.po (c_divmodZ hX r0 r1 (by omega) (by omega) (fun hh => by rw [hh] at hb; cases hb)) ?_
      rintro v w' ⟨v0, v1, v2, rfl, h0, h1, rfl⟩
      exact ⟨[v0, v1, _], rfl, _, _, rfl, h0, _, _, rfl, h1, _, _, rfl, rfl, rfl⟩
  · cases e
theorem con_ex : ConOK Tryz.prog 145 fEx := by
  intro X w ins vs os hX hin e
  unfold fEx at e
  split at e
  · rename_i a b
    cases hb : Nat.beq (val b.mag) 0 with
    | true => rw [hb] at e; cases e
    | false =>
      rw [hb] at e
      simp only [cond_false] at e
      cases hm : Nat.beq (Int.natAbs (a.toZ % b.toZ)) 0 with
      | false => rw [hm] at e; cases e
      | true =>
        rw [hm] at e
        cases e
        have hm := Nat.eq_of_beq_eq_true hm
        obtain ⟨v, u, rfl, ⟨r0, l0⟩, v1, u1, rfl, ⟨r1, l1⟩, rfl⟩ := hin
        refine Calls.po (c_exactZ hX r0 r1 (by omega) (by omega) (fun hh => by rw [hh] at hb; cases hb) (by omega)) ?_
        rintro v w' ⟨v0, v1, rfl, h0, rfl⟩
        exact ⟨[v0, _], rfl, _, _, rfl, h0, _, _, rfl, rfl, rfl⟩
  · cases e
theorem con_ov : ConOK Tryz.prog 100 fOv := by
  intro X w ins vs os hX hin e
  unfold fOv at e
  split at e
  · cases e
    obtain ⟨v, u, rfl, ⟨r0, l0⟩, v1, u1, rfl, ⟨r1, l1⟩, rfl⟩ := hin
    exact c_over hX r0 r1 (by omega) (by omega)
  · cases e
theorem oneB_s (a : GInt) : oneB a = decide (a = ofZ 1) := by
  unfold oneB
  split
  · exact (decide_eq_true rfl).symm
  · rename_i h
    refine (decide_eq_false fun e => ?_).symm
    exact h e
noncomputable def T0 : PrL := [
 (143, prF [.z] (fZ fun a => .z a.toZ)),
 (27, prF [.z] (fZ fun a => .n a.toZ.sign)),
 (144, prF [.z] (fZ fun a => .z (-a.toZ))),
 (482, prF [.z] (fZ fun a => .z (a.toZ.natAbs : Int))),
 (139, prF [.z, .z] (fZZ fun a b => .z (a.toZ + b.toZ))),
 (230, prF [.z, .z] (fZZ fun a b => .z (a.toZ - b.toZ))),
 (49, prF [.z, .z] (fZZ fun a b => .z (a.toZ * b.toZ))),
 (26, prF [.z, .z] (fDM)),
 (145, prF [.z, .z] (fEx)),
 (34, prF [.z, .z] (fZZ fun a b => .z (Int.gcd a.toZ b.toZ : Int))),
 (25, prF [.n] (fN fun n => .z n)),
 (65, prF [.z] (fZ fun a => .b (oneB a))),
 (100, prF [.z, .z] (fOv)),
 (58, prF [.q] (fQ fun a => .q a.q)),
 (197, prF [.q] (fQ fun a => .q (-a.q))),
 (140, prF [.q] (fQ fun a => .n (qsign a.q))),
 (84, prF [.q, .q] (fQQ fun a b => .q (a.q + b.q))),
 (192, prF [.q, .q] (fQQ fun a b => .q (a.q - b.q))),
 (280, prF [.q, .q] (fQQ fun a b => .n (qcmp a.q b.q))),
 (86, prF [.n] (fN fun n => .q (Rat.divInt n 1)))]
theorem T0_ok : ∀ e ∈ T0, PrimK Tryz.prog e.1 e.2 := by
  unfold T0
  simp only [List.forall_mem_cons]
  exact ⟨primK cb143 (conZ fun _ _ _ _ hX r l => c_normal hX r (by omega)),
    primK cb27 (conZ fun _ _ _ _ hX r l => c_signI hX r (by omega)),
    primK cb144 (conZ fun _ _ _ _ hX r l => c_negI hX r (by omega)),
    primK cb482 (conZ fun _ _ _ _ hX r l => c_absI hX r (by omega)),
    primK cb139 (conZZ fun _ _ _ _ _ _ hX r l s m => c_addZ hX r s (by omega) (by omega)),
    primK cb230 (conZZ fun _ _ _ _ _ _ hX r l s m => c_subZ hX r s (by omega) (by omega)),
    primK cb49 (conZZ fun _ _ _ _ _ _ hX r l s m => c_mulZ hX r s (by omega) (by omega)),
    primK cb26 (con_dm),
    primK cb145 (con_ex),
    primK cb34 (conZZ fun _ _ _ _ _ _ hX r l s m => c_gcdZ hX r s (by omega) (by omega)),
    primK cb25 (conN fun _ _ _ hX h1 h2 => c_ofI hX h1 h2),
    primK cb65 (conZ fun _ _ _ _ hX r l => Calls.po (c_one hX r) fun v w' e => e.trans (by rw [oneB_s])),
    primK cb100 (con_ov),
    primK cb58 (conQ fun _ _ _ _ hX r l m => c_rnormal hX r (by omega) (by omega)),
    primK cb197 (conQ fun _ _ _ _ hX r l m => c_rneg hX r (by omega) (by omega)),
    primK cb140 (conQ fun _ _ _ _ hX r l m => c_rsign hX r (by omega) (by omega)),
    primK cb84 (conQQ fun _ _ _ _ _ _ hX r l m s o p => c_radd hX r s (by omega) (by omega) (by omega) (by omega)),
    primK cb192 (conQQ fun _ _ _ _ _ _ hX r l m s o p => c_rsub hX r s (by omega) (by omega) (by omega) (by omega)),
    primK cb280 (conQQ fun _ _ _ _ _ _ hX r l m s o p => c_rcmp hX r s (by omega) (by omega) (by omega) (by omega)),
    primK cb86 (conN fun _ _ _ hX h1 h2 => c_rof hX h1 h2), fun _ h => by cases h⟩
end Go.Ev
namespace Go.Ev
set_option linter.unusedVariables false
set_option linter.unusedSimpArgs false
open Go Go.Wf Go.RowKit
noncomputable def ttO (o : Out) (t : Nat) : Bool := match o with
  | .rt f _ => (match getF t f with | .b true => true | _ => false)
  | _ => false
noncomputable def hp1 (ty k : Nat) : Hp := ⟨set5 0 (some ⟨ty, true, false, repl k [AV.u], .row⟩) (fill5 none), 1⟩
def Phi1 (g k : Nat) : Phi := fun id => if id = 0 then some ⟨g, 0, k⟩ else none
def Tau1 (g : Nat) : Tau := fun b => if b = g then .own 0 else .out
theorem repl_u (k : Nat) : repl k [AV.u] = List.replicate k AV.u := by
  unfold repl
  induction k with
  | zero => rfl
  | succ k ih => rw [List.replicate_succ, List.flatten_cons, ih]; rfl
theorem rel1 {w : World} {g ty : Nat} {vs : List Value} (hw : w.heap[g]? = some (.cells vs.toArray ty (0, 0))) : Rel (Phi1 g vs.length) (Tau1 g) (hp1 ty vs.length) w := by
  have h5 : ∀ id, id < big5 → get5 id (hp1 ty vs.length).t = if id = 0 then some ⟨ty, true, false, repl vs.length [AV.u], .row⟩ else none := by
    intro id hid
    have := get5_set5 id 0 (some (⟨ty, true, false, repl vs.length [AV.u], .row⟩ : Blk)) (fill5 none) hid (by decide)
    rw [get5_fill] at this
    exact this
  refine ⟨(by decide : 1 ≤ big5), ?_, ?_⟩
  · intro id b hid hb
    have hid : id < 1 := hid
    obtain rfl : id = 0 := by omega
    rw [h5 0 (by decide), if_pos rfl] at hb
    cases hb
    refine .inl ⟨⟨g, 0, vs.length⟩, vs.toArray, ty, ⟨if_pos rfl, if_pos rfl, rfl, .inl ⟨rfl, by simp⟩, ⟨(0, 0), hw, fun _ => rfl⟩, ?_, fun _ => ⟨rfl, ?_⟩, ?_⟩⟩
    · show (repl vs.length [AV.u]).length ≤ vs.length
      rw [repl_u, List.length_replicate]; exact Nat.le_refl _
    · show (repl vs.length [AV.u]).length = vs.length
      rw [repl_u, List.length_replicate]
    · intro i a hi
      have hi : (repl vs.length [AV.u])[i]? = some a := hi
      rw [repl_u, List.getElem?_replicate] at hi
      split at hi
      · rename_i hlt
        cases hi
        refine ⟨vs[i], by simp [hlt], ?_⟩
        simp only [Rv]
      · cases hi
  · intro id h1 h2
    rw [h5 id h2, if_neg (by have : 1 ≤ id := h1; omega)]
theorem fr1 {Φ : Phi} {F : Wf.Fr} {t : Nat} {a : AV} (ht : t < 4096) (h : Rv Φ a (F t)) : FR Φ (setF t a (fillF .u)) F := by
  intro s hs
  rw [getF_setF _ _ _ _ hs ht]
  by_cases e : s = t
  · rw [if_pos e, e]; exact h
  · rw [if_neg e, getF_fill]; simp only [Rv]
section
variable {fc : Fence} [Fw fc] {P : Program} {call : CallF} {n : Nat}
theorem tail_true (hc : CallS P call) (hn : n ≤ 4096) (hm : P.follows .mixedOrders = true) {c : Code} {t s g ty : Nat} {vs : List Value} {F : Wf.Fr} {w : World} {D : List Deferred} {Q : Wf.Post}
    (e : ttO (evCode P call n c (setF t (.p 0 0) (fillF .u)) (hp1 ty vs.length)) s = true) (ht : Nat.blt t 4096 = true) (hs : Nat.blt s 4096 = true) (hF : F t = .pointer (some ⟨g, 0, none⟩)) (hw : w.heap[g]? = some (.cells vs.toArray ty (0, 0)))
    (hq : ∀ F' w', F' s = .bool true → (w'.os = w.os ∧ w'.tape = w.tape ∧ w'.output = w.output ∧ w.heap.size ≤ w'.heap.size ∧ ∀ b, b < w.heap.size → b ≠ g → w'.heap[b]? = w.heap[b]?) → Q .ret F' w') : W fc P c n D Q F w := by
  have ok : okO (evCode P call n c (setF t (.p 0 0) (fillF .u)) (hp1 ty vs.length)) := by
    unfold ttO at e
    split at e
    · rename_i ho; rw [ho]; trivial
    · cases e
  obtain ⟨_, s1⟩ := code_s (fc := fc) hc hn hm c _ _ ok
  refine (s1 (Phi1 g vs.length) (Tau1 g) F w D (fr1 (of_blt ht) ?_) (rel1 hw) ?_).mono ?_
  · rw [hF]; simp only [Rv]; exact ⟨⟨g, 0, vs.length⟩, if_pos rfl, by simp⟩
  · intro id h1 _
    exact if_neg (by have : 1 ≤ id := h1; omega)
  · intro ex F' w' q
    unfold ttO at e
    split at e
    · rename_i f1 h1 ho
      rw [ho] at q
      cases ex with
      | ret =>
        obtain ⟨Φ', τ', q1, q2, q3⟩ := q
        split at e
        · rename_i hb
          have := q1 s (of_blt hs)
          rw [hb] at this
          refine hq F' w' this.bI ⟨q3.os, q3.tape, q3.output, q3.size, fun b hb1 hb2 => (q3.keep b hb1 fun id he => ?_).1⟩
          have he : Tau1 g b = .own id := he
          unfold Tau1 at he
          rw [if_neg hb2] at he
          cases he
        · cases e
      | _ => exact q.elim
    · cases e
end
end Go.Ev
namespace Go.Ev
set_option linter.unusedVariables false
set_option linter.unusedSimpArgs false
open Go Go.Wf Go.RowKit
theorem exS0 {P : Program} : ExS P (fun _ => 0) := fun _ h => absurd rfl h
theorem tabsBelow {w w' : World} {n : Nat} {l : List (Nat × List AV)} (h : TabsIn w n l) (hb : Below w.heap.size w w') : TabsIn w' n l := by
  intro p hp
  obtain ⟨h1, C, T, fr, h2, h3⟩ := h p hp
  refine ⟨h1, C, T, fr, ?_, h3⟩
  rw [hb.block _ (Array.getElem?_eq_some_iff.1 h2).1]
  exact h2
theorem toBelow {w w' : World} (h : Bel w w') : Below w.heap.size w w' := ⟨h.os, h.tape, h.output, h.size, fun k hk => h.block k hk id⟩
section
variable {fc : Fence} [Fw fc] {P : Program} {call : CallF} {n : Nat}
theorem tailG_true (hc : CallS P call) (hn : n ≤ 4096) (hm : P.follows .mixedOrders = true) {c : Code} {t s : Nat} {a : AV} {n0 : Nat} {l : List (Nat × List AV)} {F : Wf.Fr} {w : World} {D : List Deferred} {Q : Wf.Post}
    (e : ttO (evCode P call n c (setF t a (fillF .u)) (hpG n0 l)) s = true) (ht : Nat.blt t 4096 = true) (hs : Nat.blt s 4096 = true) (hF : ∀ Φ, Rv Φ a (F t)) (hn0 : n0 ≤ big5) (hw : TabsIn w n0 l)
    (hq : ∀ F' w', F' s = .bool true → Below w.heap.size w w' → Q .ret F' w') : W fc P c n D Q F w := by
  have ok : okO (evCode P call n c (setF t a (fillF .u)) (hpG n0 l)) := by
    unfold ttO at e
    split at e
    · rename_i ho; rw [ho]; trivial
    · cases e
  obtain ⟨_, s1⟩ := code_s (fc := fc) hc hn hm c _ _ ok
  refine (s1 (PhiG l) (TauG l) F w D (fr1 (of_blt ht) (hF _)) (relG hn0 hw) ?_).mono ?_
  · intro id h1 _
    exact if_neg (fun hh => by
      obtain ⟨p, hp, rfl⟩ := List.mem_map.1 hh
      exact absurd (hw p hp).1 (Nat.not_lt.2 h1))
  · intro ex F' w' q
    unfold ttO at e
    split at e
    · rename_i f1 h1 ho
      rw [ho] at q
      cases ex with
      | ret =>
        obtain ⟨Φ', τ', q1, q2, q3⟩ := q
        split at e
        · rename_i hb
          have := q1 s (of_blt hs)
          rw [hb] at this
          refine hq F' w' this.bI ⟨q3.os, q3.tape, q3.output, q3.size, fun b hb1 => (q3.keep b hb1 fun id he => ?_).1⟩
          have he : TauG l b = .own id := he
          unfold TauG at he
          split at he <;> cases he
        · cases e
      | _ => exact q.elim
    · cases e
end
end Go.Ev
namespace Go.Ev
set_option linter.unusedVariables false
set_option linter.unusedSimpArgs false
open Go Go.Wf Go.Proofs
def tab64 : List AV := [.i .u8 (Int.ofNat 0), .i .u8 (Int.ofNat 1), .i .u8 (Int.ofNat 56), .i .u8 (Int.ofNat 2), .i .u8 (Int.ofNat 57), .i .u8 (Int.ofNat 49), .i .u8 (Int.ofNat 28), .i .u8 (Int.ofNat 3), .i .u8 (Int.ofNat 61), .i .u8 (Int.ofNat 58), .i .u8 (Int.ofNat 42), .i .u8 (Int.ofNat 50), .i .u8 (Int.ofNat 38), .i .u8 (Int.ofNat 29), .i .u8 (Int.ofNat 17), .i .u8 (Int.ofNat 4), .i .u8 (Int.ofNat 62), .i .u8 (Int.ofNat 47), .i .u8 (Int.ofNat 59), .i .u8 (Int.ofNat 36), .i .u8 (Int.ofNat 45), .i .u8 (Int.ofNat 43), .i .u8 (Int.ofNat 51), .i .u8 (Int.ofNat 22), .i .u8 (Int.ofNat 53), .i .u8 (Int.ofNat 39), .i .u8 (Int.ofNat 33), .i .u8 (Int.ofNat 30), .i .u8 (Int.ofNat 24), .i .u8 (Int.ofNat 18), .i .u8 (Int.ofNat 12), .i .u8 (Int.ofNat 5), .i .u8 (Int.ofNat 63), .i .u8 (Int.ofNat 55), .i .u8 (Int.ofNat 48), .i .u8 (Int.ofNat 27), .i .u8 (Int.ofNat 60), .i .u8 (Int.ofNat 41), .i .u8 (Int.ofNat 37), .i .u8 (Int.ofNat 16), .i .u8 (Int.ofNat 46), .i .u8 (Int.ofNat 35), .i .u8 (Int.ofNat 44), .i .u8 (Int.ofNat 21), .i .u8 (Int.ofNat 52), .i .u8 (Int.ofNat 32), .i .u8 (Int.ofNat 23), .i .u8 (Int.ofNat 11), .i .u8 (Int.ofNat 54), .i .u8 (Int.ofNat 26), .i .u8 (Int.ofNat 40), .i .u8 (Int.ofNat 15), .i .u8 (Int.ofNat 34), .i .u8 (Int.ofNat 20), .i .u8 (Int.ofNat 31), .i .u8 (Int.ofNat 10), .i .u8 (Int.ofNat 25), .i .u8 (Int.ofNat 14), .i .u8 (Int.ofNat 19), .i .u8 (Int.ofNat 9), .i .u8 (Int.ofNat 13), .i .u8 (Int.ofNat 8), .i .u8 (Int.ofNat 7), .i .u8 (Int.ofNat 6)]
abbrev tabs1 : List (Nat × List AV) := [(1, tab64)]
theorem tabs1_i : ∀ p ∈ tabs1, allI p.2 = true := by
  intro p hp
  obtain rfl : p = (1, tab64) := by simpa using hp
  rfl
def bn : List (Int × Nat) := [(1, 1), (-1, 2), (1, 6), (0, 1), (-1, 30), (0, 1), (1, 42), (0, 1), (-1, 30), (0, 1), (5, 66), (0, 1), (-691, 2730), (0, 1), (7, 6), (0, 1), (-3617, 510), (0, 1), (43867, 798), (0, 1), (-174611, 330), (0, 1), (854513, 138), (0, 1), (-236364091, 2730), (0, 1), (8553103, 6), (0, 1), (-23749461029, 870), (0, 1), (8615841276005, 14322), (0, 1), (-7709321041217, 510), (0, 1), (2577687858367, 6), (0, 1), (-26315271553053477373, 1919190), (0, 1), (2929993913841559, 6), (0, 1), (-261082718496449122051, 13530)]
def bnQ (n : Nat) : List Rat := (bn.take n).map fun p => Rat.divInt p.1 (Int.ofNat p.2)
noncomputable def TA : PrL := (85, prF [.q, .q] (fQQ fun a b => .q (a.q * b.q))) :: (193, prF [.z] (fZ fun a => .q (Rat.divInt a.toZ 1))) :: T0
theorem TA_ok : ∀ e ∈ TA, PrimK Tryz.prog e.1 e.2 := by
  unfold TA
  rw [List.forall_mem_cons, List.forall_mem_cons]
  exact ⟨primK cb85 (conQQ fun _ _ _ _ _ _ hX r l m s o p => c_rmul hX r s (by omega) (by omega) (by omega) (by omega)), primK cb193 (conZ fun _ _ _ _ hX r l => c_rwhole hX r (by omega)), T0_ok⟩
noncomputable abbrev numR (n : Nat) : Res := evCall Tryz.prog (prL TA) (fun _ => 0) 100 345 [.i .i64 (Int.ofNat n)] (hpG 2 tabs1)
end Go.Ev
