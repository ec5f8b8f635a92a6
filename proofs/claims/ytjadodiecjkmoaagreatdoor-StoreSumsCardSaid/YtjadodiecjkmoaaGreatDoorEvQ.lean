/-
  Regions, code, calls: what the machine comes to is what the program does.
-/
import Derived.Test.YtjadodiecjkmoaaGreatDoorEvP
namespace Go.Ev
set_option linter.unusedVariables false
set_option linter.unusedSimpArgs false
open Go Go.Wf Go.RowKit

section
variable {fc : Fence} {P : Program} {call : CallF} {n : Nat}
def CodeS (fc : Fence) (P : Program) (n : Nat) (c : Code) (o : Fr → Hp → Out) : Prop := ∀ f h, okO (o f h) → Gw h (hpO (o f h) h) ∧
  ∀ (Φ : Phi) (τ : Tau) (F : Wf.Fr) (w : World) (D : List Deferred), FR Φ f F → Rel Φ τ h w → Fre Φ h.n (hpO (o f h) h).n → W fc P c n D (OutQ Φ τ h w (o f h)) F w
theorem region_s [Fw fc] (hc : CallS P call) (hn : n ≤ 4096) (hm : P.follows .mixedOrders = true) (id : Nat) (ops : Array Oper) (draw : Bool) : CodeS fc P n (.region id ops draw) (evRegion P call n ops draw) := by
  intro f h e
  cases draw with
  | false =>
    rw [evRegion_false] at e ⊢
    obtain ⟨g, s⟩ := evOps_s hc hn ops.toList f h e
    exact ⟨g, fun Φ τ F w D hF hR hFr => W.region (s Φ τ F w _ hF hR hFr fun _ _ _ q => q)⟩
  | true =>
    have ed : evRegion P call n ops true f h = evDraw P call n ops f h := rfl
    rw [ed] at e ⊢
    unfold evDraw at e ⊢
    cases hb : drawB P n ops (ancM ops.toList []) with
    | false => rw [hb] at e; exact e.elim
    | true =>
      rw [hb] at e
      simp only at e ⊢
      obtain ⟨S, s0, e1, hst⟩ := evPre_s _ _ _ _ _ e
      rw [e1] at e ⊢
      have hlen : 0 + ops.toList.length = ops.size := by simp
      rw [hlen] at e ⊢
      obtain ⟨e2, hwin⟩ := winsK_s _ e
      rw [e2] at e ⊢
      have K := drawB_s hb
      have run : h.n ≤ big5 → Run P call n ops f h S := fun hl => ⟨s0, fun k o ho => by
        obtain ⟨a, ha, hs⟩ := hst k o (by simpa using ho)
        have hkN := (Array.getElem?_eq_some_iff.1 ho).1
        rw [msk_at hkN] at ha
        cases ha
        rw [Nat.zero_add] at hs
        exact hs, hc, hn, hl⟩
      have hone : ∀ {q : Nat}, q < ops.size → tb (Nat.sub (Nat.pow 2 ops.size) 1) q = true := by
        intro q hq
        rw [tb_eq]
        have := Nat.testBit_two_pow_sub_one ops.size q
        show (2 ^ ops.size - 1).testBit q = true
        rw [this]; simpa using hq
      refine ⟨fun hl => ?_, fun Φ τ F w D hF hR hFr => ?_⟩
      · have R := run hl
        obtain ⟨hhl, hlx, hlat, hlt, hln⟩ := R.hs ops.size (Nat.le_refl _)
        have hlims := R.lims ops.size (Nat.le_refl _)
        refine ⟨hlims.2, ?_, fun _ => hlims.1⟩
        intro i h5 hid hnn
        have hid : ¬ (h.n ≤ i ∧ i < (S ops.size).h.n) := hid
        show get5 i (flush (S ops.size).qt _ (S ops.size).fl (S ops.size).h.t) = none
        rcases fl_get (a := Nat.sub (Nat.pow 2 ops.size) 1) (fl := (S ops.size).fl) (t := (S ops.size).h.t) (id := i) h5 (S ops.size).qt (fun e he => (R.qt_id (Nat.le_refl _) e he).2.1) with ⟨q1, _⟩ | ⟨e', q1, q2, _⟩
        · rw [q1, hlt]
          exact R.none2 ops.size (Nat.le_refl _) _ _ hlat i h5 hid hnn
        · have q9 := R.qt_id (Nat.le_refl _) e' q1
          exact absurd ⟨by omega, by omega⟩ hid
      · have R := run hR.lim
        have hFr : Fre Φ h.n (S ops.size).h.n := hFr
        have hlims := R.lims ops.size (Nat.le_refl _)
        refine W.drawI hm (fun L F' w' => ∃ Φ' τ', IvS P ops f h S Φ τ w.drew L F' w' Φ' τ') K.back ?_ ?_ ?_
        · have hz : ∀ i, (Array.replicate ops.size false).getD i false = false := by
            intro i
            simp [Array.getD_eq_getD_getElem?]
            by_cases hi : i < ops.size <;> simp [hi]
          have hcnt : cnt P ops (Array.replicate ops.size false) = 0 := by
            unfold cnt
            apply List.countP_eq_zero.2
            intro i _
            rw [hz]; simp
          have hs0 : (S ops.size).hs[0]? = some (h, 0) := by
            have := (R.hs_pre 0 ops.size (Nat.zero_le _) (Nat.le_refl _)).1 0 (h, 0)
            exact this (by rw [R.s0]; rfl)
          refine ⟨Φ, τ, Tw.refl _ _ _ _ _, ?_, ?_, ?_, ?_, ?_⟩
          · intro i hi _ id h1 h2
            have q1 := R.mono (i + 1) ops.size (by omega) (Nat.le_refl _)
            have q2 := (R.lims i (by omega)).2
            exact hFr id (by omega) (by omega)
          · intro t _ j o _ _ hl
            rw [hz] at hl; cases hl
          · intro t ht _; exact hF t ht
          · intro x hx
            rw [hcnt, hs0] at hx; cases hx
            exact hR.kept (Sub.refl _) fun g _ => ⟨rfl, rfl⟩
          · intro x _ e _ hl
            rw [hz] at hl; cases hl
        · intro L i o F' w' hs hcl ho hi hp ⟨Φ', τ', I⟩
          have hiN := (Array.getElem?_eq_some_iff.1 ho).1
          have hi' : L.getD i false = false := by
            have : L[i]? = some L[i] := by simp [hs, hiN]
            simp [Array.getD_eq_getD_getElem?, this] at hi ⊢; exact hi
          exact stepI R K hR.fin hwin I hs hcl ho hi' hp
        · intro L F' w' hs hall ⟨Φ', τ', I⟩
          have hall' : ∀ i, i < ops.size → L.getD i false = true := by
            intro i hi
            have := hall i hi
            have h9 : L[i]? = some L[i] := by simp [hs, hi]
            simp [Array.getD_eq_getD_getElem?, h9] at this ⊢; exact this
          have hcnt : cnt P ops L = mcn P ops ops.size := by
            unfold cnt mcn
            apply List.countP_congr
            intro j hj
            rw [hall' j (by simpa using hj)]; simp
          obtain ⟨hhl, hlx, hlat, hlt, hln⟩ := R.hs ops.size (Nat.le_refl _)
          refine ⟨Φ', τ', ?_, ?_, ?_⟩
          · intro t ht
            by_cases hex : ∃ (j : Nat) (o' : Oper), ops[j]? = some o' ∧ o'.dst = some t
            · obtain ⟨j, o', hj, hd⟩ := hex
              have hjN := (Array.getElem?_eq_some_iff.1 hj).1
              have e9 : getF t (S ops.size).f = getF t (S (j + 1)).f := R.frames ht (j + 1) ops.size (by omega) (Nat.le_refl _) fun k ok h2 h3 hk hd2 => by
                have := K.uniq j k o' ok t hj hk hd hd2
                omega
              rw [e9]
              exact I.fw t ht j o' hj hd (hall' j hjN)
            · have e9 : getF t (S ops.size).f = getF t (S 0).f := R.frames ht 0 ops.size (Nat.zero_le _) (Nat.le_refl _) fun k ok _ _ hk hd => hex ⟨k, ok, hk, hd⟩
              rw [e9, R.s0]
              exact I.f0 t ht fun j o' hj hd => absurd ⟨j, o', hj, hd⟩ hex
          · have hr := I.rel _ (by rw [hcnt]; exact hlat)
            have := relFlush (a := Nat.sub (Nat.pow 2 ops.size) 1) (fl := (S ops.size).fl) hr hln hlims.1 (fun e he => (R.qt_id (Nat.le_refl _) e he).1) (fun e he _ hf b hb => I.qs _ (by rw [hcnt]; exact hlat) e he (hall' _ (R.qt _ (Nat.le_refl _) e he).1) hf b hb)
            rw [← hlt] at this; exact this
          · exact ⟨I.tw.os, I.tw.tape, I.tw.output, I.tw.size, I.tw.sub, I.tw.same, I.tw.keep⟩
theorem sq_s {c d : Code} {x y : Fr → Hp → Out} (hx : CodeS fc P n c x) (hy : CodeS fc P n d y) : CodeS fc P n (.seq c d) (fun f h => sq (x f h) y) := by
  intro f h e
  have e : okO (sq (x f h) y) := e
  show Gw h (hpO (sq (x f h) y) h) ∧ _
  have hx := hx f h
  revert e hx
  cases hq : x f h with
  | nx f1 h1 =>
    intro e hx
    obtain ⟨g1, s1⟩ := hx trivial
    have e : okO (y f1 h1) := e
    obtain ⟨g2, s2⟩ := hy f1 h1 e
    have g1 : Gw h h1 := g1
    have eqq : sq (Out.nx f1 h1) y = y f1 h1 := rfl
    simp only [hq, eqq]
    rw [hpO_any e h h1]
    refine ⟨g1.trans g2, fun Φ τ F w D hF hR hFr => ?_⟩
    have k1 := g1 hR.lim
    have k2 := g2 (k1.lim hR.lim)
    refine W.seq ((s1 Φ τ F w D hF hR fun id a b => hFr id a (Nat.lt_of_lt_of_le b k2.le)).mono ?_)
    intro ex F1 w1 q
    cases ex with
    | normal =>
      obtain ⟨Φ1, τ1, hF1, hR1, t1⟩ := q
      refine (s2 Φ1 τ1 F1 w1 D hF1 hR1 fun id a b => by rw [t1.same id (fun hh => by have : id < h1.n := hh.2; omega)]; exact hFr id (Nat.le_trans k1.le a) b).mono ?_
      intro ex F2 w2 q2
      exact q2.trans t1 k1 (k1.lim hR.lim) k2.le
    | _ => exact q.elim
  | ex i f1 h1 =>
    intro e hx
    obtain ⟨g1, s1⟩ := hx trivial
    have eqq : sq (Out.ex i f1 h1) y = .ex i f1 h1 := rfl
    simp only [hq, eqq]
    refine ⟨g1, fun Φ τ F w D hF hR hFr => W.seq ((s1 Φ τ F w D hF hR hFr).mono ?_)⟩
    intro ex F1 w1 q
    cases ex with
    | normal => exact q.elim
    | exit j => exact q
    | _ => exact q.elim
  | rt f1 h1 =>
    intro e hx
    obtain ⟨g1, s1⟩ := hx trivial
    have eqq : sq (Out.rt f1 h1) y = .rt f1 h1 := rfl
    simp only [hq, eqq]
    refine ⟨g1, fun Φ τ F w D hF hR hFr => W.seq ((s1 Φ τ F w D hF hR hFr).mono ?_)⟩
    intro ex F1 w1 q
    cases ex with
    | normal => exact q.elim
    | ret => exact q
    | _ => exact q.elim
  | pn v f1 h1 =>
    intro e hx
    obtain ⟨g1, s1⟩ := hx trivial
    have eqq : sq (Out.pn v f1 h1) y = .pn v f1 h1 := rfl
    simp only [hq, eqq]
    refine ⟨g1, fun Φ τ F w D hF hR hFr => W.seq ((s1 Φ τ F w D hF hR hFr).mono ?_)⟩
    intro ex F1 w1 q
    cases ex with
    | normal => exact q.elim
    | panic ch => exact q
    | _ => exact q.elim
  | no m => intro e; exact e.elim
theorem cond_s {c d : Code} {x y : Fr → Hp → Out} (o : Operand) (hx : CodeS fc P n c x) (hy : CodeS fc P n d y) : CodeS fc P n (.cond o c d) (evCond o x y) := by
  intro f h e
  unfold evCond at e ⊢
  split at e
  · rename_i t ht
    cases t with
    | true =>
      obtain ⟨g, s⟩ := hx f h e
      refine ⟨g, fun Φ τ F w D hF hR hFr => ?_⟩
      have := opd_sound hF o
      rw [ht] at this
      exact W.condT this.bI (s Φ τ F w D hF hR hFr)
    | false =>
      obtain ⟨g, s⟩ := hy f h e
      refine ⟨g, fun Φ τ F w D hF hR hFr => ?_⟩
      have := opd_sound hF o
      rw [ht] at this
      exact W.condF this.bI (s Φ τ F w D hF hR hFr)
  · exact e.elim
theorem blk_s {c : Code} {x : Fr → Hp → Out} (id : Nat) (hx : CodeS fc P n c x) : CodeS fc P n (.block id c) (fun f h => blkO id (x f h)) := by
  intro f h e
  have e : okO (blkO id (x f h)) := e
  show Gw h (hpO (blkO id (x f h)) h) ∧ _
  have hx := hx f h
  revert e hx
  cases hq : x f h with
  | nx f1 h1 =>
    intro e hx
    obtain ⟨g1, s1⟩ := hx trivial
    have eqq : blkO id (Out.nx f1 h1) = .nx f1 h1 := rfl
    simp only [hq, eqq]
    refine ⟨g1, fun Φ τ F w D hF hR hFr => W.block ((s1 Φ τ F w D hF hR hFr).mono ?_)⟩
    intro ex F1 w1 q
    cases ex with
    | normal => exact q
    | _ => exact q.elim
  | ex i f1 h1 =>
    intro e hx
    obtain ⟨g1, s1⟩ := hx trivial
    by_cases hi : i = id
    · subst hi
      have eqq : blkO i (Out.ex i f1 h1) = .nx f1 h1 := by
        show (Bool.rec (Out.ex i f1 h1) (Out.nx f1 h1) (Nat.beq i i) : Out) = _
        rw [show Nat.beq i i = true from Nat.beq_refl i]
      simp only [hq, eqq]
      refine ⟨g1, fun Φ τ F w D hF hR hFr => W.block ((s1 Φ τ F w D hF hR hFr).mono ?_)⟩
      intro ex F1 w1 q
      cases ex with
      | exit j =>
        obtain ⟨rfl, q⟩ := q
        show (if i = i then _ else _)
        rw [if_pos rfl]
        exact q
      | _ => exact q.elim
    · have eqq : blkO id (Out.ex i f1 h1) = .ex i f1 h1 := by
        show (Bool.rec (Out.ex i f1 h1) (Out.nx f1 h1) (Nat.beq i id) : Out) = _
        rw [show Nat.beq i id = false by rw [beq_eq]; exact decide_eq_false hi]
      simp only [hq, eqq]
      refine ⟨g1, fun Φ τ F w D hF hR hFr => W.block ((s1 Φ τ F w D hF hR hFr).mono ?_)⟩
      intro ex F1 w1 q
      cases ex with
      | exit j =>
        obtain ⟨rfl, q⟩ := q
        show (if i = id then _ else _)
        rw [if_neg hi]
        exact ⟨rfl, q⟩
      | _ => exact q.elim
  | rt f1 h1 =>
    intro e hx
    obtain ⟨g1, s1⟩ := hx trivial
    have eqq : blkO id (Out.rt f1 h1) = .rt f1 h1 := rfl
    simp only [hq, eqq]
    refine ⟨g1, fun Φ τ F w D hF hR hFr => W.block ((s1 Φ τ F w D hF hR hFr).mono ?_)⟩
    intro ex F1 w1 q
    cases ex with
    | ret => exact q
    | _ => exact q.elim
  | pn v f1 h1 =>
    intro e hx
    obtain ⟨g1, s1⟩ := hx trivial
    have eqq : blkO id (Out.pn v f1 h1) = .pn v f1 h1 := rfl
    simp only [hq, eqq]
    refine ⟨g1, fun Φ τ F w D hF hR hFr => W.block ((s1 Φ τ F w D hF hR hFr).mono ?_)⟩
    intro ex F1 w1 q
    cases ex with
    | panic ch => exact q
    | _ => exact q.elim
  | no m => intro e; exact e.elim
end
end Go.Ev
