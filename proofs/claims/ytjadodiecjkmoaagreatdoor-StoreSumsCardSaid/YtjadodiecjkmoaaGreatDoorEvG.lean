/-
  Slicing; operations that make a block; storing.
-/
import Derived.Test.YtjadodiecjkmoaaGreatDoorEvF
namespace Go.Ev
set_option linter.unusedVariables false
set_option linter.unusedSimpArgs false
open Go Go.Wf Go.RowKit

section
variable {P : Program} {f : Fr} {v : AV} {h h' : Hp}
/-- a bound that is there or not -/
theorem bnd_s {α : Type} {o : Option Operand} {d : Nat} {k : Nat → Res} {n : Nat} {v : AV} (e : bnd f o d k (.no n) = .ok v h') :
    ∃ j, k j = .ok v h' ∧ ((o = none ∧ j = d) ∨ ∃ x kk, o = some x ∧ opd f x = .i kk (Int.ofNat j)) := by
  unfold bnd at e
  split at e
  · exact ⟨d, e, .inl ⟨rfl, rfl⟩⟩
  · obtain ⟨kk, m, hx, e⟩ := recN e
    rw [fz_eq] at e
    exact ⟨m, e, .inr ⟨_, kk, rfl, hx⟩⟩
theorem run_slice_str {Φ : Phi} {F : Wf.Fr} {w : World} {t : TypeId} {lo hi : Option Operand} {x : Value} {s : List UInt8} {i j : Nat} (hF : FR Φ f F) (ht : P.underlying t = some .string) (hx : x = str s)
    (hhi : (hi = none ∧ j = s.length) ∨ ∃ y kk, hi = some y ∧ opd f y = .i kk (Int.ofNat j)) (hlo : (lo = none ∧ i = 0) ∨ ∃ y kk, lo = some y ∧ opd f y = .i kk (Int.ofNat i)) (hij : i ≤ j) (hj : j ≤ s.length) :
    (Instr.sliceAt t x (lo.map (fe F)) (hi.map (fe F)) none).run P w = .ok (str ((s.take j).drop i)) w := by
  subst hx
  have hsz : (⟨s.toArray⟩ : ByteArray).size = s.length := by simp [ByteArray.size]
  have e := extract_list s i j
  have key : ∀ y kk m, opd f y = AV.i kk (Int.ofNat m) → fe F y = .int kk (Int.ofNat m) := fun y kk m hy => by have := opd_sound hF y; rw [hy] at this; exact this.iI
  rcases hhi with ⟨rfl, rfl⟩ | ⟨y, kk, rfl, hy⟩ <;> rcases hlo with ⟨rfl, rfl⟩ | ⟨y', kk', rfl, hy'⟩
  · simp [str, Instr.sliceAt, Instr.slice, run_underlying ht, Instr.sliceBounds, hsz] at e ⊢
  · have := key _ _ _ hy'
    simp [str, Instr.sliceAt, Instr.slice, run_underlying ht, Instr.sliceBounds, Instr.sliceBound, asIntOf, this, hsz, hij, hj] at e ⊢
    try exact e
  · have := key _ _ _ hy
    simp [str, Instr.sliceAt, Instr.slice, run_underlying ht, Instr.sliceBounds, Instr.sliceBound, asIntOf, this, hsz, hij, hj] at e ⊢
    try exact e
  · have h1 := key _ _ _ hy
    have h2 := key _ _ _ hy'
    simp [str, Instr.sliceAt, Instr.slice, run_underlying ht, Instr.sliceBounds, Instr.sliceBound, asIntOf, h1, h2, hsz, hij, hj] at e ⊢
    try exact e
theorem run_slice_sl {Φ : Phi} {F : Wf.Fr} {w : World} {t el : TypeId} {lo hi : Option Operand} {a : Option Addr} {n c sz i j : Nat} (hF : FR Φ f F) (ht : P.underlying t = some (.slice el)) (hsz : szOf P el = some sz)
    (hhi : (hi = none ∧ j = n) ∨ ∃ y kk, hi = some y ∧ opd f y = .i kk (Int.ofNat j)) (hlo : (lo = none ∧ i = 0) ∨ ∃ y kk, lo = some y ∧ opd f y = .i kk (Int.ofNat i)) (hij : i ≤ j) (hj : j ≤ c) :
    (Instr.sliceAt t (.slice a n c) (lo.map (fe F)) (hi.map (fe F)) none).run P w = .ok (.slice (if c = i then a else a.map (·.add (i * sz))) (j - i) (c - i)) w := by
  have key : ∀ y kk m, opd f y = AV.i kk (Int.ofNat m) → fe F y = .int kk (Int.ofNat m) := fun y kk m hy => by have := opd_sound hF y; rw [hy] at this; exact this.iI
  obtain ⟨z, by_, hinf⟩ := szOf_u hsz
  obtain ⟨inf, hi', _, hs, _⟩ := infoOf_parts hinf
  rcases hhi with ⟨rfl, rfl⟩ | ⟨y, kk, rfl, hy⟩ <;> rcases hlo with ⟨rfl, rfl⟩ | ⟨y', kk', rfl, hy'⟩
  · simp [Instr.sliceAt, Instr.slice, run_underlying ht, Instr.sliceBounds, sizeOf, typeInfo, hi', hs]
  · have := key _ _ _ hy'
    simp [Instr.sliceAt, Instr.slice, run_underlying ht, Instr.sliceBounds, Instr.sliceBound, asIntOf, this, sizeOf, typeInfo, hi', hs, hij]
  · have := key _ _ _ hy
    simp [Instr.sliceAt, Instr.slice, run_underlying ht, Instr.sliceBounds, Instr.sliceBound, asIntOf, this, sizeOf, typeInfo, hi', hs, hj]
  · have h1 := key _ _ _ hy
    have h2 := key _ _ _ hy'
    simp [Instr.sliceAt, Instr.slice, run_underlying ht, Instr.sliceBounds, Instr.sliceBound, asIntOf, h1, h2, sizeOf, typeInfo, hi', hs, hij, hj]
theorem evSliceP_s {t : TypeId} {x : Operand} {lo hi mx : Option Operand} (e : evSliceP P t x lo hi mx f h = .ok v h') : h' = h ∧ Pu P (.slice t x lo hi mx) f v := by
  unfold evSliceP at e
  split at e
  · cases e
  · split at e
    · rename_i l hx
      obtain ⟨ht, e⟩ := recB e
      obtain ⟨j, e, hjl⟩ := bnd_s (α := Nat) e
      obtain ⟨i, e, hil⟩ := bnd_s (α := Nat) e
      obtain ⟨hc, e⟩ := recB e
      obtain ⟨h1, h2⟩ := and_t hc
      have h1 := Nat.le_of_ble_eq_true h1
      have h2 := Nat.le_of_ble_eq_true h2
      obtain ⟨rfl, rfl⟩ := ok_inj e
      refine ⟨rfl, fun Φ F w dst ty pos after gd hF => ?_⟩
      have hr := opd_sound hF x
      rw [hx] at hr
      obtain ⟨hl, hv⟩ := hr.sI
      rw [len_eq] at h2 hjl
      have hrun := run_slice_str (w := w) hF (isStr_u ht) hv (by rw [List.length_map]; exact hjl) hil h1 (by rw [List.length_map]; exact h2)
      refine St.of_run (v := str ((((l.map UInt8.ofNat).take j).drop i))) (w' := w) ?_ ⟨rfl, ?_⟩
      · simp [execOp, hrun]
      · rw [dr_eq, tk_eq, ← List.map_take, ← List.map_drop]
        exact Rv.ms fun n hn => hl n (List.mem_of_mem_take (List.mem_of_mem_drop hn))
    · rename_i hx
      obtain ⟨ht, e⟩ := recB e
      obtain ⟨j, e, hjl⟩ := bnd_s (α := Nat) e
      obtain ⟨i, e, hil⟩ := bnd_s (α := Nat) e
      obtain ⟨hc, e⟩ := recB e
      obtain ⟨h1, h2⟩ := and_t hc
      have h1 := Nat.eq_of_beq_eq_true h1
      have h2 := Nat.eq_of_beq_eq_true h2
      subst h1; subst h2
      obtain ⟨rfl, rfl⟩ := ok_inj e
      refine ⟨rfl, fun Φ F w dst ty pos after gd hF => ?_⟩
      have hr := opd_sound hF x
      rw [hx] at hr
      simp only [Rv] at hr
      obtain ⟨sz, hsz⟩ := Option.isSome_iff_exists.1 (and_t ht).2
      rw [Option.bind_eq_some_iff] at hsz
      obtain ⟨el, hel, hsz⟩ := hsz
      have hrun := run_slice_sl (w := w) (n := 0) (c := 0) (a := none) hF (slOf_u hel) hsz hjl hil (Nat.le_refl 0) (Nat.le_refl 0)
      refine St.of_run (v := .slice none 0 0) (w' := w) ?_ ⟨rfl, by simp only [Rv]⟩
      simp [execOp, hr, hrun]
    · rename_i id off n z cap hx
      split at e
      · cases e
      · rename_i sz hsz
        rw [Option.bind_eq_some_iff] at hsz
        obtain ⟨el, hel, hsz⟩ := hsz
        obtain ⟨j, e, hjl⟩ := bnd_s (α := Nat) e
        obtain ⟨i, e, hil⟩ := bnd_s (α := Nat) e
        obtain ⟨hc, e⟩ := recB e
        obtain ⟨h1, h2⟩ := and_t hc
        have h1 := Nat.le_of_ble_eq_true h1
        have h2 := Nat.eq_of_beq_eq_true h2
        subst h2
        have go : ∀ (Φ : Phi) (F : Wf.Fr) (w : World) (dst : Option Tmp) (ty : TypeId) (pos : String) (after : Array Edge) (gd : Option (Nat × Bool)), FR Φ f F →
            (∀ en c, Φ id = some en → n ≤ c → c ≤ maxLen → off + c * sz ≤ en.k → capOk cap c → j ≤ c ∧ Rv Φ v (.slice (if c = i then some ⟨en.g, en.base + off, none⟩ else some ⟨en.g, en.base + off + i * sz, none⟩) (j - i) (c - i))) →
            St P (fe F) ⟨dst, .slice t x lo hi none, ty, pos, after, gd⟩ w (KP Φ w v) KF := by
          intro Φ F w dst ty pos after gd hF hh
          have hr := opd_sound hF x
          rw [hx] at hr
          obtain ⟨en, c, hen, hv, h3, h4, h5, h6⟩ := hr.slI
          obtain ⟨hjc, hrv⟩ := hh en c hen h3 h4 h5 h6
          have hrun := run_slice_sl (w := w) (n := n) (c := c) (a := some ⟨en.g, en.base + off, none⟩) hF (slOf_u hel) hsz hjl hil h1 hjc
          refine St.of_run (w' := w) ?_ ⟨rfl, hrv⟩
          simp [execOp, hv, hrun, Addr.add_lit]
        cases cap with
        | some c =>
          obtain ⟨hjc, e⟩ := recB e
          have hjc := Nat.le_of_ble_eq_true hjc
          rw [recBk] at e
          split at e
          · rename_i hci
            have hci := Nat.eq_of_beq_eq_true hci
            obtain ⟨rfl, rfl⟩ := ok_inj e
            refine ⟨rfl, fun Φ F w dst ty pos after gd hF => go Φ F w dst ty pos after gd hF ?_⟩
            intro en c' hen g1 g2 g3 g4
            have : c' = c := g4
            subst this
            refine ⟨hjc, ?_⟩
            rw [if_pos hci, show j - i = 0 by omega, show c' - i = 0 by omega]
            exact Rv.msl hen (Nat.le_refl _) (Nat.zero_le _) (by simp only [Nat.zero_mul]; omega) rfl
          · rename_i hci
            have hci : ¬ c = i := fun e => hci (by subst e; exact Nat.beq_refl c)
            simp only [fz_eq] at e
            obtain ⟨rfl, rfl⟩ := ok_inj e
            refine ⟨rfl, fun Φ F w dst ty pos after gd hF => go Φ F w dst ty pos after gd hF ?_⟩
            intro en c' hen g1 g2 g3 g4
            have : c' = c := g4
            subst this
            refine ⟨hjc, ?_⟩
            rw [if_neg hci, Nat.add_assoc]
            refine Rv.msl hen (Nat.sub_le_sub_right hjc i) (by omega) ?_ rfl
            show off + i * sz + (c' - i) * sz ≤ en.k
            have : (c' - i) * sz + i * sz = c' * sz := by rw [← Nat.add_mul]; congr 1; omega
            omega
        | none =>
          obtain ⟨hjc, e⟩ := recB e
          have hjn := Nat.le_of_ble_eq_true hjc
          rw [recBk] at e
          split at e
          · rename_i hci
            have hci := Nat.eq_of_beq_eq_true hci
            obtain ⟨rfl, rfl⟩ := ok_inj e
            refine ⟨rfl, fun Φ F w dst ty pos after gd hF => go Φ F w dst ty pos after gd hF ?_⟩
            intro en c' hen g1 g2 g3 g4
            refine ⟨by omega, ?_⟩
            rw [show j - i = 0 by omega]
            simp only [Rv]; exact ⟨_, _, rfl⟩
          · rename_i hci
            have hci : ¬ n = i := fun e => hci (by subst e; exact Nat.beq_refl n)
            simp only [fz_eq] at e
            obtain ⟨rfl, rfl⟩ := ok_inj e
            refine ⟨rfl, fun Φ F w dst ty pos after gd hF => go Φ F w dst ty pos after gd hF ?_⟩
            intro en c' hen g1 g2 g3 g4
            refine ⟨by omega, ?_⟩
            have hne : ¬ c' = i := by omega
            rw [if_neg hne, Nat.add_assoc]
            refine Rv.msl hen (Nat.sub_le_sub_right (by omega) i) (by omega) ?_ trivial
            show off + i * sz + (c' - i) * sz ≤ en.k
            have : (c' - i) * sz + i * sz = c' * sz := by rw [← Nat.add_mul]; congr 1; omega
            omega
    · cases e
theorem run_slice_arr {Φ : Phi} {F : Wf.Fr} {w : World} {t el : TypeId} {lo hi : Option Operand} {a : Addr} {n sz i j : Nat} (hF : FR Φ f F) (ht : P.underlying t = some (.array n el)) (hsz : szOf P el = some sz)
    (hhi : (hi = none ∧ j = n) ∨ ∃ y kk, hi = some y ∧ opd f y = .i kk (Int.ofNat j)) (hlo : (lo = none ∧ i = 0) ∨ ∃ y kk, lo = some y ∧ opd f y = .i kk (Int.ofNat i)) (hij : i ≤ j) (hj : j ≤ n) :
    (Instr.sliceAt t (.pointer (some a)) (lo.map (fe F)) (hi.map (fe F)) none).run P w = .ok (.slice (some (if n = i then a else a.add (i * sz))) (j - i) (n - i)) w := by
  have key : ∀ y kk m, opd f y = AV.i kk (Int.ofNat m) → fe F y = .int kk (Int.ofNat m) := fun y kk m hy => by have := opd_sound hF y; rw [hy] at this; exact this.iI
  obtain ⟨z, by_, hinf⟩ := szOf_u hsz
  obtain ⟨inf, hi', _, hs, _⟩ := infoOf_parts hinf
  rcases hhi with ⟨rfl, rfl⟩ | ⟨y, kk, rfl, hy⟩ <;> rcases hlo with ⟨rfl, rfl⟩ | ⟨y', kk', rfl, hy'⟩
  · simp [Instr.sliceAt, Instr.sureAddr, run_underlying ht, Instr.sliceBounds, sizeOf, typeInfo, hi', hs]
  · have := key _ _ _ hy'
    simp [Instr.sliceAt, Instr.sureAddr, run_underlying ht, Instr.sliceBounds, Instr.sliceBound, asIntOf, this, sizeOf, typeInfo, hi', hs, hij]
  · have := key _ _ _ hy
    simp [Instr.sliceAt, Instr.sureAddr, run_underlying ht, Instr.sliceBounds, Instr.sliceBound, asIntOf, this, sizeOf, typeInfo, hi', hs, hj]
  · have h1 := key _ _ _ hy
    have h2 := key _ _ _ hy'
    simp [Instr.sliceAt, Instr.sureAddr, run_underlying ht, Instr.sliceBounds, Instr.sliceBound, asIntOf, h1, h2, sizeOf, typeInfo, hi', hs, hij, hj]
theorem evSliceA_s {t : TypeId} {x : Operand} {lo hi mx : Option Operand} (e : evSliceA P t x lo hi mx f h = .ok v h') : h' = h ∧ Rd P (.slice t x lo hi mx) f v h := by
  unfold evSliceA at e
  split at e
  · cases e
  · split at e
    · rename_i id off hx
      split at e
      · cases e
      · rename_i q hq
        split at e
        · cases e
        · rename_i sz hsz
          obtain ⟨b, hid, hb, hrow, e⟩ := getB_s e
          obtain ⟨j, e, hjl⟩ := bnd_s (α := Nat) e
          obtain ⟨i, e, hil⟩ := bnd_s (α := Nat) e
          obtain ⟨hc, e⟩ := recB e
          obtain ⟨hc, h4⟩ := and_t hc
          obtain ⟨hc, h3⟩ := and_t hc
          obtain ⟨h1, h2⟩ := and_t hc
          have h1 := Nat.le_of_ble_eq_true h1
          have h2 := Nat.le_of_ble_eq_true h2
          have h3 := Nat.le_of_ble_eq_true h3
          have h4 := Nat.le_of_ble_eq_true h4
          rw [len_eq] at h4
          have h4 : off + q.1 * sz ≤ b.cs.length := h4
          have go : ∀ (Φ : Phi) (τ : Tau) (F : Wf.Fr) (w : World) (dst : Option Tmp) (ty : TypeId) (pos : String) (after : Array Edge) (gd : Option (Nat × Bool)), FR Φ f F → Rel Φ τ h w →
              (∀ en, Φ id = some en → off + q.1 * sz ≤ en.k → Rv Φ v (.slice (some (if q.1 = i then ⟨en.g, en.base + off, none⟩ else ⟨en.g, en.base + off + i * sz, none⟩)) (j - i) (q.1 - i))) →
              St P (fe F) ⟨dst, .slice t x lo hi none, ty, pos, after, gd⟩ w (KP Φ w v) KF := by
            intro Φ τ F w dst ty pos after gd hF hR hh
            have hr := opd_sound hF x
            rw [hx] at hr
            obtain ⟨en, hen, hv⟩ := hr.pI
            obtain ⟨e', C, T, br⟩ := (hR.blk id b hid hb).row hrow
            have := br.ent
            rw [hen] at this; cases this
            have hrv := hh en hen (Nat.le_trans h4 br.le)
            have hrun := run_slice_arr (w := w) (a := ⟨en.g, en.base + off, none⟩) hF (arrOf_u hq) hsz hjl hil h1 h2
            refine St.of_run (w' := w) ?_ ⟨rfl, hrv⟩
            simp [execOp, hv, hrun, Addr.add_lit]
          rw [recBk] at e
          split at e
          · rename_i hci
            have hci := Nat.eq_of_beq_eq_true hci
            obtain ⟨rfl, rfl⟩ := ok_inj e
            refine ⟨rfl, fun Φ τ F w dst ty pos after gd hF hR => go Φ τ F w dst ty pos after gd hF hR ?_⟩
            intro en hen g1
            rw [if_pos hci, show j - i = 0 by omega, show q.1 - i = 0 by omega]
            exact Rv.msl hen (Nat.le_refl _) (Nat.zero_le _) (by simp only [Nat.zero_mul]; omega) rfl
          · rename_i hci
            have hci : ¬ q.1 = i := fun e => hci (by rw [e]; exact Nat.beq_refl _)
            simp only [fz_eq] at e
            obtain ⟨rfl, rfl⟩ := ok_inj e
            refine ⟨rfl, fun Φ τ F w dst ty pos after gd hF hR => go Φ τ F w dst ty pos after gd hF hR ?_⟩
            intro en hen g1
            rw [if_neg hci, Nat.add_assoc]
            refine Rv.msl hen (Nat.sub_le_sub_right h2 i) (by unfold maxLen; omega) ?_ rfl
            show off + i * sz + (q.1 - i) * sz ≤ en.k
            have : (q.1 - i) * sz + i * sz = q.1 * sz := by rw [← Nat.add_mul]; congr 1; omega
            omega
    · cases e
theorem evSlice_s {t : TypeId} {x : Operand} {lo hi mx : Option Operand} (e : evSlice P t x lo hi mx f h = .ok v h') :
    (isArr P t = false → h' = h ∧ Pu P (.slice t x lo hi mx) f v) ∧ (isArr P t = true → h' = h ∧ Rd P (.slice t x lo hi mx) f v h) := by
  unfold evSlice at e
  cases hb : isArr P t with
  | false =>
    rw [hb] at e
    constructor
    · intro _; exact evSliceP_s e
    · intro hq; cases hq
  | true =>
    rw [hb] at e
    constructor
    · intro hq; cases hq
    · intro _; exact evSliceA_s e
/-! more reading -/
theorem byteT_u {e : TypeId} (h : byteT P e = true) : P.underlying e = some (.int .u8) ∧ szOf P e = some 1 := by
  unfold byteT at h
  obtain ⟨h1, h2⟩ := and_t h
  constructor
  · split at h1
    · rename_i hh; exact isInt_u hh
    · cases h1
  · split at h2
    · assumption
    · cases h2
theorem byteSl_u {t : TypeId} (h : byteSl P t = true) : ∃ e, P.underlying t = some (.slice e) ∧ P.underlying e = some (.int .u8) ∧ szOf P e = some 1 := by
  unfold byteSl at h
  split at h
  · rename_i e he; exact ⟨e, slOf_u he, byteT_u h⟩
  · cases h
theorem unchars_s {k : List Nat → Res} : ∀ (l : List AV), unchars l k = .ok v h' → ∃ ns : List Nat, k ns = .ok v h' ∧ (∀ n ∈ ns, n < 256) ∧ l = ns.map fun n => AV.i .u8 (Int.ofNat n) := by
  intro l
  induction l generalizing k with
  | nil => intro e; exact ⟨[], e, by simp, rfl⟩
  | cons a l ih =>
    intro e
    cases a with
    | i kk n =>
      cases kk with
      | u8 =>
        cases n with
        | ofNat c =>
          have e : (Bool.rec (Res.no 17) (unchars l fun l' => k (c :: l')) (Nat.blt c 256) : Res) = .ok v h' := e
          obtain ⟨hc, e⟩ := recB e
          obtain ⟨ns, h1, h2, h3⟩ := ih e
          refine ⟨c :: ns, h1, ?_, by rw [h3]; rfl⟩
          intro n hn
          rcases List.mem_cons.1 hn with rfl | hn
          · exact of_blt hc
          · exact h2 n hn
        | negSucc c => cases e
      | _ => cases e
    | _ => cases e
theorem foldl_push (ns : List Nat) (s : ByteArray) : (ns.map Int.ofNat).foldl (fun r n => r.push (UInt8.ofNat n.toNat)) s = ⟨(s.data.toList ++ ns.map UInt8.ofNat).toArray⟩ := by
  induction ns generalizing s with
  | nil => simp
  | cons n ns ih =>
    simp only [List.map_cons, List.foldl_cons]
    rw [ih]
    congr 1
    apply Array.ext'
    simp [ByteArray.push]
theorem isUns_u {t : TypeId} (h : isUns P t = true) : P.underlying t = some .unsafePointer := by unfold isUns at h; split at h <;> first | assumption | cases h
theorem BR.shape {Φ : Phi} {τ : Tau} {w : World} {b : Blk} {e : Ent} {id : Nat} {C : Array Value} {T : TypeId} (r : BR Φ τ w b e id C T) : w.shape? e.g = some (T, C.size) := by
  obtain ⟨fr, ho, _⟩ := r.obj
  simp [World.shape?, ho]
theorem run_toUns {w : World} {src dst t e : TypeId} {j : TypeInfo} {cells : Nat} (a : Addr) (hs : P.underlying src = some (.pointer t)) (hd : P.underlying dst = some .unsafePointer) (ht : P.info? t = some j) (hj : j.size ≠ 0)
    (hsh : w.shape? a.block = some (e, cells)) (hoff : a.off < cells) : (convert src dst (.pointer (some a))).run P w = .ok (.pointer (some a)) w := by
  simp [convert, run_underlying hs, run_underlying hd, Conv.unsafePointer, Conv.seenAt, viewAt, cellsIn, hsh, sizeOf, typeInfo, ht, hj]
  intro h
  omega
theorem run_ofUns {w : World} {src dst u e : TypeId} {j : TypeInfo} {cells : Nat} (a : Addr) (hs : P.underlying src = some .unsafePointer) (hd : P.underlying dst = some (.pointer u)) (hu : P.info? u = some j)
    (hsh : w.shape? a.block = some (e, cells)) (hlies : liesAt P P.depth e (cells / P.cellsOf e) a.off u 1 = true) : (convert src dst (.pointer (some a))).run P w = .ok (.pointer (some a)) w := by
  simp [convert, run_underlying hs, run_underlying hd, Conv.unsafePointer, Conv.seenAt, viewAt, hsh, variablesAt, hlies, sizeOf, typeInfo, hu]
theorem chars_rv {Φ : Phi} : ∀ {ns : List Nat} {vs : List Value}, RvL Φ (ns.map fun n => AV.i .u8 (Int.ofNat n)) vs → vs = (ns.map Int.ofNat).map (Value.int .u8) := by
  intro ns
  induction ns with
  | nil => intro vs h; simp only [List.map_nil, RvL] at h ⊢; exact h
  | cons n ns ih =>
    intro vs h
    simp only [List.map_cons, RvL] at h ⊢
    obtain ⟨v, r, rfl, h1, h2⟩ := h
    rw [h1.iI, ih h2]
theorem run_strOf {Φ : Phi} {τ : Tau} {w : World} {b : Blk} {e : Ent} {id : Nat} {C : Array Value} {T : TypeId} (r : BR Φ τ w b e id C T) {off n : Nat} {ns : List Nat} (hn : n ≤ (b.cs.drop off).length) (hns : (b.cs.drop off).take n = ns.map fun n => AV.i .u8 (Int.ofNat n)) :
    (loadCells ⟨e.g, e.base + off, none⟩ n).run P w = .ok ((ns.map Int.ofNat).map (Value.int .u8)).toArray w ∧
    ∀ c, (Conv.bytesToString (.slice (some ⟨e.g, e.base + off, none⟩) n c)).run P w = .ok (str (ns.map UInt8.ofNat)) w := by
  obtain ⟨vs, hl, hrv, hc⟩ := r.cells off n hn
  rw [hns] at hrv
  have hvs := chars_rv hrv
  have hld : (loadCells ⟨e.g, e.base + off, none⟩ n).run P w = .ok ((ns.map Int.ofNat).map (Value.int .u8)).toArray w := by
    have := run_loadCells_list (P := P) (w := w) ⟨e.g, e.base + off, none⟩ vs (fun j v hj => by rw [Addr.add_lit]; exact hc j v hj)
    rw [hl, hvs] at this
    exact this
  refine ⟨hld, fun c => ?_⟩
  rw [run_bytesToString w _ n c (ns.map Int.ofNat) hld, foldl_push]
  simp [str]
theorem evConvR_s {s d : TypeId} {x : Operand} (e : evConvR P s d x f h = .ok v h') : h' = h ∧ Rd P (.convert s d x) f v h := by
  unfold evConvR at e
  split at e
  · rename_i hx
    obtain ⟨hc, e⟩ := recB e
    obtain ⟨rfl, rfl⟩ := ok_inj e
    refine ⟨rfl, fun Φ τ F w dst ty pos after gd hF hR => ?_⟩
    have hr := opd_sound hF x
    rw [hx] at hr
    have hv : fe F x = .pointer none := by simpa only [Rv] using hr
    refine St.of_run (v := .pointer none) (w' := w) ?_ ⟨rfl, by simp only [Rv]⟩
    rcases (show (isPtr P s = true ∧ isUns P d = true) ∨ (isUns P s = true ∧ isPtr P d = true) by simpa using hc) with ⟨h1, h2⟩ | ⟨h1, h2⟩
    · obtain ⟨t, hs⟩ := isPtr_u h1
      simp [execOp, hv, convert, run_underlying hs, run_underlying (isUns_u h2), Conv.unsafePointer]
    · obtain ⟨t, hs⟩ := isPtr_u h2
      simp [execOp, hv, convert, run_underlying hs, run_underlying (isUns_u h1), Conv.unsafePointer]
  · rename_i id off hx
    obtain ⟨b, hid, hb, hrow, e⟩ := getB_s e
    rw [recBk] at e
    split at e
    · rename_i hc
      obtain ⟨rfl, rfl⟩ := ok_inj e
      unfold toUnsOk at hc
      obtain ⟨hc, h3⟩ := and_t hc
      obtain ⟨h1, h2⟩ := and_t hc
      have h2 := of_blt h2
      rw [len_eq] at h2
      refine ⟨rfl, fun Φ τ F w dst ty pos after gd hF hR => ?_⟩
      have hr := opd_sound hF x
      rw [hx] at hr
      obtain ⟨en, hen, hv⟩ := hr.pI
      obtain ⟨e', C, T, br⟩ := (hR.blk id b hid hb).row hrow
      have := br.ent
      rw [hen] at this; cases this
      have hd := isUns_u h1
      cases hp : ptrOf P s with
      | none => rw [hp] at h3; simp at h3
      | some t =>
        rw [hp] at h3
        cases hsz : szOf P t with
        | none => simp [hsz] at h3
        | some sz =>
          simp only [Option.bind_some, hsz] at h3
          have h3 := of_blt h3
          obtain ⟨zv, by_, hinf⟩ := szOf_u hsz
          obtain ⟨inf, hi', _, hs, _⟩ := infoOf_parts hinf
          have hle := br.le
          have hszC := br.size
          have := run_toUns (P := P) (w := w) (src := s) (dst := d) ⟨en.g, en.base + off, none⟩ (ptrOf_u hp) hd hi' (by omega) br.shape (by show en.base + off < C.size; omega)
          exact St.of_run (v := fe F x) (w' := w) (by rw [hv]; simp [execOp, hv, this]) ⟨rfl, hr⟩
    · obtain ⟨hc, e⟩ := recB e
      obtain ⟨rfl, rfl⟩ := ok_inj e
      unfold ofUnsOk at hc
      obtain ⟨hc, h3⟩ := and_t hc
      obtain ⟨h1, h2⟩ := and_t hc
      refine ⟨rfl, fun Φ τ F w dst ty pos after gd hF hR => ?_⟩
      have hr := opd_sound hF x
      rw [hx] at hr
      obtain ⟨en, hen, hv⟩ := hr.pI
      obtain ⟨e', C, T, br⟩ := (hR.blk id b hid hb).row hrow
      have := br.ent
      rw [hen] at this; cases this
      cases hp : ptrOf P d with
      | none => rw [hp] at h3; simp at h3
      | some u =>
        rw [hp] at h3
        obtain ⟨h3, h4⟩ := and_t h3
        obtain ⟨j, hj⟩ := Option.isSome_iff_exists.1 h3
        obtain ⟨hb0, hbk⟩ := br.exact_ h2
        have hszC := br.size
        have hT := br.ty
        rw [len_eq] at h4
        have h5 : C.size = b.cs.length := by omega
        have := run_ofUns (P := P) (w := w) (src := s) (dst := d) ⟨en.g, en.base + off, none⟩ (isUns_u h1) (ptrOf_u hp) hj br.shape (by
          show liesAt P P.depth T (C.size / P.cellsOf T) (en.base + off) u 1 = true
          rw [hb0, Nat.zero_add, h5, hT]; exact h4)
        exact St.of_run (v := fe F x) (w' := w) (by rw [hv]; simp [execOp, hv, this]) ⟨rfl, hr⟩
  · rename_i hx
    obtain ⟨hc, e⟩ := recB e
    obtain ⟨rfl, rfl⟩ := ok_inj e
    obtain ⟨h1, h2⟩ := and_t hc
    obtain ⟨el, he1, he2, he3⟩ := byteSl_u h2
    refine ⟨rfl, fun Φ τ F w dst ty pos after gd hF hR => ?_⟩
    have hr := opd_sound hF x
    rw [hx] at hr
    have hv : fe F x = .slice none 0 0 := by simpa only [Rv] using hr
    refine St.of_run (v := .string .empty) (w' := w) ?_ ⟨rfl, by simp only [Rv]; exact ⟨by simp, rfl⟩⟩
    simp [execOp, hv, convert, run_underlying he1, run_underlying (isStr_u h1), run_underlying he2, Conv.bytesToString]
  · rename_i id off n z cap hx
    obtain ⟨hc, e⟩ := recB e
    obtain ⟨hc, h3⟩ := and_t hc
    obtain ⟨h1, h2⟩ := and_t hc
    obtain ⟨el, he1, he2, he3⟩ := byteSl_u h2
    obtain ⟨b, hid, hb, hrow, e⟩ := getB_s e
    rcases tkK_eq (dr b.cs off) n (fun l => unchars l fun l' => Res.ok (.s l') h) with ⟨e2, hle⟩ | ⟨q, e2⟩
    · rw [e2] at e
      rw [dr_eq] at hle e
      obtain ⟨ns, e3, hns, hl⟩ := unchars_s _ e
      obtain ⟨rfl, rfl⟩ := ok_inj e3
      refine ⟨rfl, fun Φ τ F w dst ty pos after gd hF hR => ?_⟩
      have hr := opd_sound hF x
      rw [hx] at hr
      obtain ⟨en, c, hen, hv, _⟩ := hr.slI
      obtain ⟨e', C, T, br⟩ := (hR.blk id b hid hb).row hrow
      have := br.ent
      rw [hen] at this; cases this
      have := (run_strOf (P := P) br hle hl).2 c
      refine St.of_run (v := str (ns.map UInt8.ofNat)) (w' := w) ?_ ⟨rfl, Rv.ms hns⟩
      simp [execOp, hv, convert, run_underlying he1, run_underlying (isStr_u h1), run_underlying he2, this]
    · rw [e2] at e; cases e
  · cases e
end
end Go.Ev
