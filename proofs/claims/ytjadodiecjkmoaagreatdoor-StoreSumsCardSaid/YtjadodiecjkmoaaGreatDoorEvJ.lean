/-
  Append; every operation but calls.
-/
import Derived.Test.YtjadodiecjkmoaaGreatDoorEvI
namespace Go.Ev
set_option linter.unusedVariables false
set_option linter.unusedSimpArgs false
open Go Go.Wf Go.RowKit

section
variable {P : Program} {f : Fr} {v : AV} {h h' : Hp} {Φ : Phi} {τ : Tau} {w w' : World}
theorem cell_heap {w w' : World} (h : w'.heap = w.heap) (a : Addr) : w'.cell? a = w.cell? a := by unfold World.cell?; rw [h]
def SlTy (P : Program) (t : TypeId) : Prop := P.underlying t = some .string ∨ ∃ e, P.underlying t = some (.slice e)
theorem srcK_s {sz : Nat} {x : AV} {k : Nat → List AV → Res} (e : srcK h sz x k = .ok v h') : ∃ n vs, 0 < n ∧ k n vs = .ok v h' ∧
    ∀ (Φ : Phi) (τ : Tau) (w : World) (y : Value) (t' : TypeId), Rv Φ x y → Rel Φ τ h w → SlTy P t' → ∃ ys, ys.length = n * sz ∧ RvL Φ vs ys ∧ SrcW P t' w sz n y ys := by
  unfold srcK at e
  split at e
  · rename_i id off n z cap
    obtain ⟨hc, e0⟩ := recB e
    clear e
    obtain ⟨h1, h2⟩ := and_t hc
    have := Nat.eq_of_beq_eq_true h1
    subst this
    obtain ⟨b, hid, hb, hrow, e⟩ := getB_s e0
    clear e0
    rcases tkK_eq (dr b.cs off) (Nat.mul n z) (k n) with ⟨e2, hl⟩ | ⟨m, e2⟩
    · rw [e2, dr_eq] at e
      rw [dr_eq] at hl
      refine ⟨n, _, of_blt h2, e, fun Φ τ w y t' hr hR ht => ?_⟩
      obtain ⟨en, c, hen, rfl, _⟩ := hr.slI
      obtain ⟨e', C, T, br⟩ := (hR.blk id b hid hb).row hrow
      have := br.ent
      rw [hen] at this; cases this
      obtain ⟨ys, k1, k2, k3⟩ := br.cells off (n * z) hl
      refine ⟨ys, k1, k2, ht, fun w' => rfl, fun w' hw => ?_⟩
      exact run_firstCells_some (P := P) w' z n _ n c ys k1 fun j u hj => by rw [cell_heap hw, Addr.add_lit]; exact k3 j u hj
    · rw [e2] at e; cases e
  · rename_i l
    obtain ⟨hc, e0⟩ := recB e
    clear e
    have e := e0
    clear e0
    obtain ⟨h1, h2⟩ := and_t hc
    have := Nat.eq_of_beq_eq_true h1
    subst this
    rw [fz_eq, appK_eq, List.append_nil] at e
    have h2 := of_blt h2
    rw [len_eq] at e h2
    refine ⟨_, _, h2, e, fun Φ τ w y t' hr hR ht => ?_⟩
    obtain ⟨hl, rfl⟩ := hr.sI
    have hsize : (⟨(l.map UInt8.ofNat).toArray⟩ : ByteArray).size = l.length := by simp [ByteArray.size]
    refine ⟨l.map fun c => .int .u8 (Int.ofNat c), by simp, ?_, ht, fun w' => ?_, fun w' hw => ?_⟩
    · rw [chars_eq]
      refine RvL.mk (by simp) fun i a u ha hu => ?_
      rw [List.getElem?_map] at ha hu
      cases hli : l[i]? with
      | none => rw [hli] at ha; cases ha
      | some c => rw [hli] at ha hu; cases ha; cases hu; exact Rv.mi
    · simp [str, Builtin.lenOf, hsize]
    · have hcs : (l.map UInt8.ofNat).map (fun b : UInt8 => Value.int .u8 (b.toNat : Int)) = l.map fun c => Value.int .u8 (Int.ofNat c) := by
        rw [List.map_map]
        apply List.map_congr_left
        intro c hc
        simp [Nat.mod_eq_of_lt (hl c hc)]
      have hex : (⟨(l.map UInt8.ofNat).toArray⟩ : ByteArray).extract 0 l.length = ⟨(l.map UInt8.ofNat).toArray⟩ := by
        have := extract_list (l.map UInt8.ofNat) 0 l.length
        rw [List.drop_zero, List.take_of_length_le (by simp)] at this
        exact this
      have hq : (Builtin.firstCells 1 l.length (str (l.map UInt8.ofNat))).run P w' = .ok ((⟨(l.map UInt8.ofNat).toArray⟩ : ByteArray).data.map fun b => Value.int .u8 (b.toNat : Int)) w' := by
        simp only [str, Builtin.firstCells, hex, Sem.run_pure]
      rw [hq]
      congr 1
      apply Array.ext'
      rw [← hcs]; simp
  · cases e
theorem emptyA_s {x : AV} (hx : emptyA x = true) {Φ : Phi} {y : Value} {t' : TypeId} {sz : Nat} (hr : Rv Φ x y) (ht : SlTy P t') : SrcW P t' w sz 0 y [] := by
  have key : ∀ (a : Option Addr) (c : Nat), SrcW P t' w sz 0 (.slice a 0 c) [] := fun a c => ⟨ht, fun w' => rfl, fun w' _ => by cases a <;> simp [Builtin.firstCells, loadCells, loadCellsFrom]⟩
  unfold emptyA at hx
  split at hx
  · simp only [Rv] at hr; subst hr; exact key _ _
  · simp only [Rv] at hr; obtain ⟨a, c, rfl⟩ := hr; exact key _ _
  · obtain ⟨_, c, _, rfl, _⟩ := hr.slI; exact key _ _
  · obtain ⟨_, rfl⟩ := hr.sI
    exact ⟨ht, fun w' => rfl, fun w' _ => by simp [str, Builtin.firstCells]⟩
  · cases hx
theorem apNew_n {el sz : Nat} {h0 : Hp} {m n : Nat} {us vs : List AV} (he : apNew P el sz h0 m n us vs = .ok v h') : h'.n = h0.n + 1 ∧ h0.n < big5 ∧ m + n ≤ 1000000 ∧ (∀ z sz by_, infoOf P el = some (z, sz, by_) → by_ ≤ 65536) := by
  unfold apNew at he
  obtain ⟨h1, h2, he⟩ := apLen_s he
  rw [appK_eq] at he
  obtain ⟨hb, he⟩ := newB_s he
  obtain ⟨rfl, rfl⟩ := ok_inj he
  exact ⟨rfl, hb, h1, h2⟩
theorem apNew_g {el sz : Nat} {h0 : Hp} {m n : Nat} {us vs : List AV} (he : apNew P el sz h0 m n us vs = .ok v h') : Grow h0 h' := by
  unfold apNew at he
  obtain ⟨h1, h2, he⟩ := apLen_s he
  rw [appK_eq] at he
  obtain ⟨hb, he⟩ := newB_s he
  obtain ⟨rfl, rfl⟩ := ok_inj he
  exact Grow.new hb
/-- what a slice holds, in a world -/
theorem src_w {u : Value} {id off n sz : Nat} {cap : Option Nat} {b : Blk} (hr : Rv Φ (.sl id off n sz cap) u) (hR : Rel Φ τ h w) (hid : id < h.n) (hb : get5 id h.t = some b) (hrow : b.ob = .row) (hl : n * sz ≤ (b.cs.drop off).length) :
    ∃ A c ys, u = .slice (some A) n c ∧ ys.length = n * sz ∧ RvL Φ ((b.cs.drop off).take (n * sz)) ys ∧ ∀ j y, ys[j]? = some y → w.cell? (A.add j) = some y := by
  obtain ⟨en, c, hen, rfl, _⟩ := hr.slI
  obtain ⟨e', C, T, br⟩ := (hR.blk id b hid hb).row hrow
  have := br.ent
  rw [hen] at this; cases this
  obtain ⟨ys, h1, h2, h3⟩ := br.cells off (n * sz) hl
  exact ⟨_, c, ys, rfl, h1, h2, fun j y hj => by rw [Addr.add_lit]; exact h3 j y hj⟩
def MvB (P : Program) (op : Op) (f : Fr) (v : AV) (h h' : Hp) : Prop := (h.n ≤ big5 → Grow h h') ∧
    ∀ (Φ : Phi) (τ : Tau) (F : Wf.Fr) (w : World) (dst : Option Tmp) (ty : TypeId) (pos : String) (after : Array Edge) (gd : Option (Nat × Bool)), FR Φ f F → Rel Φ τ h w → Fre Φ h.n h'.n →
    St P (fe F) ⟨dst, op, ty, pos, after, gd⟩ w (fun x w' => ∃ Φ' τ', Rv Φ' v x ∧ Rel Φ' τ' h' w' ∧ Tw Φ τ h w Φ' τ' h'.n w') KF
theorem evAppend_s {ts : Array TypeId} {args : Array Operand} (e : evAppend P ts.toList (opds f args.toList) h = .ok v h') : MvB P (.call { callee := .builtin .append, args := args, argTypes := ts }) f v h h' := by
  unfold evAppend at e
  split at e
  · rename_i t t' s x hts hxs
    obtain ⟨a, b, hal, ha, hb⟩ := two hxs
    have hargs : args = #[a, b] := by apply Array.ext'; rw [hal]
    subst hargs
    have hts' : ts = #[t, t'] := by apply Array.ext'; rw [hts]
    subst hts'
    split at e
    · cases e
    · rename_i el hel
      split at e
      · rename_i sz zc hsz hzc
        obtain ⟨hc, e0⟩ := recB e
        clear e
        obtain ⟨hc, hzl⟩ := and_t hc
        obtain ⟨hpos, htt⟩ := and_t hc
        have hpos : 0 < sz := of_blt hpos
        have hu := slOf_u hel
        have htt : SlTy P t' := by
          rcases Bool.or_eq_true_iff.1 htt with h1 | h1
          · have := Nat.eq_of_beq_eq_true h1; subst this; exact .inr ⟨el, hu⟩
          · exact .inl (isStr_u (and_t h1).1)
        have hzl := Nat.eq_of_beq_eq_true hzl
        obtain ⟨zv, sz', by_, hinf, rfl⟩ := zcOf_u hzc
        obtain ⟨zv2, by2, hinf2⟩ := szOf_u hsz
        rw [hinf] at hinf2
        simp only [Option.some.injEq, Prod.mk.injEq] at hinf2
        obtain ⟨rfl, rfl, rfl⟩ := hinf2
        rw [len_eq, List.length_map, Array.length_toList] at hzl
        obtain ⟨inf, hi', hz, hs, hby⟩ := infoOf_parts hinf
        rw [recBk] at e0
        split at e0
        · -- nothing is appended
          rename_i hE
          have fin : ∀ {s' : AV}, opd f a = s' → (s' = .ns ∨ ∃ id off n z cap, s' = .sl id off n z cap) → Res.ok s' h = .ok v h' → MvB P (.call { callee := .builtin .append, args := #[a, b], argTypes := #[t, t'] }) f v h h' := by
            intro s' hs' hk he
            obtain ⟨rfl, rfl⟩ := ok_inj he
            refine ⟨fun _ => Grow.refl _, fun Φ τ F w dst ty pos after gd hF hR hFr => ?_⟩
            have hra := opd_sound hF a
            have hrb := opd_sound hF b
            rw [hs'] at hra
            rw [hb] at hrb
            have S := emptyA_s (P := P) (w := w) (sz := inf.size) hE hrb htt
            refine St.appendRun (x := fe F a) (w' := w) ?_ ⟨Φ, τ, hra, hR, Tw.refl _ _ _ _ _⟩
            rcases hk with rfl | ⟨id, off, n, z, cap, rfl⟩
            · simp only [Rv] at hra
              exact run_ap_none hu hi' hra (Nat.le_refl _) S
            · obtain ⟨en, c, _, hv, hn, _⟩ := hra.slI
              exact run_ap_none hu hi' hv hn S
          split at e0
          · exact fin ha (.inl rfl) e0
          · exact fin ha (.inr ⟨_, _, _, _, _, rfl⟩) e0
          · cases e0
        · obtain ⟨n, vs, hn, e1, hsrc⟩ := srcK_s (P := P) e0
          clear e0
          cases s with
          | ns =>
            have e2 : apNew P el sz' h 0 n [] vs = .ok v h' := e1
            clear e1
            have hg := apNew_g e2
            obtain ⟨hn1, hlim, hmn, hbb⟩ := apNew_n e2
            refine ⟨fun _ => hg, fun Φ τ F w dst ty pos after gd hF hR hFr => ?_⟩
            have hra := opd_sound hF a
            have hrb := opd_sound hF b
            rw [ha] at hra
            rw [hb] at hrb
            simp only [Rv] at hra
            obtain ⟨ys, hyl, hyr, S⟩ := hsrc Φ τ w _ t' hrb hR htt
            have hby' := hbb _ _ _ hinf
            have hnb : n * by_ ≤ 1000000 * 65536 := Nat.mul_le_mul (by omega) hby'
            rw [← hs] at S
            have hrun := run_ap_nil (P := P) (w := w) (ty := ty) hu hi' hz S hn (by omega) (by rw [hby]; omega)
            have hge := grownCap_ge w n 0 el
            have hgm := grownCap_le_maxLen w n 0 el (by unfold maxLen; omega)
            obtain ⟨_, Φ', τ', k1, k2, k3⟩ := apNew_s (G := grownCap w n 0 el) (z := zv) (by_ := by_) (xs := []) e2 hR (hFr _ (Nat.le_refl _) (by omega)) (by simp only [RvL]) hyr (by simp) hyl hzl (by omega) hgm rfl (Wn.drew w _)
            refine St.appendRun (w' := w.drew.alloc (.cells (ys.toArray ++ Builtin.zeroCells zv.cells (grownCap w n 0 el - n)) el)) (by rw [hra]; exact hrun) ⟨Φ', τ', ?_, ?_, ?_⟩
            · simpa using k1
            · simpa using k2
            · simpa using k3
          | sl id off m z cap =>
            unfold apTo at e1
            obtain ⟨hzz, e2⟩ := recB e1
            clear e1
            have hzz := Nat.eq_of_beq_eq_true hzz
            subst hzz
            cases cap with
            | some c0 =>
              simp only at e2
              rw [recBk] at e2
              split at e2
              · -- it fits
                rename_i hfit
                have hfit : m + n ≤ c0 := Nat.le_of_ble_eq_true hfit
                obtain ⟨b1, hid1, hb1, hrow1, hro, hsc, hle, e3⟩ := wrB_s e2
                clear e2
                obtain ⟨hmn, hbb, e4⟩ := apLen_s e3
                clear e3
                obtain ⟨rfl, rfl⟩ := ok_inj e4
                refine ⟨fun hl => Grow.put hl hid1 hb1, fun Φ τ F w dst ty pos after gd hF hR hFr => ?_⟩
                have hra := opd_sound hF a
                have hrb := opd_sound hF b
                rw [ha] at hra
                rw [hb] at hrb
                obtain ⟨ys, hyl, hyr, S⟩ := hsrc Φ τ w _ t' hrb hR htt
                obtain ⟨en, c1, hen, hv, q1, q2, q3, q4⟩ := hra.slI
                have : c1 = c0 := q4
                subst this
                obtain ⟨e', C, T, br⟩ := (hR.blk id b1 hid1 hb1).row hrow1
                have := br.ent
                rw [hen] at this; cases this
                have hvl := hyr.len
                obtain ⟨g1, g2⟩ := hR.wr hid1 hb1 br hro hyr hle
                have hble := br.le
                have hbs := br.size
                have hle' : off + m * z + vs.length ≤ b1.cs.length := hle
                rw [← hs] at S
                have hrun := run_ap_room (P := P) (w := w) (ty := ty) hu hi' (g := en.g) (o := en.base + off) (sLen := m) (sCap := c1) (br.obj0 hro) S (fun u hu => by have := allScal_s hsc hyr; exact List.all_eq_true.1 this u hu) hfit (by rw [hs]; omega)
                rw [hs] at hrun
                refine St.appendRun (by rw [hv]; exact hrun) ⟨Φ, τ, ?_, ?_, ?_⟩
                · exact Rv.msl hen hfit q2 q3 rfl
                · rw [Nat.add_assoc en.base off]; exact g1
                · rw [Nat.add_assoc en.base off]; exact g2
              · -- a new row
                rename_i hfit
                have hfit : c0 < m + n := by
                  rcases Nat.lt_or_ge c0 (m + n) with h | h
                  · exact h
                  · exact absurd (Nat.ble_eq_true_of_le h) hfit
                obtain ⟨b1, hid1, hb1, hrow1, e3⟩ := getB_s e2
                clear e2
                rcases tkK_eq (dr b1.cs off) (Nat.mul m z) (fun us => apNew P el z h m n us vs) with ⟨e4, hl⟩ | ⟨q, e4⟩
                · rw [e4] at e3
                  rw [dr_eq] at e3 hl
                  have hg := apNew_g e3
                  obtain ⟨hn1, hlim, hmn, hbb⟩ := apNew_n e3
                  refine ⟨fun _ => hg, fun Φ τ F w dst ty pos after gd hF hR hFr => ?_⟩
                  have hra := opd_sound hF a
                  have hrb := opd_sound hF b
                  rw [ha] at hra
                  rw [hb] at hrb
                  obtain ⟨ys, hyl, hyr, S⟩ := hsrc Φ τ w _ t' hrb hR htt
                  obtain ⟨A1, c1, xs, hv, hxl, hxr, hxc⟩ := src_w hra hR hid1 hb1 hrow1 hl
                  obtain ⟨en, c1', hen, hv', q1, q2, q3, q4⟩ := hra.slI
                  have : c1' = c0 := q4
                  subst this
                  have hcc : c1 = c1' := by rw [hv] at hv'; cases hv'; rfl
                  subst hcc
                  have hby' := hbb _ _ _ hinf
                  have hnb : (m + n) * by_ ≤ 1000000 * 65536 := Nat.mul_le_mul (by omega) hby'
                  rw [← hs] at S
                  have hrun := run_ap_grow (P := P) (w := w) (ty := ty) hu hi' hz (b := A1) (sLen := m) (sCap := c1) (olds := xs) (by rw [hxl, hs]) hxc S hfit (by omega) (growslice_fits hfit (by rw [hby]; omega))
                  have hge := grownCap_ge w (m + n) c1 el
                  have hgm := grownCap_le_maxLen w (m + n) c1 el (by unfold maxLen; omega)
                  obtain ⟨_, Φ', τ', k1, k2, k3⟩ := apNew_s (G := grownCap w (m + n) c1 el) (z := zv) (by_ := by_) e3 hR (hFr _ (Nat.le_refl _) (by omega)) hxr hyr hxl hyl hzl (by omega) hgm rfl (Wn.drew w _)
                  exact St.appendRun (by rw [hv]; exact hrun) ⟨Φ', τ', k1, k2, k3⟩
                · rw [e4] at e3; cases e3
            | none =>
              obtain ⟨b1, hid1, hb1, hrow1, e3⟩ := getB_s e2
              clear e2
              obtain ⟨hc2, e4⟩ := recB e3
              clear e3
              obtain ⟨hc2, hbt⟩ := and_t hc2
              have hbt := Nat.eq_of_beq_eq_true hbt
              obtain ⟨hro, hsc⟩ := and_t hc2
              have hro := not_t hro
              rcases tkK_eq (dr b1.cs off) (Nat.mul m z) (fun us => apNew P el z (putB h id none) m n us vs) with ⟨e5, hl⟩ | ⟨q, e5⟩
              · rw [e5] at e4
                rw [dr_eq] at e4 hl
                have hg := apNew_g e4
                obtain ⟨hn1, hlim, hmn, hbb⟩ := apNew_n e4
                have hlim : h.n < big5 := hlim
                have hn1 : h'.n = h.n + 1 := hn1
                refine ⟨fun hl => (Grow.put hl hid1 hb1).trans hg, fun Φ τ F w dst ty pos after gd hF hR hFr => ?_⟩
                have hra := opd_sound hF a
                have hrb := opd_sound hF b
                rw [ha] at hra
                rw [hb] at hrb
                obtain ⟨ys, hyl, hyr, S⟩ := hsrc Φ τ w _ t' hrb hR htt
                obtain ⟨A1, c1, xs, hv, hxl, hxr, hxc⟩ := src_w hra hR hid1 hb1 hrow1 hl
                obtain ⟨en, c1', hen, hv', q1, q2, q3, q4⟩ := hra.slI
                have hcc : c1 = c1' := by rw [hv] at hv'; cases hv'; rfl
                subst hcc
                have hf : Φ h.n = none := hFr _ (Nat.le_refl _) (by omega)
                rw [← hs] at S
                by_cases hfit : m + n ≤ c1
                · obtain ⟨e', C, T, br⟩ := (hR.blk id b1 hid1 hb1).row hrow1
                  have := br.ent
                  rw [hen] at this; cases this
                  have hble := br.le
                  have hbs := br.size
                  have hmc : (m + n) * z ≤ c1 * z := Nat.mul_le_mul_right _ hfit
                  rw [Nat.add_mul] at hmc
                  have hl' : m * z ≤ (b1.cs.drop off).length := hl
                  rw [List.length_drop] at hl'
                  have hrun := run_ap_room (P := P) (w := w) (ty := ty) hu hi' (g := en.g) (o := en.base + off) (sLen := m) (sCap := c1) (br.obj0 hro) S (fun u hu => by
                    have := allScal_s hsc hyr; exact List.all_eq_true.1 this u hu) hfit (by rw [hs, hyl]; omega)
                  rw [hs] at hrun
                  obtain ⟨Φ', τ', k1, k2, k3⟩ := hR.stay (el := el) hid1 hb1 br hro hbt hlim hf rfl hl hyr hyl hfit q2 q3
                  unfold apNew at e4
                  obtain ⟨_, _, e6⟩ := apLen_s e4
                  clear e4
                  rw [appK_eq] at e6
                  obtain ⟨_, e7⟩ := newB_s e6
                  clear e6
                  obtain ⟨rfl, rfl⟩ := ok_inj e7
                  exact St.appendRun (by rw [hv']; exact hrun) ⟨Φ', τ', k1, k2, k3⟩
                · have hfit : c1 < m + n := by omega
                  have hby' := hbb _ _ _ hinf
                  have hnb : (m + n) * by_ ≤ 1000000 * 65536 := Nat.mul_le_mul (by omega) hby'
                  have hrun := run_ap_grow (P := P) (w := w) (ty := ty) hu hi' hz (b := A1) (sLen := m) (sCap := c1) (olds := xs) (by rw [hxl, hs]) hxc S hfit (by omega) (growslice_fits hfit (by rw [hby]; omega))
                  have hge := grownCap_ge w (m + n) c1 el
                  have hgm := grownCap_le_maxLen w (m + n) c1 el (by unfold maxLen; omega)
                  obtain ⟨_, Φ', τ', k1, k2, k3⟩ := apNew_s (G := grownCap w (m + n) c1 el) (z := zv) (by_ := by_) e4 (hR.kill hid1) hf hxr hyr hxl hyl hzl (by omega) hgm rfl (Wn.drew w _)
                  exact St.appendRun (by rw [hv]; exact hrun) ⟨Φ', τ', k1, k2, k3.kill hR hid1⟩
              · rw [e5] at e4; cases e4
          | _ => cases e1
      · cases e
  · cases e
end
end Go.Ev
