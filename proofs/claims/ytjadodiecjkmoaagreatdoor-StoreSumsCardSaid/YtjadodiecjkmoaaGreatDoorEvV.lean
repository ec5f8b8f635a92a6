/-
  copy, cap, a string of a block's bytes and back; the model's own entries.
-/
import Derived.Test.YtjadodiecjkmoaaGreatDoorEvU
import Derived.Lib.MakeNoZero
import Derived.Laws.Externs
namespace Go.Ev
set_option linter.unusedVariables false
set_option linter.unusedSimpArgs false
open Go Go.Wf Go.RowKit

section
variable {P : Program} {f : Fr} {v : AV} {h h' : Hp} {Φ : Phi} {τ : Tau} {w w' : World}
theorem lenA_s {x : AV} {k : Nat → Res} {n : Nat} (e : lenA x k (.no n) = .ok v h') : ∃ m, k m = .ok v h' ∧ (∀ l, x = .s l → m = l.length) ∧ ∀ (Φ : Phi) (y : Value), Rv Φ x y → (∀ w, (Builtin.lenOf y).run P w = .ok m w) ∧ (isSlA x = true → ∃ a c, y = .slice a m c) := by
  unfold lenA at e
  split at e
  · refine ⟨_, e, (fun l hl => by cases hl), fun Φ y hr => ?_⟩
    obtain ⟨en, c, _, rfl, _⟩ := hr.slI
    exact ⟨fun w => rfl, fun _ => ⟨_, _, rfl⟩⟩
  · refine ⟨_, e, (fun l hl => by cases hl), fun Φ y hr => ?_⟩
    simp only [Rv] at hr; subst hr
    exact ⟨fun w => rfl, fun _ => ⟨_, _, rfl⟩⟩
  · refine ⟨_, e, (fun l hl => by cases hl), fun Φ y hr => ?_⟩
    simp only [Rv] at hr; obtain ⟨a, c, rfl⟩ := hr
    exact ⟨fun w => rfl, fun _ => ⟨_, _, rfl⟩⟩
  · rename_i l
    rw [fz_eq, len_eq] at e
    refine ⟨_, e, fun l' hl => by cases hl; rfl, fun Φ y hr => ?_⟩
    obtain ⟨_, rfl⟩ := hr.sI
    refine ⟨fun w => ?_, fun hq => by cases hq⟩
    have hsize : (⟨(l.map UInt8.ofNat).toArray⟩ : ByteArray).size = l.length := by simp [ByteArray.size]
    simp [str, Builtin.lenOf, hsize]
  · cases e
theorem firstK_s {sz n : Nat} {x : AV} {k : List AV → Res} (hn : ∀ l, x = .s l → n ≤ l.length) (e : firstK h sz n x k = .ok v h') : ∃ vs, k vs = .ok v h' ∧
    ∀ (Φ : Phi) (τ : Tau) (w : World) (y : Value), Rv Φ x y → Rel Φ τ h w → ∃ ys, ys.length = n * sz ∧ RvL Φ vs ys ∧ (Builtin.firstCells sz n y).run P w = .ok ys.toArray w := by
  unfold firstK at e
  split at e
  · rename_i id off m z cap
    obtain ⟨h1, e0⟩ := recB e
    clear e
    have := Nat.eq_of_beq_eq_true h1
    subst this
    obtain ⟨b, hid, hb, hrow, e⟩ := getB_s e0
    clear e0
    rcases tkK_eq (dr b.cs off) (Nat.mul n z) k with ⟨e2, hl⟩ | ⟨q, e2⟩
    · rw [e2, dr_eq] at e
      rw [dr_eq] at hl
      refine ⟨_, e, fun Φ τ w y hr hR => ?_⟩
      obtain ⟨en, c, hen, rfl, _⟩ := hr.slI
      obtain ⟨e', C, T, br⟩ := (hR.blk id b hid hb).row hrow
      have := br.ent
      rw [hen] at this; cases this
      obtain ⟨ys, k1, k2, k3⟩ := br.cells off (n * z) hl
      exact ⟨ys, k1, k2, run_firstCells_some (P := P) w z n _ m c ys k1 fun j u hj => by rw [Addr.add_lit]; exact k3 j u hj⟩
    · rw [e2] at e; cases e
  · rename_i l
    obtain ⟨h1, e0⟩ := recB e
    clear e
    have := Nat.eq_of_beq_eq_true h1
    subst this
    rw [appK_eq, List.append_nil, tk_eq] at e0
    refine ⟨_, e0, fun Φ τ w y hr hR => ?_⟩
    obtain ⟨hl, rfl⟩ := hr.sI
    have hnl := hn l rfl
    refine ⟨(l.take n).map fun c => .int .u8 (Int.ofNat c), by simp; omega, ?_, ?_⟩
    · rw [chars_eq]
      refine RvL.mk (by simp) fun i a u ha hu => ?_
      rw [List.getElem?_map] at ha hu
      cases hli : (l.take n)[i]? with
      | none => rw [hli] at ha; cases ha
      | some c => rw [hli] at ha hu; cases ha; cases hu; exact Rv.mi
    · have hcs : ((l.take n).map UInt8.ofNat).map (fun b : UInt8 => Value.int .u8 (b.toNat : Int)) = (l.take n).map fun c => Value.int .u8 (Int.ofNat c) := by
        rw [List.map_map]
        apply List.map_congr_left
        intro c hc
        simp [Nat.mod_eq_of_lt (hl c (List.mem_of_mem_take hc))]
      have hex : (⟨(l.map UInt8.ofNat).toArray⟩ : ByteArray).extract 0 n = ⟨((l.take n).map UInt8.ofNat).toArray⟩ := by
        have := extract_list (l.map UInt8.ofNat) 0 n
        rw [List.drop_zero, ← List.map_take] at this
        exact this
      have hq : (Builtin.firstCells 1 n (str (l.map UInt8.ofNat))).run P w = .ok ((⟨((l.take n).map UInt8.ofNat).toArray⟩ : ByteArray).data.map fun b => Value.int .u8 (b.toNat : Int)) w := by
        simp only [str, Builtin.firstCells, hex, Sem.run_pure]
      rw [hq]
      congr 1
      apply Array.ext'
      rw [← hcs]; simp
  · cases e
theorem two_s {ts : List TypeId} {t u : TypeId} {a b : AV} {args : Array Operand} {tys : Array TypeId} (h1 : tys.toList = [t, u]) (h2 : opds f args.toList = [a, b]) : tys = #[t, u] ∧ ∃ x y, args = #[x, y] ∧ opd f x = a ∧ opd f y = b := by
  obtain ⟨x, y, hl, hx, hy⟩ := two h2
  exact ⟨by apply Array.ext'; rw [h1], x, y, by apply Array.ext'; rw [hl], hx, hy⟩
theorem one_s {a : AV} {args : Array Operand} (h2 : opds f args.toList = [a]) : ∃ x, args = #[x] ∧ opd f x = a := by
  have one : ∀ {l : List Operand} {a : AV}, opds f l = [a] → ∃ x, l = [x] ∧ opd f x = a := by
    intro l a hl
    cases l with
    | nil => cases hl
    | cons x l =>
      have hl : opd f x :: opds f l = [a] := hl
      cases l with
      | nil => simp only [List.cons.injEq] at hl; exact ⟨x, rfl, hl.1⟩
      | cons y l => have hl : opd f x :: opd f y :: opds f l = [a] := hl; simp at hl
  obtain ⟨x, hl, hx⟩ := one h2
  exact ⟨x, by apply Array.ext'; rw [hl], hx⟩
theorem evCopy_s {ts : Array TypeId} {args : Array Operand} (e : evCopy P ts.toList (opds f args.toList) h = .ok v h') : MvB P (.call { callee := .builtin .copy, args := args, argTypes := ts }) f v h h' := by
  unfold evCopy at e
  split at e
  · rename_i t t' d x hts hxs
    obtain ⟨rfl, a, b, rfl, ha, hb⟩ := two_s (ts := []) hts hxs
    clear hts hxs
    split at e
    · cases e
    · rename_i sz hsz
      have hel : ∃ el, P.underlying t = some (.slice el) ∧ szOf P el = some sz := by
        cases hs : slOf P t with
        | none => rw [hs] at hsz; cases hsz
        | some el => rw [hs] at hsz; exact ⟨el, slOf_u hs, hsz⟩
      obtain ⟨el, hu, hsz⟩ := hel
      obtain ⟨zv, by_, hinf⟩ := szOf_u hsz
      obtain ⟨inf, hi', _, hs, _⟩ := infoOf_parts hinf
      obtain ⟨hd, e1⟩ := recB e
      clear e
      obtain ⟨n, e2, hn0, hn⟩ := lenA_s (P := P) e1
      clear e1
      obtain ⟨m, e3, hm0, hm⟩ := lenA_s (P := P) e2
      clear e2
      rw [fz_eq, recBk] at e3
      split at e3
      · rename_i hq
        have hq : Nat.min m n = 0 := Nat.eq_of_beq_eq_true hq
        obtain ⟨rfl, rfl⟩ := ok_inj e3
        refine ⟨fun _ => Grow.refl _, fun Φ τ F w dst ty pos after gd hF hR _ => ?_⟩
        have hra := opd_sound hF a
        have hrb := opd_sound hF b
        rw [ha] at hra
        rw [hb] at hrb
        obtain ⟨_, k2⟩ := hn Φ _ hra
        obtain ⟨A, c, hv⟩ := k2 hd
        obtain ⟨k4, _⟩ := hm Φ _ hrb
        have hfc : ∀ y : Value, (Builtin.lenOf y).run P w = .ok m w → (Builtin.firstCells sz 0 y).run P w = .ok #[] w := by
          intro y hy
          cases y with
          | slice a n c => cases a <;> simp [Builtin.firstCells, loadCells, loadCellsFrom]
          | string s => simp [Builtin.firstCells]
          | _ => simp [Builtin.lenOf, stuck] at hy
        have k5 := hfc _ (k4 w)
        refine St.of_run (v := .int .i64 0) (w' := w) ?_ ⟨Φ, τ, Rv.mi, hR, Tw.refl _ _ _ _ _⟩
        have hrun : (Builtin.copy_ #[t, t'] ty #[fe F a, fe F b]).run P w = .ok (.int .i64 0) w := by
          rw [hv]
          cases A <;> simp [Builtin.copy_, run_underlying hu, sizeOf, typeInfo, hi', k4 w, hq, hs, k5, storeCells, goInt]
        simp [execOp, resolve, invoke, builtin, hrun]
      · rename_i hq
        split at e3
        · rename_i id off n0 z cap
          obtain ⟨hz, e4⟩ := recB e3
          clear e3
          have hz := Nat.eq_of_beq_eq_true hz
          subst hz
          obtain ⟨vs, e5, hvs⟩ := firstK_s (P := P) (fun l hl => by rw [hm0 l hl]; exact Nat.min_le_left _ _) e4
          clear e4
          obtain ⟨b1, hid1, hb1, hrow1, hro, hsc, hle, e6⟩ := wrB_s e5
          clear e5
          obtain ⟨rfl, rfl⟩ := ok_inj e6
          refine ⟨fun hl => Grow.put hl hid1 hb1, fun Φ τ F w dst ty pos after gd hF hR _ => ?_⟩
          have hra := opd_sound hF a
          have hrb := opd_sound hF b
          rw [ha] at hra
          rw [hb] at hrb
          obtain ⟨k4, _⟩ := hm Φ _ hrb
          obtain ⟨ys, y1, y2, y3⟩ := hvs Φ τ w _ hrb hR
          obtain ⟨kn, _⟩ := hn Φ _ hra
          obtain ⟨en, c1, hen, hv, q1, q2, q3, q4⟩ := hra.slI
          have hn1 : n = n0 := by
            have h9 := kn w
            rw [hv] at h9
            simp [Builtin.lenOf] at h9
            exact h9.symm
          subst hn1
          obtain ⟨e', C, T, br⟩ := (hR.blk id b1 hid1 hb1).row hrow1
          have := br.ent
          rw [hen] at this; cases this
          obtain ⟨g1, g2⟩ := hR.wr hid1 hb1 br hro y2 hle
          have hvl := y2.len
          have hble := br.le
          have hbs := br.size
          have hst := run_storeCells_at P en.g (en.base + off) T ys 0 C w (br.obj0 hro) (by simp; omega) (fun u hu => by have := allScal_s hsc y2; exact List.all_eq_true.1 this u hu)
          simp only [Nat.add_zero] at hst
          have hrun : (Builtin.copy_ #[t, t'] ty #[fe F a, fe F b]).run P w = .ok (.int .i64 (Int.ofNat (Nat.min m n))) (w.setRow en.g (C.toList.take (en.base + off) ++ ys ++ C.toList.drop (en.base + off + ys.length)).toArray) := by
            rw [hv]
            simp [Builtin.copy_, run_underlying hu, sizeOf, typeInfo, hi', k4 w, hs, y3, hst, goInt]
          exact St.of_run (v := .int .i64 (Int.ofNat (Nat.min m n))) (by simp [execOp, resolve, invoke, builtin, hrun]) ⟨Φ, τ, Rv.mi, g1, g2⟩
        · cases e3
  · cases e
theorem evCap_s {ts : Array TypeId} {args : Array Operand} (e : evCap P ts.toList (opds f args.toList) h = .ok v h') : MvB P (.call { callee := .builtin .cap, args := args, argTypes := ts }) f v h h' := by
  unfold evCap at e
  split at e
  · rename_i t id off n z c hts hxs
    obtain ⟨x, rfl, hx⟩ := one_s hxs
    have hts' : ts = #[t] := by apply Array.ext'; rw [hts]
    subst hts'
    obtain ⟨hs, e1⟩ := recB e
    clear e
    obtain ⟨el, hu⟩ := isSl_u hs
    obtain ⟨rfl, rfl⟩ := ok_inj e1
    refine ⟨fun _ => Grow.refl _, fun Φ τ F w dst ty pos after gd hF hR _ => ?_⟩
    have hr := opd_sound hF x
    rw [hx] at hr
    obtain ⟨en, c1, hen, hv, q1, q2, q3, q4⟩ := hr.slI
    have : c1 = c := q4
    subst this
    refine St.of_run (v := .int .i64 (Int.ofNat c1)) (w' := w) ?_ ⟨Φ, τ, Rv.mi, hR, Tw.refl _ _ _ _ _⟩
    simp [execOp, resolve, invoke, builtin, Builtin.cap_, run_underlying hu, hv, goInt]
  · rename_i t hts hxs
    obtain ⟨x, rfl, hx⟩ := one_s hxs
    have hts' : ts = #[t] := by apply Array.ext'; rw [hts]
    subst hts'
    obtain ⟨hs, e1⟩ := recB e
    clear e
    obtain ⟨el, hu⟩ := isSl_u hs
    obtain ⟨rfl, rfl⟩ := ok_inj e1
    refine ⟨fun _ => Grow.refl _, fun Φ τ F w dst ty pos after gd hF hR _ => ?_⟩
    have hr := opd_sound hF x
    rw [hx] at hr
    have hv : fe F x = .slice none 0 0 := by simpa only [Rv] using hr
    refine St.of_run (v := .int .i64 (Int.ofNat 0)) (w' := w) ?_ ⟨Φ, τ, Rv.mi, hR, Tw.refl _ _ _ _ _⟩
    simp [execOp, resolve, invoke, builtin, Builtin.cap_, run_underlying hu, hv, goInt]
  · cases e
theorem evUSData_s {ts : Array TypeId} {args : Array Operand} (e : evUSData (opds f args.toList) h = .ok v h') : MvB P (.call { callee := .builtin .unsafeSliceData, args := args, argTypes := ts }) f v h h' := by
  unfold evUSData at e
  split at e
  · rename_i hxs
    obtain ⟨x, rfl, hx⟩ := one_s hxs
    obtain ⟨rfl, rfl⟩ := ok_inj e
    refine ⟨fun _ => Grow.refl _, fun Φ τ F w dst ty pos after gd hF hR _ => ?_⟩
    have hr := opd_sound hF x
    rw [hx] at hr
    have hv : fe F x = .slice none 0 0 := by simpa only [Rv] using hr
    have hrun := Lib.run_unsafeSliceData_nil (P := P) w ts ty 0 0
    exact St.of_run (v := .pointer none) (w' := w) (by simp [execOp, resolve, invoke, builtin, hv, hrun]) ⟨Φ, τ, by simp only [Rv], hR, Tw.refl _ _ _ _ _⟩
  · rename_i id off n z c hxs
    obtain ⟨x, rfl, hx⟩ := one_s hxs
    obtain ⟨hc, e1⟩ := recB e
    clear e
    have hc := of_blt hc
    obtain ⟨rfl, rfl⟩ := ok_inj e1
    refine ⟨fun _ => Grow.refl _, fun Φ τ F w dst ty pos after gd hF hR _ => ?_⟩
    have hr := opd_sound hF x
    rw [hx] at hr
    obtain ⟨en, c1, hen, hv, q1, q2, q3, q4⟩ := hr.slI
    have : c1 = c := q4
    subst this
    have hrun := Lib.run_unsafeSliceData_row (P := P) w ts ty ⟨en.g, en.base + off, none⟩ n c1 (by omega)
    exact St.of_run (v := .pointer (some ⟨en.g, en.base + off, none⟩)) (w' := w) (by simp [execOp, resolve, invoke, builtin, hv, hrun]) ⟨Φ, τ, Rv.mp hen, hR, Tw.refl _ _ _ _ _⟩
  · rename_i id off n z hxs
    obtain ⟨x, rfl, hx⟩ := one_s hxs
    obtain ⟨hc, e1⟩ := recB e
    clear e
    have hc := of_blt hc
    obtain ⟨rfl, rfl⟩ := ok_inj e1
    refine ⟨fun _ => Grow.refl _, fun Φ τ F w dst ty pos after gd hF hR _ => ?_⟩
    have hr := opd_sound hF x
    rw [hx] at hr
    obtain ⟨en, c1, hen, hv, q1, q2, q3, q4⟩ := hr.slI
    have hrun := Lib.run_unsafeSliceData_row (P := P) w ts ty ⟨en.g, en.base + off, none⟩ n c1 (by omega)
    exact St.of_run (v := .pointer (some ⟨en.g, en.base + off, none⟩)) (w' := w) (by simp [execOp, resolve, invoke, builtin, hv, hrun]) ⟨Φ, τ, Rv.mp hen, hR, Tw.refl _ _ _ _ _⟩
  · cases e
theorem liesAt_off {e : TypeId} (hc : P.cellsOf e = 1) (count o n : Nat) (hn : o + n ≤ count) : liesAt P P.depth e count o e n = true := by
  have hd : P.depth = (2 * (P.types.size + Made.depth) + 1) + 1 := rfl
  rw [hd]
  simp only [liesAt, Bool.or_eq_true]
  left
  rw [hd]
  simp [rowAt, hc, hn, sameLayout, Nat.mod_one]
theorem run_ustr {pt it ty e : TypeId} (hp : P.underlying pt = some (.pointer e)) (hc : P.cellsOf e = 1) {g o cells : Nat} {k : IntKind} (hsh : w.shape? g = some (e, cells)) (l : List UInt8) (h0 : l.length ≠ 0) (hn : o + l.length ≤ cells) (h63 : l.length ≤ 1000000)
    (hcell : ∀ j x, l[j]? = some x → w.cell? ((⟨g, o, none⟩ : Addr).add j) = some (.int .u8 x.toNat)) :
    (Builtin.unsafeString_ #[pt, it] ty #[.pointer (some ⟨g, o, none⟩), .int k l.length]).run P w = .ok (.string ⟨l.toArray⟩) (w.freeze ⟨g, o, none⟩ l.length) := by
  have hlb := Lib.run_loadBytes (P := P) w l ⟨g, o, none⟩ .empty hcell
  have hlies := liesAt_off (P := P) hc (cells / P.cellsOf e) o l.length (by rw [hc]; simpa using hn)
  have h63' : ¬ (9223372036854775807 : Int) < (l.length : Int) := by omega
  have hdef : Builtin.unsafeString_ #[pt, it] ty #[.pointer (some ⟨g, o, none⟩), .int k l.length] =
      (do
        let n ← asInt (.int k l.length)
        if n < 0 then runtimePanic _
        if n > IntKind.i64.max then unsupported _
        if n = 0 then pure (.string .empty)
        else if ← variablesAt ⟨g, o, none⟩ (← elemOf pt) n.toNat then do
          let s ← loadBytes ⟨g, o, none⟩ .empty n.toNat
          freeze ⟨g, o, none⟩ n.toNat
          pure (.string s)
        else unsupported _) := rfl
  rw [hdef]
  have hmax : IntKind.i64.max = 9223372036854775807 := rfl
  have hneg : ¬ (l.length : Int) < 0 := by omega
  simp [asInt, asIntOf, hmax, h63', hneg, h0, variablesAt, hsh, elemOf, run_underlying hp, hlies, hlb]
theorem run_ustr0 {pt it ty : TypeId} {k : IntKind} (p : Option Addr) : (Builtin.unsafeString_ #[pt, it] ty #[.pointer p, .int k 0]).run P w = .ok (.string .empty) w := by
  have hmax : IntKind.i64.max = 9223372036854775807 := rfl
  cases p with
  | none =>
    have hdef : Builtin.unsafeString_ #[pt, it] ty #[.pointer none, .int k 0] =
        (do
          let n ← asInt (.int k 0)
          if n < 0 then runtimePanic _
          if n > IntKind.i64.max then unsupported _
          if n = 0 then pure (.string .empty)
          else runtimePanic _) := rfl
    rw [hdef]
    simp [asInt, asIntOf, hmax]
  | some a =>
    have hdef : Builtin.unsafeString_ #[pt, it] ty #[.pointer (some a), .int k 0] =
        (do
          let n ← asInt (.int k 0)
          if n < 0 then runtimePanic _
          if n > IntKind.i64.max then unsupported _
          if n = 0 then pure (.string .empty)
          else if ← variablesAt a (← elemOf pt) n.toNat then do
            let s ← loadBytes a .empty n.toNat
            freeze a n.toNat
            pure (.string s)
          else unsupported _) := rfl
    rw [hdef]
    simp [asInt, asIntOf, hmax]
/-- a block given up, its object turned -/
theorem Rel.lose {id : Nat} {b : Blk} {en : Ent} (r : Rel Φ τ h w) (hid : id < h.n) (hb : get5 id h.t = some b) (hlab : τ en.g = .own id) (hos : w'.os = w.os) (htp : w'.tape = w.tape) (hou : w'.output = w.output)
    (hsz : w'.heap.size = w.heap.size) (hoth : ∀ g, g ≠ en.g → w'.heap[g]? = w.heap[g]?) : Rel Φ τ (putB h id none) w' ∧ Tw Φ τ h w Φ τ h.n w' := by
  refine ⟨⟨r.lim, ?_, fun i hi h5 => getP_fin r hid hi h5⟩, ⟨hos, htp, hou, by rw [hsz]; exact Nat.le_refl _, Sub.refl _, fun _ _ => rfl, ?_⟩⟩
  · intro i b' hi hb'
    have hi : i < h.n := hi
    rw [getP_none r hid hi] at hb'
    split at hb'
    · cases hb'
    · rename_i hne
      obtain ⟨en2, _, _, hl2, k⟩ := (r.blk i b' hi hb').at_
      have hg : en2.g ≠ en.g := by
        intro hg
        rw [hg, hlab] at hl2
        split at hl2
        · cases hl2
        · cases hl2; exact hne rfl
      exact k (Sub.refl _) (hoth _ hg) rfl
  · intro g hg hk
    refine ⟨hoth g ?_, rfl⟩
    intro e
    subst e
    have := (hk id hlab).1 hid
    rw [hb] at this; cases this
theorem freeze_w (w : World) (g o n : Nat) : (w.freeze ⟨g, o, none⟩ n).os = w.os ∧ (w.freeze ⟨g, o, none⟩ n).tape = w.tape ∧ (w.freeze ⟨g, o, none⟩ n).output = w.output ∧ (w.freeze ⟨g, o, none⟩ n).heap.size = w.heap.size ∧ ∀ k, k ≠ g → (w.freeze ⟨g, o, none⟩ n).heap[k]? = w.heap[k]? := by
  unfold World.freeze
  split
  · exact ⟨rfl, rfl, rfl, rfl, fun _ _ => rfl⟩
  · refine ⟨rfl, rfl, rfl, by simp, fun k hk => ?_⟩
    simp only [Array.getElem?_modify]
    rw [if_neg (fun e => hk e.symm)]
theorem evUStr_s {ts : Array TypeId} {args : Array Operand} (e : evUStr P ts.toList (opds f args.toList) h = .ok v h') : MvB P (.call { callee := .builtin .unsafeString, args := args, argTypes := ts }) f v h h' := by
  unfold evUStr at e
  split at e
  · rename_i pt it p n hts hxs
    obtain ⟨rfl, a, b, rfl, ha, hb⟩ := two_s (ts := []) hts hxs
    clear hts hxs
    obtain ⟨k, m, rfl, e1⟩ := recN e
    clear e
    rw [recBk] at e1
    split at e1
    · rename_i hm
      have hm := Nat.eq_of_beq_eq_true hm
      subst hm
      have fin : ∀ {p : AV}, opd f a = p → (p = .np ∨ ∃ i o, p = .p i o) → Res.ok (.s []) h = .ok v h' → MvB P (.call { callee := .builtin .unsafeString, args := #[a, b], argTypes := #[pt, it] }) f v h h' := by
        intro p ha hp he
        obtain ⟨rfl, rfl⟩ := ok_inj he
        refine ⟨fun _ => Grow.refl _, fun Φ τ F w dst ty pos after gd hF hR _ => ?_⟩
        have hra := opd_sound hF a
        have hrb := opd_sound hF b
        rw [ha] at hra
        rw [hb] at hrb
        have hva : ∃ q, fe F a = .pointer q := by
          rcases hp with rfl | ⟨i, o, rfl⟩
          · simp only [Rv] at hra; exact ⟨_, hra⟩
          · obtain ⟨en, _, hv⟩ := hra.pI; exact ⟨_, hv⟩
        obtain ⟨q, hva⟩ := hva
        have hrun := run_ustr0 (P := P) (w := w) (pt := pt) (it := it) (ty := ty) (k := k) q
        refine St.of_run (v := .string .empty) (w' := w) ?_ ⟨Φ, τ, by simp only [Rv]; exact ⟨by simp, rfl⟩, hR, Tw.refl _ _ _ _ _⟩
        have hvb : fe F b = .int k 0 := hrb.iI
        simp [execOp, resolve, invoke, builtin, hva, hvb, hrun]
      split at e1
      · exact fin ha (.inl rfl) e1
      · exact fin ha (.inr ⟨_, _, rfl⟩) e1
      · cases e1
    · rename_i hm
      split at e1
      · rename_i id off
        obtain ⟨h6, e2⟩ := recB e1
        clear e1
        have h6 := Nat.le_of_ble_eq_true h6
        obtain ⟨b1, hid, hb1, hrow, e3⟩ := getB_s e2
        clear e2
        obtain ⟨hc, e4⟩ := recB e3
        clear e3
        obtain ⟨hro, hc⟩ := and_t hc
        have hro := not_t hro
        rcases tkK_eq (dr b1.cs off) m (fun vs => unchars vs fun l => Res.ok (.s l) (putB h id none)) with ⟨e5, hl⟩ | ⟨q, e5⟩
        · rw [e5, dr_eq] at e4
          rw [dr_eq] at hl
          obtain ⟨ns, e6, hns, hlist⟩ := unchars_s _ e4
          clear e4
          obtain ⟨rfl, rfl⟩ := ok_inj e6
          refine ⟨fun hl => Grow.put hl hid hb1, fun Φ τ F w dst ty pos after gd hF hR _ => ?_⟩
          have hra := opd_sound hF a
          have hrb := opd_sound hF b
          rw [ha] at hra
          rw [hb] at hrb
          obtain ⟨en, hen, hv⟩ := hra.pI
          obtain ⟨e', C, T, br⟩ := (hR.blk id b1 hid hb1).row hrow
          have := br.ent
          rw [hen] at this; cases this
          obtain ⟨vs, v1, v2, v3⟩ := br.cells off m hl
          rw [hlist] at v2
          have hvs := chars_rv v2
          have hnl : ns.length = m := by
            have := congrArg List.length hvs
            rw [v1] at this
            simpa using this.symm
          cases hp : ptrOf P pt with
          | none => rw [hp] at hc; cases hc
          | some el =>
            rw [hp] at hc
            obtain ⟨hc1, hc2⟩ := and_t hc
            have hc1 := Nat.eq_of_beq_eq_true hc1
            have hc2 := Nat.eq_of_beq_eq_true hc2
            have hsh := br.shape
            have hT := br.ty
            rw [hT, hc1] at hsh
            have hbs := br.size
            have hble := br.le
            rw [List.length_drop] at hl
            have hm0 : m ≠ 0 := fun h => by subst h; exact hm rfl
            have hrun := run_ustr (P := P) (w := w) (pt := pt) (it := it) (ty := ty) (k := k) (ptrOf_u hp) hc2 (g := en.g) (o := en.base + off) hsh (ns.map UInt8.ofNat) (by rw [List.length_map, hnl]; exact hm0) (by rw [List.length_map, hnl]; omega) (by rw [List.length_map, hnl]; exact h6) (fun j x hx => by
              rw [Addr.add_lit]
              refine v3 j _ ?_
              rw [hvs]
              rw [List.getElem?_map] at hx
              cases hj : ns[j]? with
              | none => rw [hj] at hx; cases hx
              | some c =>
                rw [hj] at hx
                cases hx
                have hcc := hns c (List.mem_of_getElem? hj)
                simp [hj, Nat.mod_eq_of_lt hcc])
            rw [List.length_map, hnl] at hrun
            obtain ⟨f1, f2, f3, f4, f5⟩ := freeze_w w en.g (en.base + off) m
            obtain ⟨r1, r2⟩ := hR.lose (w' := w.freeze ⟨en.g, en.base + off, none⟩ m) hid hb1 (br.own hro) f1 f2 f3 f4 f5
            refine St.of_run (v := .string ⟨(ns.map UInt8.ofNat).toArray⟩) (w' := w.freeze ⟨en.g, en.base + off, none⟩ m) ?_ ⟨Φ, τ, Rv.ms hns, r1, r2⟩
            have hvb : fe F b = .int k (m : Int) := hrb.iI
            simp [execOp, resolve, invoke, builtin, hv, hvb, hrun]
        · rw [e5] at e4; cases e4
      · cases e1
  · cases e
/-! the model's own entries -/
def ExK (P : Program) (k m : Nat) : Prop := ∃ fn e, P.funcs[k]? = some fn ∧ (fn.name == "runtime.NumGoroutine") = false ∧ fn.body.isNone = true ∧ Extern.findNext fn = none ∧ Extern.find fn = some e ∧
  ((m = 1 ∧ e = Extern.AbiNoEscape.same) ∨ (m = 2 ∧ e = Extern.BytealgMakeNoZero.makeNoZero fn.params fn.resultTypes ∧ ∃ t, fn.resultTypes = #[t]))
theorem evExt_s {k m : Nat} {l : List AV} (hx : ExK P k m) (e : evExt P k m l h = .ok v h') : (h.n ≤ big5 → Grow h h') ∧
    ∀ (Φ : Phi) (τ : Tau) (w : World) (vs : List Value), Rel Φ τ h w → Fre Φ h.n h'.n → RvL Φ l vs → ∃ x w', (callFunc k vs.toArray).run P w = .ok (.value x) w' ∧ ∃ Φ' τ', Rv Φ' v x ∧ Rel Φ' τ' h' w' ∧ Tw Φ τ h w Φ' τ' h'.n w' := by
  obtain ⟨fn, en, h1, h2, h3, h4, h5, h6⟩ := hx
  unfold evExt at e
  split at e
  · rename_i x
    obtain ⟨rfl, rfl⟩ := ok_inj e
    rcases h6 with ⟨_, rfl⟩ | ⟨h6, _⟩
    · refine ⟨fun _ => Grow.refl _, fun Φ τ w vs hR _ hv => ?_⟩
      simp only [RvL] at hv
      obtain ⟨u, r, rfl, hu, rfl⟩ := hv
      refine ⟨u, w, ?_, Φ, τ, hu, hR, Tw.refl _ _ _ _ _⟩
      rw [run_callFunc_extern h1 h2 h3 h4 h5]
      rfl
    · cases h6
  · rename_i z
    cases z with
    | negSucc n => cases e
    | ofNat n =>
      simp only at e
      rcases h6 with ⟨h6, _⟩ | ⟨_, rfl, t, ht⟩
      · cases h6
      · split at e
        · rename_i el hel
          rw [h1] at hel
          simp only [Option.bind_some, ht] at hel
          have hel : slOf P t = some el := hel
          have hu := slOf_u hel
          obtain ⟨hc, e1⟩ := recB e
          clear e
          obtain ⟨hn, hb⟩ := and_t hc
          have hn := Nat.le_of_ble_eq_true hn
          rw [appK_eq, List.append_nil] at e1
          obtain ⟨h5b, e2⟩ := newB_s e1
          clear e1
          obtain ⟨rfl, rfl⟩ := ok_inj e2
          refine ⟨fun _ => Grow.new h5b, fun Φ τ w vs hR hFr hv => ?_⟩
          simp only [RvL] at hv
          obtain ⟨u, r, rfl, hu1, rfl⟩ := hv
          have hu1 := hu1.iI
          subst hu1
          obtain ⟨cs, r1, r2, r3⟩ := Lib.run_makeNoZero (P := P) w fn.params t el hu n (by omega)
          have hf := hFr h.n (Nat.le_refl _) (Nat.lt_succ_self _)
          obtain ⟨τ', q1, q2⟩ := hR.new (k := cs.size) (w' := w.drew.drew.alloc (.cells cs el (0, 0))) h5b hf (NB.row (b := ⟨el, false, false, repl n [AV.u], .row⟩) (g := w.heap.size) (fr := (0, 0)) rfl (fun _ => rfl) rfl (by
              show (repl n [AV.u]).length ≤ _
              rw [repl_len]; simpa using r2) (fun hx => by cases hx) (by
              intro i a hi
              have hi : (repl n [AV.u])[i]? = some a := hi
              have hlt := (List.getElem?_eq_some_iff.1 hi).1
              have ha : a = .u := by
                have := List.mem_of_getElem? hi
                unfold repl at this
                simp at this
                exact this.2
              subst ha
              rw [repl_len] at hlt
              simp at hlt
              exact ⟨cs[0 + i]'(by omega), by simp [show 0 + i < cs.size by omega], by simp only [Rv]⟩)) ⟨rfl, rfl, rfl, by simp, fun k hk => Below.heap_alloc w.drew.drew _ k hk, heap_alloc_new w.drew.drew _⟩
          refine ⟨.slice (some ⟨w.heap.size, 0, none⟩) n cs.size, w.drew.drew.alloc (.cells cs el), ?_, _, τ', ?_, q1, q2⟩
          · rw [run_callFunc_extern h1 h2 h3 h4 h5, ht]
            have hq : ([Value.int IntKind.i64 (Int.ofNat n)] : List Value).toArray = #[.int .i64 (n : Int)] := rfl
            rw [hq, r1]
            rfl
          · exact Rv.msl (e := ⟨w.heap.size, 0, cs.size⟩) (c := cs.size) (ext_at _ _ _) r2 (r3 (by unfold maxLen; omega)) (by show 0 + cs.size * 1 ≤ cs.size; omega) trivial
        · cases e
  · cases e
theorem evExt_p {k m : Nat} {l : List AV} : evExt P k m l h ≠ .pn v h' := by
  intro e
  unfold evExt at e
  split at e
  · cases e
  · rename_i z
    cases z with
    | negSucc n => cases e
    | ofNat n =>
      simp only at e
      split at e
      · rename_i el _
        cases hb : (Nat.ble n 1000000 && byteT P el) with
        | false => rw [hb] at e; cases e
        | true =>
          rw [hb] at e
          simp only at e
          rw [appK_eq] at e
          unfold newB at e
          cases hq : Nat.blt h.n big5 with
          | false => rw [hq] at e; cases e
          | true => rw [hq] at e; simp only [fz_eq] at e; cases e
      · cases e
  · cases e
end
end Go.Ev
