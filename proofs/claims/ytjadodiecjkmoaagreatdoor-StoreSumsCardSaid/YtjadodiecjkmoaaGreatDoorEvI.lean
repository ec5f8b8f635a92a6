/-
  Storing and appending.
-/
import Derived.Test.YtjadodiecjkmoaaGreatDoorEvH
namespace Go.Ev
set_option linter.unusedVariables false
set_option linter.unusedSimpArgs false
open Go Go.Wf Go.RowKit

section
variable {P : Program} {f : Fr} {v : AV} {h h' : Hp} {Φ : Phi} {τ : Tau} {w w' : World}
theorem allScal_s {vs : List AV} {us : List Value} (ha : allScal vs = true) (hr : RvL Φ vs us) : us.all Value.oneCell' = true := by
  induction vs generalizing us with
  | nil => simp only [RvL] at hr; subst hr; rfl
  | cons a vs ih =>
    simp only [RvL] at hr
    obtain ⟨u, r, rfl, h1, h2⟩ := hr
    have ha : (bif scal a then allScal vs else false) = true := ha
    cases hs : scal a with
    | false => rw [hs] at ha; cases ha
    | true =>
      rw [hs] at ha
      rw [List.all_cons, h1.scal hs, ih ha h2]; rfl
theorem CR.put {C : Array Value} {base off : Nat} {cs vs : List AV} {us : List Value} (hc : CR Φ C base cs) (hr : RvL Φ vs us) (hl : off + vs.length ≤ cs.length) (hs : base + cs.length ≤ C.size) :
    CR Φ (C.toList.take (base + off) ++ us ++ C.toList.drop (base + off + us.length)).toArray base (cs.take off ++ vs ++ cs.drop (off + vs.length)) := by
  intro i a hi
  have hul := hr.len
  have hgetC : ∀ j x, C[j]? = some x → C.toList[j]? = some x := fun j x hx => by rw [Array.getElem?_toList]; exact hx
  have e1 : (C.toList.take (base + off)).length = base + off := by rw [List.length_take, Array.length_toList]; omega
  have e2 : (cs.take off).length = off := by rw [List.length_take]; omega
  rw [List.append_assoc, List.getElem?_append] at hi
  rw [e2] at hi
  simp only [List.getElem?_toArray, List.append_assoc]
  rw [List.getElem?_append, e1]
  by_cases h1 : i < off
  · rw [if_pos h1, List.getElem?_take, if_pos h1] at hi
    obtain ⟨x, hx, hxr⟩ := hc i a hi
    rw [if_pos (by omega), List.getElem?_take, if_pos (by omega)]
    exact ⟨x, hgetC _ _ hx, hxr⟩
  · rw [if_neg h1, List.getElem?_append] at hi
    rw [if_neg (by omega), List.getElem?_append, hul]
    have e3 : base + i - (base + off) = i - off := by omega
    rw [e3]
    by_cases h2 : i - off < vs.length
    · rw [if_pos h2] at hi ⊢
      exact hr.at hi
    · rw [if_neg h2] at hi ⊢
      rw [List.getElem?_drop] at hi ⊢
      obtain ⟨x, hx, hxr⟩ := hc _ a hi
      refine ⟨x, ?_, hxr⟩
      rw [← hgetC _ _ hx]
      congr 1
      omega
theorem wrB_s {id off : Nat} {vs : List AV} {k : Hp → Res} (e : wrB h id off vs k = .ok v h') : ∃ b, id < h.n ∧ get5 id h.t = some b ∧ b.ob = .row ∧ b.ro = false ∧ allScal vs = true ∧ off + vs.length ≤ b.cs.length ∧
    k (putB h id (some ⟨b.ty, b.ex, false, b.cs.take off ++ vs ++ b.cs.drop (off + vs.length), .row⟩)) = .ok v h' := by
  unfold wrB at e
  obtain ⟨b, hid, hb, hrow, e⟩ := getB_s e
  obtain ⟨h1, e⟩ := recB e
  obtain ⟨h2, e⟩ := recB e
  rcases putK_eq b.cs off vs (fun cs => k (putB h id (some ⟨b.ty, b.ex, false, cs, .row⟩))) with ⟨e2, hl⟩ | ⟨n, e2⟩
  · rw [e2] at e
    exact ⟨b, hid, hb, hrow, not_t h1, h2, hl, e⟩
  · rw [e2] at e; cases e
/-- cells written into a row -/
theorem Rel.wr {id off : Nat} {b : Blk} {en : Ent} {C : Array Value} {T : TypeId} {vs : List AV} {us : List Value} (r : Rel Φ τ h w) (hid : id < h.n) (hb : get5 id h.t = some b) (br : BR Φ τ w b en id C T) (hro : b.ro = false)
    (hr : RvL Φ vs us) (hl : off + vs.length ≤ b.cs.length) :
    Rel Φ τ (putB h id (some ⟨b.ty, b.ex, false, b.cs.take off ++ vs ++ b.cs.drop (off + vs.length), .row⟩)) (w.setRow en.g (C.toList.take (en.base + off) ++ us ++ C.toList.drop (en.base + off + us.length)).toArray) ∧
    Tw Φ τ h w Φ τ h.n (w.setRow en.g (C.toList.take (en.base + off) ++ us ++ C.toList.drop (en.base + off + us.length)).toArray) := by
  have hle := br.le
  have hsz := br.size
  have hul := hr.len
  refine r.put hid hb br hro rfl rfl rfl rfl ?_ ?_ (br.cr.put hr hl (by omega)) rfl
  · simp only [List.length_append, List.length_take, List.length_drop]; omega
  · simp only [List.size_toArray, List.length_append, List.length_take, List.length_drop, Array.length_toList]; omega
theorem evStore_s {t : TypeId} {a x : Operand} (e : evStore P t a x f h = .ok v h') (hlim : h.n ≤ big5 → True := fun _ => trivial) : (h.n ≤ big5 → Grow h h') ∧
    ∀ (Φ : Phi) (τ : Tau) (F : Wf.Fr) (w : World) (dst : Option Tmp) (ty : TypeId) (pos : String) (after : Array Edge) (gd : Option (Nat × Bool)), FR Φ f F → Rel Φ τ h w →
    St P (fe F) ⟨dst, .store t a x, ty, pos, after, gd⟩ w (fun x w' => Rv Φ v x ∧ Rel Φ τ h' w' ∧ Tw Φ τ h w Φ τ h'.n w') KF := by
  unfold evStore at e
  split at e
  · rename_i id off ha
    split at e
    · rename_i vs hvs
      split at e
      · rename_i sz hsz
        obtain ⟨hl, e⟩ := recB e
        have hl := Nat.eq_of_beq_eq_true hl
        rw [len_eq] at hl
        obtain ⟨b, hid, hb, hrow, hro, hsc, hle, e⟩ := wrB_s e
        obtain ⟨rfl, rfl⟩ := ok_inj e
        refine ⟨fun hn => Grow.put hn hid hb, fun Φ τ F w dst ty pos after gd hF hR => ?_⟩
        have hr := opd_sound hF a
        rw [ha] at hr
        obtain ⟨en, hen, hv⟩ := hr.pI
        obtain ⟨e', C, T, br⟩ := (hR.blk id b hid hb).row hrow
        have := br.ent
        rw [hen] at this; cases this
        obtain ⟨us, hu1, hu2⟩ := cellsOf_s hvs (opd_sound hF x)
        obtain ⟨z, by_, hinf⟩ := szOf_u hsz
        obtain ⟨inf, hi', _, hs, _⟩ := infoOf_parts hinf
        have hble := br.le
        have hbs := br.size
        have hul := hu2.len
        obtain ⟨g1, g2⟩ := hR.wr hid hb br hro hu2 hle
        refine St.store (C := C.toList) (T := T) hi' hs hv hu1 (by rw [hul, hl]) ?_ (by rw [Array.length_toList]; omega) (allScal_s hsc hu2) ?_
        · unfold Wf.Blk; rw [br.obj0 hro]
        · intro C' hC'
          subst hC'
          exact ⟨by simp only [Rv], g1, g2⟩
      · cases e
    · cases e
  · cases e
/-! ### append -/
/-- what is appended: n elements, the cells ys -/
structure SrcW (P : Program) (t' : TypeId) (w : World) (size n : Nat) (y : Value) (ys : List Value) : Prop where
  ty : P.underlying t' = some .string ∨ ∃ e, P.underlying t' = some (.slice e)
  len : ∀ w', (Builtin.lenOf y).run P w' = .ok n w'
  cells : ∀ w', w'.heap = w.heap → (Builtin.firstCells size n y).run P w' = .ok ys.toArray w'
theorem run_ap_none {t t' ty e : TypeId} {i : TypeInfo} (ht : P.underlying t = some (.slice e)) (hi : P.info? e = some i) {s y : Value} {n c : Nat} {a : Option Addr} (hs : s = .slice a n c) (hn : n ≤ c) (S : SrcW P t' w i.size 0 y []) :
    (Builtin.append_ #[t, t'] ty #[s, y]).run P w = .ok s w := by
  subst hs
  have h1 := S.len w
  have h2 := S.cells w rfl
  rcases S.ty with hu | ⟨e', hu⟩ <;> cases a <;> simp [Builtin.append_, run_underlying ht, run_underlying hu, sizeOf, typeInfo, hi, h1, h2, hn, storeCells]
theorem run_ap_room {t t' ty e : TypeId} {i : TypeInfo} (ht : P.underlying t = some (.slice e)) (hi : P.info? e = some i) {g o sLen sCap : Nat} {T : TypeId} {cur : Array Value} (hg : w.heap[g]? = some (.cells cur T (0, 0)))
    {y : Value} {m : Nat} {news : List Value} (S : SrcW P t' w i.size m y news) (h1 : ∀ u ∈ news, u.oneCell' = true) (hroom : sLen + m ≤ sCap) (hfit : o + sLen * i.size + news.length ≤ cur.size) :
    (Builtin.append_ #[t, t'] ty #[.slice (some ⟨g, o, none⟩) sLen sCap, y]).run P w =
      .ok (.slice (some ⟨g, o, none⟩) (sLen + m) sCap) (w.setRow g (cur.toList.take (o + sLen * i.size) ++ news ++ cur.toList.drop (o + sLen * i.size + news.length)).toArray) := by
  have hl := S.len w
  have hf := S.cells w rfl
  have hst := run_storeCells_at P g (o + sLen * i.size) T news 0 cur w hg (by simpa using hfit) h1
  simp only [Nat.add_zero] at hst
  rcases S.ty with hu | ⟨e', hu⟩ <;> simp [Builtin.append_, run_underlying ht, run_underlying hu, sizeOf, typeInfo, hi, hl, hroom, hf, Addr.add_lit, hst]
theorem run_ap_nil {t t' ty e : TypeId} {i : TypeInfo} {z : Value} (ht : P.underlying t = some (.slice e)) (hi : P.info? e = some i) (hz : i.zero = some z) {y : Value} {n : Nat} {news : List Value} (S : SrcW P t' w i.size n y news)
    (h0 : 0 < n) (h63 : (n : Int) ≤ 9223372036854775807) (h48 : n * i.bytes ≤ 281474976710656) :
    (Builtin.append_ #[t, t'] ty #[.slice none 0 0, y]).run P w =
      .ok (.slice (some ⟨w.heap.size, 0, none⟩) n (grownCap w n 0 e)) (w.drew.alloc (.cells (news.toArray ++ Builtin.zeroCells z.cells (grownCap w n 0 e - n)) e)) := by
  have hn : n ≠ 0 := by omega
  have h63' : ¬ (9223372036854775807 < (n : Int)) := by omega
  have h48' : ¬ (281474976710656 < Builtin.nextslicecap n 0 * i.bytes) := by rw [nextslicecap_zero h0]; omega
  have hl := S.len w
  have hf := S.cells w.drew rfl
  rcases S.ty with hu | ⟨e', hu⟩ <;> simp [Builtin.append_, run_underlying ht, run_underlying hu, sizeOf, typeInfo, zeroValue, hi, hz, hl, hn, h63', h48', Question.forced, run_firstCells_none, hf, newRow, grownCap]
theorem run_ap_grow {t t' ty e : TypeId} {i : TypeInfo} {z : Value} (ht : P.underlying t = some (.slice e)) (hi : P.info? e = some i) (hz : i.zero = some z)
    {b : Addr} {sLen sCap : Nat} {olds : List Value} (hlo : olds.length = sLen * i.size) (holds : ∀ j v, olds[j]? = some v → w.cell? (b.add j) = some v) {y : Value} {n : Nat} {news : List Value} (S : SrcW P t' w i.size n y news)
    (hg : sCap < sLen + n) (h63 : ((sLen + n : Nat) : Int) ≤ 9223372036854775807) (hfit : Builtin.nextslicecap (sLen + n) sCap * i.bytes ≤ 281474976710656) :
    (Builtin.append_ #[t, t'] ty #[.slice (some b) sLen sCap, y]).run P w =
      .ok (.slice (some ⟨w.heap.size, 0, none⟩) (sLen + n) (grownCap w (sLen + n) sCap e))
        (w.drew.alloc (.cells (olds.toArray ++ news.toArray ++ Builtin.zeroCells z.cells (grownCap w (sLen + n) sCap e - (sLen + n))) e)) := by
  have hn : ¬ (sLen + n ≤ sCap) := by omega
  have h63' : ¬ (9223372036854775807 < ((sLen : Int) + (n : Int))) := by omega
  have h48' : ¬ (281474976710656 < Builtin.nextslicecap (sLen + n) sCap * i.bytes) := by omega
  have hl := S.len w
  have hf := S.cells w.drew rfl
  have hfo := run_firstCells_some (P := P) w.drew i.size sLen b sLen sCap olds hlo (by simpa using holds)
  rcases S.ty with hu | ⟨e', hu⟩
  all_goals
    simp [Builtin.append_, run_underlying ht, run_underlying hu, sizeOf, typeInfo, zeroValue, hi, hz, hl, hn, h63', h48', Question.forced, hf, hfo, newRow, grownCap]
    congr 2
    apply Array.ext'
    simp [List.append_assoc]
theorem St.appendRun {ρ : Operand → Value} {a b : Operand} {t t' : TypeId} {dst : Option Tmp} {ty : TypeId} {pos : String} {after : Array Edge} {gd : Option (Nat × Bool)} {K : Value → World → Prop} {Kp : List PanicEntry → World → Prop} {x : Value}
    (hr : (Builtin.append_ #[t, t'] ty #[ρ a, ρ b]).run P w = .ok x w') (hk : K x w') : St P ρ ⟨dst, .call { callee := .builtin .append, args := #[a, b], argTypes := #[t, t'] }, ty, pos, after, gd⟩ w K Kp := by
  refine St.of_run (v := x) (w' := w') ?_ hk
  simp [execOp, resolve, invoke, builtin, hr]
theorem apLen_s {e m n : Nat} {k : Nat → Res} (he : apLen P e m n k = .ok v h') : m + n ≤ 1000000 ∧ (∀ z sz by_, infoOf P e = some (z, sz, by_) → by_ ≤ 65536) ∧ k (m + n) = .ok v h' := by
  unfold apLen at he
  rw [fz_eq] at he
  obtain ⟨hc, he⟩ := recB he
  obtain ⟨h1, h2⟩ := and_t hc
  refine ⟨Nat.le_of_ble_eq_true h1, fun z sz by_ hi => ?_, he⟩
  have h2 := Nat.le_of_ble_eq_true h2
  unfold byOf at h2
  rw [hi] at h2
  exact h2
/-- the result of an append that made a new row -/
theorem apNew_s {el sz : Nat} {h0 : Hp} {m n : Nat} {us vs : List AV} {xs ys : List Value} {z : Value} {by_ G : Nat} {T : TypeId} {w1 : World} (he : apNew P el sz h0 m n us vs = .ok v h') (hR : Rel Φ τ h0 w) (hf : Φ h0.n = none)
    (hu : RvL Φ us xs) (hv : RvL Φ vs ys) (hxl : xs.length = m * sz) (hyl : ys.length = n * sz) (hz : z.cells.size = sz) (hG : m + n ≤ G) (hGm : G ≤ maxLen)
    (hT : T = el) (hw : Wn w (.cells (xs.toArray ++ ys.toArray ++ Builtin.zeroCells z.cells (G - (m + n))) T (0, 0)) w1) :
    Grow h0 h' ∧ ∃ Φ' τ', Rv Φ' v (.slice (some ⟨w.heap.size, 0, none⟩) (m + n) G) ∧ Rel Φ' τ' h' w1 ∧ Tw Φ τ h0 w Φ' τ' h'.n w1 := by
  unfold apNew at he
  obtain ⟨h1, h2, he⟩ := apLen_s he
  rw [appK_eq] at he
  obtain ⟨hb, he⟩ := newB_s he
  obtain ⟨rfl, rfl⟩ := ok_inj he
  have hCs : (xs.toArray ++ ys.toArray ++ Builtin.zeroCells z.cells (G - (m + n))).size = G * sz := by
    simp only [Array.size_append, List.size_toArray, size_zeroCells, hz, hxl, hyl, ← Nat.add_mul]
    congr 1; omega
  have hap := hu.app hv
  have nb : NB Φ h0.n ⟨el, false, false, us ++ vs, .row⟩ ⟨w.heap.size, 0, (xs.toArray ++ ys.toArray ++ Builtin.zeroCells z.cells (G - (m + n))).size⟩ (.cells (xs.toArray ++ ys.toArray ++ Builtin.zeroCells z.cells (G - (m + n))) T (0, 0)) := by
    refine NB.row rfl (fun _ => rfl) hT ?_ (fun hx => by cases hx) ?_
    · show (us ++ vs).length ≤ _
      rw [hCs, ← hap.len, List.length_append, hxl, hyl, ← Nat.add_mul]
      exact Nat.mul_le_mul_right _ hG
    · intro i a hi
      obtain ⟨x, hx, hr⟩ := hap.at hi
      refine ⟨x, ?_, hr⟩
      have hlt := (List.getElem?_eq_some_iff.1 hx).1
      rw [Nat.zero_add, Array.getElem?_append_left (by simp at hlt ⊢; exact hlt)]
      simpa using hx
  obtain ⟨τ', r1, r2⟩ := hR.new hb hf nb hw
  refine ⟨Grow.new hb, _, τ', ?_, r1, r2⟩
  refine Rv.msl (e := ⟨w.heap.size, 0, _⟩) (c := G) (ext_at _ _ _) hG hGm ?_ trivial
  show 0 + G * sz ≤ (xs.toArray ++ ys.toArray ++ Builtin.zeroCells z.cells (G - (m + n))).size
  rw [hCs]; omega
theorem getP_none {id i : Nat} (r : Rel Φ τ h w) (hid : id < h.n) (hi : i < h.n) : get5 i (putB h id none).t = if i = id then none else get5 i h.t := get5_set5 _ _ _ _ (get5_lt r hi) (get5_lt r hid)
theorem getP_fin {id i : Nat} (r : Rel Φ τ h w) (hid : id < h.n) (hi : h.n ≤ i) (h5 : i < big5) : get5 i (putB h id none).t = none := by
  have : get5 i (putB h id none).t = if i = id then none else get5 i h.t := get5_set5 _ _ _ _ h5 (get5_lt r hid)
  rw [this, if_neg (by omega)]; exact r.fin i hi h5
theorem Rel.kill {id : Nat} (r : Rel Φ τ h w) (hid : id < h.n) : Rel Φ τ (putB h id none) w := by
  refine ⟨r.lim, fun i b hi hb => ?_, fun i hi h5 => getP_fin r hid hi h5⟩
  have hi : i < h.n := hi
  rw [getP_none r hid hi] at hb
  split at hb
  · cases hb
  · exact r.blk i b hi hb
theorem Tw.kill {id n : Nat} {Φ' : Phi} {τ' : Tau} (r : Rel Φ τ h w) (hid : id < h.n) (t : Tw Φ τ (putB h id none) w Φ' τ' n w') : Tw Φ τ h w Φ' τ' n w' :=
  ⟨t.os, t.tape, t.output, t.size, t.sub, t.same, fun g hg hk => t.keep g hg fun i e => ⟨fun hi => by
    rw [getP_none r hid hi]
    split
    · rfl
    · exact (hk i e).1 hi, (hk i e).2⟩⟩
/-- an append that stays in its row, which gets a new name -/
theorem Rel.stay {id off m n sz : Nat} {b : Blk} {en : Ent} {C : Array Value} {T : TypeId} {el : TypeId} {us vs : List AV} {ys : List Value} {c : Nat} (r : Rel Φ τ h w) (hid : id < h.n) (hb : get5 id h.t = some b) (br : BR Φ τ w b en id C T) (hro : b.ro = false) (hbt : b.ty = el) (hlim : h.n < big5) (hf : Φ h.n = none)
    (hus : us = (b.cs.drop off).take (m * sz)) (hul : m * sz ≤ (b.cs.drop off).length) (hv : RvL Φ vs ys) (hyl : ys.length = n * sz) (hc : m + n ≤ c) (hcm : c ≤ maxLen) (hck : off + c * sz ≤ en.k) :
    ∃ Φ' τ', Rv Φ' (.sl h.n 0 (m + n) sz none) (.slice (some ⟨en.g, en.base + off, none⟩) (m + n) c) ∧
      Rel Φ' τ' ⟨set5 h.n (some ⟨el, false, false, us ++ vs, .row⟩) (putB h id none).t, h.n + 1⟩ (w.setRow en.g (C.toList.take (en.base + off + m * sz) ++ ys ++ C.toList.drop (en.base + off + m * sz + ys.length)).toArray) ∧
      Tw Φ τ h w Φ' τ' (h.n + 1) (w.setRow en.g (C.toList.take (en.base + off + m * sz) ++ ys ++ C.toList.drop (en.base + off + m * sz + ys.length)).toArray) := by
  have hnew : ∀ D, (w.setRow en.g D).heap[en.g]? = some (.cells D T (0, 0)) := fun D => setRow_heap w en.g C D T (0, 0) (br.obj0 hro)
  have hlab := br.lab
  rw [hro] at hlab
  simp only [Bool.false_eq_true, if_false] at hlab
  have hsz := br.size
  have hle := br.le
  rw [List.length_drop] at hul
  have hmc : (m + n) * sz ≤ c * sz := Nat.mul_le_mul_right _ hc
  rw [Nat.add_mul] at hmc
  generalize hD : (C.toList.take (en.base + off + m * sz) ++ ys ++ C.toList.drop (en.base + off + m * sz + ys.length)).toArray = D
  have hDs : D.size = C.size := by
    subst hD
    simp only [List.size_toArray, List.length_append, List.length_take, List.length_drop, Array.length_toList]; omega
  have hvl := hv.len
  have husl : us.length = m * sz := by rw [hus, List.length_take, List.length_drop]; omega
  have hcr : CR Φ D (en.base + off) (us ++ vs) := by
    intro i a hi
    subst hD
    have e1 : (C.toList.take (en.base + off + m * sz)).length = en.base + off + m * sz := by rw [List.length_take, Array.length_toList]; omega
    simp only [List.getElem?_toArray, List.append_assoc]
    rw [List.getElem?_append, e1]
    rw [List.getElem?_append, husl] at hi
    by_cases h1 : i < m * sz
    · rw [if_pos h1, hus, List.getElem?_take, if_pos h1, List.getElem?_drop] at hi
      obtain ⟨x, hx, hxr⟩ := br.cr _ a hi
      rw [if_pos (by omega), List.getElem?_take, if_pos (by omega)]
      refine ⟨x, ?_, hxr⟩
      rw [← hx, Nat.add_assoc]; simp
    · rw [if_neg h1] at hi
      rw [if_neg (by omega), List.getElem?_append, if_pos (by have := (List.getElem?_eq_some_iff.1 hi).1; omega)]
      rw [show en.base + off + i - (en.base + off + m * sz) = i - m * sz by omega]
      exact hv.at hi
  refine ⟨ext Φ h.n ⟨en.g, en.base + off, en.k - off⟩, fun g => if g = en.g then .own h.n else τ g, ?_, ⟨hlim, ?_, ?_⟩, ⟨rfl, rfl, rfl, by simp [World.setRow], Sub.ext hf, ?_, ?_⟩⟩
  · have := Rv.msl (id := h.n) (off := 0) (z := sz) (cap := none) (e := ⟨en.g, en.base + off, en.k - off⟩) (c := c) (ext_at Φ h.n _) hc hcm (by show 0 + c * sz ≤ en.k - off; omega) trivial
    simpa using this
  · intro i b' hi hb'
    have hi : i < h.n + 1 := hi
    have hb' : get5 i (set5 h.n (some ⟨el, false, false, us ++ vs, .row⟩) (putB h id none).t) = some b' := hb'
    rw [get5_set5 _ _ _ _ (by omega) hlim] at hb'
    by_cases e : i = h.n
    · rw [if_pos e] at hb'
      cases hb'
      subst e
      refine .inl ⟨⟨en.g, en.base + off, en.k - off⟩, D, T, ext_at _ _ _, ?_, rfl, br.ty.trans hbt, ⟨(0, 0), hnew D, fun _ => rfl⟩, ?_, ?_, (fun hx => by cases hx), hcr.mono (Sub.ext hf)⟩
      · show (if en.g = en.g then Lab.own h.n else τ en.g) = _
        rw [if_pos rfl]; rfl
      · show D.size = en.base + off + (en.k - off)
        rw [hDs]; omega
      · show (us ++ vs).length ≤ en.k - off
        rw [List.length_append, husl, ← hvl, hyl]; omega
    · rw [if_neg e, getP_none r hid (by omega)] at hb'
      split at hb'
      · cases hb'
      · rename_i hne
        obtain ⟨en2, _, _, hl2, k⟩ := (r.blk i b' (by omega) hb').at_
        have hg2 : en2.g ≠ en.g := by
          intro hg
          have h2 := hl2
          rw [hg, hlab] at h2
          split at h2
          · cases h2
          · cases h2; exact hne rfl
        exact k (Sub.ext hf) (setRow_other w en.g _ D hg2) (if_neg hg2)
  · intro i hi h5
    have hi : h.n + 1 ≤ i := hi
    show get5 i (set5 h.n (some ⟨el, false, false, us ++ vs, .row⟩) (putB h id none).t) = none
    rw [get5_set5 _ _ _ _ h5 hlim, if_neg (by omega)]
    exact getP_fin r hid (by omega) h5
  · intro i hi
    unfold Ev.ext
    rw [if_neg (by omega)]
  · intro g hg hk
    have hne : g ≠ en.g := by
      rintro rfl
      have := (hk id hlab).1 hid
      rw [hb] at this; cases this
    refine ⟨setRow_other w en.g g D hne, ?_⟩
    show (if g = en.g then Lab.own h.n else τ g) = τ g
    rw [if_neg hne]
end
end Go.Ev
