/-
  Operations that make a block or turn one.
-/
import Derived.Test.YtjadodiecjkmoaaGreatDoorEvG
namespace Go.Ev
set_option linter.unusedVariables false
set_option linter.unusedSimpArgs false
open Go Go.Wf Go.RowKit

def ext (Φ : Phi) (id : Nat) (e : Ent) : Phi := fun i => if i = id then some e else Φ i
theorem ext_at (Φ : Phi) (id : Nat) (e : Ent) : ext Φ id e id = some e := if_pos rfl
theorem Sub.ext {Φ : Phi} {id : Nat} {e : Ent} (h : Φ id = none) : Sub Φ (ext Φ id e) := by
  intro i x hi
  unfold Ev.ext
  by_cases hx : i = id
  · subst hx; rw [h] at hi; cases hi
  · rw [if_neg hx]; exact hi
/-- a block as it is made: whatever world holds its object -/
def NB (Φ : Phi) (id : Nat) (b : Blk) (e : Ent) (O : Obj) : Prop := ∀ (Φ' : Phi) (τ' : Tau) (w' : World), Sub Φ Φ' → Φ' id = some e → w'.heap[e.g]? = some O → (τ' e.g = if b.ro then .ro else .own id) → BlkRel Φ' τ' w' id b
theorem NB.row {Φ : Phi} {id : Nat} {b : Blk} {C : Array Value} {T : TypeId} {g : Nat} {fr : Nat × Nat} (hrow : b.ob = .row) (hfr : b.ro = false → fr = (0, 0)) (ht : T = b.ty) (hle : b.cs.length ≤ C.size) (hex : b.ex = true → b.cs.length = C.size) (hcr : CR Φ C 0 b.cs) :
    NB Φ id b ⟨g, 0, C.size⟩ (.cells C T fr) := fun Φ' τ' w' s he ho hl => .inl ⟨_, C, T, he, hl, hrow, ht, ⟨fr, ho, hfr⟩, by simp, hle, fun hx => ⟨rfl, hex hx⟩, hcr.mono s⟩
theorem NB.obj {Φ : Phi} {id : Nat} {b : Blk} {g k : Nat} {O : Obj} (hro : b.ro = false) (hb : ObR Φ b.ob O) : NB Φ id b ⟨g, 0, k⟩ O := fun Φ' τ' w' s he ho hl =>
  .inr (.inl ⟨_, O, he, by rw [hl, hro]; rfl, hro, rfl, ho, hb.mono s⟩)
/-- the world with one object more -/
structure Wn (w : World) (O : Obj) (w' : World) : Prop where
  os : w'.os = w.os
  tape : w'.tape = w.tape
  output : w'.output = w.output
  size : w'.heap.size = w.heap.size + 1
  old : ∀ k, k < w.heap.size → w'.heap[k]? = w.heap[k]?
  new_ : w'.heap[w.heap.size]? = some O
theorem Wn.alloc (w : World) (O : Obj) : Wn w O (w.alloc O) := ⟨rfl, rfl, rfl, by simp, fun k hk => alloc_other hk, heap_alloc_new w _⟩
theorem Wn.drew (w : World) (O : Obj) : Wn w O (w.drew.alloc O) := ⟨rfl, rfl, rfl, by simp, fun k hk => Below.heap_alloc w.drew _ k hk, heap_alloc_new w.drew _⟩
section
variable {P : Program} {f : Fr} {v : AV} {h h' : Hp} {Φ : Phi} {τ : Tau} {w w' : World}
theorem Rel.new {b : Blk} {k : Nat} {O : Obj} (r : Rel Φ τ h w) (hb : h.n < big5) (hf : Φ h.n = none) (nb : NB Φ h.n b ⟨w.heap.size, 0, k⟩ O) (wn : Wn w O w') :
    ∃ τ', Rel (ext Φ h.n ⟨w.heap.size, 0, k⟩) τ' ⟨set5 h.n (some b) h.t, h.n + 1⟩ w' ∧ Tw Φ τ h w (ext Φ h.n ⟨w.heap.size, 0, k⟩) τ' (h.n + 1) w' := by
  refine ⟨fun g => if g = w.heap.size then (if b.ro then .ro else .own h.n) else τ g, ⟨hb, ?_, ?_⟩, ⟨wn.os, wn.tape, wn.output, by rw [wn.size]; omega, Sub.ext hf, ?_, ?_⟩⟩
  · intro id b' hid hb'
    have hid : id < h.n + 1 := hid
    have hb' : get5 id (set5 h.n (some b) h.t) = some b' := hb'
    rw [get5_set5 _ _ _ _ (by omega) hb] at hb'
    by_cases e : id = h.n
    · rw [if_pos e] at hb'
      cases hb'
      subst e
      exact nb _ _ _ (Sub.ext hf) (ext_at _ _ _) wn.new_ (if_pos rfl)
    · rw [if_neg e] at hb'
      obtain ⟨en, _, hlt, _, k⟩ := (r.blk id b' (by omega) hb').at_
      exact k (Sub.ext hf) (wn.old _ hlt) (if_neg (by omega))
  · intro id hid hid5
    have hid : h.n + 1 ≤ id := hid
    show get5 id (set5 h.n (some b) h.t) = none
    rw [get5_set5 _ _ _ _ hid5 hb, if_neg (by omega)]
    exact r.fin id (by omega) hid5
  · intro id hid
    unfold Ev.ext
    rw [if_neg (by omega)]
  · intro g hg _
    refine ⟨wn.old g hg, ?_⟩
    exact if_neg (by omega)
theorem get5_lt {id : Nat} (r : Rel Φ τ h w) (hid : id < h.n) : id < big5 := Nat.lt_of_lt_of_le hid r.lim
/-- a block turned, whatever it is -/
theorem Rel.turn {id : Nat} {b b' : Blk} {en : Ent} (r : Rel Φ τ h w) (hid : id < h.n) (hb : get5 id h.t = some b) (hlab : τ en.g = .own id) (hos : w'.os = w.os) (htp : w'.tape = w.tape) (hou : w'.output = w.output)
    (hsz : w'.heap.size = w.heap.size) (hoth : ∀ g, g ≠ en.g → w'.heap[g]? = w.heap[g]?) (hnew : BlkRel Φ τ w' id b') : Rel Φ τ (putB h id (some b')) w' ∧ Tw Φ τ h w Φ τ h.n w' := by
  refine ⟨⟨r.lim, ?_, ?_⟩, ⟨hos, htp, hou, by rw [hsz]; exact Nat.le_refl _, Sub.refl _, fun _ _ => rfl, ?_⟩⟩
  · intro id' b'' hid' hb''
    have hid' : id' < h.n := hid'
    have hb'' : get5 id' (set5 id (some b') h.t) = some b'' := hb''
    rw [get5_set5 _ _ _ _ (get5_lt r hid') (get5_lt r hid)] at hb''
    by_cases e : id' = id
    · rw [if_pos e] at hb''
      cases hb''
      subst e
      exact hnew
    · rw [if_neg e] at hb''
      obtain ⟨en2, _, _, hl2, k⟩ := (r.blk id' b'' hid' hb'').at_
      have hne : en2.g ≠ en.g := by
        intro hg
        rw [hg, hlab] at hl2
        split at hl2
        · cases hl2
        · cases hl2; exact e rfl
      exact k (Sub.refl _) (hoth _ hne) rfl
  · intro i hi hi5
    have hi : h.n ≤ i := hi
    show get5 i (set5 id (some b') h.t) = none
    rw [get5_set5 _ _ _ _ hi5 (get5_lt r hid), if_neg (by omega)]
    exact r.fin i hi hi5
  · intro g hg hk
    refine ⟨hoth g ?_, rfl⟩
    intro e
    subst e
    have := (hk id hlab).1 hid
    rw [hb] at this; cases this
theorem BR.own {b : Blk} {en : Ent} {id : Nat} {C : Array Value} {T : TypeId} (br : BR Φ τ w b en id C T) (hro : b.ro = false) : τ en.g = .own id := by
  have := br.lab
  rw [hro] at this
  exact this
/-- a row turned -/
theorem Rel.put {id : Nat} {b b' : Blk} {en : Ent} {C C' : Array Value} {T : TypeId} (r : Rel Φ τ h w) (hid : id < h.n) (hb : get5 id h.t = some b) (br : BR Φ τ w b en id C T) (hro : b.ro = false)
    (hb' : b'.ro = false) (hrow : b'.ob = .row) (hty : b'.ty = b.ty) (hex : b'.ex = b.ex) (hl : b'.cs.length = b.cs.length) (hsz : C'.size = C.size) (hcr : CR Φ C' en.base b'.cs) (hw : w' = w.setRow en.g C') :
    Rel Φ τ (putB h id (some b')) w' ∧ Tw Φ τ h w Φ τ h.n w' := by
  subst hw
  have hnew : (w.setRow en.g C').heap[en.g]? = some (.cells C' T (0, 0)) := setRow_heap w en.g C C' T (0, 0) (br.obj0 hro)
  refine r.turn (en := en) hid hb (br.own hro) rfl rfl rfl (by simp [World.setRow]) (fun g hg => setRow_other w en.g g C' hg) (.inl ⟨en, C', T, br.ent, ?_, hrow, by rw [hty]; exact br.ty, ⟨(0, 0), hnew, fun _ => rfl⟩, by rw [hsz]; exact br.size, by rw [hl]; exact br.le, fun hx => ?_, hcr⟩)
  · rw [hb']; exact br.own hro
  · rw [hl]; exact br.exact_ (hex ▸ hx)
/-- what an operation that makes a block does -/
def Qt (P : Program) (op : Op) (f : Fr) (v : AV) (h h' : Hp) : Prop := ∃ b, h.n < big5 ∧ h' = ⟨set5 h.n (some b) h.t, h.n + 1⟩ ∧
  ∀ (Φ : Phi) (F : Wf.Fr) (w : World) (dst : Option Tmp) (ty : TypeId) (pos : String) (after : Array Edge) (gd : Option (Nat × Bool)), FR Φ f F → Φ h.n = none →
    St P (fe F) ⟨dst, op, ty, pos, after, gd⟩ w (fun x w' => ∃ k O, Wn w O w' ∧ Rv (ext Φ h.n ⟨w.heap.size, 0, k⟩) v x ∧ NB Φ h.n b ⟨w.heap.size, 0, k⟩ O) KF
/-- what an operation that turns memory does -/
def Mv (P : Program) (op : Op) (f : Fr) (v : AV) (h h' : Hp) : Prop := Grow h h' ∧
  ∀ (Φ : Phi) (τ : Tau) (F : Wf.Fr) (w : World) (dst : Option Tmp) (ty : TypeId) (pos : String) (after : Array Edge) (gd : Option (Nat × Bool)), FR Φ f F → Rel Φ τ h w → Fre Φ h.n h'.n →
    St P (fe F) ⟨dst, op, ty, pos, after, gd⟩ w (fun x w' => ∃ Φ' τ', Rv Φ' v x ∧ Rel Φ' τ' h' w' ∧ Tw Φ τ h w Φ' τ' h'.n w') KF
theorem Grow.new {b : Blk} (hb : h.n < big5) : Grow h ⟨set5 h.n (some b) h.t, h.n + 1⟩ := ⟨Nat.le_succ _, fun id h5 hid hn => by
  have hid : ¬ (h.n ≤ id ∧ id < h.n + 1) := hid
  show get5 id (set5 h.n (some b) h.t) = none
  rw [get5_set5 _ _ _ _ h5 hb, if_neg (by omega)]; exact hn, fun _ => hb⟩
theorem Grow.put {id : Nat} {b : Blk} {o : Option Blk} (hl : h.n ≤ big5) (hid : id < h.n) (hb : get5 id h.t = some b) : Grow h (putB h id o) := ⟨Nat.le_refl _, fun i h5 hi hn => by
  show get5 i (set5 id o h.t) = none
  have : ¬ i = id := fun e => by rw [e, hb] at hn; cases hn
  rw [get5_set5 _ _ _ _ h5 (by omega), if_neg this]; exact hn, fun h => h⟩
theorem Qt.mv {op : Op} (q : Qt P op f v h h') : Mv P op f v h h' := by
  obtain ⟨b, hb, rfl, hst⟩ := q
  refine ⟨Grow.new hb, fun Φ τ F w dst ty pos after gd hF hR hFr => ?_⟩
  have hn := hFr h.n (Nat.le_refl _) (Nat.lt_succ_self _)
  refine (hst Φ F w dst ty pos after gd hF hn).mono ?_ fun _ _ h => h
  rintro x w' ⟨k, O, wn, hv, nb⟩
  obtain ⟨τ', h1, h2⟩ := hR.new hb hn nb wn
  exact ⟨_, τ', hv, h1, h2⟩
theorem newB_s {b : Blk} {k : Nat → Hp → Res} (e : newB h b k = .ok v h') : h.n < big5 ∧ k h.n ⟨set5 h.n (some b) h.t, h.n + 1⟩ = .ok v h' := by
  unfold newB at e
  obtain ⟨h1, e⟩ := recB e
  rw [fz_eq] at e
  exact ⟨of_blt h1, e⟩
theorem evAlloc_s {e : TypeId} (he : evAlloc P e f h = .ok v h') : Qt P (.alloc e) f v h h' := by
  unfold evAlloc at he
  split at he
  · rename_i l hl
    obtain ⟨hb, he⟩ := newB_s he
    obtain ⟨rfl, rfl⟩ := ok_inj he
    obtain ⟨z, sz, by_, hinf, rfl⟩ := zcOf_u hl
    obtain ⟨inf, hi', hz, _, _⟩ := infoOf_parts hinf
    refine ⟨_, hb, rfl, fun Φ F w dst ty pos after gd hF hn => ?_⟩
    refine St.alloc (vs := z.cells.toList) hi' hz (by simp) ⟨_, _, Wn.alloc _ _, Rv.mp (ext_at _ _ _), NB.row rfl (fun _ => rfl) rfl (by simp) (fun _ => by simp) ?_⟩
    intro i a hi
    obtain ⟨x, h1, h2⟩ := (cvs_sound (Φ := Φ) z.cells.toList).at hi
    exact ⟨x, by rw [Nat.zero_add]; simpa using h1, h2⟩
  · cases he
theorem CR.ofL {l : List AV} {vs : List Value} (hr : RvL Φ l vs) : CR Φ vs.toArray 0 l := by
  intro i a hi
  obtain ⟨x, h1, h2⟩ := hr.at hi
  exact ⟨x, by rw [Nat.zero_add]; simpa using h1, h2⟩
theorem evBox_s {e : TypeId} {x : Operand} (he : evBox e x f h = .ok v h') : Qt P (.box e x) f v h h' := by
  unfold evBox at he
  split at he
  · rename_i l hl
    obtain ⟨hb, he⟩ := newB_s he
    obtain ⟨rfl, rfl⟩ := ok_inj he
    refine ⟨_, hb, rfl, fun Φ F w dst ty pos after gd hF hn => ?_⟩
    obtain ⟨vs, h1, h2⟩ := cellsOf_s hl (opd_sound hF x)
    exact St.box h1 ⟨_, _, Wn.alloc _ _, Rv.mp (ext_at _ _ _), NB.row rfl (fun _ => rfl) rfl (by simp [h2.len]) (fun _ => by simp [h2.len]) (CR.ofL h2)⟩
  · cases he
def zrow (z : Array Value) (m : Nat) : Array Value := (Array.range m).map (z[· % z.size]!)
theorem repl_get {α : Type} (l : List α) : ∀ (n i : Nat), (repl n l)[i]? = if i < n * l.length then l[i % l.length]? else none := by
  intro n
  induction n with
  | zero => intro i; simp [repl]
  | succ n ih =>
    intro i
    have e : repl (n + 1) l = l ++ repl n l := by unfold repl; rw [List.replicate_succ, List.flatten_cons]
    rw [e, List.getElem?_append, ih, Nat.succ_mul]
    by_cases h : i < l.length
    · rw [if_pos h, if_pos (by omega), Nat.mod_eq_of_lt h]
    · rw [if_neg h]
      have h2 : (i - l.length) % l.length = i % l.length := by
        conv => rhs; rw [show i = (i - l.length) + l.length by omega]
        rw [Nat.add_mod_right]
      rw [h2]
      by_cases h3 : i - l.length < n * l.length
      · rw [if_pos h3, if_pos (by omega)]
      · rw [if_neg h3, if_neg (by omega)]
theorem repl_len {α : Type} (l : List α) (n : Nat) : (repl n l).length = n * l.length := by unfold repl; simp [List.length_flatten]
theorem zrow_rv (z : Array Value) (n sz : Nat) (hz : z.size = sz) (hp : 0 < sz) : RvL Φ (repl n (z.toList.map cv)) (zrow z (n * sz)).toList := by
  refine RvL.mk (by simp [zrow, repl_len, hz]) fun i a x hi hx => ?_
  rw [repl_get] at hi
  split at hi <;> rename_i hlt
  · have hlt : i < n * sz := by simpa [hz] using hlt
    have hm : i % sz < z.size := by rw [hz]; exact Nat.mod_lt _ hp
    have h1 : z.toList[i % sz]? = some z[i % sz] := by simp [hm]
    rw [List.getElem?_map, List.length_map, Array.length_toList, hz, h1] at hi
    have h2 : (zrow z (n * sz)).toList[i]? = some z[i % sz] := by
      simp only [zrow, Array.toList_map, Array.toList_range, List.getElem?_map]
      rw [List.getElem?_range hlt]
      simp only [Option.map_some, hz]
      rw [getElem!_pos z _ hm]
    rw [h2] at hx
    cases hx
    simp at hi; subst hi
    exact cv_sound _
  · cases hi
theorem foldl_size (off : Nat) : ∀ (L : List (Value × Nat)) (C : Array Value), (L.foldl (fun cs (c, j) => cs.setIfInBounds (off + j) c) C).size = C.size := by
  intro L
  induction L with
  | nil => intro C; rfl
  | cons q L ih => intro C; rw [List.foldl_cons, ih]; exact Array.size_setIfInBounds
theorem evBuildSlice_s {t : TypeId} {n : Nat} {ps : Array (Nat × Operand)} (he : evBuildSlice P t n ps f h = .ok v h') : Qt P (.buildSlice t n ps) f v h h' := by
  unfold evBuildSlice at he
  split at he
  · cases he
  · rename_i el hel
    split at he
    · rename_i sz z hsz hz
      obtain ⟨hc, he⟩ := recB he
      obtain ⟨hc, h3⟩ := and_t hc
      obtain ⟨h1, h2⟩ := and_t hc
      have h1 : 0 < sz := of_blt h1
      have h2 : n * sz ≤ 16777216 := Nat.le_of_ble_eq_true h2
      have h3 := Nat.eq_of_beq_eq_true h3
      obtain ⟨cs, he, hfill⟩ := fillA_s _ _ he
      obtain ⟨hb, he⟩ := newB_s he
      obtain ⟨rfl, rfl⟩ := ok_inj he
      refine ⟨_, hb, rfl, fun Φ F w dst ty pos after gd hF hn => ?_⟩
      obtain ⟨zv, sz', by', hinf', rfl⟩ := zcOf_u hz
      obtain ⟨zv2, by2, hinf⟩ := szOf_u hsz
      rw [hinf'] at hinf
      simp only [Option.some.injEq, Prod.mk.injEq] at hinf
      obtain ⟨rfl, rfl, rfl⟩ := hinf
      obtain ⟨inf, hi', hzz, hs, _⟩ := infoOf_parts hinf'
      rw [len_eq, List.length_map, Array.length_toList] at h3
      obtain ⟨C', g1, g2⟩ := hfill Φ F (zrow zv.cells (n * sz')).toList hF (zrow_rv zv.cells n sz' h3 h1)
      have hC'len := g2.len
      have hpe : (ps.map fun (i, x) => (i, fe F x)).toList = ps.toList.map fun p => (p.1, fe F p.2) := by simp
      have hlen : cs.length = n * sz' := by
        -- the fill keeps the length
        have key : ∀ (l : List (Nat × Value)) (C : Array Value) (D : Array Value), Instr.fill (fun i => some (Nat.mul i sz', sz')) C l = some D → D.size = C.size := by
          intro l
          induction l with
          | nil => intro C D hh; cases hh; rfl
          | cons p l ih =>
            intro C D hh
            obtain ⟨i, x⟩ := p
            rw [Instr.fill] at hh
            simp only at hh
            split at hh
            · cases hh
            · have := ih _ _ hh
              rw [this, ← Array.foldl_toList]
              exact foldl_size _ _ _
        have := key _ _ _ g1
        rw [← hC'len]
        have h5 : C'.toArray.size = (zrow zv.cells (n * sz')).toList.toArray.size := this
        simpa [zrow] using h5
      have hrun : (Instr.buildSlice t n (ps.map fun (i, x) => (i, fe F x))).run P w = .ok (.slice (some ⟨w.heap.size, 0, none⟩) n n) (w.alloc (.cells C'.toArray el (0, 0))) := by
        have hz0 : ¬ (n * inf.size > 2 ^ 24) := by rw [hs]; omega
        by_cases hn0 : n = 0
        · subst hn0
          have hC0 : C' = [] := List.eq_nil_of_length_eq_zero (by rw [hC'len, hlen]; simp)
          subst hC0
          have g1' : Instr.fill (fun i => some (i * inf.size, inf.size)) #[] (ps.map fun (i, x) => (i, fe F x)).toList = some #[] := by
            rw [hpe, hs]
            simpa [zrow] using g1
          have e0 : ∀ k : Nat → Value, Array.map k (Array.range 0) = #[] := fun k => by apply Array.ext'; simp
          generalize (ps.map fun (i, x) => (i, fe F x)) = L at g1' ⊢
          simp [Instr.buildSlice, run_underlying (slOf_u hel), sizeOf, typeInfo, hi', e0, g1', newRow]
        · have hne : ¬ (n * inf.size = 0) := by rw [hs]; exact Nat.ne_of_gt (Nat.mul_pos (Nat.pos_of_ne_zero hn0) h1)
          have g1' : Instr.fill (fun i => some (i * inf.size, inf.size)) ((Array.range (n * inf.size)).map (zv.cells[· % zv.cells.size]!)) (ps.map fun (i, x) => (i, fe F x)).toList = some C'.toArray := by
            rw [hpe, hs]
            have : (zrow zv.cells (n * sz')).toList.toArray = (Array.range (n * sz')).map (zv.cells[· % zv.cells.size]!) := by rw [Array.toArray_toList]; rfl
            rw [this] at g1
            exact g1
          generalize (ps.map fun (i, x) => (i, fe F x)) = L at g1' ⊢
          simp [Instr.buildSlice, run_underlying (slOf_u hel), sizeOf, typeInfo, hi', hz0, hne, zeroValue, hzz, g1', newRow]
      refine St.of_run (v := .slice (some ⟨w.heap.size, 0, none⟩) n n) (w' := w.alloc (.cells C'.toArray el (0, 0))) (by simp [execOp, hrun]) ⟨_, _, Wn.alloc _ _, ?_, NB.row rfl (fun _ => rfl) rfl (by simp [hC'len]) (fun _ => by simp [hC'len]) (CR.ofL g2)⟩
      refine Rv.msl (e := ⟨w.heap.size, 0, C'.toArray.size⟩) (c := n) (ext_at _ _ _) (Nat.le_refl _) ?_ ?_ rfl
      · have := Nat.le_mul_of_pos_right n h1; unfold maxLen; omega
      · show 0 + n * sz' ≤ C'.toArray.size
        simp [hC'len, hlen]
    · cases he
theorem evMakeSlice_s {t : TypeId} {l c : Operand} (he : evMakeSlice P t l c f h = .ok v h') : Qt P (.makeSlice t l c) f v h h' := by
  unfold evMakeSlice at he
  split at he
  · cases he
  · rename_i el hel
    split at he
    · rename_i sz z hsz hz
      obtain ⟨kl, n, hl, he⟩ := recN he
      obtain ⟨kc, m, hm, he⟩ := recN he
      rw [fz_eq, fz_eq] at he
      obtain ⟨hc, he⟩ := recB he
      obtain ⟨hc, h5⟩ := and_t hc
      obtain ⟨hc, h4⟩ := and_t hc
      obtain ⟨hc, h3⟩ := and_t hc
      obtain ⟨h1, h2⟩ := and_t hc
      have h1 : 0 < sz := of_blt h1
      have h2 := Nat.le_of_ble_eq_true h2
      have h3 := Nat.le_of_ble_eq_true h3
      have h4 := Nat.eq_of_beq_eq_true h4
      have h5 := Nat.le_of_ble_eq_true h5
      rw [appK_eq, List.append_nil] at he
      obtain ⟨hb, he⟩ := newB_s he
      obtain ⟨rfl, rfl⟩ := ok_inj he
      refine ⟨_, hb, rfl, fun Φ F w dst ty pos after gd hF hn => ?_⟩
      obtain ⟨zv, sz', by', hinf', rfl⟩ := zcOf_u hz
      obtain ⟨zv2, by2, hinf⟩ := szOf_u hsz
      rw [hinf'] at hinf
      simp only [Option.some.injEq, Prod.mk.injEq] at hinf
      obtain ⟨rfl, rfl, rfl⟩ := hinf
      have hby : byOf P el = some by' := by unfold byOf; rw [hinf']; rfl
      rw [hby] at h5
      simp only [Option.getD_some] at h5
      obtain ⟨inf, hi', hzz, hs, hbb⟩ := infoOf_parts hinf'
      rw [len_eq, List.length_map, Array.length_toList] at h4
      have hls := opd_sound hF l
      have hms := opd_sound hF c
      rw [hl] at hls
      rw [hm] at hms
      have hrun := run_make (P := P) w t el inf zv (slOf_u hel) hi' hzz kl kc (Int.ofNat n) (Int.ofNat m) (Int.natCast_nonneg n) (Int.ofNat_le.2 h2) (by
        have h6 : inf.bytes * m ≤ 65536 * 65536 := Nat.mul_le_mul (hbb ▸ h5) h3
        have : ((inf.bytes * m : Nat) : Int) ≤ ((65536 * 65536 : Nat) : Int) := Int.ofNat_le.2 h6
        rw [Int.natCast_mul] at this
        simp only [Int.ofNat_eq_natCast]
        omega) (by simp only [Int.ofNat_eq_natCast]; omega)
      have hmc : madeCells zv.cells ((Int.ofNat m).toNat * inf.size) = zrow zv.cells (m * sz') := by
        rw [hs]
        rfl
      rw [hmc] at hrun
      have g2 := zrow_rv (Φ := Φ) zv.cells m sz' h4 h1
      have hsize : (zrow zv.cells (m * sz')).size = m * sz' := by simp [zrow]
      have hl2 : (repl m (zv.cells.toList.map cv)).length = m * sz' := by rw [repl_len, List.length_map, Array.length_toList, h4]
      refine St.of_run (v := .slice (some ⟨w.heap.size, 0, none⟩) n m) (w' := w.alloc (.cells (zrow zv.cells (m * sz')) el (0, 0))) ?_ ⟨_, _, Wn.alloc _ _, ?_, NB.row rfl (fun _ => rfl) rfl ?_ (fun _ => ?_) ?_⟩
      · simp only [execOp]
        rw [hls.iI, hms.iI]
        simp only [Sem.run_bind, hrun]
        rfl
      · refine Rv.msl (e := ⟨w.heap.size, 0, (zrow zv.cells (m * sz')).size⟩) (c := m) (ext_at _ _ _) h2 (by unfold maxLen; omega) ?_ rfl
        show 0 + m * sz' ≤ (zrow zv.cells (m * sz')).size
        rw [hsize]; omega
      · show (repl m (zv.cells.toList.map cv)).length ≤ _
        rw [hl2, hsize]; exact Nat.le_refl _
      · show (repl m (zv.cells.toList.map cv)).length = _
        rw [hl2, hsize]
      · have := CR.ofL g2
        simpa using this
    · cases he
theorem chars_len (l : List Nat) : (chars l).length = l.length := by
  induction l with
  | nil => rfl
  | cons c l ih => exact congrArg Nat.succ ih
theorem chars_eq (l : List Nat) : chars l = l.map fun c => AV.i .u8 (Int.ofNat c) := by
  induction l with
  | nil => rfl
  | cons c l ih => exact congrArg (_ :: ·) ih
theorem evConvQ_s {s d : TypeId} {x : Operand} (he : evConvQ P s d x f h = .ok v h') : Qt P (.convert s d x) f v h h' := by
  unfold evConvQ at he
  split at he
  · rename_i l hx
    obtain ⟨h1, he⟩ := recB he
    split at he
    · cases he
    · rename_i el hel
      obtain ⟨h2, he⟩ := recB he
      obtain ⟨h2, h3⟩ := and_t h2
      have h3 := Nat.le_of_ble_eq_true h3
      rw [len_eq] at h3
      obtain ⟨hu8, hsz⟩ := byteT_u h2
      rw [appK_eq, List.append_nil] at he
      obtain ⟨hb, he⟩ := newB_s he
      rw [fz_eq] at he
      obtain ⟨rfl, rfl⟩ := ok_inj he
      refine ⟨_, hb, rfl, fun Φ F w dst ty pos after gd hF hn => ?_⟩
      have hr := opd_sound hF x
      rw [hx] at hr
      obtain ⟨hl, hv⟩ := hr.sI
      have hsize : (⟨(l.map UInt8.ofNat).toArray⟩ : ByteArray).size = l.length := by simp [ByteArray.size]
      have hrun := run_bytes_of_string (P := P) w s d el ⟨(l.map UInt8.ofNat).toArray⟩ (isStr_u h1) (slOf_u hel) hu8
      rw [hsize] at hrun
      have hge := grownCap_ge w l.length 0 el
      have hgm := grownCap_le_maxLen w l.length 0 el (by unfold maxLen; omega)
      have hbr : (bytesRow ⟨(l.map UInt8.ofNat).toArray⟩ (grownCap w l.length 0 el)).size = grownCap w l.length 0 el := by
        unfold bytesRow
        rw [Array.size_append, hsize]
        simp
        omega
      refine St.of_run (v := .slice (some ⟨w.heap.size, 0, none⟩) l.length (grownCap w l.length 0 el)) (by simp only [execOp]; rw [hv]; unfold str; simp only [Sem.run_bind, hrun]; rfl)
        ⟨_, _, Wn.drew _ _, ?_, NB.row rfl (fun h => by cases h) rfl ?_ (fun h => by cases h) ?_⟩
      · rw [len_eq]
        exact Rv.msl (e := ⟨w.heap.size, 0, _⟩) (c := grownCap w l.length 0 el) (ext_at _ _ _) hge hgm (by show 0 + grownCap w l.length 0 el * 1 ≤ (bytesRow ⟨(l.map UInt8.ofNat).toArray⟩ (grownCap w l.length 0 el)).size; rw [hbr]; omega) trivial
      · show (chars l).length ≤ _
        rw [chars_len, hbr]; exact hge
      · intro i a hi
        have hi : (chars l)[i]? = some a := hi
        rw [chars_eq, List.getElem?_map] at hi
        cases hli : l[i]? with
        | none => rw [hli] at hi; cases hi
        | some c =>
          rw [hli] at hi
          cases hi
          have hc := hl c (List.mem_of_getElem? hli)
          have hlt := (List.getElem?_eq_some_iff.1 hli).1
          refine ⟨.int .u8 (Int.ofNat c), ?_, Rv.mi⟩
          rw [Nat.zero_add]
          unfold bytesRow
          rw [Array.getElem?_append_left (by simp; exact hlt)]
          simp [hli, Nat.mod_eq_of_lt hc]
  · cases he
theorem mapOf_u {t : TypeId} {p : TypeId × TypeId} (h : mapOf P t = some p) : P.underlying t = some (.map p.1 p.2) := by unfold mapOf at h; split at h <;> first | (cases h; assumption) | cases h
theorem Rv.mmp {id : Nat} {e : Ent} (h : Φ id = some e) : Rv Φ (.mp id) (.map (some e.g)) := by simp only [Rv]; exact ⟨e, h, rfl⟩
theorem Rv.mpI {id : Nat} {v : Value} (h : Rv Φ (.mp id) v) : ∃ e, Φ id = some e ∧ v = .map (some e.g) := by simp only [Rv] at h; exact h
theorem evMakeMap_s {t : TypeId} {r : Option Operand} (he : evMakeMap P t r f h = .ok v h') : Qt P (.makeMap t r) f v h h' := by
  unfold evMakeMap at he
  have nb : ∀ (Φ : Phi) (g : Nat), NB Φ h.n (itB (.map [] 0)) ⟨g, 0, 0⟩ (.map #[] 0) := fun Φ g => NB.obj rfl ⟨[], rfl, rfl⟩
  split at he
  · obtain ⟨hb, he⟩ := newB_s he
    obtain ⟨rfl, rfl⟩ := ok_inj he
    refine ⟨_, hb, rfl, fun Φ F w dst ty pos after gd hF hn => ?_⟩
    exact St.of_run (v := .map (some w.heap.size)) (w' := w.alloc (.map #[] 0)) (by simp [execOp, Instr.makeMap]) ⟨0, _, Wn.alloc _ _, Rv.mmp (ext_at Φ h.n ⟨w.heap.size, 0, 0⟩), nb _ _⟩
  · rename_i x
    split at he
    · rename_i k z hx
      obtain ⟨hm, he⟩ := recB he
      obtain ⟨p, hp⟩ := Option.isSome_iff_exists.1 hm
      obtain ⟨hb, he⟩ := newB_s he
      obtain ⟨rfl, rfl⟩ := ok_inj he
      refine ⟨_, hb, rfl, fun Φ F w dst ty pos after gd hF hn => ?_⟩
      have hr := opd_sound hF x
      rw [hx] at hr
      have hv := hr.iI
      exact St.of_run (v := .map (some w.heap.size)) (w' := w.alloc (.map #[] 0)) (by simp [execOp, Instr.makeMap, hv, run_underlying (mapOf_u hp), asInt, asIntOf]) ⟨0, _, Wn.alloc _ _, Rv.mmp (ext_at Φ h.n ⟨w.heap.size, 0, 0⟩), nb _ _⟩
    · cases he
end
end Go.Ev
