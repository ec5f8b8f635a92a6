/- Part 4 of the texts for the claim. -/
import Derived.Test.YtjiojpmoleilgaaGreatDoorOrder3
namespace Go.Ev
set_option linter.unusedVariables false
set_option linter.unusedSimpArgs false
open Go Go.Wf Go.RowKit
def ext (Φ : Phi) (id : Nat) (e : Ent) : Phi := fun i => if i = id then some e else Φ i
theorem Q3 (Φ : Phi) (id : Nat) (e : Ent) : ext Φ id e id = some e := if_pos rfl
theorem Sub.ext {Φ : Phi} {id : Nat} {e : Ent} (h : Φ id = none) : Sub Φ (ext Φ id e) := by
 intro i x hi
 unfold Ev.ext
 by_cases hx : i = id
 ·subst hx; rw [h] at hi; cases hi
 ·rw [if_neg hx]; exact hi
def NB (Φ : Phi) (id : Nat) (b : Blk) (e : Ent) (O : Obj) : Prop := ∀ (Φ' : Phi) (τ' : Tau) (w' : World), Sub Φ Φ' → Φ' id = some e → w'.heap[e.g]? = some O → (τ' e.g = if b.ro then .ro else .own id) → Kg Φ' τ' w' id b
theorem NB.row {Φ : Phi} {id : Nat} {b : Blk} {C : Array Value} {T : TypeId} {g : Nat} {fr : Nat × Nat} (hrow : b.ob = .row) (hfr : b.ro = false → fr = (0, 0)) (ht : T = b.ty) (hle : b.cs.length ≤ C.size) (hex : b.ex = true → b.cs.length = C.size) (hcr : CR Φ C 0 b.cs) :
  NB Φ id b ⟨g, 0, C.size⟩ (.cells C T fr) := fun Φ' τ' w' s he ho hl => .inl ⟨_, C, T, he, hl, hrow, ht, ⟨fr, ho, hfr⟩, by simp, hle, fun hx => ⟨rfl, hex hx⟩, hcr.mono s⟩
theorem NB.obj {Φ : Phi} {id : Nat} {b : Blk} {g k : Nat} {O : Obj} (hro : b.ro = false) (hb : ObR Φ b.ob O) : NB Φ id b ⟨g, 0, k⟩ O := fun Φ' τ' w' s he ho hl =>
 .inr (.inl ⟨_, O, he, by rw [hl, hro]; rfl, hro, rfl, ho, hb.mono s⟩)
structure Wn (w : World) (O : Obj) (w' : World) : Prop where
 os : w'.os = w.os
 tape : w'.tape = w.tape
 output : w'.output = w.output
 size : w'.heap.size = w.heap.size + 1
 old : ∀ k, k < w.heap.size → w'.heap[k]? = w.heap[k]?
 new_ : w'.heap[w.heap.size]? = some O
theorem Wn.alloc (w : World) (O : Obj) : Wn w O (w.alloc O) := ⟨rfl, rfl, rfl, by simp, fun k hk => Kk hk, heap_alloc_new w _⟩
theorem Wn.drew (w : World) (O : Obj) : Wn w O (w.drew.alloc O) := ⟨rfl, rfl, rfl, by simp, fun k hk => Below.heap_alloc w.drew _ k hk, heap_alloc_new w.drew _⟩
section
variable {P : Program} {f : Fr} {v : AV} {h h' : Hp} {Φ : Phi} {τ : Tau} {w w' : World}
theorem Rel.new {b : Blk} {k : Nat} {O : Obj} (r : Rel Φ τ h w) (hb : h.n < big5) (hf : Φ h.n = none) (nb : NB Φ h.n b ⟨w.heap.size, 0, k⟩ O) (wn : Wn w O w') :
  ∃ τ', Rel (ext Φ h.n ⟨w.heap.size, 0, k⟩) τ' ⟨set5 h.n (some b) h.t, h.n + 1⟩ w' ∧ Tw Φ τ h w (ext Φ h.n ⟨w.heap.size, 0, k⟩) τ' (h.n + 1) w' := by
 refine ⟨fun g => if g = w.heap.size then (if b.ro then .ro else .own h.n) else τ g, ⟨hb, ?_, ?_⟩, ⟨wn.os, wn.tape, wn.output, by rw [wn.size]; omega, Sub.ext hf, ?_, ?_⟩⟩
 ·intro id b' hid hb'
  have hid : id < h.n + 1 := hid
  have hb' : get5 id (set5 h.n (some b) h.t) = some b' := hb'
  rw [Zk _ _ _ _ (by omega) hb] at hb'
  by_cases e : id = h.n
  ·rw [if_pos e] at hb'
   cases hb'
   subst e
   exact nb _ _ _ (Sub.ext hf) (Q3 _ _ _) wn.new_ (if_pos rfl)
  ·rw [if_neg e] at hb'
   obtain ⟨en, _, hlt, _, k⟩ := (r.blk id b' (by omega) hb').at_
   exact k (Sub.ext hf) (wn.old _ hlt) (if_neg (by omega))
 ·intro id hid hid5
  have hid : h.n + 1 ≤ id := hid
  show get5 id (set5 h.n (some b) h.t) = none
  rw [Zk _ _ _ _ hid5 hb, if_neg (by omega)]
  exact r.fin id (by omega) hid5
 ·intro id hid
  unfold Ev.ext
  rw [if_neg (by omega)]
 ·intro g hg _
  refine ⟨wn.old g hg, ?_⟩
  exact if_neg (by omega)
theorem jb {id : Nat} (r : Rel Φ τ h w) (hid : id < h.n) : id < big5 := Nat.lt_of_lt_of_le hid r.lim
theorem Rel.turn {id : Nat} {b b' : Blk} {en : Ent} (r : Rel Φ τ h w) (hid : id < h.n) (hb : get5 id h.t = some b) (hlab : τ en.g = .own id) (hos : w'.os = w.os) (htp : w'.tape = w.tape) (hou : w'.output = w.output)
  (hsz : w'.heap.size = w.heap.size) (hoth : ∀ g, g ≠ en.g → w'.heap[g]? = w.heap[g]?) (hnew : Kg Φ τ w' id b') : Rel Φ τ (putB h id (some b')) w' ∧ Tw Φ τ h w Φ τ h.n w' := by
 refine ⟨⟨r.lim, ?_, ?_⟩, ⟨hos, htp, hou, by rw [hsz]; exact Nat.le_refl _, Sub.refl _, fun _ _ => rfl, ?_⟩⟩
 ·intro id' b'' hid' hb''
  have hid' : id' < h.n := hid'
  have hb'' : get5 id' (set5 id (some b') h.t) = some b'' := hb''
  rw [Zk _ _ _ _ (jb r hid') (jb r hid)] at hb''
  by_cases e : id' = id
  ·rw [if_pos e] at hb''
   cases hb''
   subst e
   exact hnew
  ·rw [if_neg e] at hb''
   obtain ⟨en2, _, _, hl2, k⟩ := (r.blk id' b'' hid' hb'').at_
   have hne : en2.g ≠ en.g := by
    intro hg
    rw [hg, hlab] at hl2
    split at hl2
    ·cases hl2
    ·cases hl2; exact e rfl
   exact k (Sub.refl _) (hoth _ hne) rfl
 ·intro i hi hi5
  have hi : h.n ≤ i := hi
  show get5 i (set5 id (some b') h.t) = none
  rw [Zk _ _ _ _ hi5 (jb r hid), if_neg (by omega)]
  exact r.fin i hi hi5
 ·intro g hg hk
  refine ⟨hoth g ?_, rfl⟩
  intro e
  subst e
  have := (hk id hlab).1 hid
  rw [hb] at this; cases this
theorem BR.own {b : Blk} {en : Ent} {id : Nat} {C : Array Value} {T : TypeId} (br : BR Φ τ w b en id C T) (hro : b.ro = false) : τ en.g = .own id := by
 have := br.lab
 rw [hro] at this
 exact this
theorem Rel.put {id : Nat} {b b' : Blk} {en : Ent} {C C' : Array Value} {T : TypeId} (r : Rel Φ τ h w) (hid : id < h.n) (hb : get5 id h.t = some b) (br : BR Φ τ w b en id C T) (hro : b.ro = false)
  (hb' : b'.ro = false) (hrow : b'.ob = .row) (hty : b'.ty = b.ty) (hex : b'.ex = b.ex) (hl : b'.cs.length = b.cs.length) (hsz : C'.size = C.size) (hcr : CR Φ C' en.base b'.cs) (hw : w' = w.setRow en.g C') :
  Rel Φ τ (putB h id (some b')) w' ∧ Tw Φ τ h w Φ τ h.n w' := by
 subst hw
 have hnew : (w.setRow en.g C').heap[en.g]? = some (.cells C' T (0, 0)) := setRow_heap w en.g C C' T (0, 0) (br.obj0 hro)
 refine r.turn (en := en) hid hb (br.own hro) rfl rfl rfl (by simp [World.setRow]) (fun g hg => setRow_other w en.g g C' hg) (.inl ⟨en, C', T, br.ent, ?_, hrow, by rw [hty]; exact br.ty, ⟨(0, 0), hnew, fun _ => rfl⟩, by rw [hsz]; exact br.size, by rw [hl]; exact br.le, fun hx => ?_, hcr⟩)
 ·rw [hb']; exact br.own hro
 ·rw [hl]; exact br.exact_ (hex ▸ hx)
def Qt (P : Program) (op : Op) (f : Fr) (v : AV) (h h' : Hp) : Prop := ∃ b, h.n < big5 ∧ h' = ⟨set5 h.n (some b) h.t, h.n + 1⟩ ∧
 ∀ (Φ : Phi) (F : Wf.Fr) (w : World) (dst : Option Tmp) (ty : TypeId) (pos : String) (after : Array Edge) (gd : Option (Nat × Bool)), FR Φ f F → Φ h.n = none →
  St P (fe F) ⟨dst, op, ty, pos, after, gd⟩ w (fun x w' => ∃ k O, Wn w O w' ∧ Rv (ext Φ h.n ⟨w.heap.size, 0, k⟩) v x ∧ NB Φ h.n b ⟨w.heap.size, 0, k⟩ O) KF
def Mv (P : Program) (op : Op) (f : Fr) (v : AV) (h h' : Hp) : Prop := Grow h h' ∧
 ∀ (Φ : Phi) (τ : Tau) (F : Wf.Fr) (w : World) (dst : Option Tmp) (ty : TypeId) (pos : String) (after : Array Edge) (gd : Option (Nat × Bool)), FR Φ f F → Rel Φ τ h w → Fre Φ h.n h'.n →
  St P (fe F) ⟨dst, op, ty, pos, after, gd⟩ w (fun x w' => ∃ Φ' τ', Rv Φ' v x ∧ Rel Φ' τ' h' w' ∧ Tw Φ τ h w Φ' τ' h'.n w') KF
theorem Grow.new {b : Blk} (hb : h.n < big5) : Grow h ⟨set5 h.n (some b) h.t, h.n + 1⟩ := ⟨Nat.le_succ _, fun id h5 hid hn => by
 have hid : ¬ (h.n ≤ id ∧ id < h.n + 1) := hid
 show get5 id (set5 h.n (some b) h.t) = none
 rw [Zk _ _ _ _ h5 hb, if_neg (by omega)]; exact hn, fun _ => hb⟩
theorem Grow.put {id : Nat} {b : Blk} {o : Option Blk} (hl : h.n ≤ big5) (hid : id < h.n) (hb : get5 id h.t = some b) : Grow h (putB h id o) := ⟨Nat.le_refl _, fun i h5 hi hn => by
 show get5 i (set5 id o h.t) = none
 have : ¬ i = id := fun e => by rw [e, hb] at hn; cases hn
 rw [Zk _ _ _ _ h5 (by omega), if_neg this]; exact hn, fun h => h⟩
theorem Qt.mv {op : Op} (q : Qt P op f v h h') : Mv P op f v h h' := by
 obtain ⟨b, hb, rfl, hst⟩ := q
 refine ⟨Grow.new hb, fun Φ τ F w dst ty pos after gd hF hR hFr => ?_⟩
 have hn := hFr h.n (Nat.le_refl _) (Nat.lt_succ_self _)
 refine (hst Φ F w dst ty pos after gd hF hn).mono ?_ fun _ _ h => h
 rintro x w' ⟨k, O, wn, hv, nb⟩
 obtain ⟨τ', h1, h2⟩ := hR.new hb hn nb wn
 exact ⟨_, τ', hv, h1, h2⟩
theorem V1 {b : Blk} {k : Nat → Hp → Res} (e : newB h b k = .ok v h') : h.n < big5 ∧ k h.n ⟨set5 h.n (some b) h.t, h.n + 1⟩ = .ok v h' := by
 unfold newB at e
 obtain ⟨h1, e⟩ := recB e
 rw [Xk] at e
 exact ⟨Yb h1, e⟩
theorem Jhw {e : TypeId} (he : k9 P e f h = .ok v h') : Qt P (.alloc e) f v h h' := by
 unfold k9 at he
 split at he
 ·rename_i l hl
  obtain ⟨hb, he⟩ := V1 he
  obtain ⟨rfl, rfl⟩ := Jx he
  obtain ⟨z, sz, by_, hinf, rfl⟩ := Jbb hl
  obtain ⟨inf, hi', hz, _, _⟩ := Jq hinf
  refine ⟨_, hb, rfl, fun Φ F w dst ty pos after gd hF hn => ?_⟩
  refine St.alloc (vs := z.cells.toList) hi' hz (by simp) ⟨_, _, Wn.alloc _ _, Rv.mp (Q3 _ _ _), NB.row rfl (fun _ => rfl) rfl (by simp) (fun _ => by simp) ?_⟩
  intro i a hi
  obtain ⟨x, h1, h2⟩ := (zx (Φ := Φ) z.cells.toList).at hi
  exact ⟨x, by rw [Nat.zero_add]; simpa using h1, h2⟩
 ·cases he
theorem CR.ofL {l : List AV} {vs : List Value} (hr : RvL Φ l vs) : CR Φ vs.toArray 0 l := by
 intro i a hi
 obtain ⟨x, h1, h2⟩ := hr.at hi
 exact ⟨x, by rw [Nat.zero_add]; simpa using h1, h2⟩
theorem Joz {e : TypeId} {x : Operand} (he : Jbp e x f h = .ok v h') : Qt P (.box e x) f v h h' := by
 unfold Jbp at he
 split at he
 ·rename_i l hl
  obtain ⟨hb, he⟩ := V1 he
  obtain ⟨rfl, rfl⟩ := Jx he
  refine ⟨_, hb, rfl, fun Φ F w dst ty pos after gd hF hn => ?_⟩
  obtain ⟨vs, h1, h2⟩ := z6 hl (Jc hF x)
  exact St.box h1 ⟨_, _, Wn.alloc _ _, Rv.mp (Q3 _ _ _), NB.row rfl (fun _ => rfl) rfl (by simp [h2.len]) (fun _ => by simp [h2.len]) (CR.ofL h2)⟩
 ·cases he
def zrow (z : Array Value) (m : Nat) : Array Value := (Array.range m).map (z[· % z.size]!)
theorem Jmr {α : Type} (l : List α) : ∀ (n i : Nat), (repl n l)[i]? = if i < n * l.length then l[i % l.length]? else none := by
 intro n
 induction n with
 | zero => intro i; simp [repl]
 | succ n ih =>
  intro i
  have e : repl (n + 1) l = l ++ repl n l := by unfold repl; rw [List.replicate_succ, List.flatten_cons]
  rw [e, List.getElem?_append, ih, Nat.succ_mul]
  by_cases h : i < l.length
  ·rw [if_pos h, if_pos (by omega), Nat.mod_eq_of_lt h]
  ·rw [if_neg h]
   have h2 : (i - l.length) % l.length = i % l.length := by
    conv => rhs; rw [show i = (i - l.length) + l.length by omega]
    rw [Nat.add_mod_right]
   rw [h2]
   by_cases h3 : i - l.length < n * l.length
   ·rw [if_pos h3, if_pos (by omega)]
   ·rw [if_neg h3, if_neg (by omega)]
theorem Jem {α : Type} (l : List α) (n : Nat) : (repl n l).length = n * l.length := by unfold repl; simp [List.length_flatten]
theorem Ji8 (z : Array Value) (n sz : Nat) (hz : z.size = sz) (hp : 0 < sz) : RvL Φ (repl n (z.toList.map cv)) (zrow z (n * sz)).toList := by
 refine RvL.mk (by simp [zrow, Jem, hz]) fun i a x hi hx => ?_
 rw [Jmr] at hi
 split at hi <;> rename_i hlt
 ·have hlt : i < n * sz := by simpa [hz] using hlt
  have hm : i % sz < z.size := by rw [hz]; exact Nat.mod_lt _ hp
  have h1 : z.toList[i % sz]? = some z[i % sz] := by simp [hm]
  rw [List.getElem?_map, List.length_map, Array.length_toList, hz, h1] at hi
  have h2 : (zrow z (n * sz)).toList[i]? = some z[i % sz] := by
   simp only [zrow, Array.toList_map, Array.toList_range, List.getElem?_map]
   rw [List.getElem?_range hlt]
   simp only [Option.map_some, hz]
   rw [getElem!_pos z _ hm]
  rw [h2] at hx
  cases hx
  simp at hi; subst hi
  exact zf _
 ·cases hi
theorem Jg5 (off : Nat) : ∀ (L : List (Value × Nat)) (C : Array Value), (L.foldl (fun cs (c, j) => cs.setIfInBounds (off + j) c) C).size = C.size := by
 intro L
 induction L with
 | nil => intro C; rfl
 | cons q L ih => intro C; rw [List.foldl_cons, ih]; exact Array.size_setIfInBounds
theorem qu {t : TypeId} {n : Nat} {ps : Array (Nat × Operand)} (he : Yr P t n ps f h = .ok v h') : Qt P (.buildSlice t n ps) f v h h' := by
 unfold Yr at he
 split at he
 ·cases he
 ·rename_i el hel
  split at he
  ·rename_i sz z hsz hz
   obtain ⟨hc, he⟩ := recB he
   obtain ⟨hc, h3⟩ := Zj hc
   obtain ⟨h1, h2⟩ := Zj hc
   have h1 : 0 < sz := Yb h1
   have h2 : n * sz ≤ 16777216 := Nat.le_of_ble_eq_true h2
   have h3 := Nat.eq_of_beq_eq_true h3
   obtain ⟨cs, he, hfill⟩ := Jh9 _ _ he
   obtain ⟨hb, he⟩ := V1 he
   obtain ⟨rfl, rfl⟩ := Jx he
   refine ⟨_, hb, rfl, fun Φ F w dst ty pos after gd hF hn => ?_⟩
   obtain ⟨zv, sz', by', hinf', rfl⟩ := Jbb hz
   obtain ⟨zv2, by2, hinf⟩ := Q6 hsz
   rw [hinf'] at hinf
   simp only [Option.some.injEq, Prod.mk.injEq] at hinf
   obtain ⟨rfl, rfl, rfl⟩ := hinf
   obtain ⟨inf, hi', hzz, hs, _⟩ := Jq hinf'
   rw [X2, List.length_map, Array.length_toList] at h3
   obtain ⟨C', g1, g2⟩ := hfill Φ F (zrow zv.cells (n * sz')).toList hF (Ji8 zv.cells n sz' h3 h1)
   have hC'len := g2.len
   have hpe : (ps.map fun (i, x) => (i, fe F x)).toList = ps.toList.map fun p => (p.1, fe F p.2) := by simp
   have hlen : cs.length = n * sz' := by
    have key : ∀ (l : List (Nat × Value)) (C : Array Value) (D : Array Value), Instr.fill (fun i => some (Nat.mul i sz', sz')) C l = some D → D.size = C.size := by
     intro l
     induction l with
     | nil => intro C D hh; cases hh; rfl
     | cons p l ih =>
      intro C D hh
      obtain ⟨i, x⟩ := p
      rw [Instr.fill] at hh
      simp only at hh
      split at hh
      ·cases hh
      ·have := ih _ _ hh
       rw [this, ← Array.foldl_toList]
       exact Jg5 _ _ _
    have := key _ _ _ g1
    rw [← hC'len]
    have h5 : C'.toArray.size = (zrow zv.cells (n * sz')).toList.toArray.size := this
    simpa [zrow] using h5
   have hrun : (Instr.buildSlice t n (ps.map fun (i, x) => (i, fe F x))).run P w = .ok (.slice (some ⟨w.heap.size, 0, none⟩) n n) (w.alloc (.cells C'.toArray el (0, 0))) := by
    have hz0 : ¬ (n * inf.size > 2 ^ 24) := by rw [hs]; omega
    by_cases hn0 : n = 0
    ·subst hn0
     have hC0 : C' = [] := List.eq_nil_of_length_eq_zero (by rw [hC'len, hlen]; simp)
     subst hC0
     have g1' : Instr.fill (fun i => some (i * inf.size, inf.size)) #[] (ps.map fun (i, x) => (i, fe F x)).toList = some #[] := by
      rw [hpe, hs]
      simpa [zrow] using g1
     have e0 : ∀ k : Nat → Value, Array.map k (Array.range 0) = #[] := fun k => by apply Array.ext'; simp
     generalize (ps.map fun (i, x) => (i, fe F x)) = L at g1' ⊢
     simp [Instr.buildSlice, run_underlying (yo hel), sizeOf, typeInfo, hi', e0, g1', newRow]
    ·have hne : ¬ (n * inf.size = 0) := by rw [hs]; exact Nat.ne_of_gt (Nat.mul_pos (Nat.pos_of_ne_zero hn0) h1)
     have g1' : Instr.fill (fun i => some (i * inf.size, inf.size)) ((Array.range (n * inf.size)).map (zv.cells[· % zv.cells.size]!)) (ps.map fun (i, x) => (i, fe F x)).toList = some C'.toArray := by
      rw [hpe, hs]
      have : (zrow zv.cells (n * sz')).toList.toArray = (Array.range (n * sz')).map (zv.cells[· % zv.cells.size]!) := by rw [Array.toArray_toList]; rfl
      rw [this] at g1
      exact g1
     generalize (ps.map fun (i, x) => (i, fe F x)) = L at g1' ⊢
     simp [Instr.buildSlice, run_underlying (yo hel), sizeOf, typeInfo, hi', hz0, hne, zeroValue, hzz, g1', newRow]
   refine St.of_run (v := .slice (some ⟨w.heap.size, 0, none⟩) n n) (w' := w.alloc (.cells C'.toArray el (0, 0))) (by simp [execOp, hrun]) ⟨_, _, Wn.alloc _ _, ?_, NB.row rfl (fun _ => rfl) rfl (by simp [hC'len]) (fun _ => by simp [hC'len]) (CR.ofL g2)⟩
   refine Rv.msl (e := ⟨w.heap.size, 0, C'.toArray.size⟩) (c := n) (Q3 _ _ _) (Nat.le_refl _) ?_ ?_ rfl
   ·have := Nat.le_mul_of_pos_right n h1; unfold maxLen; omega
   ·show 0 + n * sz' ≤ C'.toArray.size
    simp [hC'len, hlen]
  ·cases he
theorem vv {t : TypeId} {l c : Operand} (he : Yy P t l c f h = .ok v h') : Qt P (.makeSlice t l c) f v h h' := by
 unfold Yy at he
 split at he
 ·cases he
 ·rename_i el hel
  split at he
  ·rename_i sz z hsz hz
   obtain ⟨kl, n, hl, he⟩ := recN he
   obtain ⟨kc, m, hm, he⟩ := recN he
   rw [Xk, Xk] at he
   obtain ⟨hc, he⟩ := recB he
   obtain ⟨hc, h5⟩ := Zj hc
   obtain ⟨hc, h4⟩ := Zj hc
   obtain ⟨hc, h3⟩ := Zj hc
   obtain ⟨h1, h2⟩ := Zj hc
   have h1 : 0 < sz := Yb h1
   have h2 := Nat.le_of_ble_eq_true h2
   have h3 := Nat.le_of_ble_eq_true h3
   have h4 := Nat.eq_of_beq_eq_true h4
   have h5 := Nat.le_of_ble_eq_true h5
   rw [Vn, List.append_nil] at he
   obtain ⟨hb, he⟩ := V1 he
   obtain ⟨rfl, rfl⟩ := Jx he
   refine ⟨_, hb, rfl, fun Φ F w dst ty pos after gd hF hn => ?_⟩
   obtain ⟨zv, sz', by', hinf', rfl⟩ := Jbb hz
   obtain ⟨zv2, by2, hinf⟩ := Q6 hsz
   rw [hinf'] at hinf
   simp only [Option.some.injEq, Prod.mk.injEq] at hinf
   obtain ⟨rfl, rfl, rfl⟩ := hinf
   have hby : byOf P el = some by' := by unfold byOf; rw [hinf']; rfl
   rw [hby] at h5
   simp only [Option.getD_some] at h5
   obtain ⟨inf, hi', hzz, hs, hbb⟩ := Jq hinf'
   rw [X2, List.length_map, Array.length_toList] at h4
   have hls := Jc hF l
   have hms := Jc hF c
   rw [hl] at hls
   rw [hm] at hms
   have hrun := run_make (P := P) w t el inf zv (yo hel) hi' hzz kl kc (Int.ofNat n) (Int.ofNat m) (Int.natCast_nonneg n) (Int.ofNat_le.2 h2) (by
    have h6 : inf.bytes * m ≤ 65536 * 65536 := Nat.mul_le_mul (hbb ▸ h5) h3
    have : ((inf.bytes * m : Nat) : Int) ≤ ((65536 * 65536 : Nat) : Int) := Int.ofNat_le.2 h6
    rw [Int.natCast_mul] at this
    simp only [Int.ofNat_eq_natCast]
    omega) (by simp only [Int.ofNat_eq_natCast]; omega)
   have hmc : madeCells zv.cells ((Int.ofNat m).toNat * inf.size) = zrow zv.cells (m * sz') := by
    rw [hs]
    rfl
   rw [hmc] at hrun
   have g2 := Ji8 (Φ := Φ) zv.cells m sz' h4 h1
   have hsize : (zrow zv.cells (m * sz')).size = m * sz' := by simp [zrow]
   have hl2 : (repl m (zv.cells.toList.map cv)).length = m * sz' := by rw [Jem, List.length_map, Array.length_toList, h4]
   refine St.of_run (v := .slice (some ⟨w.heap.size, 0, none⟩) n m) (w' := w.alloc (.cells (zrow zv.cells (m * sz')) el (0, 0))) ?_ ⟨_, _, Wn.alloc _ _, ?_, NB.row rfl (fun _ => rfl) rfl ?_ (fun _ => ?_) ?_⟩
   ·simp only [execOp]
    rw [hls.iI, hms.iI]
    simp only [Sem.run_bind, hrun]
    rfl
   ·refine Rv.msl (e := ⟨w.heap.size, 0, (zrow zv.cells (m * sz')).size⟩) (c := m) (Q3 _ _ _) h2 (by unfold maxLen; omega) ?_ rfl
    show 0 + m * sz' ≤ (zrow zv.cells (m * sz')).size
    rw [hsize]; omega
   ·show (repl m (zv.cells.toList.map cv)).length ≤ _
    rw [hl2, hsize]; exact Nat.le_refl _
   ·show (repl m (zv.cells.toList.map cv)).length = _
    rw [hl2, hsize]
   ·have := CR.ofL g2
    simpa using this
  ·cases he
theorem Jld (l : List Nat) : Jto l = l.map fun c => AV.i .u8 (Int.ofNat c) := by
 induction l with
 | nil => rfl
 | cons c l ih => exact congrArg (_ :: ·) ih
theorem Jhs {s d : TypeId} {x : Operand} (he : Jad P s d x f h = .ok v h') : Qt P (.convert s d x) f v h h' := noOk he
theorem Jj9 {t : TypeId} {p : TypeId × TypeId} (h : Jmc P t = some p) : P.underlying t = some (.map p.1 p.2) := by unfold Jmc at h; split at h <;> first | (cases h; assumption) | cases h
theorem Rv.mpI {id : Nat} {v : Value} (h : Rv Φ (.mp id) v) : ∃ e, Φ id = some e ∧ v = .map (some e.g) := by simp only [Rv] at h; exact h
theorem Jdr {t : TypeId} {r : Option Operand} (he : yw P t r f h = .ok v h') : Qt P (.makeMap t r) f v h h' := noOk he
end
end Go.Ev
namespace Go.Ev
set_option linter.unusedVariables false
set_option linter.unusedSimpArgs false
open Go Go.Wf Go.RowKit
section
variable {P : Program} {f : Fr} {v : AV} {h h' : Hp} {Φ : Phi} {τ : Tau} {w w' : World}
theorem qh {vs : List AV} {us : List Value} (ha : X9 vs = true) (hr : RvL Φ vs us) : us.all Value.oneCell' = true := by
 induction vs generalizing us with
 | nil => simp only [RvL] at hr; subst hr; rfl
 | cons a vs ih =>
  simp only [RvL] at hr
  obtain ⟨u, r, rfl, h1, h2⟩ := hr
  have ha : (bif scal a then X9 vs else false) = true := ha
  cases hs : scal a with
  | false => rw [hs] at ha; cases ha
  | true =>
   rw [hs] at ha
   rw [List.all_cons, h1.scal hs, ih ha h2]; rfl
theorem CR.put {C : Array Value} {base off : Nat} {cs vs : List AV} {us : List Value} (hc : CR Φ C base cs) (hr : RvL Φ vs us) (hl : off + vs.length ≤ cs.length) (hs : base + cs.length ≤ C.size) :
  CR Φ (C.toList.take (base + off) ++ us ++ C.toList.drop (base + off + us.length)).toArray base (cs.take off ++ vs ++ cs.drop (off + vs.length)) := by
 intro i a hi
 have hul := hr.len
 have hgetC : ∀ j x, C[j]? = some x → C.toList[j]? = some x := fun j x hx => by rw [Array.getElem?_toList]; exact hx
 have e1 : (C.toList.take (base + off)).length = base + off := by rw [List.length_take, Array.length_toList]; omega
 have e2 : (cs.take off).length = off := by rw [List.length_take]; omega
 rw [List.append_assoc, List.getElem?_append] at hi
 rw [e2] at hi
 simp only [List.getElem?_toArray, List.append_assoc]
 rw [List.getElem?_append, e1]
 by_cases h1 : i < off
 ·rw [if_pos h1, List.getElem?_take, if_pos h1] at hi
  obtain ⟨x, hx, hxr⟩ := hc i a hi
  rw [if_pos (by omega), List.getElem?_take, if_pos (by omega)]
  exact ⟨x, hgetC _ _ hx, hxr⟩
 ·rw [if_neg h1, List.getElem?_append] at hi
  rw [if_neg (by omega), List.getElem?_append, hul]
  have e3 : base + i - (base + off) = i - off := by omega
  rw [e3]
  by_cases h2 : i - off < vs.length
  ·rw [if_pos h2] at hi ⊢
   exact hr.at hi
  ·rw [if_neg h2] at hi ⊢
   rw [List.getElem?_drop] at hi ⊢
   obtain ⟨x, hx, hxr⟩ := hc _ a hi
   refine ⟨x, ?_, hxr⟩
   rw [← hgetC _ _ hx]
   congr 1
   omega
theorem Jwk {id off : Nat} {vs : List AV} {k : Hp → Res} (e : wrB h id off vs k = .ok v h') : ∃ b, id < h.n ∧ get5 id h.t = some b ∧ b.ob = .row ∧ b.ro = false ∧ X9 vs = true ∧ off + vs.length ≤ b.cs.length ∧
  k (putB h id (some ⟨b.ty, b.ex, false, b.cs.take off ++ vs ++ b.cs.drop (off + vs.length), .row⟩)) = .ok v h' := by
 unfold wrB at e
 obtain ⟨b, hid, hb, hrow, e⟩ := Jbj e
 obtain ⟨h1, e⟩ := recB e
 obtain ⟨h2, e⟩ := recB e
 rcases Jj7 b.cs off vs (fun cs => k (putB h id (some ⟨b.ty, b.ex, false, cs, .row⟩))) with ⟨e2, hl⟩ | ⟨n, e2⟩
 ·rw [e2] at e
  exact ⟨b, hid, hb, hrow, Jg3 h1, h2, hl, e⟩
 ·rw [e2] at e; cases e
theorem Rel.wr {id off : Nat} {b : Blk} {en : Ent} {C : Array Value} {T : TypeId} {vs : List AV} {us : List Value} (r : Rel Φ τ h w) (hid : id < h.n) (hb : get5 id h.t = some b) (br : BR Φ τ w b en id C T) (hro : b.ro = false)
  (hr : RvL Φ vs us) (hl : off + vs.length ≤ b.cs.length) :
  Rel Φ τ (putB h id (some ⟨b.ty, b.ex, false, b.cs.take off ++ vs ++ b.cs.drop (off + vs.length), .row⟩)) (w.setRow en.g (C.toList.take (en.base + off) ++ us ++ C.toList.drop (en.base + off + us.length)).toArray) ∧
  Tw Φ τ h w Φ τ h.n (w.setRow en.g (C.toList.take (en.base + off) ++ us ++ C.toList.drop (en.base + off + us.length)).toArray) := by
 have hle := br.le
 have hsz := br.size
 have hul := hr.len
 refine r.put hid hb br hro rfl rfl rfl rfl ?_ ?_ (br.cr.put hr hl (by omega)) rfl
 ·simp only [List.length_append, List.length_take, List.length_drop]; omega
 ·simp only [List.size_toArray, List.length_append, List.length_take, List.length_drop, Array.length_toList]; omega
theorem Jhx {t : TypeId} {a x : Operand} (e : X8 P t a x f h = .ok v h') (hlim : h.n ≤ big5 → True := fun _ => trivial) : (h.n ≤ big5 → Grow h h') ∧
  ∀ (Φ : Phi) (τ : Tau) (F : Wf.Fr) (w : World) (dst : Option Tmp) (ty : TypeId) (pos : String) (after : Array Edge) (gd : Option (Nat × Bool)), FR Φ f F → Rel Φ τ h w →
  St P (fe F) ⟨dst, .store t a x, ty, pos, after, gd⟩ w (fun x w' => Rv Φ v x ∧ Rel Φ τ h' w' ∧ Tw Φ τ h w Φ τ h'.n w') KF := by
 unfold X8 at e
 split at e
 ·rename_i id off ha
  split at e
  ·rename_i vs hvs
   split at e
   ·rename_i sz hsz
    obtain ⟨hl, e⟩ := recB e
    have hl := Nat.eq_of_beq_eq_true hl
    rw [X2] at hl
    obtain ⟨b, hid, hb, hrow, hro, hsc, hle, e⟩ := Jwk e
    obtain ⟨rfl, rfl⟩ := Jx e
    refine ⟨fun hn => Grow.put hn hid hb, fun Φ τ F w dst ty pos after gd hF hR => ?_⟩
    have hr := Jc hF a
    rw [ha] at hr
    obtain ⟨en, hen, hv⟩ := hr.pI
    obtain ⟨e', C, T, br⟩ := (hR.blk id b hid hb).row hrow
    have := br.ent
    rw [hen] at this; cases this
    obtain ⟨us, hu1, hu2⟩ := z6 hvs (Jc hF x)
    obtain ⟨z, by_, hinf⟩ := Q6 hsz
    obtain ⟨inf, hi', _, hs, _⟩ := Jq hinf
    have hble := br.le
    have hbs := br.size
    have hul := hu2.len
    obtain ⟨g1, g2⟩ := hR.wr hid hb br hro hu2 hle
    refine St.store (C := C.toList) (T := T) hi' hs hv hu1 (by rw [hul, hl]) ?_ (by rw [Array.length_toList]; omega) (qh hsc hu2) ?_
    ·unfold Wf.Blk; rw [br.obj0 hro]
    ·intro C' hC'
     subst hC'
     exact ⟨by simp only [Rv], g1, g2⟩
   ·cases e
  ·cases e
 ·cases e
structure SrcW (P : Program) (t' : TypeId) (w : World) (size n : Nat) (y : Value) (ys : List Value) : Prop where
 ty : P.underlying t' = some .string ∨ ∃ e, P.underlying t' = some (.slice e)
 len : ∀ w', (Builtin.lenOf y).run P w' = .ok n w'
 cells : ∀ w', w'.heap = w.heap → (Builtin.firstCells size n y).run P w' = .ok ys.toArray w'
theorem yd {t t' ty e : TypeId} {i : TypeInfo} (ht : P.underlying t = some (.slice e)) (hi : P.info? e = some i) {s y : Value} {n c : Nat} {a : Option Addr} (hs : s = .slice a n c) (hn : n ≤ c) (S : SrcW P t' w i.size 0 y []) :
  (Builtin.append_ #[t, t'] ty #[s, y]).run P w = .ok s w := by
 subst hs
 have h1 := S.len w
 have h2 := S.cells w rfl
 rcases S.ty with hu | ⟨e', hu⟩ <;> cases a <;> simp [Builtin.append_, run_underlying ht, run_underlying hu, sizeOf, typeInfo, hi, h1, h2, hn, storeCells]
theorem qb {t t' ty e : TypeId} {i : TypeInfo} (ht : P.underlying t = some (.slice e)) (hi : P.info? e = some i) {g o sLen sCap : Nat} {T : TypeId} {cur : Array Value} (hg : w.heap[g]? = some (.cells cur T (0, 0)))
  {y : Value} {m : Nat} {news : List Value} (S : SrcW P t' w i.size m y news) (h1 : ∀ u ∈ news, u.oneCell' = true) (hroom : sLen + m ≤ sCap) (hfit : o + sLen * i.size + news.length ≤ cur.size) :
  (Builtin.append_ #[t, t'] ty #[.slice (some ⟨g, o, none⟩) sLen sCap, y]).run P w =
   .ok (.slice (some ⟨g, o, none⟩) (sLen + m) sCap) (w.setRow g (cur.toList.take (o + sLen * i.size) ++ news ++ cur.toList.drop (o + sLen * i.size + news.length)).toArray) := by
 have hl := S.len w
 have hf := S.cells w rfl
 have hst := run_storeCells_at P g (o + sLen * i.size) T news 0 cur w hg (by simpa using hfit) h1
 simp only [Nat.add_zero] at hst
 rcases S.ty with hu | ⟨e', hu⟩ <;> simp [Builtin.append_, run_underlying ht, run_underlying hu, sizeOf, typeInfo, hi, hl, hroom, hf, Addr.add_lit, hst]
theorem Jgf {t t' ty e : TypeId} {i : TypeInfo} {z : Value} (ht : P.underlying t = some (.slice e)) (hi : P.info? e = some i) (hz : i.zero = some z) {y : Value} {n : Nat} {news : List Value} (S : SrcW P t' w i.size n y news)
  (h0 : 0 < n) (h63 : (n : Int) ≤ 9223372036854775807) (h48 : n * i.bytes ≤ 281474976710656) :
  (Builtin.append_ #[t, t'] ty #[.slice none 0 0, y]).run P w =
   .ok (.slice (some ⟨w.heap.size, 0, none⟩) n (grownCap w n 0 e)) (w.drew.alloc (.cells (news.toArray ++ Builtin.zeroCells z.cells (grownCap w n 0 e - n)) e)) := by
 have hn : n ≠ 0 := by omega
 have h63' : ¬ (9223372036854775807 < (n : Int)) := by omega
 have h48' : ¬ (281474976710656 < Builtin.nextslicecap n 0 * i.bytes) := by rw [nextslicecap_zero h0]; omega
 have hl := S.len w
 have hf := S.cells w.drew rfl
 rcases S.ty with hu | ⟨e', hu⟩ <;> simp [Builtin.append_, run_underlying ht, run_underlying hu, sizeOf, typeInfo, zeroValue, hi, hz, hl, hn, h63', h48', Question.forced, run_firstCells_none, hf, newRow, grownCap]
theorem yu {t t' ty e : TypeId} {i : TypeInfo} {z : Value} (ht : P.underlying t = some (.slice e)) (hi : P.info? e = some i) (hz : i.zero = some z)
  {b : Addr} {sLen sCap : Nat} {olds : List Value} (hlo : olds.length = sLen * i.size) (holds : ∀ j v, olds[j]? = some v → w.cell? (b.add j) = some v) {y : Value} {n : Nat} {news : List Value} (S : SrcW P t' w i.size n y news)
  (hg : sCap < sLen + n) (h63 : ((sLen + n : Nat) : Int) ≤ 9223372036854775807) (hfit : Builtin.nextslicecap (sLen + n) sCap * i.bytes ≤ 281474976710656) :
  (Builtin.append_ #[t, t'] ty #[.slice (some b) sLen sCap, y]).run P w =
   .ok (.slice (some ⟨w.heap.size, 0, none⟩) (sLen + n) (grownCap w (sLen + n) sCap e))
    (w.drew.alloc (.cells (olds.toArray ++ news.toArray ++ Builtin.zeroCells z.cells (grownCap w (sLen + n) sCap e - (sLen + n))) e)) := by
 have hn : ¬ (sLen + n ≤ sCap) := by omega
 have h63' : ¬ (9223372036854775807 < ((sLen : Int) + (n : Int))) := by omega
 have h48' : ¬ (281474976710656 < Builtin.nextslicecap (sLen + n) sCap * i.bytes) := by omega
 have hl := S.len w
 have hf := S.cells w.drew rfl
 have hfo := run_firstCells_some (P := P) w.drew i.size sLen b sLen sCap olds hlo (by simpa using holds)
 rcases S.ty with hu | ⟨e', hu⟩
 all_goals
  simp [Builtin.append_, run_underlying ht, run_underlying hu, sizeOf, typeInfo, zeroValue, hi, hz, hl, hn, h63', h48', Question.forced, hf, hfo, newRow, grownCap]
  congr 2
  apply Array.ext'
  simp [List.append_assoc]
theorem St.appendRun {ρ : Operand → Value} {a b : Operand} {t t' : TypeId} {dst : Option Tmp} {ty : TypeId} {pos : String} {after : Array Edge} {gd : Option (Nat × Bool)} {K : Value → World → Prop} {Kp : List PanicEntry → World → Prop} {x : Value}
  (hr : (Builtin.append_ #[t, t'] ty #[ρ a, ρ b]).run P w = .ok x w') (hk : K x w') : St P ρ ⟨dst, .call { callee := .builtin .append, args := #[a, b], argTypes := #[t, t'] }, ty, pos, after, gd⟩ w K Kp := by
 refine St.of_run (v := x) (w' := w') ?_ hk
 simp [execOp, resolve, invoke, builtin, hr]
theorem yr {e m n : Nat} {k : Nat → Res} (he : Jgm P e m n k = .ok v h') : m + n ≤ 1000000 ∧ (∀ z sz by_, Zi P e = some (z, sz, by_) → by_ ≤ 65536) ∧ k (m + n) = .ok v h' := by
 unfold Jgm at he
 rw [Xk] at he
 obtain ⟨hc, he⟩ := recB he
 obtain ⟨h1, h2⟩ := Zj hc
 refine ⟨Nat.le_of_ble_eq_true h1, fun z sz by_ hi => ?_, he⟩
 have h2 := Nat.le_of_ble_eq_true h2
 unfold byOf at h2
 rw [hi] at h2
 exact h2
theorem Jdn {el sz : Nat} {h0 : Hp} {m n : Nat} {us vs : List AV} {xs ys : List Value} {z : Value} {by_ G : Nat} {T : TypeId} {w1 : World} (he : Q8 P el sz h0 m n us vs = .ok v h') (hR : Rel Φ τ h0 w) (hf : Φ h0.n = none)
  (hu : RvL Φ us xs) (hv : RvL Φ vs ys) (hxl : xs.length = m * sz) (hyl : ys.length = n * sz) (hz : z.cells.size = sz) (hG : m + n ≤ G) (hGm : G ≤ maxLen)
  (hT : T = el) (hw : Wn w (.cells (xs.toArray ++ ys.toArray ++ Builtin.zeroCells z.cells (G - (m + n))) T (0, 0)) w1) :
  Grow h0 h' ∧ ∃ Φ' τ', Rv Φ' v (.slice (some ⟨w.heap.size, 0, none⟩) (m + n) G) ∧ Rel Φ' τ' h' w1 ∧ Tw Φ τ h0 w Φ' τ' h'.n w1 := by
 unfold Q8 at he
 obtain ⟨h1, h2, he⟩ := yr he
 rw [Vn] at he
 obtain ⟨hb, he⟩ := V1 he
 obtain ⟨rfl, rfl⟩ := Jx he
 have hCs : (xs.toArray ++ ys.toArray ++ Builtin.zeroCells z.cells (G - (m + n))).size = G * sz := by
  simp only [Array.size_append, List.size_toArray, size_zeroCells, hz, hxl, hyl, ← Nat.add_mul]
  congr 1; omega
 have hap := hu.app hv
 have nb : NB Φ h0.n ⟨el, false, false, us ++ vs, .row⟩ ⟨w.heap.size, 0, (xs.toArray ++ ys.toArray ++ Builtin.zeroCells z.cells (G - (m + n))).size⟩ (.cells (xs.toArray ++ ys.toArray ++ Builtin.zeroCells z.cells (G - (m + n))) T (0, 0)) := by
  refine NB.row rfl (fun _ => rfl) hT ?_ (fun hx => by cases hx) ?_
  ·show (us ++ vs).length ≤ _
   rw [hCs, ← hap.len, List.length_append, hxl, hyl, ← Nat.add_mul]
   exact Nat.mul_le_mul_right _ hG
  ·intro i a hi
   obtain ⟨x, hx, hr⟩ := hap.at hi
   refine ⟨x, ?_, hr⟩
   have hlt := (List.getElem?_eq_some_iff.1 hx).1
   rw [Nat.zero_add, Array.getElem?_append_left (by simp at hlt ⊢; exact hlt)]
   simpa using hx
 obtain ⟨τ', r1, r2⟩ := hR.new hb hf nb hw
 refine ⟨Grow.new hb, _, τ', ?_, r1, r2⟩
 refine Rv.msl (e := ⟨w.heap.size, 0, _⟩) (c := G) (Q3 _ _ _) hG hGm ?_ trivial
 show 0 + G * sz ≤ (xs.toArray ++ ys.toArray ++ Builtin.zeroCells z.cells (G - (m + n))).size
 rw [hCs]; omega
theorem qd {id i : Nat} (r : Rel Φ τ h w) (hid : id < h.n) (hi : i < h.n) : get5 i (putB h id none).t = if i = id then none else get5 i h.t := Zk _ _ _ _ (jb r hi) (jb r hid)
theorem Jfu {id i : Nat} (r : Rel Φ τ h w) (hid : id < h.n) (hi : h.n ≤ i) (h5 : i < big5) : get5 i (putB h id none).t = none := by
 have : get5 i (putB h id none).t = if i = id then none else get5 i h.t := Zk _ _ _ _ h5 (jb r hid)
 rw [this, if_neg (by omega)]; exact r.fin i hi h5
theorem Rel.kill {id : Nat} (r : Rel Φ τ h w) (hid : id < h.n) : Rel Φ τ (putB h id none) w := by
 refine ⟨r.lim, fun i b hi hb => ?_, fun i hi h5 => Jfu r hid hi h5⟩
 have hi : i < h.n := hi
 rw [qd r hid hi] at hb
 split at hb
 ·cases hb
 ·exact r.blk i b hi hb
theorem Tw.kill {id n : Nat} {Φ' : Phi} {τ' : Tau} (r : Rel Φ τ h w) (hid : id < h.n) (t : Tw Φ τ (putB h id none) w Φ' τ' n w') : Tw Φ τ h w Φ' τ' n w' :=
 ⟨t.os, t.tape, t.output, t.size, t.sub, t.same, fun g hg hk => t.keep g hg fun i e => ⟨fun hi => by
  rw [qd r hid hi]
  split
  ·rfl
  ·exact (hk i e).1 hi, (hk i e).2⟩⟩
theorem Rel.stay {id off m n sz : Nat} {b : Blk} {en : Ent} {C : Array Value} {T : TypeId} {el : TypeId} {us vs : List AV} {ys : List Value} {c : Nat} (r : Rel Φ τ h w) (hid : id < h.n) (hb : get5 id h.t = some b) (br : BR Φ τ w b en id C T) (hro : b.ro = false) (hbt : b.ty = el) (hlim : h.n < big5) (hf : Φ h.n = none)
  (hus : us = (b.cs.drop off).take (m * sz)) (hul : m * sz ≤ (b.cs.drop off).length) (hv : RvL Φ vs ys) (hyl : ys.length = n * sz) (hc : m + n ≤ c) (hcm : c ≤ maxLen) (hck : off + c * sz ≤ en.k) :
  ∃ Φ' τ', Rv Φ' (.sl h.n 0 (m + n) sz none) (.slice (some ⟨en.g, en.base + off, none⟩) (m + n) c) ∧
   Rel Φ' τ' ⟨set5 h.n (some ⟨el, false, false, us ++ vs, .row⟩) (putB h id none).t, h.n + 1⟩ (w.setRow en.g (C.toList.take (en.base + off + m * sz) ++ ys ++ C.toList.drop (en.base + off + m * sz + ys.length)).toArray) ∧
   Tw Φ τ h w Φ' τ' (h.n + 1) (w.setRow en.g (C.toList.take (en.base + off + m * sz) ++ ys ++ C.toList.drop (en.base + off + m * sz + ys.length)).toArray) := by
 have hnew : ∀ D, (w.setRow en.g D).heap[en.g]? = some (.cells D T (0, 0)) := fun D => setRow_heap w en.g C D T (0, 0) (br.obj0 hro)
 have hlab := br.lab
 rw [hro] at hlab
 simp only [Bool.false_eq_true, if_false] at hlab
 have hsz := br.size
 have hle := br.le
 rw [List.length_drop] at hul
 have hmc : (m + n) * sz ≤ c * sz := Nat.mul_le_mul_right _ hc
 rw [Nat.add_mul] at hmc
 generalize hD : (C.toList.take (en.base + off + m * sz) ++ ys ++ C.toList.drop (en.base + off + m * sz + ys.length)).toArray = D
 have hDs : D.size = C.size := by
  subst hD
  simp only [List.size_toArray, List.length_append, List.length_take, List.length_drop, Array.length_toList]; omega
 have hvl := hv.len
 have husl : us.length = m * sz := by rw [hus, List.length_take, List.length_drop]; omega
 have hcr : CR Φ D (en.base + off) (us ++ vs) := by
  intro i a hi
  subst hD
  have e1 : (C.toList.take (en.base + off + m * sz)).length = en.base + off + m * sz := by rw [List.length_take, Array.length_toList]; omega
  simp only [List.getElem?_toArray, List.append_assoc]
  rw [List.getElem?_append, e1]
  rw [List.getElem?_append, husl] at hi
  by_cases h1 : i < m * sz
  ·rw [if_pos h1, hus, List.getElem?_take, if_pos h1, List.getElem?_drop] at hi
   obtain ⟨x, hx, hxr⟩ := br.cr _ a hi
   rw [if_pos (by omega), List.getElem?_take, if_pos (by omega)]
   refine ⟨x, ?_, hxr⟩
   rw [← hx, Nat.add_assoc]; simp
  ·rw [if_neg h1] at hi
   rw [if_neg (by omega), List.getElem?_append, if_pos (by have := (List.getElem?_eq_some_iff.1 hi).1; omega)]
   rw [show en.base + off + i - (en.base + off + m * sz) = i - m * sz by omega]
   exact hv.at hi
 refine ⟨ext Φ h.n ⟨en.g, en.base + off, en.k - off⟩, fun g => if g = en.g then .own h.n else τ g, ?_, ⟨hlim, ?_, ?_⟩, ⟨rfl, rfl, rfl, by simp [World.setRow], Sub.ext hf, ?_, ?_⟩⟩
 ·have := Rv.msl (id := h.n) (off := 0) (z := sz) (cap := none) (e := ⟨en.g, en.base + off, en.k - off⟩) (c := c) (Q3 Φ h.n _) hc hcm (by show 0 + c * sz ≤ en.k - off; omega) trivial
  simpa using this
 ·intro i b' hi hb'
  have hi : i < h.n + 1 := hi
  have hb' : get5 i (set5 h.n (some ⟨el, false, false, us ++ vs, .row⟩) (putB h id none).t) = some b' := hb'
  rw [Zk _ _ _ _ (by omega) hlim] at hb'
  by_cases e : i = h.n
  ·rw [if_pos e] at hb'
   cases hb'
   subst e
   refine .inl ⟨⟨en.g, en.base + off, en.k - off⟩, D, T, Q3 _ _ _, ?_, rfl, br.ty.trans hbt, ⟨(0, 0), hnew D, fun _ => rfl⟩, ?_, ?_, (fun hx => by cases hx), hcr.mono (Sub.ext hf)⟩
   ·show (if en.g = en.g then Lab.own h.n else τ en.g) = _
    rw [if_pos rfl]; rfl
   ·show D.size = en.base + off + (en.k - off)
    rw [hDs]; omega
   ·show (us ++ vs).length ≤ en.k - off
    rw [List.length_append, husl, ← hvl, hyl]; omega
  ·rw [if_neg e, qd r hid (by omega)] at hb'
   split at hb'
   ·cases hb'
   ·rename_i hne
    obtain ⟨en2, _, _, hl2, k⟩ := (r.blk i b' (by omega) hb').at_
    have hg2 : en2.g ≠ en.g := by
     intro hg
     have h2 := hl2
     rw [hg, hlab] at h2
     split at h2
     ·cases h2
     ·cases h2; exact hne rfl
    exact k (Sub.ext hf) (setRow_other w en.g _ D hg2) (if_neg hg2)
 ·intro i hi h5
  have hi : h.n + 1 ≤ i := hi
  show get5 i (set5 h.n (some ⟨el, false, false, us ++ vs, .row⟩) (putB h id none).t) = none
  rw [Zk _ _ _ _ h5 hlim, if_neg (by omega)]
  exact Jfu r hid (by omega) h5
 ·intro i hi
  unfold Ev.ext
  rw [if_neg (by omega)]
 ·intro g hg hk
  have hne : g ≠ en.g := by
   rintro rfl
   have := (hk id hlab).1 hid
   rw [hb] at this; cases this
  refine ⟨setRow_other w en.g g D hne, ?_⟩
  show (if g = en.g then Lab.own h.n else τ g) = τ g
  rw [if_neg hne]
end
end Go.Ev
namespace Go.Ev
set_option linter.unusedVariables false
set_option linter.unusedSimpArgs false
open Go Go.Wf Go.RowKit
section
variable {P : Program} {f : Fr} {v : AV} {h h' : Hp} {Φ : Phi} {τ : Tau} {w w' : World}
theorem Jj3 {w w' : World} (h : w'.heap = w.heap) (a : Addr) : w'.cell? a = w.cell? a := by unfold World.cell?; rw [h]
def SlTy (P : Program) (t : TypeId) : Prop := P.underlying t = some .string ∨ ∃ e, P.underlying t = some (.slice e)
theorem Jtp {sz : Nat} {x : AV} {k : Nat → List AV → Res} (e : srcK h sz x k = .ok v h') : ∃ n vs, 0 < n ∧ k n vs = .ok v h' ∧
  ∀ (Φ : Phi) (τ : Tau) (w : World) (y : Value) (t' : TypeId), Rv Φ x y → Rel Φ τ h w → SlTy P t' → ∃ ys, ys.length = n * sz ∧ RvL Φ vs ys ∧ SrcW P t' w sz n y ys := by
 unfold srcK at e
 split at e
 ·rename_i id off n z cap
  obtain ⟨hc, e0⟩ := recB e
  clear e
  obtain ⟨h1, h2⟩ := Zj hc
  have := Nat.eq_of_beq_eq_true h1
  subst this
  obtain ⟨b, hid, hb, hrow, e⟩ := Jbj e0
  clear e0
  rcases Jca (dr b.cs off) (Nat.mul n z) (k n) with ⟨e2, hl⟩ | ⟨m, e2⟩
  ·rw [e2, xv] at e
   rw [xv] at hl
   refine ⟨n, _, Yb h2, e, fun Φ τ w y t' hr hR ht => ?_⟩
   obtain ⟨en, c, hen, rfl, _⟩ := hr.slI
   obtain ⟨e', C, T, br⟩ := (hR.blk id b hid hb).row hrow
   have := br.ent
   rw [hen] at this; cases this
   obtain ⟨ys, k1, k2, k3⟩ := br.cells off (n * z) hl
   refine ⟨ys, k1, k2, ht, fun w' => rfl, fun w' hw => ?_⟩
   exact run_firstCells_some (P := P) w' z n _ n c ys k1 fun j u hj => by rw [Jj3 hw, Addr.add_lit]; exact k3 j u hj
  ·rw [e2] at e; cases e
 ·rename_i l
  obtain ⟨hc, e0⟩ := recB e
  clear e
  have e := e0
  clear e0
  obtain ⟨h1, h2⟩ := Zj hc
  have := Nat.eq_of_beq_eq_true h1
  subst this
  rw [Xk, Vn, List.append_nil] at e
  have h2 := Yb h2
  rw [X2] at e h2
  refine ⟨_, _, h2, e, fun Φ τ w y t' hr hR ht => ?_⟩
  obtain ⟨hl, rfl⟩ := hr.sI
  have hsize : (⟨(l.map UInt8.ofNat).toArray⟩ : ByteArray).size = l.length := by simp [ByteArray.size]
  refine ⟨l.map fun c => .int .u8 (Int.ofNat c), by simp, ?_, ht, fun w' => ?_, fun w' hw => ?_⟩
  ·rw [Jld]
   refine RvL.mk (by simp) fun i a u ha hu => ?_
   rw [List.getElem?_map] at ha hu
   cases hli : l[i]? with
   | none => rw [hli] at ha; cases ha
   | some c => rw [hli] at ha hu; cases ha; cases hu; exact Rv.mi
  ·simp [str, Builtin.lenOf, hsize]
  ·have hcs : (l.map UInt8.ofNat).map (fun b : UInt8 => Value.int .u8 (b.toNat : Int)) = l.map fun c => Value.int .u8 (Int.ofNat c) := by
    rw [List.map_map]
    apply List.map_congr_left
    intro c hc
    simp [Nat.mod_eq_of_lt (hl c hc)]
   have hex : (⟨(l.map UInt8.ofNat).toArray⟩ : ByteArray).extract 0 l.length = ⟨(l.map UInt8.ofNat).toArray⟩ := by
    have := j5 (l.map UInt8.ofNat) 0 l.length
    rw [List.drop_zero, List.take_of_length_le (by simp)] at this
    exact this
   have hq : (Builtin.firstCells 1 l.length (str (l.map UInt8.ofNat))).run P w' = .ok ((⟨(l.map UInt8.ofNat).toArray⟩ : ByteArray).data.map fun b => Value.int .u8 (b.toNat : Int)) w' := by
    simp only [str, Builtin.firstCells, hex, Sem.run_pure]
   rw [hq]
   congr 1
   apply Array.ext'
   rw [← hcs]; simp
 ·cases e
theorem Jmp {x : AV} (hx : Je2 x = true) {Φ : Phi} {y : Value} {t' : TypeId} {sz : Nat} (hr : Rv Φ x y) (ht : SlTy P t') : SrcW P t' w sz 0 y [] := by
 have key : ∀ (a : Option Addr) (c : Nat), SrcW P t' w sz 0 (.slice a 0 c) [] := fun a c => ⟨ht, fun w' => rfl, fun w' _ => by cases a <;> simp [Builtin.firstCells, loadCells, loadCellsFrom]⟩
 unfold Je2 at hx
 split at hx
 ·simp only [Rv] at hr; subst hr; exact key _ _
 ·simp only [Rv] at hr; obtain ⟨a, c, rfl⟩ := hr; exact key _ _
 ·obtain ⟨_, c, _, rfl, _⟩ := hr.slI; exact key _ _
 ·obtain ⟨_, rfl⟩ := hr.sI
  exact ⟨ht, fun w' => rfl, fun w' _ => by simp [str, Builtin.firstCells]⟩
 ·cases hx
theorem Jd7 {el sz : Nat} {h0 : Hp} {m n : Nat} {us vs : List AV} (he : Q8 P el sz h0 m n us vs = .ok v h') : h'.n = h0.n + 1 ∧ h0.n < big5 ∧ m + n ≤ 1000000 ∧ (∀ z sz by_, Zi P el = some (z, sz, by_) → by_ ≤ 65536) := by
 unfold Q8 at he
 obtain ⟨h1, h2, he⟩ := yr he
 rw [Vn] at he
 obtain ⟨hb, he⟩ := V1 he
 obtain ⟨rfl, rfl⟩ := Jx he
 exact ⟨rfl, hb, h1, h2⟩
theorem Jd5 {el sz : Nat} {h0 : Hp} {m n : Nat} {us vs : List AV} (he : Q8 P el sz h0 m n us vs = .ok v h') : Grow h0 h' := by
 unfold Q8 at he
 obtain ⟨h1, h2, he⟩ := yr he
 rw [Vn] at he
 obtain ⟨hb, he⟩ := V1 he
 obtain ⟨rfl, rfl⟩ := Jx he
 exact Grow.new hb
theorem Jv5 {u : Value} {id off n sz : Nat} {cap : Option Nat} {b : Blk} (hr : Rv Φ (.sl id off n sz cap) u) (hR : Rel Φ τ h w) (hid : id < h.n) (hb : get5 id h.t = some b) (hrow : b.ob = .row) (hl : n * sz ≤ (b.cs.drop off).length) :
  ∃ A c ys, u = .slice (some A) n c ∧ ys.length = n * sz ∧ RvL Φ ((b.cs.drop off).take (n * sz)) ys ∧ ∀ j y, ys[j]? = some y → w.cell? (A.add j) = some y := by
 obtain ⟨en, c, hen, rfl, _⟩ := hr.slI
 obtain ⟨e', C, T, br⟩ := (hR.blk id b hid hb).row hrow
 have := br.ent
 rw [hen] at this; cases this
 obtain ⟨ys, h1, h2, h3⟩ := br.cells off (n * sz) hl
 exact ⟨_, c, ys, rfl, h1, h2, fun j y hj => by rw [Addr.add_lit]; exact h3 j y hj⟩
def MvB (P : Program) (op : Op) (f : Fr) (v : AV) (h h' : Hp) : Prop := (h.n ≤ big5 → Grow h h') ∧
  ∀ (Φ : Phi) (τ : Tau) (F : Wf.Fr) (w : World) (dst : Option Tmp) (ty : TypeId) (pos : String) (after : Array Edge) (gd : Option (Nat × Bool)), FR Φ f F → Rel Φ τ h w → Fre Φ h.n h'.n →
  St P (fe F) ⟨dst, op, ty, pos, after, gd⟩ w (fun x w' => ∃ Φ' τ', Rv Φ' v x ∧ Rel Φ' τ' h' w' ∧ Tw Φ τ h w Φ' τ' h'.n w') KF
theorem Jgr {ts : Array TypeId} {args : Array Operand} (e : Vq P ts.toList (opds f args.toList) h = .ok v h') : MvB P (.call { callee := .builtin .append, args := args, argTypes := ts }) f v h h' := by
 unfold Vq at e
 split at e
 ·rename_i t t' s x hts hxs
  obtain ⟨a, b, hal, ha, hb⟩ := two hxs
  have hargs : args = #[a, b] := by apply Array.ext'; rw [hal]
  subst hargs
  have hts' : ts = #[t, t'] := by apply Array.ext'; rw [hts]
  subst hts'
  split at e
  ·cases e
  ·rename_i el hel
   split at e
   ·rename_i sz zc hsz hzc
    obtain ⟨hc, e0⟩ := recB e
    clear e
    obtain ⟨hc, hzl⟩ := Zj hc
    obtain ⟨hpos, htt⟩ := Zj hc
    have hpos : 0 < sz := Yb hpos
    have hu := yo hel
    have htt : SlTy P t' := by
     rcases Bool.or_eq_true_iff.1 htt with h1 | h1
     ·have := Nat.eq_of_beq_eq_true h1; subst this; exact .inr ⟨el, hu⟩
     ·exact .inl (Vj (Zj h1).1)
    have hzl := Nat.eq_of_beq_eq_true hzl
    obtain ⟨zv, sz', by_, hinf, rfl⟩ := Jbb hzc
    obtain ⟨zv2, by2, hinf2⟩ := Q6 hsz
    rw [hinf] at hinf2
    simp only [Option.some.injEq, Prod.mk.injEq] at hinf2
    obtain ⟨rfl, rfl, rfl⟩ := hinf2
    rw [X2, List.length_map, Array.length_toList] at hzl
    obtain ⟨inf, hi', hz, hs, hby⟩ := Jq hinf
    rw [za] at e0
    split at e0
    ·
     rename_i hE
     have fin : ∀ {s' : AV}, opd f a = s' → (s' = .ns ∨ ∃ id off n z cap, s' = .sl id off n z cap) → Res.ok s' h = .ok v h' → MvB P (.call { callee := .builtin .append, args := #[a, b], argTypes := #[t, t'] }) f v h h' := by
      intro s' hs' hk he
      obtain ⟨rfl, rfl⟩ := Jx he
      refine ⟨fun _ => Grow.refl _, fun Φ τ F w dst ty pos after gd hF hR hFr => ?_⟩
      have hra := Jc hF a
      have hrb := Jc hF b
      rw [hs'] at hra
      rw [hb] at hrb
      have S := Jmp (P := P) (w := w) (sz := inf.size) hE hrb htt
      refine St.appendRun (x := fe F a) (w' := w) ?_ ⟨Φ, τ, hra, hR, Tw.refl _ _ _ _ _⟩
      rcases hk with rfl | ⟨id, off, n, z, cap, rfl⟩
      ·simp only [Rv] at hra
       exact yd hu hi' hra (Nat.le_refl _) S
      ·obtain ⟨en, c, _, hv, hn, _⟩ := hra.slI
       exact yd hu hi' hv hn S
     split at e0
     ·exact fin ha (.inl rfl) e0
     ·exact fin ha (.inr ⟨_, _, _, _, _, rfl⟩) e0
     ·cases e0
    ·obtain ⟨n, vs, hn, e1, hsrc⟩ := Jtp (P := P) e0
     clear e0
     cases s with
     | ns =>
      have e2 : Q8 P el sz' h 0 n [] vs = .ok v h' := e1
      clear e1
      have hg := Jd5 e2
      obtain ⟨hn1, hlim, hmn, hbb⟩ := Jd7 e2
      refine ⟨fun _ => hg, fun Φ τ F w dst ty pos after gd hF hR hFr => ?_⟩
      have hra := Jc hF a
      have hrb := Jc hF b
      rw [ha] at hra
      rw [hb] at hrb
      simp only [Rv] at hra
      obtain ⟨ys, hyl, hyr, S⟩ := hsrc Φ τ w _ t' hrb hR htt
      have hby' := hbb _ _ _ hinf
      have hnb : n * by_ ≤ 1000000 * 65536 := Nat.mul_le_mul (by omega) hby'
      rw [← hs] at S
      have hrun := Jgf (P := P) (w := w) (ty := ty) hu hi' hz S hn (by omega) (by rw [hby]; omega)
      have hge := grownCap_ge w n 0 el
      have hgm := grownCap_le_maxLen w n 0 el (by unfold maxLen; omega)
      obtain ⟨_, Φ', τ', k1, k2, k3⟩ := Jdn (G := grownCap w n 0 el) (z := zv) (by_ := by_) (xs := []) e2 hR (hFr _ (Nat.le_refl _) (by omega)) (by simp only [RvL]) hyr (by simp) hyl hzl (by omega) hgm rfl (Wn.drew w _)
      refine St.appendRun (w' := w.drew.alloc (.cells (ys.toArray ++ Builtin.zeroCells zv.cells (grownCap w n 0 el - n)) el)) (by rw [hra]; exact hrun) ⟨Φ', τ', ?_, ?_, ?_⟩
      ·simpa using k1
      ·simpa using k2
      ·simpa using k3
     | sl id off m z cap =>
      unfold apTo at e1
      obtain ⟨hzz, e2⟩ := recB e1
      clear e1
      have hzz := Nat.eq_of_beq_eq_true hzz
      subst hzz
      cases cap with
      | some c0 =>
       simp only at e2
       rw [za] at e2
       split at e2
       ·
        rename_i hfit
        have hfit : m + n ≤ c0 := Nat.le_of_ble_eq_true hfit
        obtain ⟨b1, hid1, hb1, hrow1, hro, hsc, hle, e3⟩ := Jwk e2
        clear e2
        obtain ⟨hmn, hbb, e4⟩ := yr e3
        clear e3
        obtain ⟨rfl, rfl⟩ := Jx e4
        refine ⟨fun hl => Grow.put hl hid1 hb1, fun Φ τ F w dst ty pos after gd hF hR hFr => ?_⟩
        have hra := Jc hF a
        have hrb := Jc hF b
        rw [ha] at hra
        rw [hb] at hrb
        obtain ⟨ys, hyl, hyr, S⟩ := hsrc Φ τ w _ t' hrb hR htt
        obtain ⟨en, c1, hen, hv, q1, q2, q3, q4⟩ := hra.slI
        have : c1 = c0 := q4
        subst this
        obtain ⟨e', C, T, br⟩ := (hR.blk id b1 hid1 hb1).row hrow1
        have := br.ent
        rw [hen] at this; cases this
        have hvl := hyr.len
        obtain ⟨g1, g2⟩ := hR.wr hid1 hb1 br hro hyr hle
        have hble := br.le
        have hbs := br.size
        have hle' : off + m * z + vs.length ≤ b1.cs.length := hle
        rw [← hs] at S
        have hrun := qb (P := P) (w := w) (ty := ty) hu hi' (g := en.g) (o := en.base + off) (sLen := m) (sCap := c1) (br.obj0 hro) S (fun u hu => by have := qh hsc hyr; exact List.all_eq_true.1 this u hu) hfit (by rw [hs]; omega)
        rw [hs] at hrun
        refine St.appendRun (by rw [hv]; exact hrun) ⟨Φ, τ, ?_, ?_, ?_⟩
        ·exact Rv.msl hen hfit q2 q3 rfl
        ·rw [Nat.add_assoc en.base off]; exact g1
        ·rw [Nat.add_assoc en.base off]; exact g2
       ·
        rename_i hfit
        have hfit : c0 < m + n := by
         rcases Nat.lt_or_ge c0 (m + n) with h | h
         ·exact h
         ·exact absurd (Nat.ble_eq_true_of_le h) hfit
        obtain ⟨b1, hid1, hb1, hrow1, e3⟩ := Jbj e2
        clear e2
        rcases Jca (dr b1.cs off) (Nat.mul m z) (fun us => Q8 P el z h m n us vs) with ⟨e4, hl⟩ | ⟨q, e4⟩
        ·rw [e4] at e3
         rw [xv] at e3 hl
         have hg := Jd5 e3
         obtain ⟨hn1, hlim, hmn, hbb⟩ := Jd7 e3
         refine ⟨fun _ => hg, fun Φ τ F w dst ty pos after gd hF hR hFr => ?_⟩
         have hra := Jc hF a
         have hrb := Jc hF b
         rw [ha] at hra
         rw [hb] at hrb
         obtain ⟨ys, hyl, hyr, S⟩ := hsrc Φ τ w _ t' hrb hR htt
         obtain ⟨A1, c1, xs, hv, hxl, hxr, hxc⟩ := Jv5 hra hR hid1 hb1 hrow1 hl
         obtain ⟨en, c1', hen, hv', q1, q2, q3, q4⟩ := hra.slI
         have : c1' = c0 := q4
         subst this
         have hcc : c1 = c1' := by rw [hv] at hv'; cases hv'; rfl
         subst hcc
         have hby' := hbb _ _ _ hinf
         have hnb : (m + n) * by_ ≤ 1000000 * 65536 := Nat.mul_le_mul (by omega) hby'
         rw [← hs] at S
         have hrun := yu (P := P) (w := w) (ty := ty) hu hi' hz (b := A1) (sLen := m) (sCap := c1) (olds := xs) (by rw [hxl, hs]) hxc S hfit (by omega) (growslice_fits hfit (by rw [hby]; omega))
         have hge := grownCap_ge w (m + n) c1 el
         have hgm := grownCap_le_maxLen w (m + n) c1 el (by unfold maxLen; omega)
         obtain ⟨_, Φ', τ', k1, k2, k3⟩ := Jdn (G := grownCap w (m + n) c1 el) (z := zv) (by_ := by_) e3 hR (hFr _ (Nat.le_refl _) (by omega)) hxr hyr hxl hyl hzl (by omega) hgm rfl (Wn.drew w _)
         exact St.appendRun (by rw [hv]; exact hrun) ⟨Φ', τ', k1, k2, k3⟩
        ·rw [e4] at e3; cases e3
      | none =>
       obtain ⟨b1, hid1, hb1, hrow1, e3⟩ := Jbj e2
       clear e2
       obtain ⟨hc2, e4⟩ := recB e3
       clear e3
       obtain ⟨hc2, hbt⟩ := Zj hc2
       have hbt := Nat.eq_of_beq_eq_true hbt
       obtain ⟨hro, hsc⟩ := Zj hc2
       have hro := Jg3 hro
       rcases Jca (dr b1.cs off) (Nat.mul m z) (fun us => Q8 P el z (putB h id none) m n us vs) with ⟨e5, hl⟩ | ⟨q, e5⟩
       ·rw [e5] at e4
        rw [xv] at e4 hl
        have hg := Jd5 e4
        obtain ⟨hn1, hlim, hmn, hbb⟩ := Jd7 e4
        have hlim : h.n < big5 := hlim
        have hn1 : h'.n = h.n + 1 := hn1
        refine ⟨fun hl => (Grow.put hl hid1 hb1).trans hg, fun Φ τ F w dst ty pos after gd hF hR hFr => ?_⟩
        have hra := Jc hF a
        have hrb := Jc hF b
        rw [ha] at hra
        rw [hb] at hrb
        obtain ⟨ys, hyl, hyr, S⟩ := hsrc Φ τ w _ t' hrb hR htt
        obtain ⟨A1, c1, xs, hv, hxl, hxr, hxc⟩ := Jv5 hra hR hid1 hb1 hrow1 hl
        obtain ⟨en, c1', hen, hv', q1, q2, q3, q4⟩ := hra.slI
        have hcc : c1 = c1' := by rw [hv] at hv'; cases hv'; rfl
        subst hcc
        have hf : Φ h.n = none := hFr _ (Nat.le_refl _) (by omega)
        rw [← hs] at S
        by_cases hfit : m + n ≤ c1
        ·obtain ⟨e', C, T, br⟩ := (hR.blk id b1 hid1 hb1).row hrow1
         have := br.ent
         rw [hen] at this; cases this
         have hble := br.le
         have hbs := br.size
         have hmc : (m + n) * z ≤ c1 * z := Nat.mul_le_mul_right _ hfit
         rw [Nat.add_mul] at hmc
         have hl' : m * z ≤ (b1.cs.drop off).length := hl
         rw [List.length_drop] at hl'
         have hrun := qb (P := P) (w := w) (ty := ty) hu hi' (g := en.g) (o := en.base + off) (sLen := m) (sCap := c1) (br.obj0 hro) S (fun u hu => by
          have := qh hsc hyr; exact List.all_eq_true.1 this u hu) hfit (by rw [hs, hyl]; omega)
         rw [hs] at hrun
         obtain ⟨Φ', τ', k1, k2, k3⟩ := hR.stay (el := el) hid1 hb1 br hro hbt hlim hf rfl hl hyr hyl hfit q2 q3
         unfold Q8 at e4
         obtain ⟨_, _, e6⟩ := yr e4
         clear e4
         rw [Vn] at e6
         obtain ⟨_, e7⟩ := V1 e6
         clear e6
         obtain ⟨rfl, rfl⟩ := Jx e7
         exact St.appendRun (by rw [hv']; exact hrun) ⟨Φ', τ', k1, k2, k3⟩
        ·have hfit : c1 < m + n := by omega
         have hby' := hbb _ _ _ hinf
         have hnb : (m + n) * by_ ≤ 1000000 * 65536 := Nat.mul_le_mul (by omega) hby'
         have hrun := yu (P := P) (w := w) (ty := ty) hu hi' hz (b := A1) (sLen := m) (sCap := c1) (olds := xs) (by rw [hxl, hs]) hxc S hfit (by omega) (growslice_fits hfit (by rw [hby]; omega))
         have hge := grownCap_ge w (m + n) c1 el
         have hgm := grownCap_le_maxLen w (m + n) c1 el (by unfold maxLen; omega)
         obtain ⟨_, Φ', τ', k1, k2, k3⟩ := Jdn (G := grownCap w (m + n) c1 el) (z := zv) (by_ := by_) e4 (hR.kill hid1) hf hxr hyr hxl hyl hzl (by omega) hgm rfl (Wn.drew w _)
         exact St.appendRun (by rw [hv]; exact hrun) ⟨Φ', τ', k1, k2, k3.kill hR hid1⟩
       ·rw [e5] at e4; cases e4
     | _ => cases e1
   ·cases e
 ·cases e
end
end Go.Ev
namespace Go.Ev
set_option linter.unusedVariables false
set_option linter.unusedSimpArgs false
open Go Go.Wf Go.RowKit
section
variable {P : Program} {f : Fr} {v : AV} {h h' : Hp} {Φ : Phi} {τ : Tau} {w w' : World}
theorem EsR.at : ∀ {l : List En} {ms : List MapEntry} {i : Nat} {e : En}, EsR Φ l ms → l[i]? = some e → ∃ m, ms[i]? = some m ∧ EnR Φ e m := by
 intro l
 induction l with
 | nil => intro ms i e _ h; simp at h
 | cons a l ih =>
  rintro ms i e ⟨m, r, rfl, h1, h2⟩ hi
  cases i with
  | zero => simp at hi; subst hi; exact ⟨m, rfl, h1⟩
  | succ i => obtain ⟨m', h3, h4⟩ := ih h2 (by simpa using hi); exact ⟨m', by simpa using h3, h4⟩
theorem EsR.len : ∀ {l : List En} {ms : List MapEntry}, EsR Φ l ms → ms.length = l.length := by
 intro l
 induction l with
 | nil => intro ms h; have h : ms = [] := h; subst h; rfl
 | cons a l ih => rintro ms ⟨m, r, rfl, h1, h2⟩; simp [ih h2]
theorem EsR.app : ∀ {l : List En} {ms : List MapEntry} {e : En} {m : MapEntry}, EsR Φ l ms → EnR Φ e m → EsR Φ (l ++ [e]) (ms ++ [m]) := by
 intro l
 induction l with
 | nil => intro ms e m h hm; have h : ms = [] := h; subst h; exact ⟨m, [], rfl, hm, rfl⟩
 | cons a l ih => rintro ms e m ⟨m', r, rfl, h1, h2⟩ hm; exact ⟨m', r ++ [m], rfl, h1, ih h2 hm⟩
theorem OR.map {id : Nat} {b : Blk} {es : List En} {c : Nat} (r : Kg Φ τ w id b) (hb : b.ob = .map es c) : ∃ e E, OR Φ τ w b e id (.map E.toArray c) ∧ EsR Φ es E := by
 obtain ⟨e, O, h⟩ := r.obj (by rw [hb]; rfl)
 have := h.ob
 rw [hb] at this
 obtain ⟨E, rfl, hE⟩ := this
 exact ⟨e, E, h, hE⟩
theorem Jf0 {t : TypeId} {x i : Operand} {ok : Bool} (e : xl P t x i ok f h = .ok v h') : h' = h ∧ Rd P (.lookup t x i ok) f v h := noOk e
theorem Jmm {t : TypeId} {ts : Array TypeId} {args : Array Operand} (hm : Jef P t = true) (hts : ts = #[t]) (e : Jj4 (opds f args.toList) h = .ok v h') : h' = h ∧ Rd P (.call { callee := .builtin .len, args := args, argTypes := ts }) f v h := noOk e
end
end Go.Ev
namespace Go.Ev
set_option linter.unusedVariables false
set_option linter.unusedSimpArgs false
open Go Go.Wf Go.RowKit
section
variable {P : Program} {f : Fr} {v : AV} {h h' : Hp} {Φ : Phi} {τ : Tau} {w w' : World}
def je (w : World) (g : Nat) (O : Obj) : World := { w with heap := w.heap.setIfInBounds g O }
theorem Jjm {g : Nat} {O O' : Obj} (h : w.heap[g]? = some O') (hn : ∀ c t f, O' ≠ .cells c t f := by intro _ _ _ h; cases h) : (setObj g O).run P w = .ok () (je w g O) := by
 cases O' with
 | cells c t f => exact absurd rfl (hn c t f)
 | _ => simp [setObj, Sem.run, h, je]
theorem Jfh {g : Nat} {O : Obj} (h : g < w.heap.size) : (je w g O).heap[g]? = some O := by simp [je, h]
theorem z7 {g k : Nat} {O : Obj} (h : k ≠ g) : (je w g O).heap[k]? = w.heap[k]? := by
 simp only [je, Array.getElem?_setIfInBounds]
 rw [if_neg (fun e => h e.symm)]
theorem kf {g : Nat} {O : Obj} : (je w g O).heap.size = w.heap.size := by simp [je]
theorem Rel.ob {id : Nat} {b b' : Blk} {en : Ent} {O O' : Obj} (r : Rel Φ τ h w) (hid : id < h.n) (hb : get5 id h.t = some b) (br : OR Φ τ w b en id O) (hro : b'.ro = false) (hO : ObR Φ b'.ob O') :
  Rel Φ τ (putB h id (some b')) (je w en.g O') ∧ Tw Φ τ h w Φ τ h.n (je w en.g O') :=
 r.turn (en := en) hid hb br.lab rfl rfl rfl kf (fun g hg => z7 hg) (.inr (.inl ⟨en, O', br.ent, br.lab, hro, br.base, Jfh br.lt, hO⟩))
theorem V6 {t : TypeId} {m k x : Operand} (e : Y1 P t m k x f h = .ok v h') : (h.n ≤ big5 → Grow h h') ∧ v = .u ∧
  ∀ (Φ : Phi) (τ : Tau) (F : Wf.Fr) (w : World), FR Φ f F → Rel Φ τ h w → ∃ w', (Instr.mapUpdate t (fe F m) (fe F k) (fe F x)).run P w = .ok () w' ∧ Rel Φ τ h' w' ∧ Tw Φ τ h w Φ τ h'.n w' := noOk e
theorem Mv.skip {op : Op} {g : Wf.Fr → Sem Unit} (hop : ∀ (F : Wf.Fr) (dst : Option Tmp) (ty : TypeId) (pos : String) (after : Array Edge) (gd : Option (Nat × Bool)), execOp (fe F) ⟨dst, op, ty, pos, after, gd⟩ = (do g F; pure .skip)) (e : (h.n ≤ big5 → Grow h h') ∧ v = .u ∧
  ∀ (Φ : Phi) (τ : Tau) (F : Wf.Fr) (w : World), FR Φ f F → Rel Φ τ h w → ∃ w', (g F).run P w = .ok () w' ∧ Rel Φ τ h' w' ∧ Tw Φ τ h w Φ τ h'.n w') : MvB P op f v h h' := by
 obtain ⟨e1, rfl, e3⟩ := e
 refine ⟨e1, fun Φ τ F w dst ty pos after gd hF hR _ => ?_⟩
 obtain ⟨w', r, r1, r2⟩ := e3 Φ τ F w hF hR
 unfold St
 rw [hop]
 simp only [Sem.run_bind, r, Result.andThen, Sem.run_pure]
 exact ⟨Φ, τ, by simp only [Rv], r1, r2⟩
theorem xf {t : TypeId} {m k x : Operand} (e : Y1 P t m k x f h = .ok v h') : MvB P (.mapUpdate t m k x) f v h h' := Mv.skip (fun _ _ _ _ _ _ => rfl) (V6 e)
theorem Jgj {t : TypeId} {m k x : Operand} (e : Y1 P t m k x f h = .ok v h') : MvB P (.insert t m k x) f v h h' := Mv.skip (fun _ _ _ _ _ _ => rfl) (V6 e)
theorem Mv.val {op : Op} {g : Wf.Fr → Sem Value} (hop : ∀ (F : Wf.Fr) (dst : Option Tmp) (ty : TypeId) (pos : String) (after : Array Edge) (gd : Option (Nat × Bool)), execOp (fe F) ⟨dst, op, ty, pos, after, gd⟩ = (do pure (.value (← g F)))) (e : (h.n ≤ big5 → Grow h h') ∧
  ∀ (Φ : Phi) (τ : Tau) (F : Wf.Fr) (w : World), FR Φ f F → Rel Φ τ h w → Fre Φ h.n h'.n → ∃ x w', (g F).run P w = .ok x w' ∧ ∃ Φ' τ', Rv Φ' v x ∧ Rel Φ' τ' h' w' ∧ Tw Φ τ h w Φ' τ' h'.n w') : MvB P op f v h h' := by
 obtain ⟨e1, e3⟩ := e
 refine ⟨e1, fun Φ τ F w dst ty pos after gd hF hR hFr => ?_⟩
 obtain ⟨x, w', r, r1⟩ := e3 Φ τ F w hF hR hFr
 unfold St
 rw [hop]
 simp only [Sem.run_bind, r, Result.andThen, Sem.run_pure]
 exact r1
theorem Jj5 {t : TypeId} {x : Operand} (e : Vh P t x f h = .ok v h') : MvB P (.range t x) f v h h' := by
 have key : ∀ {o : Ob} {O : Obj}, newB h (itB o) (fun id h => .ok (.p id 0) h) = .ok v h' → (∀ (Φ : Phi) (τ : Tau) (F : Wf.Fr) (w : World), FR Φ f F → Rel Φ τ h w → ∃ O, ObR Φ o O ∧ (Instr.range t (fe F x)).run P w = .ok (.pointer (some ⟨w.heap.size, 0, none⟩)) (w.alloc O)) → MvB P (.range t x) f v h h' := by
  intro o _ e hr
  obtain ⟨hb, e⟩ := V1 e
  obtain ⟨rfl, rfl⟩ := Jx e
  refine Mv.val (g := fun F => Instr.range t (fe F x)) (fun _ _ _ _ _ _ => rfl) ⟨fun _ => Grow.new hb, fun Φ τ F w hF hR hFr => ?_⟩
  obtain ⟨O, hO, hrun⟩ := hr Φ τ F w hF hR
  have hf := hFr h.n (Nat.le_refl _) (Nat.lt_succ_self _)
  obtain ⟨τ', r1, r2⟩ := hR.new (k := 0) hb hf (NB.obj (b := itB o) (g := w.heap.size) (k := 0) rfl hO) (Wn.alloc w O)
  exact ⟨_, _, hrun, _, τ', Rv.mp (Q3 _ _ _), r1, r2⟩
 unfold Vh at e
 split at e
 ·rename_i l hx
  obtain ⟨hs, e⟩ := recB e
  refine key (O := .stringIter ⟨(l.map UInt8.ofNat).toArray⟩ 0) e fun Φ τ F w hF hR => ?_
  have hr := Jc hF x
  rw [hx] at hr
  obtain ⟨hl, hv⟩ := hr.sI
  exact ⟨_, ⟨hl, rfl⟩, by rw [hv]; unfold str; simp [Instr.range, run_underlying (Vj hs)]⟩
 ·rename_i hx
  obtain ⟨hs, e⟩ := recB e
  obtain ⟨p, hp⟩ := Option.isSome_iff_exists.1 hs
  refine key (O := .mapIter none 0 #[] 0) e fun Φ τ F w hF hR => ?_
  have hr := Jc hF x
  rw [hx] at hr
  have hv : fe F x = .map none := by simpa only [Rv] using hr
  exact ⟨_, rfl, by rw [hv]; simp [Instr.range, run_underlying (Jj9 hp)]⟩
 ·rename_i m hx
  obtain ⟨hs, e⟩ := recB e
  obtain ⟨p, hp⟩ := Option.isSome_iff_exists.1 hs
  obtain ⟨b, es, c, hid, hb, hob, e⟩ := Jof e
  refine key (O := .mapIter none 0 #[] 0) e fun Φ τ F w hF hR => ?_
  have hr := Jc hF x
  rw [hx] at hr
  obtain ⟨en', hen, hv⟩ := hr.mpI
  obtain ⟨en, E, hO, hE⟩ := OR.map (hR.blk m b hid hb) hob
  have := hO.ent
  rw [hen] at this; cases this
  have hgo : (getObj en'.g).run P w = .ok (.map E.toArray c) w := by simp [getObj, Sem.run, hO.obj]
  exact ⟨_, ⟨en', hen, rfl⟩, by rw [hv]; simp [Instr.range, run_underlying (Jj9 hp), hgo]⟩
 ·cases e
theorem tp3 {Φ : Phi} {a b c : AV} {x y z : Value} (h1 : Rv Φ a x) (h2 : Rv Φ b y) (h3 : Rv Φ c z) : Rv Φ (.tp [a, b, c]) (.tuple #[x, y, z]) := by
 simp only [Rv]; exact ⟨[x, y, z], rfl, by simp only [RvL]; exact ⟨_, _, rfl, h1, _, _, rfl, h2, _, _, rfl, h3, rfl⟩⟩
theorem tp1 {Φ : Phi} {a : AV} {x : Value} (h1 : Rv Φ a x) : Rv Φ (.tp [a]) (.tuple #[x]) := by
 simp only [Rv]; exact ⟨[x], rfl, by simp only [RvL]; exact ⟨_, _, rfl, h1, rfl⟩⟩
theorem Jng {it : Operand} {st : Bool} (e : qi it st f h = .ok v h') : MvB P (.next it st) f v h h' := by
 unfold qi at e
 split at e
 ·rename_i id off hit
  obtain ⟨hoff, e1⟩ := recB e
  clear e
  have hoff := Nat.eq_of_beq_eq_true hoff
  subst hoff
  obtain ⟨b, hid, hb, e⟩ := Ju3 e1
  clear e1
  have stay : h' = h → (∀ (Φ : Phi) (τ : Tau) (F : Wf.Fr) (w : World) (ty : TypeId), FR Φ f F → Rel Φ τ h w → ∃ x, (Instr.next (fe F it) st ty).run P w = .ok x w ∧ Rv Φ v x) → MvB P (.next it st) f v h h' := by
   rintro rfl hs
   refine ⟨fun _ => Grow.refl _, fun Φ τ F w dst ty pos after gd hF hR _ => ?_⟩
   obtain ⟨x, r, hv⟩ := hs Φ τ F w ty hF hR
   unfold St
   have hop : execOp (fe F) ⟨dst, .next it st, ty, pos, after, gd⟩ = (do pure (.value (← Instr.next (fe F it) st ty))) := rfl
   rw [hop]
   simp only [Sem.run_bind, r, Result.andThen, Sem.run_pure]
   exact ⟨Φ, τ, hv, hR, Tw.refl _ _ _ _ _⟩
  split at e
  ·rename_i l pos hob
   obtain ⟨hst, e1⟩ := recB e
   clear e
   subst hst
   have e := e1
   clear e1
   have obj : ∀ {Φ : Phi} {τ : Tau} {F : Wf.Fr} {w : World}, FR Φ f F → Rel Φ τ h w → ∃ en, Φ id = some en ∧ fe F it = .pointer (some ⟨en.g, 0, none⟩) ∧ (∀ n ∈ l, n < 256) ∧ OR Φ τ w b en id (.stringIter ⟨(l.map UInt8.ofNat).toArray⟩ pos) := by
    intro Φ τ F w hF hR
    have hr := Jc hF it
    rw [hit] at hr
    obtain ⟨en, hen, hv⟩ := hr.pI
    obtain ⟨e', O, hO⟩ := (hR.blk id b hid hb).obj (by rw [hob]; rfl)
    have := hO.ent
    rw [hen] at this; cases this
    have h2 := hO.ob
    rw [hob] at h2
    obtain ⟨hl, rfl⟩ := h2
    rw [hO.base] at hv
    exact ⟨en, hen, hv, hl, hO⟩
   have hsize : (⟨(l.map UInt8.ofNat).toArray⟩ : ByteArray).size = l.length := by simp [ByteArray.size]
   unfold Jje at e
   rw [V5] at e
   split at e
   ·rename_i hn
    obtain ⟨rfl, rfl⟩ := Jx e
    refine stay rfl fun Φ τ F w ty hF hR => ?_
    obtain ⟨en, hen, hv, hl, hO⟩ := obj hF hR
    have hge := List.getElem?_eq_none_iff.1 hn
    refine ⟨.tuple #[.bool false], ?_, tp1 Rv.mb⟩
    rw [hv]
    have : ¬ pos < l.length := by omega
    simp [Instr.next, getObj, Sem.run, hO.obj, hsize, this]
   ·rename_i c hc
    obtain ⟨h128, e⟩ := recB e
    have h128 := Yb h128
    rw [Xk] at e
    obtain ⟨rfl, rfl⟩ := Jx e
    refine ⟨fun hl => Grow.put hl hid hb, fun Φ τ F w dst ty pos' after gd hF hR _ => ?_⟩
    obtain ⟨en, hen, hv, hl, hO⟩ := obj hF hR
    obtain ⟨r1, r2⟩ := hR.ob (b' := itB (.sit l (pos + 1))) (O' := .stringIter ⟨(l.map UInt8.ofNat).toArray⟩ (pos + 1)) hid hb hO rfl ⟨hl, rfl⟩
    have hlt := (List.getElem?_eq_some_iff.1 hc).1
    have hlt' : pos < (⟨(l.map UInt8.ofNat).toArray⟩ : ByteArray).size := by rw [hsize]; exact hlt
    have hget : ((⟨(l.map UInt8.ofNat).toArray⟩ : ByteArray)[pos]'hlt').toNat = c := by
     have h9 : (l.map UInt8.ofNat).toArray[pos]? = some (UInt8.ofNat c) := by simp [hc]
     have h8 : (⟨(l.map UInt8.ofNat).toArray⟩ : ByteArray)[pos]'hlt' = UInt8.ofNat c := (Array.getElem?_eq_some_iff.1 h9).2
     rw [h8]; exact u8n (by omega)
    have hdec := decode_ascii ⟨(l.map UInt8.ofNat).toArray⟩ pos hlt' (by rw [hget]; exact h128)
    rw [hget] at hdec
    have hst := Jjm (P := P) (O := .stringIter ⟨(l.map UInt8.ofNat).toArray⟩ (pos + 1)) hO.obj
    have hgo : (getObj en.g).run P w = .ok (.stringIter ⟨(l.map UInt8.ofNat).toArray⟩ pos) w := by simp [getObj, Sem.run, hO.obj]
    unfold St
    have hop : execOp (fe F) ⟨dst, .next it true, ty, pos', after, gd⟩ = (do pure (.value (← Instr.next (fe F it) true ty))) := rfl
    have hrun : (Instr.next (fe F it) true ty).run P w = .ok (.tuple #[.bool true, .int .i64 (Int.ofNat pos), .int .i32 (Int.ofNat c)]) (je w en.g (.stringIter ⟨(l.map UInt8.ofNat).toArray⟩ (pos + 1))) := by
     rw [hv]
     simp only [Instr.next, Sem.run_bind, hgo, Result.andThen, hlt', if_true, hdec, hst]
     rfl
    rw [hop]
    simp only [Sem.run_bind, hrun, Result.andThen, Sem.run_pure]
    exact ⟨Φ, τ, tp3 Rv.mb Rv.mi Rv.mi, r1, r2⟩
  ·rename_i s0 sn ls hob
   rw [za] at e
   split at e
   ·cases e
   ·rename_i hst
    have hst : st = false := by simpa using hst
    subst hst
    obtain ⟨rfl, rfl⟩ := Jx e
    refine stay rfl fun Φ τ F w ty hF hR => ?_
    have hr := Jc hF it
    rw [hit] at hr
    obtain ⟨en, hen, hv⟩ := hr.pI
    obtain ⟨e', O, hO⟩ := (hR.blk id b hid hb).obj (by rw [hob]; rfl)
    have := hO.ent
    rw [hen] at this; cases this
    have h2 := hO.ob
    rw [hob] at h2
    have h2 : O = .mapIter none s0 sn.toArray ls := h2
    subst h2
    rw [hO.base] at hv
    refine ⟨.tuple #[.bool false], ?_, tp1 Rv.mb⟩
    rw [hv]
    simp [Instr.next, getObj, Sem.run, hO.obj]
  ·rename_i m s0 sn ls hob
   rw [za] at e
   split at e
   ·cases e
   ·rename_i hst
    have hst : st = false := by simpa using hst
    subst hst
    unfold Jjl at e
    obtain ⟨bm, es, c, hidm, hbm, hobm, e⟩ := Jof e
    split at e
    ·obtain ⟨rfl, rfl⟩ := Jx e
     refine stay rfl fun Φ τ F w ty hF hR => ?_
     have hr := Jc hF it
     rw [hit] at hr
     obtain ⟨en, hen, hv⟩ := hr.pI
     obtain ⟨e', O, hO⟩ := (hR.blk id b hid hb).obj (by rw [hob]; rfl)
     have := hO.ent
     rw [hen] at this; cases this
     have h2 := hO.ob
     rw [hob] at h2
     obtain ⟨em, hem, rfl⟩ := h2
     obtain ⟨em', E, hOm, hE⟩ := OR.map (hR.blk m bm hidm hbm) hobm
     have := hOm.ent
     rw [hem] at this; cases this
     have hE : E = [] := hE
     subst hE
     rw [hO.base] at hv
     refine ⟨.tuple #[.bool false], ?_, tp1 Rv.mb⟩
     rw [hv]
     simp [Instr.next, getObj, Sem.run, hO.obj, hOm.obj, choose, Question.forced]
    ·cases e
  ·cases e
 ·cases e
end
end Go.Ev
namespace Go.Ev
set_option linter.unusedVariables false
set_option linter.unusedSimpArgs false
open Go Go.Wf Go.RowKit
section
variable {P : Program} {f : Fr} {v : AV} {h h' : Hp} {Φ : Phi} {τ : Tau} {w w' : World}
theorem Jla {ts : Array TypeId} {args : Array Operand} (e : Jhe P ts.toList (opds f args.toList) h = .ok v h') : MvB P (.call { callee := .builtin .copy, args := args, argTypes := ts }) f v h h' := noOk e
theorem Jr1 {ts : Array TypeId} {args : Array Operand} (e : Jsr P ts.toList (opds f args.toList) h = .ok v h') : MvB P (.call { callee := .builtin .cap, args := args, argTypes := ts }) f v h h' := noOk e
theorem Jha {ts : Array TypeId} {args : Array Operand} (e : Jak (opds f args.toList) h = .ok v h') : MvB P (.call { callee := .builtin .unsafeSliceData, args := args, argTypes := ts }) f v h h' := noOk e
theorem Jk8 {ts : Array TypeId} {args : Array Operand} (e : Ji5 P ts.toList (opds f args.toList) h = .ok v h') : MvB P (.call { callee := .builtin .unsafeString, args := args, argTypes := ts }) f v h h' := noOk e
def ExK (P : Program) (k m : Nat) : Prop := ∃ fn e, P.funcs[k]? = some fn ∧ (fn.name == "runtime.NumGoroutine") = false ∧ fn.body.isNone = true ∧ Extern.findNext fn = none ∧ Extern.find fn = some e ∧
 ((m = 1 ∧ e = Extern.AbiNoEscape.same) ∨ (m = 2 ∧ e = Extern.BytealgMakeNoZero.makeNoZero fn.params fn.resultTypes ∧ ∃ t, fn.resultTypes = #[t]))
theorem Jpd {k m : Nat} {l : List AV} (hx : ExK P k m) (e : Jdw P k m l h = .ok v h') : (h.n ≤ big5 → Grow h h') ∧
  ∀ (Φ : Phi) (τ : Tau) (w : World) (vs : List Value), Rel Φ τ h w → Fre Φ h.n h'.n → RvL Φ l vs → ∃ x w', (callFunc k vs.toArray).run P w = .ok (.value x) w' ∧ ∃ Φ' τ', Rv Φ' v x ∧ Rel Φ' τ' h' w' ∧ Tw Φ τ h w Φ' τ' h'.n w' := noOk e
theorem Jsx {k m : Nat} {l : List AV} : Jdw P k m l h ≠ .pn v h' := fun e => by have e : Res.no 99 = .pn v h' := e; cases e
end
end Go.Ev
namespace Go.Ev
set_option linter.unusedVariables false
set_option linter.unusedSimpArgs false
open Go Go.Wf Go.RowKit
def hpR : Res → Hp → Hp
 | .ok _ h, _ => h
 | .pn _ h, _ => h
 | .no _, h => h
def okR : Res → Prop
 | .no _ => False
 | _ => True
def RetE (Φ : Phi) (τ : Tau) (h : Hp) (w : World) (r : Res) : Ending → World → Prop
 | .returned x, w' => ∃ v h', r = .ok v h' ∧ ∃ Φ' τ', Rv Φ' v x ∧ Rel Φ' τ' h' w' ∧ Tw Φ τ h w Φ' τ' h'.n w'
 | .panicked ch, w' => ∃ v h', r = .pn v h' ∧ ∃ x Φ' τ', ch = [{ v := x, recovered := false }] ∧ Rv Φ' v x ∧ Rel Φ' τ' h' w' ∧ Tw Φ τ h w Φ' τ' h'.n w'
 | .outgrown, _ => False
structure CallS (P : Program) (call : CallF) : Prop where
 ex : ∀ k, call.ex k ≠ 0 → ExK P k (call.ex k)
 run : ∀ k args h r, call.run k args h = r → okR r →
  (∃ fn, P.funcs[k]? = some fn ∧ (fn.name == "runtime.NumGoroutine") = false ∧ fn.body.isNone = false) ∧ (h.n ≤ big5 → Grow h (hpR r h)) ∧
  ∀ Φ τ w vs, Rel Φ τ h w → Fre Φ h.n (hpR r h).n → RvL Φ args vs → Calls P k vs.toArray w (RetE Φ τ h w r)
 rd : ∀ id args h r, call.rd id args h = r → okR r → ∃ v h', r = .ok v h' ∧ (h.n ≤ big5 → Grow h h') ∧
  ∀ Φ τ w vs e, Rel Φ τ h w → Fre Φ h.n h'.n → RvL Φ args vs → Φ id = some e → ∃ l g tmps as0 bo, (Instr.yield e.g vs.toArray).run P w = .ok (.round l g tmps as0 bo) w ∧
   RoundIn Fence.wide 0 P l g tmps as0 bo w fun en w' => ∃ x, en = .returned x ∧ ∃ Φ' τ', Rv Φ' v x ∧ Rel Φ' τ' h' w' ∧ Tw Φ τ h w Φ' τ' h'.n w'
def OpS (P : Program) (op : Op) (f : Fr) (h : Hp) (v : AV) (h' : Hp) : Prop := (h.n ≤ big5 → Grow h h') ∧
 ∀ (Φ : Phi) (τ : Tau) (F : Wf.Fr) (w : World) (dst : Option Tmp) (ty : TypeId) (pos : String) (after : Array Edge) (gd : Option (Nat × Bool)), FR Φ f F → Rel Φ τ h w → Fre Φ h.n h'.n →
  St P (fe F) ⟨dst, op, ty, pos, after, gd⟩ w (fun x w' => ∃ Φ' τ', Rv Φ' v x ∧ Rel Φ' τ' h' w' ∧ Tw Φ τ h w Φ' τ' h'.n w') KF
def OpP (P : Program) (op : Op) (f : Fr) (h : Hp) (v : AV) (h' : Hp) : Prop := (h.n ≤ big5 → Grow h h') ∧
 ∀ (Φ : Phi) (τ : Tau) (F : Wf.Fr) (w : World) (dst : Option Tmp) (ty : TypeId) (pos : String) (after : Array Edge) (gd : Option (Nat × Bool)), FR Φ f F → Rel Φ τ h w → Fre Φ h.n h'.n →
  St P (fe F) ⟨dst, op, ty, pos, after, gd⟩ w (fun _ _ => False) (fun ch w' => ∃ x Φ' τ', ch = [{ v := x, recovered := false }] ∧ Rv Φ' v x ∧ Rel Φ' τ' h' w' ∧ Tw Φ τ h w Φ' τ' h'.n w')
section
variable {P : Program} {call : CallF} {op : Op} {f f' : Fr} {v : AV} {h h' : Hp}
theorem Pu.opS (p : h' = h ∧ Pu P op f v) : OpS P op f h v h' := by
 obtain ⟨rfl, p⟩ := p
 refine ⟨fun _ => Grow.refl _, fun Φ τ F w dst ty pos after gd hF hR _ => (p Φ F w dst ty pos after gd hF).mono ?_ fun _ _ h => h⟩
 rintro x w' ⟨rfl, hv⟩
 exact ⟨Φ, τ, hv, hR, Tw.refl _ _ _ _ _⟩
theorem Rd.opS (p : h' = h ∧ Rd P op f v h) : OpS P op f h v h' := by
 obtain ⟨rfl, p⟩ := p
 refine ⟨fun _ => Grow.refl _, fun Φ τ F w dst ty pos after gd hF hR _ => (p Φ τ F w dst ty pos after gd hF hR).mono ?_ fun _ _ h => h⟩
 rintro x w' ⟨rfl, hv⟩
 exact ⟨Φ, τ, hv, hR, Tw.refl _ _ _ _ _⟩
theorem Qt.opS (p : Qt P op f v h h') : OpS P op f h v h' := ⟨fun _ => p.mv.1, p.mv.2⟩
theorem bifK {α : Type} {b : Bool} {x y z : α} (h : (bif b then x else y) = z) : (b = true ∧ x = z) ∨ (b = false ∧ y = z) := by cases b <;> simp at h <;> simp [h]
theorem vl {s d : TypeId} {x : Operand} {k : Kd} (hk : kdOf P (.convert s d x) = k) : (k = .pure ∧ cvKd P s d = 0) ∨ (k = .read ∧ cvKd P s d = 1) ∨ (k = .quiet ∧ cvKd P s d = 2) ∨ (k = .move ∧ 3 ≤ cvKd P s d) := by
 have hk : (match cvKd P s d with | 0 => Kd.pure | 1 => .read | 2 => .quiet | _ => .move) = k := hk
 match hc : cvKd P s d with
 | 0 => rw [hc] at hk; exact .inl ⟨hk.symm, rfl⟩
 | 1 => rw [hc] at hk; exact .inr (.inl ⟨hk.symm, rfl⟩)
 | 2 => rw [hc] at hk; exact .inr (.inr (.inl ⟨hk.symm, rfl⟩))
 | n + 3 => rw [hc] at hk; exact .inr (.inr (.inr ⟨hk.symm, by omega⟩))
theorem V3 {s d : TypeId} {x : Operand} {r : Res} (e : Vp P s d x f h = r) : (cvKd P s d = 0 → Qe P s d x f h = r) ∧ (cvKd P s d = 1 → vp P s d x f h = r) ∧ (cvKd P s d = 2 → Jad P s d x f h = r) ∧ (3 ≤ cvKd P s d → r = .no 17) := by
 unfold Vp at e
 refine ⟨fun hc => ?_, fun hc => ?_, fun hc => ?_, fun hc => ?_⟩
 ·rw [hc] at e; exact e
 ·rw [hc] at e; exact e
 ·rw [hc] at e; exact e
 ·split at e
  ·omega
  ·omega
  ·omega
  ·exact e.symm
theorem Jcd (hk : kdOf P op = .pure) (e : evOp P call op f h = .ok v h') : h' = h ∧ Pu P op f v := by
 rw [jm] at e
 cases op with
 | move x => exact ⟨(zg (P := P) e).1, (zg e).2.1⟩
 | assign x => exact ⟨(zg (P := P) e).1, (zg e).2.2⟩
 | pick c a b => exact Jk7 e
 | build t ps => exact Jin e
 | nilCheck x => exact Jbs e
 | binOp o t x y yt => exact Jrk e
 | unOp o t x => exact Jtz e
 | convert s d x =>
  rcases vl hk with ⟨_, hc⟩ | ⟨h1, _⟩ | ⟨h1, _⟩ | ⟨h1, _⟩
  ·exact Jix ((V3 (r := .ok v h') e).1 hc)
  ·cases h1
  ·cases h1
  ·cases h1
 | slice t x lo hi mx =>
  have hk : (bif qx P t then Kd.read else Kd.pure) = .pure := hk
  rcases bifK hk with ⟨_, h1⟩ | ⟨h1, _⟩
  ·cases h1
  ·exact (Jbo e).1 h1
 | fieldAddr s x i => exact xa e
 | field s x i => exact Jh2 e
 | index t x i => exact Jks e
 | indexAddr t x i => exact vg e
 | extract x i => exact Jcx e
 | makeFunc fn a b => exact Jb9 e
 | makeInterface t x => exact js e
 | typeAssert x xt at_ ok => exact qy e
 | call c =>
  obtain ⟨ce, args, ts⟩ := c
  cases ce with
  | value x => cases hk
  | invoke r m => cases hk
  | builtin b =>
   cases b <;> first | (cases hk; done) | exact Jss e | exact Jsp e | skip
   have hk : (bif xu P ts.toList then Kd.read else Kd.pure) = .pure := hk
   rcases bifK hk with ⟨_, h1⟩ | ⟨h1, _⟩
   ·cases h1
   ·have e : yf P ts.toList (opds f args.toList) h = .ok v h' := e
    unfold yf at e
    rw [h1] at e
    exact Jp9 e
 | _ => first | (cases hk; done) | cases e
theorem Jct (hk : kdOf P op = .read) (e : evOp P call op f h = .ok v h') : h' = h ∧ Rd P op f v h := by
 rw [jm] at e
 cases op with
 | load t a => exact Jft e
 | lookup t x i ok => exact Jf0 e
 | convert s d x =>
  rcases vl hk with ⟨h1, _⟩ | ⟨_, hc⟩ | ⟨h1, _⟩ | ⟨h1, _⟩
  ·cases h1
  ·exact Jkn ((V3 (r := .ok v h') e).2.1 hc)
  ·cases h1
  ·cases h1
 | slice t x lo hi mx =>
  have hk : (bif qx P t then Kd.read else Kd.pure) = .read := hk
  rcases bifK hk with ⟨h1, _⟩ | ⟨_, h1⟩
  ·exact (Jbo e).2 h1
  ·cases h1
 | call c =>
  obtain ⟨ce, args, ts⟩ := c
  cases ce with
  | value x => cases hk
  | invoke r m => cases hk
  | builtin b =>
   cases b <;> first | (cases hk; done) | skip
   have hk : (bif xu P ts.toList then Kd.read else Kd.pure) = .read := hk
   rcases bifK hk with ⟨h1, _⟩ | ⟨_, h1⟩
   ·have e : yf P ts.toList (opds f args.toList) h = .ok v h' := e
    unfold yf at e
    rw [h1] at e
    unfold xu at h1
    split at h1
    ·rename_i t hts
     exact Jmm h1 (by apply Array.ext'; rw [hts]) e
    ·cases h1
   ·cases h1
 | _ => first | (cases hk; done) | cases e
theorem Xi (hk : kdOf P op = .quiet) (e : evOp P call op f h = .ok v h') : Qt P op f v h h' := by
 rw [jm] at e
 cases op with
 | alloc t => exact Jhw e
 | box t x => exact Joz e
 | buildSlice t n ps => exact qu e
 | makeSlice t l c => exact vv e
 | makeMap t r => exact Jdr e
 | slice t x lo hi mx =>
  have hk : (bif qx P t then Kd.read else Kd.pure) = .quiet := hk
  rcases bifK hk with ⟨_, h1⟩ | ⟨_, h1⟩ <;> cases h1
 | convert s d x =>
  rcases vl hk with ⟨h1, _⟩ | ⟨h1, _⟩ | ⟨_, hc⟩ | ⟨h1, _⟩
  ·cases h1
  ·cases h1
  ·exact Jhs ((V3 (r := .ok v h') e).2.2.1 hc)
  ·cases h1
 | call c =>
  obtain ⟨ce, args, ts⟩ := c
  cases ce with
  | value x => cases hk
  | invoke r m => cases hk
  | builtin b =>
   cases b <;> first | (cases hk; done) | skip
   have hk : (bif xu P ts.toList then Kd.read else Kd.pure) = .quiet := hk
   rcases bifK hk with ⟨_, h1⟩ | ⟨_, h1⟩ <;> cases h1
 | _ => first | (cases hk; done) | cases e
theorem Jjr (l m : List AV) : appL l m = l ++ m := by
 induction l with
 | nil => rfl
 | cons a l ih => exact congrArg (a :: ·) ih
theorem MvB.opS (p : MvB P op f v h h') : OpS P op f h v h' := p
theorem Jjd {x : Operand} {args : Array Operand} {ts : Array TypeId} {r : Res} (hc : CallS P call) (e : Jv3 P call (.call { callee := .value x, args := args, argTypes := ts }) f h = r) (hr : okR r) :
  (∃ v h', r = .ok v h' ∧ OpS P (.call { callee := .value x, args := args, argTypes := ts }) f h v h') ∨ ∃ v h', r = .pn v h' ∧ OpP P (.call { callee := .value x, args := args, argTypes := ts }) f h v h' := by
 have e2 : (match opd f x with | .fn k cap => (Nat.rec (call.run k (appL (opds f args.toList) cap) h) (fun m _ => Jdw P k (Nat.succ m) (appL (opds f args.toList) cap) h) (call.ex k) : Res) | .yv id => call.rd id (opds f args.toList) h | _ => .no 37) = r := e
 clear e
 split at e2
 ·rename_i k cap hx
  cases hm : call.ex k with
  | zero =>
   rw [hm] at e2
   have e2 : call.run k (appL (opds f args.toList) cap) h = r := e2
   obtain ⟨⟨fn, hf, hn, hb⟩, hg, hs⟩ := hc.run _ _ _ _ e2 hr
   have ha : ∀ {Φ : Phi} {F : Wf.Fr}, FR Φ f F → ∃ cv : List Value, fe F x = .func (.func k) #[] cv.toArray ∧ RvL Φ (appL (opds f args.toList) cap) (args.toList.map (fe F) ++ cv) := by
    intro Φ F hF
    have hr := Jc hF x
    rw [hx] at hr
    obtain ⟨cv, hv, hcv⟩ := hr.fnI
    have hap := (Kz hF args.toList).app hcv
    rw [← Jjr] at hap
    exact ⟨cv, hv, hap⟩
   cases r with
   | no m => exact hr.elim
   | ok v h' =>
    refine .inl ⟨v, h', rfl, hg, fun Φ τ F w dst ty pos after gd hF hR hFr => ?_⟩
    obtain ⟨cv, hv, hap⟩ := ha hF
    refine St.callV hv hf hn hb rfl ((hs Φ τ w _ hR hFr hap).mono ?_)
    intro en w' hh
    cases en with
    | returned y => obtain ⟨v2, h2, e9, hh⟩ := hh; cases e9; exact hh
    | panicked ch => obtain ⟨v2, h2, e9, hh⟩ := hh; cases e9
    | outgrown => exact hh
   | pn v h' =>
    refine .inr ⟨v, h', rfl, hg, fun Φ τ F w dst ty pos after gd hF hR hFr => ?_⟩
    obtain ⟨cv, hv, hap⟩ := ha hF
    refine St.callV hv hf hn hb rfl ((hs Φ τ w _ hR hFr hap).mono ?_)
    intro en w' hh
    cases en with
    | returned y => obtain ⟨v2, h2, e9, hh⟩ := hh; cases e9
    | panicked ch => obtain ⟨v2, h2, e9, hh⟩ := hh; cases e9; exact hh
    | outgrown => exact hh
  | succ m =>
   rw [hm] at e2
   have e2 : Jdw P k (m + 1) (appL (opds f args.toList) cap) h = r := e2
   have hX := hc.ex k (by rw [hm]; omega)
   rw [hm] at hX
   cases r with
   | no m => exact hr.elim
   | pn v h' => exact absurd e2 Jsx
   | ok v h' =>
    obtain ⟨g, s⟩ := Jpd hX e2
    refine .inl ⟨v, h', rfl, g, fun Φ τ F w dst ty pos after gd hF hR hFr => ?_⟩
    have hr := Jc hF x
    rw [hx] at hr
    obtain ⟨cv, hv, hcv⟩ := hr.fnI
    have hap := (Kz hF args.toList).app hcv
    rw [← Jjr] at hap
    obtain ⟨y, w', q1, q2⟩ := s Φ τ w _ hR hFr hap
    unfold St
    have hrun : (execOp (fe F) ⟨dst, .call { callee := .value x, args := args, argTypes := ts }, ty, pos, after, gd⟩).run P w = .ok (.value y) w' := by
     have e3 : execOp (fe F) ⟨dst, .call { callee := .value x, args := args, argTypes := ts }, ty, pos, after, gd⟩ = (do let d ← Deferred.ofValue (fe F x) (args.map (fe F)); invoke d.target d.args) := rfl
     rw [e3, hv]
     have e4 : args.map (fe F) ++ cv.toArray = (args.toList.map (fe F) ++ cv).toArray := by apply Array.ext'; simp
     simp only [Deferred.ofValue, Sem.run_bind, Sem.run_pure, Result.andThen, invoke]
     simp only [Array.empty_append, e4]
     exact q1
    rw [hrun]
    exact q2
 ·rename_i id hx
  obtain ⟨v, h', rfl, g, s⟩ := hc.rd _ _ _ _ e2 hr
  refine .inl ⟨v, h', rfl, g, fun Φ τ F w dst ty pos after gd hF hR hFr => ?_⟩
  have hrx := Jc hF x
  rw [hx] at hrx
  simp only [Rv] at hrx
  obtain ⟨en, hen, hv⟩ := hrx
  obtain ⟨l, gf, tmps, as0, bo, q1, q2⟩ := s Φ τ w _ en hR hFr (Kz hF args.toList) hen
  unfold St
  have hrun : (execOp (fe F) ⟨dst, .call { callee := .value x, args := args, argTypes := ts }, ty, pos, after, gd⟩).run P w = .ok (.round l gf tmps as0 bo) w := by
   have e3 : execOp (fe F) ⟨dst, .call { callee := .value x, args := args, argTypes := ts }, ty, pos, after, gd⟩ = (do let d ← Deferred.ofValue (fe F x) (args.map (fe F)); invoke d.target d.args) := rfl
   rw [e3, hv]
   have e4 : args.map (fe F) = (args.toList.map (fe F)).toArray := by apply Array.ext'; simp
   simp only [Deferred.ofValue, Sem.run_bind, Sem.run_pure, Result.andThen, invoke]
   simp only [Array.empty_append, e4]
   exact q1
  rw [hrun]
  refine RoundIn.mono q2 ?_
  rintro e w' ⟨y, rfl, hh⟩
  exact hh
 ·subst e2; exact hr.elim
theorem Ja7 (hc : CallS P call) (e : evOp P call op f h = .ok v h') : OpS P op f h v h' := by
 cases hk : kdOf P op with
 | pure => exact Pu.opS (Jcd hk e)
 | read => exact Rd.opS (Jct hk e)
 | quiet => exact (Xi hk e).opS
 | move =>
  rw [jm] at e
  cases op with
  | store t a x =>
   obtain ⟨g, s⟩ := Jhx e
   refine ⟨g, fun Φ τ F w dst ty pos after gd hF hR _ => (s Φ τ F w dst ty pos after gd hF hR).mono ?_ fun _ _ h => h⟩
   rintro x w' ⟨h1, h2, h3⟩
   exact ⟨Φ, τ, h1, h2, h3⟩
  | mapUpdate t m k x => exact xf e
  | insert t m k x => exact Jgj e
  | range t x => exact Jj5 e
  | next it st => exact Jng e
  | call c =>
   obtain ⟨ce, args, ts⟩ := c
   cases ce with
   | invoke r m => cases e
   | builtin b =>
    cases b <;> first | (cases hk; done) | exact Jgr e | exact Jla e | exact Jr1 e | exact Jha e | exact Jk8 e | (cases e; done) | skip
    have hk : (bif xu P ts.toList then Kd.read else Kd.pure) = .move := hk
    rcases bifK hk with ⟨_, h1⟩ | ⟨_, h1⟩ <;> cases h1
   | value x =>
    rcases Jjd hc e trivial with ⟨v2, h2, e9, s⟩ | ⟨v2, h2, e9, s⟩
    ·cases e9; exact s
    ·cases e9
  | convert s d x =>
   rcases vl hk with ⟨h1, _⟩ | ⟨h1, _⟩ | ⟨h1, _⟩ | ⟨_, hc⟩
   ·cases h1
   ·cases h1
   ·cases h1
   ·have := (V3 (r := .ok v h') e).2.2.2 hc
    cases this
  | slice t x lo hi mx =>
   have hk : (bif qx P t then Kd.read else Kd.pure) = .move := hk
   rcases bifK hk with ⟨_, h1⟩ | ⟨_, h1⟩ <;> cases h1
  | panic x =>
   have e : Xz x f h = .ok v h' := e
   unfold Xz at e
   split at e <;> cases e
  | _ => first | (cases hk; done) | cases e
theorem Jtx (hc : CallS P call) (hp : Jds op = true) (e : evOp P call op f h = .pn v h') : OpP P op f h v h' := by
 rw [jm] at e
 cases op with
 | panic x =>
  have e : Xz x f h = .pn v h' := e
  unfold Xz at e
  split at e
  ·rename_i t a hx
   cases e
   refine ⟨fun _ => Grow.refl _, fun Φ τ F w dst ty pos after gd hF hR hFr => ?_⟩
   have hr := Jc hF x
   rw [hx] at hr
   have hr' := hr
   simp only [Rv] at hr
   obtain ⟨y, hy, _⟩ := hr
   unfold St
   have hrun : (execOp (fe F) ⟨dst, .panic x, ty, pos, after, gd⟩).run P w = .halt (.panic (fe F x)) w := by
    have e3 : execOp (fe F) ⟨dst, .panic x, ty, pos, after, gd⟩ = (do pure (.value (← Instr.panic (fe F x)))) := rfl
    rw [e3, hy]
    rfl
   rw [hrun]
   exact ⟨_, Φ, τ, rfl, hr', hR, Tw.refl _ _ _ _ _⟩
  ·cases e
 | call c =>
  obtain ⟨ce, args, ts⟩ := c
  cases ce with
  | invoke r m => cases hp
  | builtin b => cases hp
  | value x =>
   rcases Jjd hc e trivial with ⟨v2, h2, e9, s⟩ | ⟨v2, h2, e9, s⟩
   ·cases e9
   ·cases e9; exact s
 | _ => cases hp
theorem Jf7 {l : List Operand} {t : Tmp} (h : Operand.tmp t ∈ l) : t ∈ z8 l := by
 induction l with
 | nil => cases h
 | cons o l ih =>
  cases h with
  | head => exact List.mem_cons_self
  | tail _ h =>
   have := ih h
   cases o with
   | tmp s => exact List.mem_cons_of_mem _ this
   | const _ => exact this
   | global _ => exact this
   | func _ => exact this
def Agr (f f' : Fr) (l : List Operand) : Prop := ∀ t, Operand.tmp t ∈ l → t < 4096 → getF t f = getF t f'
theorem Agr.opd {l : List Operand} {o : Operand} (a : Agr f f' l) (ho : o ∈ l) : Ev.opd f o = Ev.opd f' o := by
 cases o with
 | tmp t =>
  show (Bool.rec AV.u (getF t f) (Nat.ble (Nat.succ t) 4096) : AV) = Bool.rec AV.u (getF t f') (Nat.ble (Nat.succ t) 4096)
  cases e : Nat.ble (Nat.succ t) 4096 with
  | false => rfl
  | true => exact a t ho (Nat.le_of_ble_eq_true e)
 | const v => rfl
 | global g => rfl
 | func k => rfl
theorem Agr.opds {l m : List Operand} (a : Agr f f' l) (hm : ∀ o ∈ m, o ∈ l) : Ev.opds f m = Ev.opds f' m := by
 induction m with
 | nil => rfl
 | cons o m ih =>
  show Ev.opd f o :: Ev.opds f m = Ev.opd f' o :: Ev.opds f' m
  rw [a.opd (hm o (by simp)), ih fun o ho => hm o (by simp [ho])]
theorem Agr.fill {l : List Operand} {place : Nat → Option (Nat × Nat)} {m : List (Nat × Operand)} (a : Agr f f' l) (hm : ∀ p ∈ m, p.2 ∈ l) : Vw place f m = Vw place f' m := by
 induction m with
 | nil => rfl
 | cons p m ih =>
  have h1 := a.opd (hm p (by simp))
  have h2 := ih fun q hq => hm q (by simp [hq])
  funext cs k
  unfold Vw at h2 ⊢
  simp only
  rw [h1, h2]
theorem Agr.bnd {α : Type} {l : List Operand} {o : Option Operand} {d : Nat} {k : Nat → α} {no : α} (a : Agr f f' l) (ho : ∀ x, o = some x → x ∈ l) : Ev.bnd f o d k no = Ev.bnd f' o d k no := by
 unfold Ev.bnd
 cases o with
 | none => rfl
 | some x => simp only; rw [a.opd (ho x rfl)]
theorem Jmj (a : Agr f f' op.operands.toList) : evOp P call op f h = evOp P call op f' h := by
 rw [jm]
 cases op with
 | move x => show Res.ok (opd f x) h = Res.ok (opd f' x) h; rw [a.opd (by simp [Op.operands])]
 | assign x => show Res.ok (opd f x) h = Res.ok (opd f' x) h; rw [a.opd (by simp [Op.operands])]
 | pick c x y =>
  show jz c x y f h = jz c x y f' h
  unfold jz
  rw [a.opd (o := c) (by simp [Op.operands]), a.opd (o := x) (by simp [Op.operands]), a.opd (o := y) (by simp [Op.operands])]
 | alloc t => rfl
 | box t x =>
  show Jbp t x f h = Jbp t x f' h
  unfold Jbp
  rw [a.opd (o := x) (by simp [Op.operands])]
 | build t ps =>
  show Vg P t ps f h = Vg P t ps f' h
  unfold Vg
  simp only [show ∀ pl, Vw pl f ps.toList = Vw pl f' ps.toList from fun pl => a.fill fun p hp => by simp [Op.operands]; exact ⟨p.1, by simpa using hp⟩]
 | buildSlice t n ps =>
  show Yr P t n ps f h = Yr P t n ps f' h
  unfold Yr
  simp only [show ∀ pl, Vw pl f ps.toList = Vw pl f' ps.toList from fun pl => a.fill fun p hp => by simp [Op.operands]; exact ⟨p.1, by simpa using hp⟩]
 | load t x =>
  show Qm P t x f h = Qm P t x f' h
  unfold Qm
  rw [a.opd (o := x) (by simp [Op.operands])]
 | store t x y =>
  show X8 P t x y f h = X8 P t x y f' h
  unfold X8
  rw [a.opd (o := x) (by simp [Op.operands]), a.opd (o := y) (by simp [Op.operands])]
 | nilCheck x =>
  show Y6 x f h = Y6 x f' h
  unfold Y6
  rw [a.opd (o := x) (by simp [Op.operands])]
 | binOp o t x y yt =>
  show Jdt P o t x y f h = Jdt P o t x y f' h
  unfold Jdt
  rw [a.opd (o := x) (by simp [Op.operands]), a.opd (o := y) (by simp [Op.operands])]
 | unOp o t x =>
  show evUn o x f h = evUn o x f' h
  unfold evUn
  rw [a.opd (o := x) (by simp [Op.operands])]
 | convert s d x =>
  show Vp P s d x f h = Vp P s d x f' h
  unfold Vp Qe vp Jad
  rw [a.opd (o := x) (by simp [Op.operands])]
 | makeFunc fn x y =>
  show Kl fn x y f h = Kl fn x y f' h
  unfold Kl
  rw [a.opds (m := y.toList) fun o ho => by simp [Op.operands]; exact .inr (by simpa using ho)]
 | makeSlice t x y =>
  show Yy P t x y f h = Yy P t x y f' h
  unfold Yy
  rw [a.opd (o := x) (by simp [Op.operands]), a.opd (o := y) (by simp [Op.operands])]
 | slice t x lo hi mx =>
  show X5 P t x lo hi mx f h = X5 P t x lo hi mx f' h
  have h1 : ∀ {α : Type} {d : Nat} {k : Nat → α} {no : α}, bnd f lo d k no = bnd f' lo d k no := a.bnd fun x hx => by simp [Op.operands, hx]
  have h2 : ∀ {α : Type} {d : Nat} {k : Nat → α} {no : α}, bnd f hi d k no = bnd f' hi d k no := a.bnd fun x hx => by simp [Op.operands, hx]
  unfold X5 Kx ze
  rw [a.opd (o := x) (by simp [Op.operands])]
  simp only [h1, h2]
 | fieldAddr s x i =>
  show Yq P s x i f h = Yq P s x i f' h
  unfold Yq
  rw [a.opd (o := x) (by simp [Op.operands])]
 | indexAddr t x i =>
  show Zn P t x i f h = Zn P t x i f' h
  unfold Zn
  rw [a.opd (o := x) (by simp [Op.operands]), a.opd (o := i) (by simp [Op.operands])]
 | index t x i =>
  show Xb P t x i f h = Xb P t x i f' h
  unfold Xb
  rw [a.opd (o := x) (by simp [Op.operands]), a.opd (o := i) (by simp [Op.operands])]
 | field s x i =>
  show Qa P s x i f h = Qa P s x i f' h
  unfold Qa
  rw [a.opd (o := x) (by simp [Op.operands])]
 | makeInterface t x =>
  show Zo P t x f h = Zo P t x f' h
  unfold Zo
  rw [a.opd (o := x) (by simp [Op.operands])]
 | typeAssert x xt at_ ok =>
  show Yp P x at_ ok f h = Yp P x at_ ok f' h
  unfold Yp
  rw [a.opd (o := x) (by simp [Op.operands])]
 | panic x =>
  show Xz x f h = Xz x f' h
  unfold Xz
  rw [a.opd (o := x) (by simp [Op.operands])]
 | range t x =>
  show Vh P t x f h = Vh P t x f' h
  unfold Vh
  rw [a.opd (o := x) (by simp [Op.operands])]
 | next x st =>
  show qi x st f h = qi x st f' h
  unfold qi
  rw [a.opd (o := x) (by simp [Op.operands])]
 | extract x i =>
  show Kq x i f h = Kq x i f' h
  unfold Kq
  rw [a.opd (o := x) (by simp [Op.operands])]
 | call c =>
  show Qn P call c f h = Qn P call c f' h
  have h1 : opds f c.args.toList = opds f' c.args.toList := a.opds fun o ho => by simp only [Op.operands, Call.operands, Array.toList_append]; exact List.mem_append_right _ ho
  unfold Qn
  cases hce : c.callee with
  | builtin b => simp only; rw [h1]
  | invoke r m => rfl
  | value x =>
   simp only
   rw [h1, a.opd (o := x) (by simp [Op.operands, Call.operands, hce])]
 | _ => rfl
end
end Go.Ev
namespace Go.Ev
set_option linter.unusedVariables false
set_option linter.unusedSimpArgs false
open Go Go.Wf Go.RowKit
noncomputable def j9 (ops : Array Oper) (g : Option (Nat × Bool)) (f : Fr) : Option Bool := match g with
 | none => some true
 | some p => match (ops[p.1]?).bind (·.dst) with
  | some d => match opd f (.tmp d) with
   | .b c => some (c == p.2)
   | .tp [] => some false
   | _ => none
  | none => none
theorem zi {α : Type} (ops : Array Oper) (g : Option (Nat × Bool)) (f : Fr) (yes no bad : α) : Jaf ops g f yes no bad = match j9 ops g f with | some true => yes | some false => no | none => bad := by
 unfold Jaf j9
 cases g with
 | none => rfl
 | some p =>
  simp only
  cases (ops[p.1]?).bind (·.dst) with
  | none => rfl
  | some d =>
   simp only
   cases opd f (.tmp d) with
   | b c => simp only; cases (c == p.2) <;> rfl
   | tp l => cases l <;> rfl
   | _ => rfl
theorem xy {ops : Array Oper} {o : Oper} {f : Fr} {F : Wf.Fr} {Φ : Phi} {b : Bool} (h : j9 ops o.guard f = some b)
  (hF : ∀ p d, o.guard = some p → (ops[p.1]?).bind (·.dst) = some d → Rv Φ (opd f (.tmp d)) (F d)) : Region.wanted o (Zv ops F) = b := by
 unfold j9 at h
 unfold Region.wanted
 cases hg : o.guard with
 | none => rw [hg] at h; simp only at h; cases h; rfl
 | some p =>
  rw [hg] at h
  obtain ⟨j, c0⟩ := p
  simp only at h ⊢
  cases hd : (ops[j]?).bind (·.dst) with
  | none => rw [hd] at h; cases h
  | some d =>
   have hr := hF _ d hg hd
   rw [hd] at h
   simp only at h
   split at h
   ·rename_i c hc
    rw [hc] at hr
    cases h
    have := hr.bI
    unfold Zv
    rw [hd]
    simp only [Option.map_some, this]
    cases c <;> cases c0 <;> rfl
   ·rename_i hc
    rw [hc] at hr
    cases h
    have hv : F d = .tuple #[] := by
     simp only [Rv, RvL] at hr
     obtain ⟨vs, h1, rfl⟩ := hr
     exact h1
    unfold Zv
    rw [hd]
    simp only [Option.map_some, hv]
    cases c0 <;> rfl
   ·cases h
theorem Jc7 {f : Fr} {F : Wf.Fr} {Φ : Phi} (h : FR Φ f F) (d : Tmp) : Rv Φ (opd f (.tmp d)) (F d) := Jc h (.tmp d)
def okO : Out → Prop
 | .no _ => False
 | _ => True
theorem Jjj {n : Nat} {d : Option Tmp} {v : AV} {f : Fr} {k : Fr → Out} (e : okO (setO n d v f k)) : ∃ f', setO n d v f k = k f' ∧ lo n d ∧ ((d = none ∧ f' = f) ∨ ∃ t, d = some t ∧ t < n ∧ f' = setF t v f) := by
 unfold setO at e ⊢
 cases d with
 | none => exact ⟨f, rfl, trivial, .inl ⟨rfl, rfl⟩⟩
 | some t =>
  simp only at e ⊢
  cases hb : Nat.blt t n with
  | false => rw [hb] at e; exact e.elim
  | true => exact ⟨_, rfl, Yb hb, .inr ⟨t, rfl, Yb hb, rfl⟩⟩
theorem FR.updO {n : Nat} (hn : n ≤ 4096) {d : Option Tmp} {v : AV} {x : Value} {f f' : Fr} {F : Wf.Fr} {Φ : Phi} (h : FR Φ f F) (hv : Rv Φ v x) (hd : (d = none ∧ f' = f) ∨ ∃ t, d = some t ∧ t < n ∧ f' = setF t v f) : FR Φ f' (Wf.updO F d x) := by
 rcases hd with ⟨rfl, rfl⟩ | ⟨t, rfl, ht, rfl⟩
 ·exact h
 ·exact h.set (Nat.lt_of_lt_of_le ht hn) hv
section
variable {P : Program} {call : CallF} {n : Nat}
def OutQ (Φ : Phi) (τ : Tau) (h : Hp) (w : World) : Out → Wf.Post
 | .nx f' h', .normal, F', w' => ∃ Φ' τ', FR Φ' f' F' ∧ Rel Φ' τ' h' w' ∧ Tw Φ τ h w Φ' τ' h'.n w'
 | .ex i f' h', .exit j, F', w' => i = j ∧ ∃ Φ' τ', FR Φ' f' F' ∧ Rel Φ' τ' h' w' ∧ Tw Φ τ h w Φ' τ' h'.n w'
 | .rt f' h', .ret, F', w' => ∃ Φ' τ', FR Φ' f' F' ∧ Rel Φ' τ' h' w' ∧ Tw Φ τ h w Φ' τ' h'.n w'
 | .pn v f' h', .panic ch, F', w' => ∃ x Φ' τ', ch = [{ v := x, recovered := false }] ∧ Rv Φ' v x ∧ FR Φ' f' F' ∧ Rel Φ' τ' h' w' ∧ Tw Φ τ h w Φ' τ' h'.n w'
 | _, _, _, _ => False
def hpO : Out → Hp → Hp
 | .nx _ h, _ => h
 | .ex _ _ h, _ => h
 | .rt _ h, _ => h
 | .pn _ _ h, _ => h
 | .no _, h => h
theorem Jhk {o : Out} (e : okO o) (a b : Hp) : hpO o a = hpO o b := by cases o <;> first | rfl | exact e.elim
theorem OutQ.trans {Φ Φ1 : Phi} {τ τ1 : Tau} {h h1 : Hp} {w w1 : World} {o : Out} (t1 : Tw Φ τ h w Φ1 τ1 h1.n w1) (k1 : Grow h h1) (hl : h1.n ≤ big5) (hn : h1.n ≤ (hpO o h1).n) {ex : Exit} {F : Wf.Fr} {w2 : World} (q : OutQ Φ1 τ1 h1 w1 o ex F w2) : OutQ Φ τ h w o ex F w2 := by
 cases o with
 | nx f' h' => cases ex with
  | normal => obtain ⟨Φ', τ', a, b, c⟩ := q; exact ⟨Φ', τ', a, b, t1.trans k1 hn hl c⟩
  | _ => exact q.elim
 | ex i f' h' => cases ex with
  | exit j => obtain ⟨e, Φ', τ', a, b, c⟩ := q; exact ⟨e, Φ', τ', a, b, t1.trans k1 hn hl c⟩
  | _ => exact q.elim
 | rt f' h' => cases ex with
  | ret => obtain ⟨Φ', τ', a, b, c⟩ := q; exact ⟨Φ', τ', a, b, t1.trans k1 hn hl c⟩
  | _ => exact q.elim
 | pn v f' h' => cases ex with
  | panic ch => obtain ⟨x, Φ', τ', e, d, a, b, c⟩ := q; exact ⟨x, Φ', τ', e, d, a, b, t1.trans k1 hn hl c⟩
  | _ => exact q.elim
 | no m => exact q.elim
theorem recR {r : Res} {k kp : AV → Hp → Out} (e : okO (Res.rec k Out.no kp r : Out)) : (∃ v h', r = .ok v h' ∧ (Res.rec k Out.no kp r : Out) = k v h') ∨ ∃ v h', r = .pn v h' ∧ (Res.rec k Out.no kp r : Out) = kp v h' := by
 cases r with
 | ok v h' => exact .inl ⟨v, h', rfl, rfl⟩
 | no m => exact e.elim
 | pn v h' => exact .inr ⟨v, h', rfl, rfl⟩
theorem Jkq {r : Res} {k : AV → Hp → Out} {m : Nat} (e : okO (Res.rec k Out.no (fun _ _ => .no m) r : Out)) : ∃ v h', r = .ok v h' ∧ (Res.rec k Out.no (fun _ _ => .no m) r : Out) = k v h' := by
 rcases recR e with h | ⟨v, h', _, h2⟩
 ·exact h
 ·rw [h2] at e; exact e.elim
theorem Jrt (hc : CallS P call) (hn : n ≤ 4096) {ops : Array Oper} : ∀ (l : List Oper) (f : Fr) (h : Hp), okO (Vy P call n ops l f h) →
  Gw h (hpO (Vy P call n ops l f h) h) ∧
  ∀ (Φ : Phi) (τ : Tau) (F : Wf.Fr) (w : World) (Q : Wf.Post), FR Φ f F → Rel Φ τ h w → Fre Φ h.n (hpO (Vy P call n ops l f h) h).n →
   (∀ ex F' w', OutQ Φ τ h w (Vy P call n ops l f h) ex F' w' → Q ex F' w') → Sq P ops n Q l F w := by
 intro l
 induction l with
 | nil => intro f h e; exact ⟨Gw.refl _, fun Φ τ F w Q hF hR _ hQ => hQ .normal F w ⟨Φ, τ, hF, hR, Tw.refl _ _ _ _ _⟩⟩
 | cons o l ih =>
  intro f h e
  have e0 : Vy P call n ops (o :: l) f h = Jaf ops o.guard f (Res.rec (fun v h' => setO n o.dst v f fun f' => Vy P call n ops l f' h') Out.no (fun v h' => Bool.rec (.no 61) (.pn v f h') (Jds o.op && loB n o.dst)) (evOp P call o.op f h)) (setO n o.dst (.tp []) f fun f' => Vy P call n ops l f' h) (.no 41) := rfl
  rw [e0, zi] at e
  rw [e0, zi]
  cases hw : j9 ops o.guard f with
  | none => rw [hw] at e; exact e.elim
  | some b =>
   rw [hw] at e
   cases b with
   | true =>
    simp only at e ⊢
    rcases recR e with ⟨v, h1, hop, e2⟩ | ⟨v, h1, hop, e2⟩
    ·rw [e2] at e ⊢
     obtain ⟨f1, e3, hlo, hd⟩ := Jjj e
     rw [e3] at e ⊢
     obtain ⟨g2, s2⟩ := ih f1 h1 e
     obtain ⟨g1, s1⟩ := Ja7 hc hop
     have g1 : Gw h h1 := g1
     rw [Jhk e h h1]
     refine ⟨g1.trans g2, fun Φ τ F w Q hF hR hFr hQ => ?_⟩
     have k1 := g1 hR.lim
     have k2 := g2 (k1.lim hR.lim)
     have hw' := xy (Φ := Φ) hw fun p d _ _ => Jc7 hF d
     obtain ⟨dst, op, ty, pos, after, gd⟩ := o
     refine ⟨hlo, ?_⟩
     rw [if_pos hw']
     refine (s1 Φ τ F w dst ty pos after gd hF hR fun id h1 h2 => hFr id h1 (Nat.lt_of_lt_of_le h2 k2.le)).mono ?_ fun _ _ h => h.elim
     rintro x w1 ⟨Φ1, τ1, hv, hR1, t1⟩
     refine s2 Φ1 τ1 _ w1 Q ((hF.mono t1.sub).updO hn hv hd) hR1 ?_ ?_
     ·intro id q1 q2
      rw [t1.same id (by omega)]
      exact hFr id (Nat.le_trans k1.le q1) q2
     ·intro ex F' w' q
      exact hQ ex F' w' (q.trans t1 k1 (k1.lim hR.lim) k2.le)
    ·rw [e2] at e ⊢
     cases hp0 : (Jds o.op && loB n o.dst) with
     | false => rw [hp0] at e; exact e.elim
     | true =>
      simp only
      obtain ⟨hp, hp1⟩ := Zj hp0
      obtain ⟨g1, s1⟩ := Jtx hc hp hop
      have g1 : Gw h h1 := g1
      refine ⟨g1, fun Φ τ F w Q hF hR hFr hQ => ?_⟩
      have hw' := xy (Φ := Φ) hw fun p d _ _ => Jc7 hF d
      have hlo : lo n o.dst := by
       cases hd : o.dst with
       | none => trivial
       | some t => rw [hd] at hp1; exact Yb hp1
      obtain ⟨dst, op, ty, pos, after, gd⟩ := o
      refine ⟨hlo, ?_⟩
      rw [if_pos hw']
      refine (s1 Φ τ F w dst ty pos after gd hF hR hFr).mono (fun _ _ h => h.elim) ?_
      rintro ch w1 ⟨x, Φ1, τ1, rfl, hv, hR1, t1⟩
      exact hQ _ _ _ ⟨x, Φ1, τ1, rfl, hv, hF.mono t1.sub, hR1, t1⟩
   | false =>
    simp only at e ⊢
    obtain ⟨f1, e3, hlo, hd⟩ := Jjj e
    rw [e3] at e ⊢
    obtain ⟨g2, s2⟩ := ih f1 h e
    refine ⟨g2, fun Φ τ F w Q hF hR hFr hQ => ?_⟩
    have hw' := xy (Φ := Φ) hw fun p d _ _ => Jc7 hF d
    refine ⟨hlo, ?_⟩
    rw [if_neg (by rw [hw']; simp)]
    exact s2 Φ τ _ w Q (hF.updO hn (by simp only [Rv, RvL]; exact ⟨[], rfl, rfl⟩) hd) hR hFr hQ
end
section
variable {fc : Fence} [Fw fc] {P : Program} {ops : Array Oper} {n : Nat} {D : List Deferred} {Q : Wf.Post} {f0 : Wf.Fr} {w0 : World}
theorem Jnf (Inv : Array Bool → Wf.Fr → World → Prop) (back : ∀ (k : Nat) (o : Oper), ops[k]? = some o → ∀ e ∈ o.after, Region.binds .any e = true → e.on < k)
  (hstep : ∀ (L : Array Bool) (i : Nat) (o : Oper) (f : Wf.Fr) (w : World), L.size = ops.size → Yz ops L → ops[i]? = some o → L.getD i true = false → (∀ e ∈ o.after, Region.binds .any e = true → L.getD e.on false = true) → Inv L f w →
   lo n o.dst ∧ OpSt P ops f o w (fun v w' => Inv (L.setIfInBounds i true) (updO f o.dst v) w') (fun _ _ => False))
  (hfin : ∀ L f w, L.size = ops.size → (∀ i, i < ops.size → L.getD i true = true) → Inv L f w → Q .normal f w) :
  ∀ (fuel : Nat) (L : Array Bool) (a : Act) (w : World), unl ops.size L = fuel → L.size = ops.size → Yz ops L → Wf.Good n D a → Inv L (frOf a) w →
   wpAnyIn fc 0 P .any ops (fun e a' w' => Wf.Good n D a' ∧ Q e (frOf a') w') fuel L a w := by
 intro fuel
 have bridge : ∀ (L : Array Bool), L.size = ops.size → ∀ i, i < ops.size → L.getD i false = L.getD i true := by
  intro L hs i hi
  have : L[i]? = some L[i] := by simp [hs, hi]
  simp [Array.getD_eq_getD_getElem?, this]
 induction fuel with
 | zero =>
  intro L a w hu hs hc ha hI
  have hall := Jam hu
  refine ⟨?_, ⟨ha, hfin L _ w hs hall hI⟩⟩
  rw [List.eq_nil_iff_forall_not_mem]
  intro i hi
  obtain ⟨h1, h2, _⟩ := Z2.1 hi
  rw [hall i h1] at h2; cases h2
 | succ fuel ih =>
  intro L a w hu hs hc ha hI
  refine ⟨?_, ?_⟩
  ·intro hnil
   refine ⟨ha, hfin L _ w hs ?_ hI⟩
   intro i hi
   refine Classical.byContradiction fun hne => ?_
   have hex : ∃ i, i < ops.size ∧ L.getD i true = false := ⟨i, hi, by cases hb : L.getD i true with | false => rfl | true => exact absurd hb hne⟩
   have hmin : ∃ i, i < ops.size ∧ L.getD i true = false ∧ ∀ j, j < i → L.getD j true = true := by
    obtain ⟨i, hi, hb⟩ := hex
    clear hne
    induction i using Nat.strongRecOn with
    | _ i ihh =>
     by_cases h : ∃ j, j < i ∧ L.getD j true = false
     ·obtain ⟨j, hj, hjb⟩ := h; exact ihh j hj (by omega) hjb
     ·refine ⟨i, hi, hb, fun j hj => ?_⟩
      cases hjb : L.getD j true with
      | true => rfl
      | false => exact absurd ⟨j, hj, hjb⟩ h
   obtain ⟨i0, hi0, hb0, hlow⟩ := hmin
   have hr0 : i0 ∈ Region.ready .any ops L := by
    have hok : ops[i0]? = some ops[i0] := by simp [hi0]
    refine Z2.2 ⟨hi0, hb0, ops[i0], hok, ?_⟩
    intro e he hbe
    have hlt := back i0 _ hok e he hbe
    rw [bridge L hs _ (by omega)]
    exact hlow _ hlt
   rw [hnil] at hr0; cases hr0
  ·intro i hi
   obtain ⟨h1, h2, o, ho, h3⟩ := Z2.1 hi
   obtain ⟨hlo, hst⟩ := hstep L i o (frOf a) w hs hc ho h2 h3 hI
   refine yq (Kv := fun v w' => Inv (L.setIfInBounds i true) (updO (frOf a) o.dst v) w') (Kp := fun _ _ => False) ho ha hst ?_ (fun _ _ h => h.elim)
   intro v w' hK
   refine ih _ _ _ ?_ (by simp [hs]) ?_ (ha.put _ _) (by rw [Yl ha _ hlo]; exact hK)
   ·have := Jc5 hs h1 h2; omega
   ·intro k hk hl o' ho' e he hb
    rw [Array.getD_eq_getD_getElem?, Array.getElem?_setIfInBounds]
    by_cases e1 : i = e.on
    ·subst e1; simp [hs, h1]
    ·simp only [e1, if_false]
     rw [← Array.getD_eq_getD_getElem?]
     by_cases e2 : i = k
     ·subst e2; rw [ho] at ho'; cases ho'; exact h3 e he hb
     ·rw [Array.getD_eq_getD_getElem?, Array.getElem?_setIfInBounds] at hl
      simp only [e2, if_false] at hl
      rw [← Array.getD_eq_getD_getElem?] at hl
      exact hc k hk hl o' ho' e he hb
theorem W.drawI {id : Nat} (hm : P.follows .mixedOrders = true) (Inv : Array Bool → Wf.Fr → World → Prop) (back : ∀ (k : Nat) (o : Oper), ops[k]? = some o → ∀ e ∈ o.after, Region.binds .any e = true → e.on < k)
  (h0 : Inv (Array.replicate ops.size false) f0 w0.drew)
  (hstep : ∀ (L : Array Bool) (i : Nat) (o : Oper) (f : Wf.Fr) (w : World), L.size = ops.size → Yz ops L → ops[i]? = some o → L.getD i true = false → (∀ e ∈ o.after, Region.binds .any e = true → L.getD e.on false = true) → Inv L f w →
   lo n o.dst ∧ OpSt P ops f o w (fun v w' => Inv (L.setIfInBounds i true) (updO f o.dst v) w') (fun _ _ => False))
  (hfin : ∀ L f w, L.size = ops.size → (∀ i, i < ops.size → L.getD i true = true) → Inv L f w → Q .normal f w) :
  W fc P (Code.region id ops true) n D Q f0 w0 := by
 intro a ha hf
 refine wpIn_region_any hm ?_
 have hz : ∀ i, i < ops.size → (Array.replicate ops.size false).getD i true = false := by
  intro i hi
  simp [Array.getD_eq_getD_getElem?, hi]
 refine Jnf Inv back hstep hfin ops.size _ a _ ?_ (by simp) ?_ ha (by rw [hf]; exact h0)
 ·unfold unl
  have : (List.range ops.size).countP (fun i => !(Array.replicate ops.size false).getD i true) = (List.range ops.size).length := by
   refine List.countP_eq_length.2 ?_
   intro i hi
   simp [hz i (by simpa using hi)]
  rw [this]; simp
 ·intro k hk hl
  rw [hz k hk] at hl; cases hl
end
end Go.Ev
namespace Go.Ev
set_option linter.unusedVariables false
set_option linter.unusedSimpArgs false
open Go Go.Wf Go.RowKit
section
variable {fc : Fence} [Fw fc] {P : Program} {n : Nat} {D : List Deferred} {Q : Wf.Post} {f0 : Wf.Fr} {w0 : World}
def hasE (a : Array Edge) (k : Nat) : Bool := a.toList.any fun e => Region.binds .any e && Nat.beq e.on k
theorem Jka {a : Array Edge} {k : Nat} (h : hasE a k = true) : ∃ e ∈ a, Region.binds .any e = true ∧ e.on = k := by
 unfold hasE at h
 rw [List.any_eq_true] at h
 obtain ⟨e, h1, h2⟩ := h
 rw [Bool.and_eq_true] at h2
 exact ⟨e, Array.mem_toList_iff.1 h1, h2.1, Nat.eq_of_beq_eq_true h2.2⟩
def lowE (a : Array Edge) (k : Nat) : Bool := a.toList.all fun e => Nat.blt e.on k
theorem jo {a : Array Edge} {k : Nat} (h : lowE a k = true) {e : Edge} (he : e ∈ a) : e.on < k := by
 unfold lowE at h
 exact Nat.le_of_ble_eq_true (List.all_eq_true.1 h e (Array.mem_toList_iff.2 he))
theorem kt (f : Wf.Fr) (d : Nat) (v : Value) : updO f (some d) v d = v := by show Wf.upd f d v d = v; unfold Wf.upd; rw [if_pos rfl]
theorem Zb {f : Wf.Fr} {t d : Nat} (h : t ≠ d) (v : Value) : updO f (some d) v t = f t := by show Wf.upd f d v t = f t; unfold Wf.upd; rw [if_neg h]
theorem W.swapRem {id ty a b c d p q : Nat} {k : IntKind} {x y z : Int} {pos0 pos1 pos2 pos3 pos4 pos5 : String} {t0 t1 t2 t3 t4 t5 yt : TypeId} {e0 e1 e2 e3 e4 e5 : Array Edge}
  (hm : P.follows .mixedOrders = true)
  (hne : (Nat.beq a b || Nat.beq a c || Nat.beq a d || Nat.beq a p || Nat.beq a q || Nat.beq b c || Nat.beq b d || Nat.beq b p || Nat.beq b q || Nat.beq c d || Nat.beq c p || Nat.beq c q || Nat.beq d p || Nat.beq d q || Nat.beq p q) = false)
  (hlo : (Nat.blt a n && Nat.blt b n && Nat.blt c n && Nat.blt d n && Nat.blt p n && Nat.blt q n) = true)
  (hlow : (lowE e0 0 && lowE e1 1 && lowE e2 2 && lowE e3 3 && lowE e4 4 && lowE e5 5) = true)
  (hed : (hasE e3 1 && hasE e3 2 && hasE e4 0 && hasE e4 1 && hasE e5 0 && hasE e5 2 && hasE e5 3) = true)
  (hp : f0 p = .int k x) (hq : f0 q = .int k y) (hy : y ≠ 0) (hz : x.tmod y = z)
  (h : ∀ f, Keep [a, b, c, d, p, q] f0 f → f p = .int k y → f q = .int k z → Q .normal f w0.drew) :
  W fc P (Code.region id #[⟨some a, .move (.tmp q), t0, pos0, e0, none⟩, ⟨some b, .move (.tmp p), t1, pos1, e1, none⟩, ⟨some c, .move (.tmp q), t2, pos2, e2, none⟩,
   ⟨some d, .binOp .rem ty (.tmp b) (.tmp c) yt, t3, pos3, e3, none⟩, ⟨some p, .assign (.tmp a), t4, pos4, e4, none⟩, ⟨some q, .assign (.tmp d), t5, pos5, e5, none⟩] true) n D Q f0 w0 := by
 have ne : ∀ i j, Nat.beq i j = false → i ≠ j := fun i j hh e => by subst e; simp at hh
 simp only [Bool.or_eq_false_iff] at hne
 obtain ⟨⟨⟨⟨⟨⟨⟨⟨⟨⟨⟨⟨⟨⟨ab, ac⟩, ad⟩, ap⟩, aq⟩, bc⟩, bd⟩, bp⟩, bq⟩, cd⟩, cp⟩, cq⟩, dp⟩, dq⟩, pq⟩ := hne
 replace ab := ne _ _ ab; replace ac := ne _ _ ac; replace ad := ne _ _ ad; replace ap := ne _ _ ap; replace aq := ne _ _ aq
 replace bc := ne _ _ bc; replace bd := ne _ _ bd; replace bp := ne _ _ bp; replace bq := ne _ _ bq; replace cd := ne _ _ cd
 replace cp := ne _ _ cp; replace cq := ne _ _ cq; replace dp := ne _ _ dp; replace dq := ne _ _ dq; replace pq := ne _ _ pq
 simp only [Bool.and_eq_true] at hlo hlow hed
 obtain ⟨⟨⟨⟨⟨la, lb⟩, lc⟩, ld⟩, lp⟩, lq⟩ := hlo
 obtain ⟨⟨⟨⟨⟨w0e, w1e⟩, w2e⟩, w3e⟩, w4e⟩, w5e⟩ := hlow
 obtain ⟨⟨⟨⟨⟨⟨h31, h32⟩, h40⟩, h41⟩, h50⟩, h52⟩, h53⟩ := hed
 refine W.drawI hm (fun L f w => w = w0.drew ∧ Keep [a, b, c, d, p, q] f0 f ∧ (L.getD 0 true = true → f a = .int k y) ∧ (L.getD 1 true = true → f b = .int k x) ∧ (L.getD 2 true = true → f c = .int k y) ∧ (L.getD 3 true = true → f d = .int k z) ∧
  (L.getD 4 true = false → f p = .int k x) ∧ (L.getD 4 true = true → f p = .int k y) ∧ (L.getD 5 true = false → f q = .int k y) ∧ (L.getD 5 true = true → f q = .int k z)) ?_ ?_ ?_ ?_
 ·intro i o ho e he _
  match i, ho with
  | 0, ho => cases ho; exact jo w0e he
  | 1, ho => cases ho; exact jo w1e he
  | 2, ho => cases ho; exact jo w2e he
  | 3, ho => cases ho; exact jo w3e he
  | 4, ho => cases ho; exact jo w4e he
  | 5, ho => cases ho; exact jo w5e he
  | i + 6, ho => simp at ho
 ·refine ⟨rfl, fun _ _ => rfl, ?_, ?_, ?_, ?_, fun _ => hp, ?_, fun _ => hq, ?_⟩ <;> intro hh <;> simp at hh
 ·intro L i o f w hs hc ho hi hed hI
  obtain ⟨rfl, hK, i0, i1, i2, i3, i4, i4', i5, i5'⟩ := hI
  have gs : ∀ u v : Nat, u < 6 → (L.setIfInBounds u true).getD v true = if u = v then true else L.getD v true := by
   intro u v hu
   have hs' : L.size = 6 := hs
   rw [Array.getD_eq_getD_getElem?, Array.getElem?_setIfInBounds]
   by_cases e : u = v
   ·subst e; simp [hs', hu]
   ·rw [if_neg e, if_neg e, Array.getD_eq_getD_getElem?]
  have tf : ∀ u : Nat, u < 6 → L.getD u false = L.getD u true := by
   intro u hu
   have hs' : L.size = 6 := hs
   simp [Array.getD_eq_getD_getElem?, hs', hu]
  have dn : ∀ {u : Nat} (ha : hasE o.after u = true), u < 6 → L.getD u true = true := fun ha hu => by
   obtain ⟨e, he, hb, rfl⟩ := Jka ha
   rw [← tf _ hu]; exact hed e he hb
  have nd : ∀ (m u : Nat) (o' : Oper), m < 6 → u < 6 → (#[⟨some a, .move (.tmp q), t0, pos0, e0, none⟩, ⟨some b, .move (.tmp p), t1, pos1, e1, none⟩, ⟨some c, .move (.tmp q), t2, pos2, e2, none⟩,
   ⟨some d, .binOp .rem ty (.tmp b) (.tmp c) yt, t3, pos3, e3, none⟩, ⟨some p, .assign (.tmp a), t4, pos4, e4, none⟩, ⟨some q, .assign (.tmp d), t5, pos5, e5, none⟩] : Array Oper)[m]? = some o' → hasE o'.after u = true → L.getD u true = false → L.getD m true = false := by
   intro m u o' hm6 hu ho' ha hf
   cases hm2 : L.getD m true with
   | false => rfl
   | true =>
    obtain ⟨e, he, hb, rfl⟩ := Jka ha
    have h9 := hc m hm6 hm2 o' ho' e he hb
    rw [tf _ hu, hf] at h9; cases h9
  match i, ho, hi with
  | 0, ho, hi =>
   cases ho
   have hv := i5 (nd 5 0 _ (by decide) (by decide) rfl h50 hi)
   refine ⟨Nat.le_of_ble_eq_true la, OpSt.op (St.move ?_)⟩
   refine ⟨rfl, Keep.updO (by simp) hK, ?_, ?_, ?_, ?_, ?_, ?_, ?_, ?_⟩
   ·rw [gs 0 0 (by decide)]
    intro _; exact (kt _ _ _).trans hv
   ·rw [gs 0 1 (by decide)]
    intro hh; exact (Zb (Ne.symm ab) _).trans (i1 (by simpa using hh))
   ·rw [gs 0 2 (by decide)]
    intro hh; exact (Zb (Ne.symm ac) _).trans (i2 (by simpa using hh))
   ·rw [gs 0 3 (by decide)]
    intro hh; exact (Zb (Ne.symm ad) _).trans (i3 (by simpa using hh))
   ·rw [gs 0 4 (by decide)]
    intro hh; exact (Zb (Ne.symm ap) _).trans (i4 (by simpa using hh))
   ·rw [gs 0 4 (by decide)]
    intro hh; exact (Zb (Ne.symm ap) _).trans (i4' (by simpa using hh))
   ·rw [gs 0 5 (by decide)]
    intro hh; exact (Zb (Ne.symm aq) _).trans (i5 (by simpa using hh))
   ·rw [gs 0 5 (by decide)]
    intro hh; exact (Zb (Ne.symm aq) _).trans (i5' (by simpa using hh))
  | 1, ho, hi =>
   cases ho
   have hv := i4 (nd 4 1 _ (by decide) (by decide) rfl h41 hi)
   refine ⟨Nat.le_of_ble_eq_true lb, OpSt.op (St.move ?_)⟩
   refine ⟨rfl, Keep.updO (by simp) hK, ?_, ?_, ?_, ?_, ?_, ?_, ?_, ?_⟩
   ·rw [gs 1 0 (by decide)]
    intro hh; exact (Zb ab _).trans (i0 (by simpa using hh))
   ·rw [gs 1 1 (by decide)]
    intro _; exact (kt _ _ _).trans hv
   ·rw [gs 1 2 (by decide)]
    intro hh; exact (Zb (Ne.symm bc) _).trans (i2 (by simpa using hh))
   ·rw [gs 1 3 (by decide)]
    intro hh; exact (Zb (Ne.symm bd) _).trans (i3 (by simpa using hh))
   ·rw [gs 1 4 (by decide)]
    intro hh; exact (Zb (Ne.symm bp) _).trans (i4 (by simpa using hh))
   ·rw [gs 1 4 (by decide)]
    intro hh; exact (Zb (Ne.symm bp) _).trans (i4' (by simpa using hh))
   ·rw [gs 1 5 (by decide)]
    intro hh; exact (Zb (Ne.symm bq) _).trans (i5 (by simpa using hh))
   ·rw [gs 1 5 (by decide)]
    intro hh; exact (Zb (Ne.symm bq) _).trans (i5' (by simpa using hh))
  | 2, ho, hi =>
   cases ho
   have hv := i5 (nd 5 2 _ (by decide) (by decide) rfl h52 hi)
   refine ⟨Nat.le_of_ble_eq_true lc, OpSt.op (St.move ?_)⟩
   refine ⟨rfl, Keep.updO (by simp) hK, ?_, ?_, ?_, ?_, ?_, ?_, ?_, ?_⟩
   ·rw [gs 2 0 (by decide)]
    intro hh; exact (Zb ac _).trans (i0 (by simpa using hh))
   ·rw [gs 2 1 (by decide)]
    intro hh; exact (Zb bc _).trans (i1 (by simpa using hh))
   ·rw [gs 2 2 (by decide)]
    intro _; exact (kt _ _ _).trans hv
   ·rw [gs 2 3 (by decide)]
    intro hh; exact (Zb (Ne.symm cd) _).trans (i3 (by simpa using hh))
   ·rw [gs 2 4 (by decide)]
    intro hh; exact (Zb (Ne.symm cp) _).trans (i4 (by simpa using hh))
   ·rw [gs 2 4 (by decide)]
    intro hh; exact (Zb (Ne.symm cp) _).trans (i4' (by simpa using hh))
   ·rw [gs 2 5 (by decide)]
    intro hh; exact (Zb (Ne.symm cq) _).trans (i5 (by simpa using hh))
   ·rw [gs 2 5 (by decide)]
    intro hh; exact (Zb (Ne.symm cq) _).trans (i5' (by simpa using hh))
  | 3, ho, hi =>
   cases ho
   have hb := i1 (dn h31 (by decide))
   have hc2 := i2 (dn h32 (by decide))
   refine ⟨Nat.le_of_ble_eq_true ld, OpSt.op (St.rem hb hc2 hy hz ?_)⟩
   refine ⟨rfl, Keep.updO (by simp) hK, ?_, ?_, ?_, ?_, ?_, ?_, ?_, ?_⟩
   ·rw [gs 3 0 (by decide)]
    intro hh; exact (Zb ad _).trans (i0 (by simpa using hh))
   ·rw [gs 3 1 (by decide)]
    intro hh; exact (Zb bd _).trans (i1 (by simpa using hh))
   ·rw [gs 3 2 (by decide)]
    intro hh; exact (Zb cd _).trans (i2 (by simpa using hh))
   ·rw [gs 3 3 (by decide)]
    intro _; exact (kt _ _ _).trans rfl
   ·rw [gs 3 4 (by decide)]
    intro hh; exact (Zb (Ne.symm dp) _).trans (i4 (by simpa using hh))
   ·rw [gs 3 4 (by decide)]
    intro hh; exact (Zb (Ne.symm dp) _).trans (i4' (by simpa using hh))
   ·rw [gs 3 5 (by decide)]
    intro hh; exact (Zb (Ne.symm dq) _).trans (i5 (by simpa using hh))
   ·rw [gs 3 5 (by decide)]
    intro hh; exact (Zb (Ne.symm dq) _).trans (i5' (by simpa using hh))
  | 4, ho, hi =>
   cases ho
   have hv := i0 (dn h40 (by decide))
   refine ⟨Nat.le_of_ble_eq_true lp, OpSt.op (St.assign ?_)⟩
   refine ⟨rfl, Keep.updO (by simp) hK, ?_, ?_, ?_, ?_, ?_, ?_, ?_, ?_⟩
   ·rw [gs 4 0 (by decide)]
    intro hh; exact (Zb ap _).trans (i0 (by simpa using hh))
   ·rw [gs 4 1 (by decide)]
    intro hh; exact (Zb bp _).trans (i1 (by simpa using hh))
   ·rw [gs 4 2 (by decide)]
    intro hh; exact (Zb cp _).trans (i2 (by simpa using hh))
   ·rw [gs 4 3 (by decide)]
    intro hh; exact (Zb dp _).trans (i3 (by simpa using hh))
   ·rw [gs 4 4 (by decide)]
    intro hh; simp at hh
   ·rw [gs 4 4 (by decide)]
    intro _; exact (kt _ _ _).trans hv
   ·rw [gs 4 5 (by decide)]
    intro hh; exact (Zb (Ne.symm pq) _).trans (i5 (by simpa using hh))
   ·rw [gs 4 5 (by decide)]
    intro hh; exact (Zb (Ne.symm pq) _).trans (i5' (by simpa using hh))
  | 5, ho, hi =>
   cases ho
   have hv := i3 (dn h53 (by decide))
   refine ⟨Nat.le_of_ble_eq_true lq, OpSt.op (St.assign ?_)⟩
   refine ⟨rfl, Keep.updO (by simp) hK, ?_, ?_, ?_, ?_, ?_, ?_, ?_, ?_⟩
   ·rw [gs 5 0 (by decide)]
    intro hh; exact (Zb aq _).trans (i0 (by simpa using hh))
   ·rw [gs 5 1 (by decide)]
    intro hh; exact (Zb bq _).trans (i1 (by simpa using hh))
   ·rw [gs 5 2 (by decide)]
    intro hh; exact (Zb cq _).trans (i2 (by simpa using hh))
   ·rw [gs 5 3 (by decide)]
    intro hh; exact (Zb dq _).trans (i3 (by simpa using hh))
   ·rw [gs 5 4 (by decide)]
    intro hh; exact (Zb pq _).trans (i4 (by simpa using hh))
   ·rw [gs 5 4 (by decide)]
    intro hh; exact (Zb pq _).trans (i4' (by simpa using hh))
   ·rw [gs 5 5 (by decide)]
    intro hh; simp at hh
   ·rw [gs 5 5 (by decide)]
    intro _; exact (kt _ _ _).trans hv
  | i + 6, ho, hi => simp at ho
 ·intro L f w hs hall hI
  obtain ⟨rfl, hK, _, _, _, _, _, i4', _, i5'⟩ := hI
  exact h f hK (i4' (hall 4 (by simp))) (i5' (hall 5 (by simp)))
end
end Go.Ev
namespace Go.Wf
open Go Go.Proofs Go.RowKit
set_option maxRecDepth 100000
set_option linter.unusedVariables false
set_option linter.unusedSimpArgs false
set_option maxHeartbeats 1000000 in
theorem zd {X : Nat → Prop} {w : World} (hX : ∀ b, X b → b < w.heap.size) {v0 : Value} {a : GInt} (r0 : RV Jv X w v0 a) {v1 : Value} {b : GInt} (r1 : RV Jv X w v1 b) (hla : a.mag.length ≤ 274877906944) (hlb : b.mag.length ≤ 274877906944) (hb0 : val b.mag ≠ 0) (hd : a.toZ % b.toZ = 0) : Calls Tryz.prog 184 #[v0, v1] w (Ret w fun v w' => ∃ v0 v1, v = .tuple #[v0, v1] ∧ (RV Jv X w' v0 (ofZ (a.toZ / b.toZ))) ∧ (v1 = (.int .i64 0))) := by
 obtain ⟨a1, c2, rfl, h3⟩ := RV.int r0
 obtain ⟨a4, c5, rfl, h6⟩ := RV.int r1
 have C := Cx.start hX
 have sa := r0.int_small
 have sb := r1.int_small
 have hr0 : (ofZ (a.toZ % b.toZ)).mag.length = 0 := by rw [hd]; rfl
 refine Calls.ofW (args := [(.agg #[(.bool a.neg), (.slice a1 a.mag.length c2)]), (.agg #[(.bool b.neg), (.slice a4 b.mag.length c5)])]) Tryz.func184 rfl rfl (Nat.le_of_ble_eq_true rfl) (Rg (O rfl (St.boxC C rfl ?_)))
 intro g7 w8 x9 y10 lt11 C12 s13 o14
 replace h3 := h3.sp s13
 replace h6 := h6.sp s13
 refine O rfl (St.boxC C12 rfl ?_)
 intro g15 w16 x17 y18 lt19 C20 s21 o22
 refine O rfl (St.allocC C20 io26 rfl ?_)
 intro g24 w25 x26 y27 lt28 C29 s30 o31
 replace h3 := (h3.sp s21).sp s30
 replace h6 := (h6.sp s21).sp s30
 replace o14 := (o14.spn s21).spn s30
 replace o22 := o22.spn s30
 refine Oa (Nl (Rg (O rfl (St.loadOA (vs := [(.bool a.neg), (.slice a1 a.mag.length c2)]) o14 ag26 rfl rfl rfl (O rfl (St.loadOA (vs := [(.bool b.neg), (.slice a4 b.mag.length c5)]) o22 ag26 rfl rfl rfl (O rfl (St.callR C29 cb222 rfl rfl (Jkv C29.bd (a := a) (Jj h3) (b := b) (Jj h6) hla hlb hb0) ?_))))))))
 intro v34 w35 C36 s37 h38
 replace o31 := o31.spn s37
 obtain ⟨v39, v40, v41, rfl, h42, h43, rfl⟩ := h38
 obtain ⟨a45, c46, rfl, h47⟩ := RV.int h42
 obtain ⟨a48, c49, rfl, h50⟩ := RV.int h43
 refine Om (O rfl (St.extract rfl rfl (O rfl (St.extract rfl rfl (O rfl (St.extract rfl rfl (O rfl (St.allocC C36 io26 rfl ?_))))))))
 intro g51 w52 x53 y54 lt55 C56 s57 o58
 have n61 := lt55 _ o31.blk.lt
 replace h47 := h47.sp s57
 replace o31 := o31.spn s57
 refine O rfl (St.allocC C56 io26 rfl ?_)
 intro g62 w63 x64 y65 lt66 C67 s68 o69
 have n72 := lt66 _ o31.blk.lt
 have n73 := lt66 _ o58.blk.lt
 replace o31 := o31.spn s68
 replace o58 := o58.spn s68
 refine On (St.storeC (cs' := [(.bool (ofZ (a.toZ / b.toZ)).neg), (.slice a45 (ofZ (a.toZ / b.toZ)).mag.length c46)]) C67 o58 io26 rfl rfl rfl rfl rfl rfl ?_)
 intro w74 C75 s76 o77
 replace h47 := (h47.sp s68).sp s76
 replace o69 := o69.spo s76 (Ne.symm n73)
 refine On (St.storeC (cs' := [(.bool (ofZ (a.toZ % b.toZ)).neg), (.slice a48 (ofZ (a.toZ % b.toZ)).mag.length c49)]) C75 o69 io26 rfl rfl rfl rfl rfl rfl ?_)
 intro w78 C79 s80 o81
 replace o31 := (o31.spo s76 n61).spo s80 n72
 replace o77 := o77.spo s80 n73
 refine Oa (Nl (Rh (Om (O rfl (St.neq (t := false) rfl rfl (by rw [decide_eq_true rfl]; rfl) (Nl (W.condF rfl (W.skip (Rh (O rfl (St.fieldAddr J3 rfl (O rfl (St.loadO1 o81 pl24 rfl rfl (O rfl (St.len sl24 rfl (O rfl (St.gtr (t := false) rfl rfl (decide_eq_false (by omega)) (Nl ?_))))))))))))))))))
 refine W.condF rfl (W.skip (Rg (O rfl (St.loadOA (vs := [(.bool (ofZ (a.toZ / b.toZ)).neg), (.slice a45 (ofZ (a.toZ / b.toZ)).mag.length c46)]) o77 ag26 rfl rfl rfl (On (St.storeC (cs' := [(.bool (ofZ (a.toZ / b.toZ)).neg), (.slice a45 (ofZ (a.toZ / b.toZ)).mag.length c46)]) C79 o31 io26 rfl rfl rfl rfl rfl rfl ?_))))))
 intro w82 C83 s84 o85
 replace h47 := (h47.sp s80).sp s84
 refine Oa (Nl (W.ret (Qk rfl (resV.c o85 rfl ag26 rfl) (resV.t rfl) (Ret.intro ?_ C83.below))))
 refine ⟨_, _, rfl, ?_, ?_⟩
 ·skip
  exact RV.eqv (a := (ofZ (a.toZ / b.toZ))) ((Jj h47).tr (Tr.weak C83.base)) rfl
 ·skip
  rfl
set_option maxHeartbeats 1000000 in
theorem Jlc {X : Nat → Prop} {w : World} (hX : ∀ b, X b → b < w.heap.size) {v0 : Value} {a : List Nat} (r0 : RS Jb X w v0 a) {v1 : Value} {b : List Nat} (r1 : RS Jb X w v1 b) (ha : trim a = a) (hb : trim b = b) (hla : a.length ≤ 549755813888) (hlb : b.length ≤ 549755813888) : Calls Tryz.prog 221 #[v0, v1] w (Ret w fun v w' => RS Jb X w' v (digs (Nat.gcd (val a) (val b)))) := by
 obtain ⟨a1, c2, rfl, _, _⟩ := r0.len
 obtain ⟨a3, c4, rfl, _, _⟩ := r1.len
 have C := Cx.start hX
 refine Calls.ofW (args := [(.slice a1 a.length c2), (.slice a3 b.length c4)]) Tryz.func221 rfl rfl (Nat.le_of_ble_eq_true rfl) (Rg (Oa (Nl (W.seq (W.block (W.loopN (fun μ f v => ∃ (x y : Nat → Prop) (p : Option Addr) (pc : Nat) (q : Option Addr) (qc : Nat) (A : List Nat) (B : List Nat), Cx X w x y v ∧ f 0 = (.slice p A.length pc) ∧ f 1 = (.slice q B.length qc) ∧ RS Jb x v (.slice p A.length pc) A ∧ RS Jb x v (.slice q B.length qc) B ∧ trim A = A ∧ trim B = B ∧ A.length ≤ 549755813888 ∧ B.length ≤ 549755813888 ∧ Nat.gcd (val A) (val B) = Nat.gcd (val a) (val b) ∧ μ = (val B)) _ ⟨_, _, a1, c2, a3, c4, a, b, C, rfl, rfl, r0, r1, ha, hb, hla, hlb, rfl, rfl⟩ ?_))))))
 rintro m13 f5 w6 ⟨x7, y8, p, pc, q, qc, A, B, C9, e10, e11, hA, hB, hAt, hBt, hlA, hlB, hg, hmu12⟩
 obtain ⟨f14, rfl⟩ := rebK (aC e10 (aC e11 aN))
 clear e10 e11
 have sA := hA.u32_small
 have sB := hB.u32_small
 refine Rh (Om (O rfl (St.len sl24 rfl (O rfl (St.gtr2 rfl rfl (fun hc15 => ?_) (fun hc15 => ?_))))))
 ·refine Nl (W.condT rfl (W.skip (W.block (Rh (Om (O rfl (St.len sl24 rfl (O rfl (St.leq2 rfl rfl (fun hc16 => ?_) (fun hc16 => ?_))))))))))
  ·refine Om (Og rfl rfl (St.move (Og rfl rfl (St.len sl24 rfl (Og rfl rfl (St.leq2 rfl rfl (fun hc17 => ?_) (fun hc17 => ?_)))))))
   ·refine OT (Nl (W.condT rfl (Rg (Om (O rfl (St.callR C9 Jl5 rfl rfl (Jeh C9.bd hA (by omega)) ?_))))))
    intro v18 w19 C20 s21 h22
    replace hB := hB.sp s21
    subst h22
    refine Om (O rfl (St.callR C20 Jl5 rfl rfl (Jeh C20.bd hB (by omega)) ?_))
    intro v23 w24 C25 s26 h27
    replace hA := (hA.sp s21).sp s26
    replace hB := hB.sp s26
    subst h27
    refine Oa (Oa (Nl (W.seq (W.block (W.loopN (fun μ f v => ∃ (x y : Nat → Prop) (xx : Nat) (yy : Nat), Cx X w x y v ∧ f 0 = (.slice p A.length pc) ∧ f 1 = (.slice q B.length qc) ∧ f 9 = (.slice q B.length qc) ∧ f 10 = (.int .i64 ((B.length : Nat) : Int)) ∧ f 11 = (.bool true) ∧ f 12 = (.slice p A.length pc) ∧ f 13 = (.int .i64 ((A.length : Nat) : Int)) ∧ f 14 = (.bool true) ∧ f 15 = (.bool true) ∧ f 16 = (.slice q B.length qc) ∧ f 17 = (.int .i64 ((B.length : Nat) : Int)) ∧ f 18 = (.bool true) ∧ f 19 = (.bool true) ∧ f 20 = (.slice p A.length pc) ∧ f 21 = (.int .u64 (((val A) : Nat) : Int)) ∧ f 22 = (.slice q B.length qc) ∧ f 23 = (.int .u64 (((val B) : Nat) : Int)) ∧ f 5 = (.int .u64 ((xx : Nat) : Int)) ∧ f 6 = (.int .u64 ((yy : Nat) : Int)) ∧ RS Jb x v (.slice p A.length pc) A ∧ RS Jb x v (.slice q B.length qc) B ∧ xx < 18446744073709551616 ∧ yy < 18446744073709551616 ∧ Nat.gcd xx yy = Nat.gcd (val a) (val b) ∧ μ = yy) _ ⟨_, _, (val A), (val B), C25, rfl, rfl, rfl, rfl, rfl, rfl, rfl, rfl, rfl, rfl, rfl, rfl, rfl, rfl, rfl, rfl, rfl, rfl, rfl, hA, hB, (Y5 sA (by omega)), (Y5 sB (by omega)), hg, rfl⟩ ?_)))))
    rintro m53 f28 w29 ⟨x30, y31, xx, yy, C32, e33, e34, e35, e36, e37, e38, e39, e40, e41, e42, e43, e44, e45, e46, e47, e48, e49, e50, e51, hA, hB, hx, hy, hxy, hmu52⟩
    obtain ⟨f54, rfl⟩ := rebK (aC e33 (aC e34 (aC e35 (aC e36 (aC e37 (aC e38 (aC e39 (aC e40 (aC e41 (aC e42 (aC e43 (aC e44 (aC e45 (aC e46 (aC e47 (aC e48 (aC e49 (aC e50 (aC e51 aN)))))))))))))))))))
    clear e33 e34 e35 e36 e37 e38 e39 e40 e41 e42 e43 e44 e45 e46 e47 e48 e49 e50 e51
    refine Rh (Om (O rfl (St.neq2 rfl rfl (fun hc55 => ?_) (fun hc55 => ?_))))
    ·refine Nl (W.condT rfl (W.skip (W.block (Go.Ev.W.swapRem Zc rfl rfl (by kernel_rfl) (by kernel_rfl) rfl rfl (by omega) (Xw xx yy) ?_))))
     intro f56 hK57 hp58 hq59
     have R60 := RC.draw C32
     have C61 := R60.cx
     have S62 := R60.sp
     replace hA := hA.sp S62
     replace hB := hB.sp S62
     have hK57 : Keep [26, 27, 28, 29, 5, 6] _ f56 := hK57
     obtain ⟨f63, rfl⟩ := mixK hK57 (aC hp58 (aC hq59 aN))
     refine ⟨_, (by have := Nat.mod_lt xx (show 0 < yy by omega); omega), _, _, yy, xx % yy, C61, rfl, rfl, rfl, rfl, rfl, rfl, rfl, rfl, rfl, rfl, rfl, rfl, rfl, rfl, rfl, rfl, rfl, rfl, rfl, hA, hB, hy, (by have := Nat.mod_lt xx (show 0 < yy by omega); omega), (by rw [zm, hxy]), rfl⟩
    refine Nl (W.condF rfl (W.exit (Rg (Om (O rfl (St.callR C32 Jd2 rfl rfl (yb C32.bd (n := xx) hx) ?_))))))
    intro v65 w66 C67 s68 h69
    obtain ⟨a70, c71, rfl, _, _⟩ := h69.len
    exact Oa (Nl (W.ret (Jf rfl (resV.t rfl) (Ret.intro (RS.eqv ((h69 : RS _ _ _ _ _).tr (Tr.weak C67.base)) ((by rw [← hxy, show yy = 0 by omega, Nat.gcd_zero_right]))) C67.below))))
   refine OT (Nl (W.condF rfl (W.skip (W.seq ?_))))
   have hBn : B ≠ [] := by rintro rfl; simp at hc15
   have hBp : 0 < val B := Nat.lt_of_lt_of_le (Nat.pow_pos (by decide)) (K9 hBt hBn)
   refine W.region (Om (Om (O rfl (St.callR C9 Jsi rfl rfl (Jaq C9.bd hA hB hAt hBt hBn hlA hlB) ?_))))
   intro v72 w73 C74 s75 h76
   replace hB := hB.sp s75
   obtain ⟨v77, v78, rfl, h79, h80⟩ := h76
   obtain ⟨a81, c82, rfl, _, _⟩ := h79.len
   obtain ⟨a83, c84, rfl, _, _⟩ := h80.len
   refine Om (O rfl (St.extract rfl rfl (O rfl (St.extract rfl rfl (Oa (Oa (Nl (W.region (Om (Om (Oa (Oa (Nl (⟨_, (by rw [Jt]; have := Nat.mod_lt (val A) hBp; omega), _, _, q, qc, a83, c84, B, (digs (val A % val B)), C74, rfl, rfl, hB, h80, hBt, (Z9 _), hlB, (Nat.le_trans (Qd sB hBp) hlB), (by rw [Jt, zm, hg]), rfl⟩))))))))))))))
  refine Om (Ox rfl rfl rfl (Ox rfl rfl rfl (Ox rfl rfl rfl (OF (Nl (W.condF rfl (W.skip (W.seq ?_))))))))
  have hBn : B ≠ [] := by rintro rfl; simp at hc15
  have hBp : 0 < val B := Nat.lt_of_lt_of_le (Nat.pow_pos (by decide)) (K9 hBt hBn)
  refine W.region (Om (Om (O rfl (St.callR C9 Jsi rfl rfl (Jaq C9.bd hA hB hAt hBt hBn hlA hlB) ?_))))
  intro v85 w86 C87 s88 h89
  replace hB := hB.sp s88
  obtain ⟨v90, v91, rfl, h92, h93⟩ := h89
  obtain ⟨a94, c95, rfl, _, _⟩ := h92.len
  obtain ⟨a96, c97, rfl, _, _⟩ := h93.len
  refine Om (O rfl (St.extract rfl rfl (O rfl (St.extract rfl rfl (Oa (Oa (Nl (W.region (Om (Om (Oa (Oa (Nl (⟨_, (by rw [Jt]; have := Nat.mod_lt (val A) hBp; omega), _, _, q, qc, a96, c97, B, (digs (val A % val B)), C87, rfl, rfl, hB, h93, hBt, (Z9 _), hlB, (Nat.le_trans (Qd sB hBp) hlB), (by rw [Jt, zm, hg]), rfl⟩))))))))))))))
 refine Nl (W.condF rfl (W.exit (Rg (Om (O rfl (St.callR C9 Jk3 rfl rfl (zp C9.bd hA (by omega)) ?_))))))
 intro v98 w99 C100 s101 h102
 obtain ⟨a103, c104, rfl, _, _⟩ := h102.len
 exact Oa (Nl (W.ret (Jf rfl (resV.t rfl) (Ret.intro (RS.eqv ((h102 : RS _ _ _ _ _).tr (Tr.weak C100.base)) ((by rw [← hg, show val B = 0 by rw [List.eq_nil_of_length_eq_zero (show B.length = 0 by omega)]; rfl, Nat.gcd_zero_right]; exact Jlx hAt sA))) C100.below))))
set_option maxHeartbeats 1000000 in
theorem Jnz {X : Nat → Prop} {w : World} (hX : ∀ b, X b → b < w.heap.size) {v0 : Value} {a : GInt} (r0 : RV Jv X w v0 a) {v1 : Value} {b : GInt} (r1 : RV Jv X w v1 b) (hla : a.mag.length ≤ 549755813888) (hlb : b.mag.length ≤ 549755813888) : Calls Tryz.prog 183 #[v0, v1] w (Ret w fun v w' => RV Jv X w' v (ofZ (Int.gcd a.toZ b.toZ : Int))) := by
 obtain ⟨a1, c2, rfl, h3⟩ := RV.int r0
 obtain ⟨a4, c5, rfl, h6⟩ := RV.int r1
 have C := Cx.start hX
 have sa := r0.int_small
 have sb := r1.int_small
 have tla := Ju a.mag
 have tlb := Ju b.mag
 have gl := Jps (J5 sa) (J5 sb)
 refine Calls.ofW (args := [(.agg #[(.bool a.neg), (.slice a1 a.mag.length c2)]), (.agg #[(.bool b.neg), (.slice a4 b.mag.length c5)])]) Tryz.func183 rfl rfl (Nat.le_of_ble_eq_true rfl) (Rg (O rfl (St.boxC C rfl ?_)))
 intro g7 w8 x9 y10 lt11 C12 s13 o14
 refine O rfl (St.boxC C12 rfl ?_)
 intro g15 w16 x17 y18 lt19 C20 s21 o22
 replace h3 := (h3.sp s13).sp s21
 replace h6 := (h6.sp s13).sp s21
 replace o14 := o14.spn s21
 refine O rfl (St.allocC C20 io26 rfl ?_)
 intro g24 w25 x26 y27 lt28 C29 s30 o31
 refine Nl (W.seq (W.drawC Zc 5 [[], [0], [1], [], [3]] C29 [fx (.pointer (some ⟨g7, 1, none⟩)), fx (.slice a1 a.mag.length c2), fs Jb (trim a.mag), fx (.pointer (some ⟨g15, 1, none⟩)), fx (.slice a4 b.mag.length c5)] (by kernel_rfl) ⟨sx, sx, ss, sx, sx, trivial⟩ fun f42 s43 w44 ⟨C47, S48⟩ k46 => ?_))
 replace h3 := (h3.sp s30).sp S48
 replace h6 := (h6.sp s30).sp S48
 replace o14 := (o14.spn s30).spn S48
 replace o22 := (o22.spn s30).spn S48
 have k46 : Keep [5, 6, 7, 8, 9] _ f42 := k46
 refine ⟨⟨fun _ => ?_, fun ⟨e52, _⟩ => ?_, fun ⟨e53, _⟩ => ?_, fun _ => ?_, fun ⟨e54, _⟩ => ?_, trivial⟩, fun ⟨e55, e56, d57, e58, e59, _⟩ => ?_⟩
 ·exact Ja k46 aN fun _ => OpSt.op (St.fieldAddr J3 rfl ⟨s43, RC.same C47, rfl⟩)
 ·exact Ja k46 (aC e52 aN) fun _ => OpSt.op (St.loadO1 o14 pl24 rfl rfl ⟨s43, RC.same C47, rfl⟩)
 ·refine Ja k46 (aC e53 aN) fun _ => OpSt.op (St.callR C47 Qj rfl rfl (Zf C47.bd h3 (by omega)) ?_)
  intro v60 w61 C62 s63 h64
  exact ⟨s43, ⟨C62, s63⟩, h64⟩
 ·exact Ja k46 aN fun _ => OpSt.op (St.fieldAddr J3 rfl ⟨s43, RC.same C47, rfl⟩)
 ·exact Ja k46 (aC e54 aN) fun _ => OpSt.op (St.loadO1 o22 pl24 rfl rfl ⟨s43, RC.same C47, rfl⟩)
 obtain ⟨a66, c67, e65, d57⟩ := RS.opn d57
 obtain ⟨f68, rfl⟩ := mixK k46 (aC e55 (aC e56 (aC e65 (aC e58 (aC e59 aN)))))
 refine O rfl (St.callR C47 Qj rfl rfl (Zf C47.bd h6 (by omega)) ?_)
 intro v69 w70 C71 s72 h73
 replace d57 := d57.sp s72
 replace o31 := (o31.spn S48).spn s72
 obtain ⟨a74, c75, rfl, _, _⟩ := h73.len
 refine O rfl (St.callR C71 cb221 rfl rfl (Jlc C71.bd d57 h73 (K5 sa) (K5 sb) (by omega) (by omega)) ?_)
 intro v76 w77 C78 s79 h80
 obtain ⟨a81, c82, rfl, _, _⟩ := h80.len
 refine O rfl (St.callR C78 Va rfl rfl (Z8 C78.bd h80 (by omega)) ?_)
 intro v83 w84 C85 s86 h87
 replace o31 := (o31.spn s79).spn s86
 obtain ⟨a88, c89, rfl, h90⟩ := RV.int h87
 refine On (St.storeC (cs' := [(.bool (mkSg false (digs (Nat.gcd (val (trim a.mag)) (val (trim b.mag))))).neg), (.slice a88 (mkSg false (digs (Nat.gcd (val (trim a.mag)) (val (trim b.mag))))).mag.length c89)]) C85 o31 io26 rfl rfl rfl rfl rfl rfl ?_)
 intro w91 C92 s93 o94
 replace h90 := h90.sp s93
 refine Nl (W.ret (Jf rfl (resV.c o94 rfl ag26 rfl) (Ret.intro ?_ C92.below)))
 exact RV.eqv (a := (mkSg false (digs (Nat.gcd (val (trim a.mag)) (val (trim b.mag)))))) ((Jj h90).tr (Tr.weak C92.base)) (by exact Yn (Zr _) (by rw [Jt, Z6, Z6, ← Xc, ← Xc]; rfl))
set_option maxHeartbeats 1000000 in
theorem Jo6 {X : Nat → Prop} {w : World} (hX : ∀ b, X b → b < w.heap.size) {n : Int} (hlo : -9223372036854775808 ≤ n) (hhi : n ≤ 9223372036854775807) : Calls Tryz.prog 158 #[(.int .i64 n)] w (Ret w fun v w' => RV Jv X w' v (ofZ n)) := by
 have C := Cx.start hX
 have hd2 : (digs n.natAbs).length ≤ 2 := Jy (by omega)
 refine Calls.ofW (args := [(.int .i64 n)]) Tryz.func158 rfl rfl (Nat.le_of_ble_eq_true rfl) (Rg (O rfl (St.allocC C io26 rfl ?_)))
 intro g1 w2 x3 y4 lt5 C6 s7 o8
 refine Nl (Rh (Om (O rfl (St.lss2 rfl rfl (fun hc9 => ?_) (fun hc9 => ?_)))))
 ·refine Nl (W.condT rfl (Rg (Om (O rfl (St.conv (z := (n + 18446744073709551616)) us3 Zw rfl (by rw [IntKind.wrap_u64]; omega) (O rfl (St.neg (z := ((n.natAbs : Nat) : Int)) rfl (by rw [IntKind.wrap_u64]; omega) (O rfl (St.callR C6 Jd2 rfl rfl (yb C6.bd (n := n.natAbs) (by omega)) ?_)))))))))
  intro v10 w11 C12 s13 h14
  obtain ⟨a15, c16, rfl, _, _⟩ := h14.len
  refine O rfl (St.callR C12 Va rfl rfl (Z8 C12.bd h14 (by omega)) ?_)
  intro v17 w18 C19 s20 h21
  replace o8 := (o8.spn s13).spn s20
  obtain ⟨a22, c23, rfl, h24⟩ := RV.int h21
  refine On (St.storeC (cs' := [(.bool (mkSg true (digs n.natAbs)).neg), (.slice a22 (mkSg true (digs n.natAbs)).mag.length c23)]) C19 o8 io26 rfl rfl rfl rfl rfl rfl ?_)
  intro w25 C26 s27 o28
  replace h24 := h24.sp s27
  refine Nl (W.ret (Jf rfl (resV.c o28 rfl ag26 rfl) (Ret.intro ?_ C26.below)))
  exact RV.eqv (a := (mkSg true (digs n.natAbs))) ((Jj h24).tr (Tr.weak C26.base)) (by exact Yn (Zr _) (by rw [Jt]; simp [Jk]; omega))
 refine Nl (W.condF rfl (W.skip (Rg (Om (O rfl (St.conv (z := ((n.natAbs : Nat) : Int)) us3 Zw rfl (by rw [IntKind.wrap_u64]; omega) (O rfl (St.callR C6 Jd2 rfl rfl (yb C6.bd (n := n.natAbs) (by omega)) ?_))))))))
 intro v29 w30 C31 s32 h33
 obtain ⟨a34, c35, rfl, _, _⟩ := h33.len
 refine O rfl (St.callR C31 Va rfl rfl (Z8 C31.bd h33 (by omega)) ?_)
 intro v36 w37 C38 s39 h40
 replace o8 := (o8.spn s32).spn s39
 obtain ⟨a41, c42, rfl, h43⟩ := RV.int h40
 refine On (St.storeC (cs' := [(.bool (mkSg false (digs n.natAbs)).neg), (.slice a41 (mkSg false (digs n.natAbs)).mag.length c42)]) C38 o8 io26 rfl rfl rfl rfl rfl rfl ?_)
 intro w44 C45 s46 o47
 replace h43 := h43.sp s46
 refine Nl (W.ret (Jf rfl (resV.c o47 rfl ag26 rfl) (Ret.intro ?_ C45.below)))
 exact RV.eqv (a := (mkSg false (digs n.natAbs))) ((Jj h43).tr (Tr.weak C45.base)) (by exact Yn (Zr _) (by rw [Jt]; simp [Jk]; omega))
end Go.Wf
namespace Go.Wf
set_option linter.unusedVariables false
set_option linter.unusedSimpArgs false
open Go
theorem Jdf : ofZ 1 = ⟨false, [1]⟩ := by
 unfold ofZ
 rw [show (1 : Int).natAbs = 1 from rfl, Jaa (by decide) (by decide)]; rfl
theorem Jst {m : List Nat} (h : ((m.length : Nat) : Int) = 1) : m = [m.getD 0 0] := by
 match m, h with
 | [d], _ => rfl
 | [], h => simp at h
 | _ :: _ :: _, h => simp at h; omega
theorem Jwi {a : GInt} (h1 : ((a.mag.length : Nat) : Int) = 1) (h2 : ((a.mag.getD 0 0 : Nat) : Int) = 1) : (!a.neg) = decide (a = ofZ 1) := by
 have e := Jst h1
 have h2 : a.mag.getD 0 0 = 1 := by omega
 rw [h2] at e
 obtain ⟨n, m⟩ := a
 have e : m = [1] := e
 subst e
 rw [Jdf]
 cases n <;> simp
theorem Jwp {a : GInt} (h2 : ¬ ((a.mag.getD 0 0 : Nat) : Int) = 1) : false = decide (a = ofZ 1) := by
 refine (decide_eq_false fun e => h2 ?_).symm
 rw [e, Jdf]; rfl
theorem Juy {a : GInt} (h1 : ¬ ((a.mag.length : Nat) : Int) = 1) : false = decide (a = ofZ 1) := by
 refine (decide_eq_false fun e => h1 ?_).symm
 rw [e, Jdf]; rfl
theorem Yt {z : Int} : ofZ z = ofZ 1 ↔ z = 1 := ⟨fun h => Jjt h, fun h => by rw [h]⟩
theorem J1 {a : GInt} (sa : Jo a.mag) : (ofZ a.toZ).mag.length ≤ a.mag.length := by
 rw [X3, Xc]; exact Jy (Ze _ sa)
theorem Zq (z : Int) : (ofZ (-z)).mag = (ofZ z).mag := by rw [X3, X3, Int.natAbs_neg]
theorem Xe {a b : Nat} (h : a ≤ b) : (digs a).length ≤ (digs b).length := Jy (Nat.lt_of_le_of_lt h (Vc b))
theorem xn {y z : Int} (h : y.natAbs ≤ z.natAbs) : (ofZ y).mag.length ≤ (ofZ z).mag.length := Xe h
theorem J7 {z : Int} : (ofZ z).mag.length = 0 ↔ z = 0 := by
 rw [X3, List.length_eq_zero_iff, j3, Int.natAbs_eq_zero]
theorem Kb (z : Int) : val (ofZ z).mag = z.natAbs := Jt _
theorem Jc4 {n d : Int} (hd : d ≠ 0) : (ofZ (Int.gcd n d : Int)).mag.length ≤ (ofZ d).mag.length :=
 xn (by
  have : Int.gcd n d ∣ d.natAbs := Nat.gcd_dvd_right _ _
  have h2 := Nat.le_of_dvd (by omega) this
  simpa using h2)
theorem Jou {n d : Int} (hd : d ≠ 0) : ((Int.gcd n d : Nat) : Int) ≠ 0 := by
 have := Int.gcd_pos_of_ne_zero_right n hd
 omega
theorem Jbg (n d : Int) : n % ((Int.gcd n d : Nat) : Int) = 0 := Int.emod_eq_zero_of_dvd (Int.gcd_dvd_left _ _)
theorem Jbx (n d : Int) : d % ((Int.gcd n d : Nat) : Int) = 0 := Int.emod_eq_zero_of_dvd (Int.gcd_dvd_right _ _)
theorem Ja6 {n d : Int} (h : d = 0 ∨ n = 0) : (⟨⟨false, []⟩, ofZ 1⟩ : GRat) = ofQ (Rat.divInt n d) := by
 rcases h with rfl | rfl
 ·exact (Jcs n).symm
 ·exact (Jbv d).symm
theorem Qz {n d : Int} (h : d = 1) : (⟨ofZ n, ofZ d⟩ : GRat) = ofQ (Rat.divInt n d) := (Jpa h).symm
theorem Vz {n d : Int} (hd : 0 < d) (h : ((Int.gcd n d : Nat) : Int) = 1) : (⟨ofZ n, ofZ d⟩ : GRat) = ofQ (Rat.divInt n d) := (Jdk hd (by omega)).symm
theorem zl {n d : Int} (hd : 0 < d) : (⟨ofZ (n / ((Int.gcd n d : Nat) : Int)), ofZ (d / ((Int.gcd n d : Nat) : Int))⟩ : GRat) = ofQ (Rat.divInt n d) := (Jc8 hd).symm
theorem zh (n d : Int) : Rat.divInt (-n) (-d) = Rat.divInt n d := Rat.neg_divInt_neg n d
end Go.Wf
namespace Go.Wf
open Go Go.Proofs Go.RowKit
set_option maxRecDepth 100000
set_option linter.unusedVariables false
set_option linter.unusedSimpArgs false
theorem RV.rat_small {X : Nat → Prop} {w : World} {v : Value} {a : GRat} (h : RV Yk X w v a) : Jo a.num.mag ∧ Jo a.den.mag := by
 obtain ⟨s, c, s2, c2, rfl, h2, h3⟩ := RV.rat h
 exact ⟨h2.u32_small, h3.u32_small⟩
set_option maxHeartbeats 1000000 in
theorem Jf1 {X : Nat → Prop} {w : World} (hX : ∀ b, X b → b < w.heap.size) {v0 : Value} {a : GInt} (r0 : RV Jv X w v0 a)  : Calls Tryz.prog 152 #[v0] w (Ret w fun v w' => v = (.bool (decide (a = ofZ 1)))) := by
 obtain ⟨a1, c2, rfl, h3⟩ := RV.int r0
 have C := Cx.start hX
 have sa := r0.int_small
 refine Calls.ofW (args := [(.agg #[(.bool a.neg), (.slice a1 a.mag.length c2)])]) Tryz.func152 rfl rfl (Nat.le_of_ble_eq_true rfl) (Rg (O rfl (St.boxC C rfl ?_)))
 intro g4 w5 x6 y7 lt8 C9 s10 o11
 replace h3 := h3.sp s10
 refine Oa (Nl (Rg (O rfl (St.fieldAddr J3 rfl (O rfl (St.loadO1 o11 pl24 rfl rfl (O rfl (St.len sl24 rfl (O rfl (St.eql2 rfl rfl (fun hc12 => ?_) (fun hc12 => ?_)))))))))))
 ·refine Om (Og rfl rfl (St.fieldAddr J3 rfl (Og rfl rfl (St.loadO1 o11 pl24 rfl rfl (Og rfl rfl (St.idx (j := 0) (u := (a.mag.getD 0 0)) h3 sl24 Jh rfl rfl rfl (Jl (by omega)) ?_))))))
  intro b13 o14 cs15 e16
  obtain ⟨rfl, bd17⟩ : cs15 = _ ∧ _ := e16.rd
  refine Og rfl rfl (St.load1 J9 rfl (e16.cell 0 _ rfl) (Og rfl rfl (St.eql2 rfl rfl (fun hc18 => ?_) (fun hc18 => ?_))))
  ·exact OT (Om (Og rfl rfl (St.fieldAddr Zg rfl (Og rfl rfl (St.loadO1 o11 pl4 rfl rfl (Og rfl rfl (St.not rfl (OT (Oa (Nl (W.ret (Jf rfl (resV.t rfl) (Ret.intro (congrArg (Value.bool) (Jwi hc12 hc18)) C9.below)))))))))))))
  exact OT (Om (Ox rfl rfl rfl (Ox rfl rfl rfl (Ox rfl rfl rfl (OF (Oa (Nl (W.ret (Jf rfl (resV.t rfl) (Ret.intro (congrArg (Value.bool) (Jwp hc18)) C9.below))))))))))
 exact Om (Ox rfl rfl rfl (Ox rfl rfl rfl (Ox rfl rfl rfl (Ox rfl rfl rfl (Ox rfl rfl rfl (OF (Om (Ox rfl rfl rfl (Ox rfl rfl rfl (Ox rfl rfl rfl (OF (Oa (Nl (W.ret (Jf rfl (resV.t rfl) (Ret.intro (congrArg (Value.bool) (Juy hc12)) C9.below))))))))))))))))
set_option maxHeartbeats 1000000 in
theorem Jeu {X : Nat → Prop} {w : World} (hX : ∀ b, X b → b < w.heap.size) {v0 : Value} {n : GInt} (r0 : RV Jv X w v0 n) {v1 : Value} {d : GInt} (r1 : RV Jv X w v1 d) (hln : n.mag.length ≤ 274877906944) (hld : d.mag.length ≤ 274877906944) : Calls Tryz.prog 137 #[v0, v1] w (Ret w fun v w' => RV Yk X w' v (ofQ (Rat.divInt n.toZ d.toZ))) := by
 obtain ⟨a1, c2, rfl, h3⟩ := RV.int r0
 obtain ⟨a4, c5, rfl, h6⟩ := RV.int r1
 have C := Cx.start hX
 have sn := r0.int_small
 have sd := r1.int_small
 have hN := J1 sn
 have hD := J1 sd
 refine Calls.ofW (args := [(.agg #[(.bool n.neg), (.slice a1 n.mag.length c2)]), (.agg #[(.bool d.neg), (.slice a4 d.mag.length c5)])]) Tryz.func137 rfl rfl (Nat.le_of_ble_eq_true rfl) (Rg (O rfl (St.boxC C rfl ?_)))
 intro g7 w8 x9 y10 lt11 C12 s13 o14
 refine O rfl (St.boxC C12 rfl ?_)
 intro g15 w16 x17 y18 lt19 C20 s21 o22
 have n23 := lt19 _ o14.blk.lt
 replace h3 := (h3.sp s13).sp s21
 replace h6 := (h6.sp s13).sp s21
 replace o14 := o14.spn s21
 refine O rfl (St.allocC C20 io28 rfl ?_)
 intro g24 w25 x26 y27 lt28 C29 s30 o31
 have n32 := lt28 _ o14.blk.lt
 have n33 := lt28 _ o22.blk.lt
 refine Nl (W.seq (W.drawC Zc 3 [[], [0], []] C29 [fx (.agg #[(.bool n.neg), (.slice a1 n.mag.length c2)]), fr Jv (ofZ n.toZ), fx (.agg #[(.bool d.neg), (.slice a4 d.mag.length c5)])] (by kernel_rfl) ⟨sx, sr, sx, trivial⟩ fun f43 s44 w45 ⟨C48, S49⟩ k47 => ?_))
 replace h3 := (h3.sp s30).sp S49
 replace h6 := (h6.sp s30).sp S49
 replace o14 := (o14.spn s30).spn S49
 replace o22 := (o22.spn s30).spn S49
 have k47 : Keep [6, 7, 8] _ f43 := k47
 refine ⟨⟨fun _ => ?_, fun ⟨e53, _⟩ => ?_, fun _ => ?_, trivial⟩, fun ⟨e54, d55, e56, _⟩ => ?_⟩
 ·exact Ja k47 aN fun _ => OpSt.op (St.loadOA (vs := [(.bool n.neg), (.slice a1 n.mag.length c2)]) o14 ag26 rfl rfl rfl ⟨s44, RC.same C48, rfl⟩)
 ·refine Ja k47 (aC e53 aN) fun _ => OpSt.op (St.callR C48 Ju7 rfl rfl (Jfs C48.bd (a := n) (Jj h3) (by omega)) ?_)
  intro v57 w58 C59 s60 h61
  exact ⟨s44, ⟨C59, s60⟩, h61⟩
 ·exact Ja k47 aN fun _ => OpSt.op (St.loadOA (vs := [(.bool d.neg), (.slice a4 d.mag.length c5)]) o22 ag26 rfl rfl rfl ⟨s44, RC.same C48, rfl⟩)
 obtain ⟨a63, c64, e62, h65⟩ := RV.int d55
 obtain ⟨f66, rfl⟩ := mixK k47 (aC e54 (aC e62 (aC e56 aN)))
 refine O rfl (St.callR C48 Ju7 rfl rfl (Jfs C48.bd (a := d) (Jj h6) (by omega)) ?_)
 intro v67 w68 C69 s70 h71
 replace o14 := o14.spn s70
 replace o31 := (o31.spn S49).spn s70
 obtain ⟨a72, c73, rfl, h74⟩ := RV.int h71
 refine On (St.storeC (cs' := [(.bool (ofZ n.toZ).neg), (.slice a63 (ofZ n.toZ).mag.length c64)]) C69 o14 io26 rfl rfl rfl rfl rfl rfl ?_)
 intro w75 C76 s77 o78
 replace h65 := (h65.sp s70).sp s77
 replace o22 := (o22.spn s70).spo s77 (Ne.symm n23)
 refine On (St.storeC (cs' := [(.bool (ofZ d.toZ).neg), (.slice a72 (ofZ d.toZ).mag.length c73)]) C76 o22 io26 rfl rfl rfl rfl rfl rfl ?_)
 intro w79 C80 s81 o82
 replace h74 := (h74.sp s77).sp s81
 replace o78 := o78.spo s81 n23
 replace o31 := (o31.spo s77 (Ne.symm n32)).spo s81 (Ne.symm n33)
 refine Nl (W.seq (W.block (Rg (O rfl (St.fieldAddr J3 rfl (O rfl (St.loadO1 o82 pl24 rfl rfl (O rfl (St.len sl24 rfl (O rfl (St.eql2 rfl rfl (fun hc83 => ?_) (fun hc83 => ?_))))))))))))
 ·refine Om (Ox rfl rfl rfl (Ox rfl rfl rfl (Ox rfl rfl rfl (Ox rfl rfl rfl (OT (Oa (Nl (W.condT rfl (Rg (O rfl (St.callR C80 Jpq rfl rfl (Jo6 C80.bd (by decide) (by decide)) ?_)))))))))))
  intro v84 w85 C86 s87 h88
  replace o31 := o31.spn s87
  obtain ⟨a89, c90, rfl, h91⟩ := RV.int h88
  refine O rfl (St.build (cs := [(.bool false), (.slice none 0 0), (.bool (ofZ 1).neg), (.slice a89 (ofZ 1).mag.length c90)]) rfl (by kernel_rfl) (On (St.storeC (cs' := [(.bool false), (.slice none 0 0), (.bool (ofZ 1).neg), (.slice a89 (ofZ 1).mag.length c90)]) C86 o31 io28 rfl rfl rfl rfl rfl rfl ?_)))
  intro w92 C93 s94 o95
  replace h91 := h91.sp s94
  refine Nl (W.ret (Jf rfl (resV.c o95 rfl ag28 rfl) (Ret.intro ?_ C93.below)))
  exact RV.eqv (a := (⟨⟨false, []⟩, ⟨(ofZ 1).neg, (ofZ 1).mag⟩⟩ : GRat)) ((Zp RS.nil h91).tr (Tr.weak C93.base)) ((Ja6 (by first | (left; exact J7.1 (by omega)) | (right; exact J7.1 (by omega)))))
 refine Om (Og rfl rfl (St.fieldAddr J3 rfl (Og rfl rfl (St.loadO1 o78 pl24 rfl rfl (Og rfl rfl (St.len sl24 rfl (Og rfl rfl (St.eql2 rfl rfl (fun hc96 => ?_) (fun hc96 => ?_)))))))))
 ·refine OF (Oa (Nl (W.condT rfl (Rg (O rfl (St.callR C80 Jpq rfl rfl (Jo6 C80.bd (by decide) (by decide)) ?_))))))
  intro v97 w98 C99 s100 h101
  replace o31 := o31.spn s100
  obtain ⟨a102, c103, rfl, h104⟩ := RV.int h101
  refine O rfl (St.build (cs := [(.bool false), (.slice none 0 0), (.bool (ofZ 1).neg), (.slice a102 (ofZ 1).mag.length c103)]) rfl (by kernel_rfl) (On (St.storeC (cs' := [(.bool false), (.slice none 0 0), (.bool (ofZ 1).neg), (.slice a102 (ofZ 1).mag.length c103)]) C99 o31 io28 rfl rfl rfl rfl rfl rfl ?_)))
  intro w105 C106 s107 o108
  replace h104 := h104.sp s107
  refine Nl (W.ret (Jf rfl (resV.c o108 rfl ag28 rfl) (Ret.intro ?_ C106.below)))
  exact RV.eqv (a := (⟨⟨false, []⟩, ⟨(ofZ 1).neg, (ofZ 1).mag⟩⟩ : GRat)) ((Zp RS.nil h104).tr (Tr.weak C106.base)) ((Ja6 (by first | (left; exact J7.1 (by omega)) | (right; exact J7.1 (by omega)))))
 refine OF (Oa (Nl (W.condF rfl (W.seq ?_))))
 have hd0 : d.toZ ≠ 0 := fun e => hc83 (by have := J7.2 e; omega)
 refine W.region (O rfl (St.fieldAddr Zg rfl (O rfl (St.bool (St.loadO1 o82 pl4 rfl rfl ⟨_, rfl, fun hb109 => ?_, fun hb109 => ?_⟩)))))
 ·refine Oa (Nl (W.condT rfl ?_))
  have hdp : 0 < -d.toZ := by have hh := hb109; rw [Jas, decide_eq_true_eq] at hh; omega
  refine W.drawC Zc 3 [[], [0], []] C80 [fx (.agg #[(.bool (ofZ n.toZ).neg), (.slice a63 (ofZ n.toZ).mag.length c64)]), fr Jv (ofZ (-n.toZ)), fx (.agg #[(.bool (ofZ d.toZ).neg), (.slice a72 (ofZ d.toZ).mag.length c73)])] (by kernel_rfl) ⟨sx, sr, sx, trivial⟩ fun f119 s120 w121 ⟨C124, S125⟩ k123 => ?_
  replace h65 := (h65.sp s81).sp S125
  replace h74 := h74.sp S125
  replace o78 := o78.spn S125
  replace o82 := o82.spn S125
  replace o31 := o31.spn S125
  have k123 : Keep [26, 27, 28] _ f119 := k123
  refine ⟨⟨fun _ => ?_, fun ⟨e129, _⟩ => ?_, fun _ => ?_, trivial⟩, fun ⟨e130, d131, e132, _⟩ => ?_⟩
  ·exact Ja k123 aN fun _ => OpSt.op (St.loadOA (vs := [(.bool (ofZ n.toZ).neg), (.slice a63 (ofZ n.toZ).mag.length c64)]) o78 ag26 rfl rfl rfl ⟨s120, RC.same C124, rfl⟩)
  ·refine Ja k123 (aC e129 aN) fun _ => OpSt.op (St.callR C124 Jrw rfl rfl (Jip C124.bd (a := (ofZ n.toZ)) (Jj h65) (by omega)) ?_)
   intro v133 w134 C135 s136 h137
   simp only [Jp, Yv] at h137
   exact ⟨s120, ⟨C135, s136⟩, h137⟩
  ·exact Ja k123 aN fun _ => OpSt.op (St.loadOA (vs := [(.bool (ofZ d.toZ).neg), (.slice a72 (ofZ d.toZ).mag.length c73)]) o82 ag26 rfl rfl rfl ⟨s120, RC.same C124, rfl⟩)
  obtain ⟨a139, c140, e138, h141⟩ := RV.int d131
  obtain ⟨f142, rfl⟩ := mixK k123 (aC e130 (aC e138 (aC e132 aN)))
  refine O rfl (St.callR C124 Jrw rfl rfl (Jip C124.bd (a := (ofZ d.toZ)) (Jj h74) (by omega)) ?_)
  intro v143 w144 C145 s146 h147
  replace o78 := o78.spn s146
  simp only [Jp, Yv] at h147
  obtain ⟨a148, c149, rfl, h150⟩ := RV.int h147
  refine On (St.storeC (cs' := [(.bool (ofZ (-n.toZ)).neg), (.slice a139 (ofZ (-n.toZ)).mag.length c140)]) C145 o78 io26 rfl rfl rfl rfl rfl rfl ?_)
  intro w151 C152 s153 o154
  replace h141 := (h141.sp s146).sp s153
  replace o82 := (o82.spn s146).spo s153 (Ne.symm n23)
  replace o31 := (o31.spn s146).spo s153 (Ne.symm n32)
  refine On (St.storeC (cs' := [(.bool (ofZ (-d.toZ)).neg), (.slice a148 (ofZ (-d.toZ)).mag.length c149)]) C152 o82 io26 rfl rfl rfl rfl rfl rfl ?_)
  intro w155 C156 s157 o158
  replace h150 := (h150.sp s153).sp s157
  refine Nl (Rh (O rfl (St.loadOA (vs := [(.bool (ofZ (-d.toZ)).neg), (.slice a148 (ofZ (-d.toZ)).mag.length c149)]) o158 ag26 rfl rfl rfl (O rfl (St.bool (St.callR C156 Jgh rfl rfl (Jf1 C156.bd (a := (ofZ (-d.toZ))) (Jj h150)) ?_))))))
  intro v159 w160 C161 s162 h163
  replace h141 := (h141.sp s157).sp s162
  replace h150 := h150.sp s162
  replace o154 := (o154.spo s157 n23).spn s162
  replace o158 := o158.spn s162
  replace o31 := (o31.spo s157 (Ne.symm n33)).spn s162
  refine ⟨_, h163, fun hb164 => ?_, fun hb164 => ?_⟩
  ·refine Nl (W.condT rfl (Rg (O rfl (St.loadOA (vs := [(.bool (ofZ (-n.toZ)).neg), (.slice a139 (ofZ (-n.toZ)).mag.length c140)]) o154 ag26 rfl rfl rfl (O rfl (St.loadOA (vs := [(.bool (ofZ (-d.toZ)).neg), (.slice a148 (ofZ (-d.toZ)).mag.length c149)]) o158 ag26 rfl rfl rfl (O rfl (St.build (cs := [(.bool (ofZ (-n.toZ)).neg), (.slice a139 (ofZ (-n.toZ)).mag.length c140), (.bool (ofZ (-d.toZ)).neg), (.slice a148 (ofZ (-d.toZ)).mag.length c149)]) rfl (by kernel_rfl) ?_))))))))
   refine On (St.storeC (cs' := [(.bool (ofZ (-n.toZ)).neg), (.slice a139 (ofZ (-n.toZ)).mag.length c140), (.bool (ofZ (-d.toZ)).neg), (.slice a148 (ofZ (-d.toZ)).mag.length c149)]) C161 o31 io28 rfl rfl rfl rfl rfl rfl ?_)
   intro w165 C166 s167 o168
   replace h141 := h141.sp s167
   replace h150 := h150.sp s167
   refine Nl (W.ret (Jf rfl (resV.c o168 rfl ag28 rfl) (Ret.intro ?_ C166.below)))
   exact RV.eqv (a := (⟨⟨(ofZ (-n.toZ)).neg, (ofZ (-n.toZ)).mag⟩, ⟨(ofZ (-d.toZ)).neg, (ofZ (-d.toZ)).mag⟩⟩ : GRat)) ((Zp h141 h150).tr (Tr.weak C166.base)) (Eq.trans ((by first | exact Qz (Yt.1 (of_decide_eq_true (by assumption))) | exact Vz hdp (Yt.1 (of_decide_eq_true (by assumption))))) (congrArg ofQ (zh _ _)))
  refine Nl (W.condF rfl (W.skip (W.seq (W.seq ?_))))
  have hgm := Jc4 (n := (-n.toZ)) (d := (-d.toZ)) (by omega)
  have hgn := Jou (n := (-n.toZ)) (d := (-d.toZ)) (by omega)
  refine W.region (O rfl (St.loadOA (vs := [(.bool (ofZ (-n.toZ)).neg), (.slice a139 (ofZ (-n.toZ)).mag.length c140)]) o154 ag26 rfl rfl rfl (O rfl (St.loadOA (vs := [(.bool (ofZ (-d.toZ)).neg), (.slice a148 (ofZ (-d.toZ)).mag.length c149)]) o158 ag26 rfl rfl rfl (O rfl (St.callR C161 Jus rfl rfl (Jnz C161.bd (a := (ofZ (-n.toZ))) (Jj h141) (b := (ofZ (-d.toZ))) (Jj h150) (by first | omega | (rw [Zq]; omega)) (by first | omega | (rw [Zq]; omega))) ?_))))))
  intro v169 w170 C171 s172 h173
  replace o154 := o154.spn s172
  replace o158 := o158.spn s172
  replace o31 := o31.spn s172
  simp only [Jp, Yv] at h173
  obtain ⟨a174, c175, rfl, h176⟩ := RV.int h173
  refine O rfl (St.allocC C171 io26 rfl ?_)
  intro g177 w178 x179 y180 lt181 C182 s183 o184
  have n185 := lt181 _ o154.blk.lt
  have n186 := lt181 _ o158.blk.lt
  have n187 := lt181 _ o31.blk.lt
  replace h141 := (h141.sp s172).sp s183
  replace h150 := (h150.sp s172).sp s183
  replace o154 := o154.spn s183
  replace o158 := o158.spn s183
  replace o31 := o31.spn s183
  refine On (St.storeC (cs' := [(.bool (ofZ (Int.gcd (-n.toZ) (-d.toZ) : Int)).neg), (.slice a174 (ofZ (Int.gcd (-n.toZ) (-d.toZ) : Int)).mag.length c175)]) C182 o184 io26 rfl rfl rfl rfl rfl rfl ?_)
  intro w188 C189 s190 o191
  replace h176 := (h176.sp s183).sp s190
  refine Nl (Rg (O rfl (St.loadOA (vs := [(.bool (ofZ (Int.gcd (-n.toZ) (-d.toZ) : Int)).neg), (.slice a174 (ofZ (Int.gcd (-n.toZ) (-d.toZ) : Int)).mag.length c175)]) o191 ag26 rfl rfl rfl (O rfl (St.bool (St.callR C189 Jgh rfl rfl (Jf1 C189.bd (a := (ofZ (Int.gcd (-n.toZ) (-d.toZ) : Int))) (Jj h176)) ?_))))))
  intro v192 w193 C194 s195 h196
  replace h141 := (h141.sp s190).sp s195
  replace h150 := (h150.sp s190).sp s195
  replace h176 := h176.sp s195
  replace o154 := (o154.spo s190 n185).spn s195
  replace o158 := (o158.spo s190 n186).spn s195
  replace o31 := (o31.spo s190 n187).spn s195
  replace o191 := o191.spn s195
  refine ⟨_, h196, fun hb197 => ?_, fun hb197 => ?_⟩
  ·refine O rfl (St.not rfl (Nl (W.condF rfl (W.skip (Rg (O rfl (St.loadOA (vs := [(.bool (ofZ (-n.toZ)).neg), (.slice a139 (ofZ (-n.toZ)).mag.length c140)]) o154 ag26 rfl rfl rfl (O rfl (St.loadOA (vs := [(.bool (ofZ (-d.toZ)).neg), (.slice a148 (ofZ (-d.toZ)).mag.length c149)]) o158 ag26 rfl rfl rfl (O rfl (St.build (cs := [(.bool (ofZ (-n.toZ)).neg), (.slice a139 (ofZ (-n.toZ)).mag.length c140), (.bool (ofZ (-d.toZ)).neg), (.slice a148 (ofZ (-d.toZ)).mag.length c149)]) rfl (by kernel_rfl) ?_)))))))))))
   refine On (St.storeC (cs' := [(.bool (ofZ (-n.toZ)).neg), (.slice a139 (ofZ (-n.toZ)).mag.length c140), (.bool (ofZ (-d.toZ)).neg), (.slice a148 (ofZ (-d.toZ)).mag.length c149)]) C194 o31 io28 rfl rfl rfl rfl rfl rfl ?_)
   intro w198 C199 s200 o201
   replace h141 := h141.sp s200
   replace h150 := h150.sp s200
   refine Nl (W.ret (Jf rfl (resV.c o201 rfl ag28 rfl) (Ret.intro ?_ C199.below)))
   exact RV.eqv (a := (⟨⟨(ofZ (-n.toZ)).neg, (ofZ (-n.toZ)).mag⟩, ⟨(ofZ (-d.toZ)).neg, (ofZ (-d.toZ)).mag⟩⟩ : GRat)) ((Zp h141 h150).tr (Tr.weak C199.base)) (Eq.trans ((by first | exact Qz (Yt.1 (of_decide_eq_true (by assumption))) | exact Vz hdp (Yt.1 (of_decide_eq_true (by assumption))))) (congrArg ofQ (zh _ _)))
  refine O rfl (St.not rfl (Nl (W.condT rfl (Rg (O rfl (St.loadOA (vs := [(.bool (ofZ (-n.toZ)).neg), (.slice a139 (ofZ (-n.toZ)).mag.length c140)]) o154 ag26 rfl rfl rfl (O rfl (St.loadOA (vs := [(.bool (ofZ (Int.gcd (-n.toZ) (-d.toZ) : Int)).neg), (.slice a174 (ofZ (Int.gcd (-n.toZ) (-d.toZ) : Int)).mag.length c175)]) o191 ag26 rfl rfl rfl (O rfl (St.callR C194 Jle rfl rfl (zd C194.bd (a := (ofZ (-n.toZ))) (Jj h141) (b := (ofZ (Int.gcd (-n.toZ) (-d.toZ) : Int))) (Jj h176) (by first | omega | (rw [Zq]; omega)) (by first | omega | (have h8 := hgm; rw [Zq] at h8; omega)) (by rw [Kb]; omega) (by rw [Jp, Jp]; exact Jbg _ _)) ?_))))))))))
  intro v202 w203 C204 s205 h206
  replace o154 := o154.spn s205
  simp only [Jp, Yv] at h206
  obtain ⟨v207, v208, rfl, h209, rfl⟩ := h206
  obtain ⟨a211, c212, rfl, h213⟩ := RV.int h209
  refine Om (O rfl (St.extract rfl rfl (O rfl (St.extract rfl rfl (On (St.storeC (cs' := [(.bool (ofZ ((-n.toZ) / (Int.gcd (-n.toZ) (-d.toZ) : Int))).neg), (.slice a211 (ofZ ((-n.toZ) / (Int.gcd (-n.toZ) (-d.toZ) : Int))).mag.length c212)]) C204 o154 io26 rfl rfl rfl rfl rfl rfl ?_))))))
  intro w214 C215 s216 o217
  replace h150 := (h150.sp s205).sp s216
  replace h176 := (h176.sp s205).sp s216
  replace o158 := (o158.spn s205).spo s216 (Ne.symm n23)
  replace o31 := (o31.spn s205).spo s216 (Ne.symm n32)
  replace o191 := (o191.spn s205).spo s216 (Ne.symm n185)
  refine Nl (W.region (O rfl (St.loadOA (vs := [(.bool (ofZ (-d.toZ)).neg), (.slice a148 (ofZ (-d.toZ)).mag.length c149)]) o158 ag26 rfl rfl rfl (O rfl (St.loadOA (vs := [(.bool (ofZ (Int.gcd (-n.toZ) (-d.toZ) : Int)).neg), (.slice a174 (ofZ (Int.gcd (-n.toZ) (-d.toZ) : Int)).mag.length c175)]) o191 ag26 rfl rfl rfl (O rfl (St.callR C215 Jle rfl rfl (zd C215.bd (a := (ofZ (-d.toZ))) (Jj h150) (b := (ofZ (Int.gcd (-n.toZ) (-d.toZ) : Int))) (Jj h176) (by first | omega | (rw [Zq]; omega)) (by first | omega | (have h8 := hgm; rw [Zq] at h8; omega)) (by rw [Kb]; omega) (by rw [Jp, Jp]; exact Jbx _ _)) ?_)))))))
  intro v218 w219 C220 s221 h222
  replace h213 := (h213.sp s216).sp s221
  replace o158 := o158.spn s221
  simp only [Jp, Yv] at h222
  obtain ⟨v223, v224, rfl, h225, rfl⟩ := h222
  obtain ⟨a227, c228, rfl, h229⟩ := RV.int h225
  refine Om (O rfl (St.extract rfl rfl (O rfl (St.extract rfl rfl (On (St.storeC (cs' := [(.bool (ofZ ((-d.toZ) / (Int.gcd (-n.toZ) (-d.toZ) : Int))).neg), (.slice a227 (ofZ ((-d.toZ) / (Int.gcd (-n.toZ) (-d.toZ) : Int))).mag.length c228)]) C220 o158 io26 rfl rfl rfl rfl rfl rfl ?_))))))
  intro w230 C231 s232 o233
  replace o217 := (o217.spn s221).spo s232 n23
  replace o31 := (o31.spn s221).spo s232 (Ne.symm n33)
  refine Nl (Rg (O rfl (St.loadOA (vs := [(.bool (ofZ ((-n.toZ) / (Int.gcd (-n.toZ) (-d.toZ) : Int))).neg), (.slice a211 (ofZ ((-n.toZ) / (Int.gcd (-n.toZ) (-d.toZ) : Int))).mag.length c212)]) o217 ag26 rfl rfl rfl (O rfl (St.loadOA (vs := [(.bool (ofZ ((-d.toZ) / (Int.gcd (-n.toZ) (-d.toZ) : Int))).neg), (.slice a227 (ofZ ((-d.toZ) / (Int.gcd (-n.toZ) (-d.toZ) : Int))).mag.length c228)]) o233 ag26 rfl rfl rfl ?_)))))
  refine O rfl (St.build (cs := [(.bool (ofZ ((-n.toZ) / (Int.gcd (-n.toZ) (-d.toZ) : Int))).neg), (.slice a211 (ofZ ((-n.toZ) / (Int.gcd (-n.toZ) (-d.toZ) : Int))).mag.length c212), (.bool (ofZ ((-d.toZ) / (Int.gcd (-n.toZ) (-d.toZ) : Int))).neg), (.slice a227 (ofZ ((-d.toZ) / (Int.gcd (-n.toZ) (-d.toZ) : Int))).mag.length c228)]) rfl (by kernel_rfl) (On (St.storeC (cs' := [(.bool (ofZ ((-n.toZ) / (Int.gcd (-n.toZ) (-d.toZ) : Int))).neg), (.slice a211 (ofZ ((-n.toZ) / (Int.gcd (-n.toZ) (-d.toZ) : Int))).mag.length c212), (.bool (ofZ ((-d.toZ) / (Int.gcd (-n.toZ) (-d.toZ) : Int))).neg), (.slice a227 (ofZ ((-d.toZ) / (Int.gcd (-n.toZ) (-d.toZ) : Int))).mag.length c228)]) C231 o31 io28 rfl rfl rfl rfl rfl rfl ?_)))
  intro w234 C235 s236 o237
  replace h213 := (h213.sp s232).sp s236
  replace h229 := (h229.sp s232).sp s236
  refine Nl (W.ret (Jf rfl (resV.c o237 rfl ag28 rfl) (Ret.intro ?_ C235.below)))
  exact RV.eqv (a := (⟨⟨(ofZ ((-n.toZ) / (Int.gcd (-n.toZ) (-d.toZ) : Int))).neg, (ofZ ((-n.toZ) / (Int.gcd (-n.toZ) (-d.toZ) : Int))).mag⟩, ⟨(ofZ ((-d.toZ) / (Int.gcd (-n.toZ) (-d.toZ) : Int))).neg, (ofZ ((-d.toZ) / (Int.gcd (-n.toZ) (-d.toZ) : Int))).mag⟩⟩ : GRat)) ((Zp h213 h229).tr (Tr.weak C235.base)) (Eq.trans (zl hdp) (congrArg ofQ (zh _ _)))
 refine Oa (Nl (W.condF rfl (W.skip (W.seq (W.seq ?_)))))
 have hdp : 0 < d.toZ := by have hh := hb109; rw [Jas, decide_eq_false_iff_not] at hh; omega
 refine W.region (O rfl (St.loadOA (vs := [(.bool (ofZ d.toZ).neg), (.slice a72 (ofZ d.toZ).mag.length c73)]) o82 ag26 rfl rfl rfl (O rfl (St.bool (St.callR C80 Jgh rfl rfl (Jf1 C80.bd (a := (ofZ d.toZ)) (Jj h74)) ?_)))))
 intro v238 w239 C240 s241 h242
 replace h65 := (h65.sp s81).sp s241
 replace h74 := h74.sp s241
 replace o78 := o78.spn s241
 replace o82 := o82.spn s241
 replace o31 := o31.spn s241
 refine ⟨_, h242, fun hb243 => ?_, fun hb243 => ?_⟩
 ·refine Nl (W.condT rfl (Rg (O rfl (St.loadOA (vs := [(.bool (ofZ n.toZ).neg), (.slice a63 (ofZ n.toZ).mag.length c64)]) o78 ag26 rfl rfl rfl (O rfl (St.loadOA (vs := [(.bool (ofZ d.toZ).neg), (.slice a72 (ofZ d.toZ).mag.length c73)]) o82 ag26 rfl rfl rfl (O rfl (St.build (cs := [(.bool (ofZ n.toZ).neg), (.slice a63 (ofZ n.toZ).mag.length c64), (.bool (ofZ d.toZ).neg), (.slice a72 (ofZ d.toZ).mag.length c73)]) rfl (by kernel_rfl) ?_))))))))
  refine On (St.storeC (cs' := [(.bool (ofZ n.toZ).neg), (.slice a63 (ofZ n.toZ).mag.length c64), (.bool (ofZ d.toZ).neg), (.slice a72 (ofZ d.toZ).mag.length c73)]) C240 o31 io28 rfl rfl rfl rfl rfl rfl ?_)
  intro w244 C245 s246 o247
  replace h65 := h65.sp s246
  replace h74 := h74.sp s246
  refine Nl (W.ret (Jf rfl (resV.c o247 rfl ag28 rfl) (Ret.intro ?_ C245.below)))
  exact RV.eqv (a := (⟨⟨(ofZ n.toZ).neg, (ofZ n.toZ).mag⟩, ⟨(ofZ d.toZ).neg, (ofZ d.toZ).mag⟩⟩ : GRat)) ((Zp h65 h74).tr (Tr.weak C245.base)) ((by first | exact Qz (Yt.1 (of_decide_eq_true (by assumption))) | exact Vz hdp (Yt.1 (of_decide_eq_true (by assumption)))))
 refine Nl (W.condF rfl (W.skip (W.seq (W.seq ?_))))
 have hgm := Jc4 (n := n.toZ) (d := d.toZ) (by omega)
 have hgn := Jou (n := n.toZ) (d := d.toZ) (by omega)
 refine W.region (O rfl (St.loadOA (vs := [(.bool (ofZ n.toZ).neg), (.slice a63 (ofZ n.toZ).mag.length c64)]) o78 ag26 rfl rfl rfl (O rfl (St.loadOA (vs := [(.bool (ofZ d.toZ).neg), (.slice a72 (ofZ d.toZ).mag.length c73)]) o82 ag26 rfl rfl rfl (O rfl (St.callR C240 Jus rfl rfl (Jnz C240.bd (a := (ofZ n.toZ)) (Jj h65) (b := (ofZ d.toZ)) (Jj h74) (by first | omega | (rw [Zq]; omega)) (by first | omega | (rw [Zq]; omega))) ?_))))))
 intro v248 w249 C250 s251 h252
 replace o78 := o78.spn s251
 replace o82 := o82.spn s251
 replace o31 := o31.spn s251
 simp only [Jp, Yv] at h252
 obtain ⟨a253, c254, rfl, h255⟩ := RV.int h252
 refine O rfl (St.allocC C250 io26 rfl ?_)
 intro g256 w257 x258 y259 lt260 C261 s262 o263
 have n264 := lt260 _ o78.blk.lt
 have n265 := lt260 _ o82.blk.lt
 have n266 := lt260 _ o31.blk.lt
 replace h65 := (h65.sp s251).sp s262
 replace h74 := (h74.sp s251).sp s262
 replace o78 := o78.spn s262
 replace o82 := o82.spn s262
 replace o31 := o31.spn s262
 refine On (St.storeC (cs' := [(.bool (ofZ (Int.gcd n.toZ d.toZ : Int)).neg), (.slice a253 (ofZ (Int.gcd n.toZ d.toZ : Int)).mag.length c254)]) C261 o263 io26 rfl rfl rfl rfl rfl rfl ?_)
 intro w267 C268 s269 o270
 replace h255 := (h255.sp s262).sp s269
 refine Nl (Rg (O rfl (St.loadOA (vs := [(.bool (ofZ (Int.gcd n.toZ d.toZ : Int)).neg), (.slice a253 (ofZ (Int.gcd n.toZ d.toZ : Int)).mag.length c254)]) o270 ag26 rfl rfl rfl (O rfl (St.bool (St.callR C268 Jgh rfl rfl (Jf1 C268.bd (a := (ofZ (Int.gcd n.toZ d.toZ : Int))) (Jj h255)) ?_))))))
 intro v271 w272 C273 s274 h275
 replace h65 := (h65.sp s269).sp s274
 replace h74 := (h74.sp s269).sp s274
 replace h255 := h255.sp s274
 replace o78 := (o78.spo s269 n264).spn s274
 replace o82 := (o82.spo s269 n265).spn s274
 replace o31 := (o31.spo s269 n266).spn s274
 replace o270 := o270.spn s274
 refine ⟨_, h275, fun hb276 => ?_, fun hb276 => ?_⟩
 ·refine O rfl (St.not rfl (Nl (W.condF rfl (W.skip (Rg (O rfl (St.loadOA (vs := [(.bool (ofZ n.toZ).neg), (.slice a63 (ofZ n.toZ).mag.length c64)]) o78 ag26 rfl rfl rfl (O rfl (St.loadOA (vs := [(.bool (ofZ d.toZ).neg), (.slice a72 (ofZ d.toZ).mag.length c73)]) o82 ag26 rfl rfl rfl (O rfl (St.build (cs := [(.bool (ofZ n.toZ).neg), (.slice a63 (ofZ n.toZ).mag.length c64), (.bool (ofZ d.toZ).neg), (.slice a72 (ofZ d.toZ).mag.length c73)]) rfl (by kernel_rfl) ?_)))))))))))
  refine On (St.storeC (cs' := [(.bool (ofZ n.toZ).neg), (.slice a63 (ofZ n.toZ).mag.length c64), (.bool (ofZ d.toZ).neg), (.slice a72 (ofZ d.toZ).mag.length c73)]) C273 o31 io28 rfl rfl rfl rfl rfl rfl ?_)
  intro w277 C278 s279 o280
  replace h65 := h65.sp s279
  replace h74 := h74.sp s279
  refine Nl (W.ret (Jf rfl (resV.c o280 rfl ag28 rfl) (Ret.intro ?_ C278.below)))
  exact RV.eqv (a := (⟨⟨(ofZ n.toZ).neg, (ofZ n.toZ).mag⟩, ⟨(ofZ d.toZ).neg, (ofZ d.toZ).mag⟩⟩ : GRat)) ((Zp h65 h74).tr (Tr.weak C278.base)) ((by first | exact Qz (Yt.1 (of_decide_eq_true (by assumption))) | exact Vz hdp (Yt.1 (of_decide_eq_true (by assumption)))))
 refine O rfl (St.not rfl (Nl (W.condT rfl (Rg (O rfl (St.loadOA (vs := [(.bool (ofZ n.toZ).neg), (.slice a63 (ofZ n.toZ).mag.length c64)]) o78 ag26 rfl rfl rfl (O rfl (St.loadOA (vs := [(.bool (ofZ (Int.gcd n.toZ d.toZ : Int)).neg), (.slice a253 (ofZ (Int.gcd n.toZ d.toZ : Int)).mag.length c254)]) o270 ag26 rfl rfl rfl (O rfl (St.callR C273 Jle rfl rfl (zd C273.bd (a := (ofZ n.toZ)) (Jj h65) (b := (ofZ (Int.gcd n.toZ d.toZ : Int))) (Jj h255) (by first | omega | (rw [Zq]; omega)) (by first | omega | (have h8 := hgm; rw [Zq] at h8; omega)) (by rw [Kb]; omega) (by rw [Jp, Jp]; exact Jbg _ _)) ?_))))))))))
 intro v281 w282 C283 s284 h285
 replace o78 := o78.spn s284
 simp only [Jp, Yv] at h285
 obtain ⟨v286, v287, rfl, h288, rfl⟩ := h285
 obtain ⟨a290, c291, rfl, h292⟩ := RV.int h288
 refine Om (O rfl (St.extract rfl rfl (O rfl (St.extract rfl rfl (On (St.storeC (cs' := [(.bool (ofZ (n.toZ / (Int.gcd n.toZ d.toZ : Int))).neg), (.slice a290 (ofZ (n.toZ / (Int.gcd n.toZ d.toZ : Int))).mag.length c291)]) C283 o78 io26 rfl rfl rfl rfl rfl rfl ?_))))))
 intro w293 C294 s295 o296
 replace h74 := (h74.sp s284).sp s295
 replace h255 := (h255.sp s284).sp s295
 replace o82 := (o82.spn s284).spo s295 (Ne.symm n23)
 replace o31 := (o31.spn s284).spo s295 (Ne.symm n32)
 replace o270 := (o270.spn s284).spo s295 (Ne.symm n264)
 refine Nl (W.region (O rfl (St.loadOA (vs := [(.bool (ofZ d.toZ).neg), (.slice a72 (ofZ d.toZ).mag.length c73)]) o82 ag26 rfl rfl rfl (O rfl (St.loadOA (vs := [(.bool (ofZ (Int.gcd n.toZ d.toZ : Int)).neg), (.slice a253 (ofZ (Int.gcd n.toZ d.toZ : Int)).mag.length c254)]) o270 ag26 rfl rfl rfl (O rfl (St.callR C294 Jle rfl rfl (zd C294.bd (a := (ofZ d.toZ)) (Jj h74) (b := (ofZ (Int.gcd n.toZ d.toZ : Int))) (Jj h255) (by first | omega | (rw [Zq]; omega)) (by first | omega | (have h8 := hgm; rw [Zq] at h8; omega)) (by rw [Kb]; omega) (by rw [Jp, Jp]; exact Jbx _ _)) ?_)))))))
 intro v297 w298 C299 s300 h301
 replace h292 := (h292.sp s295).sp s300
 replace o82 := o82.spn s300
 simp only [Jp, Yv] at h301
 obtain ⟨v302, v303, rfl, h304, rfl⟩ := h301
 obtain ⟨a306, c307, rfl, h308⟩ := RV.int h304
 refine Om (O rfl (St.extract rfl rfl (O rfl (St.extract rfl rfl (On (St.storeC (cs' := [(.bool (ofZ (d.toZ / (Int.gcd n.toZ d.toZ : Int))).neg), (.slice a306 (ofZ (d.toZ / (Int.gcd n.toZ d.toZ : Int))).mag.length c307)]) C299 o82 io26 rfl rfl rfl rfl rfl rfl ?_))))))
 intro w309 C310 s311 o312
 replace o296 := (o296.spn s300).spo s311 n23
 replace o31 := (o31.spn s300).spo s311 (Ne.symm n33)
 refine Nl (Rg (O rfl (St.loadOA (vs := [(.bool (ofZ (n.toZ / (Int.gcd n.toZ d.toZ : Int))).neg), (.slice a290 (ofZ (n.toZ / (Int.gcd n.toZ d.toZ : Int))).mag.length c291)]) o296 ag26 rfl rfl rfl (O rfl (St.loadOA (vs := [(.bool (ofZ (d.toZ / (Int.gcd n.toZ d.toZ : Int))).neg), (.slice a306 (ofZ (d.toZ / (Int.gcd n.toZ d.toZ : Int))).mag.length c307)]) o312 ag26 rfl rfl rfl ?_)))))
 refine O rfl (St.build (cs := [(.bool (ofZ (n.toZ / (Int.gcd n.toZ d.toZ : Int))).neg), (.slice a290 (ofZ (n.toZ / (Int.gcd n.toZ d.toZ : Int))).mag.length c291), (.bool (ofZ (d.toZ / (Int.gcd n.toZ d.toZ : Int))).neg), (.slice a306 (ofZ (d.toZ / (Int.gcd n.toZ d.toZ : Int))).mag.length c307)]) rfl (by kernel_rfl) (On (St.storeC (cs' := [(.bool (ofZ (n.toZ / (Int.gcd n.toZ d.toZ : Int))).neg), (.slice a290 (ofZ (n.toZ / (Int.gcd n.toZ d.toZ : Int))).mag.length c291), (.bool (ofZ (d.toZ / (Int.gcd n.toZ d.toZ : Int))).neg), (.slice a306 (ofZ (d.toZ / (Int.gcd n.toZ d.toZ : Int))).mag.length c307)]) C310 o31 io28 rfl rfl rfl rfl rfl rfl ?_)))
 intro w313 C314 s315 o316
 replace h292 := (h292.sp s311).sp s315
 replace h308 := (h308.sp s311).sp s315
 refine Nl (W.ret (Jf rfl (resV.c o316 rfl ag28 rfl) (Ret.intro ?_ C314.below)))
 exact RV.eqv (a := (⟨⟨(ofZ (n.toZ / (Int.gcd n.toZ d.toZ : Int))).neg, (ofZ (n.toZ / (Int.gcd n.toZ d.toZ : Int))).mag⟩, ⟨(ofZ (d.toZ / (Int.gcd n.toZ d.toZ : Int))).neg, (ofZ (d.toZ / (Int.gcd n.toZ d.toZ : Int))).mag⟩⟩ : GRat)) ((Zp h292 h308).tr (Tr.weak C314.base)) (zl hdp)
end Go.Wf
namespace Go.Wf
set_option linter.unusedVariables false
set_option linter.unusedSimpArgs false
open Go
theorem Jap (n d : Int) : (Rat.divInt n d).num.natAbs ≤ n.natAbs := by
 rw [Rat.num_divInt]
 refine Nat.le_trans (Int.natAbs_ediv_le_natAbs _ _) ?_
 rw [Int.natAbs_mul]
 have : d.sign.natAbs ≤ 1 := by
  rcases Int.lt_trichotomy d 0 with h | h | h
  ·rw [Int.sign_eq_neg_one_of_neg h]; decide
  ·rw [h]; decide
  ·rw [Int.sign_eq_one_of_pos h]; decide
 calc d.sign.natAbs * n.natAbs ≤ 1 * n.natAbs := Nat.mul_le_mul_right _ this
  _ = n.natAbs := Nat.one_mul _
theorem Jat (n d : Int) : (Rat.divInt n d).den ≤ max 1 d.natAbs := by
 rw [Rat.den_divInt]
 split
 ·exact Nat.le_max_left _ _
 ·exact Nat.le_trans (Nat.div_le_self _ _) (Nat.le_max_right _ _)
theorem Jhj : (digs 1).length = 1 := by rw [Jaa (by decide) (by decide)]; rfl
theorem Jdg (n d : Int) : (ofQ (Rat.divInt n d)).num.mag.length ≤ (ofZ n).mag.length := xn (Jap n d)
theorem Jde (n d : Int) : (ofQ (Rat.divInt n d)).den.mag.length ≤ (ofZ d).mag.length + 1 := by
 have h := Jat n d
 show (digs _).length ≤ (digs d.natAbs).length + 1
 have e : ((Rat.divInt n d).den : Int).natAbs = (Rat.divInt n d).den := by simp
 rw [e]
 refine Nat.le_trans (Xe h) ?_
 rcases Nat.le_total 1 d.natAbs with h1 | h1
 ·rw [Nat.max_eq_right h1]; omega
 ·rw [Nat.max_eq_left h1, Jhj]; omega
theorem Kn {a : GRat} (sn : Jo a.num.mag) : (ofQ a.q).num.mag.length ≤ a.num.mag.length := Nat.le_trans (Jdg _ _) (J1 sn)
theorem Ko {a : GRat} (sd : Jo a.den.mag) : (ofQ a.q).den.mag.length ≤ a.den.mag.length + 1 := by
 have h1 := Jde a.num.toZ a.den.toZ
 have h2 := J1 sd
 unfold GRat.q
 omega
theorem Xn (q : Rat) : (ofQ (-q)).num.mag = (ofQ q).num.mag := by
 show (ofZ (-q).num).mag = (ofZ q.num).mag
 rw [Rat.neg_num, Zq]
theorem Xy (q : Rat) : (ofQ (-q)).den.mag = (ofQ q).den.mag := by
 show (ofZ ((-q).den : Int)).mag = (ofZ (q.den : Int)).mag
 rw [Rat.neg_den]
theorem Jee (n : Int) (d : Nat) (h : d ≠ 0) : (Rat.normalize n d h).num.natAbs ≤ n.natAbs := by
 rw [Rat.normalize_eq]
 exact Int.natAbs_ediv_le_natAbs _ _
theorem Jed (n : Int) (d : Nat) (h : d ≠ 0) : (Rat.normalize n d h).den ≤ d := by
 rw [Rat.normalize_eq]
 exact Nat.div_le_self _ _
theorem Jff (v : Nat) : v < 4294967296 ^ (digs v).length := Vc v
theorem vu (x y : Nat) : (digs (x * y)).length ≤ (digs x).length + (digs y).length := by
 refine Jy ?_
 rw [Nat.pow_add]
 exact Nat.mul_lt_mul'' (Jff x) (Jff y)
theorem Jfe (x y : Nat) : (digs (x + y)).length ≤ (digs x).length + (digs y).length + 1 := by
 refine Jy ?_
 have h1 := Jff x
 have h2 := Jff y
 have h3 : 4294967296 ^ (digs x).length ≤ 4294967296 ^ ((digs x).length + (digs y).length) := Nat.pow_le_pow_right (by omega) (by omega)
 have h4 : 4294967296 ^ (digs y).length ≤ 4294967296 ^ ((digs x).length + (digs y).length) := Nat.pow_le_pow_right (by omega) (by omega)
 rw [Nat.pow_succ]
 omega
theorem yg (p q : Rat) : (ofQ (p + q)).num.mag.length ≤ (ofQ p).num.mag.length + (ofQ q).den.mag.length + (ofQ q).num.mag.length + (ofQ p).den.mag.length + 1 := by
 show (digs (p + q).num.natAbs).length ≤ (digs p.num.natAbs).length + (digs ((q.den : Int)).natAbs).length + (digs q.num.natAbs).length + (digs ((p.den : Int)).natAbs).length + 1
 have h : (p + q).num.natAbs ≤ p.num.natAbs * q.den + q.num.natAbs * p.den := by
  rw [Rat.add_def]
  refine Nat.le_trans (Jee _ _ _) ?_
  refine Nat.le_trans (Int.natAbs_add_le _ _) ?_
  rw [Int.natAbs_mul, Int.natAbs_mul]
  simp
 refine Nat.le_trans (Xe h) ?_
 have h1 := Jfe (p.num.natAbs * q.den) (q.num.natAbs * p.den)
 have h2 := vu p.num.natAbs q.den
 have h3 := vu q.num.natAbs p.den
 simp only [Int.natAbs_natCast]
 omega
theorem ya (p q : Rat) : (ofQ (p + q)).den.mag.length ≤ (ofQ p).den.mag.length + (ofQ q).den.mag.length := by
 show (digs (((p + q).den : Int)).natAbs).length ≤ (digs ((p.den : Int)).natAbs).length + (digs ((q.den : Int)).natAbs).length
 simp only [Int.natAbs_natCast]
 have h : (p + q).den ≤ p.den * q.den := by rw [Rat.add_def]; exact Jed _ _ _
 exact Nat.le_trans (Xe h) (vu _ _)
theorem Xm {x y : Int} : (ofZ (x * y)).mag.length ≤ (ofZ x).mag.length + (ofZ y).mag.length := by
 show (digs (x * y).natAbs).length ≤ (digs x.natAbs).length + (digs y.natAbs).length
 rw [Int.natAbs_mul]; exact vu _ _
theorem Jay {x y : Int} : (ofZ (x + y)).mag.length ≤ (ofZ x).mag.length + (ofZ y).mag.length + 1 := by
 show (digs (x + y).natAbs).length ≤ (digs x.natAbs).length + (digs y.natAbs).length + 1
 exact Nat.le_trans (Xe (Int.natAbs_add_le _ _)) (Jfe _ _)
theorem Jpm (z : Int) : -1 ≤ z.sign ∧ z.sign ≤ 1 := by
 rcases Int.lt_trichotomy z 0 with h | h | h
 ·rw [Int.sign_eq_neg_one_of_neg h]; omega
 ·rw [h]; simp
 ·rw [Int.sign_eq_one_of_pos h]; omega
theorem qe (x y : Int) : -9223372036854775808 ≤ x.sign * y.sign ∧ x.sign * y.sign ≤ 9223372036854775807 := by
 rw [← Int.sign_mul]
 have := Jpm (x * y)
 omega
theorem Ju2 {a b : GRat} (h : a.den.toZ.sign = 0) : ofQ b.q = ofQ (a.q + b.q) := by
 rw [kn (Int.sign_eq_zero_iff_zero.1 h), Rat.zero_add]
theorem Jti {a b : GRat} (h : b.den.toZ.sign = 0) : ofQ a.q = ofQ (a.q + b.q) := by
 rw [kn (a := b) (Int.sign_eq_zero_iff_zero.1 h), Rat.add_zero]
theorem Jpj {a b : GRat} (ha : a.den = ofZ 1) (hb : b.den = ofZ 1) : (⟨ofZ (a.num.toZ + b.num.toZ), ofZ 1⟩ : GRat) = ofQ (a.q + b.q) := by
 have ea : a.den.toZ = 1 := by rw [ha, Jp]
 have eb : b.den.toZ = 1 := by rw [hb, Jp]
 rw [Jsb (by omega) (by omega), ea, eb, Int.mul_one, Int.mul_one, Int.mul_one]
 exact Qz rfl
theorem Jfy {a b : GRat} (ha : ¬ a.den.toZ.sign = 0) (hb : ¬ b.den.toZ.sign = 0) : ofQ (Rat.divInt (a.num.toZ * b.den.toZ + b.num.toZ * a.den.toZ) (a.den.toZ * b.den.toZ)) = ofQ (a.q + b.q) := by
 rw [Jsb (fun e => ha (Int.sign_eq_zero_iff_zero.2 e)) (fun e => hb (Int.sign_eq_zero_iff_zero.2 e))]
end Go.Wf
namespace Go.Wf
open Go Go.Proofs Go.RowKit
set_option maxRecDepth 100000
set_option linter.unusedVariables false
set_option linter.unusedSimpArgs false
set_option maxHeartbeats 1000000 in
theorem Ja9 {X : Nat → Prop} {w : World} (hX : ∀ b, X b → b < w.heap.size) {v0 : Value} {a : GRat} (r0 : RV Yk X w v0 a) (hln : a.num.mag.length ≤ 274877906944) (hld : a.den.mag.length ≤ 274877906944) : Calls Tryz.prog 92 #[v0] w (Ret w fun v w' => RV Yk X w' v (ofQ a.q)) := by
 obtain ⟨a1, c2, a3, c4, rfl, h5, h6⟩ := RV.rat r0
 have C := Cx.start hX
 have sn := r0.rat_small.1
 have sd := r0.rat_small.2
 refine Calls.ofW (args := [(.agg #[(.bool a.num.neg), (.slice a1 a.num.mag.length c2), (.bool a.den.neg), (.slice a3 a.den.mag.length c4)])]) Tryz.func92 rfl rfl (Nat.le_of_ble_eq_true rfl) (Rg (O rfl (St.boxC C rfl ?_)))
 intro g7 w8 x9 y10 lt11 C12 s13 o14
 refine O rfl (St.allocC C12 io28 rfl ?_)
 intro g15 w16 x17 y18 lt19 C20 s21 o22
 replace h5 := (h5.sp s13).sp s21
 replace h6 := (h6.sp s13).sp s21
 replace o14 := o14.spn s21
 refine Nl (Rg (O rfl (St.fieldAddr Kt rfl (O rfl (St.loadOA (vs := [(.bool a.num.neg), (.slice a1 a.num.mag.length c2)]) o14 ag26 rfl rfl rfl (O rfl (St.fieldAddr Ym rfl (O rfl (St.loadOA (vs := [(.bool a.den.neg), (.slice a3 a.den.mag.length c4)]) o14 ag26 rfl rfl rfl (O rfl (St.callR C20 Jne rfl rfl (Jeu C20.bd (n := a.num) (Jj h5) (d := a.den) (Jj h6) (by omega) (by omega)) ?_)))))))))))
 intro v24 w25 C26 s27 h28
 replace o22 := o22.spn s27
 obtain ⟨a29, c30, a31, c32, rfl, h33, h34⟩ := RV.rat h28
 refine On (St.storeC (cs' := [(.bool (ofQ (Rat.divInt a.num.toZ a.den.toZ)).num.neg), (.slice a29 (ofQ (Rat.divInt a.num.toZ a.den.toZ)).num.mag.length c30), (.bool (ofQ (Rat.divInt a.num.toZ a.den.toZ)).den.neg), (.slice a31 (ofQ (Rat.divInt a.num.toZ a.den.toZ)).den.mag.length c32)]) C26 o22 io28 rfl rfl rfl rfl rfl rfl ?_)
 intro w35 C36 s37 o38
 replace h33 := h33.sp s37
 replace h34 := h34.sp s37
 refine Nl (W.ret (Jf rfl (resV.c o38 rfl ag28 rfl) (Ret.intro ?_ C36.below)))
 exact RV.eqv (a := (ofQ (Rat.divInt a.num.toZ a.den.toZ))) ((Zp h33 h34).tr (Tr.weak C36.base)) rfl
set_option maxHeartbeats 1000000 in
theorem Jwx {X : Nat → Prop} {w : World} (hX : ∀ b, X b → b < w.heap.size) {v0 : Value} {a : GRat} (r0 : RV Yk X w v0 a) (hln : a.num.mag.length ≤ 274877906944) (hld : a.den.mag.length ≤ 274877906944) : Calls Tryz.prog 106 #[v0] w (Ret w fun v w' => RV Yk X w' v (ofQ (-a.q))) := by
 obtain ⟨a1, c2, a3, c4, rfl, h5, h6⟩ := RV.rat r0
 have C := Cx.start hX
 have sn := r0.rat_small.1
 have sd := r0.rat_small.2
 have hN := J1 sn
 refine Calls.ofW (args := [(.agg #[(.bool a.num.neg), (.slice a1 a.num.mag.length c2), (.bool a.den.neg), (.slice a3 a.den.mag.length c4)])]) Tryz.func106 rfl rfl (Nat.le_of_ble_eq_true rfl) (Rg (O rfl (St.boxC C rfl ?_)))
 intro g7 w8 x9 y10 lt11 C12 s13 o14
 replace h5 := h5.sp s13
 replace h6 := h6.sp s13
 refine O rfl (St.allocC C12 io28 rfl ?_)
 intro g15 w16 x17 y18 lt19 C20 s21 o22
 refine Nl (W.seq (W.drawC Zc 5 [[], [0], [1], [], [3]] C20 [fx (.pointer (some ⟨g7, 0, none⟩)), fx (.agg #[(.bool a.num.neg), (.slice a1 a.num.mag.length c2)]), fr Jv (ofZ (-a.num.toZ)), fx (.pointer (some ⟨g7, 2, none⟩)), fx (.agg #[(.bool a.den.neg), (.slice a3 a.den.mag.length c4)])] (by kernel_rfl) ⟨sx, sx, sr, sx, sx, trivial⟩ fun f33 s34 w35 ⟨C38, S39⟩ k37 => ?_))
 replace h5 := (h5.sp s21).sp S39
 replace h6 := (h6.sp s21).sp S39
 replace o14 := (o14.spn s21).spn S39
 have k37 : Keep [3, 4, 5, 6, 7] _ f33 := k37
 refine ⟨⟨fun _ => ?_, fun ⟨e42, _⟩ => ?_, fun ⟨e43, _⟩ => ?_, fun _ => ?_, fun ⟨e44, _⟩ => ?_, trivial⟩, fun ⟨e45, e46, d47, e48, e49, _⟩ => ?_⟩
 ·exact Ja k37 aN fun _ => OpSt.op (St.fieldAddr Kt rfl ⟨s34, RC.same C38, rfl⟩)
 ·exact Ja k37 (aC e42 aN) fun _ => OpSt.op (St.loadOA (vs := [(.bool a.num.neg), (.slice a1 a.num.mag.length c2)]) o14 ag26 rfl rfl rfl ⟨s34, RC.same C38, rfl⟩)
 ·refine Ja k37 (aC e43 aN) fun _ => OpSt.op (St.callR C38 Jrw rfl rfl (Jip C38.bd (a := a.num) (Jj h5) (by omega)) ?_)
  intro v50 w51 C52 s53 h54
  exact ⟨s34, ⟨C52, s53⟩, h54⟩
 ·exact Ja k37 aN fun _ => OpSt.op (St.fieldAddr Ym rfl ⟨s34, RC.same C38, rfl⟩)
 ·exact Ja k37 (aC e44 aN) fun _ => OpSt.op (St.loadOA (vs := [(.bool a.den.neg), (.slice a3 a.den.mag.length c4)]) o14 ag26 rfl rfl rfl ⟨s34, RC.same C38, rfl⟩)
 obtain ⟨a56, c57, e55, h58⟩ := RV.int d47
 obtain ⟨f59, rfl⟩ := mixK k37 (aC e45 (aC e46 (aC e55 (aC e48 (aC e49 aN)))))
 refine O rfl (St.callR C38 Jne rfl rfl (Jeu C38.bd (n := (ofZ (-a.num.toZ))) (Jj h58) (d := a.den) (Jj h6) (by rw [Zq]; omega) (by omega)) ?_)
 intro v60 w61 C62 s63 h64
 replace o22 := (o22.spn S39).spn s63
 simp only [Jp, Yv] at h64
 obtain ⟨a65, c66, a67, c68, rfl, h69, h70⟩ := RV.rat h64
 refine On (St.storeC (cs' := [(.bool (ofQ (Rat.divInt (-a.num.toZ) a.den.toZ)).num.neg), (.slice a65 (ofQ (Rat.divInt (-a.num.toZ) a.den.toZ)).num.mag.length c66), (.bool (ofQ (Rat.divInt (-a.num.toZ) a.den.toZ)).den.neg), (.slice a67 (ofQ (Rat.divInt (-a.num.toZ) a.den.toZ)).den.mag.length c68)]) C62 o22 io28 rfl rfl rfl rfl rfl rfl ?_)
 intro w71 C72 s73 o74
 replace h69 := h69.sp s73
 replace h70 := h70.sp s73
 refine Nl (W.ret (Jf rfl (resV.c o74 rfl ag28 rfl) (Ret.intro ?_ C72.below)))
 exact RV.eqv (a := (ofQ (Rat.divInt (-a.num.toZ) a.den.toZ))) ((Zp h69 h70).tr (Tr.weak C72.base)) (congrArg ofQ (Jwq a))
set_option maxHeartbeats 1000000 in
theorem Jsg {X : Nat → Prop} {w : World} (hX : ∀ b, X b → b < w.heap.size) {v0 : Value} {a : GRat} (r0 : RV Yk X w v0 a) (hln : a.num.mag.length ≤ 1099511627776) (hld : a.den.mag.length ≤ 1099511627776) : Calls Tryz.prog 121 #[v0] w (Ret w fun v w' => v = (.int .i64 (qv a.q))) := by
 obtain ⟨a1, c2, a3, c4, rfl, h5, h6⟩ := RV.rat r0
 have C := Cx.start hX
 have sn := r0.rat_small.1
 have sd := r0.rat_small.2
 have hb1 := qe a.num.toZ a.den.toZ
 refine Calls.ofW (args := [(.agg #[(.bool a.num.neg), (.slice a1 a.num.mag.length c2), (.bool a.den.neg), (.slice a3 a.den.mag.length c4)])]) Tryz.func121 rfl rfl (Nat.le_of_ble_eq_true rfl) (Rg (O rfl (St.boxC C rfl ?_)))
 intro g7 w8 x9 y10 lt11 C12 s13 o14
 refine Oa (Nl (W.seq (W.drawC Zc 5 [[], [0], [1], [], [3]] C12 [fx (.pointer (some ⟨g7, 0, none⟩)), fx (.agg #[(.bool a.num.neg), (.slice a1 a.num.mag.length c2)]), fx (.int .i64 a.num.toZ.sign), fx (.pointer (some ⟨g7, 2, none⟩)), fx (.agg #[(.bool a.den.neg), (.slice a3 a.den.mag.length c4)])] (by kernel_rfl) ⟨sx, sx, sx, sx, sx, trivial⟩ fun f21 s22 w23 ⟨C26, S27⟩ k25 => ?_)))
 replace h5 := (h5.sp s13).sp S27
 replace h6 := (h6.sp s13).sp S27
 replace o14 := o14.spn S27
 have k25 : Keep [3, 4, 5, 6, 7] _ f21 := k25
 refine ⟨⟨fun _ => ?_, fun ⟨e29, _⟩ => ?_, fun ⟨e30, _⟩ => ?_, fun _ => ?_, fun ⟨e31, _⟩ => ?_, trivial⟩, fun ⟨e32, e33, e34, e35, e36, _⟩ => ?_⟩
 ·exact Ja k25 aN fun _ => OpSt.op (St.fieldAddr Kt rfl ⟨s22, RC.same C26, rfl⟩)
 ·exact Ja k25 (aC e29 aN) fun _ => OpSt.op (St.loadOA (vs := [(.bool a.num.neg), (.slice a1 a.num.mag.length c2)]) o14 ag26 rfl rfl rfl ⟨s22, RC.same C26, rfl⟩)
 ·refine Ja k25 (aC e30 aN) fun _ => OpSt.op (St.callR C26 Jnd rfl rfl (Jac C26.bd (a := a.num) (Jj h5) (by omega)) ?_)
  intro v37 w38 C39 s40 h41
  exact ⟨s22, ⟨C39, s40⟩, h41⟩
 ·exact Ja k25 aN fun _ => OpSt.op (St.fieldAddr Ym rfl ⟨s22, RC.same C26, rfl⟩)
 ·exact Ja k25 (aC e31 aN) fun _ => OpSt.op (St.loadOA (vs := [(.bool a.den.neg), (.slice a3 a.den.mag.length c4)]) o14 ag26 rfl rfl rfl ⟨s22, RC.same C26, rfl⟩)
 obtain ⟨f42, rfl⟩ := mixK k25 (aC e32 (aC e33 (aC e34 (aC e35 (aC e36 aN)))))
 refine O rfl (St.callR C26 Jnd rfl rfl (Jac C26.bd (a := a.den) (Jj h6) (by omega)) ?_)
 intro v43 w44 C45 s46 h47
 subst h47
 exact O rfl (St.mul (z := (a.num.toZ.sign * a.den.toZ.sign)) rfl rfl (IntWalk.i64_in _ (by omega)) (Oa (Nl (W.ret (Jf rfl (resV.t rfl) (Ret.intro (congrArg (Value.int _) (Jn9 a)) C45.below))))))
set_option maxHeartbeats 2000000 in
theorem Js2 {X : Nat → Prop} {w : World} (hX : ∀ b, X b → b < w.heap.size) {v0 : Value} {a : GRat} (r0 : RV Yk X w v0 a) {v1 : Value} {b : GRat} (r1 : RV Yk X w v1 b) (hln : a.num.mag.length ≤ 34359738368) (hld : a.den.mag.length ≤ 34359738368) (hlm : b.num.mag.length ≤ 34359738368) (hle : b.den.mag.length ≤ 34359738368) : Calls Tryz.prog 141 #[v0, v1] w (Ret w fun v w' => RV Yk X w' v (ofQ (a.q + b.q))) := by
 obtain ⟨a1, c2, a3, c4, rfl, h5, h6⟩ := RV.rat r0
 obtain ⟨a7, c8, a9, c10, rfl, h11, h12⟩ := RV.rat r1
 have C := Cx.start hX
 have sn := r0.rat_small.1
 have sd := r0.rat_small.2
 have sm := r1.rat_small.1
 have se := r1.rat_small.2
 have hN := J1 sn
 have hD := J1 sd
 have hM := J1 sm
 have hE := J1 se
 have m1 := Xm (x := a.num.toZ) (y := b.den.toZ)
 have m2 := Xm (x := b.num.toZ) (y := a.den.toZ)
 have m3 := Xm (x := a.den.toZ) (y := b.den.toZ)
 have m4 := Jay (x := a.num.toZ * b.den.toZ) (y := b.num.toZ * a.den.toZ)
 refine Calls.ofW (args := [(.agg #[(.bool a.num.neg), (.slice a1 a.num.mag.length c2), (.bool a.den.neg), (.slice a3 a.den.mag.length c4)]), (.agg #[(.bool b.num.neg), (.slice a7 b.num.mag.length c8), (.bool b.den.neg), (.slice a9 b.den.mag.length c10)])]) Tryz.func141 rfl rfl (Nat.le_of_ble_eq_true rfl) (Rg (O rfl (St.boxC C rfl ?_)))
 intro g13 w14 x15 y16 lt17 C18 s19 o20
 replace h5 := h5.sp s19
 replace h6 := h6.sp s19
 refine O rfl (St.boxC C18 rfl ?_)
 intro g21 w22 x23 y24 lt25 C26 s27 o28
 replace h11 := (h11.sp s19).sp s27
 replace h12 := (h12.sp s19).sp s27
 refine O rfl (St.allocC C26 io28 rfl ?_)
 intro g30 w31 x32 y33 lt34 C35 s36 o37
 replace h5 := (h5.sp s27).sp s36
 replace h6 := (h6.sp s27).sp s36
 replace o20 := (o20.spn s27).spn s36
 refine Nl (W.seq (W.block (Rg (O rfl (St.fieldAddr Ym rfl (O rfl (St.loadOA (vs := [(.bool a.den.neg), (.slice a3 a.den.mag.length c4)]) o20 ag26 rfl rfl rfl (O rfl (St.callR C35 Jnd rfl rfl (Jac C35.bd (a := a.den) (Jj h6) (by omega)) ?_)))))))))
 intro v40 w41 C42 s43 h44
 replace h11 := (h11.sp s36).sp s43
 replace h12 := (h12.sp s36).sp s43
 replace o28 := (o28.spn s36).spn s43
 replace o37 := o37.spn s43
 subst h44
 refine O rfl (St.eql2 rfl rfl (fun hc45 => ?_) (fun hc45 => ?_))
 ·refine Oa (Nl (W.condT rfl (Rg (O rfl (St.loadOA (vs := [(.bool b.num.neg), (.slice a7 b.num.mag.length c8), (.bool b.den.neg), (.slice a9 b.den.mag.length c10)]) o28 ag28 rfl rfl rfl (O rfl (St.callR C42 cb92 rfl rfl (Ja9 C42.bd (a := b) (Zp h11 h12) (by omega) (by omega)) ?_)))))))
  intro v46 w47 C48 s49 h50
  replace o37 := o37.spn s49
  obtain ⟨a51, c52, a53, c54, rfl, h55, h56⟩ := RV.rat h50
  refine On (St.storeC (cs' := [(.bool (ofQ b.q).num.neg), (.slice a51 (ofQ b.q).num.mag.length c52), (.bool (ofQ b.q).den.neg), (.slice a53 (ofQ b.q).den.mag.length c54)]) C48 o37 io28 rfl rfl rfl rfl rfl rfl ?_)
  intro w57 C58 s59 o60
  replace h55 := h55.sp s59
  replace h56 := h56.sp s59
  refine Nl (W.ret (Jf rfl (resV.c o60 rfl ag28 rfl) (Ret.intro ?_ C58.below)))
  exact RV.eqv (a := (ofQ b.q)) ((Zp h55 h56).tr (Tr.weak C58.base)) (Ju2 hc45)
 refine Oa (Nl (W.condF rfl (Rg (O rfl (St.fieldAddr Ym rfl (O rfl (St.loadOA (vs := [(.bool b.den.neg), (.slice a9 b.den.mag.length c10)]) o28 ag26 rfl rfl rfl (O rfl (St.callR C42 Jnd rfl rfl (Jac C42.bd (a := b.den) (Jj h12) (by omega)) ?_)))))))))
 intro v61 w62 C63 s64 h65
 replace h5 := (h5.sp s43).sp s64
 replace h6 := (h6.sp s43).sp s64
 replace h11 := h11.sp s64
 replace o20 := (o20.spn s43).spn s64
 subst h65
 refine O rfl (St.eql2 rfl rfl (fun hc66 => ?_) (fun hc66 => ?_))
 ·refine Oa (Nl (W.condT rfl (Rg (O rfl (St.loadOA (vs := [(.bool a.num.neg), (.slice a1 a.num.mag.length c2), (.bool a.den.neg), (.slice a3 a.den.mag.length c4)]) o20 ag28 rfl rfl rfl (O rfl (St.callR C63 cb92 rfl rfl (Ja9 C63.bd (a := a) (Zp h5 h6) (by omega) (by omega)) ?_)))))))
  intro v67 w68 C69 s70 h71
  replace o37 := (o37.spn s64).spn s70
  obtain ⟨a72, c73, a74, c75, rfl, h76, h77⟩ := RV.rat h71
  refine On (St.storeC (cs' := [(.bool (ofQ a.q).num.neg), (.slice a72 (ofQ a.q).num.mag.length c73), (.bool (ofQ a.q).den.neg), (.slice a74 (ofQ a.q).den.mag.length c75)]) C69 o37 io28 rfl rfl rfl rfl rfl rfl ?_)
  intro w78 C79 s80 o81
  replace h76 := h76.sp s80
  replace h77 := h77.sp s80
  refine Nl (W.ret (Jf rfl (resV.c o81 rfl ag28 rfl) (Ret.intro ?_ C79.below)))
  exact RV.eqv (a := (ofQ a.q)) ((Zp h76 h77).tr (Tr.weak C79.base)) (Jti hc66)
 refine Oa (Nl (W.condF rfl (Rg (O rfl (St.fieldAddr Ym rfl (O rfl (St.loadOA (vs := [(.bool a.den.neg), (.slice a3 a.den.mag.length c4)]) o20 ag26 rfl rfl rfl (O rfl (St.bool (St.callR C63 Jgh rfl rfl (Jf1 C63.bd (a := a.den) (Jj h6)) ?_))))))))))
 intro v82 w83 C84 s85 h86
 replace h6 := h6.sp s85
 replace h12 := (h12.sp s64).sp s85
 replace o20 := o20.spn s85
 replace o28 := (o28.spn s64).spn s85
 replace o37 := (o37.spn s64).spn s85
 refine ⟨_, h86, fun hb87 => ?_, fun hb87 => ?_⟩
 ·refine Om (Og rfl rfl (St.fieldAddr Ym rfl (Og rfl rfl (St.loadOA (vs := [(.bool b.den.neg), (.slice a9 b.den.mag.length c10)]) o28 ag26 rfl rfl rfl (Og rfl rfl (St.bool (St.callR C84 Jgh rfl rfl (Jf1 C84.bd (a := b.den) (Jj h12)) ?_)))))))
  intro v88 w89 C90 s91 h92
  replace h5 := (h5.sp s85).sp s91
  replace h11 := (h11.sp s85).sp s91
  replace o20 := o20.spn s91
  replace o28 := o28.spn s91
  replace o37 := o37.spn s91
  refine ⟨_, h92, fun hb93 => ?_, fun hb93 => ?_⟩
  ·refine OT (Oa (Nl (W.condT rfl (Rg (O rfl (St.fieldAddr Kt rfl (O rfl (St.loadOA (vs := [(.bool a.num.neg), (.slice a1 a.num.mag.length c2)]) o20 ag26 rfl rfl rfl (O rfl (St.fieldAddr Kt rfl (O rfl (St.loadOA (vs := [(.bool b.num.neg), (.slice a7 b.num.mag.length c8)]) o28 ag26 rfl rfl rfl (O rfl (St.callR C90 Jrh rfl rfl (Jkt C90.bd (a := a.num) (Jj h5) (b := b.num) (Jj h11) (by omega) (by omega)) ?_))))))))))))))
   intro v94 w95 C96 s97 h98
   obtain ⟨a99, c100, rfl, h101⟩ := RV.int h98
   refine O rfl (St.callR C96 Jpq rfl rfl (Jo6 C96.bd (by decide) (by decide)) ?_)
   intro v102 w103 C104 s105 h106
   replace o37 := (o37.spn s97).spn s105
   obtain ⟨a107, c108, rfl, h109⟩ := RV.int h106
   refine O rfl (St.build (cs := [(.bool (ofZ (a.num.toZ + b.num.toZ)).neg), (.slice a99 (ofZ (a.num.toZ + b.num.toZ)).mag.length c100), (.bool (ofZ 1).neg), (.slice a107 (ofZ 1).mag.length c108)]) rfl (by kernel_rfl) (On (St.storeC (cs' := [(.bool (ofZ (a.num.toZ + b.num.toZ)).neg), (.slice a99 (ofZ (a.num.toZ + b.num.toZ)).mag.length c100), (.bool (ofZ 1).neg), (.slice a107 (ofZ 1).mag.length c108)]) C104 o37 io28 rfl rfl rfl rfl rfl rfl ?_)))
   intro w110 C111 s112 o113
   replace h101 := (h101.sp s105).sp s112
   replace h109 := h109.sp s112
   refine Nl (W.ret (Jf rfl (resV.c o113 rfl ag28 rfl) (Ret.intro ?_ C111.below)))
   exact RV.eqv (a := (⟨⟨(ofZ (a.num.toZ + b.num.toZ)).neg, (ofZ (a.num.toZ + b.num.toZ)).mag⟩, ⟨(ofZ 1).neg, (ofZ 1).mag⟩⟩ : GRat)) ((Zp h101 h109).tr (Tr.weak C111.base)) (Jpj (of_decide_eq_true hb87) (of_decide_eq_true hb93))
  refine OT (Oa (Nl (W.condF rfl (W.skip (W.seq (W.drawC Zc 12 [[], [0], [], [2], [1, 3], [], [5], [], [7], [6, 8], [4, 9], []] C90 [fx (.pointer (some ⟨g13, 0, none⟩)), fx (.agg #[(.bool a.num.neg), (.slice a1 a.num.mag.length c2)]), fx (.pointer (some ⟨g21, 2, none⟩)), fx (.agg #[(.bool b.den.neg), (.slice a9 b.den.mag.length c10)]), fr Jv (ofZ (a.num.toZ * b.den.toZ)), fx (.pointer (some ⟨g21, 0, none⟩)), fx (.agg #[(.bool b.num.neg), (.slice a7 b.num.mag.length c8)]), fx (.pointer (some ⟨g13, 2, none⟩)), fx (.agg #[(.bool a.den.neg), (.slice a3 a.den.mag.length c4)]), fr Jv (ofZ (b.num.toZ * a.den.toZ)), fr Jv (ofZ ((a.num.toZ * b.den.toZ) + (b.num.toZ * a.den.toZ))), fun (s : Gh) (v : Value) (w' : World) => ∃ g' : Nat, v = .pointer (some ⟨g', 0, none⟩) ∧ Own w s.2 w' g' [(.bool false), (.slice none 0 0)] 26 ∧ w89.heap.size ≤ g'] (by kernel_rfl) ⟨sx, sx, sx, sx, sr, sx, sx, sx, sx, sr, sr, (fun _ _ _ _ _ ⟨g, e, o, l⟩ r => ⟨g, e, o.spn r.sp, l⟩), trivial⟩ fun f150 s151 w152 ⟨C155, S156⟩ k154 => ?_))))))
  have lt157 := o20.blk.lt
  have lt158 := o28.blk.lt
  have lt159 := o37.blk.lt
  have hszS156 := S156.tx.size
  replace h5 := h5.sp S156
  replace h6 := (h6.sp s91).sp S156
  replace h11 := h11.sp S156
  replace h12 := (h12.sp s91).sp S156
  replace o20 := o20.spn S156
  replace o28 := o28.spn S156
  have k154 : Keep [36, 37, 38, 39, 40, 41, 42, 43, 44, 45, 46, 5] _ f150 := k154
  refine ⟨⟨fun _ => ?_, fun ⟨e160, _⟩ => ?_, fun _ => ?_, fun ⟨e161, _⟩ => ?_, fun ⟨e162, e163, _⟩ => ?_, fun _ => ?_, fun ⟨e164, _⟩ => ?_, fun _ => ?_, fun ⟨e165, _⟩ => ?_, fun ⟨e166, e167, _⟩ => ?_, fun ⟨d168, d169, _⟩ => ?_, fun _ => ?_, trivial⟩, fun ⟨e170, e171, e172, e173, d174, e175, e176, e177, e178, d179, d180, d181, _⟩ => ?_⟩
  ·exact Ja k154 aN fun _ => OpSt.op (St.fieldAddr Kt rfl ⟨s151, RC.same C155, rfl⟩)
  ·exact Ja k154 (aC e160 aN) fun _ => OpSt.op (St.loadOA (vs := [(.bool a.num.neg), (.slice a1 a.num.mag.length c2)]) o20 ag26 rfl rfl rfl ⟨s151, RC.same C155, rfl⟩)
  ·exact Ja k154 aN fun _ => OpSt.op (St.fieldAddr Ym rfl ⟨s151, RC.same C155, rfl⟩)
  ·exact Ja k154 (aC e161 aN) fun _ => OpSt.op (St.loadOA (vs := [(.bool b.den.neg), (.slice a9 b.den.mag.length c10)]) o28 ag26 rfl rfl rfl ⟨s151, RC.same C155, rfl⟩)
  ·refine Ja k154 (aC e162 (aC e163 aN)) fun _ => OpSt.op (St.callR C155 Jg6 rfl rfl (ke C155.bd (a := a.num) (Jj h5) (b := b.den) (Jj h12) (by omega) (by omega)) ?_)
   intro v182 w183 C184 s185 h186
   exact ⟨s151, ⟨C184, s185⟩, h186⟩
  ·exact Ja k154 aN fun _ => OpSt.op (St.fieldAddr Kt rfl ⟨s151, RC.same C155, rfl⟩)
  ·exact Ja k154 (aC e164 aN) fun _ => OpSt.op (St.loadOA (vs := [(.bool b.num.neg), (.slice a7 b.num.mag.length c8)]) o28 ag26 rfl rfl rfl ⟨s151, RC.same C155, rfl⟩)
  ·exact Ja k154 aN fun _ => OpSt.op (St.fieldAddr Ym rfl ⟨s151, RC.same C155, rfl⟩)
  ·exact Ja k154 (aC e165 aN) fun _ => OpSt.op (St.loadOA (vs := [(.bool a.den.neg), (.slice a3 a.den.mag.length c4)]) o20 ag26 rfl rfl rfl ⟨s151, RC.same C155, rfl⟩)
  ·refine Ja k154 (aC e166 (aC e167 aN)) fun _ => OpSt.op (St.callR C155 Jg6 rfl rfl (ke C155.bd (a := b.num) (Jj h11) (b := a.den) (Jj h6) (by omega) (by omega)) ?_)
   intro v187 w188 C189 s190 h191
   exact ⟨s151, ⟨C189, s190⟩, h191⟩
  ·obtain ⟨a193, c194, e192, h195⟩ := RV.int d168
   obtain ⟨a197, c198, e196, h199⟩ := RV.int d169
   refine Ja k154 (aC e192 (aC e196 aN)) fun _ => OpSt.op (St.callR C155 Jrh rfl rfl (Jkt C155.bd (a := (ofZ (a.num.toZ * b.den.toZ))) (Jj h195) (b := (ofZ (b.num.toZ * a.den.toZ))) (Jj h199) (by omega) (by omega)) ?_)
   intro v200 w201 C202 s203 h204
   simp only [Jp, Yv] at h204
   exact ⟨s151, ⟨C202, s203⟩, h204⟩
  ·refine Ja k154 aN fun _ => OpSt.op (St.allocC C155 io26 rfl ?_)
   intro g205 w206 x207 y208 lt209 C210 s211 o212
   exact ⟨(x207, y208), ⟨C210, s211⟩, g205, rfl, o212, Nat.le_of_not_lt fun hh => lt209 _ (Nat.lt_of_lt_of_le hh hszS156) rfl⟩
  obtain ⟨a217, c218, e216, h219⟩ := RV.int d174
  obtain ⟨a221, c222, e220, h223⟩ := RV.int d179
  obtain ⟨a225, c226, e224, h227⟩ := RV.int d180
  obtain ⟨g229, e228, o230, l231⟩ := d181
  have n232 : g13 ≠ g229 := Nat.ne_of_lt (Nat.lt_of_lt_of_le lt157 l231)
  have n233 : g21 ≠ g229 := Nat.ne_of_lt (Nat.lt_of_lt_of_le lt158 l231)
  have n234 : g30 ≠ g229 := Nat.ne_of_lt (Nat.lt_of_lt_of_le lt159 l231)
  obtain ⟨f236, rfl⟩ := mixK k154 (aC e170 (aC e171 (aC e172 (aC e173 (aC e216 (aC e175 (aC e176 (aC e177 (aC e178 (aC e220 (aC e224 (aC e228 aN))))))))))))
  refine On (St.storeC (cs' := [(.bool (ofZ ((a.num.toZ * b.den.toZ) + (b.num.toZ * a.den.toZ))).neg), (.slice a225 (ofZ ((a.num.toZ * b.den.toZ) + (b.num.toZ * a.den.toZ))).mag.length c226)]) C155 o230 io26 rfl rfl rfl rfl rfl rfl ?_)
  intro w237 C238 s239 o240
  replace o37 := (o37.spn S156).spo s239 n234
  refine Nl (W.seq (W.drawC Zc 6 [[], [], [1], [], [3], [2, 4]] C238 [fx (.agg #[(.bool (ofZ ((a.num.toZ * b.den.toZ) + (b.num.toZ * a.den.toZ))).neg), (.slice a225 (ofZ ((a.num.toZ * b.den.toZ) + (b.num.toZ * a.den.toZ))).mag.length c226)]), fx (.pointer (some ⟨g13, 2, none⟩)), fx (.agg #[(.bool a.den.neg), (.slice a3 a.den.mag.length c4)]), fx (.pointer (some ⟨g21, 2, none⟩)), fx (.agg #[(.bool b.den.neg), (.slice a9 b.den.mag.length c10)]), fr Jv (ofZ (a.den.toZ * b.den.toZ))] (by kernel_rfl) ⟨sx, sx, sx, sx, sx, sr, trivial⟩ fun f250 s251 w252 ⟨C255, S256⟩ k254 => ?_))
  replace h6 := (h6.sp s239).sp S256
  replace h12 := (h12.sp s239).sp S256
  replace h227 := (h227.sp s239).sp S256
  replace o20 := (o20.spo s239 n232).spn S256
  replace o28 := (o28.spo s239 n233).spn S256
  replace o240 := o240.spn S256
  have k254 : Keep [47, 48, 49, 50, 51, 52] _ f250 := k254
  refine ⟨⟨fun _ => ?_, fun _ => ?_, fun ⟨e261, _⟩ => ?_, fun _ => ?_, fun ⟨e262, _⟩ => ?_, fun ⟨e263, e264, _⟩ => ?_, trivial⟩, fun ⟨e265, e266, e267, e268, e269, d270, _⟩ => ?_⟩
  ·exact Ja k254 aN fun _ => OpSt.op (St.loadOA (vs := [(.bool (ofZ ((a.num.toZ * b.den.toZ) + (b.num.toZ * a.den.toZ))).neg), (.slice a225 (ofZ ((a.num.toZ * b.den.toZ) + (b.num.toZ * a.den.toZ))).mag.length c226)]) o240 ag26 rfl rfl rfl ⟨s251, RC.same C255, rfl⟩)
  ·exact Ja k254 aN fun _ => OpSt.op (St.fieldAddr Ym rfl ⟨s251, RC.same C255, rfl⟩)
  ·exact Ja k254 (aC e261 aN) fun _ => OpSt.op (St.loadOA (vs := [(.bool a.den.neg), (.slice a3 a.den.mag.length c4)]) o20 ag26 rfl rfl rfl ⟨s251, RC.same C255, rfl⟩)
  ·exact Ja k254 aN fun _ => OpSt.op (St.fieldAddr Ym rfl ⟨s251, RC.same C255, rfl⟩)
  ·exact Ja k254 (aC e262 aN) fun _ => OpSt.op (St.loadOA (vs := [(.bool b.den.neg), (.slice a9 b.den.mag.length c10)]) o28 ag26 rfl rfl rfl ⟨s251, RC.same C255, rfl⟩)
  ·refine Ja k254 (aC e263 (aC e264 aN)) fun _ => OpSt.op (St.callR C255 Jg6 rfl rfl (ke C255.bd (a := a.den) (Jj h6) (b := b.den) (Jj h12) (by omega) (by omega)) ?_)
   intro v271 w272 C273 s274 h275
   exact ⟨s251, ⟨C273, s274⟩, h275⟩
  obtain ⟨a277, c278, e276, h279⟩ := RV.int d270
  obtain ⟨f280, rfl⟩ := mixK k254 (aC e265 (aC e266 (aC e267 (aC e268 (aC e269 (aC e276 aN))))))
  refine O rfl (St.callR C255 Jne rfl rfl (Jeu C255.bd (n := (ofZ ((a.num.toZ * b.den.toZ) + (b.num.toZ * a.den.toZ)))) (Jj h227) (d := (ofZ (a.den.toZ * b.den.toZ))) (Jj h279) (by omega) (by omega)) ?_)
  intro v281 w282 C283 s284 h285
  replace o37 := (o37.spn S256).spn s284
  simp only [Jp, Yv] at h285
  obtain ⟨a286, c287, a288, c289, rfl, h290, h291⟩ := RV.rat h285
  refine On (St.storeC (cs' := [(.bool (ofQ (Rat.divInt ((a.num.toZ * b.den.toZ) + (b.num.toZ * a.den.toZ)) (a.den.toZ * b.den.toZ))).num.neg), (.slice a286 (ofQ (Rat.divInt ((a.num.toZ * b.den.toZ) + (b.num.toZ * a.den.toZ)) (a.den.toZ * b.den.toZ))).num.mag.length c287), (.bool (ofQ (Rat.divInt ((a.num.toZ * b.den.toZ) + (b.num.toZ * a.den.toZ)) (a.den.toZ * b.den.toZ))).den.neg), (.slice a288 (ofQ (Rat.divInt ((a.num.toZ * b.den.toZ) + (b.num.toZ * a.den.toZ)) (a.den.toZ * b.den.toZ))).den.mag.length c289)]) C283 o37 io28 rfl rfl rfl rfl rfl rfl ?_)
  intro w292 C293 s294 o295
  replace h290 := h290.sp s294
  replace h291 := h291.sp s294
  refine Nl (W.ret (Jf rfl (resV.c o295 rfl ag28 rfl) (Ret.intro ?_ C293.below)))
  exact RV.eqv (a := (ofQ (Rat.divInt ((a.num.toZ * b.den.toZ) + (b.num.toZ * a.den.toZ)) (a.den.toZ * b.den.toZ)))) ((Zp h290 h291).tr (Tr.weak C293.base)) (Jfy hc45 hc66)
 refine Om (Ox rfl rfl rfl (Ox rfl rfl rfl (Ox rfl rfl rfl (OF (Oa (Nl (W.condF rfl (W.skip (W.seq (W.drawC Zc 12 [[], [0], [], [2], [1, 3], [], [5], [], [7], [6, 8], [4, 9], []] C84 [fx (.pointer (some ⟨g13, 0, none⟩)), fx (.agg #[(.bool a.num.neg), (.slice a1 a.num.mag.length c2)]), fx (.pointer (some ⟨g21, 2, none⟩)), fx (.agg #[(.bool b.den.neg), (.slice a9 b.den.mag.length c10)]), fr Jv (ofZ (a.num.toZ * b.den.toZ)), fx (.pointer (some ⟨g21, 0, none⟩)), fx (.agg #[(.bool b.num.neg), (.slice a7 b.num.mag.length c8)]), fx (.pointer (some ⟨g13, 2, none⟩)), fx (.agg #[(.bool a.den.neg), (.slice a3 a.den.mag.length c4)]), fr Jv (ofZ (b.num.toZ * a.den.toZ)), fr Jv (ofZ ((a.num.toZ * b.den.toZ) + (b.num.toZ * a.den.toZ))), fun (s : Gh) (v : Value) (w' : World) => ∃ g' : Nat, v = .pointer (some ⟨g', 0, none⟩) ∧ Own w s.2 w' g' [(.bool false), (.slice none 0 0)] 26 ∧ w83.heap.size ≤ g'] (by kernel_rfl) ⟨sx, sx, sx, sx, sr, sx, sx, sx, sx, sr, sr, (fun _ _ _ _ _ ⟨g, e, o, l⟩ r => ⟨g, e, o.spn r.sp, l⟩), trivial⟩ fun f332 s333 w334 ⟨C337, S338⟩ k336 => ?_))))))))))
 have lt339 := o20.blk.lt
 have lt340 := o28.blk.lt
 have lt341 := o37.blk.lt
 have hszS338 := S338.tx.size
 replace h5 := (h5.sp s85).sp S338
 replace h6 := h6.sp S338
 replace h11 := (h11.sp s85).sp S338
 replace h12 := h12.sp S338
 replace o20 := o20.spn S338
 replace o28 := o28.spn S338
 have k336 : Keep [36, 37, 38, 39, 40, 41, 42, 43, 44, 45, 46, 5] _ f332 := k336
 refine ⟨⟨fun _ => ?_, fun ⟨e342, _⟩ => ?_, fun _ => ?_, fun ⟨e343, _⟩ => ?_, fun ⟨e344, e345, _⟩ => ?_, fun _ => ?_, fun ⟨e346, _⟩ => ?_, fun _ => ?_, fun ⟨e347, _⟩ => ?_, fun ⟨e348, e349, _⟩ => ?_, fun ⟨d350, d351, _⟩ => ?_, fun _ => ?_, trivial⟩, fun ⟨e352, e353, e354, e355, d356, e357, e358, e359, e360, d361, d362, d363, _⟩ => ?_⟩
 ·exact Ja k336 aN fun _ => OpSt.op (St.fieldAddr Kt rfl ⟨s333, RC.same C337, rfl⟩)
 ·exact Ja k336 (aC e342 aN) fun _ => OpSt.op (St.loadOA (vs := [(.bool a.num.neg), (.slice a1 a.num.mag.length c2)]) o20 ag26 rfl rfl rfl ⟨s333, RC.same C337, rfl⟩)
 ·exact Ja k336 aN fun _ => OpSt.op (St.fieldAddr Ym rfl ⟨s333, RC.same C337, rfl⟩)
 ·exact Ja k336 (aC e343 aN) fun _ => OpSt.op (St.loadOA (vs := [(.bool b.den.neg), (.slice a9 b.den.mag.length c10)]) o28 ag26 rfl rfl rfl ⟨s333, RC.same C337, rfl⟩)
 ·refine Ja k336 (aC e344 (aC e345 aN)) fun _ => OpSt.op (St.callR C337 Jg6 rfl rfl (ke C337.bd (a := a.num) (Jj h5) (b := b.den) (Jj h12) (by omega) (by omega)) ?_)
  intro v364 w365 C366 s367 h368
  exact ⟨s333, ⟨C366, s367⟩, h368⟩
 ·exact Ja k336 aN fun _ => OpSt.op (St.fieldAddr Kt rfl ⟨s333, RC.same C337, rfl⟩)
 ·exact Ja k336 (aC e346 aN) fun _ => OpSt.op (St.loadOA (vs := [(.bool b.num.neg), (.slice a7 b.num.mag.length c8)]) o28 ag26 rfl rfl rfl ⟨s333, RC.same C337, rfl⟩)
 ·exact Ja k336 aN fun _ => OpSt.op (St.fieldAddr Ym rfl ⟨s333, RC.same C337, rfl⟩)
 ·exact Ja k336 (aC e347 aN) fun _ => OpSt.op (St.loadOA (vs := [(.bool a.den.neg), (.slice a3 a.den.mag.length c4)]) o20 ag26 rfl rfl rfl ⟨s333, RC.same C337, rfl⟩)
 ·refine Ja k336 (aC e348 (aC e349 aN)) fun _ => OpSt.op (St.callR C337 Jg6 rfl rfl (ke C337.bd (a := b.num) (Jj h11) (b := a.den) (Jj h6) (by omega) (by omega)) ?_)
  intro v369 w370 C371 s372 h373
  exact ⟨s333, ⟨C371, s372⟩, h373⟩
 ·obtain ⟨a375, c376, e374, h377⟩ := RV.int d350
  obtain ⟨a379, c380, e378, h381⟩ := RV.int d351
  refine Ja k336 (aC e374 (aC e378 aN)) fun _ => OpSt.op (St.callR C337 Jrh rfl rfl (Jkt C337.bd (a := (ofZ (a.num.toZ * b.den.toZ))) (Jj h377) (b := (ofZ (b.num.toZ * a.den.toZ))) (Jj h381) (by omega) (by omega)) ?_)
  intro v382 w383 C384 s385 h386
  simp only [Jp, Yv] at h386
  exact ⟨s333, ⟨C384, s385⟩, h386⟩
 ·refine Ja k336 aN fun _ => OpSt.op (St.allocC C337 io26 rfl ?_)
  intro g387 w388 x389 y390 lt391 C392 s393 o394
  exact ⟨(x389, y390), ⟨C392, s393⟩, g387, rfl, o394, Nat.le_of_not_lt fun hh => lt391 _ (Nat.lt_of_lt_of_le hh hszS338) rfl⟩
 obtain ⟨a399, c400, e398, h401⟩ := RV.int d356
 obtain ⟨a403, c404, e402, h405⟩ := RV.int d361
 obtain ⟨a407, c408, e406, h409⟩ := RV.int d362
 obtain ⟨g411, e410, o412, l413⟩ := d363
 have n414 : g13 ≠ g411 := Nat.ne_of_lt (Nat.lt_of_lt_of_le lt339 l413)
 have n415 : g21 ≠ g411 := Nat.ne_of_lt (Nat.lt_of_lt_of_le lt340 l413)
 have n416 : g30 ≠ g411 := Nat.ne_of_lt (Nat.lt_of_lt_of_le lt341 l413)
 obtain ⟨f418, rfl⟩ := mixK k336 (aC e352 (aC e353 (aC e354 (aC e355 (aC e398 (aC e357 (aC e358 (aC e359 (aC e360 (aC e402 (aC e406 (aC e410 aN))))))))))))
 refine On (St.storeC (cs' := [(.bool (ofZ ((a.num.toZ * b.den.toZ) + (b.num.toZ * a.den.toZ))).neg), (.slice a407 (ofZ ((a.num.toZ * b.den.toZ) + (b.num.toZ * a.den.toZ))).mag.length c408)]) C337 o412 io26 rfl rfl rfl rfl rfl rfl ?_)
 intro w419 C420 s421 o422
 replace o37 := (o37.spn S338).spo s421 n416
 refine Nl (W.seq (W.drawC Zc 6 [[], [], [1], [], [3], [2, 4]] C420 [fx (.agg #[(.bool (ofZ ((a.num.toZ * b.den.toZ) + (b.num.toZ * a.den.toZ))).neg), (.slice a407 (ofZ ((a.num.toZ * b.den.toZ) + (b.num.toZ * a.den.toZ))).mag.length c408)]), fx (.pointer (some ⟨g13, 2, none⟩)), fx (.agg #[(.bool a.den.neg), (.slice a3 a.den.mag.length c4)]), fx (.pointer (some ⟨g21, 2, none⟩)), fx (.agg #[(.bool b.den.neg), (.slice a9 b.den.mag.length c10)]), fr Jv (ofZ (a.den.toZ * b.den.toZ))] (by kernel_rfl) ⟨sx, sx, sx, sx, sx, sr, trivial⟩ fun f432 s433 w434 ⟨C437, S438⟩ k436 => ?_))
 replace h6 := (h6.sp s421).sp S438
 replace h12 := (h12.sp s421).sp S438
 replace h409 := (h409.sp s421).sp S438
 replace o20 := (o20.spo s421 n414).spn S438
 replace o28 := (o28.spo s421 n415).spn S438
 replace o422 := o422.spn S438
 have k436 : Keep [47, 48, 49, 50, 51, 52] _ f432 := k436
 refine ⟨⟨fun _ => ?_, fun _ => ?_, fun ⟨e443, _⟩ => ?_, fun _ => ?_, fun ⟨e444, _⟩ => ?_, fun ⟨e445, e446, _⟩ => ?_, trivial⟩, fun ⟨e447, e448, e449, e450, e451, d452, _⟩ => ?_⟩
 ·exact Ja k436 aN fun _ => OpSt.op (St.loadOA (vs := [(.bool (ofZ ((a.num.toZ * b.den.toZ) + (b.num.toZ * a.den.toZ))).neg), (.slice a407 (ofZ ((a.num.toZ * b.den.toZ) + (b.num.toZ * a.den.toZ))).mag.length c408)]) o422 ag26 rfl rfl rfl ⟨s433, RC.same C437, rfl⟩)
 ·exact Ja k436 aN fun _ => OpSt.op (St.fieldAddr Ym rfl ⟨s433, RC.same C437, rfl⟩)
 ·exact Ja k436 (aC e443 aN) fun _ => OpSt.op (St.loadOA (vs := [(.bool a.den.neg), (.slice a3 a.den.mag.length c4)]) o20 ag26 rfl rfl rfl ⟨s433, RC.same C437, rfl⟩)
 ·exact Ja k436 aN fun _ => OpSt.op (St.fieldAddr Ym rfl ⟨s433, RC.same C437, rfl⟩)
 ·exact Ja k436 (aC e444 aN) fun _ => OpSt.op (St.loadOA (vs := [(.bool b.den.neg), (.slice a9 b.den.mag.length c10)]) o28 ag26 rfl rfl rfl ⟨s433, RC.same C437, rfl⟩)
 ·refine Ja k436 (aC e445 (aC e446 aN)) fun _ => OpSt.op (St.callR C437 Jg6 rfl rfl (ke C437.bd (a := a.den) (Jj h6) (b := b.den) (Jj h12) (by omega) (by omega)) ?_)
  intro v453 w454 C455 s456 h457
  exact ⟨s433, ⟨C455, s456⟩, h457⟩
 obtain ⟨a459, c460, e458, h461⟩ := RV.int d452
 obtain ⟨f462, rfl⟩ := mixK k436 (aC e447 (aC e448 (aC e449 (aC e450 (aC e451 (aC e458 aN))))))
 refine O rfl (St.callR C437 Jne rfl rfl (Jeu C437.bd (n := (ofZ ((a.num.toZ * b.den.toZ) + (b.num.toZ * a.den.toZ)))) (Jj h409) (d := (ofZ (a.den.toZ * b.den.toZ))) (Jj h461) (by omega) (by omega)) ?_)
 intro v463 w464 C465 s466 h467
 replace o37 := (o37.spn S438).spn s466
 simp only [Jp, Yv] at h467
 obtain ⟨a468, c469, a470, c471, rfl, h472, h473⟩ := RV.rat h467
 refine On (St.storeC (cs' := [(.bool (ofQ (Rat.divInt ((a.num.toZ * b.den.toZ) + (b.num.toZ * a.den.toZ)) (a.den.toZ * b.den.toZ))).num.neg), (.slice a468 (ofQ (Rat.divInt ((a.num.toZ * b.den.toZ) + (b.num.toZ * a.den.toZ)) (a.den.toZ * b.den.toZ))).num.mag.length c469), (.bool (ofQ (Rat.divInt ((a.num.toZ * b.den.toZ) + (b.num.toZ * a.den.toZ)) (a.den.toZ * b.den.toZ))).den.neg), (.slice a470 (ofQ (Rat.divInt ((a.num.toZ * b.den.toZ) + (b.num.toZ * a.den.toZ)) (a.den.toZ * b.den.toZ))).den.mag.length c471)]) C465 o37 io28 rfl rfl rfl rfl rfl rfl ?_)
 intro w474 C475 s476 o477
 replace h472 := h472.sp s476
 replace h473 := h473.sp s476
 refine Nl (W.ret (Jf rfl (resV.c o477 rfl ag28 rfl) (Ret.intro ?_ C475.below)))
 exact RV.eqv (a := (ofQ (Rat.divInt ((a.num.toZ * b.den.toZ) + (b.num.toZ * a.den.toZ)) (a.den.toZ * b.den.toZ)))) ((Zp h472 h473).tr (Tr.weak C475.base)) (Jfy hc45 hc66)
set_option maxHeartbeats 1000000 in
theorem Jty {X : Nat → Prop} {w : World} (hX : ∀ b, X b → b < w.heap.size) {v0 : Value} {a : GRat} (r0 : RV Yk X w v0 a) {v1 : Value} {b : GRat} (r1 : RV Yk X w v1 b) (hln : a.num.mag.length ≤ 17179869184) (hld : a.den.mag.length ≤ 17179869184) (hlm : b.num.mag.length ≤ 17179869184) (hle : b.den.mag.length ≤ 17179869184) : Calls Tryz.prog 123 #[v0, v1] w (Ret w fun v w' => RV Yk X w' v (ofQ (a.q - b.q))) := by
 obtain ⟨a1, c2, a3, c4, rfl, h5, h6⟩ := RV.rat r0
 obtain ⟨a7, c8, a9, c10, rfl, h11, h12⟩ := RV.rat r1
 have C := Cx.start hX
 have sn := r0.rat_small.1
 have sd := r0.rat_small.2
 have sm := r1.rat_small.1
 have se := r1.rat_small.2
 have q1 := Kn sm
 have q2 := Ko se
 rw [← Xn] at q1
 rw [← Xy] at q2
 refine Calls.ofW (args := [(.agg #[(.bool a.num.neg), (.slice a1 a.num.mag.length c2), (.bool a.den.neg), (.slice a3 a.den.mag.length c4)]), (.agg #[(.bool b.num.neg), (.slice a7 b.num.mag.length c8), (.bool b.den.neg), (.slice a9 b.den.mag.length c10)])]) Tryz.func123 rfl rfl (Nat.le_of_ble_eq_true rfl) (Rg (O rfl (St.boxC C rfl ?_)))
 intro g13 w14 x15 y16 lt17 C18 s19 o20
 refine O rfl (St.boxC C18 rfl ?_)
 intro g21 w22 x23 y24 lt25 C26 s27 o28
 replace h5 := (h5.sp s19).sp s27
 replace h6 := (h6.sp s19).sp s27
 replace h11 := (h11.sp s19).sp s27
 replace h12 := (h12.sp s19).sp s27
 replace o20 := o20.spn s27
 refine O rfl (St.allocC C26 io28 rfl ?_)
 intro g30 w31 x32 y33 lt34 C35 s36 o37
 refine Nl (W.seq (W.drawC Zc 3 [[], [], [1]] C35 [fx (.agg #[(.bool a.num.neg), (.slice a1 a.num.mag.length c2), (.bool a.den.neg), (.slice a3 a.den.mag.length c4)]), fx (.agg #[(.bool b.num.neg), (.slice a7 b.num.mag.length c8), (.bool b.den.neg), (.slice a9 b.den.mag.length c10)]), fr Yk (ofQ (-b.q))] (by kernel_rfl) ⟨sx, sx, sr, trivial⟩ fun f52 s53 w54 ⟨C57, S58⟩ k56 => ?_))
 replace h5 := (h5.sp s36).sp S58
 replace h6 := (h6.sp s36).sp S58
 replace h11 := (h11.sp s36).sp S58
 replace h12 := (h12.sp s36).sp S58
 replace o20 := (o20.spn s36).spn S58
 replace o28 := (o28.spn s36).spn S58
 have k56 : Keep [5, 6, 7] _ f52 := k56
 refine ⟨⟨fun _ => ?_, fun _ => ?_, fun ⟨e62, _⟩ => ?_, trivial⟩, fun ⟨e63, e64, d65, _⟩ => ?_⟩
 ·exact Ja k56 aN fun _ => OpSt.op (St.loadOA (vs := [(.bool a.num.neg), (.slice a1 a.num.mag.length c2), (.bool a.den.neg), (.slice a3 a.den.mag.length c4)]) o20 ag28 rfl rfl rfl ⟨s53, RC.same C57, rfl⟩)
 ·exact Ja k56 aN fun _ => OpSt.op (St.loadOA (vs := [(.bool b.num.neg), (.slice a7 b.num.mag.length c8), (.bool b.den.neg), (.slice a9 b.den.mag.length c10)]) o28 ag28 rfl rfl rfl ⟨s53, RC.same C57, rfl⟩)
 ·refine Ja k56 (aC e62 aN) fun _ => OpSt.op (St.callR C57 cb106 rfl rfl (Jwx C57.bd (a := b) (Zp h11 h12) (by omega) (by omega)) ?_)
  intro v66 w67 C68 s69 h70
  exact ⟨s53, ⟨C68, s69⟩, h70⟩
 obtain ⟨a72, c73, a74, c75, e71, h76, h77⟩ := RV.rat d65
 obtain ⟨f78, rfl⟩ := mixK k56 (aC e63 (aC e64 (aC e71 aN)))
 refine O rfl (St.callR C57 cb141 rfl rfl (Js2 C57.bd (a := a) (Zp h5 h6) (b := (ofQ (-b.q))) (Zp h76 h77) (by omega) (by omega) (by omega) (by omega)) ?_)
 intro v79 w80 C81 s82 h83
 replace o37 := (o37.spn S58).spn s82
 simp only [Jp, Yv] at h83
 obtain ⟨a84, c85, a86, c87, rfl, h88, h89⟩ := RV.rat h83
 refine On (St.storeC (cs' := [(.bool (ofQ (a.q + (-b.q))).num.neg), (.slice a84 (ofQ (a.q + (-b.q))).num.mag.length c85), (.bool (ofQ (a.q + (-b.q))).den.neg), (.slice a86 (ofQ (a.q + (-b.q))).den.mag.length c87)]) C81 o37 io28 rfl rfl rfl rfl rfl rfl ?_)
 intro w90 C91 s92 o93
 replace h88 := h88.sp s92
 replace h89 := h89.sp s92
 refine Nl (W.ret (Jf rfl (resV.c o93 rfl ag28 rfl) (Ret.intro ?_ C91.below)))
 exact RV.eqv (a := (ofQ (a.q + (-b.q)))) ((Zp h88 h89).tr (Tr.weak C91.base)) ((by rw [Rat.sub_eq_add_neg]))
set_option maxHeartbeats 1000000 in
theorem Juj {X : Nat → Prop} {w : World} (hX : ∀ b, X b → b < w.heap.size) {v0 : Value} {a : GRat} (r0 : RV Yk X w v0 a) {v1 : Value} {b : GRat} (r1 : RV Yk X w v1 b) (hln : a.num.mag.length ≤ 4294967296) (hld : a.den.mag.length ≤ 4294967296) (hlm : b.num.mag.length ≤ 4294967296) (hle : b.den.mag.length ≤ 4294967296) : Calls Tryz.prog 85 #[v0, v1] w (Ret w fun v w' => v = (.int .i64 (qcmp a.q b.q))) := by
 obtain ⟨a1, c2, a3, c4, rfl, h5, h6⟩ := RV.rat r0
 obtain ⟨a7, c8, a9, c10, rfl, h11, h12⟩ := RV.rat r1
 have C := Cx.start hX
 have sn := r0.rat_small.1
 have sd := r0.rat_small.2
 have sm := r1.rat_small.1
 have se := r1.rat_small.2
 have q1 := Kn sm
 have q2 := Ko se
 rw [← Xn] at q1
 rw [← Xy] at q2
 have q3 := Kn sn
 have q4 := Ko sd
 have q5 := yg a.q (-b.q)
 have q6 := ya a.q (-b.q)
 rw [← Rat.sub_eq_add_neg] at q5 q6
 refine Calls.ofW (args := [(.agg #[(.bool a.num.neg), (.slice a1 a.num.mag.length c2), (.bool a.den.neg), (.slice a3 a.den.mag.length c4)]), (.agg #[(.bool b.num.neg), (.slice a7 b.num.mag.length c8), (.bool b.den.neg), (.slice a9 b.den.mag.length c10)])]) Tryz.func85 rfl rfl (Nat.le_of_ble_eq_true rfl) (Rg (O rfl (St.boxC C rfl ?_)))
 intro g13 w14 x15 y16 lt17 C18 s19 o20
 refine O rfl (St.boxC C18 rfl ?_)
 intro g21 w22 x23 y24 lt25 C26 s27 o28
 replace h5 := (h5.sp s19).sp s27
 replace h6 := (h6.sp s19).sp s27
 replace h11 := (h11.sp s19).sp s27
 replace h12 := (h12.sp s19).sp s27
 replace o20 := o20.spn s27
 refine Oa (Nl (Rg (O rfl (St.loadOA (vs := [(.bool a.num.neg), (.slice a1 a.num.mag.length c2), (.bool a.den.neg), (.slice a3 a.den.mag.length c4)]) o20 ag28 rfl rfl rfl (O rfl (St.loadOA (vs := [(.bool b.num.neg), (.slice a7 b.num.mag.length c8), (.bool b.den.neg), (.slice a9 b.den.mag.length c10)]) o28 ag28 rfl rfl rfl (O rfl (St.callR C26 cb123 rfl rfl (Jty C26.bd (a := a) (Zp h5 h6) (b := b) (Zp h11 h12) (by omega) (by omega) (by omega) (by omega)) ?_))))))))
 intro v30 w31 C32 s33 h34
 obtain ⟨a35, c36, a37, c38, rfl, h39, h40⟩ := RV.rat h34
 refine O rfl (St.callR C32 cb121 rfl rfl (Jsg C32.bd (a := (ofQ (a.q - b.q))) (Zp h39 h40) (by omega) (by omega)) ?_)
 intro v41 w42 C43 s44 h45
 simp only [Jp, Yv] at h45
 subst h45
 refine Oa (Nl (W.ret (Jf rfl (resV.t rfl) (Ret.intro ?_ C43.below))))
 rfl
end Go.Wf
namespace Go.Wf
set_option linter.unusedVariables false
set_option linter.unusedSimpArgs false
open Go
theorem Ji3 {a : GInt} (sa : Jo a.mag) {b : Bool} (hb : b = (a.neg && decide (0 < (trim a.mag).length))) : (⟨b, trim a.mag⟩ : GInt) = ofZ a.toZ := by
 subst hb
 have h := Jkc (b := a.neg) sa
 unfold mkSg at h
 exact h
theorem xg {x y : Nat} : cmpN x y = -1 ↔ x < y := by
 unfold cmpN
 split
 ·exact ⟨fun _ => by assumption, fun _ => rfl⟩
 ·split <;> constructor <;> intro h <;> omega
theorem Jiv {a b : List Nat} (ha : trim a = a) (hb : trim b = b) (sa : Jo a) (sb : Jo b) (h : ¬ a.length = b.length) : decide (((a.length : Nat) : Int) < ((b.length : Nat) : Int)) = decide (val a < val b) := by
 rcases Nat.lt_or_ge a.length b.length with hl | hl
 ·rw [decide_eq_true (by omega), decide_eq_true (Ya hb sa hl)]
 ·have := Ya ha sb (by omega)
  rw [decide_eq_false (by omega), decide_eq_false (by omega)]
theorem Jjo {a b : List Nat} {j : Nat} (sa : Jo a) (sb : Jo b) (hl : j ≤ a.length) (hab : a.length = b.length) (h0 : 0 < j) (h : ¬ ((a.getD (j - 1) 0 : Nat) : Int) = ((b.getD (j - 1) 0 : Nat) : Int)) (heq : a.drop j = b.drop j) :
  decide (((a.getD (j - 1) 0 : Nat) : Int) < ((b.getD (j - 1) 0 : Nat) : Int)) = decide (val a < val b) := by
 rcases Nat.lt_or_ge (a.getD (j - 1) 0) (b.getD (j - 1) 0) with hd | hd
 ·have := (Jjw sa sb hl hab h0 hd heq).symm
  rw [decide_eq_true (by omega), decide_eq_true (xg.1 this)]
 ·have := (Jny sa sb hl hab h0 (by omega) (by omega) heq).symm
  rw [decide_eq_false (by omega), decide_eq_false (fun h => by have h2 := xg.2 h; omega)]
theorem Jmz {a b : List Nat} {j : Nat} (h : j = 0) (heq : a.drop j = b.drop j) : false = decide (val a < val b) := by
 have := Jn4 h heq
 exact (decide_eq_false fun h => by have h2 := xg.2 h; omega).symm
theorem V9 {a b p : List Nat} {i c s : Nat} (hp : p.length = i) (hv : val p + 4294967296 ^ i * c = val (a.take i) + val (b.take i)) (hs : s = c + a.getD i 0 + b.getD i 0) :
  val (p ++ [s % 4294967296]) + 4294967296 ^ (i + 1) * (s / 4294967296) = val (a.take (i + 1)) + val (b.take (i + 1)) := by
 rw [Zu, Jn, Jn, hp, Nat.pow_succ, Nat.mul_assoc, Nat.add_assoc, ← Nat.mul_add, Nat.mod_add_div, hs, Nat.mul_add, Nat.mul_add]
 omega
theorem Jh4 {a b p : List Nat} {i c : Nat} (sp : Jo p) (hp : p.length = i) (hi : i = max a.length b.length) (hc : c ≤ 1) (hv : val p + 4294967296 ^ i * c = val (a.take i) + val (b.take i)) :
  p ++ [c % 4294967296] = Jr (max a.length b.length + 1) (val a + val b) := by
 rw [Nat.mod_eq_of_lt (by omega)]
 rw [List.take_of_length_le (by omega), List.take_of_length_le (by omega)] at hv
 refine Yg (Jw sp (by omega)) (by rw [List.length_append, hp, hi]; rfl) ?_
 rw [Zu, hp, hv]
theorem Xt {a b p : List Nat} {i c c' s d : Nat} (hp : p.length = i) (hv : val p + val (b.take i) = val (a.take i) + 4294967296 ^ i * c) (hs : s = c + b.getD i 0) (hd : d + s = a.getD i 0 + 4294967296 * c') :
  val (p ++ [d]) + val (b.take (i + 1)) = val (a.take (i + 1)) + 4294967296 ^ (i + 1) * c' := by
 rw [Zu, Jn, Jn, hp, Nat.pow_succ, Nat.mul_assoc]
 have h := congrArg (4294967296 ^ i * ·) hd
 simp only [hs, Nat.mul_add] at h
 omega
theorem Jkx {x y : GInt} (h : x.neg = y.neg) : Jk x.neg (val x.mag + val y.mag) = x.toZ + y.toZ := by
 have := Jfd (a := x) (b := y.mag) h
 rw [h, this]; rfl
theorem Jsm {x y : GInt} (h : ¬ x.neg = y.neg) (hle : val x.mag ≤ val y.mag) : Jk y.neg (val y.mag - val x.mag) = x.toZ + y.toZ := by
 rw [Jnx (a := x) h hle]; rfl
theorem Jq3 {x y : GInt} (h : ¬ x.neg = y.neg) (hle : val y.mag ≤ val x.mag) : Jk x.neg (val x.mag - val y.mag) = x.toZ + y.toZ := by
 rw [Jnq (a := x) h hle]; rfl
end Go.Wf
