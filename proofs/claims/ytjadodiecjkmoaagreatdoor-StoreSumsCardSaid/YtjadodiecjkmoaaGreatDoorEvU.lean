/-
  Operations that turn maps, iterators; copy, cap, a string of a block's bytes and back.
-/
import Derived.Test.YtjadodiecjkmoaaGreatDoorEvT
import Derived.Lib.UnsafeStr
namespace Go.Ev
set_option linter.unusedVariables false
set_option linter.unusedSimpArgs false
open Go Go.Wf Go.RowKit

section
variable {P : Program} {f : Fr} {v : AV} {h h' : Hp} {Φ : Phi} {τ : Tau} {w w' : World}
/-- an object laid anew -/
def setOb (w : World) (g : Nat) (O : Obj) : World := { w with heap := w.heap.setIfInBounds g O }
theorem run_setOb {g : Nat} {O O' : Obj} (h : w.heap[g]? = some O') (hn : ∀ c t f, O' ≠ .cells c t f := by intro _ _ _ h; cases h) : (setObj g O).run P w = .ok () (setOb w g O) := by
  cases O' with
  | cells c t f => exact absurd rfl (hn c t f)
  | _ => simp [setObj, Sem.run, h, setOb]
theorem setOb_at {g : Nat} {O : Obj} (h : g < w.heap.size) : (setOb w g O).heap[g]? = some O := by simp [setOb, h]
theorem setOb_other {g k : Nat} {O : Obj} (h : k ≠ g) : (setOb w g O).heap[k]? = w.heap[k]? := by
  simp only [setOb, Array.getElem?_setIfInBounds]
  rw [if_neg (fun e => h e.symm)]
theorem setOb_size {g : Nat} {O : Obj} : (setOb w g O).heap.size = w.heap.size := by simp [setOb]
theorem Rel.ob {id : Nat} {b b' : Blk} {en : Ent} {O O' : Obj} (r : Rel Φ τ h w) (hid : id < h.n) (hb : get5 id h.t = some b) (br : OR Φ τ w b en id O) (hro : b'.ro = false) (hO : ObR Φ b'.ob O') :
    Rel Φ τ (putB h id (some b')) (setOb w en.g O') ∧ Tw Φ τ h w Φ τ h.n (setOb w en.g O') :=
  r.turn (en := en) hid hb br.lab rfl rfl rfl setOb_size (fun g hg => setOb_other hg) (.inr (.inl ⟨en, O', br.ent, br.lab, hro, br.base, setOb_at br.lt, hO⟩))
theorem snocK_eq {α : Type} (l : List α) (x : α) (k : List α → Res) : snocK l x k = k (l ++ [x]) := appK_eq l [x] k
theorem setE_s {x : AV} : ∀ (es : List En) (i : Nat) (k : List En → Res), setE es i x k = .ok v h' → ∃ es', k es' = .ok v h' ∧
    ∀ (Φ : Phi) (E : List MapEntry) (X V : Value), EsR Φ es E → (∀ m, E[i]? = some m → m.key = X) → Rv Φ x V → EsR Φ es' (E.modify i fun e => { e with key := X, val := V }) := by
  intro es
  induction es with
  | nil => intro i k e; cases e
  | cons a es ih =>
    intro i k e
    cases i with
    | zero =>
      have e : k (⟨a.k, x, a.b⟩ :: es) = .ok v h' := e
      refine ⟨_, e, ?_⟩
      rintro Φ E X V ⟨m, r, rfl, h1, h2⟩ hX hV
      refine ⟨{ m with key := X, val := V }, r, by simp, ⟨?_, hV, h1.2.2⟩, h2⟩
      have := hX m rfl
      subst this
      exact h1.1
    | succ i =>
      have e : setE es i x (fun t' => k (a :: t')) = .ok v h' := e
      obtain ⟨es', e1, e2⟩ := ih i _ e
      refine ⟨_, e1, ?_⟩
      rintro Φ E X V ⟨m, r, rfl, h1, h2⟩ hX hV
      exact ⟨m, _, by simp, h1, e2 Φ r X V h2 (fun m' hm => hX m' (by simpa using hm)) hV⟩
theorem sameBits0 {t : TypeId} {x : AV} {X : Value} (hk : keyOk0 P t x = true) (hx : Rv Φ x X) (d : Nat) : Instr.sameBits d X X = true := by
  unfold keyOk0 at hk
  split at hk
  · rw [hx.iI]; simp [Instr.sameBits]
  · rw [hx.sI.2]; simp [str, Instr.sameBits, ba_beq]
  · rw [hx.bI]; simp [Instr.sameBits]
  · cases hk
theorem sameS_s : ∀ (a b : List AV) (X Y : List Value), sameS a b = true → RvL Φ a X → RvL Φ b Y → X = Y ∧ (X.toArray.toList.zip X.toArray.toList).all (fun (x, y) => Instr.sameBits 9999 x y) = true := by
  intro a
  induction a with
  | nil =>
    intro b X Y h hX hY
    cases b with
    | nil => simp only [RvL] at hX hY; subst hX; subst hY; exact ⟨rfl, rfl⟩
    | cons y b => cases h
  | cons x a ih =>
    intro b X Y h hX hY
    cases b with
    | nil => cases h
    | cons y b =>
      have h : (Bool.rec false (sameS a b) (same1 x y) : Bool) = true := h
      simp only [RvL] at hX hY
      obtain ⟨u, r, rfl, h1, h2⟩ := hX
      obtain ⟨u', r', rfl, h3, h4⟩ := hY
      have key : ∀ {c : Bool}, (Bool.rec false (sameS a b) c : Bool) = true → c = true ∧ sameS a b = true := by
        intro c hc
        cases c
        · cases hc
        · exact ⟨rfl, hc⟩
      obtain ⟨h5, h6⟩ := key h
      obtain ⟨e1, e2⟩ := ih b r r' h6 h2 h4
      subst e1
      have e3 : u = u' ∧ Instr.sameBits 9999 u u = true := by
        unfold same1 at h5
        split at h5
        · obtain ⟨h7, h8⟩ := and_t h5
          have := ikEq_eq h7; subst this
          rw [ieq_eq] at h8
          have := of_decide_eq_true h8; subst this
          rw [h1.iI, h3.iI]
          exact ⟨rfl, by simp [Instr.sameBits]⟩
        · have := beq_iff_eq.1 h5; subst this
          rw [h1.bI, h3.bI]
          exact ⟨rfl, by simp [Instr.sameBits]⟩
        · rw [leqL_eq] at h5
          have := of_decide_eq_true h5; subst this
          rw [h1.sI.2, h3.sI.2]
          exact ⟨rfl, by simp [str, Instr.sameBits, ba_beq]⟩
        · cases h5
      obtain ⟨rfl, e4⟩ := e3
      refine ⟨rfl, ?_⟩
      simp only [List.zip_cons_cons, List.all_cons, e4, Bool.true_and]
      exact e2
/-- a key that is found again: the same value, bit by bit -/
theorem sameKey {t : TypeId} {x y : AV} {X Y : Value} (hk : keyOk P t x = true) (he : eqT P 4 t x y = some true) (hs : sameK x y = true) (hx : Rv Φ x X) (hy : Rv Φ y Y) : X = Y ∧ Instr.sameBits 10000 X X = true := by
  obtain ⟨D, hD, hst | h0⟩ := keyOk_D hk
  · obtain ⟨fs, rfl⟩ := hst
    unfold keyOk at hk
    rw [hD] at hk
    cases x with
    | ag l =>
      cases y with
      | ag m =>
        obtain ⟨Xs, rfl, hX⟩ := hx.agI
        obtain ⟨Ys, rfl, hY⟩ := hy.agI
        obtain ⟨e1, e2⟩ := sameS_s l m Xs Ys hs hX hY
        subst e1
        refine ⟨rfl, ?_⟩
        show Instr.sameBits (9999 + 1) (.agg Xs.toArray) (.agg Xs.toArray) = true
        have e5 : ∀ d : Nat, (Xs.toArray.toList.zip Xs.toArray.toList).all (fun (x, y) => Instr.sameBits d x y) = true → Instr.sameBits (d + 1) (.agg Xs.toArray) (.agg Xs.toArray) = true := by
          intro d hd
          simp only [Instr.sameBits, beq_self_eq_true, Bool.true_and]
          exact hd
        exact e5 9999 e2
      | _ => cases hs
    | _ => cases hk
  · have := (keyEq h0 he hx hy hD).2 rfl
    exact ⟨this, sameBits0 h0 hx 10000⟩
theorem evMapUpdate_c {t : TypeId} {m k x : Operand} (e : evMapUpdate P t m k x f h = .ok v h') : (h.n ≤ big5 → Grow h h') ∧ v = .u ∧
    ∀ (Φ : Phi) (τ : Tau) (F : Wf.Fr) (w : World), FR Φ f F → Rel Φ τ h w → ∃ w', (Instr.mapUpdate t (fe F m) (fe F k) (fe F x)).run P w = .ok () w' ∧ Rel Φ τ h' w' ∧ Tw Φ τ h w Φ τ h'.n w' := by
  unfold evMapUpdate at e
  split at e
  · cases e
  · rename_i p hp
    have hu := mapOf_u hp
    split at e
    · rename_i id hm
      obtain ⟨b, es, c, hid, hb, hob, e⟩ := getM_s e
      obtain ⟨hk, e⟩ := recB e
      split at e
      · cases e
      · rename_i hf
        rw [snocK_eq, fz_eq] at e
        obtain ⟨rfl, rfl⟩ := ok_inj e
        refine ⟨fun hl => Grow.put hl hid hb, rfl, fun Φ τ F w hF hR => ?_⟩
        have hr := opd_sound hF m
        rw [hm] at hr
        obtain ⟨en', hen, hv⟩ := hr.mpI
        obtain ⟨en, E, hO, hE⟩ := OR.map (hR.blk id b hid hb) hob
        have := hO.ent
        rw [hen] at this; cases this
        have hrk := opd_sound hF k
        have hrx := opd_sound hF x
        have hfk := findK_s (P := P) (w := w) hk hrk hE hf
        have hgo : (getObj en'.g).run P w = .ok (.map E.toArray c) w := by simp [getObj, Sem.run, hO.obj]
        have hck := run_checkKey (P := P) (w := w) (em := false) hk hrk
        obtain ⟨r1, r2⟩ := hR.ob (b' := ⟨0, true, false, [], .map (es ++ [⟨opd f k, opd f x, c⟩]) (c + 1)⟩) (O' := .map (E.toArray.push { key := fe F k, val := fe F x, born := c }) (c + 1)) hid hb hO rfl
          ⟨E ++ [{ key := fe F k, val := fe F x, born := c }], by simp, hE.app ⟨hrk, hrx, rfl⟩⟩
        refine ⟨_, ?_, r1, r2⟩
        rw [hv]
        have hst := run_setOb (P := P) (O := .map (E.toArray.push { key := fe F k, val := fe F x, born := c }) (c + 1)) hO.obj
        simp only [Instr.mapUpdate, Sem.run_bind, run_underlying hu, Result.andThen, hgo, hck, hfk, hst]
      · rename_i q hf
        obtain ⟨hsk, e⟩ := recB e
        obtain ⟨es', e, hes⟩ := setE_s es q.1 _ e
        obtain ⟨rfl, rfl⟩ := ok_inj e
        refine ⟨fun hl => Grow.put hl hid hb, rfl, fun Φ τ F w hF hR => ?_⟩
        have hr := opd_sound hF m
        rw [hm] at hr
        obtain ⟨en', hen, hv⟩ := hr.mpI
        obtain ⟨en, E, hO, hE⟩ := OR.map (hR.blk id b hid hb) hob
        have := hO.ent
        rw [hen] at this; cases this
        have hrk := opd_sound hF k
        have hrx := opd_sound hF x
        obtain ⟨me, q3, q4, q5, hfk⟩ := findK_s (P := P) (w := w) hk hrk hE hf
        obtain ⟨q5, hsb⟩ := sameKey hk q5 hsk hrk q4.1
        have hgo : (getObj en'.g).run P w = .ok (.map E.toArray c) w := by simp [getObj, Sem.run, hO.obj]
        have hck := run_checkKey (P := P) (w := w) (em := false) hk hrk
        have hst0 : ((E.toArray[q.1]?).map (·.key)).getD (fe F k) = fe F k := by simp [q3, q5]
        have hks : (Instr.keyThatStays (fe F k) (fe F k)).run P w = .ok (fe F k) w := by simp [Instr.keyThatStays, hsb]
        obtain ⟨r1, r2⟩ := hR.ob (b' := ⟨0, true, false, [], .map es' c⟩) (O' := .map (E.toArray.modify q.1 fun e => { e with key := fe F k, val := fe F x }) c) hid hb hO rfl
          ⟨E.modify q.1 (fun e => { e with key := fe F k, val := fe F x }), by apply congrArg (Obj.map · c); apply Array.ext'; simp, hes Φ E (fe F k) (fe F x) hE (fun m hm => by rw [q3] at hm; cases hm; exact q5.symm) hrx⟩
        refine ⟨_, ?_, r1, r2⟩
        rw [hv]
        have hst := run_setOb (P := P) (O := .map (E.toArray.modify q.1 fun e => { e with key := fe F k, val := fe F x }) c) hO.obj
        simp only [Instr.mapUpdate, Sem.run_bind, run_underlying hu, Result.andThen, hgo, hck, hfk, hst0, hks, hst]
    · cases e
theorem Mv.skip {op : Op} {g : Wf.Fr → Sem Unit} (hop : ∀ (F : Wf.Fr) (dst : Option Tmp) (ty : TypeId) (pos : String) (after : Array Edge) (gd : Option (Nat × Bool)), execOp (fe F) ⟨dst, op, ty, pos, after, gd⟩ = (do g F; pure .skip)) (e : (h.n ≤ big5 → Grow h h') ∧ v = .u ∧
    ∀ (Φ : Phi) (τ : Tau) (F : Wf.Fr) (w : World), FR Φ f F → Rel Φ τ h w → ∃ w', (g F).run P w = .ok () w' ∧ Rel Φ τ h' w' ∧ Tw Φ τ h w Φ τ h'.n w') : MvB P op f v h h' := by
  obtain ⟨e1, rfl, e3⟩ := e
  refine ⟨e1, fun Φ τ F w dst ty pos after gd hF hR _ => ?_⟩
  obtain ⟨w', r, r1, r2⟩ := e3 Φ τ F w hF hR
  unfold St
  rw [hop]
  simp only [Sem.run_bind, r, Result.andThen, Sem.run_pure]
  exact ⟨Φ, τ, by simp only [Rv], r1, r2⟩
theorem evMapUpdate_s {t : TypeId} {m k x : Operand} (e : evMapUpdate P t m k x f h = .ok v h') : MvB P (.mapUpdate t m k x) f v h h' := Mv.skip (fun _ _ _ _ _ _ => rfl) (evMapUpdate_c e)
theorem evInsert_s {t : TypeId} {m k x : Operand} (e : evMapUpdate P t m k x f h = .ok v h') : MvB P (.insert t m k x) f v h h' := Mv.skip (fun _ _ _ _ _ _ => rfl) (evMapUpdate_c e)
theorem Mv.val {op : Op} {g : Wf.Fr → Sem Value} (hop : ∀ (F : Wf.Fr) (dst : Option Tmp) (ty : TypeId) (pos : String) (after : Array Edge) (gd : Option (Nat × Bool)), execOp (fe F) ⟨dst, op, ty, pos, after, gd⟩ = (do pure (.value (← g F)))) (e : (h.n ≤ big5 → Grow h h') ∧
    ∀ (Φ : Phi) (τ : Tau) (F : Wf.Fr) (w : World), FR Φ f F → Rel Φ τ h w → Fre Φ h.n h'.n → ∃ x w', (g F).run P w = .ok x w' ∧ ∃ Φ' τ', Rv Φ' v x ∧ Rel Φ' τ' h' w' ∧ Tw Φ τ h w Φ' τ' h'.n w') : MvB P op f v h h' := by
  obtain ⟨e1, e3⟩ := e
  refine ⟨e1, fun Φ τ F w dst ty pos after gd hF hR hFr => ?_⟩
  obtain ⟨x, w', r, r1⟩ := e3 Φ τ F w hF hR hFr
  unfold St
  rw [hop]
  simp only [Sem.run_bind, r, Result.andThen, Sem.run_pure]
  exact r1
theorem evRange_s {t : TypeId} {x : Operand} (e : evRange P t x f h = .ok v h') : MvB P (.range t x) f v h h' := by
  have key : ∀ {o : Ob} {O : Obj}, newB h (itB o) (fun id h => .ok (.p id 0) h) = .ok v h' → (∀ (Φ : Phi) (τ : Tau) (F : Wf.Fr) (w : World), FR Φ f F → Rel Φ τ h w → ∃ O, ObR Φ o O ∧ (Instr.range t (fe F x)).run P w = .ok (.pointer (some ⟨w.heap.size, 0, none⟩)) (w.alloc O)) → MvB P (.range t x) f v h h' := by
    intro o _ e hr
    obtain ⟨hb, e⟩ := newB_s e
    obtain ⟨rfl, rfl⟩ := ok_inj e
    refine Mv.val (g := fun F => Instr.range t (fe F x)) (fun _ _ _ _ _ _ => rfl) ⟨fun _ => Grow.new hb, fun Φ τ F w hF hR hFr => ?_⟩
    obtain ⟨O, hO, hrun⟩ := hr Φ τ F w hF hR
    have hf := hFr h.n (Nat.le_refl _) (Nat.lt_succ_self _)
    obtain ⟨τ', r1, r2⟩ := hR.new (k := 0) hb hf (NB.obj (b := itB o) (g := w.heap.size) (k := 0) rfl hO) (Wn.alloc w O)
    exact ⟨_, _, hrun, _, τ', Rv.mp (ext_at _ _ _), r1, r2⟩
  unfold evRange at e
  split at e
  · rename_i l hx
    obtain ⟨hs, e⟩ := recB e
    refine key (O := .stringIter ⟨(l.map UInt8.ofNat).toArray⟩ 0) e fun Φ τ F w hF hR => ?_
    have hr := opd_sound hF x
    rw [hx] at hr
    obtain ⟨hl, hv⟩ := hr.sI
    exact ⟨_, ⟨hl, rfl⟩, by rw [hv]; unfold str; simp [Instr.range, run_underlying (isStr_u hs)]⟩
  · rename_i hx
    obtain ⟨hs, e⟩ := recB e
    obtain ⟨p, hp⟩ := Option.isSome_iff_exists.1 hs
    refine key (O := .mapIter none 0 #[] 0) e fun Φ τ F w hF hR => ?_
    have hr := opd_sound hF x
    rw [hx] at hr
    have hv : fe F x = .map none := by simpa only [Rv] using hr
    exact ⟨_, rfl, by rw [hv]; simp [Instr.range, run_underlying (mapOf_u hp)]⟩
  · rename_i m hx
    obtain ⟨hs, e⟩ := recB e
    obtain ⟨p, hp⟩ := Option.isSome_iff_exists.1 hs
    obtain ⟨b, es, c, hid, hb, hob, e⟩ := getM_s e
    refine key (O := .mapIter none 0 #[] 0) e fun Φ τ F w hF hR => ?_
    have hr := opd_sound hF x
    rw [hx] at hr
    obtain ⟨en', hen, hv⟩ := hr.mpI
    obtain ⟨en, E, hO, hE⟩ := OR.map (hR.blk m b hid hb) hob
    have := hO.ent
    rw [hen] at this; cases this
    have hgo : (getObj en'.g).run P w = .ok (.map E.toArray c) w := by simp [getObj, Sem.run, hO.obj]
    exact ⟨_, ⟨en', hen, rfl⟩, by rw [hv]; simp [Instr.range, run_underlying (mapOf_u hp), hgo]⟩
  · cases e
theorem tp3 {Φ : Phi} {a b c : AV} {x y z : Value} (h1 : Rv Φ a x) (h2 : Rv Φ b y) (h3 : Rv Φ c z) : Rv Φ (.tp [a, b, c]) (.tuple #[x, y, z]) := by
  simp only [Rv]; exact ⟨[x, y, z], rfl, by simp only [RvL]; exact ⟨_, _, rfl, h1, _, _, rfl, h2, _, _, rfl, h3, rfl⟩⟩
theorem tp1 {Φ : Phi} {a : AV} {x : Value} (h1 : Rv Φ a x) : Rv Φ (.tp [a]) (.tuple #[x]) := by
  simp only [Rv]; exact ⟨[x], rfl, by simp only [RvL]; exact ⟨_, _, rfl, h1, rfl⟩⟩
theorem evNext_s {it : Operand} {st : Bool} (e : evNext it st f h = .ok v h') : MvB P (.next it st) f v h h' := by
  unfold evNext at e
  split at e
  · rename_i id off hit
    obtain ⟨hoff, e1⟩ := recB e
    clear e
    have hoff := Nat.eq_of_beq_eq_true hoff
    subst hoff
    obtain ⟨b, hid, hb, e⟩ := getO_s e1
    clear e1
    have stay : h' = h → (∀ (Φ : Phi) (τ : Tau) (F : Wf.Fr) (w : World) (ty : TypeId), FR Φ f F → Rel Φ τ h w → ∃ x, (Instr.next (fe F it) st ty).run P w = .ok x w ∧ Rv Φ v x) → MvB P (.next it st) f v h h' := by
      rintro rfl hs
      refine ⟨fun _ => Grow.refl _, fun Φ τ F w dst ty pos after gd hF hR _ => ?_⟩
      obtain ⟨x, r, hv⟩ := hs Φ τ F w ty hF hR
      unfold St
      have hop : execOp (fe F) ⟨dst, .next it st, ty, pos, after, gd⟩ = (do pure (.value (← Instr.next (fe F it) st ty))) := rfl
      rw [hop]
      simp only [Sem.run_bind, r, Result.andThen, Sem.run_pure]
      exact ⟨Φ, τ, hv, hR, Tw.refl _ _ _ _ _⟩
    split at e
    · rename_i l pos hob
      obtain ⟨hst, e1⟩ := recB e
      clear e
      subst hst
      have e := e1
      clear e1
      have obj : ∀ {Φ : Phi} {τ : Tau} {F : Wf.Fr} {w : World}, FR Φ f F → Rel Φ τ h w → ∃ en, Φ id = some en ∧ fe F it = .pointer (some ⟨en.g, 0, none⟩) ∧ (∀ n ∈ l, n < 256) ∧ OR Φ τ w b en id (.stringIter ⟨(l.map UInt8.ofNat).toArray⟩ pos) := by
        intro Φ τ F w hF hR
        have hr := opd_sound hF it
        rw [hit] at hr
        obtain ⟨en, hen, hv⟩ := hr.pI
        obtain ⟨e', O, hO⟩ := (hR.blk id b hid hb).obj (by rw [hob]; rfl)
        have := hO.ent
        rw [hen] at this; cases this
        have h2 := hO.ob
        rw [hob] at h2
        obtain ⟨hl, rfl⟩ := h2
        rw [hO.base] at hv
        exact ⟨en, hen, hv, hl, hO⟩
      have hsize : (⟨(l.map UInt8.ofNat).toArray⟩ : ByteArray).size = l.length := by simp [ByteArray.size]
      unfold evNextS at e
      rw [nth_eq] at e
      split at e
      · rename_i hn
        obtain ⟨rfl, rfl⟩ := ok_inj e
        refine stay rfl fun Φ τ F w ty hF hR => ?_
        obtain ⟨en, hen, hv, hl, hO⟩ := obj hF hR
        have hge := List.getElem?_eq_none_iff.1 hn
        refine ⟨.tuple #[.bool false], ?_, tp1 Rv.mb⟩
        rw [hv]
        have : ¬ pos < l.length := by omega
        simp [Instr.next, getObj, Sem.run, hO.obj, hsize, this]
      · rename_i c hc
        obtain ⟨h128, e⟩ := recB e
        have h128 := of_blt h128
        rw [fz_eq] at e
        obtain ⟨rfl, rfl⟩ := ok_inj e
        refine ⟨fun hl => Grow.put hl hid hb, fun Φ τ F w dst ty pos' after gd hF hR _ => ?_⟩
        obtain ⟨en, hen, hv, hl, hO⟩ := obj hF hR
        obtain ⟨r1, r2⟩ := hR.ob (b' := itB (.sit l (pos + 1))) (O' := .stringIter ⟨(l.map UInt8.ofNat).toArray⟩ (pos + 1)) hid hb hO rfl ⟨hl, rfl⟩
        have hlt := (List.getElem?_eq_some_iff.1 hc).1
        have hlt' : pos < (⟨(l.map UInt8.ofNat).toArray⟩ : ByteArray).size := by rw [hsize]; exact hlt
        have hget : ((⟨(l.map UInt8.ofNat).toArray⟩ : ByteArray)[pos]'hlt').toNat = c := by
          have h9 : (l.map UInt8.ofNat).toArray[pos]? = some (UInt8.ofNat c) := by simp [hc]
          have h8 : (⟨(l.map UInt8.ofNat).toArray⟩ : ByteArray)[pos]'hlt' = UInt8.ofNat c := (Array.getElem?_eq_some_iff.1 h9).2
          rw [h8]; exact u8n (by omega)
        have hdec := decode_ascii ⟨(l.map UInt8.ofNat).toArray⟩ pos hlt' (by rw [hget]; exact h128)
        rw [hget] at hdec
        have hst := run_setOb (P := P) (O := .stringIter ⟨(l.map UInt8.ofNat).toArray⟩ (pos + 1)) hO.obj
        have hgo : (getObj en.g).run P w = .ok (.stringIter ⟨(l.map UInt8.ofNat).toArray⟩ pos) w := by simp [getObj, Sem.run, hO.obj]
        unfold St
        have hop : execOp (fe F) ⟨dst, .next it true, ty, pos', after, gd⟩ = (do pure (.value (← Instr.next (fe F it) true ty))) := rfl
        have hrun : (Instr.next (fe F it) true ty).run P w = .ok (.tuple #[.bool true, .int .i64 (Int.ofNat pos), .int .i32 (Int.ofNat c)]) (setOb w en.g (.stringIter ⟨(l.map UInt8.ofNat).toArray⟩ (pos + 1))) := by
          rw [hv]
          simp only [Instr.next, Sem.run_bind, hgo, Result.andThen, hlt', if_true, hdec, hst]
          rfl
        rw [hop]
        simp only [Sem.run_bind, hrun, Result.andThen, Sem.run_pure]
        exact ⟨Φ, τ, tp3 Rv.mb Rv.mi Rv.mi, r1, r2⟩
    · rename_i s0 sn ls hob
      rw [recBk] at e
      split at e
      · cases e
      · rename_i hst
        have hst : st = false := by simpa using hst
        subst hst
        obtain ⟨rfl, rfl⟩ := ok_inj e
        refine stay rfl fun Φ τ F w ty hF hR => ?_
        have hr := opd_sound hF it
        rw [hit] at hr
        obtain ⟨en, hen, hv⟩ := hr.pI
        obtain ⟨e', O, hO⟩ := (hR.blk id b hid hb).obj (by rw [hob]; rfl)
        have := hO.ent
        rw [hen] at this; cases this
        have h2 := hO.ob
        rw [hob] at h2
        have h2 : O = .mapIter none s0 sn.toArray ls := h2
        subst h2
        rw [hO.base] at hv
        refine ⟨.tuple #[.bool false], ?_, tp1 Rv.mb⟩
        rw [hv]
        simp [Instr.next, getObj, Sem.run, hO.obj]
    · rename_i m s0 sn ls hob
      rw [recBk] at e
      split at e
      · cases e
      · rename_i hst
        have hst : st = false := by simpa using hst
        subst hst
        unfold evNextM at e
        obtain ⟨bm, es, c, hidm, hbm, hobm, e⟩ := getM_s e
        split at e
        · obtain ⟨rfl, rfl⟩ := ok_inj e
          refine stay rfl fun Φ τ F w ty hF hR => ?_
          have hr := opd_sound hF it
          rw [hit] at hr
          obtain ⟨en, hen, hv⟩ := hr.pI
          obtain ⟨e', O, hO⟩ := (hR.blk id b hid hb).obj (by rw [hob]; rfl)
          have := hO.ent
          rw [hen] at this; cases this
          have h2 := hO.ob
          rw [hob] at h2
          obtain ⟨em, hem, rfl⟩ := h2
          obtain ⟨em', E, hOm, hE⟩ := OR.map (hR.blk m bm hidm hbm) hobm
          have := hOm.ent
          rw [hem] at this; cases this
          have hE : E = [] := hE
          subst hE
          rw [hO.base] at hv
          refine ⟨.tuple #[.bool false], ?_, tp1 Rv.mb⟩
          rw [hv]
          simp [Instr.next, getObj, Sem.run, hO.obj, hOm.obj, choose, Question.forced]
        · cases e
    · cases e
  · cases e
end
end Go.Ev
