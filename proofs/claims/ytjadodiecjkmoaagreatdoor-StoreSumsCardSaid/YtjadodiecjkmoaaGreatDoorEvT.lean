/-
  Maps, iterators, the other built-in functions.
-/
import Derived.Test.YtjadodiecjkmoaaGreatDoorEvJ
import Derived.Laws.RangeString
namespace Go.Ev
set_option linter.unusedVariables false
set_option linter.unusedSimpArgs false
open Go Go.Wf Go.RowKit

section
variable {P : Program} {f : Fr} {v : AV} {h h' : Hp} {Φ : Phi} {τ : Tau} {w w' : World}
theorem ba_beq (a b : Array UInt8) : ((⟨a⟩ : ByteArray) == ⟨b⟩) = (a == b) := rfl
theorem keyEq {t : TypeId} {x y : AV} {X Y : Value} {b : Bool} {D : TypeDesc} (hk : keyOk0 P t x = true) (e : eqT P 4 t x y = some b) (hx : Rv Φ x X) (hy : Rv Φ y Y) (hD : P.underlying t = some D) :
    Instr.sameNow D X Y = some b ∧ (b = true → X = Y) := by
  have e : eqT1 P (eqT P 3) t x y = some b := e
  unfold keyOk0 at hk
  rw [hD] at hk
  unfold eqT1 at e
  rw [hD] at e
  cases D with
  | int k =>
    cases x with
    | i kk n =>
      cases y with
      | i k' m =>
        simp only at e
        obtain ⟨he, e0⟩ := boolR e
        clear e
        have := ikEq_eq he; subst this
        rw [ieq_eq] at e0
        have e := e0
        clear e0
        rw [hx.iI, hy.iI]
        refine ⟨?_, fun hb => ?_⟩
        · simp only [Instr.sameNow, if_true]
          rw [← e]
          congr 1
        · rw [hb] at e
          rw [of_decide_eq_true e]
      | _ => cases e
    | _ => cases hk
  | string =>
    cases x with
    | s l =>
      cases y with
      | s m =>
        simp only at e
        rw [leqL_eq] at e
        simp only [Option.some.injEq] at e
        obtain ⟨h1, hx⟩ := hx.sI
        obtain ⟨h2, hy⟩ := hy.sI
        rw [hx, hy]
        refine ⟨?_, fun hb => ?_⟩
        · unfold str
          simp only [Instr.sameNow]
          rw [← e]
          congr 1
          rw [Bool.eq_iff_iff, ba_beq]
          constructor
          · intro hq
            have hq := congrArg Array.toList (beq_iff_eq.1 hq)
            simp only at hq
            exact decide_eq_true (map_inj h1 h2 hq)
          · intro hq
            rw [of_decide_eq_true hq]
            simp
        · rw [hb] at e
          rw [of_decide_eq_true e]
      | _ => cases e
    | _ => cases hk
  | bool =>
    cases x with
    | b p =>
      cases y with
      | b q =>
        simp only at e
        simp only [Option.some.injEq] at e
        rw [hx.bI, hy.bI]
        refine ⟨?_, fun hb => ?_⟩
        · rw [← e]; rfl
        · rw [hb] at e
          rw [beq_iff_eq.1 e]
      | _ => cases e
    | _ => cases hk
  | _ => cases x <;> cases hk
theorem run_checkKey0 {t : TypeId} {x : AV} {X : Value} {em : Bool} (hk : keyOk0 P t x = true) (hx : Rv Φ x X) (d : Nat) : (Instr.checkKey em (d + 1) t X).run P w = .ok () w := by
  unfold keyOk0 at hk
  split at hk
  · rename_i hu; rw [hx.iI]; simp [Instr.checkKey, run_underlying hu]
  · rename_i hu; rw [hx.sI.2]; simp [str, Instr.checkKey, run_underlying hu]
  · rename_i hu; rw [hx.bI]; simp [Instr.checkKey, run_underlying hu]
  · cases hk
theorem keyFs_cons {xs : List AV} {f : Field} {fs : List Field} (h : keyFs P xs (f :: fs) = true) : ∃ a, partA P f.type xs f.offset = some a ∧ keyOk0 P f.type a = true ∧ keyFs P xs fs = true := by
  have h : (Option.rec false (fun a => Bool.rec false (keyFs P xs fs) (keyOk0 P f.type a)) (partA P f.type xs f.offset) : Bool) = true := h
  cases hp : partA P f.type xs f.offset with
  | none => rw [hp] at h; cases h
  | some a =>
    rw [hp] at h
    simp only at h
    cases hk : keyOk0 P f.type a with
    | false => rw [hk] at h; cases h
    | true => rw [hk] at h; exact ⟨a, rfl, hk, h⟩
theorem forIn_ok {α : Type} {b : α → Unit → Sem (ForInStep Unit)} : ∀ (l : List α), (∀ f ∈ l, (b f ()).run P w = .ok (.yield ()) w) → (forIn l () b).run P w = .ok () w := by
  intro l
  induction l with
  | nil => intro _; simp
  | cons f l ih =>
    intro h
    rw [List.forIn_cons]
    simp only [Sem.run_bind, h f (by simp), Result.andThen]
    exact ih fun g hg => h g (by simp [hg])
theorem keyFs_mem {xs : List AV} : ∀ {fs : List Field}, keyFs P xs fs = true → ∀ f ∈ fs, ∃ a, partA P f.type xs f.offset = some a ∧ keyOk0 P f.type a = true := by
  intro fs
  induction fs with
  | nil => intro _ f hf; cases hf
  | cons g fs ih =>
    intro h f hf
    obtain ⟨a, h1, h2, h3⟩ := keyFs_cons h
    rcases List.mem_cons.1 hf with rfl | hf
    · exact ⟨a, h1, h2⟩
    · exact ih h3 f hf
theorem run_checkKey {t : TypeId} {x : AV} {X : Value} {em : Bool} (hk : keyOk P t x = true) (hx : Rv Φ x X) : (Instr.checkKey em 10000 t X).run P w = .ok () w := by
  suffices H : ∀ d : Nat, (Instr.checkKey em (d + 1 + 1) t X).run P w = .ok () w from H 9998
  intro d
  unfold keyOk at hk
  split at hk
  · rename_i fs xs hu
    obtain ⟨Xs, rfl, hX⟩ := hx.agI
    have hc0 : ∀ (f : TypeId) (a : AV) (A : Value), keyOk0 P f a = true → Rv Φ a A → (Instr.checkKey em (d + 1) f A).run P w = .ok () w := fun f a A h1 h2 => run_checkKey0 h1 h2 d
    generalize d + 1 = e at hc0 ⊢
    simp only [Instr.checkKey, Sem.run_bind, run_underlying hu, Result.andThen]
    rw [← Array.forIn_toList, forIn_ok fs.toList]
    · rfl
    · intro f hf
      obtain ⟨a, h1, h2⟩ := keyFs_mem hk f hf
      obtain ⟨A, hA, hr⟩ := partA_s (P := P) (w := w) h1 hX
      have hc := hc0 f.type a A h2 hr
      by_cases hn : f.name = "_"
      · simp [hn]
      · simp [hn, hA, hc]
  · rename_i k n hu; rw [hx.iI]; simp [Instr.checkKey, run_underlying hu]
  · rename_i l hu; rw [hx.sI.2]; simp [str, Instr.checkKey, run_underlying hu]
  · rename_i c hu; rw [hx.bI]; simp [Instr.checkKey, run_underlying hu]
  · cases hk
theorem EsR.at : ∀ {l : List En} {ms : List MapEntry} {i : Nat} {e : En}, EsR Φ l ms → l[i]? = some e → ∃ m, ms[i]? = some m ∧ EnR Φ e m := by
  intro l
  induction l with
  | nil => intro ms i e _ h; simp at h
  | cons a l ih =>
    rintro ms i e ⟨m, r, rfl, h1, h2⟩ hi
    cases i with
    | zero => simp at hi; subst hi; exact ⟨m, rfl, h1⟩
    | succ i => obtain ⟨m', h3, h4⟩ := ih h2 (by simpa using hi); exact ⟨m', by simpa using h3, h4⟩
theorem EsR.len : ∀ {l : List En} {ms : List MapEntry}, EsR Φ l ms → ms.length = l.length := by
  intro l
  induction l with
  | nil => intro ms h; have h : ms = [] := h; subst h; rfl
  | cons a l ih => rintro ms ⟨m, r, rfl, h1, h2⟩; simp [ih h2]
theorem EsR.app : ∀ {l : List En} {ms : List MapEntry} {e : En} {m : MapEntry}, EsR Φ l ms → EnR Φ e m → EsR Φ (l ++ [e]) (ms ++ [m]) := by
  intro l
  induction l with
  | nil => intro ms e m h hm; have h : ms = [] := h; subst h; exact ⟨m, [], rfl, hm, rfl⟩
  | cons a l ih => rintro ms e m ⟨m', r, rfl, h1, h2⟩ hm; exact ⟨m', r ++ [m], rfl, h1, ih h2 hm⟩
/-- the look through the entries, one after the other -/
theorem findA_s {t : TypeId} {x : AV} {X : Value} (hx : Rv Φ x X) : ∀ (es : List En) (ms : List MapEntry) (i : Nat) (r : Option (Nat × En)), EsR Φ es ms → findK P t x es i = some r →
    match r with
    | none => (Instr.findAsking t X ms i).run P w = .ok none w
    | some q => ∃ m, i ≤ q.1 ∧ es[q.1 - i]? = some q.2 ∧ ms[q.1 - i]? = some m ∧ EnR Φ q.2 m ∧ eqT P 4 t x q.2.k = some true ∧ (Instr.findAsking t X ms i).run P w = .ok (some (q.1, m.val)) w := by
  intro es
  induction es with
  | nil =>
    intro ms i r h e
    have h : ms = [] := h
    subst h
    have e : some none = some r := e
    cases e
    simp [Instr.findAsking]
  | cons a es ih =>
    rintro ms i r ⟨m, rest, rfl, h1, h2⟩ e
    have e : (match eqT P 4 t x a.k with | none => none | some b => (Bool.rec (findK P t x es (Nat.succ i)) (some (some (i, a))) b : Option (Option (Nat × En)))) = some r := e
    cases hb : eqT P 4 t x a.k with
    | none => rw [hb] at e; cases e
    | some b =>
      rw [hb] at e
      have k1 : (Op.equal t X m.key).run P w = .ok b w := by rw [eqIn]; exact eqT_s 4 t x a.k X m.key b 10000 (by omega) hb hx h1.1
      cases b with
      | true =>
        cases e
        refine ⟨m, Nat.le_refl _, by simp, by simp, h1, hb, ?_⟩
        simp [Instr.findAsking, k1]
      | false =>
        have e : findK P t x es (i + 1) = some r := e
        have := ih rest (i + 1) r h2 e
        cases r with
        | none => simp only at this ⊢; simp [Instr.findAsking, k1, this]
        | some q =>
          simp only at this ⊢
          obtain ⟨m', q1, q2, q3, q4, q5, q6⟩ := this
          have e9 : q.1 - i = (q.1 - (i + 1)) + 1 := by omega
          refine ⟨m', by omega, by rw [e9]; simpa using q2, by rw [e9]; simpa using q3, q4, q5, ?_⟩
          simp [Instr.findAsking, k1, q6]
/-- .. at one stroke -/
theorem findN_s {t : TypeId} {x : AV} {X : Value} {D : TypeDesc} (hk : keyOk0 P t x = true) (hx : Rv Φ x X) (hD : P.underlying t = some D) : ∀ (es : List En) (ms : List MapEntry) (i : Nat) (r : Option (Nat × En)), EsR Φ es ms → findK P t x es i = some r →
    match r with
    | none => Instr.findNow D X ms i = some none
    | some q => ∃ m, i ≤ q.1 ∧ ms[q.1 - i]? = some m ∧ Instr.findNow D X ms i = some (some (q.1, m.val)) := by
  intro es
  induction es with
  | nil =>
    intro ms i r h e
    have h : ms = [] := h
    subst h
    have e : some none = some r := e
    cases e
    rfl
  | cons a es ih =>
    rintro ms i r ⟨m, rest, rfl, h1, h2⟩ e
    have e : (match eqT P 4 t x a.k with | none => none | some b => (Bool.rec (findK P t x es (Nat.succ i)) (some (some (i, a))) b : Option (Option (Nat × En)))) = some r := e
    cases hb : eqT P 4 t x a.k with
    | none => rw [hb] at e; cases e
    | some b =>
      rw [hb] at e
      obtain ⟨k1, k2⟩ := keyEq hk hb hx h1.1 hD
      cases b with
      | true =>
        cases e
        refine ⟨m, Nat.le_refl _, by simp, ?_⟩
        simp [Instr.findNow, k1]
      | false =>
        have e : findK P t x es (i + 1) = some r := e
        have := ih rest (i + 1) r h2 e
        cases r with
        | none => simp only at this ⊢; simp [Instr.findNow, k1, this]
        | some q =>
          simp only at this ⊢
          obtain ⟨m', q1, q3, q6⟩ := this
          have e9 : q.1 - i = (q.1 - (i + 1)) + 1 := by omega
          refine ⟨m', by omega, by rw [e9]; simpa using q3, ?_⟩
          simp [Instr.findNow, k1, q6]
theorem keyOk_D {t : TypeId} {x : AV} (hk : keyOk P t x = true) : ∃ D, P.underlying t = some D ∧ ((∃ fs, D = .struct fs) ∨ keyOk0 P t x = true) := by
  unfold keyOk at hk
  split at hk
  · rename_i h; exact ⟨_, h, .inl ⟨_, rfl⟩⟩
  · rename_i h; exact ⟨_, h, .inr (by unfold keyOk0; rw [h])⟩
  · rename_i h; exact ⟨_, h, .inr (by unfold keyOk0; rw [h])⟩
  · rename_i h; exact ⟨_, h, .inr (by unfold keyOk0; rw [h])⟩
  · cases hk
theorem findK_s {t : TypeId} {x : AV} {X : Value} (hk : keyOk P t x = true) (hx : Rv Φ x X) {es : List En} {ms : List MapEntry} {r : Option (Nat × En)} (hE : EsR Φ es ms) (e : findK P t x es 0 = some r) :
    match r with
    | none => (Instr.findKey t X ms).run P w = .ok none w
    | some q => ∃ m, ms[q.1]? = some m ∧ EnR Φ q.2 m ∧ eqT P 4 t x q.2.k = some true ∧ (Instr.findKey t X ms).run P w = .ok (some (q.1, m.val)) w := by
  have hA := findA_s (P := P) (w := w) hx es ms 0 r hE e
  obtain ⟨D, hD, hs | h0⟩ := keyOk_D hk
  · obtain ⟨fs, rfl⟩ := hs
    have hN : Instr.findNow (.struct fs) X ms 0 = match ms with | [] => some none | _ :: _ => none := by
      cases ms with
      | nil => rfl
      | cons m ms => simp [Instr.findNow, Instr.sameNow]
    cases r with
    | none =>
      simp only at hA ⊢
      cases ms with
      | nil => simp [Instr.findKey, run_underlying hD, hN]
      | cons m ms => simp [Instr.findKey, run_underlying hD, hN, hA]
    | some q =>
      simp only at hA ⊢
      obtain ⟨m, _, _, q3, q4, q5, q6⟩ := hA
      rw [Nat.sub_zero] at q3
      refine ⟨m, q3, q4, q5, ?_⟩
      cases ms with
      | nil => simp at q3
      | cons m ms => simp [Instr.findKey, run_underlying hD, hN, q6]
  · have hB := findN_s h0 hx hD es ms 0 r hE e
    cases r with
    | none => simp only at hB ⊢; simp [Instr.findKey, run_underlying hD, hB]
    | some q =>
      simp only at hA hB ⊢
      obtain ⟨m, _, _, q3, q4, q5, _⟩ := hA
      obtain ⟨m', _, r3, r6⟩ := hB
      rw [q3] at r3; cases r3
      rw [Nat.sub_zero] at q3
      exact ⟨m, q3, q4, q5, by simp [Instr.findKey, run_underlying hD, r6]⟩
theorem OR.map {id : Nat} {b : Blk} {es : List En} {c : Nat} (r : BlkRel Φ τ w id b) (hb : b.ob = .map es c) : ∃ e E, OR Φ τ w b e id (.map E.toArray c) ∧ EsR Φ es E := by
  obtain ⟨e, O, h⟩ := r.obj (by rw [hb]; rfl)
  have := h.ob
  rw [hb] at this
  obtain ⟨E, rfl, hE⟩ := this
  exact ⟨e, E, h, hE⟩
theorem zvOf_run {t : TypeId} {z : AV} (hz : zvOf P t = some z) : ∃ Z, (zeroValue t).run P w = .ok Z w ∧ Rv Φ z Z := zvOf_s hz
theorem evLookup_s {t : TypeId} {x i : Operand} {ok : Bool} (e : evLookup P t x i ok f h = .ok v h') : h' = h ∧ Rd P (.lookup t x i ok) f v h := by
  unfold evLookup at e
  split at e
  · cases e
  · rename_i p hp
    have hu := mapOf_u hp
    have core : ∀ (es : List En), ((Bool.rec (.no 153) (match findK P p.1 (opd f i) es 0 with
      | none => .no 154
      | some none => (match zvOf P p.2 with
        | none => .no 154
        | some z => .ok (Bool.rec z (.tp [z, .b false]) ok) h)
      | some (some q) => .ok (Bool.rec q.2.v (.tp [q.2.v, .b true]) ok) h) (keyOk P p.1 (opd f i)) : Res) = .ok v h') → h' = h ∧
        ∀ (Φ : Phi) (F : Wf.Fr) (w : World) (ms : List MapEntry), FR Φ f F → EsR Φ es ms → (Instr.checkKey ms.toArray.isEmpty 10000 p.1 (fe F i)).run P w = .ok () w ∧
          ((∃ j V, (Instr.findKey p.1 (fe F i) ms).run P w = .ok (some (j, V)) w ∧ Rv Φ v (if ok then .tuple #[V, .bool true] else V)) ∨
           ((Instr.findKey p.1 (fe F i) ms).run P w = .ok none w ∧ ∃ Z, (zeroValue p.2).run P w = .ok Z w ∧ Rv Φ v (if ok then .tuple #[Z, .bool false] else Z))) := by
      intro es e
      obtain ⟨hk, e⟩ := recB e
      split at e
      · cases e
      · rename_i hf
        split at e
        · cases e
        · rename_i z hz
          obtain ⟨rfl, rfl⟩ := ok_inj e
          refine ⟨rfl, fun Φ F w ms hF hE => ?_⟩
          have hr := opd_sound hF i
          have hfk := findK_s (P := P) (w := w) hk hr hE hf
          obtain ⟨Z, hZ, hZr⟩ := zvOf_run (P := P) (w := w) (Φ := Φ) hz
          refine ⟨run_checkKey hk hr, .inr ⟨hfk, Z, hZ, ?_⟩⟩
          cases ok with
          | false => exact hZr
          | true => simp only [Rv, if_true]; exact ⟨[Z, .bool false], rfl, by simp only [RvL]; exact ⟨_, _, rfl, hZr, _, _, rfl, Rv.mb, rfl⟩⟩
      · rename_i q hf
        obtain ⟨rfl, rfl⟩ := ok_inj e
        refine ⟨rfl, fun Φ F w ms hF hE => ?_⟩
        have hr := opd_sound hF i
        obtain ⟨m, q3, q4, q5, hfk⟩ := findK_s (P := P) (w := w) hk hr hE hf
        refine ⟨run_checkKey hk hr, .inl ⟨_, m.val, hfk, ?_⟩⟩
        cases ok with
        | false => exact q4.2.1
        | true => simp only [Rv, if_true]; exact ⟨[m.val, .bool true], rfl, by simp only [RvL]; exact ⟨_, _, rfl, q4.2.1, _, _, rfl, Rv.mb, rfl⟩⟩
    unfold mapK at e
    split at e
    · rename_i hx
      obtain ⟨rfl, hs⟩ := core [] e
      refine ⟨rfl, fun Φ τ F w dst ty pos after gd hF hR => ?_⟩
      obtain ⟨hck, hh⟩ := hs Φ F w [] hF rfl
      have hck : (Instr.checkKey (#[] : Array MapEntry).isEmpty 10000 p.1 (fe F i)).run P w = .ok () w := hck
      have hr := opd_sound hF x
      rw [hx] at hr
      have hv : fe F x = .map none := by simpa only [Rv] using hr
      rcases hh with ⟨j, V, h1, h2⟩ | ⟨h1, Z, h2, h3⟩
      · refine St.of_run (v := if ok then .tuple #[V, .bool true] else V) (w' := w) ?_ ⟨rfl, h2⟩
        simp only [execOp, Instr.lookup, Sem.run_bind, run_underlying hu, Result.andThen, hv, Sem.run_pure, hck, h1]
      · refine St.of_run (v := if ok then .tuple #[Z, .bool false] else Z) (w' := w) ?_ ⟨rfl, h3⟩
        simp only [execOp, Instr.lookup, Sem.run_bind, run_underlying hu, Result.andThen, hv, Sem.run_pure, hck, h1, h2]
    · rename_i id hx
      obtain ⟨b, es, c, hid, hb, hob, e⟩ := getM_s e
      obtain ⟨rfl, hs⟩ := core es e
      refine ⟨rfl, fun Φ τ F w dst ty pos after gd hF hR => ?_⟩
      obtain ⟨en, E, hO, hE⟩ := OR.map (hR.blk id b hid hb) hob
      obtain ⟨hck, hh⟩ := hs Φ F w E hF hE
      have hr := opd_sound hF x
      rw [hx] at hr
      obtain ⟨en', hen, hv⟩ := hr.mpI
      have := hO.ent
      rw [hen] at this; cases this
      have hg := hO.obj
      have hgo : (getObj en.g).run P w = .ok (.map E.toArray c) w := by simp [getObj, Sem.run, hg]
      rcases hh with ⟨j, V, h1, h2⟩ | ⟨h1, Z, h2, h3⟩
      · refine St.of_run (v := if ok then .tuple #[V, .bool true] else V) (w' := w) ?_ ⟨rfl, h2⟩
        simp only [execOp, Instr.lookup, Sem.run_bind, run_underlying hu, Result.andThen, hv, hgo, Sem.run_pure, hck, h1]
      · refine St.of_run (v := if ok then .tuple #[Z, .bool false] else Z) (w' := w) ?_ ⟨rfl, h3⟩
        simp only [execOp, Instr.lookup, Sem.run_bind, run_underlying hu, Result.andThen, hv, hgo, Sem.run_pure, hck, h1, h2]
    · cases e
theorem evLenM_s {t : TypeId} {ts : Array TypeId} {args : Array Operand} (hm : isMap P t = true) (hts : ts = #[t]) (e : evLenM (opds f args.toList) h = .ok v h') : h' = h ∧ Rd P (.call { callee := .builtin .len, args := args, argTypes := ts }) f v h := by
  subst hts
  obtain ⟨ka, el, hu⟩ := isMap_u hm
  unfold evLenM at e
  have one : ∀ {l : List Operand} {a : AV}, opds f l = [a] → ∃ x, l = [x] ∧ opd f x = a := by
    intro l a hl
    cases l with
    | nil => cases hl
    | cons x l =>
      have hl : opd f x :: opds f l = [a] := hl
      cases l with
      | nil => simp only [List.cons.injEq] at hl; exact ⟨x, rfl, hl.1⟩
      | cons y l => have hl : opd f x :: opd f y :: opds f l = [a] := hl; simp at hl
  split at e
  · rename_i hx
    obtain ⟨x, hal, hx2⟩ := one hx
    clear hx
    have hargs : args = #[x] := by apply Array.ext'; rw [hal]
    subst hargs
    obtain ⟨rfl, rfl⟩ := ok_inj e
    refine ⟨rfl, fun Φ τ F w dst ty pos after gd hF hR => ?_⟩
    have hr := opd_sound hF x
    rw [hx2] at hr
    have hv : fe F x = .map none := by simpa only [Rv] using hr
    refine St.of_run (v := .int .i64 0) (w' := w) ?_ ⟨rfl, Rv.mi⟩
    simp [execOp, resolve, invoke, builtin, Builtin.len_, run_underlying hu, hv, goInt]
  · rename_i id hx
    obtain ⟨x, hal, hx2⟩ := one hx
    clear hx
    have hargs : args = #[x] := by apply Array.ext'; rw [hal]
    subst hargs
    obtain ⟨b, es, c, hid, hb, hob, e⟩ := getM_s e
    rw [fz_eq, len_eq] at e
    obtain ⟨rfl, rfl⟩ := ok_inj e
    refine ⟨rfl, fun Φ τ F w dst ty pos after gd hF hR => ?_⟩
    have hr := opd_sound hF x
    rw [hx2] at hr
    obtain ⟨en, E, hO, hE⟩ := OR.map (hR.blk id b hid hb) hob
    obtain ⟨en', hen, hv⟩ := hr.mpI
    have := hO.ent
    rw [hen] at this; cases this
    have hg := hO.obj
    have hgo : (getObj en.g).run P w = .ok (.map E.toArray c) w := by simp [getObj, Sem.run, hg]
    refine St.of_run (v := .int .i64 (Int.ofNat es.length)) (w' := w) ?_ ⟨rfl, Rv.mi⟩
    simp [execOp, resolve, invoke, builtin, Builtin.len_, run_underlying hu, hv, hgo, goInt, hE.len]
  · cases e
end
end Go.Ev
