/-
  StoreNil of ch. 58: it returns true for every step, and the step reads as before.
-/
import Derived.Test.YtjadodiecjkmoaaGreatDoorWit
import Derived.Test.YtjadodiecjkmoaaGreatDoorJoint4
import Derived.SevenTiedAt
namespace Go.Proofs.YtjadodiecjkmoaaGreatDoor
set_option linter.unusedVariables false
set_option linter.unusedSimpArgs false
open Go Go.Proofs Go.RowKit Go.ChangeShapes Go.WideShapes Go.ChangeAt
set_option maxRecDepth 100000
theorem noInit4 : Tryz.prog.inits.idxOf? 4 = none := by kernel_rfl
def wArgs4 : Array Value := #[.agg #[.int .i64 0, .string ⟨#[]⟩, .string ⟨#[]⟩, .string ⟨#[]⟩, .int .i64 0]]
theorem wOk4 (os : Os) : Input.okWideB Tryz.prog ((World.laidAll Tryz.prog os laidL).forCall (fun _ _ => 0) ⟨#[], wArgs4, []⟩) 4 ⟨#[], wArgs4, []⟩ = true := by kernel_rfl
theorem wPre4 (os : Os) (H : Type) (enc : TypeId × Value → H) : Rows.storeNilSpec.preB enc Tryz.prog Tryz.f4 [] false ((World.laidAll Tryz.prog os laidL).forCall (fun _ _ => 0) ⟨#[], wArgs4, []⟩).memory wArgs4 8 = true := by kernel_rfl
theorem wSized4 (os : Os) (H : Type) (enc : TypeId × Value → H) : Rows.storeNilSpec.sizedB enc Tryz.prog Tryz.f4 false ((World.laidAll Tryz.prog os laidL).forCall (fun _ _ => 0) ⟨#[], wArgs4, []⟩).memory wArgs4 8 = true := by kernel_rfl
theorem read29 : Tryz.prog.readableRec 29 = true := by kernel_rfl
theorem lt29 : 29 < Tryz.prog.types.size := of_decide_eq_true (by kernel_rfl)
theorem cells29 : Tryz.prog.cellsOf 29 = 5 := by kernel_rfl
theorem one_of {v : Value} {i : Nat} {cs : Array Value} (h : (cs.toList.drop i).take 1 = [v]) : cs[i]? = some v := by
  rw [← Array.getElem?_toList]
  have := congrArg (·[0]?) h
  simpa using this
section
variable {H : Type} {enc : TypeId × Value → H} {w : World} {base : Nat} {spare : Nat → Bool} {held : Bool}
theorem get_of {fs : Array Field} {t fuel : Nat} {cs : List Value} {x : DataW H × List MemPlace} (ht : Tryz.prog.underlying t = some (.struct fs)) (h : DataW.trod enc Tryz.prog w base spare held fuel t cs = some x)
    (i ty o : Nat) (f : Field) (hi : fs[i]? = some f) (hty : f.type = ty) (ho : f.offset = o) (hc : Tryz.prog.cellsOf ty = 1) : ∃ n y, DataW.trod enc Tryz.prog w base spare held n ty ((cs.drop o).take 1) = some y := by
  obtain ⟨xs, n, _, _, _, hlen, hg⟩ := DataW.trod_struct ht h
  subst hty; subst ho
  have h1 := hg i f hi
  have hlt : i < xs.length := by rw [hlen]; exact (Array.getElem?_eq_some_iff.1 hi).1
  rw [hc] at h1
  exact ⟨n, xs[i], by rw [← List.getElem?_eq_getElem hlt]; exact h1⟩
theorem open29 {r : Reach} {b0 : Nat} {v : Value} {d : DataW H} {ps : List MemPlace} (hv : Value.okWide Tryz.prog w r b0 29 v) (hd : DataW.Trod enc Tryz.prog w base spare held 29 v d ps) :
    ∃ (op pr : Int) (a b c : ByteArray), v = .agg #[.int .i64 op, .string a, .string b, .string c, .int .i64 pr] := by
  obtain ⟨cs, rfl, hsz⟩ := okWide_struct Tryz.underlying29 hv
  obtain ⟨fuel, hf⟩ := hd
  obtain ⟨n0, x0, h0⟩ := get_of Tryz.underlying29 hf 0 3 0 _ rfl rfl rfl cells3
  obtain ⟨n1, x1, h1⟩ := get_of Tryz.underlying29 hf 1 9 1 _ rfl rfl rfl cells9
  obtain ⟨n2, x2, h2⟩ := get_of Tryz.underlying29 hf 2 9 2 _ rfl rfl rfl cells9
  obtain ⟨n3, x3, h3⟩ := get_of Tryz.underlying29 hf 3 9 3 _ rfl rfl rfl cells9
  obtain ⟨n4, x4, h4⟩ := get_of Tryz.underlying29 hf 4 3 4 _ rfl rfl rfl cells3
  obtain ⟨op, e0, _, _⟩ := DataW.trod_int und3 h0
  obtain ⟨a, e1, _, _⟩ := DataW.trod_string und9 h1
  obtain ⟨b, e2, _, _⟩ := DataW.trod_string und9 h2
  obtain ⟨c, e3, _, _⟩ := DataW.trod_string und9 h3
  obtain ⟨pr, e4, _, _⟩ := DataW.trod_int und3 h4
  refine ⟨op, pr, a, b, c, ?_⟩
  congr 1
  have g0 := one_of e0
  have g1 := one_of e1
  have g2 := one_of e2
  have g3 := one_of e3
  have g4 := one_of e4
  rw [cells29] at hsz
  apply Array.ext_getElem?
  intro i
  match i with
  | 0 => exact g0
  | 1 => exact g1
  | 2 => exact g2
  | 3 => exact g3
  | 4 => exact g4
  | i + 5 => rw [Array.getElem?_eq_none (by omega), Array.getElem?_eq_none (by simp)]
end
set_option linter.unusedVariables false in
theorem lifted4 (os : Os) (started : os.Started) (H : Type) (enc : TypeId × Value → H) :
    ReturnsInHanded {} Tryz.checked os 4 .any (fun w args => (Rows.storeNilSpec.pre enc Tryz.prog Tryz.f4 [] false w args ∧ laidMetH Tryz.prog laidL w) ∧ sizedMet enc Tryz.prog Tryz.f4 (OpenSpec.ofChange Rows.storeNilSpec) false w args)
      (Rows.storeNilSpec.post enc Tryz.prog Tryz.f4 false true false false) := by
  refine returnsInHanded_of_change_and (C := Tryz.checked) (X := fun w _ => laidMetH Tryz.prog laidL w) (fun _ _ _ hh h => h.of_heap hh) own58 started noInit4 Tryz.func4
    (ChangeSpec.witness_shaped (enc := enc) (C := Tryz.checked) (os := os) (X := fun w _ => laidMetH Tryz.prog laidL w) false (World.laidAll Tryz.prog os laidL) wArgs4 8 (World.laidAll_os _ _ _)
      (World.shaped_of_ZipB (wZip os _) (wRest os _)) (wOk4 os) (wPre4 os H enc) (wSized4 os H enc)
      (by rw [MakeChecks.laidMetH_plain _ _ _ plainL]; exact laidMet_laidAll _ (wFits os) (wIfaces os))) ?_
  intro W base args ds gs before hval0 hW _ _ hL _
  have hval : ∀ (j : Nat) t v, Tryz.f4.params[j]? = some t → args[j]? = some v → Value.okWide Tryz.prog W .any base t v := hval0
  have hW' := hW
  obtain ⟨p, q, hA0, hV, rfl, _, _⟩ := hW
  have hA : DataW.TrodAll enc Tryz.prog W 0 (fun _ => true) true Tryz.f4.params.toList args.toList ds p := hA0
  rw [Tryz.params4] at hA hval
  obtain ⟨v0, d0, rfl, rfl, h0⟩ := trodAll_one hA
  obtain ⟨rfl, rfl⟩ := trodVars_none hV
  obtain ⟨op, pr, a, b, c, rfl⟩ := open29 (hval 0 29 v0 rfl rfl) h0
  simp only [List.append_nil] at hW'
  have hlt : ∀ x ∈ p, x.block < W.heap.size := fun x hx => by simpa using hW'.lt x hx
  refine (nil_c (tabs58 hL)).mono fun e W' hr => ?_
  cases e with
  | returned v =>
    obtain ⟨rfl, hb⟩ := hr
    exact ⟨_, rfl, _, _, _, [], p, [], hW', trodAll_mk1 (shut_bool und4 _), trodAll_mk1 (Below.trod laidOut58 read29 lt29 h0 hb hlt), rfl, hb.frame _, fun h => by cases h⟩
  | panicked ch => exact hr.elim
  | outgrown => exact hr.elim
theorem named4f : Tryz.prog.funcNamed "halfplane/halfplanelaw58.StoreNil" = some 4 := by kernel_rfl
theorem inst4 : Tryz.f4.isInstance Tryz.prog Rows.storeNilRow.origin Rows.storeNilRow.targs := of_decide_eq_true (by kernel_rfl)
theorem nilSaid : Rows.StoreNilSaid :=
  OpenClaim.holds_of_wide 4 Tryz.f4 rfl rfl rfl rfl rfl rfl rfl ⟨rfl, rfl, rfl, rfl, rfl⟩ rfl rfl rfl rfl rfl named4f Tryz.func4 joint4
    inst4 (by unfold Func.isWrapper; first | (rw [if_pos (by decide +kernel)]; kernel_rfl) | (rw [if_neg (by decide +kernel)]; exact ⟨rfl, rfl⟩))
    (fun os started H enc _ => lifted4 os started H enc)
end Go.Proofs.YtjadodiecjkmoaaGreatDoor
