/-
  StoreSums of ch. 58: it returns true for all bytes, and the bytes read as before.
-/
import Derived.Test.YtjadodiecjkmoaaGreatDoorWit
import Derived.Test.YtjadodiecjkmoaaGreatDoorJoint3
import Derived.Test.YtjadodiecjkmoaaGreatDoorSum4
import Derived.ChangeSlices
import Derived.SevenTiedAt
namespace Go.Proofs.YtjadodiecjkmoaaGreatDoor
set_option linter.unusedVariables false
set_option linter.unusedSimpArgs false
open Go Go.Proofs Go.Wf Go.RowKit Go.ChangeShapes Go.WideShapes Go.ChangeAt
set_option maxRecDepth 100000
theorem noInit3 : Tryz.prog.inits.idxOf? 3 = none := by kernel_rfl
def wArgs3 : Array Value := #[.slice none 0 0, .int .i64 0, .int .u8 0]
theorem wOk3 (os : Os) : Input.okWideB Tryz.prog ((World.laidAll Tryz.prog os laidL).forCall (fun _ _ => 0) ⟨#[], wArgs3, []⟩) 3 ⟨#[], wArgs3, []⟩ = true := by kernel_rfl
theorem wPre3 (os : Os) (H : Type) (enc : TypeId × Value → H) : Rows.storeSumsSpec.preB enc Tryz.prog Tryz.f3 [] false ((World.laidAll Tryz.prog os laidL).forCall (fun _ _ => 0) ⟨#[], wArgs3, []⟩).memory wArgs3 8 = true := by kernel_rfl
theorem wSized3 (os : Os) (H : Type) (enc : TypeId × Value → H) : Rows.storeSumsSpec.sizedB enc Tryz.prog Tryz.f3 false ((World.laidAll Tryz.prog os laidL).forCall (fun _ _ => 0) ⟨#[], wArgs3, []⟩).memory wArgs3 8 = true := by kernel_rfl
theorem read22 : Tryz.prog.readableRec 22 = true := by kernel_rfl
theorem lt22 : 22 < Tryz.prog.types.size := of_decide_eq_true (by kernel_rfl)
theorem read3 : Tryz.prog.readableRec 3 = true := by kernel_rfl
theorem lt3 : 3 < Tryz.prog.types.size := of_decide_eq_true (by kernel_rfl)
theorem read5 : Tryz.prog.readableRec 5 = true := by kernel_rfl
theorem lt5 : 5 < Tryz.prog.types.size := of_decide_eq_true (by kernel_rfl)
theorem cells5 : Tryz.prog.cellsOf 5 = 1 := by kernel_rfl
theorem laid_eq : laidL = Rows.storeSumsRow.laid := by rfl
section
variable {H : Type} {enc : TypeId × Value → H} {w : World} {base : Nat} {spare : Nat → Bool} {held : Bool}
theorem u8_of {z : Int} (h : (Lit.int .u8 z).wf = true) : ((UInt8.ofNat z.toNat).toNat : Int) = z := by
  have hw : 0 ≤ z ∧ z ≤ 255 := by simpa [Lit.wf, IntKind.min, IntKind.max, IntKind.signed, IntKind.bits] using h
  have h2 : z.toNat < 256 := by omega
  have h3 : (UInt8.ofNat z.toNat).toNat = z.toNat := by
    rw [UInt8.toNat_ofNat']
    exact Nat.mod_eq_of_lt h2
  rw [h3]; omega
theorem open22 {r : Reach} {b0 : Nat} {v : Value} {d : DataW H} {ps : List MemPlace} (hv : Value.okWide Tryz.prog w r b0 22 v) (hd : DataW.Trod enc Tryz.prog w base spare held 22 v d ps) :
    ∃ m : List UInt8, RS u8Ty (fun _ => False) w v m := by
  obtain ⟨a0, len0, cap0, rfl⟩ := okWide_slice sl22 hv
  obtain ⟨fuel, hf⟩ := hd
  rcases open_ints sl22 un5 cells5 hf with ⟨h1, _⟩ | ⟨a, len, cap, zs, h1, _, hl, hc, hz, _, hcell, hwf⟩
  · have h1 : [Value.slice a0 len0 cap0] = [.slice none 0 0] := h1
    cases h1
    exact ⟨[], RS.nil⟩
  · have h1 : [Value.slice a0 len0 cap0] = [.slice (some a) len cap] := h1
    cases h1
    have hlz : len0 ≤ zs.length := by
      rw [hz]; split <;> omega
    have hml : ((zs.take len0).map fun z => UInt8.ofNat z.toNat).length = len0 := by
      rw [List.length_map, List.length_take]; omega
    refine ⟨(zs.take len0).map fun z => UInt8.ofNat z.toNat, some a, cap0, by rw [hml], by rw [hml]; exact hl, hc, ?_⟩
    by_cases h0 : len0 = 0
    · subst h0; exact .inl rfl
    · have hsp : a.spot = none := by
        have h2 := hcell 0 (by omega)
        unfold World.cell? at h2
        split at h2
        · split at h2
          · cases h2
          · rename_i hs
            have hs : ¬ a.spot.isSome = true := hs
            cases h3 : a.spot with
            | none => rfl
            | some k => rw [h3] at hs; exact absurd rfl hs
        · cases h2
      obtain ⟨b, o, sp⟩ := a
      have hsp : sp = none := hsp
      subst hsp
      refine .inr ⟨b, o, rfl, id, ?_⟩
      intro i x hi
      rw [List.getElem?_map, List.getElem?_take] at hi
      split at hi
      · rename_i hlt
        have hiz : i < zs.length := by omega
        rw [List.getElem?_eq_getElem hiz] at hi
        simp only [Option.map_some, Option.some.injEq] at hi
        subst hi
        refine ⟨_, rfl, ?_⟩
        intro j u hj
        cases j with
        | zero =>
          have hj : some (Value.int .u8 ((UInt8.ofNat zs[i].toNat).toNat : Int)) = some u := hj
          cases hj
          have h2 := hcell i hiz
          rw [Addr.add_lit] at h2
          rw [show o + i * u8Ty.sz + 0 = o + i by simp [u8Ty], h2, u8_of (hwf _ (List.getElem_mem hiz)), List.getD_eq_getElem?_getD, List.getElem?_eq_getElem hiz]
          rfl
        | succ j => simp at hj
      · cases hi
end
set_option linter.unusedVariables false in
theorem lifted3 (os : Os) (started : os.Started) (H : Type) (enc : TypeId × Value → H) :
    ReturnsInHanded {} Tryz.checked os 3 .any (fun w args => (Rows.storeSumsSpec.pre enc Tryz.prog Tryz.f3 [] false w args ∧ laidMetH Tryz.prog laidL w) ∧ sizedMet enc Tryz.prog Tryz.f3 (OpenSpec.ofChange Rows.storeSumsSpec) false w args)
      (Rows.storeSumsSpec.post enc Tryz.prog Tryz.f3 false true false false) := by
  refine returnsInHanded_of_change_and (C := Tryz.checked) (X := fun w _ => laidMetH Tryz.prog laidL w) (fun _ _ _ hh h => h.of_heap hh) own58 started noInit3 Tryz.func3
    (ChangeSpec.witness_shaped (enc := enc) (C := Tryz.checked) (os := os) (X := fun w _ => laidMetH Tryz.prog laidL w) false (World.laidAll Tryz.prog os laidL) wArgs3 8 (World.laidAll_os _ _ _)
      (World.shaped_of_ZipB (wZip os _) (wRest os _)) (wOk3 os) (wPre3 os H enc) (wSized3 os H enc)
      (by rw [MakeChecks.laidMetH_plain _ _ _ plainL]; exact laidMet_laidAll _ (wFits os) (wIfaces os))) ?_
  intro W base args ds gs before hval0 hW _ _ hL _
  have hval : ∀ (j : Nat) t v, Tryz.f3.params[j]? = some t → args[j]? = some v → Value.okWide Tryz.prog W .any base t v := hval0
  have hW' := hW
  obtain ⟨p, q, hA0, hV, rfl, _, _⟩ := hW
  have hA : DataW.TrodAll enc Tryz.prog W 0 (fun _ => true) true Tryz.f3.params.toList args.toList ds p := hA0
  rw [Tryz.params3] at hA hval
  obtain ⟨v0, v1, v2, d0, d1, d2, p0, p1, p2, rfl, rfl, rfl, h0, h1, h2⟩ := trodAll_three hA
  obtain ⟨rfl, rfl⟩ := trodVars_none hV
  obtain ⟨m, hm⟩ := open22 (hval 0 22 v0 rfl rfl) h0
  obtain ⟨x, rfl, rfl, rfl, _⟩ := open_int und3 (hval 1 3 v1 rfl rfl) h1
  obtain ⟨z, rfl, rfl, rfl, wz⟩ := open_int u5 (hval 2 5 v2 rfl rfl) h2
  simp only [List.append_nil] at hW'
  have hlt : ∀ x ∈ p0, x.block < W.heap.size := fun x hx => by simpa using hW'.lt x hx
  have call := sums_c (X := fun _ => False) (tabs58 hL) (fun _ h => h.elim) hm (a := x) (d := UInt8.ofNat z.toNat)
  rw [u8_of wz] at call
  refine call.mono fun e W' hr => ?_
  cases e with
  | returned v =>
    obtain ⟨rfl, hb⟩ := hr
    exact ⟨_, rfl, _, _, _, [], p0 ++ ([] ++ []), [], hW', trodAll_mk1 (shut_bool und4 _),
      trodAll_mk3 (Below.trod laidOut58 read22 lt22 h0 hb hlt) (Below.trod laidOut58 read3 lt3 h1 hb (fun _ h => by cases h)) (Below.trod laidOut58 read5 lt5 h2 hb (fun _ h => by cases h)), rfl, hb.frame _, fun h => by cases h⟩
  | panicked ch => exact hr.elim
  | outgrown => exact hr.elim
theorem named3f : Tryz.prog.funcNamed "halfplane/halfplanelaw58.StoreSums" = some 3 := by kernel_rfl
theorem inst3 : Tryz.f3.isInstance Tryz.prog Rows.storeSumsRow.origin Rows.storeSumsRow.targs := of_decide_eq_true (by kernel_rfl)
theorem sumsSaid : Rows.StoreSumsSaid :=
  OpenClaim.holds_of_wide 3 Tryz.f3 rfl rfl rfl rfl rfl rfl rfl ⟨rfl, rfl, rfl, rfl, rfl⟩ rfl rfl rfl rfl rfl named3f Tryz.func3 joint3
    inst3 (by unfold Func.isWrapper; first | (rw [if_pos (by decide +kernel)]; kernel_rfl) | (rw [if_neg (by decide +kernel)]; exact ⟨rfl, rfl⟩))
    (fun os started H enc _ => lifted3 os started H enc)
end Go.Proofs.YtjadodiecjkmoaaGreatDoor
