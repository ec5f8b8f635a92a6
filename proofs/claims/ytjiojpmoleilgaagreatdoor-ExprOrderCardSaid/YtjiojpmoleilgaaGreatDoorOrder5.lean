/- Part 5 of the texts for the claim. -/
import Derived.Test.YtjiojpmoleilgaaGreatDoorOrder4
namespace Go.Wf
open Go Go.Proofs Go.RowKit
set_option maxRecDepth 100000
set_option linter.unusedVariables false
set_option linter.unusedSimpArgs false
set_option maxHeartbeats 1000000 in
theorem j6 {X : Nat → Prop} {w : World} (hX : ∀ b, X b → b < w.heap.size) {v0 : Value} {m : List Nat} (r0 : RS Jb X w v0 m) (hm : m.length ≤ 1099511627776) : Calls Tryz.prog 170 #[v0] w (Ret w fun v w' => RS Jb X w' v (trim m)) := by
 obtain ⟨a1, c2, rfl, _, _⟩ := r0.len
 have C := Cx.start hX
 refine Calls.ofW (args := [(.slice a1 m.length c2)]) Tryz.func170 rfl rfl (Nat.le_of_ble_eq_true rfl) (Rg (Oa (Nl (Rg (Om (O rfl (St.len sl24 rfl (Oa (Nl (W.seq (W.block (W.loopN (fun μ f v => ∃ (x y : Nat → Prop) (j : Nat), Cx X w x y v ∧ f 0 = (.slice a1 m.length c2) ∧ f 2 = (.slice none 0 0) ∧ f 3 = (.int .i64 ((j : Nat) : Int)) ∧ RS Jb x v (.slice a1 m.length c2) m ∧ j ≤ m.length ∧ trim (m.take j) = trim m ∧ μ = j) _ ⟨_, _, m.length, C, rfl, rfl, rfl, r0, (Nat.le_refl _), (by rw [List.take_length]), rfl⟩ ?_))))))))))))
 rintro m12 f3 w4 ⟨x5, y6, j, C7, e8, e9, e10, r0, hjl, htr, hmu11⟩
 obtain ⟨f13, rfl⟩ := rebK (aC e8 (aC e9 (aC e10 aN)))
 clear e8 e9 e10
 refine Rh (Om (O rfl (St.gtr2 rfl rfl (fun hc14 => ?_) (fun hc14 => ?_))))
 ·refine Om (Og rfl rfl (St.move (Og rfl rfl (St.move (Og rfl rfl (St.sub (z := (((j : Nat) : Int) - 1)) rfl rfl (IntWalk.i64_in _ (by omega)) (Og rfl rfl (St.idx (j := (j - 1)) (u := (m.getD (j - 1) 0)) r0 sl24 Jh rfl rfl (by omega) (Jl (by omega)) ?_))))))))
  intro b15 o16 cs17 e18
  obtain ⟨rfl, bd19⟩ : cs17 = _ ∧ _ := e18.rd
  refine Og rfl rfl (St.load1 J9 rfl (e18.cell 0 _ rfl) (Og rfl rfl (St.eql2 rfl rfl (fun hc20 => ?_) (fun hc20 => ?_))))
  ·refine OT (Nl (W.condT rfl (W.skip (W.block (W.region (Om (O rfl (St.sub (z := (((j : Nat) : Int) - 1)) rfl rfl (IntWalk.i64_in _ (by omega)) (Oa (Nl (⟨_, (by omega), _, _, (j - 1), C7, rfl, rfl, (congrArg (Value.int .i64) (by omega)), r0, (by omega), (Ja2 hjl hc14 hc20 htr), rfl⟩)))))))))))
  refine OT (Nl (W.condF rfl (W.exit (Rg (O rfl (St.bs0 (T := Jb) C7 sl24 Jh ?_))))))
  intro g25 w21 x26 C22 s23 u27 h24
  replace r0 := r0.sp s23
  refine Om (Om (O rfl (St.slr (j := j) r0 sl24 Jh rfl rfl rfl (by omega) ?_)))
  intro h28
  refine O rfl (St.appendC (T := Jb) C22 sl24 Jh rfl rfl h24 (V8 h28) (by simp only [List.length_nil, List.length_take, maxLen]; omega) (by simp only [List.length_nil, List.length_take]; omega) rfl ?_)
  intro v29 w30 x31 C32 s33 u34 h35
  rw [List.nil_append] at h35
  obtain ⟨a36, c37, rfl, _, _⟩ := h35.len
  exact Oa (Nl (W.ret (Jf rfl (resV.t rfl) (Ret.intro (RS.eqv (h35.toRS C32 hX) ((Jax hjl hc14 hc20 htr))) C32.below))))
 refine Om (Ox rfl rfl rfl (Ox rfl rfl rfl (Ox rfl rfl rfl (Ox rfl rfl rfl (Ox rfl rfl rfl (Ox rfl rfl rfl (OF (Nl (W.condF rfl (W.exit (Rg (O rfl (St.bs0 (T := Jb) C7 sl24 Jh ?_)))))))))))))
 intro g42 w38 x43 C39 s40 u44 h41
 replace r0 := r0.sp s40
 refine Om (Om (O rfl (St.slr (j := j) r0 sl24 Jh rfl rfl rfl (by omega) ?_)))
 intro h45
 refine O rfl (St.appendC (T := Jb) C39 sl24 Jh rfl rfl h41 (V8 h45) (by simp only [List.length_nil, List.length_take, maxLen]; omega) (by simp only [List.length_nil, List.length_take]; omega) rfl ?_)
 intro v46 w47 x48 C49 s50 u51 h52
 rw [List.nil_append] at h52
 obtain ⟨a53, c54, rfl, _, _⟩ := h52.len
 exact Oa (Nl (W.ret (Jf rfl (resV.t rfl) (Ret.intro (RS.eqv (h52.toRS C49 hX) ((Jen hjl hc14 htr))) C49.below))))
set_option maxHeartbeats 1000000 in
theorem Q7 {X : Nat → Prop} {w : World} (hX : ∀ b, X b → b < w.heap.size) {v0 : Value} {a : GInt} (r0 : RV Jv X w v0 a) (hl : a.mag.length ≤ 1099511627776) : Calls Tryz.prog 118 #[v0] w (Ret w fun v w' => RV Jv X w' v (ofZ a.toZ)) := by
 obtain ⟨a1, c2, rfl, h3⟩ := RV.int r0
 have C := Cx.start hX
 have sa := r0.int_small
 refine Calls.ofW (args := [(.agg #[(.bool a.neg), (.slice a1 a.mag.length c2)])]) Tryz.func118 rfl rfl (Nat.le_of_ble_eq_true rfl) (Rg (O rfl (St.boxC C rfl ?_)))
 intro g4 w5 x6 y7 lt8 C9 s10 o11
 refine O rfl (St.allocC C9 io26 rfl ?_)
 intro g12 w13 x14 y15 lt16 C17 s18 o19
 replace h3 := (h3.sp s10).sp s18
 replace o11 := o11.spn s18
 refine Nl (Rg (O rfl (St.fieldAddr J3 rfl (O rfl (St.loadO1 o11 pl24 rfl rfl (O rfl (St.callR C17 Jb0 rfl rfl (j6 C17.bd h3 hl) ?_)))))))
 intro v21 w22 C23 s24 h25
 replace o11 := o11.spn s24
 replace o19 := o19.spn s24
 obtain ⟨a26, c27, rfl, _, _⟩ := h25.len
 refine Oa (Nl (Rg (O rfl (St.fieldAddr Zg rfl (O rfl (St.bool (St.loadO1 o11 pl4 rfl rfl ⟨_, rfl, fun hb28 => ?_, fun hb28 => ?_⟩)))))))
 ·refine Om (Og rfl rfl (St.move (Og rfl rfl (St.len sl24 rfl (Og rfl rfl (St.gtr rfl rfl rfl (OT (Om (O rfl (St.build (cs := [(.bool (decide (0 < (((trim a.mag).length : Nat) : Int)))), (.slice a26 (trim a.mag).length c27)]) rfl (by kernel_rfl) (On (St.storeC (cs' := [(.bool (decide (0 < (((trim a.mag).length : Nat) : Int)))), (.slice a26 (trim a.mag).length c27)]) C23 o19 io26 rfl rfl rfl rfl rfl rfl ?_))))))))))))
  intro w29 C30 s31 o32
  replace h25 := h25.sp s31
  refine Nl (W.ret (Jf rfl (resV.c o32 rfl ag26 rfl) (Ret.intro ?_ C30.below)))
  exact RV.eqv (a := (⟨(decide (0 < (((trim a.mag).length : Nat) : Int))), (trim a.mag)⟩ : GInt)) ((Jj h25).tr (Tr.weak C30.base)) (Ji3 sa (by rw [hb28, Bool.true_and]; exact decide_eq_decide.2 (by omega)))
 refine Om (Ox rfl rfl rfl (Ox rfl rfl rfl (Ox rfl rfl rfl (OF (Om (O rfl (St.build (cs := [(.bool false), (.slice a26 (trim a.mag).length c27)]) rfl (by kernel_rfl) (On (St.storeC (cs' := [(.bool false), (.slice a26 (trim a.mag).length c27)]) C23 o19 io26 rfl rfl rfl rfl rfl rfl ?_)))))))))
 intro w33 C34 s35 o36
 replace h25 := h25.sp s35
 refine Nl (W.ret (Jf rfl (resV.c o36 rfl ag26 rfl) (Ret.intro ?_ C34.below)))
 exact RV.eqv (a := (⟨false, (trim a.mag)⟩ : GInt)) ((Jj h25).tr (Tr.weak C34.base)) (Ji3 sa (by rw [hb28]; rfl))
set_option maxHeartbeats 1000000 in
theorem Yu {X : Nat → Prop} {w : World} (hX : ∀ b, X b → b < w.heap.size) {b : Bool} {v1 : Value} {m : List Nat} (r1 : RS Jb X w v1 m) (hm : m.length ≤ 1099511627776) : Calls Tryz.prog 167 #[(.bool b), v1] w (Ret w fun v w' => RV Jv X w' v (ofZ (Jk b (val m)))) := by
 obtain ⟨a1, c2, rfl, _, _⟩ := r1.len
 have C := Cx.start hX
 refine Calls.ofW (args := [(.bool b), (.slice a1 m.length c2)]) Tryz.func167 rfl rfl (Nat.le_of_ble_eq_true rfl) (Rg (O rfl (St.allocC C io26 rfl ?_)))
 intro g3 w4 x5 y6 lt7 C8 s9 o10
 replace r1 := r1.sp s9
 refine Nl (Rg (Om (Om (O rfl (St.build (cs := [(.bool b), (.slice a1 m.length c2)]) rfl (by kernel_rfl) (O rfl (St.callR C8 qw rfl rfl (Q7 C8.bd (a := (⟨b, m⟩ : GInt)) (Jj r1) hm) ?_)))))))
 intro v11 w12 C13 s14 h15
 replace o10 := o10.spn s14
 obtain ⟨a16, c17, rfl, h18⟩ := RV.int h15
 refine On (St.storeC (cs' := [(.bool (ofZ (⟨b, m⟩ : GInt).toZ).neg), (.slice a16 (ofZ (⟨b, m⟩ : GInt).toZ).mag.length c17)]) C13 o10 io26 rfl rfl rfl rfl rfl rfl ?_)
 intro w19 C20 s21 o22
 replace h18 := h18.sp s21
 refine Nl (W.ret (Jf rfl (resV.c o22 rfl ag26 rfl) (Ret.intro ?_ C20.below)))
 exact RV.eqv (a := (ofZ (⟨b, m⟩ : GInt).toZ)) ((Jj h18).tr (Tr.weak C20.base)) rfl
set_option maxHeartbeats 1000000 in
theorem Je0 {X : Nat → Prop} {w : World} (hX : ∀ b, X b → b < w.heap.size) {v0 : Value} {a : GInt} (r0 : RV Jv X w v0 a) (hl : a.mag.length ≤ 1099511627776) : Calls Tryz.prog 112 #[v0] w (Ret w fun v w' => v = (.int .i64 a.toZ.sign)) := by
 obtain ⟨a1, c2, rfl, h3⟩ := RV.int r0
 have C := Cx.start hX
 have sa := r0.int_small
 refine Calls.ofW (args := [(.agg #[(.bool a.neg), (.slice a1 a.mag.length c2)])]) Tryz.func112 rfl rfl (Nat.le_of_ble_eq_true rfl) (Rg (O rfl (St.boxC C rfl ?_)))
 intro g4 w5 x6 y7 lt8 C9 s10 o11
 replace h3 := h3.sp s10
 refine Oa (Nl (Rg (O rfl (St.loadOA (vs := [(.bool a.neg), (.slice a1 a.mag.length c2)]) o11 ag26 rfl rfl rfl (O rfl (St.callR C9 qw rfl rfl (Q7 C9.bd (a := a) (Jj h3) hl) ?_))))))
 intro v12 w13 C14 s15 h16
 obtain ⟨a17, c18, rfl, h19⟩ := RV.int h16
 refine O rfl (St.allocC C14 io26 rfl ?_)
 intro g20 w21 x22 y23 lt24 C25 s26 o27
 refine On (St.storeC (cs' := [(.bool (ofZ a.toZ).neg), (.slice a17 (ofZ a.toZ).mag.length c18)]) C25 o27 io26 rfl rfl rfl rfl rfl rfl ?_)
 intro w29 C30 s31 o32
 refine Nl (Rh (O rfl (St.fieldAddr J3 rfl (O rfl (St.loadO1 o32 pl24 rfl rfl (O rfl (St.len sl24 rfl (O rfl (St.eql2 rfl rfl (fun hc33 => ?_) (fun hc33 => ?_))))))))))
 ·exact Nl (W.condT rfl (Rg (Oa (Nl (W.ret (Jf rfl (resV.t rfl) (Ret.intro (congrArg (Value.int _) ((by rw [(J7 (z := a.toZ)).1 (by omega)]; rfl))) C30.below)))))))
 refine Nl (W.condF rfl (W.skip (Rh (O rfl (St.fieldAddr Zg rfl (O rfl (St.bool (St.loadO1 o32 pl4 rfl rfl ⟨_, rfl, fun hb34 => ?_, fun hb34 => ?_⟩))))))))
 ·exact Nl (W.condT rfl (Rg (Oa (Nl (W.ret (Jf rfl (resV.t rfl) (Ret.intro (congrArg (Value.int _) ((by have hh := hb34; rw [Jas, decide_eq_true_eq] at hh; exact (Int.sign_eq_neg_one_of_neg hh).symm))) C30.below)))))))
 exact Nl (W.condF rfl (W.skip (Rg (Oa (Nl (W.ret (Jf rfl (resV.t rfl) (Ret.intro (congrArg (Value.int _) ((by have hh := hb34; rw [Jas, decide_eq_false_iff_not] at hh; exact (Int.sign_eq_one_of_pos (by have h0 := hc33; have h1 : a.toZ ≠ 0 := fun e => h0 (by rw [J7.2 e]; rfl); omega)).symm))) C30.below))))))))
set_option maxHeartbeats 1000000 in
theorem Jqt {X : Nat → Prop} {w : World} (hX : ∀ b, X b → b < w.heap.size) {v0 : Value} {a : GInt} (r0 : RV Jv X w v0 a) (hl : a.mag.length ≤ 1099511627776) : Calls Tryz.prog 115 #[v0] w (Ret w fun v w' => RV Jv X w' v (ofZ (-a.toZ))) := by
 obtain ⟨a1, c2, rfl, h3⟩ := RV.int r0
 have C := Cx.start hX
 refine Calls.ofW (args := [(.agg #[(.bool a.neg), (.slice a1 a.mag.length c2)])]) Tryz.func115 rfl rfl (Nat.le_of_ble_eq_true rfl) (Rg (O rfl (St.boxC C rfl ?_)))
 intro g4 w5 x6 y7 lt8 C9 s10 o11
 refine O rfl (St.allocC C9 io26 rfl ?_)
 intro g12 w13 x14 y15 lt16 C17 s18 o19
 replace h3 := (h3.sp s10).sp s18
 replace o11 := o11.spn s18
 refine Nl (Rg (O rfl (St.fieldAddr Zg rfl (O rfl (St.loadO1 o11 pl4 rfl rfl (O rfl (St.not rfl (O rfl (St.fieldAddr J3 rfl (O rfl (St.loadO1 o11 pl24 rfl rfl (O rfl (St.callR C17 ja rfl rfl (Yu C17.bd h3 hl) ?_)))))))))))))
 intro v21 w22 C23 s24 h25
 replace o19 := o19.spn s24
 obtain ⟨a26, c27, rfl, h28⟩ := RV.int h25
 refine On (St.storeC (cs' := [(.bool (ofZ (Jk (!a.neg) (val a.mag))).neg), (.slice a26 (ofZ (Jk (!a.neg) (val a.mag))).mag.length c27)]) C23 o19 io26 rfl rfl rfl rfl rfl rfl ?_)
 intro w29 C30 s31 o32
 replace h28 := h28.sp s31
 refine Nl (W.ret (Jf rfl (resV.c o32 rfl ag26 rfl) (Ret.intro ?_ C30.below)))
 exact RV.eqv (a := (ofZ (Jk (!a.neg) (val a.mag)))) ((Jj h28).tr (Tr.weak C30.base)) ((by rw [Jcl]; rfl))
set_option maxHeartbeats 1000000 in
theorem Jrn {X : Nat → Prop} {w : World} (hX : ∀ b, X b → b < w.heap.size) {v0 : Value} {a : GInt} (r0 : RV Jv X w v0 a) (hl : a.mag.length ≤ 1099511627776) : Calls Tryz.prog 165 #[v0] w (Ret w fun v w' => RV Jv X w' v (ofZ (a.toZ.natAbs : Int))) := by
 obtain ⟨a1, c2, rfl, h3⟩ := RV.int r0
 have C := Cx.start hX
 refine Calls.ofW (args := [(.agg #[(.bool a.neg), (.slice a1 a.mag.length c2)])]) Tryz.func165 rfl rfl (Nat.le_of_ble_eq_true rfl) (Rg (O rfl (St.boxC C rfl ?_)))
 intro g4 w5 x6 y7 lt8 C9 s10 o11
 refine O rfl (St.allocC C9 io26 rfl ?_)
 intro g12 w13 x14 y15 lt16 C17 s18 o19
 replace h3 := (h3.sp s10).sp s18
 replace o11 := o11.spn s18
 refine Nl (Rg (O rfl (St.fieldAddr J3 rfl (O rfl (St.loadO1 o11 pl24 rfl rfl (O rfl (St.callR C17 ja rfl rfl (Yu C17.bd h3 hl) ?_)))))))
 intro v21 w22 C23 s24 h25
 replace o19 := o19.spn s24
 obtain ⟨a26, c27, rfl, h28⟩ := RV.int h25
 refine On (St.storeC (cs' := [(.bool (ofZ (Jk false (val a.mag))).neg), (.slice a26 (ofZ (Jk false (val a.mag))).mag.length c27)]) C23 o19 io26 rfl rfl rfl rfl rfl rfl ?_)
 intro w29 C30 s31 o32
 replace h28 := h28.sp s31
 refine Nl (W.ret (Jf rfl (resV.c o32 rfl ag26 rfl) (Ret.intro ?_ C30.below)))
 exact RV.eqv (a := (ofZ (Jk false (val a.mag)))) ((Jj h28).tr (Tr.weak C30.base)) ((by rw [Xc]; rfl))
set_option maxHeartbeats 1000000 in
theorem Jcy {X : Nat → Prop} {w : World} (hX : ∀ b, X b → b < w.heap.size) {v0 : Value} {a : List Nat} (r0 : RS Jb X w v0 a) {v1 : Value} {b : List Nat} (r1 : RS Jb X w v1 b) (ha : trim a = a) (hb : trim b = b) (hla : a.length ≤ 1099511627776) (hlb : b.length ≤ 1099511627776) : Calls Tryz.prog 218 #[v0, v1] w (Ret w fun v w' => v = (.bool (decide (val a < val b)))) := by
 obtain ⟨a1, c2, rfl, _, _⟩ := r0.len
 obtain ⟨a3, c4, rfl, _, _⟩ := r1.len
 have C := Cx.start hX
 have sa := r0.u32_small
 have sb := r1.u32_small
 refine Calls.ofW (args := [(.slice a1 a.length c2), (.slice a3 b.length c4)]) Tryz.func218 rfl rfl (Nat.le_of_ble_eq_true rfl) (Rg (Oa (Nl (Rh (Om (O rfl (St.len sl24 rfl (Om (O rfl (St.len sl24 rfl (O rfl (St.neq2 rfl rfl (fun hc5 => ?_) (fun hc5 => ?_)))))))))))))
 ·exact Nl (W.condT rfl (Rg (Om (O rfl (St.len sl24 rfl (Om (O rfl (St.len sl24 rfl (O rfl (St.lss rfl rfl rfl (Oa (Nl (W.ret (Jf rfl (resV.t rfl) (Ret.intro (congrArg (Value.bool) ((Jiv ha hb sa sb (by omega)))) C.below)))))))))))))))
 refine Nl (W.condF rfl (W.skip (Rh (Om (O rfl (St.len sl24 rfl (O rfl (St.sub (z := (((a.length : Nat) : Int) - 1)) rfl rfl (IntWalk.i64_in _ (by omega)) (Oa (Nl (W.block (W.loopN (fun μ f v => ∃ (x y : Nat → Prop) (j : Nat), Cx X w x y v ∧ f 0 = (.slice a1 a.length c2) ∧ f 1 = (.slice a3 b.length c4) ∧ f 5 = (.int .i64 ((j : Int) - 1)) ∧ RS Jb x v (.slice a1 a.length c2) a ∧ RS Jb x v (.slice a3 b.length c4) b ∧ j ≤ a.length ∧ a.drop j = b.drop j ∧ μ = j) _ ⟨_, _, a.length, C, rfl, rfl, rfl, r0, r1, (Nat.le_refl _), (by rw [List.drop_of_length_le (Nat.le_refl _), List.drop_of_length_le (by omega)]), rfl⟩ ?_))))))))))))
 rintro m15 f6 w7 ⟨x8, y9, j, C10, e11, e12, e13, r0, r1, hj, heq, hmu14⟩
 obtain ⟨f16, rfl⟩ := rebK (aC e11 (aC e12 (aC e13 aN)))
 clear e11 e12 e13
 refine Rh (Om (O rfl (St.geq2 rfl rfl (fun hc17 => ?_) (fun hc17 => ?_))))
 ·refine Nl (W.condT rfl (W.skip (W.seq (W.block (W.seq (W.drawC Zc 8 [[], [], [0, 1], [2], [], [], [4, 5], [6]] C10 [fx (.slice a1 a.length c2), fx (.int .i64 ((j : Int) - 1)), fE Jb (a.getD (j - 1) 0), fx (.int .u32 (((a.getD (j - 1) 0) : Nat) : Int)), fx (.slice a3 b.length c4), fx (.int .i64 ((j : Int) - 1)), fE Jb (b.getD (j - 1) 0), fx (.int .u32 (((b.getD (j - 1) 0) : Nat) : Int))] (by kernel_rfl) ⟨sx, sx, sE, sx, sx, sx, sE, sx, trivial⟩ fun f29 s30 w31 ⟨C34, S35⟩ k33 => ?_))))))
  replace r0 := r0.sp S35
  replace r1 := r1.sp S35
  have k33 : Keep [23, 24, 25, 26, 27, 28, 29, 30] _ f29 := k33
  refine ⟨⟨fun _ => ?_, fun _ => ?_, fun ⟨e36, e37, _⟩ => ?_, fun ⟨d38, _⟩ => ?_, fun _ => ?_, fun _ => ?_, fun ⟨e39, e40, _⟩ => ?_, fun ⟨d41, _⟩ => ?_, trivial⟩, fun ⟨e42, e43, d44, e45, e46, e47, d48, e49, _⟩ => ?_⟩
  ·exact Ja k33 aN fun _ => OpSt.op (St.move ⟨s30, RC.same C34, rfl⟩)
  ·exact Ja k33 aN fun _ => OpSt.op (St.move ⟨s30, RC.same C34, rfl⟩)
  ·refine Ja k33 (aC e36 (aC e37 aN)) fun _ => OpSt.op (St.idx (j := (j - 1)) (u := (a.getD (j - 1) 0)) r0 sl24 Jh rfl rfl (by omega) (Jl (by omega)) ?_)
   intro b50 o51 cs52 e53
   obtain ⟨rfl, bd54⟩ : cs52 = _ ∧ _ := e53.rd
   exact ⟨s30, RC.same C34, ⟨_, _, _, rfl, e53⟩⟩
  ·obtain ⟨b56, o57, cs58, e55, e59⟩ := d38
   obtain ⟨rfl, bd60⟩ : cs58 = _ ∧ _ := e59.rd
   exact Ja k33 (aC e55 aN) fun _ => OpSt.op (St.load1 J9 rfl (e59.cell 0 _ rfl) ⟨s30, RC.same C34, rfl⟩)
  ·exact Ja k33 aN fun _ => OpSt.op (St.move ⟨s30, RC.same C34, rfl⟩)
  ·exact Ja k33 aN fun _ => OpSt.op (St.move ⟨s30, RC.same C34, rfl⟩)
  ·refine Ja k33 (aC e39 (aC e40 aN)) fun _ => OpSt.op (St.idx (j := (j - 1)) (u := (b.getD (j - 1) 0)) r1 sl24 Jh rfl rfl (by omega) (Jl (by omega)) ?_)
   intro b61 o62 cs63 e64
   obtain ⟨rfl, bd65⟩ : cs63 = _ ∧ _ := e64.rd
   exact ⟨s30, RC.same C34, ⟨_, _, _, rfl, e64⟩⟩
  ·obtain ⟨b67, o68, cs69, e66, e70⟩ := d41
   obtain ⟨rfl, bd71⟩ : cs69 = _ ∧ _ := e70.rd
   exact Ja k33 (aC e66 aN) fun _ => OpSt.op (St.load1 J9 rfl (e70.cell 0 _ rfl) ⟨s30, RC.same C34, rfl⟩)
  obtain ⟨b73, o74, cs75, e72, e76⟩ := d44
  obtain ⟨rfl, bd77⟩ : cs75 = _ ∧ _ := e76.rd
  obtain ⟨b79, o80, cs81, e78, e82⟩ := d48
  obtain ⟨rfl, bd83⟩ : cs81 = _ ∧ _ := e82.rd
  obtain ⟨f84, rfl⟩ := mixK k33 (aC e42 (aC e43 (aC e72 (aC e45 (aC e46 (aC e47 (aC e78 (aC e49 aN))))))))
  refine O rfl (St.neq2 rfl rfl (fun hc85 => ?_) (fun hc85 => ?_))
  ·refine Nl (W.condT rfl (W.seq (W.drawC Zc 8 [[], [], [0, 1], [2], [], [], [4, 5], [6]] C34 [fx (.slice a1 a.length c2), fx (.int .i64 ((j : Int) - 1)), fE Jb (a.getD (j - 1) 0), fx (.int .u32 (((a.getD (j - 1) 0) : Nat) : Int)), fx (.slice a3 b.length c4), fx (.int .i64 ((j : Int) - 1)), fE Jb (b.getD (j - 1) 0), fx (.int .u32 (((b.getD (j - 1) 0) : Nat) : Int))] (by kernel_rfl) ⟨sx, sx, sE, sx, sx, sx, sE, sx, trivial⟩ fun f97 s98 w99 ⟨C102, S103⟩ k101 => ?_)))
   replace r0 := r0.sp S103
   replace r1 := r1.sp S103
   have k101 : Keep [32, 33, 34, 35, 36, 37, 38, 39] _ f97 := k101
   refine ⟨⟨fun _ => ?_, fun _ => ?_, fun ⟨e104, e105, _⟩ => ?_, fun ⟨d106, _⟩ => ?_, fun _ => ?_, fun _ => ?_, fun ⟨e107, e108, _⟩ => ?_, fun ⟨d109, _⟩ => ?_, trivial⟩, fun ⟨e110, e111, d112, e113, e114, e115, d116, e117, _⟩ => ?_⟩
   ·exact Ja k101 aN fun _ => OpSt.op (St.move ⟨s98, RC.same C102, rfl⟩)
   ·exact Ja k101 aN fun _ => OpSt.op (St.move ⟨s98, RC.same C102, rfl⟩)
   ·refine Ja k101 (aC e104 (aC e105 aN)) fun _ => OpSt.op (St.idx (j := (j - 1)) (u := (a.getD (j - 1) 0)) r0 sl24 Jh rfl rfl (by omega) (Jl (by omega)) ?_)
    intro b118 o119 cs120 e121
    obtain ⟨rfl, bd122⟩ : cs120 = _ ∧ _ := e121.rd
    exact ⟨s98, RC.same C102, ⟨_, _, _, rfl, e121⟩⟩
   ·obtain ⟨b124, o125, cs126, e123, e127⟩ := d106
    obtain ⟨rfl, bd128⟩ : cs126 = _ ∧ _ := e127.rd
    exact Ja k101 (aC e123 aN) fun _ => OpSt.op (St.load1 J9 rfl (e127.cell 0 _ rfl) ⟨s98, RC.same C102, rfl⟩)
   ·exact Ja k101 aN fun _ => OpSt.op (St.move ⟨s98, RC.same C102, rfl⟩)
   ·exact Ja k101 aN fun _ => OpSt.op (St.move ⟨s98, RC.same C102, rfl⟩)
   ·refine Ja k101 (aC e107 (aC e108 aN)) fun _ => OpSt.op (St.idx (j := (j - 1)) (u := (b.getD (j - 1) 0)) r1 sl24 Jh rfl rfl (by omega) (Jl (by omega)) ?_)
    intro b129 o130 cs131 e132
    obtain ⟨rfl, bd133⟩ : cs131 = _ ∧ _ := e132.rd
    exact ⟨s98, RC.same C102, ⟨_, _, _, rfl, e132⟩⟩
   ·obtain ⟨b135, o136, cs137, e134, e138⟩ := d109
    obtain ⟨rfl, bd139⟩ : cs137 = _ ∧ _ := e138.rd
    exact Ja k101 (aC e134 aN) fun _ => OpSt.op (St.load1 J9 rfl (e138.cell 0 _ rfl) ⟨s98, RC.same C102, rfl⟩)
   obtain ⟨b141, o142, cs143, e140, e144⟩ := d112
   obtain ⟨rfl, bd145⟩ : cs143 = _ ∧ _ := e144.rd
   obtain ⟨b147, o148, cs149, e146, e150⟩ := d116
   obtain ⟨rfl, bd151⟩ : cs149 = _ ∧ _ := e150.rd
   obtain ⟨f152, rfl⟩ := mixK k101 (aC e110 (aC e111 (aC e140 (aC e113 (aC e114 (aC e115 (aC e146 (aC e117 aN))))))))
   exact O rfl (St.lss rfl rfl rfl (Oa (Nl (W.ret (Jf rfl (resV.t rfl) (Ret.intro (congrArg (Value.bool) ((Jjo sa sb (by omega) (by omega) (by omega) (by omega) heq))) C102.below))))))
  refine Nl (W.condF rfl (W.skip (W.region (Om (O rfl (St.sub (z := (((j : Int) - 1) - 1)) rfl rfl (IntWalk.i64_in _ (by omega)) (Oa (Nl (⟨_, (by omega), _, _, (j - 1), C34, rfl, rfl, (congrArg (Value.int .i64) (by omega)), r0, r1, (by omega), (Jes (by omega) (by omega) (by omega) hc85 heq), rfl⟩)))))))))
 exact Nl (W.condF rfl (W.exit (Rg (Oa (Nl (W.ret (Jf rfl (resV.t rfl) (Ret.intro (congrArg (Value.bool) ((Jmz (show j = 0 by omega) heq))) C10.below))))))))
set_option maxHeartbeats 8000000 in
theorem Jno {X : Nat → Prop} {w : World} (hX : ∀ b, X b → b < w.heap.size) {v0 : Value} {a : List Nat} (r0 : RS Jb X w v0 a) {v1 : Value} {b : List Nat} (r1 : RS Jb X w v1 b) (hla : a.length ≤ 549755813888) (hlb : b.length ≤ 549755813888) : Calls Tryz.prog 216 #[v0, v1] w (Ret w fun v w' => RS Jb X w' v (Jr (max a.length b.length + 1) (val a + val b))) := by
 obtain ⟨a1, c2, rfl, _, _⟩ := r0.len
 obtain ⟨a3, c4, rfl, _, _⟩ := r1.len
 have C := Cx.start hX
 have sa := r0.u32_small
 have sb := r1.u32_small
 refine Calls.ofW (args := [(.slice a1 a.length c2), (.slice a3 b.length c4)]) Tryz.func216 rfl rfl (Nat.le_of_ble_eq_true rfl) (Rg (Oa (Nl (Rg (Oa (Nl (Rg (Oa (Nl (Rh (Oa (Nl (W.block (W.loopN (fun μ f v => ∃ (x y : Nat → Prop) (i : Nat) (p : List Nat) (c : Nat) (pa : Option Addr) (pc : Nat), Cx X w x y v ∧ f 0 = (.slice a1 a.length c2) ∧ f 1 = (.slice a3 b.length c4) ∧ f 4 = (.slice none 0 0) ∧ f 7 = (.int .i64 ((i : Nat) : Int)) ∧ f 6 = (.int .u64 ((c : Nat) : Int)) ∧ f 5 = (.slice pa p.length pc) ∧ RS Jb x v (.slice a1 a.length c2) a ∧ RS Jb x v (.slice a3 b.length c4) b ∧ OS Jb 118 w x y v (.slice pa p.length pc) p ∧ i ≤ max a.length b.length ∧ p.length = i ∧ Jo p ∧ c ≤ 1 ∧ val p + 4294967296 ^ i * c = val (a.take i) + val (b.take i) ∧ μ = (max a.length b.length - i)) _ ⟨_, _, 0, [], 0, none, 0, C, rfl, rfl, rfl, rfl, rfl, rfl, r0, r1, OS.nil, (Nat.zero_le _), rfl, J6, (by omega), (by simp [val]), rfl⟩ ?_))))))))))))))
 rintro m17 f5 w6 ⟨x7, y8, i, p, c, pa, pc, C9, e10, e11, e12, e13, e14, e15, r0, r1, hP, hi, hp, hs, hc, hv, hmu16⟩
 obtain ⟨f18, rfl⟩ := rebK (aC e10 (aC e11 (aC e12 (aC e13 (aC e14 (aC e15 aN))))))
 clear e10 e11 e12 e13 e14 e15
 have hai := Jg sa i
 have hbi := Jg sb i
 refine Rh (Om (Om (O rfl (St.len sl24 rfl (O rfl (St.lss2 rfl rfl (fun hc19 => ?_) (fun hc19 => ?_)))))))
 ·refine Om (Ox rfl rfl rfl (Ox rfl rfl rfl (Ox rfl rfl rfl (Ox rfl rfl rfl (OT (Nl (W.condT rfl (W.skip (W.seq (W.block (Rg (Om (Oa (Nl (Rh (Om (Om (O rfl (St.len sl24 rfl (O rfl (St.lss (t := true) rfl rfl (decide_eq_true (by omega)) ?_)))))))))))))))))))))
  refine Nl (W.condT rfl (W.region (Om (Om (Om (O rfl (St.idx (j := i) (u := (a.getD i 0)) r0 sl24 Jh rfl rfl rfl (Jl (by omega)) ?_)))))))
  intro b20 o21 cs22 e23
  obtain ⟨rfl, bd24⟩ : cs22 = _ ∧ _ := e23.rd
  refine O rfl (St.load1 J9 rfl (e23.cell 0 _ rfl) (O rfl (St.conv (z := (((a.getD i 0) : Nat) : Int)) Zt Zw rfl (IntWalk.u64_in _ (by omega)) (O rfl (St.add rfl rfl (J4 (a := c) (b := (a.getD i 0)) (by omega)) (Oa (Nl (Rh (Om (Om (O rfl (St.len sl24 rfl (O rfl (St.lss2 rfl rfl (fun hc25 => ?_) (fun hc25 => ?_)))))))))))))))
  ·refine Nl (W.condT rfl (W.region (Om (Om (Om (O rfl (St.idx (j := i) (u := (b.getD i 0)) r1 sl24 Jh rfl rfl rfl (Jl (by omega)) ?_)))))))
   intro b26 o27 cs28 e29
   obtain ⟨rfl, bd30⟩ : cs28 = _ ∧ _ := e29.rd
   refine O rfl (St.load1 J9 rfl (e29.cell 0 _ rfl) (O rfl (St.conv (z := (((b.getD i 0) : Nat) : Int)) Zt Zw rfl (IntWalk.u64_in _ (by omega)) (O rfl (St.add rfl rfl (J4 (a := c + (a.getD i 0)) (b := (b.getD i 0)) (by omega)) (Oa (Nl (Rg (Om (Om (O rfl (St.conv (z := ((((c + (a.getD i 0)) + (b.getD i 0)) % 4294967296 : Nat) : Int)) Yj Yh rfl (Jm _) ?_))))))))))))
   refine O rfl (St.bsPub (T := Jb) (css := [[(.int .u32 ((((c + (a.getD i 0)) + (b.getD i 0)) % 4294967296 : Nat) : Int))]]) (l := [((c + (a.getD i 0)) + (b.getD i 0)) % 4294967296]) C9 sl24 Jh (by decide) (by decide) rfl (by kernel_rfl) ⟨⟨rfl, (Nat.mod_lt _ (by decide))⟩, trivial⟩ ?_)
   intro g35 w31 C32 s33 h34
   replace hP := hP.sp s33 C32 (fun _ h => h)
   refine O rfl (St.appendC (T := Jb) C32 sl24 Jh rfl rfl hP (V8 h34) (by simp only [List.length_append, List.length_cons, List.length_nil, maxLen]; omega) (by simp only [List.length_append, List.length_cons, List.length_nil]; omega) rfl ?_)
   intro v38 w39 x40 C41 s42 u43 h44
   replace r0 := (r0.sp s33).tr s42.tx
   replace r1 := (r1.sp s33).tr s42.tx
   obtain ⟨a45, c46, rfl, _, _⟩ := h44.len
   refine Oa (Nl (W.region (Om (O rfl (St.shr rfl rfl (by decide) (Yi (d := 4294967296) _ (by decide)) (Oa (Nl (W.region (Om (O rfl (St.add rfl rfl (Je (a := i) (b := 1) (by omega)) (Oa (Nl (⟨_, (by omega), _, _, (i + 1), (p ++ [((c + (a.getD i 0)) + (b.getD i 0)) % 4294967296]), ((c + (a.getD i 0)) + (b.getD i 0)) / 4294967296, a45, c46, C41, rfl, rfl, rfl, rfl, rfl, rfl, r0, r1, h44, (by omega), (by rw [List.length_append, hp]; rfl), (Jw hs (Nat.mod_lt _ (by decide))), (by omega), (V9 (s := ((c + (a.getD i 0)) + (b.getD i 0))) hp hv (by first | rfl | (have h7 := Y2 (l := b) (i := i) (by omega); omega) | (have h7 := Y2 (l := a) (i := i) (by omega); omega))), rfl⟩))))))))))))))
  refine Nl (W.condF rfl (W.skip (Rg (Om (Om (O rfl (St.conv (z := (((c + (a.getD i 0)) % 4294967296 : Nat) : Int)) Yj Yh rfl (Jm _) (O rfl (St.bsPub (T := Jb) (css := [[(.int .u32 (((c + (a.getD i 0)) % 4294967296 : Nat) : Int))]]) (l := [(c + (a.getD i 0)) % 4294967296]) C9 sl24 Jh (by decide) (by decide) rfl (by kernel_rfl) ⟨⟨rfl, (Nat.mod_lt _ (by decide))⟩, trivial⟩ ?_)))))))))
  intro g51 w47 C48 s49 h50
  replace hP := hP.sp s49 C48 (fun _ h => h)
  refine O rfl (St.appendC (T := Jb) C48 sl24 Jh rfl rfl hP (V8 h50) (by simp only [List.length_append, List.length_cons, List.length_nil, maxLen]; omega) (by simp only [List.length_append, List.length_cons, List.length_nil]; omega) rfl ?_)
  intro v54 w55 x56 C57 s58 u59 h60
  replace r0 := (r0.sp s49).tr s58.tx
  replace r1 := (r1.sp s49).tr s58.tx
  obtain ⟨a61, c62, rfl, _, _⟩ := h60.len
  refine Oa (Nl (W.region (Om (O rfl (St.shr rfl rfl (by decide) (Yi (d := 4294967296) _ (by decide)) (Oa (Nl (W.region (Om (O rfl (St.add rfl rfl (Je (a := i) (b := 1) (by omega)) (Oa (Nl (⟨_, (by omega), _, _, (i + 1), (p ++ [(c + (a.getD i 0)) % 4294967296]), (c + (a.getD i 0)) / 4294967296, a61, c62, C57, rfl, rfl, rfl, rfl, rfl, rfl, r0, r1, h60, (by omega), (by rw [List.length_append, hp]; rfl), (Jw hs (Nat.mod_lt _ (by decide))), (by omega), (V9 (s := (c + (a.getD i 0))) hp hv (by first | rfl | (have h7 := Y2 (l := b) (i := i) (by omega); omega) | (have h7 := Y2 (l := a) (i := i) (by omega); omega))), rfl⟩))))))))))))))
 refine Om (Og rfl rfl (St.move (Og rfl rfl (St.move (Og rfl rfl (St.len sl24 rfl (Og rfl rfl (St.lss2 rfl rfl (fun hc63 => ?_) (fun hc63 => ?_)))))))))
 ·refine OF (Nl (W.condT rfl (W.skip (W.seq (W.block (Rg (Om (Oa (Nl (Rh (Om (Om (O rfl (St.len sl24 rfl (O rfl (St.lss (t := false) rfl rfl (decide_eq_false (by omega)) (Nl (W.condF rfl (W.skip (Rh (Om ?_)))))))))))))))))))))
  refine Om (O rfl (St.len sl24 rfl (O rfl (St.lss (t := true) rfl rfl (decide_eq_true (by omega)) (Nl (W.condT rfl (W.region (Om (Om (Om (O rfl (St.idx (j := i) (u := (b.getD i 0)) r1 sl24 Jh rfl rfl rfl (Jl (by omega)) ?_))))))))))))
  intro b64 o65 cs66 e67
  obtain ⟨rfl, bd68⟩ : cs66 = _ ∧ _ := e67.rd
  refine O rfl (St.load1 J9 rfl (e67.cell 0 _ rfl) (O rfl (St.conv (z := (((b.getD i 0) : Nat) : Int)) Zt Zw rfl (IntWalk.u64_in _ (by omega)) (O rfl (St.add rfl rfl (J4 (a := c) (b := (b.getD i 0)) (by omega)) (Oa (Nl (Rg (Om (Om (O rfl (St.conv (z := (((c + (b.getD i 0)) % 4294967296 : Nat) : Int)) Yj Yh rfl (Jm _) ?_))))))))))))
  refine O rfl (St.bsPub (T := Jb) (css := [[(.int .u32 (((c + (b.getD i 0)) % 4294967296 : Nat) : Int))]]) (l := [(c + (b.getD i 0)) % 4294967296]) C9 sl24 Jh (by decide) (by decide) rfl (by kernel_rfl) ⟨⟨rfl, (Nat.mod_lt _ (by decide))⟩, trivial⟩ ?_)
  intro g73 w69 C70 s71 h72
  replace hP := hP.sp s71 C70 (fun _ h => h)
  refine O rfl (St.appendC (T := Jb) C70 sl24 Jh rfl rfl hP (V8 h72) (by simp only [List.length_append, List.length_cons, List.length_nil, maxLen]; omega) (by simp only [List.length_append, List.length_cons, List.length_nil]; omega) rfl ?_)
  intro v76 w77 x78 C79 s80 u81 h82
  replace r0 := (r0.sp s71).tr s80.tx
  replace r1 := (r1.sp s71).tr s80.tx
  obtain ⟨a83, c84, rfl, _, _⟩ := h82.len
  refine Oa (Nl (W.region (Om (O rfl (St.shr rfl rfl (by decide) (Yi (d := 4294967296) _ (by decide)) (Oa (Nl (W.region (Om (O rfl (St.add rfl rfl (Je (a := i) (b := 1) (by omega)) (Oa (Nl (⟨_, (by omega), _, _, (i + 1), (p ++ [(c + (b.getD i 0)) % 4294967296]), (c + (b.getD i 0)) / 4294967296, a83, c84, C79, rfl, rfl, rfl, rfl, rfl, rfl, r0, r1, h82, (by omega), (by rw [List.length_append, hp]; rfl), (Jw hs (Nat.mod_lt _ (by decide))), (by omega), (V9 (s := (c + (b.getD i 0))) hp hv (by first | rfl | (have h7 := Y2 (l := b) (i := i) (by omega); omega) | (have h7 := Y2 (l := a) (i := i) (by omega); omega))), rfl⟩))))))))))))))
 refine OF (Nl (W.condF rfl (W.exit (Rg (Om (Om (O rfl (St.conv (z := ((c % 4294967296 : Nat) : Int)) Yj Yh rfl (Jm _) (O rfl (St.bsPub (T := Jb) (css := [[(.int .u32 ((c % 4294967296 : Nat) : Int))]]) (l := [c % 4294967296]) C9 sl24 Jh (by decide) (by decide) rfl (by kernel_rfl) ⟨⟨rfl, (Nat.mod_lt _ (by decide))⟩, trivial⟩ ?_))))))))))
 intro g89 w85 C86 s87 h88
 replace hP := hP.sp s87 C86 (fun _ h => h)
 refine O rfl (St.appendC (T := Jb) C86 sl24 Jh rfl rfl hP (V8 h88) (by simp only [List.length_append, List.length_cons, List.length_nil, maxLen]; omega) (by simp only [List.length_append, List.length_cons, List.length_nil]; omega) rfl ?_)
 intro v92 w93 x94 C95 s96 u97 h98
 obtain ⟨a99, c100, rfl, _, _⟩ := h98.len
 exact Oa (Nl (W.ret (Jf rfl (resV.t rfl) (Ret.intro (RS.eqv (h98.toRS C95 hX) ((Jh4 hs hp (by omega) hc hv))) C95.below))))
set_option maxHeartbeats 8000000 in
theorem k7 {X : Nat → Prop} {w : World} (hX : ∀ b, X b → b < w.heap.size) {v0 : Value} {a : List Nat} (r0 : RS Jb X w v0 a) {v1 : Value} {b : List Nat} (r1 : RS Jb X w v1 b) (hla : a.length ≤ 549755813888) (hlb : b.length ≤ a.length) (hle : val b ≤ val a) : Calls Tryz.prog 219 #[v0, v1] w (Ret w fun v w' => RS Jb X w' v (Jr a.length (val a - val b))) := by
 obtain ⟨a1, c2, rfl, _, _⟩ := r0.len
 obtain ⟨a3, c4, rfl, _, _⟩ := r1.len
 have C := Cx.start hX
 have sa := r0.u32_small
 have sb := r1.u32_small
 refine Calls.ofW (args := [(.slice a1 a.length c2), (.slice a3 b.length c4)]) Tryz.func219 rfl rfl (Nat.le_of_ble_eq_true rfl) (Rg (Oa (Nl (Rg (Oa (Nl (Rg (Oa (Nl (Rh (Oa (Nl (W.block (W.loopN (fun μ f v => ∃ (x y : Nat → Prop) (i : Nat) (p : List Nat) (c : Nat) (pa : Option Addr) (pc : Nat), Cx X w x y v ∧ f 0 = (.slice a1 a.length c2) ∧ f 1 = (.slice a3 b.length c4) ∧ f 4 = (.slice none 0 0) ∧ f 7 = (.int .i64 ((i : Nat) : Int)) ∧ f 6 = (.int .u64 ((c : Nat) : Int)) ∧ f 5 = (.slice pa p.length pc) ∧ RS Jb x v (.slice a1 a.length c2) a ∧ RS Jb x v (.slice a3 b.length c4) b ∧ OS Jb 118 w x y v (.slice pa p.length pc) p ∧ i ≤ a.length ∧ p.length = i ∧ Jo p ∧ c ≤ 1 ∧ val p + val (b.take i) = val (a.take i) + 4294967296 ^ i * c ∧ μ = (a.length - i)) _ ⟨_, _, 0, [], 0, none, 0, C, rfl, rfl, rfl, rfl, rfl, rfl, r0, r1, OS.nil, (Nat.zero_le _), rfl, J6, (by omega), (by simp [val]), rfl⟩ ?_))))))))))))))
 rintro m17 f5 w6 ⟨x7, y8, i, p, c, pa, pc, C9, e10, e11, e12, e13, e14, e15, r0, r1, hP, hi, hp, hs, hc, hv, hmu16⟩
 obtain ⟨f18, rfl⟩ := rebK (aC e10 (aC e11 (aC e12 (aC e13 (aC e14 (aC e15 aN))))))
 clear e10 e11 e12 e13 e14 e15
 have hai := Jg sa i
 have hbi := Jg sb i
 refine Rh (Om (Om (O rfl (St.len sl24 rfl (O rfl (St.lss2 rfl rfl (fun hc19 => ?_) (fun hc19 => ?_)))))))
 ·refine Nl (W.condT rfl (W.skip (W.seq (W.block (Rg (Om (Oa (Nl (Rh (Om (Om (O rfl (St.len sl24 rfl (O rfl (St.lss2 rfl rfl (fun hc20 => ?_) (fun hc20 => ?_))))))))))))))))
  ·refine Nl (W.condT rfl (W.region (Om (Om (Om (O rfl (St.idx (j := i) (u := (b.getD i 0)) r1 sl24 Jh rfl rfl rfl (Jl (by omega)) ?_)))))))
   intro b21 o22 cs23 e24
   obtain ⟨rfl, bd25⟩ : cs23 = _ ∧ _ := e24.rd
   refine O rfl (St.load1 J9 rfl (e24.cell 0 _ rfl) (O rfl (St.conv (z := (((b.getD i 0) : Nat) : Int)) Zt Zw rfl (IntWalk.u64_in _ (by omega)) (O rfl (St.add rfl rfl (J4 (a := c) (b := (b.getD i 0)) (by omega)) (Oa (Nl (Rg (Oa (Nl (Rg (Om (Om (O rfl (St.idx (j := i) (u := (a.getD i 0)) r0 sl24 Jh rfl rfl rfl (Jl (by omega)) ?_)))))))))))))))
   intro b26 o27 cs28 e29
   obtain ⟨rfl, bd30⟩ : cs28 = _ ∧ _ := e29.rd
   refine O rfl (St.load1 J9 rfl (e29.cell 0 _ rfl) (O rfl (St.conv (z := (((a.getD i 0) : Nat) : Int)) Zt Zw rfl (IntWalk.u64_in _ (by omega)) (Oa (Nl (Rh (Om (Om (O rfl (St.lss2 rfl rfl (fun hc31 => ?_) (fun hc31 => ?_)))))))))))
   ·refine Nl (W.condT rfl (Rg (Om (O rfl (St.add rfl rfl (J4 (a := (a.getD i 0)) (b := 4294967296) (by omega)) (Oa (Nl (W.region (Oa (Nl (W.region (Om (Om (Om (O rfl (St.sub rfl rfl (Yx (a := (a.getD i 0) + 4294967296) (b := c + (b.getD i 0)) (by omega) (by omega)) ?_))))))))))))))))
    refine O rfl (St.conv (z := (((((a.getD i 0) + 4294967296) - (c + (b.getD i 0))) % 4294967296 : Nat) : Int)) Yj Yh rfl (Jm _) (O rfl (St.bsPub (T := Jb) (css := [[(.int .u32 (((((a.getD i 0) + 4294967296) - (c + (b.getD i 0))) % 4294967296 : Nat) : Int))]]) (l := [(((a.getD i 0) + 4294967296) - (c + (b.getD i 0))) % 4294967296]) C9 sl24 Jh (by decide) (by decide) rfl (by kernel_rfl) ⟨⟨rfl, (Nat.mod_lt _ (by decide))⟩, trivial⟩ ?_)))
    intro g36 w32 C33 s34 h35
    replace hP := hP.sp s34 C33 (fun _ h => h)
    refine O rfl (St.appendC (T := Jb) C33 sl24 Jh rfl rfl hP (V8 h35) (by simp only [List.length_append, List.length_cons, List.length_nil, maxLen]; omega) (by simp only [List.length_append, List.length_cons, List.length_nil]; omega) rfl ?_)
    intro v39 w40 x41 C42 s43 u44 h45
    replace r0 := (r0.sp s34).tr s43.tx
    replace r1 := (r1.sp s34).tr s43.tx
    obtain ⟨a46, c47, rfl, _, _⟩ := h45.len
    refine Oa (Nl (W.region (Om (O rfl (St.add rfl rfl (Je (a := i) (b := 1) (by omega)) (Oa (Nl (⟨_, (by omega), _, _, (i + 1), (p ++ [(((a.getD i 0) + 4294967296) - (c + (b.getD i 0))) % 4294967296]), 1, a46, c47, C42, rfl, rfl, rfl, rfl, rfl, rfl, r0, r1, h45, (by omega), (by rw [List.length_append, hp]; rfl), (Jw hs (Nat.mod_lt _ (by decide))), (by decide), (Xt (s := c + (b.getD i 0)) (d := (((a.getD i 0) + 4294967296) - (c + (b.getD i 0))) % 4294967296) hp hv (by first | rfl | (have h7 := Y2 (l := b) (i := i) (by omega); omega)) (by omega)), rfl⟩))))))))
   refine Nl (W.condF rfl (W.skip (W.region (Om (Om (Om (O rfl (St.sub rfl rfl (Yx (a := (a.getD i 0)) (b := c + (b.getD i 0)) (by omega) (by omega)) (O rfl (St.conv (z := ((((a.getD i 0) - (c + (b.getD i 0))) % 4294967296 : Nat) : Int)) Yj Yh rfl (Jm _) (O rfl (St.bsPub (T := Jb) (css := [[(.int .u32 ((((a.getD i 0) - (c + (b.getD i 0))) % 4294967296 : Nat) : Int))]]) (l := [((a.getD i 0) - (c + (b.getD i 0))) % 4294967296]) C9 sl24 Jh (by decide) (by decide) rfl (by kernel_rfl) ⟨⟨rfl, (Nat.mod_lt _ (by decide))⟩, trivial⟩ ?_))))))))))))
   intro g52 w48 C49 s50 h51
   replace hP := hP.sp s50 C49 (fun _ h => h)
   refine O rfl (St.appendC (T := Jb) C49 sl24 Jh rfl rfl hP (V8 h51) (by simp only [List.length_append, List.length_cons, List.length_nil, maxLen]; omega) (by simp only [List.length_append, List.length_cons, List.length_nil]; omega) rfl ?_)
   intro v55 w56 x57 C58 s59 u60 h61
   replace r0 := (r0.sp s50).tr s59.tx
   replace r1 := (r1.sp s50).tr s59.tx
   obtain ⟨a62, c63, rfl, _, _⟩ := h61.len
   refine Oa (Nl (W.region (Om (O rfl (St.add rfl rfl (Je (a := i) (b := 1) (by omega)) (Oa (Nl (⟨_, (by omega), _, _, (i + 1), (p ++ [((a.getD i 0) - (c + (b.getD i 0))) % 4294967296]), 0, a62, c63, C58, rfl, rfl, rfl, rfl, rfl, rfl, r0, r1, h61, (by omega), (by rw [List.length_append, hp]; rfl), (Jw hs (Nat.mod_lt _ (by decide))), (by decide), (Xt (s := c + (b.getD i 0)) (d := ((a.getD i 0) - (c + (b.getD i 0))) % 4294967296) hp hv (by first | rfl | (have h7 := Y2 (l := b) (i := i) (by omega); omega)) (by omega)), rfl⟩))))))))
  refine Nl (W.condF rfl (W.skip (Rg (Oa (Nl (Rg (Om (Om (O rfl (St.idx (j := i) (u := (a.getD i 0)) r0 sl24 Jh rfl rfl rfl (Jl (by omega)) ?_))))))))))
  intro b64 o65 cs66 e67
  obtain ⟨rfl, bd68⟩ : cs66 = _ ∧ _ := e67.rd
  refine O rfl (St.load1 J9 rfl (e67.cell 0 _ rfl) (O rfl (St.conv (z := (((a.getD i 0) : Nat) : Int)) Zt Zw rfl (IntWalk.u64_in _ (by omega)) (Oa (Nl (Rh (Om (Om (O rfl (St.lss2 rfl rfl (fun hc69 => ?_) (fun hc69 => ?_)))))))))))
  ·refine Nl (W.condT rfl (Rg (Om (O rfl (St.add rfl rfl (J4 (a := (a.getD i 0)) (b := 4294967296) (by omega)) (Oa (Nl (W.region (Oa (Nl (W.region (Om (Om (Om (O rfl (St.sub rfl rfl (Yx (a := (a.getD i 0) + 4294967296) (b := c) (by omega) (by omega)) ?_))))))))))))))))
   refine O rfl (St.conv (z := (((((a.getD i 0) + 4294967296) - c) % 4294967296 : Nat) : Int)) Yj Yh rfl (Jm _) (O rfl (St.bsPub (T := Jb) (css := [[(.int .u32 (((((a.getD i 0) + 4294967296) - c) % 4294967296 : Nat) : Int))]]) (l := [(((a.getD i 0) + 4294967296) - c) % 4294967296]) C9 sl24 Jh (by decide) (by decide) rfl (by kernel_rfl) ⟨⟨rfl, (Nat.mod_lt _ (by decide))⟩, trivial⟩ ?_)))
   intro g74 w70 C71 s72 h73
   replace hP := hP.sp s72 C71 (fun _ h => h)
   refine O rfl (St.appendC (T := Jb) C71 sl24 Jh rfl rfl hP (V8 h73) (by simp only [List.length_append, List.length_cons, List.length_nil, maxLen]; omega) (by simp only [List.length_append, List.length_cons, List.length_nil]; omega) rfl ?_)
   intro v77 w78 x79 C80 s81 u82 h83
   replace r0 := (r0.sp s72).tr s81.tx
   replace r1 := (r1.sp s72).tr s81.tx
   obtain ⟨a84, c85, rfl, _, _⟩ := h83.len
   refine Oa (Nl (W.region (Om (O rfl (St.add rfl rfl (Je (a := i) (b := 1) (by omega)) (Oa (Nl (⟨_, (by omega), _, _, (i + 1), (p ++ [(((a.getD i 0) + 4294967296) - c) % 4294967296]), 1, a84, c85, C80, rfl, rfl, rfl, rfl, rfl, rfl, r0, r1, h83, (by omega), (by rw [List.length_append, hp]; rfl), (Jw hs (Nat.mod_lt _ (by decide))), (by decide), (Xt (s := c) (d := (((a.getD i 0) + 4294967296) - c) % 4294967296) hp hv (by first | rfl | (have h7 := Y2 (l := b) (i := i) (by omega); omega)) (by omega)), rfl⟩))))))))
  refine Nl (W.condF rfl (W.skip (W.region (Om (Om (Om (O rfl (St.sub rfl rfl (Yx (a := (a.getD i 0)) (b := c) (by omega) (by omega)) (O rfl (St.conv (z := ((((a.getD i 0) - c) % 4294967296 : Nat) : Int)) Yj Yh rfl (Jm _) (O rfl (St.bsPub (T := Jb) (css := [[(.int .u32 ((((a.getD i 0) - c) % 4294967296 : Nat) : Int))]]) (l := [((a.getD i 0) - c) % 4294967296]) C9 sl24 Jh (by decide) (by decide) rfl (by kernel_rfl) ⟨⟨rfl, (Nat.mod_lt _ (by decide))⟩, trivial⟩ ?_))))))))))))
  intro g90 w86 C87 s88 h89
  replace hP := hP.sp s88 C87 (fun _ h => h)
  refine O rfl (St.appendC (T := Jb) C87 sl24 Jh rfl rfl hP (V8 h89) (by simp only [List.length_append, List.length_cons, List.length_nil, maxLen]; omega) (by simp only [List.length_append, List.length_cons, List.length_nil]; omega) rfl ?_)
  intro v93 w94 x95 C96 s97 u98 h99
  replace r0 := (r0.sp s88).tr s97.tx
  replace r1 := (r1.sp s88).tr s97.tx
  obtain ⟨a100, c101, rfl, _, _⟩ := h99.len
  refine Oa (Nl (W.region (Om (O rfl (St.add rfl rfl (Je (a := i) (b := 1) (by omega)) (Oa (Nl (⟨_, (by omega), _, _, (i + 1), (p ++ [((a.getD i 0) - c) % 4294967296]), 0, a100, c101, C96, rfl, rfl, rfl, rfl, rfl, rfl, r0, r1, h99, (by omega), (by rw [List.length_append, hp]; rfl), (Jw hs (Nat.mod_lt _ (by decide))), (by decide), (Xt (s := c) (d := ((a.getD i 0) - c) % 4294967296) hp hv (by first | rfl | (have h7 := Y2 (l := b) (i := i) (by omega); omega)) (by omega)), rfl⟩))))))))
 exact Nl (W.condF rfl (W.exit (Rg (Om (Oa (Nl (W.ret (Jf rfl (resV.t rfl) (Ret.intro (RS.eqv (hP.toRS C9 hX) ((Je8 hs hp (by omega) hlb hle hv))) C9.below)))))))))
end Go.Wf
namespace Go.Wf
open Go Go.Proofs Go.RowKit
set_option maxRecDepth 100000
set_option linter.unusedVariables false
set_option linter.unusedSimpArgs false
set_option maxHeartbeats 1000000 in
theorem Jun {X : Nat → Prop} {w : World} (hX : ∀ b, X b → b < w.heap.size) {v0 : Value} {a : GInt} (r0 : RV Jv X w v0 a) {v1 : Value} {b : GInt} (r1 : RV Jv X w v1 b) (hla : a.mag.length ≤ 549755813888) (hlb : b.mag.length ≤ 549755813888) : Calls Tryz.prog 174 #[v0, v1] w (Ret w fun v w' => RV Jv X w' v (ofZ (a.toZ + b.toZ))) := by
 obtain ⟨a1, c2, rfl, h3⟩ := RV.int r0
 obtain ⟨a4, c5, rfl, h6⟩ := RV.int r1
 have C := Cx.start hX
 have sa := r0.int_small
 have sb := r1.int_small
 have hN := J1 sa
 have hD := J1 sb
 refine Calls.ofW (args := [(.agg #[(.bool a.neg), (.slice a1 a.mag.length c2)]), (.agg #[(.bool b.neg), (.slice a4 b.mag.length c5)])]) Tryz.func174 rfl rfl (Nat.le_of_ble_eq_true rfl) (Rg (O rfl (St.boxC C rfl ?_)))
 intro g7 w8 x9 y10 lt11 C12 s13 o14
 refine O rfl (St.boxC C12 rfl ?_)
 intro g15 w16 x17 y18 lt19 C20 s21 o22
 replace h3 := (h3.sp s13).sp s21
 replace h6 := (h6.sp s13).sp s21
 refine O rfl (St.allocC C20 io26 rfl ?_)
 intro g24 w25 x26 y27 lt28 C29 s30 o31
 replace o14 := (o14.spn s21).spn s30
 replace o22 := o22.spn s30
 refine Nl (W.seq (W.drawS Zc 6 [[], [0], [], [2], [], []] ((x26, y27), Jgz) (RL X w) [fx (.agg #[(.bool a.neg), (.slice a1 a.mag.length c2)]), fun (s : GhL) (v : Value) (w' : World) => RV Jv s.1.1 w' v (ofZ a.toZ), fx (.agg #[(.bool b.neg), (.slice a4 b.mag.length c5)]), fun (s : GhL) (v : Value) (w' : World) => RV Jv s.1.1 w' v (ofZ b.toZ), fun (s : GhL) (v : Value) (w' : World) => ∃ g' : Nat, v = .pointer (some ⟨g', 0, none⟩) ∧ Own w s.1.2 w' g' [(.bool false), (.slice none 0 0)] 26 ∧ w25.heap.size ≤ g' ∧ s.2 g' = some 4, fun (s : GhL) (v : Value) (w' : World) => ∃ g' : Nat, v = .pointer (some ⟨g', 0, none⟩) ∧ Own w s.1.2 w' g' [(.bool false), (.slice none 0 0)] 26 ∧ w25.heap.size ≤ g' ∧ s.2 g' = some 5] (by kernel_rfl) (RL.draw C29) RL.trans ⟨sx, (fun _ _ _ _ _ h r => RV.tr h r.rc.sp.tx), sx, (fun _ _ _ _ _ h r => RV.tr h r.rc.sp.tx), (fun _ _ _ _ _ ⟨g, e, o, l, q⟩ r => ⟨g, e, o.spn r.rc.sp, l, r.ext _ _ q⟩), (fun _ _ _ _ _ ⟨g, e, o, l, q⟩ r => ⟨g, e, o.spn r.rc.sp, l, r.ext _ _ q⟩), trivial⟩ fun f74 s75 w76 r77 k78 => ?_))
 have C79 := r77.rc.cx
 have S80 := r77.rc.sp
 have lt81 := o14.blk.lt
 have lt82 := o22.blk.lt
 have lt83 := o31.blk.lt
 have hszS80 := S80.tx.size
 replace h3 := (h3.sp s30).sp S80
 replace h6 := (h6.sp s30).sp S80
 replace o14 := o14.spn S80
 replace o22 := o22.spn S80
 replace o31 := o31.spn S80
 have k78 : Keep [7, 8, 9, 10, 5, 6] _ f74 := k78
 refine ⟨⟨fun _ => ?_, fun ⟨e84, _⟩ => ?_, fun _ => ?_, fun ⟨e85, _⟩ => ?_, fun _ => ?_, fun _ => ?_, trivial⟩, fun ⟨e86, d87, e88, d89, d90, d91, _⟩ => ?_⟩
 ·exact Ja k78 aN fun _ => OpSt.op (St.loadOA (vs := [(.bool a.neg), (.slice a1 a.mag.length c2)]) o14 ag26 rfl rfl rfl ⟨s75, RL.same C79, rfl⟩)
 ·refine Ja k78 (aC e84 aN) fun _ => OpSt.op (St.callR C79 qw rfl rfl (Q7 C79.bd (a := a) (Jj h3) (by omega)) ?_)
  intro v92 w93 C94 s95 h96
  exact ⟨s75, RL.step ⟨C94, s95⟩, h96⟩
 ·exact Ja k78 aN fun _ => OpSt.op (St.loadOA (vs := [(.bool b.neg), (.slice a4 b.mag.length c5)]) o22 ag26 rfl rfl rfl ⟨s75, RL.same C79, rfl⟩)
 ·refine Ja k78 (aC e85 aN) fun _ => OpSt.op (St.callR C79 qw rfl rfl (Q7 C79.bd (a := b) (Jj h6) (by omega)) ?_)
  intro v97 w98 C99 s100 h101
  exact ⟨s75, RL.step ⟨C99, s100⟩, h101⟩
 ·refine Ja k78 aN fun _ => OpSt.op (St.allocC C79 io26 rfl ?_)
  intro g102 w103 x104 y105 lt106 C107 s108 o109
  exact ⟨((x104, y105), lab s75.2 g102 4), RL.new (r77.bd fun _ _ h => by cases h) ⟨C107, s108⟩ (Nat.le_of_not_lt fun hh => lt106 _ hh rfl) o109.blk.lt, g102, rfl, o109, Nat.le_of_not_lt fun hh => lt106 _ (Nat.lt_of_lt_of_le hh hszS80) rfl, Ql _ _ _⟩
 ·refine Ja k78 aN fun _ => OpSt.op (St.allocC C79 io26 rfl ?_)
  intro g113 w114 x115 y116 lt117 C118 s119 o120
  exact ⟨((x115, y116), lab s75.2 g113 5), RL.new (r77.bd fun _ _ h => by cases h) ⟨C118, s119⟩ (Nat.le_of_not_lt fun hh => lt117 _ hh rfl) o120.blk.lt, g113, rfl, o120, Nat.le_of_not_lt fun hh => lt117 _ (Nat.lt_of_lt_of_le hh hszS80) rfl, Ql _ _ _⟩
 obtain ⟨a125, c126, e124, h127⟩ := RV.int d87
 obtain ⟨a129, c130, e128, h131⟩ := RV.int d89
 obtain ⟨g133, e132, o134, l135, q136⟩ := d90
 have n137 : g7 ≠ g133 := Nat.ne_of_lt (Nat.lt_of_lt_of_le lt81 l135)
 have n138 : g15 ≠ g133 := Nat.ne_of_lt (Nat.lt_of_lt_of_le lt82 l135)
 have n139 : g24 ≠ g133 := Nat.ne_of_lt (Nat.lt_of_lt_of_le lt83 l135)
 obtain ⟨g142, e141, o143, l144, q145⟩ := d91
 have n146 : g7 ≠ g142 := Nat.ne_of_lt (Nat.lt_of_lt_of_le lt81 l144)
 have n147 : g15 ≠ g142 := Nat.ne_of_lt (Nat.lt_of_lt_of_le lt82 l144)
 have n148 : g24 ≠ g142 := Nat.ne_of_lt (Nat.lt_of_lt_of_le lt83 l144)
 have n149 : g133 ≠ g142 := Jfi q136 q145 rfl
 obtain ⟨f151, rfl⟩ := mixK k78 (aC e86 (aC e124 (aC e88 (aC e128 (aC e132 (aC e141 aN))))))
 refine On (St.storeC (cs' := [(.bool (ofZ a.toZ).neg), (.slice a125 (ofZ a.toZ).mag.length c126)]) C79 o134 io26 rfl rfl rfl rfl rfl rfl ?_)
 intro w152 C153 s154 o155
 replace o143 := o143.spo s154 (Ne.symm n149)
 refine On (St.storeC (cs' := [(.bool (ofZ b.toZ).neg), (.slice a129 (ofZ b.toZ).mag.length c130)]) C153 o143 io26 rfl rfl rfl rfl rfl rfl ?_)
 intro w156 C157 s158 o159
 replace h127 := (h127.sp s154).sp s158
 replace h131 := (h131.sp s154).sp s158
 replace o31 := (o31.spo s154 n139).spo s158 n148
 replace o155 := o155.spo s158 n149
 refine Nl (Rh (O rfl (St.fieldAddr Zg rfl (O rfl (St.loadO1 o155 pl4 rfl rfl (O rfl (St.fieldAddr Zg rfl (O rfl (St.loadO1 o159 pl4 rfl rfl (O rfl (St.bool (St.eqlB un4 rfl rfl rfl ⟨_, rfl, fun hb160 => ?_, fun hb160 => ?_⟩))))))))))))
 ·refine Nl (W.condT rfl (W.seq (W.drawC Zc 7 [[], [0], [], [2], [], [4], [3, 5]] C157 [fx (.pointer (some ⟨g133, 0, none⟩)), fx (.bool (ofZ a.toZ).neg), fx (.pointer (some ⟨g133, 1, none⟩)), fx (.slice a125 (ofZ a.toZ).mag.length c126), fx (.pointer (some ⟨g142, 1, none⟩)), fx (.slice a129 (ofZ b.toZ).mag.length c130), fs Jb (Jr (max (ofZ a.toZ).mag.length (ofZ b.toZ).mag.length + 1) (val (ofZ a.toZ).mag + val (ofZ b.toZ).mag))] (by kernel_rfl) ⟨sx, sx, sx, sx, sx, sx, ss, trivial⟩ fun f169 s170 w171 ⟨C174, S175⟩ k173 => ?_)))
  replace h127 := h127.sp S175
  replace h131 := h131.sp S175
  replace o155 := o155.spn S175
  replace o159 := o159.spn S175
  have k173 : Keep [16, 17, 18, 19, 20, 21, 22] _ f169 := k173
  refine ⟨⟨fun _ => ?_, fun ⟨e181, _⟩ => ?_, fun _ => ?_, fun ⟨e182, _⟩ => ?_, fun _ => ?_, fun ⟨e183, _⟩ => ?_, fun ⟨e184, e185, _⟩ => ?_, trivial⟩, fun ⟨e186, e187, e188, e189, e190, e191, d192, _⟩ => ?_⟩
  ·exact Ja k173 aN fun _ => OpSt.op (St.fieldAddr Zg rfl ⟨s170, RC.same C174, rfl⟩)
  ·exact Ja k173 (aC e181 aN) fun _ => OpSt.op (St.loadO1 o155 pl4 rfl rfl ⟨s170, RC.same C174, rfl⟩)
  ·exact Ja k173 aN fun _ => OpSt.op (St.fieldAddr J3 rfl ⟨s170, RC.same C174, rfl⟩)
  ·exact Ja k173 (aC e182 aN) fun _ => OpSt.op (St.loadO1 o155 pl24 rfl rfl ⟨s170, RC.same C174, rfl⟩)
  ·exact Ja k173 aN fun _ => OpSt.op (St.fieldAddr J3 rfl ⟨s170, RC.same C174, rfl⟩)
  ·exact Ja k173 (aC e183 aN) fun _ => OpSt.op (St.loadO1 o159 pl24 rfl rfl ⟨s170, RC.same C174, rfl⟩)
  ·refine Ja k173 (aC e184 (aC e185 aN)) fun _ => OpSt.op (St.callR C174 Jvx rfl rfl (Jno C174.bd h127 h131 (by omega) (by omega)) ?_)
   intro v193 w194 C195 s196 h197
   exact ⟨s170, ⟨C195, s196⟩, h197⟩
  obtain ⟨a199, c200, e198, d192⟩ := RS.opn d192
  obtain ⟨f201, rfl⟩ := mixK k173 (aC e186 (aC e187 (aC e188 (aC e189 (aC e190 (aC e191 (aC e198 aN)))))))
  refine O rfl (St.callR C174 ja rfl rfl (Yu C174.bd d192 (by rw [Ji]; omega)) ?_)
  intro v202 w203 C204 s205 h206
  replace o31 := (o31.spn S175).spn s205
  obtain ⟨a207, c208, rfl, h209⟩ := RV.int h206
  refine On (St.storeC (cs' := [(.bool (ofZ (Jk (ofZ a.toZ).neg (val (Jr (max (ofZ a.toZ).mag.length (ofZ b.toZ).mag.length + 1) (val (ofZ a.toZ).mag + val (ofZ b.toZ).mag))))).neg), (.slice a207 (ofZ (Jk (ofZ a.toZ).neg (val (Jr (max (ofZ a.toZ).mag.length (ofZ b.toZ).mag.length + 1) (val (ofZ a.toZ).mag + val (ofZ b.toZ).mag))))).mag.length c208)]) C204 o31 io26 rfl rfl rfl rfl rfl rfl ?_)
  intro w210 C211 s212 o213
  replace h209 := h209.sp s212
  refine Nl (W.ret (Jf rfl (resV.c o213 rfl ag26 rfl) (Ret.intro ?_ C211.below)))
  exact RV.eqv (a := (ofZ (Jk (ofZ a.toZ).neg (val (Jr (max (ofZ a.toZ).mag.length (ofZ b.toZ).mag.length + 1) (val (ofZ a.toZ).mag + val (ofZ b.toZ).mag)))))) ((Jj h209).tr (Tr.weak C211.base)) (congrArg ofZ (by rw [J8 _ _ (Jan (Y8 _) (Y8 _)), Jkx (by simpa using hb160), Jp, Jp]))
 refine Nl (W.condF rfl (W.skip (Rh (O rfl (St.fieldAddr J3 rfl (O rfl (St.loadO1 o155 pl24 rfl rfl (O rfl (St.fieldAddr J3 rfl (O rfl (St.loadO1 o159 pl24 rfl rfl (O rfl (St.bool (St.callR C157 Jsk rfl rfl (Jcy C157.bd h127 h131 (Qq _) (Qq _) (by omega) (by omega)) ?_))))))))))))))
 intro v214 w215 C216 s217 h218
 replace o31 := o31.spn s217
 refine ⟨_, h218, fun hb219 => ?_, fun hb219 => ?_⟩
 ·refine Nl (W.condT rfl (W.seq ?_))
  have hlt := of_decide_eq_true hb219
  have hll := Z4 (a := (ofZ b.toZ).mag) (b := (ofZ a.toZ).mag) (Qq _) (Y8 _) (by omega)
  refine W.drawC Zc 7 [[], [0], [], [2], [], [4], [3, 5]] C216 [fx (.pointer (some ⟨g142, 0, none⟩)), fx (.bool (ofZ b.toZ).neg), fx (.pointer (some ⟨g142, 1, none⟩)), fx (.slice a129 (ofZ b.toZ).mag.length c130), fx (.pointer (some ⟨g133, 1, none⟩)), fx (.slice a125 (ofZ a.toZ).mag.length c126), fs Jb (Jr (ofZ b.toZ).mag.length (val (ofZ b.toZ).mag - val (ofZ a.toZ).mag))] (by kernel_rfl) ⟨sx, sx, sx, sx, sx, sx, ss, trivial⟩ fun f228 s229 w230 ⟨C233, S234⟩ k232 => ?_
  replace h127 := (h127.sp s217).sp S234
  replace h131 := (h131.sp s217).sp S234
  replace o155 := (o155.spn s217).spn S234
  replace o159 := (o159.spn s217).spn S234
  have k232 : Keep [29, 30, 31, 32, 33, 34, 35] _ f228 := k232
  refine ⟨⟨fun _ => ?_, fun ⟨e240, _⟩ => ?_, fun _ => ?_, fun ⟨e241, _⟩ => ?_, fun _ => ?_, fun ⟨e242, _⟩ => ?_, fun ⟨e243, e244, _⟩ => ?_, trivial⟩, fun ⟨e245, e246, e247, e248, e249, e250, d251, _⟩ => ?_⟩
  ·exact Ja k232 aN fun _ => OpSt.op (St.fieldAddr Zg rfl ⟨s229, RC.same C233, rfl⟩)
  ·exact Ja k232 (aC e240 aN) fun _ => OpSt.op (St.loadO1 o159 pl4 rfl rfl ⟨s229, RC.same C233, rfl⟩)
  ·exact Ja k232 aN fun _ => OpSt.op (St.fieldAddr J3 rfl ⟨s229, RC.same C233, rfl⟩)
  ·exact Ja k232 (aC e241 aN) fun _ => OpSt.op (St.loadO1 o159 pl24 rfl rfl ⟨s229, RC.same C233, rfl⟩)
  ·exact Ja k232 aN fun _ => OpSt.op (St.fieldAddr J3 rfl ⟨s229, RC.same C233, rfl⟩)
  ·exact Ja k232 (aC e242 aN) fun _ => OpSt.op (St.loadO1 o155 pl24 rfl rfl ⟨s229, RC.same C233, rfl⟩)
  ·refine Ja k232 (aC e243 (aC e244 aN)) fun _ => OpSt.op (St.callR C233 Jm6 rfl rfl (k7 C233.bd h131 h127 (by omega) hll (by omega)) ?_)
   intro v252 w253 C254 s255 h256
   exact ⟨s229, ⟨C254, s255⟩, h256⟩
  obtain ⟨a258, c259, e257, d251⟩ := RS.opn d251
  obtain ⟨f260, rfl⟩ := mixK k232 (aC e245 (aC e246 (aC e247 (aC e248 (aC e249 (aC e250 (aC e257 aN)))))))
  refine O rfl (St.callR C233 ja rfl rfl (Yu C233.bd d251 (by rw [Ji]; omega)) ?_)
  intro v261 w262 C263 s264 h265
  replace o31 := (o31.spn S234).spn s264
  obtain ⟨a266, c267, rfl, h268⟩ := RV.int h265
  refine On (St.storeC (cs' := [(.bool (ofZ (Jk (ofZ b.toZ).neg (val (Jr (ofZ b.toZ).mag.length (val (ofZ b.toZ).mag - val (ofZ a.toZ).mag))))).neg), (.slice a266 (ofZ (Jk (ofZ b.toZ).neg (val (Jr (ofZ b.toZ).mag.length (val (ofZ b.toZ).mag - val (ofZ a.toZ).mag))))).mag.length c267)]) C263 o31 io26 rfl rfl rfl rfl rfl rfl ?_)
  intro w269 C270 s271 o272
  replace h268 := h268.sp s271
  refine Nl (W.ret (Jf rfl (resV.c o272 rfl ag26 rfl) (Ret.intro ?_ C270.below)))
  exact RV.eqv (a := (ofZ (Jk (ofZ b.toZ).neg (val (Jr (ofZ b.toZ).mag.length (val (ofZ b.toZ).mag - val (ofZ a.toZ).mag)))))) ((Jj h268).tr (Tr.weak C270.base)) (congrArg ofZ (by rw [J8 _ _ (Nat.lt_of_le_of_lt (Nat.sub_le _ _) (Ze _ (Y8 _))), Jsm (by simpa using hb160) (by omega), Jp, Jp]))
 refine Nl (W.condF rfl (W.skip (W.seq ?_)))
 have hlt := of_decide_eq_false hb219
 have hll := Z4 (a := (ofZ a.toZ).mag) (b := (ofZ b.toZ).mag) (Qq _) (Y8 _) (by omega)
 refine W.drawC Zc 7 [[], [0], [], [2], [], [4], [3, 5]] C216 [fx (.pointer (some ⟨g133, 0, none⟩)), fx (.bool (ofZ a.toZ).neg), fx (.pointer (some ⟨g133, 1, none⟩)), fx (.slice a125 (ofZ a.toZ).mag.length c126), fx (.pointer (some ⟨g142, 1, none⟩)), fx (.slice a129 (ofZ b.toZ).mag.length c130), fs Jb (Jr (ofZ a.toZ).mag.length (val (ofZ a.toZ).mag - val (ofZ b.toZ).mag))] (by kernel_rfl) ⟨sx, sx, sx, sx, sx, sx, ss, trivial⟩ fun f281 s282 w283 ⟨C286, S287⟩ k285 => ?_
 replace h127 := (h127.sp s217).sp S287
 replace h131 := (h131.sp s217).sp S287
 replace o155 := (o155.spn s217).spn S287
 replace o159 := (o159.spn s217).spn S287
 have k285 : Keep [37, 38, 39, 40, 41, 42, 43] _ f281 := k285
 refine ⟨⟨fun _ => ?_, fun ⟨e293, _⟩ => ?_, fun _ => ?_, fun ⟨e294, _⟩ => ?_, fun _ => ?_, fun ⟨e295, _⟩ => ?_, fun ⟨e296, e297, _⟩ => ?_, trivial⟩, fun ⟨e298, e299, e300, e301, e302, e303, d304, _⟩ => ?_⟩
 ·exact Ja k285 aN fun _ => OpSt.op (St.fieldAddr Zg rfl ⟨s282, RC.same C286, rfl⟩)
 ·exact Ja k285 (aC e293 aN) fun _ => OpSt.op (St.loadO1 o155 pl4 rfl rfl ⟨s282, RC.same C286, rfl⟩)
 ·exact Ja k285 aN fun _ => OpSt.op (St.fieldAddr J3 rfl ⟨s282, RC.same C286, rfl⟩)
 ·exact Ja k285 (aC e294 aN) fun _ => OpSt.op (St.loadO1 o155 pl24 rfl rfl ⟨s282, RC.same C286, rfl⟩)
 ·exact Ja k285 aN fun _ => OpSt.op (St.fieldAddr J3 rfl ⟨s282, RC.same C286, rfl⟩)
 ·exact Ja k285 (aC e295 aN) fun _ => OpSt.op (St.loadO1 o159 pl24 rfl rfl ⟨s282, RC.same C286, rfl⟩)
 ·refine Ja k285 (aC e296 (aC e297 aN)) fun _ => OpSt.op (St.callR C286 Jm6 rfl rfl (k7 C286.bd h127 h131 (by omega) hll (by omega)) ?_)
  intro v305 w306 C307 s308 h309
  exact ⟨s282, ⟨C307, s308⟩, h309⟩
 obtain ⟨a311, c312, e310, d304⟩ := RS.opn d304
 obtain ⟨f313, rfl⟩ := mixK k285 (aC e298 (aC e299 (aC e300 (aC e301 (aC e302 (aC e303 (aC e310 aN)))))))
 refine O rfl (St.callR C286 ja rfl rfl (Yu C286.bd d304 (by rw [Ji]; omega)) ?_)
 intro v314 w315 C316 s317 h318
 replace o31 := (o31.spn S287).spn s317
 obtain ⟨a319, c320, rfl, h321⟩ := RV.int h318
 refine On (St.storeC (cs' := [(.bool (ofZ (Jk (ofZ a.toZ).neg (val (Jr (ofZ a.toZ).mag.length (val (ofZ a.toZ).mag - val (ofZ b.toZ).mag))))).neg), (.slice a319 (ofZ (Jk (ofZ a.toZ).neg (val (Jr (ofZ a.toZ).mag.length (val (ofZ a.toZ).mag - val (ofZ b.toZ).mag))))).mag.length c320)]) C316 o31 io26 rfl rfl rfl rfl rfl rfl ?_)
 intro w322 C323 s324 o325
 replace h321 := h321.sp s324
 refine Nl (W.ret (Jf rfl (resV.c o325 rfl ag26 rfl) (Ret.intro ?_ C323.below)))
 exact RV.eqv (a := (ofZ (Jk (ofZ a.toZ).neg (val (Jr (ofZ a.toZ).mag.length (val (ofZ a.toZ).mag - val (ofZ b.toZ).mag)))))) ((Jj h321).tr (Tr.weak C323.base)) (congrArg ofZ (by rw [J8 _ _ (Nat.lt_of_le_of_lt (Nat.sub_le _ _) (Ze _ (Y8 _))), Jq3 (by simpa using hb160) (by omega), Jp, Jp]))
set_option maxHeartbeats 1000000 in
theorem x_sub {X : Nat → Prop} {w : World} (hX : ∀ b, X b → b < w.heap.size) {v0 : Value} {a : GInt} (r0 : RV Jv X w v0 a) {v1 : Value} {b : GInt} (r1 : RV Jv X w v1 b) (hla : a.mag.length ≤ 549755813888) (hlb : b.mag.length ≤ 549755813888) : Calls Tryz.prog 217 #[v0, v1] w (Ret w fun v w' => RV Jv X w' v (ofZ (a.toZ - b.toZ))) := by
 obtain ⟨a1, c2, rfl, h3⟩ := RV.int r0
 obtain ⟨a4, c5, rfl, h6⟩ := RV.int r1
 have C := Cx.start hX
 have sa := r0.int_small
 have sb := r1.int_small
 have hD := J1 sb
 refine Calls.ofW (args := [(.agg #[(.bool a.neg), (.slice a1 a.mag.length c2)]), (.agg #[(.bool b.neg), (.slice a4 b.mag.length c5)])]) Tryz.func217 rfl rfl (Nat.le_of_ble_eq_true rfl) (Rg (O rfl (St.boxC C rfl ?_)))
 intro g7 w8 x9 y10 lt11 C12 s13 o14
 refine O rfl (St.boxC C12 rfl ?_)
 intro g15 w16 x17 y18 lt19 C20 s21 o22
 replace h3 := (h3.sp s13).sp s21
 replace h6 := (h6.sp s13).sp s21
 replace o14 := o14.spn s21
 refine O rfl (St.allocC C20 io26 rfl ?_)
 intro g24 w25 x26 y27 lt28 C29 s30 o31
 refine Nl (W.seq (W.drawC Zc 3 [[], [], [1]] C29 [fx (.agg #[(.bool a.neg), (.slice a1 a.mag.length c2)]), fx (.agg #[(.bool b.neg), (.slice a4 b.mag.length c5)]), fr Jv (ofZ (-b.toZ))] (by kernel_rfl) ⟨sx, sx, sr, trivial⟩ fun f43 s44 w45 ⟨C48, S49⟩ k47 => ?_))
 replace h3 := (h3.sp s30).sp S49
 replace h6 := (h6.sp s30).sp S49
 replace o14 := (o14.spn s30).spn S49
 replace o22 := (o22.spn s30).spn S49
 have k47 : Keep [5, 6, 7] _ f43 := k47
 refine ⟨⟨fun _ => ?_, fun _ => ?_, fun ⟨e53, _⟩ => ?_, trivial⟩, fun ⟨e54, e55, d56, _⟩ => ?_⟩
 ·exact Ja k47 aN fun _ => OpSt.op (St.loadOA (vs := [(.bool a.neg), (.slice a1 a.mag.length c2)]) o14 ag26 rfl rfl rfl ⟨s44, RC.same C48, rfl⟩)
 ·exact Ja k47 aN fun _ => OpSt.op (St.loadOA (vs := [(.bool b.neg), (.slice a4 b.mag.length c5)]) o22 ag26 rfl rfl rfl ⟨s44, RC.same C48, rfl⟩)
 ·refine Ja k47 (aC e53 aN) fun _ => OpSt.op (St.callR C48 Jq8 rfl rfl (Jqt C48.bd (a := b) (Jj h6) (by omega)) ?_)
  intro v57 w58 C59 s60 h61
  exact ⟨s44, ⟨C59, s60⟩, h61⟩
 obtain ⟨a63, c64, e62, h65⟩ := RV.int d56
 obtain ⟨f66, rfl⟩ := mixK k47 (aC e54 (aC e55 (aC e62 aN)))
 refine O rfl (St.callR C48 Jte rfl rfl (Jun C48.bd (a := a) (Jj h3) (b := (ofZ (-b.toZ))) (Jj h65) (by omega) (by rw [Zq]; omega)) ?_)
 intro v67 w68 C69 s70 h71
 replace o31 := (o31.spn S49).spn s70
 simp only [Jp, Yv] at h71
 obtain ⟨a72, c73, rfl, h74⟩ := RV.int h71
 refine On (St.storeC (cs' := [(.bool (ofZ (a.toZ + (-b.toZ))).neg), (.slice a72 (ofZ (a.toZ + (-b.toZ))).mag.length c73)]) C69 o31 io26 rfl rfl rfl rfl rfl rfl ?_)
 intro w75 C76 s77 o78
 replace h74 := h74.sp s77
 refine Nl (W.ret (Jf rfl (resV.c o78 rfl ag26 rfl) (Ret.intro ?_ C76.below)))
 exact RV.eqv (a := (ofZ (a.toZ + (-b.toZ)))) ((Jj h74).tr (Tr.weak C76.base)) ((by rw [Int.sub_eq_add_neg]))
set_option maxHeartbeats 8000000 in
theorem Jr6 {X : Nat → Prop} {w : World} (hX : ∀ b, X b → b < w.heap.size) {v0 : Value} {a : GInt} (r0 : RV Jv X w v0 a) {v1 : Value} {b : GInt} (r1 : RV Jv X w v1 b) (hla : a.mag.length ≤ 549755813888) (hlb : b.mag.length ≤ 549755813888) : Calls Tryz.prog 175 #[v0, v1] w (Ret w fun v w' => RV Jv X w' v (ofZ (a.toZ * b.toZ))) := by
 obtain ⟨a1, c2, rfl, h3⟩ := RV.int r0
 obtain ⟨a4, c5, rfl, h6⟩ := RV.int r1
 have C := Cx.start hX
 have sa := r0.int_small
 have sb := r1.int_small
 refine Calls.ofW (args := [(.agg #[(.bool a.neg), (.slice a1 a.mag.length c2)]), (.agg #[(.bool b.neg), (.slice a4 b.mag.length c5)])]) Tryz.func175 rfl rfl (Nat.le_of_ble_eq_true rfl) (Rg (O rfl (St.boxC C rfl ?_)))
 intro g7 w8 x9 y10 lt11 C12 s13 o14
 refine O rfl (St.boxC C12 rfl ?_)
 intro g15 w16 x17 y18 lt19 C20 s21 o22
 replace h3 := (h3.sp s13).sp s21
 replace h6 := (h6.sp s13).sp s21
 replace o14 := o14.spn s21
 refine O rfl (St.allocC C20 io26 rfl ?_)
 intro g24 w25 x26 y27 lt28 C29 s30 o31
 refine Nl (W.seq (W.drawC Zc 5 [[], [0], [1], [], [3]] C29 [fx (.pointer (some ⟨g7, 1, none⟩)), fx (.slice a1 a.mag.length c2), fs Jb (trim a.mag), fx (.pointer (some ⟨g15, 1, none⟩)), fx (.slice a4 b.mag.length c5)] (by kernel_rfl) ⟨sx, sx, ss, sx, sx, trivial⟩ fun f42 s43 w44 ⟨C47, S48⟩ k46 => ?_))
 replace h3 := (h3.sp s30).sp S48
 replace h6 := (h6.sp s30).sp S48
 replace o14 := (o14.spn s30).spn S48
 replace o22 := (o22.spn s30).spn S48
 have k46 : Keep [12, 13, 14, 15, 16] _ f42 := k46
 refine ⟨⟨fun _ => ?_, fun ⟨e52, _⟩ => ?_, fun ⟨e53, _⟩ => ?_, fun _ => ?_, fun ⟨e54, _⟩ => ?_, trivial⟩, fun ⟨e55, e56, d57, e58, e59, _⟩ => ?_⟩
 ·exact Ja k46 aN fun _ => OpSt.op (St.fieldAddr J3 rfl ⟨s43, RC.same C47, rfl⟩)
 ·exact Ja k46 (aC e52 aN) fun _ => OpSt.op (St.loadO1 o14 pl24 rfl rfl ⟨s43, RC.same C47, rfl⟩)
 ·refine Ja k46 (aC e53 aN) fun _ => OpSt.op (St.callR C47 Jb0 rfl rfl (j6 C47.bd h3 (by omega)) ?_)
  intro v60 w61 C62 s63 h64
  exact ⟨s43, ⟨C62, s63⟩, h64⟩
 ·exact Ja k46 aN fun _ => OpSt.op (St.fieldAddr J3 rfl ⟨s43, RC.same C47, rfl⟩)
 ·exact Ja k46 (aC e54 aN) fun _ => OpSt.op (St.loadO1 o22 pl24 rfl rfl ⟨s43, RC.same C47, rfl⟩)
 obtain ⟨a66, c67, e65, d57⟩ := RS.opn d57
 obtain ⟨f68, rfl⟩ := mixK k46 (aC e55 (aC e56 (aC e65 (aC e58 (aC e59 aN)))))
 refine O rfl (St.callR C47 Jb0 rfl rfl (j6 C47.bd h6 (by omega)) ?_)
 intro v69 w70 C71 s72 h73
 replace o14 := o14.spn s72
 replace o22 := o22.spn s72
 replace o31 := (o31.spn S48).spn s72
 obtain ⟨a74, c75, rfl, _, _⟩ := h73.len
 refine Oa (Oa (Nl (W.seq ?_)))
 have tsa := J5 sa
 have tsb := J5 sb
 have tva := Z6 a.mag
 have tvb := Z6 b.mag
 have tla := Ju a.mag
 have tlb := Ju b.mag
 generalize trim a.mag = A at *
 generalize trim b.mag = B at *
 refine W.region (Om (O rfl (St.len sl24 rfl (Om (O rfl (St.len sl24 rfl (O rfl (St.add rfl rfl (Je (a := A.length) (b := B.length) (by omega)) (O rfl (St.makeRow (n := (A.length + B.length)) C71 sl24 rfl rfl rfl (by omega) Jh (by decide) ?_))))))))))
 intro g76 w77 x78 y79 lt80 C81 s82 o83
 have n84 := lt80 _ o14.blk.lt
 have n85 := lt80 _ o22.blk.lt
 have n86 := lt80 _ o31.blk.lt
 replace h3 := (h3.sp s72).sp s82
 replace h6 := (h6.sp s72).sp s82
 replace d57 := (d57.sp s72).sp s82
 replace h73 := h73.sp s82
 replace o14 := o14.spn s82
 replace o22 := o22.spn s82
 replace o31 := o31.spn s82
 refine Oa (Nl (Rh (Oa (Nl (W.block (W.loopN (fun μ f v => ∃ (x y : Nat → Prop) (i : Nat) (L : List Nat), Cx X w x y v ∧ f 2 = (.pointer (some ⟨g7, 0, none⟩)) ∧ f 3 = (.pointer (some ⟨g15, 0, none⟩)) ∧ f 4 = (.pointer (some ⟨g24, 0, none⟩)) ∧ f 5 = (.slice a66 A.length c67) ∧ f 6 = (.slice a74 B.length c75) ∧ f 7 = (.slice (some ⟨g76, 0, none⟩) (A.length + B.length) (A.length + B.length)) ∧ f 8 = (.int .i64 ((i : Nat) : Int)) ∧ RS Jb x v (.slice a1 a.mag.length c2) a.mag ∧ RS Jb x v (.slice a4 b.mag.length c5) b.mag ∧ RS Jb x v (.slice a66 A.length c67) A ∧ RS Jb x v (.slice a74 B.length c75) B ∧ Own w y v g7 [(.bool a.neg), (.slice a1 a.mag.length c2)] 26 ∧ Own w y v g15 [(.bool b.neg), (.slice a4 b.mag.length c5)] 26 ∧ Own w y v g24 [(.bool false), (.slice none 0 0)] 26 ∧ Own w y v g76 (L.map u32v) 118 ∧ i ≤ A.length ∧ L.length = A.length + B.length ∧ Jo L ∧ (∀ k, L.getD (i + B.length + k) 0 = 0 ∨ L.length ≤ i + B.length + k) ∧ val L = val (A.take i) * val B ∧ μ = (A.length - i)) _ ⟨_, _, 0, (List.replicate (A.length + B.length) 0), C81, rfl, rfl, rfl, rfl, rfl, rfl, rfl, h3, h6, d57, h73, o14, o22, o31, o83, (Nat.zero_le _), (List.length_replicate ..), (Kc _), (fun k => .inl (by simp [List.getD_eq_getElem?_getD, List.getElem?_replicate]; split <;> rfl)), (by rw [vb]; simp [val]), rfl⟩ ?_))))))
 rintro m104 f87 w88 ⟨x89, y90, i, L, C91, e92, e93, e94, e95, e96, e97, e98, h3, h6, d57, h73, o99, o100, o101, o102, hi, hL, hs, hz, hv, hmu103⟩
 obtain ⟨f105, rfl⟩ := rebK (aC e92 (aC e93 (aC e94 (aC e95 (aC e96 (aC e97 (aC e98 aN)))))))
 clear e92 e93 e94 e95 e96 e97 e98
 refine Rh (Om (Om (O rfl (St.len sl24 rfl (O rfl (St.lss2 rfl rfl (fun hc106 => ?_) (fun hc106 => ?_)))))))
 ·refine Nl (W.condT rfl (W.skip (W.seq (W.block (Rg (Oa (Nl (Rh (Oa (Nl (W.block (W.loopN (fun μ f v => ∃ (x y : Nat → Prop) (j : Nat) (L2 : List Nat) (c : Nat), Cx X w x y v ∧ f 2 = (.pointer (some ⟨g7, 0, none⟩)) ∧ f 3 = (.pointer (some ⟨g15, 0, none⟩)) ∧ f 4 = (.pointer (some ⟨g24, 0, none⟩)) ∧ f 5 = (.slice a66 A.length c67) ∧ f 6 = (.slice a74 B.length c75) ∧ f 7 = (.slice (some ⟨g76, 0, none⟩) (A.length + B.length) (A.length + B.length)) ∧ f 8 = (.int .i64 ((i : Nat) : Int)) ∧ f 24 = (.int .i64 ((i : Nat) : Int)) ∧ f 25 = (.slice a66 A.length c67) ∧ f 26 = (.int .i64 ((A.length : Nat) : Int)) ∧ f 27 = (.bool true) ∧ f 10 = (.int .i64 ((j : Nat) : Int)) ∧ f 9 = (.int .u64 ((c : Nat) : Int)) ∧ RS Jb x v (.slice a1 a.mag.length c2) a.mag ∧ RS Jb x v (.slice a4 b.mag.length c5) b.mag ∧ RS Jb x v (.slice a66 A.length c67) A ∧ RS Jb x v (.slice a74 B.length c75) B ∧ Own w y v g7 [(.bool a.neg), (.slice a1 a.mag.length c2)] 26 ∧ Own w y v g15 [(.bool b.neg), (.slice a4 b.mag.length c5)] 26 ∧ Own w y v g24 [(.bool false), (.slice none 0 0)] 26 ∧ Own w y v g76 (L2.map u32v) 118 ∧ j ≤ B.length ∧ L2.length = A.length + B.length ∧ Jo L2 ∧ c < 4294967296 ∧ (∀ k, L2.getD (i + B.length + k) 0 = 0 ∨ L2.length ≤ i + B.length + k) ∧ val L2 + 4294967296 ^ (i + j) * c = val (A.take i) * val B + 4294967296 ^ i * (A.getD i 0 * val (B.take j)) ∧ μ = (B.length - j)) _ ⟨_, _, 0, L, 0, C91, rfl, rfl, rfl, rfl, rfl, rfl, rfl, rfl, rfl, rfl, rfl, rfl, rfl, h3, h6, d57, h73, o99, o100, o101, o102, (Nat.zero_le _), hL, hs, (by omega), hz, (by rw [hv]; simp [val]), rfl⟩ ?_))))))))))))
  rintro m130 f107 w108 ⟨x109, y110, j, L2, c, C111, e112, e113, e114, e115, e116, e117, e118, e119, e120, e121, e122, e123, e124, h3, h6, d57, h73, o125, o126, o127, o128, hj, hL2, hs2, hc, hz2, hv2, hmu129⟩
  obtain ⟨f131, rfl⟩ := rebK (aC e112 (aC e113 (aC e114 (aC e115 (aC e116 (aC e117 (aC e118 (aC e119 (aC e120 (aC e121 (aC e122 (aC e123 (aC e124 aN)))))))))))))
  clear e112 e113 e114 e115 e116 e117 e118 e119 e120 e121 e122 e123 e124
  have hxi := Jg tsa i
  have hyj := Jg tsb j
  have hm := Jio hxi hyj
  have hl2 := Jg hs2 (i + j)
  refine Rh (Om (Om (O rfl (St.len sl24 rfl (O rfl (St.lss2 rfl rfl (fun hc132 => ?_) (fun hc132 => ?_)))))))
  ·refine Nl (W.condT rfl (W.skip (W.seq (W.block (W.seq (W.drawC Zc 20 [[], [], [0, 1], [2], [3], [], [], [5, 6], [7], [8], [4, 9], [], [], [], [12, 13], [11, 14], [15], [16], [10, 17], []] C111 [fx (.slice a66 A.length c67), fx (.int .i64 ((i : Nat) : Int)), fE Jb (A.getD i 0), fx (.int .u32 (((A.getD i 0) : Nat) : Int)), fx (.int .u64 (((A.getD i 0) : Nat) : Int)), fx (.slice a74 B.length c75), fx (.int .i64 ((j : Nat) : Int)), fE Jb (B.getD j 0), fx (.int .u32 (((B.getD j 0) : Nat) : Int)), fx (.int .u64 (((B.getD j 0) : Nat) : Int)), fx (.int .u64 (((A.getD i 0) * (B.getD j 0) : Nat) : Int)), fx (.slice (some ⟨g76, 0, none⟩) (A.length + B.length) (A.length + B.length)), fx (.int .i64 ((i : Nat) : Int)), fx (.int .i64 ((j : Nat) : Int)), fx (.int .i64 ((i + j : Nat) : Int)), fx (.pointer (some ⟨g76, i + j, none⟩)), fx (.int .u32 (((L2.getD (i + j) 0) : Nat) : Int)), fx (.int .u64 (((L2.getD (i + j) 0) : Nat) : Int)), fx (.int .u64 ((((A.getD i 0) * (B.getD j 0)) + (L2.getD (i + j) 0) : Nat) : Int)), fx (.int .u64 ((c : Nat) : Int))] (by kernel_rfl) ⟨sx, sx, sE, sx, sx, sx, sx, sE, sx, sx, sx, sx, sx, sx, sx, sx, sx, sx, sx, sx, trivial⟩ fun f144 s145 w146 ⟨C149, S150⟩ k148 => ?_))))))
   replace d57 := d57.sp S150
   replace h73 := h73.sp S150
   replace o128 := o128.spn S150
   have k148 : Keep [36, 37, 38, 39, 40, 41, 42, 43, 44, 45, 46, 47, 48, 49, 50, 51, 52, 53, 54, 55] _ f144 := k148
   refine ⟨⟨fun _ => ?_, fun _ => ?_, fun ⟨e155, e156, _⟩ => ?_, fun ⟨d157, _⟩ => ?_, fun ⟨e158, _⟩ => ?_, fun _ => ?_, fun _ => ?_, fun ⟨e159, e160, _⟩ => ?_, fun ⟨d161, _⟩ => ?_, fun ⟨e162, _⟩ => ?_, fun ⟨e163, e164, _⟩ => ?_, fun _ => ?_, fun _ => ?_, fun _ => ?_, fun ⟨e165, e166, _⟩ => ?_, fun ⟨e167, e168, _⟩ => ?_, fun ⟨e169, _⟩ => ?_, fun ⟨e170, _⟩ => ?_, fun ⟨e171, e172, _⟩ => ?_, fun _ => ?_, trivial⟩, fun ⟨e173, e174, d175, e176, e177, e178, e179, d180, e181, e182, e183, e184, e185, e186, e187, e188, e189, e190, e191, e192, _⟩ => ?_⟩
   ·exact Ja k148 aN fun _ => OpSt.op (St.move ⟨s145, RC.same C149, rfl⟩)
   ·exact Ja k148 aN fun _ => OpSt.op (St.move ⟨s145, RC.same C149, rfl⟩)
   ·refine Ja k148 (aC e155 (aC e156 aN)) fun _ => OpSt.op (St.idx (j := i) (u := (A.getD i 0)) d57 sl24 Jh rfl rfl rfl (Jl (by omega)) ?_)
    intro b193 o194 cs195 e196
    obtain ⟨rfl, bd197⟩ : cs195 = _ ∧ _ := e196.rd
    exact ⟨s145, RC.same C149, ⟨_, _, _, rfl, e196⟩⟩
   ·obtain ⟨b199, o200, cs201, e198, e202⟩ := d157
    obtain ⟨rfl, bd203⟩ : cs201 = _ ∧ _ := e202.rd
    exact Ja k148 (aC e198 aN) fun _ => OpSt.op (St.load1 J9 rfl (e202.cell 0 _ rfl) ⟨s145, RC.same C149, rfl⟩)
   ·exact Ja k148 (aC e158 aN) fun _ => OpSt.op (St.conv (z := (((A.getD i 0) : Nat) : Int)) Zt Zw rfl (IntWalk.u64_in _ (by omega)) ⟨s145, RC.same C149, rfl⟩)
   ·exact Ja k148 aN fun _ => OpSt.op (St.move ⟨s145, RC.same C149, rfl⟩)
   ·exact Ja k148 aN fun _ => OpSt.op (St.move ⟨s145, RC.same C149, rfl⟩)
   ·refine Ja k148 (aC e159 (aC e160 aN)) fun _ => OpSt.op (St.idx (j := j) (u := (B.getD j 0)) h73 sl24 Jh rfl rfl rfl (Jl (by omega)) ?_)
    intro b204 o205 cs206 e207
    obtain ⟨rfl, bd208⟩ : cs206 = _ ∧ _ := e207.rd
    exact ⟨s145, RC.same C149, ⟨_, _, _, rfl, e207⟩⟩
   ·obtain ⟨b210, o211, cs212, e209, e213⟩ := d161
    obtain ⟨rfl, bd214⟩ : cs212 = _ ∧ _ := e213.rd
    exact Ja k148 (aC e209 aN) fun _ => OpSt.op (St.load1 J9 rfl (e213.cell 0 _ rfl) ⟨s145, RC.same C149, rfl⟩)
   ·exact Ja k148 (aC e162 aN) fun _ => OpSt.op (St.conv (z := (((B.getD j 0) : Nat) : Int)) Zt Zw rfl (IntWalk.u64_in _ (by omega)) ⟨s145, RC.same C149, rfl⟩)
   ·exact Ja k148 (aC e163 (aC e164 aN)) fun _ => OpSt.op (St.mul rfl rfl (K6 (a := (A.getD i 0)) (b := (B.getD j 0)) (by omega)) ⟨s145, RC.same C149, rfl⟩)
   ·exact Ja k148 aN fun _ => OpSt.op (St.move ⟨s145, RC.same C149, rfl⟩)
   ·exact Ja k148 aN fun _ => OpSt.op (St.move ⟨s145, RC.same C149, rfl⟩)
   ·exact Ja k148 aN fun _ => OpSt.op (St.move ⟨s145, RC.same C149, rfl⟩)
   ·exact Ja k148 (aC e165 (aC e166 aN)) fun _ => OpSt.op (St.add rfl rfl (Je (a := i) (b := j) (by omega)) ⟨s145, RC.same C149, rfl⟩)
   ·exact Ja k148 (aC e167 (aC e168 aN)) fun _ => OpSt.op (St.idxRow (j := i + j) sl24 Jh rfl rfl rfl (by omega) ⟨s145, RC.same C149, rfl⟩)
   ·exact Ja k148 (aC e169 aN) fun _ => OpSt.op (St.loadRow (j := i + j) (u := (L2.getD (i + j) 0)) o128 J9 rfl (Jl (by omega)) ⟨s145, RC.same C149, rfl⟩)
   ·exact Ja k148 (aC e170 aN) fun _ => OpSt.op (St.conv (z := (((L2.getD (i + j) 0) : Nat) : Int)) Zt Zw rfl (IntWalk.u64_in _ (by omega)) ⟨s145, RC.same C149, rfl⟩)
   ·exact Ja k148 (aC e171 (aC e172 aN)) fun _ => OpSt.op (St.add rfl rfl (J4 (a := (A.getD i 0) * (B.getD j 0)) (b := (L2.getD (i + j) 0)) (by omega)) ⟨s145, RC.same C149, rfl⟩)
   ·exact Ja k148 aN fun _ => OpSt.op (St.move ⟨s145, RC.same C149, rfl⟩)
   obtain ⟨b216, o217, cs218, e215, e219⟩ := d175
   obtain ⟨rfl, bd220⟩ : cs218 = _ ∧ _ := e219.rd
   obtain ⟨b222, o223, cs224, e221, e225⟩ := d180
   obtain ⟨rfl, bd226⟩ : cs224 = _ ∧ _ := e225.rd
   obtain ⟨f227, rfl⟩ := mixK k148 (aC e173 (aC e174 (aC e215 (aC e176 (aC e177 (aC e178 (aC e179 (aC e221 (aC e181 (aC e182 (aC e183 (aC e184 (aC e185 (aC e186 (aC e187 (aC e188 (aC e189 (aC e190 (aC e191 (aC e192 aN))))))))))))))))))))
   refine O rfl (St.add rfl rfl (J4 (a := ((A.getD i 0) * (B.getD j 0)) + (L2.getD (i + j) 0)) (b := c) (by omega)) (Oa (Nl (Rg (Om (Om (Om (O rfl (St.add rfl rfl (Je (a := i) (b := j) (by omega)) (Om (O rfl (St.conv (z := ((((((A.getD i 0) * (B.getD j 0)) + (L2.getD (i + j) 0)) + c) % 4294967296 : Nat) : Int)) Yj Yh rfl (Jm _) ?_))))))))))))
   refine O rfl (St.idxRow (j := i + j) sl24 Jh rfl rfl rfl (by omega) (On (St.storeRow (j := i + j) (u := ((((A.getD i 0) * (B.getD j 0)) + (L2.getD (i + j) 0)) + c) % 4294967296) C149 o128 Jh rfl rfl (by omega) ?_)))
   intro w228 C229 s230 o231
   replace h3 := (h3.sp S150).sp s230
   replace h6 := (h6.sp S150).sp s230
   replace d57 := d57.sp s230
   replace h73 := h73.sp s230
   replace o125 := (o125.spn S150).spo s230 n84
   replace o126 := (o126.spn S150).spo s230 n85
   replace o127 := (o127.spn S150).spo s230 n86
   refine Nl (W.region (Om (O rfl (St.shr rfl rfl (by decide) (Yi (d := 4294967296) _ (by decide)) (Oa (Nl (W.region (Om (O rfl (St.add rfl rfl (Je (a := j) (b := 1) (by omega)) (Oa (Nl (⟨_, (by omega), _, _, (j + 1), (L2.set (i + j) (((((A.getD i 0) * (B.getD j 0)) + (L2.getD (i + j) 0)) + c) % 4294967296)), ((((A.getD i 0) * (B.getD j 0)) + (L2.getD (i + j) 0)) + c) / 4294967296, C229, rfl, rfl, rfl, rfl, rfl, rfl, rfl, rfl, rfl, rfl, rfl, rfl, rfl, h3, h6, d57, h73, o125, o126, o127, o231, (by omega), (by rw [List.length_set]; exact hL2), (Qh hs2 (Nat.mod_lt _ (by omega)) _), (by omega), (Jek (by omega) hz2), (ks (by omega) hv2 (Jn B j)), rfl⟩)))))))))))))
  refine Nl (W.condF rfl (W.exit (W.region (Om (Om (Om (O rfl (St.len sl24 rfl (O rfl (St.add rfl rfl (Je (a := i) (b := B.length) (by omega)) (Om (O rfl (St.conv (z := ((c : Nat) : Int)) Yj Yh rfl (IntWalk.u32_in _ (by omega)) (O rfl (St.idxRow (j := i + B.length) sl24 Jh rfl rfl rfl (by omega) ?_)))))))))))))))
  refine On (St.storeRow (j := i + B.length) (u := c) C111 o128 Jh rfl rfl (by omega) ?_)
  intro w232 C233 s234 o235
  replace h3 := h3.sp s234
  replace h6 := h6.sp s234
  replace d57 := d57.sp s234
  replace h73 := h73.sp s234
  replace o125 := o125.spo s234 n84
  replace o126 := o126.spo s234 n85
  replace o127 := o127.spo s234 n86
  refine Nl (W.region (Om (O rfl (St.add rfl rfl (Je (a := i) (b := 1) (by omega)) (Oa (Nl (⟨_, (by omega), _, _, (i + 1), (L2.set (i + B.length) c), C233, rfl, rfl, rfl, rfl, rfl, rfl, rfl, h3, h6, d57, h73, o125, o126, o127, o235, (by omega), (by rw [List.length_set]; exact hL2), (Qh hs2 (by omega) _), (Jjv hz2 ), (by rw [Jn]; exact Jcr (by omega) (Je3 hz2 (by omega)) (by rw [show i + B.length = i + j by omega, hv2, List.take_of_length_le (show B.length ≤ j by omega)])), rfl⟩)))))))
 refine Nl (W.condF rfl (W.exit (W.seq ?_)))
 have h236 := o102.frRS (x := x89) (n := (A.length + B.length)) (c := (A.length + B.length)) (by omega) (Nat.le_refl _) (by omega) hs
 rw [List.take_of_length_le (by omega)] at h236
 have C237 := C91.freeze hX o102 id
 replace o99 := o99.frz n84
 replace o100 := o100.frz n85
 refine W.region (O rfl (St.fieldAddr Zg rfl (O rfl (St.loadO1 o99 pl4 rfl rfl (O rfl (St.fieldAddr Zg rfl (O rfl (St.loadO1 o100 pl4 rfl rfl (O rfl (St.neqB un4 rfl rfl rfl (Om (O rfl (St.callR C237 ja rfl rfl (Yu C237.bd h236 (by omega)) ?_)))))))))))))
 intro v238 w239 C240 s241 h242
 replace o101 := (o101.frz n86).spn s241
 obtain ⟨a243, c244, rfl, h245⟩ := RV.int h242
 refine On (St.storeC (cs' := [(.bool (ofZ (Jk (a.neg != b.neg) (val L))).neg), (.slice a243 (ofZ (Jk (a.neg != b.neg) (val L))).mag.length c244)]) C240 o101 io26 rfl rfl rfl rfl rfl rfl ?_)
 intro w246 C247 s248 o249
 replace h245 := h245.sp s248
 refine Nl (W.ret (Jf rfl (resV.c o249 rfl ag26 rfl) (Ret.intro ?_ C247.below)))
 exact RV.eqv (a := (ofZ (Jk (a.neg != b.neg) (val L)))) ((Jj h245).tr (Tr.weak C247.base)) (congrArg ofZ (by rw [hv, List.take_of_length_le (show A.length ≤ i by omega), tva, tvb]; exact Jco a b))
end Go.Wf
namespace Go.Wf
set_option linter.unusedVariables false
set_option linter.unusedSimpArgs false
open Go
theorem Jbk {x : Nat} (h : 0 < x) : blen x = blen (x / 2) + 1 := by
 rcases Nat.eq_zero_or_pos (x / 2) with e | e
 ·have : x = 1 := by omega
  subst this; rfl
 ·refine zy h ?_ ?_
  ·have := Qg (x / 2)
   rw [Nat.pow_succ]; omega
  ·have := z4 e
   have hp := V0 e
   rw [Nat.pow_succ]
   have e2 : 2 ^ blen (x / 2) = 2 ^ (blen (x / 2) - 1) * 2 := by rw [← Nat.pow_succ]; congr 1; omega
   omega
theorem Jel {d : List Nat} (hd : trim d = d) (sd : Jo d) (hne : d.length ≠ 0) : blen (val d) = 32 * (d.length - 1) + blen (d.getD (d.length - 1) 0) := by
 have hne' : d ≠ [] := fun e => hne (by rw [e]; rfl)
 have ht := Jd9 hd sd hne'
 have h2 := Jn d (d.length - 1)
 rw [show d.length - 1 + 1 = d.length by omega, List.take_length] at h2
 have h1 := Xv (k := d.length - 1) sd (by omega)
 have hb := Qg (d.getD (d.length - 1) 0)
 have hg := z4 ht
 have hp := V0 ht
 generalize d.getD (d.length - 1) 0 = t at *
 generalize val (d.take (d.length - 1)) = l at *
 have e : (4294967296 : Nat) ^ (d.length - 1) = 2 ^ (32 * (d.length - 1)) := by rw [Nat.pow_mul]
 rw [e] at h1 h2
 rw [h2]
 have hP := Nat.two_pow_pos (32 * (d.length - 1))
 generalize 32 * (d.length - 1) = k at *
 refine zy ?_ ?_ ?_
 ·have := Nat.mul_pos hP ht; omega
 ·rw [Nat.pow_add]
  have := Nat.mul_le_mul_left (2 ^ k) (show t + 1 ≤ 2 ^ blen t by omega)
  rw [Nat.mul_add] at this; omega
 ·rw [Nat.pow_add]
  have e2 : 2 ^ blen t = 2 ^ (blen t - 1) * 2 := by rw [← Nat.pow_succ]; congr 1; omega
  have := Nat.mul_le_mul_left (2 ^ k) hg
  rw [e2, ← Nat.mul_assoc]
  omega
theorem Jpw {m : List Nat} {j : Nat} (sm : Jo m) (hl : m.length ≤ 2) (hj : 0 < j) : val (m.drop j) < 4294967296 := by
 have h := Ze (m.drop j) (jf sm j)
 rw [List.length_drop] at h
 have : 4294967296 ^ (m.length - j) ≤ 4294967296 ^ 1 := Nat.pow_le_pow_right (by omega) (by omega)
 omega
theorem Jml {n : Nat} (h : n < 18446744073709551616) : trim [n % 4294967296, n / 4294967296 % 4294967296] = digs n := by
 refine jq (Zm (Nat.mod_lt _ (by decide)) (Zm (Nat.mod_lt _ (by decide)) J6)) ?_
 simp only [val]
 have : n / 4294967296 < 4294967296 := by omega
 rw [Nat.mod_eq_of_lt this]
 omega
theorem Jgw {a p : List Nat} {i c n x : Nat} (hp : p.length = n / 32 + i) (hv : val p + 4294967296 ^ p.length * c = val (a.take i) * 2 ^ n) (hx : x = a.getD i 0 * 2 ^ (n % 32) + c) :
  val (p ++ [x % 4294967296]) + 4294967296 ^ (p ++ [x % 4294967296]).length * (x / 4294967296) = val (a.take (i + 1)) * 2 ^ n := by
 rw [Zu, List.length_append, List.length_singleton, Jn, Nat.pow_succ, Nat.mul_assoc, Nat.add_assoc, ← Nat.mul_add, Nat.mod_add_div, hx, Nat.mul_add, Nat.add_mul, ← hv]
 have e : 4294967296 ^ p.length * (a.getD i 0 * 2 ^ (n % 32)) = 4294967296 ^ i * a.getD i 0 * 2 ^ n := by
  rw [hp]
  have e1 : (4294967296 : Nat) ^ (n / 32 + i) = 2 ^ (32 * (n / 32)) * 4294967296 ^ i := by rw [Nat.pow_add, Nat.pow_mul]
  have e2 : (2 : Nat) ^ n = 2 ^ (32 * (n / 32)) * 2 ^ (n % 32) := by rw [← Nat.pow_add]; congr 1; omega
  rw [e1, e2]
  generalize (2 : Nat) ^ (32 * (n / 32)) = u
  generalize (4294967296 : Nat) ^ i = v
  generalize (2 : Nat) ^ (n % 32) = z
  generalize a.getD i 0 = t
  rw [Nat.mul_assoc, Nat.mul_assoc, Nat.mul_left_comm t, Nat.mul_left_comm u]
 rw [e]; omega
theorem Jh3 {a p : List Nat} {i c n : Nat} (sp : Jo p) (hi : a.length ≤ i) (hc : c < 4294967296) (hv : val p + 4294967296 ^ p.length * c = val (a.take i) * 2 ^ n) : trim (p ++ [c % 4294967296]) = digs (val a * 2 ^ n) := by
 rw [Nat.mod_eq_of_lt hc]
 rw [List.take_of_length_le hi] at hv
 exact jq (Jw sp hc) (by rw [Zu, hv])
theorem Jjy {x s c : Nat} (hx : x < 4294967296) (hs : s < 32) (hc : c < 4294967296) : x * 2 ^ s + c < 18446744073709551616 ∧ (x * 2 ^ s + c) / 4294967296 < 4294967296 := by
 have h := Vm hs
 have h2 : x * 2 ^ s ≤ 4294967295 * 2147483648 := Nat.mul_le_mul (by omega) h
 omega
end Go.Wf
namespace Go.Wf
open Go Go.Proofs Go.RowKit
set_option maxRecDepth 100000
set_option linter.unusedVariables false
set_option linter.unusedSimpArgs false
set_option maxHeartbeats 1000000 in
theorem Jfm {X : Nat → Prop} {w : World} (hX : ∀ b, X b → b < w.heap.size) {v0 : Value} {a : GInt} (r0 : RV Jv X w v0 a) (hl : a.mag.length ≤ 1073741824) : Calls Tryz.prog 239 #[v0] w (Ret w fun v w' => v = (.int .i64 (((blen (val a.mag)) : Nat) : Int))) := by
 obtain ⟨a1, c2, rfl, h3⟩ := RV.int r0
 have C := Cx.start hX
 have sa := r0.int_small
 refine Calls.ofW (args := [(.agg #[(.bool a.neg), (.slice a1 a.mag.length c2)])]) Tryz.func239 rfl rfl (Nat.le_of_ble_eq_true rfl) (Rg (O rfl (St.boxC C rfl ?_)))
 intro g4 w5 x6 y7 lt8 C9 s10 o11
 replace h3 := h3.sp s10
 refine Oa (Nl (Rg (O rfl (St.fieldAddr J3 rfl (O rfl (St.loadO1 o11 pl24 rfl rfl (O rfl (St.callR C9 Jb0 rfl rfl (j6 C9.bd h3 (by omega)) ?_))))))))
 intro v12 w13 C14 s15 h16
 replace h3 := h3.sp s15
 replace o11 := o11.spn s15
 obtain ⟨a17, c18, rfl, _, _⟩ := h16.len
 refine Oa (Nl (W.seq (W.seq ?_)))
 have hds := J5 sa
 have hdt := K5 sa
 have hdv := Z6 a.mag
 have hdl := Ju a.mag
 generalize trim a.mag = d at *
 refine W.region (Om (O rfl (St.len sl24 rfl (O rfl (St.eql2 rfl rfl (fun hc19 => ?_) (fun hc19 => ?_))))))
 ·exact Nl (W.condT rfl (Rg (Oa (Nl (W.ret (Jf rfl (resV.t rfl) (Ret.intro (congrArg (Value.int _) ((by rw [← hdv, List.eq_nil_of_length_eq_zero (show d.length = 0 by omega)]; rfl))) C14.below)))))))
 refine Nl (W.condF rfl (W.skip (Rg (Om (O rfl (St.len sl24 rfl (O rfl (St.sub rfl rfl (Zz (a := d.length) (b := 1) (by omega) (by omega)) (O rfl (St.mul rfl rfl (yl (a := 32) (b := d.length - 1) (by omega)) (Oa (Nl (W.seq (W.seq ?_))))))))))))))
 have hbT : blen (val d) ≤ 34359738400 := by have h7 := Jel hdt hds (by omega); have h8 := vo (Jg hds (d.length - 1)); omega
 refine W.region (Om (Om (O rfl (St.len sl24 rfl (O rfl (St.sub rfl rfl (Zz (a := d.length) (b := 1) (by omega) (by omega)) (O rfl (St.idx (j := (d.length - 1)) (u := (d.getD (d.length - 1) 0)) h16 sl24 Jh rfl rfl rfl (Jl (by omega)) ?_))))))))
 intro b20 o21 cs22 e23
 obtain ⟨rfl, bd24⟩ : cs22 = _ ∧ _ := e23.rd
 refine O rfl (St.load1 J9 rfl (e23.cell 0 _ rfl) (Oa (Nl (W.block (W.loopN (fun μ f v => ∃ (x y : Nat → Prop) (xx : Nat) (k : Nat), Cx X w x y v ∧ f 2 = (.int .i64 0) ∧ f 5 = (.int .u32 ((xx : Nat) : Int)) ∧ f 4 = (.int .i64 ((k : Nat) : Int)) ∧ RS Jb x v (.slice a1 a.mag.length c2) a.mag ∧ Own w y v g4 [(.bool a.neg), (.slice a1 a.mag.length c2)] 26 ∧ xx < 4294967296 ∧ k + blen xx = blen (val d) ∧ k ≤ 35184372088832 * 2 ∧ μ = xx) _ ⟨_, _, (d.getD (d.length - 1) 0), (32 * (d.length - 1)), C14, rfl, rfl, rfl, h3, o11, (Jg hds _), (Jel hdt hds (by omega)).symm, (by omega), rfl⟩ ?_)))))
 rintro m35 f25 w26 ⟨x27, y28, xx, k, C29, e30, e31, e32, h3, o33, hx, hk, hkb, hmu34⟩
 obtain ⟨f36, rfl⟩ := rebK (aC e30 (aC e31 (aC e32 aN)))
 clear e30 e31 e32
 have hbl : blen xx ≤ 32 := vo hx
 refine Rh (Om (O rfl (St.gtr2 rfl rfl (fun hc37 => ?_) (fun hc37 => ?_))))
 ·refine Nl (W.condT rfl (W.skip (W.seq (W.block (W.region (Om (O rfl (St.add rfl rfl (Je (a := k) (b := 1) (by omega)) (Oa (Nl (W.region (Om (O rfl (St.quo rfl rfl (by decide) (Jdd (a := xx) (b := 2) (by omega)) (Oa (Nl (⟨_, (by omega), _, _, xx / 2, k + 1, C29, rfl, rfl, rfl, h3, o33, (by omega), (by have h7 := Jbk (x := xx) (by omega); omega), (by have h7 := Jbk (x := xx) (by omega); have h8 := hbT; omega), rfl⟩)))))))))))))))))
 exact Nl (W.condF rfl (W.exit (Rg (Om (Oa (Nl (W.ret (Jf rfl (resV.t rfl) (Ret.intro (congrArg (Value.int _) ((by rw [← hdv, ← hk, show xx = 0 by omega]; rfl))) C29.below)))))))))
set_option maxHeartbeats 1000000 in
theorem km {X : Nat → Prop} {w : World} (hX : ∀ b, X b → b < w.heap.size) {v0 : Value} {m : List Nat} (r0 : RS Jb X w v0 m) (hm : m.length ≤ 2) : Calls Tryz.prog 166 #[v0] w (Ret w fun v w' => v = (.int .u64 (((val m) : Nat) : Int))) := by
 obtain ⟨a1, c2, rfl, _, _⟩ := r0.len
 have C := Cx.start hX
 have sm := r0.u32_small
 refine Calls.ofW (args := [(.slice a1 m.length c2)]) Tryz.func166 rfl rfl (Nat.le_of_ble_eq_true rfl) (Rg (Oa (Nl (Rg (Oa (Nl (Rh (Om (O rfl (St.len sl24 rfl (O rfl (St.sub (z := (((m.length : Nat) : Int) - 1)) rfl rfl (IntWalk.i64_in _ (by omega)) (Oa ?_)))))))))))))
 refine Nl (W.block (W.loopN (fun μ f v => ∃ (x y : Nat → Prop) (j : Nat), Cx X w x y v ∧ f 0 = (.slice a1 m.length c2) ∧ f 2 = (.int .u64 0) ∧ f 4 = (.int .i64 ((j : Int) - 1)) ∧ f 3 = (.int .u64 ((val (m.drop j) : Nat) : Int)) ∧ RS Jb x v (.slice a1 m.length c2) m ∧ j ≤ m.length ∧ μ = j) _ ⟨_, _, m.length, C, rfl, rfl, rfl, (by rw [List.drop_of_length_le (Nat.le_refl _)]; rfl), r0, (Nat.le_refl _), rfl⟩ ?_))
 rintro m13 f3 w4 ⟨x5, y6, j, C7, e8, e9, e10, e11, r0, hj, hmu12⟩
 obtain ⟨f14, rfl⟩ := rebK (aC e8 (aC e9 (aC e10 (aC e11 aN))))
 clear e8 e9 e10 e11
 refine Rh (Om (O rfl (St.geq2 rfl rfl (fun hc15 => ?_) (fun hc15 => ?_))))
 ·refine Nl (W.condT rfl (W.skip (W.seq (W.block ?_))))
  have hwb := Jpw (j := j) sm hm (by omega)
  have hdj := Jg sm (j - 1)
  refine W.region (Om (O rfl (St.shl rfl rfl (by decide) (Vk (a := val (m.drop j)) (d := 4294967296) (by decide) (by omega)) (Om (Om (O rfl (St.idx (j := (j - 1)) (u := (m.getD (j - 1) 0)) r0 sl24 Jh rfl rfl (by omega) (Jl (by omega)) ?_)))))))
  intro b16 o17 cs18 e19
  obtain ⟨rfl, bd20⟩ : cs18 = _ ∧ _ := e19.rd
  refine O rfl (St.load1 J9 rfl (e19.cell 0 _ rfl) (O rfl (St.conv (z := (((m.getD (j - 1) 0) : Nat) : Int)) Zt Zw rfl (IntWalk.u64_in _ (by omega)) (O rfl (St.add rfl rfl (J4 (a := (val (m.drop j)) * 4294967296) (b := (m.getD (j - 1) 0)) (by omega)) (Oa (Nl (W.region (Om (O rfl (St.sub (z := (((j : Int) - 1) - 1)) rfl rfl (IntWalk.i64_in _ (by omega)) ?_)))))))))))
  refine Oa (Nl (⟨_, (by omega), _, _, (j - 1), C7, rfl, rfl, (congrArg (Value.int .i64) (by omega)), (congrArg (Value.int .u64) (by rw [Qy (by omega) hj]; omega)), r0, (by omega), rfl⟩))
 exact Nl (W.condF rfl (W.exit (Rg (Om (Oa (Nl (W.ret (Jf rfl (resV.t rfl) (Ret.intro (congrArg (Value.int _) ((by rw [show j = 0 by omega, List.drop_zero]))) C7.below)))))))))
set_option maxHeartbeats 1000000 in
theorem Jc9 {X : Nat → Prop} {w : World} (hX : ∀ b, X b → b < w.heap.size) {n : Nat} (hn : n < 18446744073709551616) : Calls Tryz.prog 168 #[(.int .u64 ((n : Nat) : Int))] w (Ret w fun v w' => RS Jb X w' v (digs n)) := by
 have C := Cx.start hX
 refine Calls.ofW (args := [(.int .u64 ((n : Nat) : Int))]) Tryz.func168 rfl rfl (Nat.le_of_ble_eq_true rfl) (Rg (Oa (Nl (Rg (Om (O rfl (St.conv (z := ((n % 4294967296 : Nat) : Int)) Yj Yh rfl (Jm _) (Om (O rfl (St.shr rfl rfl (by decide) (Yi (d := 4294967296) _ (by decide)) ?_))))))))))
 refine O rfl (St.conv (z := (((n / 4294967296) % 4294967296 : Nat) : Int)) Yj Yh rfl (Jm _) (O rfl (St.bsPub (T := Jb) (css := [[(.int .u32 ((n % 4294967296 : Nat) : Int))], [(.int .u32 (((n / 4294967296) % 4294967296 : Nat) : Int))]]) (l := [n % 4294967296, (n / 4294967296) % 4294967296]) C sl24 Jh (by decide) (by decide) rfl (by kernel_rfl) ⟨⟨rfl, (Nat.mod_lt _ (by decide))⟩, ⟨rfl, (Nat.mod_lt _ (by decide))⟩, trivial⟩ ?_)))
 intro g5 w1 C2 s3 h4
 refine O rfl (St.callR C2 Jb0 rfl rfl (j6 C2.bd h4 (by simp)) ?_)
 intro v8 w9 C10 s11 h12
 obtain ⟨a13, c14, rfl, _, _⟩ := h12.len
 exact Oa (Nl (W.ret (Jf rfl (resV.t rfl) (Ret.intro (RS.eqv ((h12 : RS _ _ _ _ _).tr (Tr.weak C10.base)) ((Jml hn))) C10.below))))
set_option maxHeartbeats 1000000 in
theorem Jbd {X : Nat → Prop} {w : World} (hX : ∀ b, X b → b < w.heap.size) {v0 : Value} {a : List Nat} (r0 : RS Jb X w v0 a) {n : Nat} (hla : a.length ≤ 1073741824) (hn : n ≤ 34359738400) : Calls Tryz.prog 240 #[v0, (.int .i64 ((n : Nat) : Int))] w (Ret w fun v w' => RS Jb X w' v (digs (val a * 2 ^ n))) := by
 obtain ⟨a1, c2, rfl, _, _⟩ := r0.len
 have C := Cx.start hX
 have sa := r0.u32_small
 refine Calls.ofW (args := [(.slice a1 a.length c2), (.int .i64 ((n : Nat) : Int))]) Tryz.func240 rfl rfl (Nat.le_of_ble_eq_true rfl) (Rg (Oa (Nl (Rg (Om (O rfl (St.quo rfl rfl (by decide) (Y3 (a := n) (b := 32) (by omega)) (O rfl (St.makeOS (n := (n / 32)) C sl24 rfl rfl rfl (by omega) Jh (by decide) ?_)))))))))
 intro g3 w4 x5 C6 s7 h8
 replace r0 := r0.sp s7
 refine Oa (Nl (Rg (Oa (Nl (Rh (Oa (Nl (W.block (W.loopN (fun μ f v => ∃ (x y : Nat → Prop) (i : Nat) (p : List Nat) (c : Nat) (pa : Option Addr) (pc : Nat), Cx X w x y v ∧ f 0 = (.slice a1 a.length c2) ∧ f 1 = (.int .i64 ((n : Nat) : Int)) ∧ f 4 = (.slice none 0 0) ∧ f 7 = (.int .i64 ((i : Nat) : Int)) ∧ f 6 = (.int .u64 ((c : Nat) : Int)) ∧ f 5 = (.slice pa p.length pc) ∧ RS Jb x v (.slice a1 a.length c2) a ∧ OS Jb 118 w x y v (.slice pa p.length pc) p ∧ i ≤ a.length ∧ p.length = n / 32 + i ∧ Jo p ∧ c < 4294967296 ∧ val p + 4294967296 ^ p.length * c = val (a.take i) * 2 ^ n ∧ μ = (a.length - i)) _ ⟨_, _, 0, (List.replicate (n / 32) 0), 0, (some ⟨g3, 0, none⟩), (n / 32), C6, rfl, rfl, rfl, rfl, rfl, (congrArg (fun z => Value.slice (some ⟨g3, 0, none⟩) z (n / 32)) (List.length_replicate (n := n / 32) (a := 0)).symm), r0, (by rw [List.length_replicate]; exact h8), (Nat.zero_le _), (List.length_replicate ..), (Kc _), (by decide), (by simp [val, vb]), rfl⟩ ?_)))))))))
 rintro m21 f9 w10 ⟨x11, y12, i, p, c, pa, pc, C13, e14, e15, e16, e17, e18, e19, r0, hP, hi, hp, hs, hc, hv, hmu20⟩
 obtain ⟨f22, rfl⟩ := rebK (aC e14 (aC e15 (aC e16 (aC e17 (aC e18 (aC e19 aN))))))
 clear e14 e15 e16 e17 e18 e19
 have hai := Jg sa i
 have hcar := Jjy (s := n % 32) hai (Nat.mod_lt _ (by decide)) hc
 refine Rh (Om (Om (O rfl (St.len sl24 rfl (O rfl (St.lss2 rfl rfl (fun hc23 => ?_) (fun hc23 => ?_)))))))
 ·refine Nl (W.condT rfl (W.skip (W.seq (W.block (Rg (Om (Om (O rfl (St.idx (j := i) (u := (a.getD i 0)) r0 sl24 Jh rfl rfl rfl (Jl (by omega)) ?_)))))))))
  intro b24 o25 cs26 e27
  obtain ⟨rfl, bd28⟩ : cs26 = _ ∧ _ := e27.rd
  refine O rfl (St.load1 J9 rfl (e27.cell 0 _ rfl) (O rfl (St.conv (z := (((a.getD i 0) : Nat) : Int)) Zt Zw rfl (IntWalk.u64_in _ (by omega)) (Om (O rfl (St.rem rfl rfl (by decide) (Xw n 32) (O rfl (St.conv (z := ((n % 32 : Nat) : Int)) us3 Jl2 rfl (IntWalk.u64_in _ (by omega)) (O rfl (St.shl rfl rfl (by omega) (X6 (Jii hai (Nat.mod_lt _ (by decide)))) ?_))))))))))
  refine Om (O rfl (St.add rfl rfl (J4 (a := a.getD i 0 * 2 ^ (n % 32)) (b := c) (by omega)) (Oa (Nl (Rg (Om (Om (O rfl (St.conv (z := (((((a.getD i 0) * 2 ^ (n % 32)) + c) % 4294967296 : Nat) : Int)) Yj Yh rfl (Jm _) (O rfl (St.bsPub (T := Jb) (css := [[(.int .u32 (((((a.getD i 0) * 2 ^ (n % 32)) + c) % 4294967296 : Nat) : Int))]]) (l := [(((a.getD i 0) * 2 ^ (n % 32)) + c) % 4294967296]) C13 sl24 Jh (by decide) (by decide) rfl (by kernel_rfl) ⟨⟨rfl, (Nat.mod_lt _ (by decide))⟩, trivial⟩ ?_)))))))))))
  intro g33 w29 C30 s31 h32
  replace hP := hP.sp s31 C30 (fun _ h => h)
  refine O rfl (St.appendC (T := Jb) C30 sl24 Jh rfl rfl hP (V8 h32) (by simp only [List.length_append, List.length_cons, List.length_nil, maxLen]; omega) (by simp only [List.length_append, List.length_cons, List.length_nil]; omega) rfl ?_)
  intro v36 w37 x38 C39 s40 u41 h42
  replace r0 := (r0.sp s31).tr s40.tx
  obtain ⟨a43, c44, rfl, _, _⟩ := h42.len
  refine Oa (Nl (W.region (Om (O rfl (St.shr rfl rfl (by decide) (Yi (d := 4294967296) _ (by decide)) (Oa (Nl (W.region (Om (O rfl (St.add rfl rfl (Je (a := i) (b := 1) (by omega)) (Oa (Nl (⟨_, (by omega), _, _, (i + 1), (p ++ [(((a.getD i 0) * 2 ^ (n % 32)) + c) % 4294967296]), (((a.getD i 0) * 2 ^ (n % 32)) + c) / 4294967296, a43, c44, C39, rfl, rfl, rfl, rfl, rfl, rfl, r0, h42, (by omega), (by rw [List.length_append, hp]; rfl), (Jw hs (Nat.mod_lt _ (by decide))), hcar.2, (Jgw hp hv rfl), rfl⟩))))))))))))))
 refine Nl (W.condF rfl (W.exit (Rg (Om (Om (O rfl (St.conv (z := ((c % 4294967296 : Nat) : Int)) Yj Yh rfl (Jm _) (O rfl (St.bsPub (T := Jb) (css := [[(.int .u32 ((c % 4294967296 : Nat) : Int))]]) (l := [c % 4294967296]) C13 sl24 Jh (by decide) (by decide) rfl (by kernel_rfl) ⟨⟨rfl, (Nat.mod_lt _ (by decide))⟩, trivial⟩ ?_)))))))))
 intro g49 w45 C46 s47 h48
 replace hP := hP.sp s47 C46 (fun _ h => h)
 refine O rfl (St.appendC (T := Jb) C46 sl24 Jh rfl rfl hP (V8 h48) (by simp only [List.length_append, List.length_cons, List.length_nil, maxLen]; omega) (by simp only [List.length_append, List.length_cons, List.length_nil]; omega) rfl ?_)
 intro v52 w53 x54 C55 s56 u57 h58
 obtain ⟨a59, c60, rfl, _, _⟩ := h58.len
 obtain ⟨x61, C62, hs63, h64⟩ := h58.freeze C55 hX
 refine O rfl (St.callR C62 Jb0 rfl rfl (j6 C62.bd h64 (by simp only [List.length_append, List.length_cons, List.length_nil]; omega)) ?_)
 intro v65 w66 C67 s68 h69
 obtain ⟨a70, c71, rfl, _, _⟩ := h69.len
 exact Oa (Nl (W.ret (Jf rfl (resV.t rfl) (Ret.intro (RS.eqv ((h69 : RS _ _ _ _ _).tr (Tr.weak C67.base)) ((Jh3 hs (by omega) hc hv))) C67.below))))
end Go.Wf
namespace Go.Wf
set_option linter.unusedVariables false
set_option linter.unusedSimpArgs false
open Go
theorem kh (n : Nat) : Jr n 0 = List.replicate n 0 := (Yg (Kc n) (List.length_replicate ..) (vb n)).symm
theorem Jjq {n v i : Nat} (hv : v < 4294967296 ^ n) (hi : i < n) : (Jr n v).getD i 0 = v / 4294967296 ^ i % 4294967296 := by
 have h := Vf (Jz n v) i
 rw [J8 n v hv] at h
 have hd := Qy (a := Jr n v) (j := i + 1) (by omega) (by rw [Ji]; omega)
 rw [Nat.add_sub_cancel] at hd
 rw [h, hd]
 have := Jg (Jz n v) i
 omega
theorem Ja1 (k : Nat) : (2 : Nat) ^ k = 4294967296 ^ (k / 32) * 2 ^ (k % 32) := by
 have e : (4294967296 : Nat) ^ (k / 32) = 2 ^ (32 * (k / 32)) := by rw [Nat.pow_mul]
 rw [e, ← Nat.pow_add]; congr 1; omega
theorem jh {n q k : Nat} (hk : k / 32 < n) (hd : q % 2 ^ (k + 1) = 0) (hq : q < 4294967296 ^ n) : (Jr n q).getD (k / 32) 0 + 2 ^ (k % 32) < 4294967296 := by
 rw [Jjq hq hk]
 obtain ⟨m, hm⟩ := Nat.dvd_of_mod_eq_zero hd
 have hP : 0 < (4294967296 : Nat) ^ (k / 32) := Nat.pow_pos (by decide)
 have e1 : (2 : Nat) ^ (k + 1) = 4294967296 ^ (k / 32) * 2 ^ (k % 32 + 1) := by rw [Nat.pow_succ, Ja1 k, Nat.pow_succ, Nat.mul_assoc]
 have e2 : q / 4294967296 ^ (k / 32) = 2 ^ (k % 32 + 1) * m := by
  rw [hm, e1, Nat.mul_assoc, Nat.mul_div_cancel_left _ hP]
 rw [e2]
 have hr : k % 32 < 32 := Nat.mod_lt _ (by decide)
 have e3 : (4294967296 : Nat) = 2 ^ (k % 32 + 1) * 2 ^ (31 - k % 32) := by
  rw [← Nat.pow_add, show k % 32 + 1 + (31 - k % 32) = 32 by omega]
 have h1 : 2 ^ (k % 32 + 1) * m % 4294967296 = 2 ^ (k % 32 + 1) * (m % 2 ^ (31 - k % 32)) := by
  conv => lhs; rw [e3]
  rw [Nat.mul_mod_mul_left]
 rw [h1]
 have h2 := Nat.mod_lt m (Nat.two_pow_pos (31 - k % 32))
 have h3 := Nat.mul_le_mul_left (2 ^ (k % 32 + 1)) (show m % 2 ^ (31 - k % 32) + 1 ≤ 2 ^ (31 - k % 32) by omega)
 rw [← e3, Nat.mul_add, Nat.mul_one] at h3
 have h4 : (2 : Nat) ^ (k % 32 + 1) = 2 ^ (k % 32) * 2 := Nat.pow_succ ..
 have h5 := Nat.two_pow_pos (k % 32)
 omega
theorem Jb2 {n q k : Nat} (hk : k / 32 < n) (hd : q % 2 ^ (k + 1) = 0) (hq : q + 2 ^ k < 4294967296 ^ n) : (Jr n q).set (k / 32) ((Jr n q).getD (k / 32) 0 + 2 ^ (k % 32)) = Jr n (q + 2 ^ k) := by
 have hq' : q < 4294967296 ^ n := by have := Nat.two_pow_pos k; omega
 refine Yg (Qh (Jz _ _) (jh hk hd hq') _) (by rw [List.length_set, Ji]) ?_
 have h := vi (l := Jr n q) (k := k / 32) (d := (Jr n q).getD (k / 32) 0 + 2 ^ (k % 32)) (by rw [Ji]; exact hk)
 rw [J8 n q hq', Nat.mul_add, ← Ja1] at h
 omega
def dvQ (a b : List Nat) : List Nat := if a.length ≤ 2 ∧ b.length ≤ 2 then digs (val a / val b) else if blen (val a) < blen (val b) then [] else Jr ((blen (val a) - blen (val b)) / 32 + 1) (val a / val b)
theorem zs {x y : Nat} (hy : 0 < y) : x / y < 2 ^ (blen x - blen y + 1) := by
 rcases Nat.eq_zero_or_pos (x / y) with e | e
 ·rw [e]; exact Nat.two_pow_pos _
 ·rw [Nat.div_lt_iff_lt_mul hy]
  have h1 := Qg x
  have h2 := z4 hy
  have h3 := V0 hy
  have h4 : blen y ≤ blen x := by
   refine Nat.le_of_not_lt fun hh => ?_
   have : 2 ^ blen x ≤ 2 ^ (blen y - 1) := Nat.pow_le_pow_right (by omega) (by omega)
   have := Nat.div_eq_of_lt (show x < y by omega)
   omega
  have h5 := Nat.mul_le_mul_left (2 ^ (blen x - blen y + 1)) h2
  rw [← Nat.pow_add, show blen x - blen y + 1 + (blen y - 1) = blen x by omega] at h5
  omega
theorem vw {x y : Nat} (hy : 0 < y) : x / y < 4294967296 ^ ((blen x - blen y) / 32 + 1) := by
 have h := zs (x := x) hy
 have e : (4294967296 : Nat) ^ ((blen x - blen y) / 32 + 1) = 2 ^ (32 * ((blen x - blen y) / 32 + 1)) := by rw [Nat.pow_mul]
 rw [e]
 exact Nat.lt_of_lt_of_le h (Nat.pow_le_pow_right (by omega) (by omega))
theorem ju {x y : Nat} (hy : 0 < y) (h : blen x < blen y) : x < y := by
 have h1 := Qg x
 have h2 := z4 hy
 have : 2 ^ blen x ≤ 2 ^ (blen y - 1) := Nat.pow_le_pow_right (by omega) (by omega)
 omega
theorem Jkf {a b : List Nat} : Jo (dvQ a b) := by
 unfold dvQ
 split
 ·exact Zr _
 ·split
  ·exact J6
  ·exact Jz _ _
theorem Jd4 {a b : List Nat} (hb : 0 < val b) : val (dvQ a b) = val a / val b := by
 unfold dvQ
 split
 ·exact Jt _
 ·split
  ·rename_i h; rw [Nat.div_eq_of_lt (ju hb h)]; rfl
  ·exact J8 _ _ (vw hb)
theorem Qv {a : List Nat} (sa : Jo a) : blen (val a) ≤ 32 * a.length := by
 have h := Ze a sa
 have e : (4294967296 : Nat) ^ a.length = 2 ^ (32 * a.length) := by rw [Nat.pow_mul]
 rw [e] at h
 exact xz h
theorem Jqf {a b : List Nat} (sa : Jo a) : (dvQ a b).length ≤ a.length + 1 := by
 unfold dvQ
 split
 ·have := digs_div_len' sa (val b)
  omega
 ·split
  ·simp
  ·rw [Ji]
   have := Qv sa
   omega
where digs_div_len' {a : List Nat} (sa : Jo a) (n : Nat) : (digs (val a / n)).length ≤ a.length := Jy (Nat.lt_of_le_of_lt (Nat.div_le_self _ _) (Ze a sa))
theorem Jck {a b : List Nat} (sa : Jo a) {k : Nat} (hk : k ≤ blen (val a) - blen (val b)) (hle : blen (val b) ≤ blen (val a)) : (digs (val b * 2 ^ k)).length ≤ a.length := by
 refine Jy ?_
 have h1 := Qg (val b)
 have h2 := Qv sa
 have e : (4294967296 : Nat) ^ a.length = 2 ^ (32 * a.length) := by rw [Nat.pow_mul]
 rw [e]
 have h3 := Nat.mul_lt_mul_of_pos_right h1 (Nat.two_pow_pos k)
 rw [← Nat.pow_add] at h3
 exact Nat.lt_of_lt_of_le h3 (Nat.pow_le_pow_right (by omega) (by omega))
theorem dv0 {a b : List Nat} (hb : 0 < val b) (hle : blen (val b) ≤ blen (val a)) : val a < val b * 2 ^ (blen (val a) - blen (val b) + 1) := by
 have h := zs (x := val a) hb
 rw [Nat.div_lt_iff_lt_mul hb, Nat.mul_comm] at h
 exact h
theorem Jhr {A B R q k : Nat} (hv : A = q * B + R) (hlt : R < B * 2 ^ (k + 1)) (hd : q % 2 ^ (k + 1) = 0) (h : B * 2 ^ k ≤ R) :
  A = (q + 2 ^ k) * B + (R - B * 2 ^ k) ∧ R - B * 2 ^ k < B * 2 ^ k ∧ (q + 2 ^ k) % 2 ^ k = 0 := by
 refine ⟨?_, ?_, ?_⟩
 ·rw [Nat.add_mul, Nat.mul_comm (2 ^ k)]; omega
 ·rw [Nat.pow_succ, ← Nat.mul_assoc] at hlt; omega
 ·obtain ⟨m, hm⟩ := Nat.dvd_of_mod_eq_zero hd
  rw [hm, Nat.pow_succ, Nat.mul_assoc, Nat.add_mod_right, Nat.mul_mod_right]
theorem Jnn {q k : Nat} (hd : q % 2 ^ (k + 1) = 0) : q % 2 ^ k = 0 := by
 obtain ⟨m, hm⟩ := Nat.dvd_of_mod_eq_zero hd
 rw [hm, Nat.pow_succ, Nat.mul_assoc, Nat.mul_mod_right]
theorem Jfl {A B R q k n : Nat} (hB : 0 < B) (hv : A = q * B + R) (h : B * 2 ^ k ≤ R) (hq : A / B < n) : q + 2 ^ k < n := by
 refine Nat.lt_of_le_of_lt ?_ hq
 rw [Nat.le_div_iff_mul_le hB, Nat.add_mul, Nat.mul_comm (2 ^ k)]
 omega
theorem v3 {A B R q : Nat} (hv : A = q * B + R) (hlt : R < B * 2 ^ 0) : q = A / B ∧ R = A % B := by
 rw [Nat.pow_zero, Nat.mul_one] at hlt
 have hB : 0 < B := by omega
 rw [hv, Nat.mul_comm, Nat.mul_add_div hB, Nat.div_eq_of_lt hlt, Nat.mul_add_mod, Nat.mod_eq_of_lt hlt]
 exact ⟨rfl, rfl⟩
theorem Jfa {r : Nat} (h : r < 32) : IntKind.u32.wrap ((1 : Int) * 2 ^ min ((r : Nat) : Int).toNat IntKind.u32.bits) = ((2 ^ r : Nat) : Int) := by
 have hp := Vm h
 rw [Int.toNat_natCast, Nat.min_eq_left (by simp [IntKind.bits]; omega), Int.one_mul]
 have e : (2 : Int) ^ r = ((2 ^ r : Nat) : Int) := by simp
 rw [e]
 generalize (2 : Nat) ^ r = z at *
 rw [IntWalk.u32_in _ (by omega)]
end Go.Wf
namespace Go.Wf
open Go Go.Proofs Go.RowKit
set_option maxRecDepth 100000
set_option linter.unusedVariables false
set_option linter.unusedSimpArgs false
set_option maxHeartbeats 16000000 in
theorem Jh5 {X : Nat → Prop} {w : World} (hX : ∀ b, X b → b < w.heap.size) {v0 : Value} {a : List Nat} (r0 : RS Jb X w v0 a) {v1 : Value} {b : List Nat} (r1 : RS Jb X w v1 b) (ha : trim a = a) (hb : trim b = b) (hne : b ≠ []) (hla : a.length ≤ 536870912) (hlb : b.length ≤ 536870912) : Calls Tryz.prog 215 #[v0, v1] w (Ret w fun v w' => ∃ v0 v1, v = .tuple #[v0, v1] ∧ (RS Jb X w' v0 (dvQ a b)) ∧ (RS Jb X w' v1 (digs (val a % val b)))) := by
 obtain ⟨a1, c2, rfl, _, _⟩ := r0.len
 obtain ⟨a3, c4, rfl, _, _⟩ := r1.len
 have C := Cx.start hX
 have sa := r0.u32_small
 have sb := r1.u32_small
 have hba0 := Qv sa
 have hbb0 := Qv sb
 have hbp : 0 < val b := Nat.lt_of_lt_of_le (Nat.pow_pos (by decide)) (K9 hb hne)
 refine Calls.ofW (args := [(.slice a1 a.length c2), (.slice a3 b.length c4)]) Tryz.func215 rfl rfl (Nat.le_of_ble_eq_true rfl) (Rg (Oa (Oa (Nl (Rh (Om (O rfl (St.len sl24 rfl (O rfl (St.leq2 rfl rfl (fun hc5 => ?_) (fun hc5 => ?_)))))))))))
 ·refine Om (Og rfl rfl (St.move (Og rfl rfl (St.len sl24 rfl (Og rfl rfl (St.leq2 rfl rfl (fun hc6 => ?_) (fun hc6 => ?_)))))))
  ·refine OT (Nl (W.condT rfl (W.seq ?_)))
   have hva := Y5 sa (by omega)
   refine W.region (Om (O rfl (St.callR C Jgu rfl rfl (km C.bd r0 (by omega)) ?_)))
   intro v7 w8 C9 s10 h11
   replace r0 := r0.sp s10
   replace r1 := r1.sp s10
   subst h11
   refine Om (O rfl (St.callR C9 Jgu rfl rfl (km C9.bd r1 (by omega)) ?_))
   intro v12 w13 C14 s15 h16
   replace r1 := r1.sp s15
   subst h16
   refine O rfl (St.quo rfl rfl (by omega) (Xp (a := (val a)) (b := (val b)) (by omega)) (O rfl (St.callR C14 Jqd rfl rfl (Jc9 C14.bd (n := (val a) / (val b)) (Jfq hva)) ?_)))
   intro v17 w18 C19 s20 h21
   replace r0 := (r0.sp s15).sp s20
   obtain ⟨a22, c23, rfl, _, _⟩ := h21.len
   refine Om (O rfl (St.callR C19 Jgu rfl rfl (km C19.bd r0 (by omega)) ?_))
   intro v24 w25 C26 s27 h28
   replace r1 := (r1.sp s20).sp s27
   replace h21 := h21.sp s27
   subst h28
   refine Om (O rfl (St.callR C26 Jgu rfl rfl (km C26.bd r1 (by omega)) ?_))
   intro v29 w30 C31 s32 h33
   subst h33
   refine O rfl (St.rem rfl rfl (by omega) (Xw (val a) (val b)) (O rfl (St.callR C31 Jqd rfl rfl (Jc9 C31.bd (n := (val a) % (val b)) (Jej hva)) ?_)))
   intro v34 w35 C36 s37 h38
   replace h21 := (h21.sp s32).sp s37
   obtain ⟨a39, c40, rfl, _, _⟩ := h38.len
   refine Oa (Oa (Nl (W.ret (Qk rfl (resV.t rfl) (resV.t rfl) (Ret.intro ?_ C36.below)))))
   refine ⟨_, _, rfl, ?_, ?_⟩
   ·skip
    exact RS.eqv ((h21 : RS _ _ _ _ _).tr (Tr.weak C36.base)) ((by unfold dvQ; rw [if_pos ⟨by omega, by omega⟩]))
   ·skip
    exact RS.eqv ((h38 : RS _ _ _ _ _).tr (Tr.weak C36.base)) (rfl)
  refine OT (Nl (W.condF rfl (W.skip (Rg (Om (Oa (Nl (Rg (Om (O rfl (St.build (cs := [(.bool false), (.slice a1 a.length c2)]) rfl (by kernel_rfl) (O rfl (St.callR C Jl0 rfl rfl (Jfm C.bd (a := (⟨false, a⟩ : GInt)) (Jj r0) (show a.length ≤ _ by omega)) ?_)))))))))))))
  intro v41 w42 C43 s44 h45
  replace r1 := r1.sp s44
  replace h45 : v41 = (.int .i64 (((blen (val a)) : Nat) : Int)) := h45
  subst h45
  refine Om (O rfl (St.build (cs := [(.bool false), (.slice a3 b.length c4)]) rfl (by kernel_rfl) (O rfl (St.callR C43 Jl0 rfl rfl (Jfm C43.bd (a := (⟨false, b⟩ : GInt)) (Jj r1) (show b.length ≤ _ by omega)) ?_))))
  intro v46 w47 C48 s49 h50
  replace r0 := (r0.sp s44).sp s49
  replace h50 : v46 = (.int .i64 (((blen (val b)) : Nat) : Int)) := h50
  subst h50
  refine O rfl (St.sub (z := ((((blen (val a)) : Nat) : Int) - (((blen (val b)) : Nat) : Int))) rfl rfl (IntWalk.i64_in _ (by omega)) (Oa (Nl (Rh (Om (O rfl (St.lss2 rfl rfl (fun hc51 => ?_) (fun hc51 => ?_))))))))
  ·refine Nl (W.condT rfl (Rg (Om (Oa (Oa (Nl (W.ret (Qk rfl (resV.t rfl) (resV.t rfl) (Ret.intro ?_ C48.below)))))))))
   refine ⟨_, _, rfl, ?_, ?_⟩
   ·skip
    exact RS.eqv ((RS.nil : RS _ _ _ _ _).tr (Tr.weak C48.base)) ((by unfold dvQ; rw [if_neg (by omega), if_pos (by omega)]))
   ·skip
    exact RS.eqv ((r0 : RS _ _ _ _ _).tr (Tr.weak C48.base)) ((Ji2 ha sa (ju hbp (by omega))))
  refine Nl (W.condF rfl (W.skip (W.seq ?_)))
  have hble : blen (val b) ≤ blen (val a) := by omega
  obtain ⟨S, hS⟩ : ∃ S, S = blen (val a) - blen (val b) := ⟨_, rfl⟩
  rw [show (((blen (val a) : Nat) : Int) - ((blen (val b) : Nat) : Int)) = ((S : Nat) : Int) by omega]
  have hba := Qv sa
  have hroom := vw (x := val a) hbp
  rw [← hS] at hroom
  refine W.region (Om (O rfl (St.quo rfl rfl (by decide) (Y3 (a := S) (b := 32) (by omega)) (O rfl (St.add rfl rfl (Je (a := S / 32) (b := 1) (by omega)) (O rfl (St.makeRow (n := (S / 32 + 1)) C48 sl24 rfl rfl rfl (by omega) Jh (by decide) ?_)))))))
  intro g52 w53 x54 y55 lt56 C57 s58 o59
  replace r0 := r0.sp s58
  replace r1 := (r1.sp s49).sp s58
  refine Oa (Nl (Rh (Om (Oa (Nl (W.block ?_))))))
  rw [← kh (S / 32 + 1)] at o59
  refine W.loopN (fun μ f v => ∃ (x y : Nat → Prop) (K : Nat) (R : List Nat) (q : Nat) (pr : Option Addr) (rc : Nat), Cx X w x y v ∧ f 1 = (.slice a3 b.length c4) ∧ f 4 = (.slice none 0 0) ∧ f 5 = (.slice none 0 0) ∧ f 8 = (.slice (some ⟨g52, 0, none⟩) (S / 32 + 1) (S / 32 + 1)) ∧ f 9 = (.int .i64 ((K : Int) - 1)) ∧ f 6 = (.slice pr R.length rc) ∧ RS Jb x v (.slice a3 b.length c4) b ∧ RS Jb x v (.slice pr R.length rc) R ∧ Own w y v g52 ((Jr (S / 32 + 1) q).map u32v) 118 ∧ K ≤ S + 1 ∧ val a = q * val b + val R ∧ val R < val b * 2 ^ K ∧ q % 2 ^ K = 0 ∧ trim R = R ∧ R.length ≤ a.length ∧ μ = K) _ ⟨_, _, (S + 1), a, 0, a1, c2, C57, rfl, rfl, rfl, rfl, (congrArg (Value.int .i64) (by omega)), rfl, r1, r0, o59, (Nat.le_refl _), (by omega), (by rw [hS]; exact dv0 hbp hble), (Nat.zero_mod _), ha, (Nat.le_refl _), rfl⟩ ?_
  rintro m73 f60 w61 ⟨x62, y63, K, R, q, pr, rc, C64, e65, e66, e67, e68, e69, e70, r1, hR, o71, hK, hv, hlt, hdv, hRt, hRl, hmu72⟩
  obtain ⟨f74, rfl⟩ := rebK (aC e65 (aC e66 (aC e67 (aC e68 (aC e69 (aC e70 aN))))))
  clear e65 e66 e67 e68 e69 e70
  have sR := hR.u32_small
  refine Rh (Om (O rfl (St.geq2 rfl rfl (fun hc75 => ?_) (fun hc75 => ?_))))
  ·refine Nl (W.condT rfl (W.skip (W.seq (W.block (W.seq ?_)))))
   obtain ⟨k, rfl⟩ : ∃ k, K = k + 1 := ⟨K - 1, by omega⟩
   rw [show (((k + 1 : Nat) : Int) - 1) = ((k : Nat) : Int) by omega]
   have htl := Jck (b := b) sa (k := k) (by omega) hble
   refine W.region (Om (Om (O rfl (St.callR C64 Jvn rfl rfl (Jbd C64.bd r1 (n := k) (by omega) (by omega)) ?_))))
   intro v76 w77 C78 s79 h80
   replace hR := hR.sp s79
   obtain ⟨a81, c82, rfl, _, _⟩ := h80.len
   refine Oa (Nl (Rg (Om (Om (O rfl (St.bool (St.callR C78 Jsk rfl rfl (Jcy C78.bd hR h80 hRt (Z9 _) (by omega) (by omega)) ?_)))))))
   intro v83 w84 C85 s86 h87
   replace r1 := (r1.sp s79).sp s86
   replace hR := hR.sp s86
   replace h80 := h80.sp s86
   replace o71 := (o71.spn s79).spn s86
   refine ⟨_, h87, fun hb88 => ?_, fun hb88 => ?_⟩
   ·refine O rfl (St.not rfl (Nl (W.condF rfl (W.skip (W.region (Om (O rfl (St.sub (z := (((k : Nat) : Int) - 1)) rfl rfl (IntWalk.i64_in _ (by omega)) (Oa (Nl ?_))))))))))
    have hlow : val R < val b * 2 ^ k := by have h7 := of_decide_eq_true hb88; rw [Jt] at h7; exact h7
    refine ⟨_, (by omega), _, _, k, R, q, pr, rc, C85, rfl, rfl, rfl, rfl, rfl, rfl, r1, hR, o71, (by omega), hv, hlow, (Jnn hdv), hRt, hRl, rfl⟩
   refine O rfl (St.not rfl (Nl (W.condT rfl (W.seq ?_))))
   have hge : val b * 2 ^ k ≤ val R := by have h7 := of_decide_eq_false hb88; rw [Jt] at h7; omega
   have hyes := Jhr hv hlt hdv hge
   have hqr := Jfl hbp hv hge hroom
   have htR := Z4 (a := R) (b := digs (val b * 2 ^ k)) (Z9 _) sR (by rw [Jt]; exact hge)
   refine W.region (Om (Om (O rfl (St.callR C85 Jm6 rfl rfl (k7 C85.bd hR h80 (by omega) htR (by rw [Jt]; exact hge)) ?_))))
   intro v89 w90 C91 s92 h93
   replace r1 := r1.sp s92
   obtain ⟨a94, c95, rfl, _, _⟩ := h93.len
   refine O rfl (St.callR C91 Jb0 rfl rfl (j6 C91.bd h93 (by rw [Ji]; omega)) ?_)
   intro v96 w97 C98 s99 h100
   replace o71 := (o71.spn s92).spn s99
   obtain ⟨a101, c102, rfl, _, _⟩ := h100.len
   refine Oa (Nl ?_)
   have hrr : (trim (Jr R.length (val R - val (digs (val b * 2 ^ k))))) = (digs (val R - val b * 2 ^ k)) := by rw [Jt]; exact K1 (Nat.lt_of_le_of_lt (Nat.sub_le _ _) (Ze R sR))
   rw [hrr] at h100 ⊢
   have hdg := jh (n := S / 32 + 1) (show k / 32 < S / 32 + 1 by omega) hdv (by have := Nat.two_pow_pos k; omega)
   refine W.region (Om (Om (O rfl (St.quo rfl rfl (by decide) (Y3 (a := k) (b := 32) (by omega)) (Om (Om (O rfl (St.quo rfl rfl (by decide) (Y3 (a := k) (b := 32) (by omega)) (O rfl (St.idxRow (j := (k / 32)) sl24 Jh rfl rfl rfl (by omega) (O rfl (St.loadRow (j := (k / 32)) (u := ((Jr (S / 32 + 1) q).getD (k / 32) 0)) o71 J9 rfl (Jl (by rw [Ji]; omega)) ?_))))))))))))
   refine Om (O rfl (St.rem rfl rfl (by decide) (Xw k 32) (O rfl (St.conv (z := ((k % 32 : Nat) : Int)) us3 Jl2 rfl (IntWalk.u64_in _ (by omega)) (O rfl (St.shl (z := ((2 ^ (k % 32) : Nat) : Int)) rfl rfl (by omega) (Jfa (Nat.mod_lt _ (by decide))) (O rfl (St.add rfl rfl (ye (a := ((Jr (S / 32 + 1) q).getD (k / 32) 0)) (b := 2 ^ (k % 32)) (by omega)) ?_))))))))
   refine O rfl (St.idxRow (j := (k / 32)) sl24 Jh rfl rfl rfl (by omega) (On (St.storeRow (j := (k / 32)) (u := ((Jr (S / 32 + 1) q).getD (k / 32) 0) + (2 ^ (k % 32))) C98 o71 Jh rfl rfl (by rw [Ji]; omega) ?_)))
   intro w103 C104 s105 o106
   replace r1 := (r1.sp s99).sp s105
   replace h100 := h100.sp s105
   rw [Jb2 (by omega) hdv hqr] at o106
   refine Nl (W.region (Om (O rfl (St.sub (z := (((k : Nat) : Int) - 1)) rfl rfl (IntWalk.i64_in _ (by omega)) (Oa (Nl (⟨_, (by omega), _, _, k, (digs (val R - val b * 2 ^ k)), (q + 2 ^ k), a101, c102, C104, rfl, rfl, rfl, rfl, rfl, rfl, r1, h100, o106, (by omega), (by rw [Jt]; exact hyes.1), (by rw [Jt]; exact hyes.2.1), hyes.2.2, (Z9 _), (Nat.le_trans (Jy (Nat.lt_of_le_of_lt (Nat.sub_le _ _) (Ze R sR))) hRl), rfl⟩)))))))
  refine Nl (W.condF rfl (W.exit (Rg (Om (Om (Oa (Oa (Nl (W.ret (Qk rfl (resV.t rfl) (resV.t rfl) (Ret.intro ?_ C64.below)))))))))))
  refine ⟨_, _, rfl, ?_, ?_⟩
  ·skip
   exact RS.eqv (o71.rowRS C64 hX (by rw [Ji]) (by omega) (Jz _ _) id) ((by unfold dvQ; rw [if_neg (by omega), if_neg (by omega), ← hS, ← (v3 hv (by have h7 := hlt; rw [show K = 0 by omega] at h7; exact h7)).1]))
  ·skip
   exact RS.eqv ((hR : RS _ _ _ _ _).tr (Tr.weak C64.base)) ((by rw [← (v3 hv (by have h7 := hlt; rw [show K = 0 by omega] at h7; exact h7)).2]; exact Jlx hRt sR))
 refine Om (Ox rfl rfl rfl (Ox rfl rfl rfl (Ox rfl rfl rfl (OF (Nl (W.condF rfl (W.skip (Rg (Om (Oa (Nl (Rg (Om (O rfl (St.build (cs := [(.bool false), (.slice a1 a.length c2)]) rfl (by kernel_rfl) (O rfl (St.callR C Jl0 rfl rfl (Jfm C.bd (a := (⟨false, a⟩ : GInt)) (Jj r0) (show a.length ≤ _ by omega)) ?_)))))))))))))))))
 intro v107 w108 C109 s110 h111
 replace r1 := r1.sp s110
 replace h111 : v107 = (.int .i64 (((blen (val a)) : Nat) : Int)) := h111
 subst h111
 refine Om (O rfl (St.build (cs := [(.bool false), (.slice a3 b.length c4)]) rfl (by kernel_rfl) (O rfl (St.callR C109 Jl0 rfl rfl (Jfm C109.bd (a := (⟨false, b⟩ : GInt)) (Jj r1) (show b.length ≤ _ by omega)) ?_))))
 intro v112 w113 C114 s115 h116
 replace r0 := (r0.sp s110).sp s115
 replace h116 : v112 = (.int .i64 (((blen (val b)) : Nat) : Int)) := h116
 subst h116
 refine O rfl (St.sub (z := ((((blen (val a)) : Nat) : Int) - (((blen (val b)) : Nat) : Int))) rfl rfl (IntWalk.i64_in _ (by omega)) (Oa (Nl (Rh (Om (O rfl (St.lss2 rfl rfl (fun hc117 => ?_) (fun hc117 => ?_))))))))
 ·refine Nl (W.condT rfl (Rg (Om (Oa (Oa (Nl (W.ret (Qk rfl (resV.t rfl) (resV.t rfl) (Ret.intro ?_ C114.below)))))))))
  refine ⟨_, _, rfl, ?_, ?_⟩
  ·skip
   exact RS.eqv ((RS.nil : RS _ _ _ _ _).tr (Tr.weak C114.base)) ((by unfold dvQ; rw [if_neg (by omega), if_pos (by omega)]))
  ·skip
   exact RS.eqv ((r0 : RS _ _ _ _ _).tr (Tr.weak C114.base)) ((Ji2 ha sa (ju hbp (by omega))))
 refine Nl (W.condF rfl (W.skip (W.seq ?_)))
 have hble : blen (val b) ≤ blen (val a) := by omega
 obtain ⟨S, hS⟩ : ∃ S, S = blen (val a) - blen (val b) := ⟨_, rfl⟩
 rw [show (((blen (val a) : Nat) : Int) - ((blen (val b) : Nat) : Int)) = ((S : Nat) : Int) by omega]
 have hba := Qv sa
 have hroom := vw (x := val a) hbp
 rw [← hS] at hroom
 refine W.region (Om (O rfl (St.quo rfl rfl (by decide) (Y3 (a := S) (b := 32) (by omega)) (O rfl (St.add rfl rfl (Je (a := S / 32) (b := 1) (by omega)) (O rfl (St.makeRow (n := (S / 32 + 1)) C114 sl24 rfl rfl rfl (by omega) Jh (by decide) ?_)))))))
 intro g118 w119 x120 y121 lt122 C123 s124 o125
 replace r0 := r0.sp s124
 replace r1 := (r1.sp s115).sp s124
 refine Oa (Nl (Rh (Om (Oa (Nl (W.block ?_))))))
 rw [← kh (S / 32 + 1)] at o125
 refine W.loopN (fun μ f v => ∃ (x y : Nat → Prop) (K : Nat) (R : List Nat) (q : Nat) (pr : Option Addr) (rc : Nat), Cx X w x y v ∧ f 1 = (.slice a3 b.length c4) ∧ f 4 = (.slice none 0 0) ∧ f 5 = (.slice none 0 0) ∧ f 8 = (.slice (some ⟨g118, 0, none⟩) (S / 32 + 1) (S / 32 + 1)) ∧ f 9 = (.int .i64 ((K : Int) - 1)) ∧ f 6 = (.slice pr R.length rc) ∧ RS Jb x v (.slice a3 b.length c4) b ∧ RS Jb x v (.slice pr R.length rc) R ∧ Own w y v g118 ((Jr (S / 32 + 1) q).map u32v) 118 ∧ K ≤ S + 1 ∧ val a = q * val b + val R ∧ val R < val b * 2 ^ K ∧ q % 2 ^ K = 0 ∧ trim R = R ∧ R.length ≤ a.length ∧ μ = K) _ ⟨_, _, (S + 1), a, 0, a1, c2, C123, rfl, rfl, rfl, rfl, (congrArg (Value.int .i64) (by omega)), rfl, r1, r0, o125, (Nat.le_refl _), (by omega), (by rw [hS]; exact dv0 hbp hble), (Nat.zero_mod _), ha, (Nat.le_refl _), rfl⟩ ?_
 rintro m139 f126 w127 ⟨x128, y129, K, R, q, pr, rc, C130, e131, e132, e133, e134, e135, e136, r1, hR, o137, hK, hv, hlt, hdv, hRt, hRl, hmu138⟩
 obtain ⟨f140, rfl⟩ := rebK (aC e131 (aC e132 (aC e133 (aC e134 (aC e135 (aC e136 aN))))))
 clear e131 e132 e133 e134 e135 e136
 have sR := hR.u32_small
 refine Rh (Om (O rfl (St.geq2 rfl rfl (fun hc141 => ?_) (fun hc141 => ?_))))
 ·refine Nl (W.condT rfl (W.skip (W.seq (W.block (W.seq ?_)))))
  obtain ⟨k, rfl⟩ : ∃ k, K = k + 1 := ⟨K - 1, by omega⟩
  rw [show (((k + 1 : Nat) : Int) - 1) = ((k : Nat) : Int) by omega]
  have htl := Jck (b := b) sa (k := k) (by omega) hble
  refine W.region (Om (Om (O rfl (St.callR C130 Jvn rfl rfl (Jbd C130.bd r1 (n := k) (by omega) (by omega)) ?_))))
  intro v142 w143 C144 s145 h146
  replace hR := hR.sp s145
  obtain ⟨a147, c148, rfl, _, _⟩ := h146.len
  refine Oa (Nl (Rg (Om (Om (O rfl (St.bool (St.callR C144 Jsk rfl rfl (Jcy C144.bd hR h146 hRt (Z9 _) (by omega) (by omega)) ?_)))))))
  intro v149 w150 C151 s152 h153
  replace r1 := (r1.sp s145).sp s152
  replace hR := hR.sp s152
  replace h146 := h146.sp s152
  replace o137 := (o137.spn s145).spn s152
  refine ⟨_, h153, fun hb154 => ?_, fun hb154 => ?_⟩
  ·refine O rfl (St.not rfl (Nl (W.condF rfl (W.skip (W.region (Om (O rfl (St.sub (z := (((k : Nat) : Int) - 1)) rfl rfl (IntWalk.i64_in _ (by omega)) (Oa (Nl ?_))))))))))
   have hlow : val R < val b * 2 ^ k := by have h7 := of_decide_eq_true hb154; rw [Jt] at h7; exact h7
   refine ⟨_, (by omega), _, _, k, R, q, pr, rc, C151, rfl, rfl, rfl, rfl, rfl, rfl, r1, hR, o137, (by omega), hv, hlow, (Jnn hdv), hRt, hRl, rfl⟩
  refine O rfl (St.not rfl (Nl (W.condT rfl (W.seq ?_))))
  have hge : val b * 2 ^ k ≤ val R := by have h7 := of_decide_eq_false hb154; rw [Jt] at h7; omega
  have hyes := Jhr hv hlt hdv hge
  have hqr := Jfl hbp hv hge hroom
  have htR := Z4 (a := R) (b := digs (val b * 2 ^ k)) (Z9 _) sR (by rw [Jt]; exact hge)
  refine W.region (Om (Om (O rfl (St.callR C151 Jm6 rfl rfl (k7 C151.bd hR h146 (by omega) htR (by rw [Jt]; exact hge)) ?_))))
  intro v155 w156 C157 s158 h159
  replace r1 := r1.sp s158
  obtain ⟨a160, c161, rfl, _, _⟩ := h159.len
  refine O rfl (St.callR C157 Jb0 rfl rfl (j6 C157.bd h159 (by rw [Ji]; omega)) ?_)
  intro v162 w163 C164 s165 h166
  replace o137 := (o137.spn s158).spn s165
  obtain ⟨a167, c168, rfl, _, _⟩ := h166.len
  refine Oa (Nl ?_)
  have hrr : (trim (Jr R.length (val R - val (digs (val b * 2 ^ k))))) = (digs (val R - val b * 2 ^ k)) := by rw [Jt]; exact K1 (Nat.lt_of_le_of_lt (Nat.sub_le _ _) (Ze R sR))
  rw [hrr] at h166 ⊢
  have hdg := jh (n := S / 32 + 1) (show k / 32 < S / 32 + 1 by omega) hdv (by have := Nat.two_pow_pos k; omega)
  refine W.region (Om (Om (O rfl (St.quo rfl rfl (by decide) (Y3 (a := k) (b := 32) (by omega)) (Om (Om (O rfl (St.quo rfl rfl (by decide) (Y3 (a := k) (b := 32) (by omega)) (O rfl (St.idxRow (j := (k / 32)) sl24 Jh rfl rfl rfl (by omega) (O rfl (St.loadRow (j := (k / 32)) (u := ((Jr (S / 32 + 1) q).getD (k / 32) 0)) o137 J9 rfl (Jl (by rw [Ji]; omega)) ?_))))))))))))
  refine Om (O rfl (St.rem rfl rfl (by decide) (Xw k 32) (O rfl (St.conv (z := ((k % 32 : Nat) : Int)) us3 Jl2 rfl (IntWalk.u64_in _ (by omega)) (O rfl (St.shl (z := ((2 ^ (k % 32) : Nat) : Int)) rfl rfl (by omega) (Jfa (Nat.mod_lt _ (by decide))) (O rfl (St.add rfl rfl (ye (a := ((Jr (S / 32 + 1) q).getD (k / 32) 0)) (b := 2 ^ (k % 32)) (by omega)) ?_))))))))
  refine O rfl (St.idxRow (j := (k / 32)) sl24 Jh rfl rfl rfl (by omega) (On (St.storeRow (j := (k / 32)) (u := ((Jr (S / 32 + 1) q).getD (k / 32) 0) + (2 ^ (k % 32))) C164 o137 Jh rfl rfl (by rw [Ji]; omega) ?_)))
  intro w169 C170 s171 o172
  replace r1 := (r1.sp s165).sp s171
  replace h166 := h166.sp s171
  rw [Jb2 (by omega) hdv hqr] at o172
  refine Nl (W.region (Om (O rfl (St.sub (z := (((k : Nat) : Int) - 1)) rfl rfl (IntWalk.i64_in _ (by omega)) (Oa (Nl (⟨_, (by omega), _, _, k, (digs (val R - val b * 2 ^ k)), (q + 2 ^ k), a167, c168, C170, rfl, rfl, rfl, rfl, rfl, rfl, r1, h166, o172, (by omega), (by rw [Jt]; exact hyes.1), (by rw [Jt]; exact hyes.2.1), hyes.2.2, (Z9 _), (Nat.le_trans (Jy (Nat.lt_of_le_of_lt (Nat.sub_le _ _) (Ze R sR))) hRl), rfl⟩)))))))
 refine Nl (W.condF rfl (W.exit (Rg (Om (Om (Oa (Oa (Nl (W.ret (Qk rfl (resV.t rfl) (resV.t rfl) (Ret.intro ?_ C130.below)))))))))))
 refine ⟨_, _, rfl, ?_, ?_⟩
 ·skip
  exact RS.eqv (o137.rowRS C130 hX (by rw [Ji]) (by omega) (Jz _ _) id) ((by unfold dvQ; rw [if_neg (by omega), if_neg (by omega), ← hS, ← (v3 hv (by have h7 := hlt; rw [show K = 0 by omega] at h7; exact h7)).1]))
 ·skip
  exact RS.eqv ((hR : RS _ _ _ _ _).tr (Tr.weak C130.base)) ((by rw [← (v3 hv (by have h7 := hlt; rw [show K = 0 by omega] at h7; exact h7)).2]; exact Jlx hRt sR))
end Go.Wf
namespace Go.Wf
set_option linter.unusedVariables false
set_option linter.unusedSimpArgs false
open Go
theorem Ki {z : Int} (h : z ≠ 0) : 0 < val (ofZ z).mag := by rw [Kb]; omega
theorem Jrg {z : Int} (h : z ≠ 0) : (ofZ z).mag ≠ [] := fun e => h (J7.1 (by rw [e]; rfl))
theorem Jug {b : GInt} (h : val b.mag ≠ 0) : b.toZ ≠ 0 := fun e => h (j7.1 e)
theorem Jl3 {m : Nat} {y : Int} (h : y ≠ 0) : (digs (m % val (ofZ y).mag)).length ≤ (ofZ y).mag.length := by
 rw [X3, Jt]
 exact Xe (Nat.le_of_lt (Nat.mod_lt _ (by omega)))
theorem Jij {n : Nat} : (ofZ (Jk false n)).mag.length = 0 ↔ n = 0 := by
 rw [J7, Z7]; omega
theorem Joc {x y : Int} (hy : y ≠ 0) (hx : (ofZ x).neg = true) (hr : val (ofZ x).mag % val (ofZ y).mag ≠ 0) :
  Jk (!(ofZ y).neg) (val (ofZ x).mag / val (ofZ y).mag + 1) = x / y ∧ (y.natAbs : Int) - ((val (ofZ x).mag % val (ofZ y).mag : Nat) : Int) = x % y := by
 have h := xi (a := ofZ x) (b := ofZ y) (by have := Ki hy; omega) hx hr
 have h3 := Nat.mod_lt (val (ofZ x).mag) (Ki hy)
 rw [hx, Jp, Jp] at h
 refine ⟨?_, ?_⟩
 ·rw [← h.1]; cases (ofZ y).neg <;> rfl
 ·rw [← h.2]; rw [Kb, Kb] at *; omega
theorem Jfr {x y : Int} (hy : y ≠ 0) (h : (ofZ x).neg = false ∨ val (ofZ x).mag % val (ofZ y).mag = 0) :
  Jk ((ofZ x).neg != (ofZ y).neg) (val (ofZ x).mag / val (ofZ y).mag) = x / y ∧ ((val (ofZ x).mag % val (ofZ y).mag : Nat) : Int) = x % y := by
 have h := Vu (a := ofZ x) (b := ofZ y) (by have := Ki hy; omega) h
 rwa [Jp, Jp] at h
theorem Jcb {x y : Int} (hx : 0 ≤ x) (hy : 0 ≤ y) : Int.gcd y (x % y) = Int.gcd x y := by
 obtain ⟨n, rfl⟩ := Int.eq_ofNat_of_zero_le hx
 obtain ⟨m, rfl⟩ := Int.eq_ofNat_of_zero_le hy
 rw [← Int.natCast_emod, Int.gcd_natCast_natCast, Int.gcd_natCast_natCast, Nat.gcd_comm m, Nat.gcd_comm n, ← Nat.gcd_rec]
theorem Jir (x y : Int) : Int.gcd ((x.natAbs : Nat) : Int) ((y.natAbs : Nat) : Int) = Int.gcd x y := by
 unfold Int.gcd; rw [Int.natAbs_natCast, Int.natAbs_natCast]
theorem qn (z : Int) : (ofZ ((z.natAbs : Nat) : Int)).mag = (ofZ z).mag := by rw [X3, X3, Int.natAbs_natCast]
theorem Jey {x y : Int} {g : Nat} (hx : 0 ≤ x) (hg : Int.gcd x y = g) (h : (ofZ y).mag.length = 0) : x = (g : Int) := by
 rw [← hg, J7.1 h, Int.gcd_zero_right]; omega
theorem ql {x y : Int} (hy : 0 ≤ y) (h : (ofZ y).mag.length ≠ 0) : (x % y).natAbs < y.natAbs := by
 have h0 : y ≠ 0 := fun e => h (J7.2 e)
 have h1 := Int.emod_nonneg x h0
 have h2 := Int.emod_lt_of_pos x (show 0 < y by omega)
 omega
theorem Jhl {y : Int} (h : (ofZ y).mag.length ≠ 0) : val (ofZ y).mag ≠ 0 := by
 rw [Kb]; intro e; exact h (J7.2 (by omega))
theorem Jnu {x y : Int} (h : (ofZ y).mag.length ≠ 0) : 0 ≤ x % y := Int.emod_nonneg x fun e => h (J7.2 e)
theorem Jbi {x y : Int} (h : (ofZ y).mag.length ≠ 0) : (ofZ (x % y)).mag.length ≤ (ofZ y).mag.length := by
 have h0 : y ≠ 0 := fun e => h (J7.2 e)
 have h1 := Int.emod_nonneg x h0
 have h2 := Int.emod_lt x h0
 refine xn ?_
 omega
theorem kb {n : Nat} (h : n < 18446744073709551616) : val [n % 4294967296, n / 4294967296 % 4294967296] = n := by
 simp [val]; omega
theorem Jlw {a b : GInt} (h : (a.neg != b.neg) = true) : false = decide (a = b) := by
 refine (decide_eq_false ?_).symm
 rintro rfl; simp at h
theorem Jmk {a b : GInt} (h : ¬ ((a.mag.length : Nat) : Int) = ((b.mag.length : Nat) : Int)) : false = decide (a = b) := by
 refine (decide_eq_false ?_).symm
 rintro rfl; exact h rfl
theorem Jlh {a b : GInt} {i : Nat} (h : ¬ ((a.mag.getD i 0 : Nat) : Int) = ((b.mag.getD i 0 : Nat) : Int)) : false = decide (a = b) := by
 refine (decide_eq_false ?_).symm
 rintro rfl; exact h rfl
theorem Jmd {a b : GInt} {i : Nat} (h : (a.neg != b.neg) = false) (hl : ((a.mag.length : Nat) : Int) = ((b.mag.length : Nat) : Int)) (hi : ¬ (i : Int) < ((a.mag.length : Nat) : Int)) (he : a.mag.take i = b.mag.take i) : true = decide (a = b) := by
 refine (decide_eq_true ?_).symm
 obtain ⟨an, am⟩ := a
 obtain ⟨bn, bm⟩ := b
 rw [List.take_of_length_le (by omega), List.take_of_length_le (by simp only at *; omega)] at he
 simp only at *
 rw [he, show an = bn by cases an <;> cases bn <;> simp_all]
theorem Jph {α : Type} {a b : List α} {d : α} {i : Nat} (ha : i < a.length) (hb : i < b.length) (he : a.take i = b.take i) (h : a.getD i d = b.getD i d) : a.take (i + 1) = b.take (i + 1) := by
 rw [List.take_add_one, List.take_add_one, he]
 rw [List.getD_eq_getElem?_getD, List.getD_eq_getElem?_getD, List.getElem?_eq_getElem ha, List.getElem?_eq_getElem hb] at h
 rw [List.getElem?_eq_getElem ha, List.getElem?_eq_getElem hb]
 simp only [Option.getD_some] at h
 rw [h]
theorem Jql {n d : Int} (h : d.sign = 0) : ofQ (Rat.divInt 0 1) = ofQ (Rat.divInt n d) := by
 rw [Int.sign_eq_zero_iff_zero.1 h, Rat.divInt_zero, Rat.zero_divInt]
theorem Jt1 {n d : Int} (h : d.sign < 0) : (⟨ofZ (n / -((Int.gcd n d : Nat) : Int)), ofZ (d / -((Int.gcd n d : Nat) : Int))⟩ : GRat) = ofQ (Rat.divInt n d) := by
 have hd : d < 0 := Int.sign_neg_iff.1 h
 have h1 := zl (n := -n) (d := -d) (by omega)
 rw [zh] at h1
 rw [← h1, Int.gcd_neg, Int.neg_gcd, Int.ediv_neg, Int.ediv_neg, Int.neg_ediv_of_dvd (Int.gcd_dvd_left ..), Int.neg_ediv_of_dvd (Int.gcd_dvd_right ..)]
theorem Jnt {n d : Int} (h0 : ¬ d.sign = 0) (h : ¬ d.sign < 0) : 0 < d := by
 have := mt Int.sign_neg_iff.2 h
 have : d ≠ 0 := fun e => h0 (by rw [e]; rfl)
 omega
theorem Jtn {n d : Int} (h : ofZ (-((Int.gcd n d : Nat) : Int)) = ofZ 1) : False := by
 have := Jjt h; omega
theorem xo_ne {n d : Int} (h0 : ¬ d.sign = 0) : Int.gcd n d ≠ 0 := by
 intro e
 have := (Int.gcd_eq_zero_iff.1 e).2
 exact h0 (by rw [this]; rfl)
theorem Jt7 {n d : Int} (h0 : ¬ d.sign = 0) : (ofZ ((Int.gcd n d : Nat) : Int)).mag.length ≤ (ofZ d).mag.length := Jc4 fun e => h0 (by rw [e]; rfl)
theorem Ju4 (p q : Rat) : ofQ (Rat.divInt ((ofQ p).num.toZ * (ofQ q).den.toZ + (ofQ q).num.toZ * (ofQ p).den.toZ) ((ofQ p).den.toZ * (ofQ q).den.toZ)) = ofQ (p + q) := by
 have hp : (ofQ p).den.toZ ≠ 0 := by unfold ofQ; rw [Jp]; have := p.den_nz; omega
 have hq : (ofQ q).den.toZ ≠ 0 := by unfold ofQ; rw [Jp]; have := q.den_nz; omega
 rw [← Jsb hp hq, Yv, Yv]
end Go.Wf
namespace Go.Wf
open Go Go.Proofs Go.RowKit
set_option maxRecDepth 100000
set_option linter.unusedVariables false
set_option linter.unusedSimpArgs false
set_option maxHeartbeats 4000000 in
theorem Jab {X : Nat → Prop} {w : World} (hX : ∀ b, X b → b < w.heap.size) {v0 : Value} {a : GInt} (r0 : RV Jv X w v0 a) {v1 : Value} {b : GInt} (r1 : RV Jv X w v1 b) (hla : a.mag.length ≤ 536870912) (hlb : b.mag.length ≤ 536870912) (hb0 : val b.mag ≠ 0) : Calls Tryz.prog 169 #[v0, v1] w (Ret w fun v w' => ∃ v0 v1, v = .tuple #[v0, v1] ∧ (RV Jv X w' v0 (ofZ (a.toZ / b.toZ))) ∧ (RV Jv X w' v1 (ofZ (a.toZ % b.toZ)))) := by
 obtain ⟨a1, c2, rfl, h3⟩ := RV.int r0
 obtain ⟨a4, c5, rfl, h6⟩ := RV.int r1
 have C := Cx.start hX
 have sa := r0.int_small
 have sb := r1.int_small
 have hN := J1 sa
 have hD := J1 sb
 have hbz := Jug hb0
 have hrl := Jl3 (m := val (ofZ a.toZ).mag) hbz
 have hql := Jqf (a := (ofZ a.toZ).mag) (b := (ofZ b.toZ).mag) (Y8 _)
 have hr3 : (ofZ (Jk false (val (digs (val (ofZ a.toZ).mag % val (ofZ b.toZ).mag))))).mag.length = 0 ↔ (val (ofZ a.toZ).mag % val (ofZ b.toZ).mag) = 0 := by rw [Jt]; exact Jij
 have hr4 : (ofZ (Jk false (val (digs (val (ofZ a.toZ).mag % val (ofZ b.toZ).mag))))).mag.length ≤ (ofZ b.toZ).mag.length := by rw [Jt, Z7, X3, Int.natAbs_natCast]; exact hrl
 have hba := qn b.toZ
 refine Calls.ofW (args := [(.agg #[(.bool a.neg), (.slice a1 a.mag.length c2)]), (.agg #[(.bool b.neg), (.slice a4 b.mag.length c5)])]) Tryz.func169 rfl rfl (Nat.le_of_ble_eq_true rfl) (Rg (O rfl (St.boxC C rfl ?_)))
 intro g7 w8 x9 y10 lt11 C12 s13 o14
 replace h3 := h3.sp s13
 replace h6 := h6.sp s13
 refine O rfl (St.boxC C12 rfl ?_)
 intro g15 w16 x17 y18 lt19 C20 s21 o22
 replace o14 := o14.spn s21
 refine O rfl (St.allocC C20 io26 rfl ?_)
 intro g24 w25 x26 y27 lt28 C29 s30 o31
 replace h3 := (h3.sp s21).sp s30
 replace h6 := (h6.sp s21).sp s30
 refine O rfl (St.allocC C29 io26 rfl ?_)
 intro g34 w35 x36 y37 lt38 C39 s40 o41
 have n44 := lt38 _ o31.blk.lt
 replace o14 := (o14.spn s30).spn s40
 replace o22 := (o22.spn s30).spn s40
 replace o31 := o31.spn s40
 refine Nl (W.seq (W.drawS Zc 6 [[], [0], [], [2], [], []] ((x36, y37), Jgz) (RL X w) [fx (.agg #[(.bool a.neg), (.slice a1 a.mag.length c2)]), fun (s : GhL) (v : Value) (w' : World) => RV Jv s.1.1 w' v (ofZ a.toZ), fx (.agg #[(.bool b.neg), (.slice a4 b.mag.length c5)]), fun (s : GhL) (v : Value) (w' : World) => RV Jv s.1.1 w' v (ofZ b.toZ), fun (s : GhL) (v : Value) (w' : World) => ∃ g' : Nat, v = .pointer (some ⟨g', 0, none⟩) ∧ Own w s.1.2 w' g' [(.bool false), (.slice none 0 0)] 26 ∧ w35.heap.size ≤ g' ∧ s.2 g' = some 4, fun (s : GhL) (v : Value) (w' : World) => ∃ g' : Nat, v = .pointer (some ⟨g', 0, none⟩) ∧ Own w s.1.2 w' g' [(.bool false), (.slice none 0 0)] 26 ∧ w35.heap.size ≤ g' ∧ s.2 g' = some 5] (by kernel_rfl) (RL.draw C39) RL.trans ⟨sx, (fun _ _ _ _ _ h r => RV.tr h r.rc.sp.tx), sx, (fun _ _ _ _ _ h r => RV.tr h r.rc.sp.tx), (fun _ _ _ _ _ ⟨g, e, o, l, q⟩ r => ⟨g, e, o.spn r.rc.sp, l, r.ext _ _ q⟩), (fun _ _ _ _ _ ⟨g, e, o, l, q⟩ r => ⟨g, e, o.spn r.rc.sp, l, r.ext _ _ q⟩), trivial⟩ fun f87 s88 w89 r90 k91 => ?_))
 have C92 := r90.rc.cx
 have S93 := r90.rc.sp
 have lt94 := o14.blk.lt
 have lt95 := o22.blk.lt
 have lt96 := o31.blk.lt
 have lt97 := o41.blk.lt
 have hszS93 := S93.tx.size
 replace h3 := (h3.sp s40).sp S93
 replace h6 := (h6.sp s40).sp S93
 replace o14 := o14.spn S93
 replace o22 := o22.spn S93
 replace o31 := o31.spn S93
 replace o41 := o41.spn S93
 have k91 : Keep [11, 12, 13, 14, 6, 7] _ f87 := k91
 refine ⟨⟨fun _ => ?_, fun ⟨e98, _⟩ => ?_, fun _ => ?_, fun ⟨e99, _⟩ => ?_, fun _ => ?_, fun _ => ?_, trivial⟩, fun ⟨e100, d101, e102, d103, d104, d105, _⟩ => ?_⟩
 ·exact Ja k91 aN fun _ => OpSt.op (St.loadOA (vs := [(.bool a.neg), (.slice a1 a.mag.length c2)]) o14 ag26 rfl rfl rfl ⟨s88, RL.same C92, rfl⟩)
 ·refine Ja k91 (aC e98 aN) fun _ => OpSt.op (St.callR C92 qw rfl rfl (Q7 C92.bd (a := a) (Jj h3) (by omega)) ?_)
  intro v106 w107 C108 s109 h110
  exact ⟨s88, RL.step ⟨C108, s109⟩, h110⟩
 ·exact Ja k91 aN fun _ => OpSt.op (St.loadOA (vs := [(.bool b.neg), (.slice a4 b.mag.length c5)]) o22 ag26 rfl rfl rfl ⟨s88, RL.same C92, rfl⟩)
 ·refine Ja k91 (aC e99 aN) fun _ => OpSt.op (St.callR C92 qw rfl rfl (Q7 C92.bd (a := b) (Jj h6) (by omega)) ?_)
  intro v111 w112 C113 s114 h115
  exact ⟨s88, RL.step ⟨C113, s114⟩, h115⟩
 ·refine Ja k91 aN fun _ => OpSt.op (St.allocC C92 io26 rfl ?_)
  intro g116 w117 x118 y119 lt120 C121 s122 o123
  exact ⟨((x118, y119), lab s88.2 g116 4), RL.new (r90.bd fun _ _ h => by cases h) ⟨C121, s122⟩ (Nat.le_of_not_lt fun hh => lt120 _ hh rfl) o123.blk.lt, g116, rfl, o123, Nat.le_of_not_lt fun hh => lt120 _ (Nat.lt_of_lt_of_le hh hszS93) rfl, Ql _ _ _⟩
 ·refine Ja k91 aN fun _ => OpSt.op (St.allocC C92 io26 rfl ?_)
  intro g128 w129 x130 y131 lt132 C133 s134 o135
  exact ⟨((x130, y131), lab s88.2 g128 5), RL.new (r90.bd fun _ _ h => by cases h) ⟨C133, s134⟩ (Nat.le_of_not_lt fun hh => lt132 _ hh rfl) o135.blk.lt, g128, rfl, o135, Nat.le_of_not_lt fun hh => lt132 _ (Nat.lt_of_lt_of_le hh hszS93) rfl, Ql _ _ _⟩
 obtain ⟨a141, c142, e140, h143⟩ := RV.int d101
 obtain ⟨a145, c146, e144, h147⟩ := RV.int d103
 obtain ⟨g149, e148, o150, l151, q152⟩ := d104
 have n153 : g7 ≠ g149 := Nat.ne_of_lt (Nat.lt_of_lt_of_le lt94 l151)
 have n154 : g15 ≠ g149 := Nat.ne_of_lt (Nat.lt_of_lt_of_le lt95 l151)
 have n155 : g24 ≠ g149 := Nat.ne_of_lt (Nat.lt_of_lt_of_le lt96 l151)
 have n156 : g34 ≠ g149 := Nat.ne_of_lt (Nat.lt_of_lt_of_le lt97 l151)
 obtain ⟨g159, e158, o160, l161, q162⟩ := d105
 have n163 : g7 ≠ g159 := Nat.ne_of_lt (Nat.lt_of_lt_of_le lt94 l161)
 have n164 : g15 ≠ g159 := Nat.ne_of_lt (Nat.lt_of_lt_of_le lt95 l161)
 have n165 : g24 ≠ g159 := Nat.ne_of_lt (Nat.lt_of_lt_of_le lt96 l161)
 have n166 : g34 ≠ g159 := Nat.ne_of_lt (Nat.lt_of_lt_of_le lt97 l161)
 have n167 : g149 ≠ g159 := Jfi q152 q162 rfl
 obtain ⟨f169, rfl⟩ := mixK k91 (aC e100 (aC e140 (aC e102 (aC e144 (aC e148 (aC e158 aN))))))
 refine On (St.storeC (cs' := [(.bool (ofZ a.toZ).neg), (.slice a141 (ofZ a.toZ).mag.length c142)]) C92 o150 io26 rfl rfl rfl rfl rfl rfl ?_)
 intro w170 C171 s172 o173
 replace o160 := o160.spo s172 (Ne.symm n167)
 refine On (St.storeC (cs' := [(.bool (ofZ b.toZ).neg), (.slice a145 (ofZ b.toZ).mag.length c146)]) C171 o160 io26 rfl rfl rfl rfl rfl rfl ?_)
 intro w174 C175 s176 o177
 replace h143 := (h143.sp s172).sp s176
 replace h147 := (h147.sp s172).sp s176
 replace o31 := (o31.spo s172 n155).spo s176 n165
 replace o41 := (o41.spo s172 n156).spo s176 n166
 replace o173 := o173.spo s176 n167
 refine Nl (Rg (O rfl (St.fieldAddr J3 rfl (O rfl (St.loadO1 o173 pl24 rfl rfl (O rfl (St.fieldAddr J3 rfl (O rfl (St.loadO1 o177 pl24 rfl rfl (O rfl (St.callR C175 cb215 rfl rfl (Jh5 C175.bd h143 h147 (Qq _) (Qq _) (Jrg hbz) (by omega) (by omega)) ?_)))))))))))
 intro v178 w179 C180 s181 h182
 replace h147 := h147.sp s181
 obtain ⟨v183, v184, rfl, h185, h186⟩ := h182
 obtain ⟨a187, c188, rfl, _, _⟩ := h185.len
 obtain ⟨a189, c190, rfl, _, _⟩ := h186.len
 refine Om (O rfl (St.extract rfl rfl (O rfl (St.extract rfl rfl (Oa (Oa (Nl (Rg (Om (O rfl (St.callR C180 ja rfl rfl (Yu C180.bd h186 (by omega)) ?_)))))))))))
 intro v191 w192 C193 s194 h195
 replace o31 := (o31.spn s181).spn s194
 replace o41 := (o41.spn s181).spn s194
 replace o173 := (o173.spn s181).spn s194
 replace o177 := (o177.spn s181).spn s194
 obtain ⟨a196, c197, rfl, h198⟩ := RV.int h195
 refine O rfl (St.allocC C193 io26 rfl ?_)
 intro g199 w200 x201 y202 lt203 C204 s205 o206
 have n209 := lt203 _ o31.blk.lt
 have n210 := lt203 _ o41.blk.lt
 have n211 := lt203 _ o173.blk.lt
 have n212 := lt203 _ o177.blk.lt
 replace h147 := (h147.sp s194).sp s205
 replace h185 := (h185.sp s194).sp s205
 replace o41 := o41.spn s205
 replace o177 := o177.spn s205
 refine On (St.storeC (cs' := [(.bool (ofZ (Jk false (val (digs (val (ofZ a.toZ).mag % val (ofZ b.toZ).mag))))).neg), (.slice a196 (ofZ (Jk false (val (digs (val (ofZ a.toZ).mag % val (ofZ b.toZ).mag))))).mag.length c197)]) C204 o206 io26 rfl rfl rfl rfl rfl rfl ?_)
 intro w213 C214 s215 o216
 replace h198 := (h198.sp s205).sp s215
 replace o31 := (o31.spn s205).spo s215 n209
 replace o173 := (o173.spn s205).spo s215 n211
 refine Nl (Rh (O rfl (St.fieldAddr Zg rfl (O rfl (St.bool (St.loadO1 o173 pl4 rfl rfl ⟨_, rfl, fun hb217 => ?_, fun hb217 => ?_⟩))))))
 ·refine Om (Og rfl rfl (St.fieldAddr J3 rfl (Og rfl rfl (St.loadO1 o216 pl24 rfl rfl (Og rfl rfl (St.len sl24 rfl (Og rfl rfl (St.gtr2 rfl rfl (fun hc218 => ?_) (fun hc218 => ?_)))))))))
  ·refine OT (Nl (W.condT rfl (W.seq (W.drawC Zc 10 [[], [0], [1], [], [], [3, 4], [2, 5], [], [7], []] C214 [fx (.pointer (some ⟨g159, 0, none⟩)), fx (.bool (ofZ b.toZ).neg), fx (.bool (!(ofZ b.toZ).neg)), fx (.slice a187 (dvQ (ofZ a.toZ).mag (ofZ b.toZ).mag).length c188), fs Jb [1], fs Jb (Jr (max (dvQ (ofZ a.toZ).mag (ofZ b.toZ).mag).length [1].length + 1) (val (dvQ (ofZ a.toZ).mag (ofZ b.toZ).mag) + val [1])), fr Jv (ofZ (Jk (!(ofZ b.toZ).neg) (val (Jr (max (dvQ (ofZ a.toZ).mag (ofZ b.toZ).mag).length [1].length + 1) (val (dvQ (ofZ a.toZ).mag (ofZ b.toZ).mag) + val [1]))))), fx (.agg #[(.bool (ofZ b.toZ).neg), (.slice a145 (ofZ b.toZ).mag.length c146)]), fr Jv (ofZ (b.toZ.natAbs : Int)), fx (.agg #[(.bool (ofZ (Jk false (val (digs (val (ofZ a.toZ).mag % val (ofZ b.toZ).mag))))).neg), (.slice a196 (ofZ (Jk false (val (digs (val (ofZ a.toZ).mag % val (ofZ b.toZ).mag))))).mag.length c197)])] (by kernel_rfl) ⟨sx, sx, sx, sx, ss, ss, sr, sx, sr, sx, trivial⟩ fun f250 s251 w252 ⟨C255, S256⟩ k254 => ?_))))
   replace h147 := (h147.sp s215).sp S256
   replace h185 := (h185.sp s215).sp S256
   replace h198 := h198.sp S256
   replace o41 := (o41.spo s215 n210).spn S256
   replace o177 := (o177.spo s215 n212).spn S256
   replace o216 := o216.spn S256
   have k254 : Keep [33, 34, 35, 36, 37, 38, 39, 40, 41, 42] _ f250 := k254
   refine ⟨⟨fun _ => ?_, fun ⟨e264, _⟩ => ?_, fun ⟨e265, _⟩ => ?_, fun _ => ?_, fun _ => ?_, fun ⟨e266, d267, _⟩ => ?_, fun ⟨e268, d269, _⟩ => ?_, fun _ => ?_, fun ⟨e270, _⟩ => ?_, fun _ => ?_, trivial⟩, fun ⟨e271, e272, e273, e274, d275, d276, d277, e278, d279, e280, _⟩ => ?_⟩
   ·exact Ja k254 aN fun _ => OpSt.op (St.fieldAddr Zg rfl ⟨s251, RC.same C255, rfl⟩)
   ·exact Ja k254 (aC e264 aN) fun _ => OpSt.op (St.loadO1 o177 pl4 rfl rfl ⟨s251, RC.same C255, rfl⟩)
   ·exact Ja k254 (aC e265 aN) fun _ => OpSt.op (St.not rfl ⟨s251, RC.same C255, rfl⟩)
   ·exact Ja k254 aN fun _ => OpSt.op (St.move ⟨s251, RC.same C255, rfl⟩)
   ·refine Ja k254 aN fun _ => OpSt.op (St.bsPub (T := Jb) (css := [[(.int .u32 1)]]) (l := [1]) C255 sl24 Jh (by decide) (by decide) rfl (by kernel_rfl) ⟨⟨rfl, (by omega)⟩, trivial⟩ ?_)
    intro g285 w281 C282 s283 h284
    exact ⟨s251, ⟨C282, s283⟩, h284⟩
   ·obtain ⟨a289, c290, e288, d267⟩ := RS.opn d267
    refine Ja k254 (aC e266 (aC e288 aN)) fun _ => OpSt.op (St.callR C255 Jvx rfl rfl (Jno C255.bd h185 d267 (by omega) (by simp)) ?_)
    intro v291 w292 C293 s294 h295
    exact ⟨s251, ⟨C293, s294⟩, h295⟩
   ·obtain ⟨a297, c298, e296, d269⟩ := RS.opn d269
    refine Ja k254 (aC e268 (aC e296 aN)) fun _ => OpSt.op (St.callR C255 ja rfl rfl (Yu C255.bd d269 (by rw [Ji]; simp only [List.length_cons, List.length_nil]; omega)) ?_)
    intro v299 w300 C301 s302 h303
    exact ⟨s251, ⟨C301, s302⟩, h303⟩
   ·exact Ja k254 aN fun _ => OpSt.op (St.loadOA (vs := [(.bool (ofZ b.toZ).neg), (.slice a145 (ofZ b.toZ).mag.length c146)]) o177 ag26 rfl rfl rfl ⟨s251, RC.same C255, rfl⟩)
   ·refine Ja k254 (aC e270 aN) fun _ => OpSt.op (St.callR C255 Jpr rfl rfl (Jrn C255.bd (a := (ofZ b.toZ)) (Jj h147) (by omega)) ?_)
    intro v304 w305 C306 s307 h308
    simp only [Jp, Yv] at h308
    exact ⟨s251, ⟨C306, s307⟩, h308⟩
   ·exact Ja k254 aN fun _ => OpSt.op (St.loadOA (vs := [(.bool (ofZ (Jk false (val (digs (val (ofZ a.toZ).mag % val (ofZ b.toZ).mag))))).neg), (.slice a196 (ofZ (Jk false (val (digs (val (ofZ a.toZ).mag % val (ofZ b.toZ).mag))))).mag.length c197)]) o216 ag26 rfl rfl rfl ⟨s251, RC.same C255, rfl⟩)
   obtain ⟨a310, c311, e309, d275⟩ := RS.opn d275
   obtain ⟨a313, c314, e312, d276⟩ := RS.opn d276
   obtain ⟨a316, c317, e315, h318⟩ := RV.int d277
   obtain ⟨a320, c321, e319, h322⟩ := RV.int d279
   obtain ⟨f323, rfl⟩ := mixK k254 (aC e271 (aC e272 (aC e273 (aC e274 (aC e309 (aC e312 (aC e315 (aC e278 (aC e319 (aC e280 aN))))))))))
   refine O rfl (St.callR C255 cb217 rfl rfl (x_sub C255.bd (a := (ofZ (b.toZ.natAbs : Int))) (Jj h322) (b := (ofZ (Jk false (val (digs (val (ofZ a.toZ).mag % val (ofZ b.toZ).mag)))))) (Jj h198) (by rw [hba]; omega) (by omega)) ?_)
   intro v324 w325 C326 s327 h328
   replace h318 := h318.sp s327
   replace o31 := (o31.spn S256).spn s327
   simp only [Jp, Yv] at h328
   obtain ⟨a329, c330, rfl, h331⟩ := RV.int h328
   refine On (St.storeC (cs' := [(.bool (ofZ (Jk (!(ofZ b.toZ).neg) (val (Jr (max (dvQ (ofZ a.toZ).mag (ofZ b.toZ).mag).length [1].length + 1) (val (dvQ (ofZ a.toZ).mag (ofZ b.toZ).mag) + val [1]))))).neg), (.slice a316 (ofZ (Jk (!(ofZ b.toZ).neg) (val (Jr (max (dvQ (ofZ a.toZ).mag (ofZ b.toZ).mag).length [1].length + 1) (val (dvQ (ofZ a.toZ).mag (ofZ b.toZ).mag) + val [1]))))).mag.length c317)]) C326 o31 io26 rfl rfl rfl rfl rfl rfl ?_)
   intro w332 C333 s334 o335
   replace o41 := (o41.spn s327).spo s334 (Ne.symm n44)
   refine On (St.storeC (cs' := [(.bool (ofZ ((b.toZ.natAbs : Int) - (Jk false (val (digs (val (ofZ a.toZ).mag % val (ofZ b.toZ).mag)))))).neg), (.slice a329 (ofZ ((b.toZ.natAbs : Int) - (Jk false (val (digs (val (ofZ a.toZ).mag % val (ofZ b.toZ).mag)))))).mag.length c330)]) C333 o41 io26 rfl rfl rfl rfl rfl rfl ?_)
   intro w336 C337 s338 o339
   replace h318 := (h318.sp s334).sp s338
   replace h331 := (h331.sp s334).sp s338
   replace o335 := o335.spo s338 n44
   refine Nl (W.ret (Qk rfl (resV.c o335 rfl ag26 rfl) (resV.c o339 rfl ag26 rfl) (Ret.intro ?_ C337.below)))
   refine ⟨_, _, rfl, ?_, ?_⟩
   ·skip
    exact RV.eqv (a := (ofZ (Jk (!(ofZ b.toZ).neg) (val (Jr (max (dvQ (ofZ a.toZ).mag (ofZ b.toZ).mag).length [1].length + 1) (val (dvQ (ofZ a.toZ).mag (ofZ b.toZ).mag) + val [1])))))) ((Jj h318).tr (Tr.weak C337.base)) (congrArg ofZ (by rw [J8 _ _ (Jan Jkf Ji9), Jd4 (Ki hbz), show val [1] = 1 from rfl]; exact (Joc hbz hb217 (fun e => by have := hr3.2 e; omega)).1))
   ·skip
    exact RV.eqv (a := (ofZ ((b.toZ.natAbs : Int) - (Jk false (val (digs (val (ofZ a.toZ).mag % val (ofZ b.toZ).mag))))))) ((Jj h331).tr (Tr.weak C337.base)) (congrArg ofZ (by rw [Jt, Z7]; exact (Joc hbz hb217 (fun e => by have := hr3.2 e; omega)).2))
  refine OT (Nl (W.condF rfl (W.skip (W.seq ?_))))
  have ow349 := o31
  have hp350 : ∀ (s : Gh) (u : World) (s2 : Gh) (u2 : World), Sp s.1 s.2 u s2.1 s2.2 u2 Yc → (fun (s : Gh) (w' : World) => ∃ (a1' : Option Addr) (c1' : Nat), Own w s.2 w' g24 [(.bool (ofZ (Jk ((ofZ a.toZ).neg != (ofZ b.toZ).neg) (val (dvQ (ofZ a.toZ).mag (ofZ b.toZ).mag)))).neg), (.slice a1' (ofZ (Jk ((ofZ a.toZ).neg != (ofZ b.toZ).neg) (val (dvQ (ofZ a.toZ).mag (ofZ b.toZ).mag)))).mag.length c1')] 26 ∧ RS Jb s.1 w' (.slice a1' (ofZ (Jk ((ofZ a.toZ).neg != (ofZ b.toZ).neg) (val (dvQ (ofZ a.toZ).mag (ofZ b.toZ).mag)))).mag.length c1') ((ofZ (Jk ((ofZ a.toZ).neg != (ofZ b.toZ).neg) (val (dvQ (ofZ a.toZ).mag (ofZ b.toZ).mag)))).mag)) s u → (fun (s : Gh) (w' : World) => ∃ (a1' : Option Addr) (c1' : Nat), Own w s.2 w' g24 [(.bool (ofZ (Jk ((ofZ a.toZ).neg != (ofZ b.toZ).neg) (val (dvQ (ofZ a.toZ).mag (ofZ b.toZ).mag)))).neg), (.slice a1' (ofZ (Jk ((ofZ a.toZ).neg != (ofZ b.toZ).neg) (val (dvQ (ofZ a.toZ).mag (ofZ b.toZ).mag)))).mag.length c1')] 26 ∧ RS Jb s.1 w' (.slice a1' (ofZ (Jk ((ofZ a.toZ).neg != (ofZ b.toZ).neg) (val (dvQ (ofZ a.toZ).mag (ofZ b.toZ).mag)))).mag.length c1') ((ofZ (Jk ((ofZ a.toZ).neg != (ofZ b.toZ).neg) (val (dvQ (ofZ a.toZ).mag (ofZ b.toZ).mag)))).mag)) s2 u2 := fun _ _ _ _ p ⟨a1', c1', o, r0⟩ => ⟨a1', c1', o.spn p, r0.sp p⟩
  refine W.draw2S Zc 9 8 [[], [0], [], [2], [1, 3], [], [4, 5], [], [6]] (x201, y202) (RW X w g24 (fun (s : Gh) (w' : World) => ∃ (a1' : Option Addr) (c1' : Nat), Own w s.2 w' g24 [(.bool (ofZ (Jk ((ofZ a.toZ).neg != (ofZ b.toZ).neg) (val (dvQ (ofZ a.toZ).mag (ofZ b.toZ).mag)))).neg), (.slice a1' (ofZ (Jk ((ofZ a.toZ).neg != (ofZ b.toZ).neg) (val (dvQ (ofZ a.toZ).mag (ofZ b.toZ).mag)))).mag.length c1')] 26 ∧ RS Jb s.1 w' (.slice a1' (ofZ (Jk ((ofZ a.toZ).neg != (ofZ b.toZ).neg) (val (dvQ (ofZ a.toZ).mag (ofZ b.toZ).mag)))).mag.length c1') ((ofZ (Jk ((ofZ a.toZ).neg != (ofZ b.toZ).neg) (val (dvQ (ofZ a.toZ).mag (ofZ b.toZ).mag)))).mag))) [fx (.pointer (some ⟨g149, 0, none⟩)), fx (.bool (ofZ a.toZ).neg), fx (.pointer (some ⟨g159, 0, none⟩)), fx (.bool (ofZ b.toZ).neg), fx (.bool ((ofZ a.toZ).neg != (ofZ b.toZ).neg)), fx (.slice a187 (dvQ (ofZ a.toZ).mag (ofZ b.toZ).mag).length c188), fr Jv (ofZ (Jk ((ofZ a.toZ).neg != (ofZ b.toZ).neg) (val (dvQ (ofZ a.toZ).mag (ofZ b.toZ).mag)))), fx (.agg #[(.bool (ofZ (Jk false (val (digs (val (ofZ a.toZ).mag % val (ofZ b.toZ).mag))))).neg), (.slice a196 (ofZ (Jk false (val (digs (val (ofZ a.toZ).mag % val (ofZ b.toZ).mag))))).mag.length c197)]), fun (s : Gh) (_ : Value) (w' : World) => ∃ (a1' : Option Addr) (c1' : Nat), Own w s.2 w' g24 [(.bool (ofZ (Jk ((ofZ a.toZ).neg != (ofZ b.toZ).neg) (val (dvQ (ofZ a.toZ).mag (ofZ b.toZ).mag)))).neg), (.slice a1' (ofZ (Jk ((ofZ a.toZ).neg != (ofZ b.toZ).neg) (val (dvQ (ofZ a.toZ).mag (ofZ b.toZ).mag)))).mag.length c1')] 26 ∧ RS Jb s.1 w' (.slice a1' (ofZ (Jk ((ofZ a.toZ).neg != (ofZ b.toZ).neg) (val (dvQ (ofZ a.toZ).mag (ofZ b.toZ).mag)))).mag.length c1') ((ofZ (Jk ((ofZ a.toZ).neg != (ofZ b.toZ).neg) (val (dvQ (ofZ a.toZ).mag (ofZ b.toZ).mag)))).mag)] (by kernel_rfl) (RW.step hp350 (RC.draw C214)) RW.trans ⟨sx, sx, sx, sx, sx, sx, (fun _ _ _ _ _ h r => RV.tr h r.sp.tx), sx, (fun _ _ _ _ _ h r => r.tn h), trivial⟩ (fun _ _ _ _ h => h) fun f351 s352 w353 r354 k355 => ?_
  have C356 := r354.cx
  have S357 := r354.sp
  replace h185 := (h185.sp s215).sp S357
  replace o41 := (o41.spo s215 n210).spo S357 (Ne.symm n44)
  replace o173 := o173.spo S357 (Ne.symm n155)
  replace o177 := (o177.spo s215 n212).spo S357 (Ne.symm n165)
  replace o216 := o216.spo S357 (Ne.symm n209)
  have k355 : Keep [44, 45, 46, 47, 48, 49, 50, 51] _ f351 := k355
  refine ⟨⟨fun _ => ?_, fun ⟨e365, _⟩ => ?_, fun _ => ?_, fun ⟨e366, _⟩ => ?_, fun ⟨e367, e368, _⟩ => ?_, fun _ => ?_, fun ⟨e369, e370, _⟩ => ?_, fun _ => ?_, fun ⟨d371, _⟩ => ?_, trivial⟩, fun ⟨e372, e373, e374, e375, e376, e377, d378, e379, d380, _⟩ => ?_⟩
  ·exact Ja k355 aN fun _ => OpSt.op (St.fieldAddr Zg rfl ⟨s352, RW.step hp350 (RC.same C356), rfl⟩)
  ·exact Ja k355 (aC e365 aN) fun _ => OpSt.op (St.loadO1 o173 pl4 rfl rfl ⟨s352, RW.step hp350 (RC.same C356), rfl⟩)
  ·exact Ja k355 aN fun _ => OpSt.op (St.fieldAddr Zg rfl ⟨s352, RW.step hp350 (RC.same C356), rfl⟩)
  ·exact Ja k355 (aC e366 aN) fun _ => OpSt.op (St.loadO1 o177 pl4 rfl rfl ⟨s352, RW.step hp350 (RC.same C356), rfl⟩)
  ·exact Ja k355 (aC e367 (aC e368 aN)) fun _ => OpSt.op (St.neqB un4 rfl rfl rfl ⟨s352, RW.step hp350 (RC.same C356), rfl⟩)
  ·exact Ja k355 aN fun _ => OpSt.op (St.move ⟨s352, RW.step hp350 (RC.same C356), rfl⟩)
  ·refine Ja k355 (aC e369 (aC e370 aN)) fun _ => OpSt.op (St.callR C356 ja rfl rfl (Yu C356.bd h185 (by omega)) ?_)
   intro v381 w382 C383 s384 h385
   exact ⟨s352, RW.step hp350 ⟨C383, s384⟩, h385⟩
  ·exact Ja k355 aN fun _ => OpSt.op (St.loadOA (vs := [(.bool (ofZ (Jk false (val (digs (val (ofZ a.toZ).mag % val (ofZ b.toZ).mag))))).neg), (.slice a196 (ofZ (Jk false (val (digs (val (ofZ a.toZ).mag % val (ofZ b.toZ).mag))))).mag.length c197)]) o216 ag26 rfl rfl rfl ⟨s352, RW.step hp350 (RC.same C356), rfl⟩)
  ·obtain ⟨a387, c388, e386, h389⟩ := RV.int d371
   obtain ⟨cs390, hl391, o392⟩ := r354.ow _ _ ow349
   refine Ja k355 (aC e386 aN) fun _ => OpSt.op (St.storeAll (vs := [(.bool (ofZ (Jk ((ofZ a.toZ).neg != (ofZ b.toZ).neg) (val (dvQ (ofZ a.toZ).mag (ofZ b.toZ).mag)))).neg), (.slice a387 (ofZ (Jk ((ofZ a.toZ).neg != (ofZ b.toZ).neg) (val (dvQ (ofZ a.toZ).mag (ofZ b.toZ).mag)))).mag.length c388)]) C356 o392 io26 rfl rfl rfl (by rw [hl391]; rfl) rfl ?_)
   intro w393 C394 s395 o396
   have hq : (fun (s : Gh) (w' : World) => ∃ (a1' : Option Addr) (c1' : Nat), Own w s.2 w' g24 [(.bool (ofZ (Jk ((ofZ a.toZ).neg != (ofZ b.toZ).neg) (val (dvQ (ofZ a.toZ).mag (ofZ b.toZ).mag)))).neg), (.slice a1' (ofZ (Jk ((ofZ a.toZ).neg != (ofZ b.toZ).neg) (val (dvQ (ofZ a.toZ).mag (ofZ b.toZ).mag)))).mag.length c1')] 26 ∧ RS Jb s.1 w' (.slice a1' (ofZ (Jk ((ofZ a.toZ).neg != (ofZ b.toZ).neg) (val (dvQ (ofZ a.toZ).mag (ofZ b.toZ).mag)))).mag.length c1') ((ofZ (Jk ((ofZ a.toZ).neg != (ofZ b.toZ).neg) (val (dvQ (ofZ a.toZ).mag (ofZ b.toZ).mag)))).mag)) s352 w393 := ⟨a387, c388, o396, h389.sp s395⟩
   exact ⟨s352, RW.turn C394 s395 o392 o396 (by rw [hl391]; rfl) hq, hq⟩
  obtain ⟨a398, c399, e397, h400⟩ := RV.int d378
  obtain ⟨a402, c403, o401, h404⟩ := d380
  obtain ⟨f405, rfl⟩ := mixK k355 (aC e372 (aC e373 (aC e374 (aC e375 (aC e376 (aC e377 (aC e397 (aC e379 aN))))))))
  refine On (St.storeC (cs' := [(.bool (ofZ (Jk false (val (digs (val (ofZ a.toZ).mag % val (ofZ b.toZ).mag))))).neg), (.slice a196 (ofZ (Jk false (val (digs (val (ofZ a.toZ).mag % val (ofZ b.toZ).mag))))).mag.length c197)]) C356 o41 io26 rfl rfl rfl rfl rfl rfl ?_)
  intro w406 C407 s408 o409
  replace h198 := (h198.sp S357).sp s408
  replace h404 := h404.sp s408
  replace o401 := o401.spo s408 n44
  refine Nl (W.ret (Qk rfl (resV.c o401 rfl ag26 rfl) (resV.c o409 rfl ag26 rfl) (Ret.intro ?_ C407.below)))
  refine ⟨_, _, rfl, ?_, ?_⟩
  ·skip
   exact RV.eqv (a := (ofZ (Jk ((ofZ a.toZ).neg != (ofZ b.toZ).neg) (val (dvQ (ofZ a.toZ).mag (ofZ b.toZ).mag))))) ((Jj h404).tr (Tr.weak C407.base)) (congrArg ofZ (by rw [Jd4 (Ki hbz)]; exact (Jfr hbz (.inr (hr3.1 (by omega)))).1))
  ·skip
   exact RV.eqv (a := (ofZ (Jk false (val (digs (val (ofZ a.toZ).mag % val (ofZ b.toZ).mag)))))) ((Jj h198).tr (Tr.weak C407.base)) (congrArg ofZ (by rw [Jt, Z7]; exact (Jfr hbz (.inr (hr3.1 (by omega)))).2))
 refine Om (Ox rfl rfl rfl (Ox rfl rfl rfl (Ox rfl rfl rfl (Ox rfl rfl rfl (OF (Nl (W.condF rfl (W.skip (W.seq ?_)))))))))
 have ow419 := o31
 have hp420 : ∀ (s : Gh) (u : World) (s2 : Gh) (u2 : World), Sp s.1 s.2 u s2.1 s2.2 u2 Yc → (fun (s : Gh) (w' : World) => ∃ (a1' : Option Addr) (c1' : Nat), Own w s.2 w' g24 [(.bool (ofZ (Jk ((ofZ a.toZ).neg != (ofZ b.toZ).neg) (val (dvQ (ofZ a.toZ).mag (ofZ b.toZ).mag)))).neg), (.slice a1' (ofZ (Jk ((ofZ a.toZ).neg != (ofZ b.toZ).neg) (val (dvQ (ofZ a.toZ).mag (ofZ b.toZ).mag)))).mag.length c1')] 26 ∧ RS Jb s.1 w' (.slice a1' (ofZ (Jk ((ofZ a.toZ).neg != (ofZ b.toZ).neg) (val (dvQ (ofZ a.toZ).mag (ofZ b.toZ).mag)))).mag.length c1') ((ofZ (Jk ((ofZ a.toZ).neg != (ofZ b.toZ).neg) (val (dvQ (ofZ a.toZ).mag (ofZ b.toZ).mag)))).mag)) s u → (fun (s : Gh) (w' : World) => ∃ (a1' : Option Addr) (c1' : Nat), Own w s.2 w' g24 [(.bool (ofZ (Jk ((ofZ a.toZ).neg != (ofZ b.toZ).neg) (val (dvQ (ofZ a.toZ).mag (ofZ b.toZ).mag)))).neg), (.slice a1' (ofZ (Jk ((ofZ a.toZ).neg != (ofZ b.toZ).neg) (val (dvQ (ofZ a.toZ).mag (ofZ b.toZ).mag)))).mag.length c1')] 26 ∧ RS Jb s.1 w' (.slice a1' (ofZ (Jk ((ofZ a.toZ).neg != (ofZ b.toZ).neg) (val (dvQ (ofZ a.toZ).mag (ofZ b.toZ).mag)))).mag.length c1') ((ofZ (Jk ((ofZ a.toZ).neg != (ofZ b.toZ).neg) (val (dvQ (ofZ a.toZ).mag (ofZ b.toZ).mag)))).mag)) s2 u2 := fun _ _ _ _ p ⟨a1', c1', o, r0⟩ => ⟨a1', c1', o.spn p, r0.sp p⟩
 refine W.draw2S Zc 9 8 [[], [0], [], [2], [1, 3], [], [4, 5], [], [6]] (x201, y202) (RW X w g24 (fun (s : Gh) (w' : World) => ∃ (a1' : Option Addr) (c1' : Nat), Own w s.2 w' g24 [(.bool (ofZ (Jk ((ofZ a.toZ).neg != (ofZ b.toZ).neg) (val (dvQ (ofZ a.toZ).mag (ofZ b.toZ).mag)))).neg), (.slice a1' (ofZ (Jk ((ofZ a.toZ).neg != (ofZ b.toZ).neg) (val (dvQ (ofZ a.toZ).mag (ofZ b.toZ).mag)))).mag.length c1')] 26 ∧ RS Jb s.1 w' (.slice a1' (ofZ (Jk ((ofZ a.toZ).neg != (ofZ b.toZ).neg) (val (dvQ (ofZ a.toZ).mag (ofZ b.toZ).mag)))).mag.length c1') ((ofZ (Jk ((ofZ a.toZ).neg != (ofZ b.toZ).neg) (val (dvQ (ofZ a.toZ).mag (ofZ b.toZ).mag)))).mag))) [fx (.pointer (some ⟨g149, 0, none⟩)), fx (.bool (ofZ a.toZ).neg), fx (.pointer (some ⟨g159, 0, none⟩)), fx (.bool (ofZ b.toZ).neg), fx (.bool ((ofZ a.toZ).neg != (ofZ b.toZ).neg)), fx (.slice a187 (dvQ (ofZ a.toZ).mag (ofZ b.toZ).mag).length c188), fr Jv (ofZ (Jk ((ofZ a.toZ).neg != (ofZ b.toZ).neg) (val (dvQ (ofZ a.toZ).mag (ofZ b.toZ).mag)))), fx (.agg #[(.bool (ofZ (Jk false (val (digs (val (ofZ a.toZ).mag % val (ofZ b.toZ).mag))))).neg), (.slice a196 (ofZ (Jk false (val (digs (val (ofZ a.toZ).mag % val (ofZ b.toZ).mag))))).mag.length c197)]), fun (s : Gh) (_ : Value) (w' : World) => ∃ (a1' : Option Addr) (c1' : Nat), Own w s.2 w' g24 [(.bool (ofZ (Jk ((ofZ a.toZ).neg != (ofZ b.toZ).neg) (val (dvQ (ofZ a.toZ).mag (ofZ b.toZ).mag)))).neg), (.slice a1' (ofZ (Jk ((ofZ a.toZ).neg != (ofZ b.toZ).neg) (val (dvQ (ofZ a.toZ).mag (ofZ b.toZ).mag)))).mag.length c1')] 26 ∧ RS Jb s.1 w' (.slice a1' (ofZ (Jk ((ofZ a.toZ).neg != (ofZ b.toZ).neg) (val (dvQ (ofZ a.toZ).mag (ofZ b.toZ).mag)))).mag.length c1') ((ofZ (Jk ((ofZ a.toZ).neg != (ofZ b.toZ).neg) (val (dvQ (ofZ a.toZ).mag (ofZ b.toZ).mag)))).mag)] (by kernel_rfl) (RW.step hp420 (RC.draw C214)) RW.trans ⟨sx, sx, sx, sx, sx, sx, (fun _ _ _ _ _ h r => RV.tr h r.sp.tx), sx, (fun _ _ _ _ _ h r => r.tn h), trivial⟩ (fun _ _ _ _ h => h) fun f421 s422 w423 r424 k425 => ?_
 have C426 := r424.cx
 have S427 := r424.sp
 replace h185 := (h185.sp s215).sp S427
 replace o41 := (o41.spo s215 n210).spo S427 (Ne.symm n44)
 replace o173 := o173.spo S427 (Ne.symm n155)
 replace o177 := (o177.spo s215 n212).spo S427 (Ne.symm n165)
 replace o216 := o216.spo S427 (Ne.symm n209)
 have k425 : Keep [44, 45, 46, 47, 48, 49, 50, 51] _ f421 := k425
 refine ⟨⟨fun _ => ?_, fun ⟨e435, _⟩ => ?_, fun _ => ?_, fun ⟨e436, _⟩ => ?_, fun ⟨e437, e438, _⟩ => ?_, fun _ => ?_, fun ⟨e439, e440, _⟩ => ?_, fun _ => ?_, fun ⟨d441, _⟩ => ?_, trivial⟩, fun ⟨e442, e443, e444, e445, e446, e447, d448, e449, d450, _⟩ => ?_⟩
 ·exact Ja k425 aN fun _ => OpSt.op (St.fieldAddr Zg rfl ⟨s422, RW.step hp420 (RC.same C426), rfl⟩)
 ·exact Ja k425 (aC e435 aN) fun _ => OpSt.op (St.loadO1 o173 pl4 rfl rfl ⟨s422, RW.step hp420 (RC.same C426), rfl⟩)
 ·exact Ja k425 aN fun _ => OpSt.op (St.fieldAddr Zg rfl ⟨s422, RW.step hp420 (RC.same C426), rfl⟩)
 ·exact Ja k425 (aC e436 aN) fun _ => OpSt.op (St.loadO1 o177 pl4 rfl rfl ⟨s422, RW.step hp420 (RC.same C426), rfl⟩)
 ·exact Ja k425 (aC e437 (aC e438 aN)) fun _ => OpSt.op (St.neqB un4 rfl rfl rfl ⟨s422, RW.step hp420 (RC.same C426), rfl⟩)
 ·exact Ja k425 aN fun _ => OpSt.op (St.move ⟨s422, RW.step hp420 (RC.same C426), rfl⟩)
 ·refine Ja k425 (aC e439 (aC e440 aN)) fun _ => OpSt.op (St.callR C426 ja rfl rfl (Yu C426.bd h185 (by omega)) ?_)
  intro v451 w452 C453 s454 h455
  exact ⟨s422, RW.step hp420 ⟨C453, s454⟩, h455⟩
 ·exact Ja k425 aN fun _ => OpSt.op (St.loadOA (vs := [(.bool (ofZ (Jk false (val (digs (val (ofZ a.toZ).mag % val (ofZ b.toZ).mag))))).neg), (.slice a196 (ofZ (Jk false (val (digs (val (ofZ a.toZ).mag % val (ofZ b.toZ).mag))))).mag.length c197)]) o216 ag26 rfl rfl rfl ⟨s422, RW.step hp420 (RC.same C426), rfl⟩)
 ·obtain ⟨a457, c458, e456, h459⟩ := RV.int d441
  obtain ⟨cs460, hl461, o462⟩ := r424.ow _ _ ow419
  refine Ja k425 (aC e456 aN) fun _ => OpSt.op (St.storeAll (vs := [(.bool (ofZ (Jk ((ofZ a.toZ).neg != (ofZ b.toZ).neg) (val (dvQ (ofZ a.toZ).mag (ofZ b.toZ).mag)))).neg), (.slice a457 (ofZ (Jk ((ofZ a.toZ).neg != (ofZ b.toZ).neg) (val (dvQ (ofZ a.toZ).mag (ofZ b.toZ).mag)))).mag.length c458)]) C426 o462 io26 rfl rfl rfl (by rw [hl461]; rfl) rfl ?_)
  intro w463 C464 s465 o466
  have hq : (fun (s : Gh) (w' : World) => ∃ (a1' : Option Addr) (c1' : Nat), Own w s.2 w' g24 [(.bool (ofZ (Jk ((ofZ a.toZ).neg != (ofZ b.toZ).neg) (val (dvQ (ofZ a.toZ).mag (ofZ b.toZ).mag)))).neg), (.slice a1' (ofZ (Jk ((ofZ a.toZ).neg != (ofZ b.toZ).neg) (val (dvQ (ofZ a.toZ).mag (ofZ b.toZ).mag)))).mag.length c1')] 26 ∧ RS Jb s.1 w' (.slice a1' (ofZ (Jk ((ofZ a.toZ).neg != (ofZ b.toZ).neg) (val (dvQ (ofZ a.toZ).mag (ofZ b.toZ).mag)))).mag.length c1') ((ofZ (Jk ((ofZ a.toZ).neg != (ofZ b.toZ).neg) (val (dvQ (ofZ a.toZ).mag (ofZ b.toZ).mag)))).mag)) s422 w463 := ⟨a457, c458, o466, h459.sp s465⟩
  exact ⟨s422, RW.turn C464 s465 o462 o466 (by rw [hl461]; rfl) hq, hq⟩
 obtain ⟨a468, c469, e467, h470⟩ := RV.int d448
 obtain ⟨a472, c473, o471, h474⟩ := d450
 obtain ⟨f475, rfl⟩ := mixK k425 (aC e442 (aC e443 (aC e444 (aC e445 (aC e446 (aC e447 (aC e467 (aC e449 aN))))))))
 refine On (St.storeC (cs' := [(.bool (ofZ (Jk false (val (digs (val (ofZ a.toZ).mag % val (ofZ b.toZ).mag))))).neg), (.slice a196 (ofZ (Jk false (val (digs (val (ofZ a.toZ).mag % val (ofZ b.toZ).mag))))).mag.length c197)]) C426 o41 io26 rfl rfl rfl rfl rfl rfl ?_)
 intro w476 C477 s478 o479
 replace h198 := (h198.sp S427).sp s478
 replace h474 := h474.sp s478
 replace o471 := o471.spo s478 n44
 refine Nl (W.ret (Qk rfl (resV.c o471 rfl ag26 rfl) (resV.c o479 rfl ag26 rfl) (Ret.intro ?_ C477.below)))
 refine ⟨_, _, rfl, ?_, ?_⟩
 ·skip
  exact RV.eqv (a := (ofZ (Jk ((ofZ a.toZ).neg != (ofZ b.toZ).neg) (val (dvQ (ofZ a.toZ).mag (ofZ b.toZ).mag))))) ((Jj h474).tr (Tr.weak C477.base)) (congrArg ofZ (by rw [Jd4 (Ki hbz)]; exact (Jfr hbz (.inl hb217)).1))
 ·skip
  exact RV.eqv (a := (ofZ (Jk false (val (digs (val (ofZ a.toZ).mag % val (ofZ b.toZ).mag)))))) ((Jj h198).tr (Tr.weak C477.base)) (congrArg ofZ (by rw [Jt, Z7]; exact (Jfr hbz (.inl hb217)).2))
set_option maxHeartbeats 1000000 in
theorem Q0 {X : Nat → Prop} {w : World} (hX : ∀ b, X b → b < w.heap.size) {v0 : Value} {a : GInt} (r0 : RV Jv X w v0 a) {v1 : Value} {b : GInt} (r1 : RV Jv X w v1 b) (hla : a.mag.length ≤ 536870912) (hlb : b.mag.length ≤ 536870912) (hb0 : val b.mag ≠ 0) : Calls Tryz.prog 119 #[v0, v1] w (Ret w fun v w' => RV Jv X w' v (ofZ (a.toZ / b.toZ))) := by
 obtain ⟨a1, c2, rfl, h3⟩ := RV.int r0
 obtain ⟨a4, c5, rfl, h6⟩ := RV.int r1
 have C := Cx.start hX
 refine Calls.ofW (args := [(.agg #[(.bool a.neg), (.slice a1 a.mag.length c2)]), (.agg #[(.bool b.neg), (.slice a4 b.mag.length c5)])]) Tryz.func119 rfl rfl (Nat.le_of_ble_eq_true rfl) (Rg (O rfl (St.boxC C rfl ?_)))
 intro g7 w8 x9 y10 lt11 C12 s13 o14
 replace h3 := h3.sp s13
 replace h6 := h6.sp s13
 refine O rfl (St.boxC C12 rfl ?_)
 intro g15 w16 x17 y18 lt19 C20 s21 o22
 refine O rfl (St.allocC C20 io26 rfl ?_)
 intro g24 w25 x26 y27 lt28 C29 s30 o31
 replace h3 := (h3.sp s21).sp s30
 replace h6 := (h6.sp s21).sp s30
 replace o14 := (o14.spn s21).spn s30
 replace o22 := o22.spn s30
 refine Nl (Rg (O rfl (St.loadOA (vs := [(.bool a.neg), (.slice a1 a.mag.length c2)]) o14 ag26 rfl rfl rfl (O rfl (St.loadOA (vs := [(.bool b.neg), (.slice a4 b.mag.length c5)]) o22 ag26 rfl rfl rfl (O rfl (St.callR C29 Jrp rfl rfl (Jab C29.bd (a := a) (Jj h3) (b := b) (Jj h6) hla hlb hb0) ?_)))))))
 intro v34 w35 C36 s37 h38
 replace o31 := o31.spn s37
 obtain ⟨v39, v40, rfl, h41, h42⟩ := h38
 obtain ⟨a43, c44, rfl, h45⟩ := RV.int h41
 obtain ⟨a46, c47, rfl, h48⟩ := RV.int h42
 refine Om (O rfl (St.extract rfl rfl (O rfl (St.extract rfl rfl (O rfl (St.allocC C36 io26 rfl ?_))))))
 intro g49 w50 x51 y52 lt53 C54 s55 o56
 have n59 := lt53 _ o31.blk.lt
 replace h45 := h45.sp s55
 replace o31 := o31.spn s55
 refine O rfl (St.allocC C54 io26 rfl ?_)
 intro g60 w61 x62 y63 lt64 C65 s66 o67
 have n70 := lt64 _ o31.blk.lt
 have n71 := lt64 _ o56.blk.lt
 replace o31 := o31.spn s66
 replace o56 := o56.spn s66
 refine On (St.storeC (cs' := [(.bool (ofZ (a.toZ / b.toZ)).neg), (.slice a43 (ofZ (a.toZ / b.toZ)).mag.length c44)]) C65 o56 io26 rfl rfl rfl rfl rfl rfl ?_)
 intro w72 C73 s74 o75
 replace h45 := (h45.sp s66).sp s74
 replace o67 := o67.spo s74 (Ne.symm n71)
 refine On (St.storeC (cs' := [(.bool (ofZ (a.toZ % b.toZ)).neg), (.slice a46 (ofZ (a.toZ % b.toZ)).mag.length c47)]) C73 o67 io26 rfl rfl rfl rfl rfl rfl ?_)
 intro w76 C77 s78 o79
 replace o31 := (o31.spo s74 n59).spo s78 n70
 replace o75 := o75.spo s78 n71
 refine Nl (Rg (O rfl (St.loadOA (vs := [(.bool (ofZ (a.toZ / b.toZ)).neg), (.slice a43 (ofZ (a.toZ / b.toZ)).mag.length c44)]) o75 ag26 rfl rfl rfl (On (St.storeC (cs' := [(.bool (ofZ (a.toZ / b.toZ)).neg), (.slice a43 (ofZ (a.toZ / b.toZ)).mag.length c44)]) C77 o31 io26 rfl rfl rfl rfl rfl rfl ?_)))))
 intro w80 C81 s82 o83
 replace h45 := (h45.sp s78).sp s82
 refine Nl (W.ret (Jf rfl (resV.c o83 rfl ag26 rfl) (Ret.intro ?_ C81.below)))
 exact RV.eqv (a := (ofZ (a.toZ / b.toZ))) ((Jj h45).tr (Tr.weak C81.base)) rfl
end Go.Wf
namespace Go.Wf
open Go Go.Proofs Go.RowKit
set_option maxRecDepth 100000
set_option linter.unusedVariables false
set_option linter.unusedSimpArgs false
set_option maxHeartbeats 4000000 in
theorem x_gcd {X : Nat → Prop} {w : World} (hX : ∀ b, X b → b < w.heap.size) {v0 : Value} {a : GInt} (r0 : RV Jv X w v0 a) {v1 : Value} {b : GInt} (r1 : RV Jv X w v1 b) (hla : a.mag.length ≤ 536870912) (hlb : b.mag.length ≤ 536870912) : Calls Tryz.prog 114 #[v0, v1] w (Ret w fun v w' => RV Jv X w' v (ofZ ((Int.gcd a.toZ b.toZ : Nat) : Int))) := by
 obtain ⟨a1, c2, rfl, h3⟩ := RV.int r0
 obtain ⟨a4, c5, rfl, h6⟩ := RV.int r1
 have C := Cx.start hX
 have sa := r0.int_small
 have sb := r1.int_small
 have hN := J1 sa
 have hD := J1 sb
 refine Calls.ofW (args := [(.agg #[(.bool a.neg), (.slice a1 a.mag.length c2)]), (.agg #[(.bool b.neg), (.slice a4 b.mag.length c5)])]) Tryz.func114 rfl rfl (Nat.le_of_ble_eq_true rfl) (Rg (O rfl (St.boxC C rfl ?_)))
 intro g7 w8 x9 y10 lt11 C12 s13 o14
 refine O rfl (St.boxC C12 rfl ?_)
 intro g15 w16 x17 y18 lt19 C20 s21 o22
 replace h3 := (h3.sp s13).sp s21
 replace h6 := (h6.sp s13).sp s21
 refine O rfl (St.allocC C20 io26 rfl ?_)
 intro g24 w25 x26 y27 lt28 C29 s30 o31
 replace o14 := (o14.spn s21).spn s30
 replace o22 := o22.spn s30
 refine Nl (W.seq (W.drawS Zc 6 [[], [0], [], [2], [], []] ((x26, y27), Jgz) (RL X w) [fx (.agg #[(.bool a.neg), (.slice a1 a.mag.length c2)]), fun (s : GhL) (v : Value) (w' : World) => RV Jv s.1.1 w' v (ofZ (a.toZ.natAbs : Int)), fx (.agg #[(.bool b.neg), (.slice a4 b.mag.length c5)]), fun (s : GhL) (v : Value) (w' : World) => RV Jv s.1.1 w' v (ofZ (b.toZ.natAbs : Int)), fun (s : GhL) (v : Value) (w' : World) => ∃ g' : Nat, v = .pointer (some ⟨g', 0, none⟩) ∧ Own w s.1.2 w' g' [(.bool false), (.slice none 0 0)] 26 ∧ w25.heap.size ≤ g' ∧ s.2 g' = some 4, fun (s : GhL) (v : Value) (w' : World) => ∃ g' : Nat, v = .pointer (some ⟨g', 0, none⟩) ∧ Own w s.1.2 w' g' [(.bool false), (.slice none 0 0)] 26 ∧ w25.heap.size ≤ g' ∧ s.2 g' = some 5] (by kernel_rfl) (RL.draw C29) RL.trans ⟨sx, (fun _ _ _ _ _ h r => RV.tr h r.rc.sp.tx), sx, (fun _ _ _ _ _ h r => RV.tr h r.rc.sp.tx), (fun _ _ _ _ _ ⟨g, e, o, l, q⟩ r => ⟨g, e, o.spn r.rc.sp, l, r.ext _ _ q⟩), (fun _ _ _ _ _ ⟨g, e, o, l, q⟩ r => ⟨g, e, o.spn r.rc.sp, l, r.ext _ _ q⟩), trivial⟩ fun f74 s75 w76 r77 k78 => ?_))
 have C79 := r77.rc.cx
 have S80 := r77.rc.sp
 have lt81 := o14.blk.lt
 have lt82 := o22.blk.lt
 have lt83 := o31.blk.lt
 have hszS80 := S80.tx.size
 replace h3 := (h3.sp s30).sp S80
 replace h6 := (h6.sp s30).sp S80
 replace o14 := o14.spn S80
 replace o22 := o22.spn S80
 replace o31 := o31.spn S80
 have k78 : Keep [11, 12, 13, 14, 5, 6] _ f74 := k78
 refine ⟨⟨fun _ => ?_, fun ⟨e84, _⟩ => ?_, fun _ => ?_, fun ⟨e85, _⟩ => ?_, fun _ => ?_, fun _ => ?_, trivial⟩, fun ⟨e86, d87, e88, d89, d90, d91, _⟩ => ?_⟩
 ·exact Ja k78 aN fun _ => OpSt.op (St.loadOA (vs := [(.bool a.neg), (.slice a1 a.mag.length c2)]) o14 ag26 rfl rfl rfl ⟨s75, RL.same C79, rfl⟩)
 ·refine Ja k78 (aC e84 aN) fun _ => OpSt.op (St.callR C79 Jpr rfl rfl (Jrn C79.bd (a := a) (Jj h3) (by omega)) ?_)
  intro v92 w93 C94 s95 h96
  exact ⟨s75, RL.step ⟨C94, s95⟩, h96⟩
 ·exact Ja k78 aN fun _ => OpSt.op (St.loadOA (vs := [(.bool b.neg), (.slice a4 b.mag.length c5)]) o22 ag26 rfl rfl rfl ⟨s75, RL.same C79, rfl⟩)
 ·refine Ja k78 (aC e85 aN) fun _ => OpSt.op (St.callR C79 Jpr rfl rfl (Jrn C79.bd (a := b) (Jj h6) (by omega)) ?_)
  intro v97 w98 C99 s100 h101
  exact ⟨s75, RL.step ⟨C99, s100⟩, h101⟩
 ·refine Ja k78 aN fun _ => OpSt.op (St.allocC C79 io26 rfl ?_)
  intro g102 w103 x104 y105 lt106 C107 s108 o109
  exact ⟨((x104, y105), lab s75.2 g102 4), RL.new (r77.bd fun _ _ h => by cases h) ⟨C107, s108⟩ (Nat.le_of_not_lt fun hh => lt106 _ hh rfl) o109.blk.lt, g102, rfl, o109, Nat.le_of_not_lt fun hh => lt106 _ (Nat.lt_of_lt_of_le hh hszS80) rfl, Ql _ _ _⟩
 ·refine Ja k78 aN fun _ => OpSt.op (St.allocC C79 io26 rfl ?_)
  intro g113 w114 x115 y116 lt117 C118 s119 o120
  exact ⟨((x115, y116), lab s75.2 g113 5), RL.new (r77.bd fun _ _ h => by cases h) ⟨C118, s119⟩ (Nat.le_of_not_lt fun hh => lt117 _ hh rfl) o120.blk.lt, g113, rfl, o120, Nat.le_of_not_lt fun hh => lt117 _ (Nat.lt_of_lt_of_le hh hszS80) rfl, Ql _ _ _⟩
 obtain ⟨a125, c126, e124, h127⟩ := RV.int d87
 obtain ⟨a129, c130, e128, h131⟩ := RV.int d89
 obtain ⟨g133, e132, o134, l135, q136⟩ := d90
 have n137 : g7 ≠ g133 := Nat.ne_of_lt (Nat.lt_of_lt_of_le lt81 l135)
 have n138 : g15 ≠ g133 := Nat.ne_of_lt (Nat.lt_of_lt_of_le lt82 l135)
 have n139 : g24 ≠ g133 := Nat.ne_of_lt (Nat.lt_of_lt_of_le lt83 l135)
 obtain ⟨g142, e141, o143, l144, q145⟩ := d91
 have n146 : g7 ≠ g142 := Nat.ne_of_lt (Nat.lt_of_lt_of_le lt81 l144)
 have n147 : g15 ≠ g142 := Nat.ne_of_lt (Nat.lt_of_lt_of_le lt82 l144)
 have n148 : g24 ≠ g142 := Nat.ne_of_lt (Nat.lt_of_lt_of_le lt83 l144)
 have n149 : g133 ≠ g142 := Jfi q136 q145 rfl
 obtain ⟨f151, rfl⟩ := mixK k78 (aC e86 (aC e124 (aC e88 (aC e128 (aC e132 (aC e141 aN))))))
 refine On (St.storeC (cs' := [(.bool (ofZ (a.toZ.natAbs : Int)).neg), (.slice a125 (ofZ (a.toZ.natAbs : Int)).mag.length c126)]) C79 o134 io26 rfl rfl rfl rfl rfl rfl ?_)
 intro w152 C153 s154 o155
 replace o143 := o143.spo s154 (Ne.symm n149)
 refine On (St.storeC (cs' := [(.bool (ofZ (b.toZ.natAbs : Int)).neg), (.slice a129 (ofZ (b.toZ.natAbs : Int)).mag.length c130)]) C153 o143 io26 rfl rfl rfl rfl rfl rfl ?_)
 intro w156 C157 s158 o159
 replace h3 := (h3.sp s154).sp s158
 replace h6 := (h6.sp s154).sp s158
 replace h127 := (h127.sp s154).sp s158
 replace h131 := (h131.sp s154).sp s158
 replace o14 := (o14.spo s154 n137).spo s158 n146
 replace o22 := (o22.spo s154 n138).spo s158 n147
 replace o31 := (o31.spo s154 n139).spo s158 n148
 replace o155 := o155.spo s158 n149
 refine Nl (Rh (O rfl (St.fieldAddr J3 rfl (O rfl (St.loadO1 o155 pl24 rfl rfl (O rfl (St.len sl24 rfl (O rfl (St.leq2 rfl rfl (fun hc160 => ?_) (fun hc160 => ?_))))))))))
 ·refine Om (Og rfl rfl (St.fieldAddr J3 rfl (Og rfl rfl (St.loadO1 o159 pl24 rfl rfl (Og rfl rfl (St.len sl24 rfl (Og rfl rfl (St.leq2 rfl rfl (fun hc161 => ?_) (fun hc161 => ?_)))))))))
  ·refine OT (Nl (W.condT rfl (W.seq (W.drawC Zc 5 [[], [0], [1], [], [3]] C157 [fx (.pointer (some ⟨g133, 1, none⟩)), fx (.slice a125 (ofZ (a.toZ.natAbs : Int)).mag.length c126), fx (.int .u64 (((val (ofZ (a.toZ.natAbs : Int)).mag) : Nat) : Int)), fx (.pointer (some ⟨g142, 1, none⟩)), fx (.slice a129 (ofZ (b.toZ.natAbs : Int)).mag.length c130)] (by kernel_rfl) ⟨sx, sx, sx, sx, sx, trivial⟩ fun f168 s169 w170 ⟨C173, S174⟩ k172 => ?_))))
   replace h127 := h127.sp S174
   replace h131 := h131.sp S174
   replace o155 := o155.spn S174
   replace o159 := o159.spn S174
   have k172 : Keep [25, 26, 27, 28, 29] _ f168 := k172
   refine ⟨⟨fun _ => ?_, fun ⟨e180, _⟩ => ?_, fun ⟨e181, _⟩ => ?_, fun _ => ?_, fun ⟨e182, _⟩ => ?_, trivial⟩, fun ⟨e183, e184, e185, e186, e187, _⟩ => ?_⟩
   ·exact Ja k172 aN fun _ => OpSt.op (St.fieldAddr J3 rfl ⟨s169, RC.same C173, rfl⟩)
   ·exact Ja k172 (aC e180 aN) fun _ => OpSt.op (St.loadO1 o155 pl24 rfl rfl ⟨s169, RC.same C173, rfl⟩)
   ·refine Ja k172 (aC e181 aN) fun _ => OpSt.op (St.callR C173 Jgu rfl rfl (km C173.bd h127 (by omega)) ?_)
    intro v188 w189 C190 s191 h192
    exact ⟨s169, ⟨C190, s191⟩, h192⟩
   ·exact Ja k172 aN fun _ => OpSt.op (St.fieldAddr J3 rfl ⟨s169, RC.same C173, rfl⟩)
   ·exact Ja k172 (aC e182 aN) fun _ => OpSt.op (St.loadO1 o159 pl24 rfl rfl ⟨s169, RC.same C173, rfl⟩)
   obtain ⟨f193, rfl⟩ := mixK k172 (aC e183 (aC e184 (aC e185 (aC e186 (aC e187 aN)))))
   refine O rfl (St.callR C173 Jgu rfl rfl (km C173.bd h131 (by omega)) ?_)
   intro v194 w195 C196 s197 h198
   replace h3 := (h3.sp S174).sp s197
   replace h6 := (h6.sp S174).sp s197
   replace h127 := h127.sp s197
   replace h131 := h131.sp s197
   replace o14 := (o14.spn S174).spn s197
   replace o22 := (o22.spn S174).spn s197
   replace o31 := (o31.spn S174).spn s197
   replace o155 := o155.spn s197
   replace o159 := o159.spn s197
   subst h198
   refine Oa (Oa (Nl (W.seq (W.block (W.loopN (fun μ f v => ∃ (x y : Nat → Prop) (xx : Nat) (yy : Nat), Cx X w x y v ∧ f 4 = (.pointer (some ⟨g24, 0, none⟩)) ∧ f 5 = (.pointer (some ⟨g133, 0, none⟩)) ∧ f 6 = (.pointer (some ⟨g142, 0, none⟩)) ∧ f 26 = (.slice a125 (ofZ (a.toZ.natAbs : Int)).mag.length c126) ∧ f 7 = (.int .u64 ((xx : Nat) : Int)) ∧ f 8 = (.int .u64 ((yy : Nat) : Int)) ∧ RS Jb x v (.slice a1 a.mag.length c2) a.mag ∧ RS Jb x v (.slice a4 b.mag.length c5) b.mag ∧ RS Jb x v (.slice a125 (ofZ (a.toZ.natAbs : Int)).mag.length c126) (ofZ (a.toZ.natAbs : Int)).mag ∧ RS Jb x v (.slice a129 (ofZ (b.toZ.natAbs : Int)).mag.length c130) (ofZ (b.toZ.natAbs : Int)).mag ∧ Own w y v g7 [(.bool a.neg), (.slice a1 a.mag.length c2)] 26 ∧ Own w y v g15 [(.bool b.neg), (.slice a4 b.mag.length c5)] 26 ∧ Own w y v g24 [(.bool false), (.slice none 0 0)] 26 ∧ Own w y v g133 [(.bool (ofZ (a.toZ.natAbs : Int)).neg), (.slice a125 (ofZ (a.toZ.natAbs : Int)).mag.length c126)] 26 ∧ Own w y v g142 [(.bool (ofZ (b.toZ.natAbs : Int)).neg), (.slice a129 (ofZ (b.toZ.natAbs : Int)).mag.length c130)] 26 ∧ xx < 18446744073709551616 ∧ yy < 18446744073709551616 ∧ Nat.gcd xx yy = Int.gcd a.toZ b.toZ ∧ μ = yy) _ ⟨_, _, (val (ofZ (a.toZ.natAbs : Int)).mag), (val (ofZ (b.toZ.natAbs : Int)).mag), C196, rfl, rfl, rfl, rfl, rfl, rfl, h3, h6, h127, h131, o14, o22, o31, o155, o159, (Y5 (Y8 _) (by omega)), (Y5 (Y8 _) (by omega)), (by rw [Kb, Kb, Int.natAbs_natCast, Int.natAbs_natCast]; rfl), rfl⟩ ?_)))))
   rintro m216 f199 w200 ⟨x201, y202, xx, yy, C203, e204, e205, e206, e207, e208, e209, h3, h6, h127, h131, o210, o211, o212, o213, o214, hx, hy, hxy, hmu215⟩
   obtain ⟨f217, rfl⟩ := rebK (aC e204 (aC e205 (aC e206 (aC e207 (aC e208 (aC e209 aN))))))
   clear e204 e205 e206 e207 e208 e209
   refine Rh (Om (O rfl (St.gtr2 rfl rfl (fun hc218 => ?_) (fun hc218 => ?_))))
   ·refine Nl (W.condT rfl (W.skip (W.block (Go.Ev.W.swapRem Zc rfl rfl (by kernel_rfl) (by kernel_rfl) rfl rfl (by omega) (Xw xx yy) ?_))))
    intro f219 hK220 hp221 hq222
    have R223 := RC.draw C203
    have C224 := R223.cx
    have S225 := R223.sp
    replace h3 := h3.sp S225
    replace h6 := h6.sp S225
    replace h127 := h127.sp S225
    replace h131 := h131.sp S225
    replace o210 := o210.spn S225
    replace o211 := o211.spn S225
    replace o212 := o212.spn S225
    replace o213 := o213.spn S225
    replace o214 := o214.spn S225
    have hK220 : Keep [33, 34, 35, 36, 7, 8] _ f219 := hK220
    obtain ⟨f226, rfl⟩ := mixK hK220 (aC hp221 (aC hq222 aN))
    refine ⟨_, (by have := Nat.mod_lt xx (show 0 < yy by omega); omega), _, _, yy, xx % yy, C224, rfl, rfl, rfl, rfl, rfl, rfl, h3, h6, h127, h131, o210, o211, o212, o213, o214, hy, (by have := Nat.mod_lt xx (show 0 < yy by omega); omega), (by rw [zm, hxy]), rfl⟩
   refine Nl (W.condF rfl (W.exit (Rg (Om (O rfl (St.callR C203 Jqd rfl rfl (Jc9 C203.bd (n := xx) hx) ?_))))))
   intro v228 w229 C230 s231 h232
   obtain ⟨a233, c234, rfl, _, _⟩ := h232.len
   refine O rfl (St.callR C230 ja rfl rfl (Yu C230.bd h232 (by have h7 : (digs xx).length ≤ 2 := Jy (by omega); omega)) ?_)
   intro v235 w236 C237 s238 h239
   replace o212 := (o212.spn s231).spn s238
   obtain ⟨a240, c241, rfl, h242⟩ := RV.int h239
   refine On (St.storeC (cs' := [(.bool (ofZ (Jk false (val (digs xx)))).neg), (.slice a240 (ofZ (Jk false (val (digs xx)))).mag.length c241)]) C237 o212 io26 rfl rfl rfl rfl rfl rfl ?_)
   intro w243 C244 s245 o246
   replace h242 := h242.sp s245
   refine Nl (W.ret (Jf rfl (resV.c o246 rfl ag26 rfl) (Ret.intro ?_ C244.below)))
   exact RV.eqv (a := (ofZ (Jk false (val (digs xx))))) ((Jj h242).tr (Tr.weak C244.base)) (congrArg ofZ (by rw [Jt, Z7, ← hxy, show yy = 0 by omega, Nat.gcd_zero_right]))
  refine OT (Nl (W.condF rfl (W.skip (W.seq (W.block (W.loopN (fun μ f v => ∃ (x y : Nat → Prop) (xx : Int) (yy : Int) (p : Option Addr) (pc : Nat) (q : Option Addr) (qc : Nat), Cx X w x y v ∧ f 4 = (.pointer (some ⟨g24, 0, none⟩)) ∧ f 5 = (.pointer (some ⟨g133, 0, none⟩)) ∧ f 6 = (.pointer (some ⟨g142, 0, none⟩)) ∧ RS Jb x v (.slice a1 a.mag.length c2) a.mag ∧ RS Jb x v (.slice a4 b.mag.length c5) b.mag ∧ RS Jb x v (.slice p (ofZ xx).mag.length pc) (ofZ xx).mag ∧ RS Jb x v (.slice q (ofZ yy).mag.length qc) (ofZ yy).mag ∧ Own w y v g7 [(.bool a.neg), (.slice a1 a.mag.length c2)] 26 ∧ Own w y v g15 [(.bool b.neg), (.slice a4 b.mag.length c5)] 26 ∧ Own w y v g24 [(.bool false), (.slice none 0 0)] 26 ∧ Own w y v g133 [(.bool (ofZ xx).neg), (.slice p (ofZ xx).mag.length pc)] 26 ∧ Own w y v g142 [(.bool (ofZ yy).neg), (.slice q (ofZ yy).mag.length qc)] 26 ∧ 0 ≤ xx ∧ 0 ≤ yy ∧ Int.gcd xx yy = Int.gcd a.toZ b.toZ ∧ (ofZ xx).mag.length ≤ 536870912 ∧ (ofZ yy).mag.length ≤ 536870912 ∧ μ = yy.natAbs) _ ⟨_, _, ((a.toZ.natAbs : Nat) : Int), ((b.toZ.natAbs : Nat) : Int), a125, c126, a129, c130, C157, rfl, rfl, rfl, h3, h6, h127, h131, o14, o22, o31, o155, o159, (Int.natCast_nonneg _), (Int.natCast_nonneg _), (Jir _ _), (by rw [qn]; omega), (by rw [qn]; omega), rfl⟩ ?_))))))
  rintro m261 f247 w248 ⟨x249, y250, xx, yy, p, pc, q, qc, C251, e252, e253, e254, h3, h6, hA, hB, o255, o256, o257, o258, o259, hx0, hy0, hgg, hlx, hly, hmu260⟩
  obtain ⟨f262, rfl⟩ := rebK (aC e252 (aC e253 (aC e254 aN)))
  clear e252 e253 e254
  refine Rh (O rfl (St.fieldAddr J3 rfl (O rfl (St.loadO1 o259 pl24 rfl rfl (O rfl (St.len sl24 rfl (O rfl (St.gtr2 rfl rfl (fun hc263 => ?_) (fun hc263 => ?_)))))))))
  ·refine Nl (W.condT rfl (W.skip (W.block (Rg (O rfl (St.loadOA (vs := [(.bool (ofZ xx).neg), (.slice p (ofZ xx).mag.length pc)]) o258 ag26 rfl rfl rfl (O rfl (St.loadOA (vs := [(.bool (ofZ yy).neg), (.slice q (ofZ yy).mag.length qc)]) o259 ag26 rfl rfl rfl (O rfl (St.callR C251 Jrp rfl rfl (Jab C251.bd (a := (ofZ xx)) (Jj hA) (b := (ofZ yy)) (Jj hB) hlx hly (Jhl (by omega))) ?_))))))))))
   intro v264 w265 C266 s267 h268
   replace h3 := h3.sp s267
   replace h6 := h6.sp s267
   replace hB := hB.sp s267
   replace o255 := o255.spn s267
   replace o256 := o256.spn s267
   replace o257 := o257.spn s267
   replace o258 := o258.spn s267
   replace o259 := o259.spn s267
   simp only [Jp, Yv] at h268
   obtain ⟨v269, v270, rfl, h271, h272⟩ := h268
   obtain ⟨a273, c274, rfl, h275⟩ := RV.int h271
   obtain ⟨a276, c277, rfl, h278⟩ := RV.int h272
   refine Om (O rfl (St.extract rfl rfl (O rfl (St.extract rfl rfl (O rfl (St.allocC C266 io26 rfl ?_))))))
   intro g279 w280 x281 y282 lt283 C284 s285 o286
   have n287 := lt283 _ o255.blk.lt
   have n288 := lt283 _ o256.blk.lt
   have n289 := lt283 _ o257.blk.lt
   have n290 := lt283 _ o258.blk.lt
   have n291 := lt283 _ o259.blk.lt
   replace o255 := o255.spn s285
   replace o256 := o256.spn s285
   replace o257 := o257.spn s285
   replace o258 := o258.spn s285
   replace o259 := o259.spn s285
   refine O rfl (St.allocC C284 io26 rfl ?_)
   intro g292 w293 x294 y295 lt296 C297 s298 o299
   have n300 := lt296 _ o255.blk.lt
   have n301 := lt296 _ o256.blk.lt
   have n302 := lt296 _ o257.blk.lt
   have n303 := lt296 _ o258.blk.lt
   have n304 := lt296 _ o259.blk.lt
   have n305 := lt296 _ o286.blk.lt
   replace h3 := (h3.sp s285).sp s298
   replace h6 := (h6.sp s285).sp s298
   replace hB := (hB.sp s285).sp s298
   replace h278 := (h278.sp s285).sp s298
   replace o255 := o255.spn s298
   replace o256 := o256.spn s298
   replace o257 := o257.spn s298
   replace o258 := o258.spn s298
   replace o259 := o259.spn s298
   replace o286 := o286.spn s298
   refine On (St.storeC (cs' := [(.bool (ofZ (xx / yy)).neg), (.slice a273 (ofZ (xx / yy)).mag.length c274)]) C297 o286 io26 rfl rfl rfl rfl rfl rfl ?_)
   intro w306 C307 s308 o309
   replace o299 := o299.spo s308 (Ne.symm n305)
   refine On (St.storeC (cs' := [(.bool (ofZ (xx % yy)).neg), (.slice a276 (ofZ (xx % yy)).mag.length c277)]) C307 o299 io26 rfl rfl rfl rfl rfl rfl ?_)
   intro w310 C311 s312 o313
   replace h3 := (h3.sp s308).sp s312
   replace h6 := (h6.sp s308).sp s312
   replace hB := (hB.sp s308).sp s312
   replace h278 := (h278.sp s308).sp s312
   replace o255 := (o255.spo s308 n287).spo s312 n300
   replace o256 := (o256.spo s308 n288).spo s312 n301
   replace o257 := (o257.spo s308 n289).spo s312 n302
   replace o258 := (o258.spo s308 n290).spo s312 n303
   replace o259 := (o259.spo s308 n291).spo s312 n304
   refine Nl (Rg (O rfl (St.loadOA (vs := [(.bool (ofZ yy).neg), (.slice q (ofZ yy).mag.length qc)]) o259 ag26 rfl rfl rfl (On (St.storeC (cs' := [(.bool (ofZ yy).neg), (.slice q (ofZ yy).mag.length qc)]) C311 o258 io26 rfl rfl rfl rfl rfl rfl ?_)))))
   intro w314 C315 s316 o317
   replace o259 := o259.spo s316 (Ne.symm n149)
   replace o313 := o313.spo s316 (Ne.symm n303)
   refine Nl (W.region (O rfl (St.loadOA (vs := [(.bool (ofZ (xx % yy)).neg), (.slice a276 (ofZ (xx % yy)).mag.length c277)]) o313 ag26 rfl rfl rfl (On (St.storeC (cs' := [(.bool (ofZ (xx % yy)).neg), (.slice a276 (ofZ (xx % yy)).mag.length c277)]) C315 o259 io26 rfl rfl rfl rfl rfl rfl ?_)))))
   intro w318 C319 s320 o321
   replace h3 := (h3.sp s316).sp s320
   replace h6 := (h6.sp s316).sp s320
   replace hB := (hB.sp s316).sp s320
   replace h278 := (h278.sp s316).sp s320
   replace o255 := (o255.spo s316 n137).spo s320 n146
   replace o256 := (o256.spo s316 n138).spo s320 n147
   replace o257 := (o257.spo s316 n139).spo s320 n148
   replace o317 := o317.spo s320 n149
   refine Nl (⟨_, (by have h7 := ql (x := xx) hy0 (by omega); omega), _, _, yy, (xx % yy), q, qc, a276, c277, C319, rfl, rfl, rfl, h3, h6, hB, h278, o255, o256, o257, o317, o321, hy0, (Jnu (by omega)), (by rw [Jcb hx0 hy0, hgg]), hly, (Nat.le_trans (Jbi (by omega)) hly), rfl⟩)
  refine Nl (W.condF rfl (W.exit (Rg (O rfl (St.loadOA (vs := [(.bool (ofZ xx).neg), (.slice p (ofZ xx).mag.length pc)]) o258 ag26 rfl rfl rfl (On (St.storeC (cs' := [(.bool (ofZ xx).neg), (.slice p (ofZ xx).mag.length pc)]) C251 o257 io26 rfl rfl rfl rfl rfl rfl ?_)))))))
  intro w322 C323 s324 o325
  replace hA := hA.sp s324
  refine Nl (W.ret (Jf rfl (resV.c o325 rfl ag26 rfl) (Ret.intro ?_ C323.below)))
  exact RV.eqv (a := (ofZ xx)) ((Jj hA).tr (Tr.weak C323.base)) (congrArg ofZ (Jey hx0 hgg (by omega)))
 refine Om (Ox rfl rfl rfl (Ox rfl rfl rfl (Ox rfl rfl rfl (Ox rfl rfl rfl (OF (Nl (W.condF rfl (W.skip (W.seq (W.block (W.loopN (fun μ f v => ∃ (x y : Nat → Prop) (xx : Int) (yy : Int) (p : Option Addr) (pc : Nat) (q : Option Addr) (qc : Nat), Cx X w x y v ∧ f 4 = (.pointer (some ⟨g24, 0, none⟩)) ∧ f 5 = (.pointer (some ⟨g133, 0, none⟩)) ∧ f 6 = (.pointer (some ⟨g142, 0, none⟩)) ∧ RS Jb x v (.slice a1 a.mag.length c2) a.mag ∧ RS Jb x v (.slice a4 b.mag.length c5) b.mag ∧ RS Jb x v (.slice p (ofZ xx).mag.length pc) (ofZ xx).mag ∧ RS Jb x v (.slice q (ofZ yy).mag.length qc) (ofZ yy).mag ∧ Own w y v g7 [(.bool a.neg), (.slice a1 a.mag.length c2)] 26 ∧ Own w y v g15 [(.bool b.neg), (.slice a4 b.mag.length c5)] 26 ∧ Own w y v g24 [(.bool false), (.slice none 0 0)] 26 ∧ Own w y v g133 [(.bool (ofZ xx).neg), (.slice p (ofZ xx).mag.length pc)] 26 ∧ Own w y v g142 [(.bool (ofZ yy).neg), (.slice q (ofZ yy).mag.length qc)] 26 ∧ 0 ≤ xx ∧ 0 ≤ yy ∧ Int.gcd xx yy = Int.gcd a.toZ b.toZ ∧ (ofZ xx).mag.length ≤ 536870912 ∧ (ofZ yy).mag.length ≤ 536870912 ∧ μ = yy.natAbs) _ ⟨_, _, ((a.toZ.natAbs : Nat) : Int), ((b.toZ.natAbs : Nat) : Int), a125, c126, a129, c130, C157, rfl, rfl, rfl, h3, h6, h127, h131, o14, o22, o31, o155, o159, (Int.natCast_nonneg _), (Int.natCast_nonneg _), (Jir _ _), (by rw [qn]; omega), (by rw [qn]; omega), rfl⟩ ?_)))))))))))
 rintro m340 f326 w327 ⟨x328, y329, xx, yy, p, pc, q, qc, C330, e331, e332, e333, h3, h6, hA, hB, o334, o335, o336, o337, o338, hx0, hy0, hgg, hlx, hly, hmu339⟩
 obtain ⟨f341, rfl⟩ := rebK (aC e331 (aC e332 (aC e333 aN)))
 clear e331 e332 e333
 refine Rh (O rfl (St.fieldAddr J3 rfl (O rfl (St.loadO1 o338 pl24 rfl rfl (O rfl (St.len sl24 rfl (O rfl (St.gtr2 rfl rfl (fun hc342 => ?_) (fun hc342 => ?_)))))))))
 ·refine Nl (W.condT rfl (W.skip (W.block (Rg (O rfl (St.loadOA (vs := [(.bool (ofZ xx).neg), (.slice p (ofZ xx).mag.length pc)]) o337 ag26 rfl rfl rfl (O rfl (St.loadOA (vs := [(.bool (ofZ yy).neg), (.slice q (ofZ yy).mag.length qc)]) o338 ag26 rfl rfl rfl (O rfl (St.callR C330 Jrp rfl rfl (Jab C330.bd (a := (ofZ xx)) (Jj hA) (b := (ofZ yy)) (Jj hB) hlx hly (Jhl (by omega))) ?_))))))))))
  intro v343 w344 C345 s346 h347
  replace h3 := h3.sp s346
  replace h6 := h6.sp s346
  replace hB := hB.sp s346
  replace o334 := o334.spn s346
  replace o335 := o335.spn s346
  replace o336 := o336.spn s346
  replace o337 := o337.spn s346
  replace o338 := o338.spn s346
  simp only [Jp, Yv] at h347
  obtain ⟨v348, v349, rfl, h350, h351⟩ := h347
  obtain ⟨a352, c353, rfl, h354⟩ := RV.int h350
  obtain ⟨a355, c356, rfl, h357⟩ := RV.int h351
  refine Om (O rfl (St.extract rfl rfl (O rfl (St.extract rfl rfl (O rfl (St.allocC C345 io26 rfl ?_))))))
  intro g358 w359 x360 y361 lt362 C363 s364 o365
  have n366 := lt362 _ o334.blk.lt
  have n367 := lt362 _ o335.blk.lt
  have n368 := lt362 _ o336.blk.lt
  have n369 := lt362 _ o337.blk.lt
  have n370 := lt362 _ o338.blk.lt
  replace o334 := o334.spn s364
  replace o335 := o335.spn s364
  replace o336 := o336.spn s364
  replace o337 := o337.spn s364
  replace o338 := o338.spn s364
  refine O rfl (St.allocC C363 io26 rfl ?_)
  intro g371 w372 x373 y374 lt375 C376 s377 o378
  have n379 := lt375 _ o334.blk.lt
  have n380 := lt375 _ o335.blk.lt
  have n381 := lt375 _ o336.blk.lt
  have n382 := lt375 _ o337.blk.lt
  have n383 := lt375 _ o338.blk.lt
  have n384 := lt375 _ o365.blk.lt
  replace h3 := (h3.sp s364).sp s377
  replace h6 := (h6.sp s364).sp s377
  replace hB := (hB.sp s364).sp s377
  replace h357 := (h357.sp s364).sp s377
  replace o334 := o334.spn s377
  replace o335 := o335.spn s377
  replace o336 := o336.spn s377
  replace o337 := o337.spn s377
  replace o338 := o338.spn s377
  replace o365 := o365.spn s377
  refine On (St.storeC (cs' := [(.bool (ofZ (xx / yy)).neg), (.slice a352 (ofZ (xx / yy)).mag.length c353)]) C376 o365 io26 rfl rfl rfl rfl rfl rfl ?_)
  intro w385 C386 s387 o388
  replace o378 := o378.spo s387 (Ne.symm n384)
  refine On (St.storeC (cs' := [(.bool (ofZ (xx % yy)).neg), (.slice a355 (ofZ (xx % yy)).mag.length c356)]) C386 o378 io26 rfl rfl rfl rfl rfl rfl ?_)
  intro w389 C390 s391 o392
  replace h3 := (h3.sp s387).sp s391
  replace h6 := (h6.sp s387).sp s391
  replace hB := (hB.sp s387).sp s391
  replace h357 := (h357.sp s387).sp s391
  replace o334 := (o334.spo s387 n366).spo s391 n379
  replace o335 := (o335.spo s387 n367).spo s391 n380
  replace o336 := (o336.spo s387 n368).spo s391 n381
  replace o337 := (o337.spo s387 n369).spo s391 n382
  replace o338 := (o338.spo s387 n370).spo s391 n383
  refine Nl (Rg (O rfl (St.loadOA (vs := [(.bool (ofZ yy).neg), (.slice q (ofZ yy).mag.length qc)]) o338 ag26 rfl rfl rfl (On (St.storeC (cs' := [(.bool (ofZ yy).neg), (.slice q (ofZ yy).mag.length qc)]) C390 o337 io26 rfl rfl rfl rfl rfl rfl ?_)))))
  intro w393 C394 s395 o396
  replace o338 := o338.spo s395 (Ne.symm n149)
  replace o392 := o392.spo s395 (Ne.symm n382)
  refine Nl (W.region (O rfl (St.loadOA (vs := [(.bool (ofZ (xx % yy)).neg), (.slice a355 (ofZ (xx % yy)).mag.length c356)]) o392 ag26 rfl rfl rfl (On (St.storeC (cs' := [(.bool (ofZ (xx % yy)).neg), (.slice a355 (ofZ (xx % yy)).mag.length c356)]) C394 o338 io26 rfl rfl rfl rfl rfl rfl ?_)))))
  intro w397 C398 s399 o400
  replace h3 := (h3.sp s395).sp s399
  replace h6 := (h6.sp s395).sp s399
  replace hB := (hB.sp s395).sp s399
  replace h357 := (h357.sp s395).sp s399
  replace o334 := (o334.spo s395 n137).spo s399 n146
  replace o335 := (o335.spo s395 n138).spo s399 n147
  replace o336 := (o336.spo s395 n139).spo s399 n148
  replace o396 := o396.spo s399 n149
  refine Nl (⟨_, (by have h7 := ql (x := xx) hy0 (by omega); omega), _, _, yy, (xx % yy), q, qc, a355, c356, C398, rfl, rfl, rfl, h3, h6, hB, h357, o334, o335, o336, o396, o400, hy0, (Jnu (by omega)), (by rw [Jcb hx0 hy0, hgg]), hly, (Nat.le_trans (Jbi (by omega)) hly), rfl⟩)
 refine Nl (W.condF rfl (W.exit (Rg (O rfl (St.loadOA (vs := [(.bool (ofZ xx).neg), (.slice p (ofZ xx).mag.length pc)]) o337 ag26 rfl rfl rfl (On (St.storeC (cs' := [(.bool (ofZ xx).neg), (.slice p (ofZ xx).mag.length pc)]) C330 o336 io26 rfl rfl rfl rfl rfl rfl ?_)))))))
 intro w401 C402 s403 o404
 replace hA := hA.sp s403
 refine Nl (W.ret (Jf rfl (resV.c o404 rfl ag26 rfl) (Ret.intro ?_ C402.below)))
 exact RV.eqv (a := (ofZ xx)) ((Jj hA).tr (Tr.weak C402.base)) (congrArg ofZ (Jey hx0 hgg (by omega)))
set_option maxHeartbeats 1000000 in
theorem x_of {X : Nat → Prop} {w : World} (hX : ∀ b, X b → b < w.heap.size) {n : Int} (hlo : -9223372036854775808 ≤ n) (hhi : n ≤ 9223372036854775807) : Calls Tryz.prog 117 #[(.int .i64 n)] w (Ret w fun v w' => RV Jv X w' v (ofZ n)) := by
 have C := Cx.start hX
 refine Calls.ofW (args := [(.int .i64 n)]) Tryz.func117 rfl rfl (Nat.le_of_ble_eq_true rfl) (Rg (O rfl (St.allocC C io26 rfl ?_)))
 intro g1 w2 x3 y4 lt5 C6 s7 o8
 refine Nl (Rg (Om (O rfl (St.conv (z := (n % 18446744073709551616)) us3 Zw rfl (by rw [IntKind.wrap_u64]) (Oa (Nl (Rh (Om (O rfl (St.lss2 rfl rfl (fun hc9 => ?_) (fun hc9 => ?_)))))))))))
 ·refine Nl (W.condT rfl (W.region (Om (O rfl (St.neg (z := ((n.natAbs : Nat) : Int)) rfl (by rw [IntKind.wrap_u64]; omega) (Oa (Nl (Rg (Om (O rfl (St.lss rfl rfl rfl (Om (O rfl (St.conv (z := ((n.natAbs % 4294967296 : Nat) : Int)) Yj Yh rfl (Jm _) (Om (O rfl (St.shr rfl rfl (by decide) (Yi (d := 4294967296) _ (by decide)) ?_)))))))))))))))))
  refine O rfl (St.conv (z := (((n.natAbs / 4294967296) % 4294967296 : Nat) : Int)) Yj Yh rfl (Jm _) (O rfl (St.bsPub (T := Jb) (css := [[(.int .u32 ((n.natAbs % 4294967296 : Nat) : Int))], [(.int .u32 (((n.natAbs / 4294967296) % 4294967296 : Nat) : Int))]]) (l := [n.natAbs % 4294967296, (n.natAbs / 4294967296) % 4294967296]) C6 sl24 Jh (by decide) (by decide) rfl (by kernel_rfl) ⟨⟨rfl, (Nat.mod_lt _ (by decide))⟩, ⟨rfl, (Nat.mod_lt _ (by decide))⟩, trivial⟩ ?_)))
  intro g14 w10 C11 s12 h13
  refine O rfl (St.callR C11 ja rfl rfl (Yu C11.bd h13 (by simp)) ?_)
  intro v17 w18 C19 s20 h21
  replace o8 := (o8.spn s12).spn s20
  obtain ⟨a22, c23, rfl, h24⟩ := RV.int h21
  refine On (St.storeC (cs' := [(.bool (ofZ (Jk (decide (n < 0)) (val [n.natAbs % 4294967296, (n.natAbs / 4294967296) % 4294967296]))).neg), (.slice a22 (ofZ (Jk (decide (n < 0)) (val [n.natAbs % 4294967296, (n.natAbs / 4294967296) % 4294967296]))).mag.length c23)]) C19 o8 io26 rfl rfl rfl rfl rfl rfl ?_)
  intro w25 C26 s27 o28
  replace h24 := h24.sp s27
  refine Nl (W.ret (Jf rfl (resV.c o28 rfl ag26 rfl) (Ret.intro ?_ C26.below)))
  exact RV.eqv (a := (ofZ (Jk (decide (n < 0)) (val [n.natAbs % 4294967296, (n.natAbs / 4294967296) % 4294967296])))) ((Jj h24).tr (Tr.weak C26.base)) (congrArg ofZ (by rw [kb (by omega)]; unfold Jk; split <;> simp_all <;> omega))
 refine Nl (W.condF rfl (W.skip (W.seq ?_)))
 rw [show n % 18446744073709551616 = ((n.natAbs : Nat) : Int) by omega]
 refine W.region (Om (O rfl (St.lss rfl rfl rfl (Om (O rfl (St.conv (z := ((n.natAbs % 4294967296 : Nat) : Int)) Yj Yh rfl (Jm _) (Om (O rfl (St.shr rfl rfl (by decide) (Yi (d := 4294967296) _ (by decide)) (O rfl (St.conv (z := (((n.natAbs / 4294967296) % 4294967296 : Nat) : Int)) Yj Yh rfl (Jm _) ?_)))))))))))
 refine O rfl (St.bsPub (T := Jb) (css := [[(.int .u32 ((n.natAbs % 4294967296 : Nat) : Int))], [(.int .u32 (((n.natAbs / 4294967296) % 4294967296 : Nat) : Int))]]) (l := [n.natAbs % 4294967296, (n.natAbs / 4294967296) % 4294967296]) C6 sl24 Jh (by decide) (by decide) rfl (by kernel_rfl) ⟨⟨rfl, (Nat.mod_lt _ (by decide))⟩, ⟨rfl, (Nat.mod_lt _ (by decide))⟩, trivial⟩ ?_)
 intro g33 w29 C30 s31 h32
 refine O rfl (St.callR C30 ja rfl rfl (Yu C30.bd h32 (by simp)) ?_)
 intro v36 w37 C38 s39 h40
 replace o8 := (o8.spn s31).spn s39
 obtain ⟨a41, c42, rfl, h43⟩ := RV.int h40
 refine On (St.storeC (cs' := [(.bool (ofZ (Jk (decide (n < 0)) (val [n.natAbs % 4294967296, (n.natAbs / 4294967296) % 4294967296]))).neg), (.slice a41 (ofZ (Jk (decide (n < 0)) (val [n.natAbs % 4294967296, (n.natAbs / 4294967296) % 4294967296]))).mag.length c42)]) C38 o8 io26 rfl rfl rfl rfl rfl rfl ?_)
 intro w44 C45 s46 o47
 replace h43 := h43.sp s46
 refine Nl (W.ret (Jf rfl (resV.c o47 rfl ag26 rfl) (Ret.intro ?_ C45.below)))
 exact RV.eqv (a := (ofZ (Jk (decide (n < 0)) (val [n.natAbs % 4294967296, (n.natAbs / 4294967296) % 4294967296])))) ((Jj h43).tr (Tr.weak C45.base)) (congrArg ofZ (by rw [kb (by omega)]; unfold Jk; split <;> simp_all <;> omega))
set_option maxHeartbeats 1000000 in
theorem Jn1 {X : Nat → Prop} {w : World} (hX : ∀ b, X b → b < w.heap.size) {v0 : Value} {a : GInt} (r0 : RV Jv X w v0 a) {v1 : Value} {b : GInt} (r1 : RV Jv X w v1 b) (hla : a.mag.length ≤ 1099511627776) (hlb : b.mag.length ≤ 1099511627776) : Calls Tryz.prog 116 #[v0, v1] w (Ret w fun v w' => v = (.bool (decide (a = b)))) := by
 obtain ⟨a1, c2, rfl, h3⟩ := RV.int r0
 obtain ⟨a4, c5, rfl, h6⟩ := RV.int r1
 have C := Cx.start hX
 refine Calls.ofW (args := [(.agg #[(.bool a.neg), (.slice a1 a.mag.length c2)]), (.agg #[(.bool b.neg), (.slice a4 b.mag.length c5)])]) Tryz.func116 rfl rfl (Nat.le_of_ble_eq_true rfl) (Rg (O rfl (St.boxC C rfl ?_)))
 intro g7 w8 x9 y10 lt11 C12 s13 o14
 refine O rfl (St.boxC C12 rfl ?_)
 intro g15 w16 x17 y18 lt19 C20 s21 o22
 replace h3 := (h3.sp s13).sp s21
 replace h6 := (h6.sp s13).sp s21
 replace o14 := o14.spn s21
 refine Oa (Nl (Rh (O rfl (St.fieldAddr Zg rfl (O rfl (St.loadO1 o14 pl4 rfl rfl (O rfl (St.fieldAddr Zg rfl (O rfl (St.loadO1 o22 pl4 rfl rfl (O rfl (St.bool (St.neqB un4 rfl rfl rfl ⟨_, rfl, fun hb24 => ?_, fun hb24 => ?_⟩)))))))))))))
 ·exact Om (Ox rfl rfl rfl (Ox rfl rfl rfl (Ox rfl rfl rfl (Ox rfl rfl rfl (Ox rfl rfl rfl (Ox rfl rfl rfl (Ox rfl rfl rfl (OT (Nl (W.condT rfl (Rg (Oa (Nl (W.ret (Jf rfl (resV.t rfl) (Ret.intro (congrArg (Value.bool) (Jlw hb24)) C20.below))))))))))))))))
 refine Om (Og rfl rfl (St.fieldAddr J3 rfl (Og rfl rfl (St.loadO1 o14 pl24 rfl rfl (Og rfl rfl (St.len sl24 rfl (Og rfl rfl (St.fieldAddr J3 rfl (Og rfl rfl (St.loadO1 o22 pl24 rfl rfl (Og rfl rfl (St.len sl24 rfl (Og rfl rfl (St.neq2 rfl rfl (fun hc25 => ?_) (fun hc25 => ?_)))))))))))))))
 ·exact OF (Nl (W.condT rfl (Rg (Oa (Nl (W.ret (Jf rfl (resV.t rfl) (Ret.intro (congrArg (Value.bool) (Jmk hc25)) C20.below))))))))
 refine OF (Nl (W.condF rfl (W.skip (Rh (Oa (Nl (W.block (W.loopN (fun μ f v => ∃ (x y : Nat → Prop) (i : Nat), Cx X w x y v ∧ f 2 = (.pointer (some ⟨g7, 0, none⟩)) ∧ f 3 = (.pointer (some ⟨g15, 0, none⟩)) ∧ f 5 = (.int .i64 ((i : Nat) : Int)) ∧ RS Jb x v (.slice a1 a.mag.length c2) a.mag ∧ RS Jb x v (.slice a4 b.mag.length c5) b.mag ∧ Own w y v g7 [(.bool a.neg), (.slice a1 a.mag.length c2)] 26 ∧ Own w y v g15 [(.bool b.neg), (.slice a4 b.mag.length c5)] 26 ∧ i ≤ a.mag.length ∧ a.mag.take i = b.mag.take i ∧ μ = (a.mag.length - i)) _ ⟨_, _, 0, C20, rfl, rfl, rfl, h3, h6, o14, o22, (Nat.zero_le _), rfl, rfl⟩ ?_))))))))
 rintro m37 f26 w27 ⟨x28, y29, i, C30, e31, e32, e33, h3, h6, o34, o35, hi, he, hmu36⟩
 obtain ⟨f38, rfl⟩ := rebK (aC e31 (aC e32 (aC e33 aN)))
 clear e31 e32 e33
 refine Rh (Om (O rfl (St.fieldAddr J3 rfl (O rfl (St.loadO1 o34 pl24 rfl rfl (O rfl (St.len sl24 rfl (O rfl (St.lss2 rfl rfl (fun hc39 => ?_) (fun hc39 => ?_))))))))))
 ·refine Nl (W.condT rfl (W.skip (W.seq (W.block (W.seq (W.drawC Zc 10 [[], [0], [], [1, 2], [3], [], [5], [], [6, 7], [8]] C30 [fx (.pointer (some ⟨g7, 1, none⟩)), fx (.slice a1 a.mag.length c2), fx (.int .i64 ((i : Nat) : Int)), fE Jb (a.mag.getD i 0), fx (.int .u32 (((a.mag.getD i 0) : Nat) : Int)), fx (.pointer (some ⟨g15, 1, none⟩)), fx (.slice a4 b.mag.length c5), fx (.int .i64 ((i : Nat) : Int)), fE Jb (b.mag.getD i 0), fx (.int .u32 (((b.mag.getD i 0) : Nat) : Int))] (by kernel_rfl) ⟨sx, sx, sx, sE, sx, sx, sx, sx, sE, sx, trivial⟩ fun f51 s52 w53 ⟨C56, S57⟩ k55 => ?_))))))
  replace h3 := h3.sp S57
  replace h6 := h6.sp S57
  replace o34 := o34.spn S57
  replace o35 := o35.spn S57
  have k55 : Keep [27, 28, 29, 30, 31, 32, 33, 34, 35, 36] _ f51 := k55
  refine ⟨⟨fun _ => ?_, fun ⟨e60, _⟩ => ?_, fun _ => ?_, fun ⟨e61, e62, _⟩ => ?_, fun ⟨d63, _⟩ => ?_, fun _ => ?_, fun ⟨e64, _⟩ => ?_, fun _ => ?_, fun ⟨e65, e66, _⟩ => ?_, fun ⟨d67, _⟩ => ?_, trivial⟩, fun ⟨e68, e69, e70, d71, e72, e73, e74, e75, d76, e77, _⟩ => ?_⟩
  ·exact Ja k55 aN fun _ => OpSt.op (St.fieldAddr J3 rfl ⟨s52, RC.same C56, rfl⟩)
  ·exact Ja k55 (aC e60 aN) fun _ => OpSt.op (St.loadO1 o34 pl24 rfl rfl ⟨s52, RC.same C56, rfl⟩)
  ·exact Ja k55 aN fun _ => OpSt.op (St.move ⟨s52, RC.same C56, rfl⟩)
  ·refine Ja k55 (aC e61 (aC e62 aN)) fun _ => OpSt.op (St.idx (j := i) (u := (a.mag.getD i 0)) h3 sl24 Jh rfl rfl rfl (Jl (by omega)) ?_)
   intro b78 o79 cs80 e81
   obtain ⟨rfl, bd82⟩ : cs80 = _ ∧ _ := e81.rd
   exact ⟨s52, RC.same C56, ⟨_, _, _, rfl, e81⟩⟩
  ·obtain ⟨b84, o85, cs86, e83, e87⟩ := d63
   obtain ⟨rfl, bd88⟩ : cs86 = _ ∧ _ := e87.rd
   exact Ja k55 (aC e83 aN) fun _ => OpSt.op (St.load1 J9 rfl (e87.cell 0 _ rfl) ⟨s52, RC.same C56, rfl⟩)
  ·exact Ja k55 aN fun _ => OpSt.op (St.fieldAddr J3 rfl ⟨s52, RC.same C56, rfl⟩)
  ·exact Ja k55 (aC e64 aN) fun _ => OpSt.op (St.loadO1 o35 pl24 rfl rfl ⟨s52, RC.same C56, rfl⟩)
  ·exact Ja k55 aN fun _ => OpSt.op (St.move ⟨s52, RC.same C56, rfl⟩)
  ·refine Ja k55 (aC e65 (aC e66 aN)) fun _ => OpSt.op (St.idx (j := i) (u := (b.mag.getD i 0)) h6 sl24 Jh rfl rfl rfl (Jl (by omega)) ?_)
   intro b89 o90 cs91 e92
   obtain ⟨rfl, bd93⟩ : cs91 = _ ∧ _ := e92.rd
   exact ⟨s52, RC.same C56, ⟨_, _, _, rfl, e92⟩⟩
  ·obtain ⟨b95, o96, cs97, e94, e98⟩ := d67
   obtain ⟨rfl, bd99⟩ : cs97 = _ ∧ _ := e98.rd
   exact Ja k55 (aC e94 aN) fun _ => OpSt.op (St.load1 J9 rfl (e98.cell 0 _ rfl) ⟨s52, RC.same C56, rfl⟩)
  obtain ⟨b101, o102, cs103, e100, e104⟩ := d71
  obtain ⟨rfl, bd105⟩ : cs103 = _ ∧ _ := e104.rd
  obtain ⟨b107, o108, cs109, e106, e110⟩ := d76
  obtain ⟨rfl, bd111⟩ : cs109 = _ ∧ _ := e110.rd
  obtain ⟨f112, rfl⟩ := mixK k55 (aC e68 (aC e69 (aC e70 (aC e100 (aC e72 (aC e73 (aC e74 (aC e75 (aC e106 (aC e77 aN))))))))))
  refine O rfl (St.neq2 rfl rfl (fun hc113 => ?_) (fun hc113 => ?_))
  ·exact Nl (W.condT rfl (Rg (Oa (Nl (W.ret (Jf rfl (resV.t rfl) (Ret.intro (congrArg (Value.bool) (Jlh hc113)) C56.below)))))))
  refine Nl (W.condF rfl (W.skip (W.region (Om (O rfl (St.add rfl rfl (Je (a := i) (b := 1) (by omega)) (Oa (Nl (⟨_, (by omega), _, _, (i + 1), C56, rfl, rfl, rfl, h3, h6, o34, o35, (by omega), (Jph (d := 0) (by omega) (by omega) he (by omega)), rfl⟩)))))))))
 exact Nl (W.condF rfl (W.exit (Rg (Oa (Nl (W.ret (Jf rfl (resV.t rfl) (Ret.intro (congrArg (Value.bool) (Jmd hb24 hc25 hc39 he)) C30.below))))))))
end Go.Wf
