/- Part 3 of the texts for the claim. -/
import Derived.Test.YtoipokalbjjghaaGreatDoorStaudt2
set_option linter.unusedVariables false
set_option linter.unusedSimpArgs false
namespace Go.Wf
open Go Go.Proofs Go.RowKit
set_option maxRecDepth 100000
set_option linter.unusedVariables false
set_option linter.unusedSimpArgs false
set_option maxHeartbeats 1000000 in
theorem c_add32 {X : Nat → Prop} {w : World} (hX : ∀ b, X b → b < w.heap.size) {x : Nat} {y : Nat} {c : Nat} (hx : x < 4294967296) (hy : y < 4294967296) (hc : c ≤ 1) : Calls Tryz.prog 98 #[(.int .u32 ((x : Nat) : Int)), (.int .u32 ((y : Nat) : Int)), (.int .u32 ((c : Nat) : Int))] w (Ret w fun v w' => (∃ v0 v1, v = .tuple #[v0, v1] ∧ (v0 = (.int .u32 ((((x + y + c) % 4294967296) : Nat) : Int))) ∧ (v1 = (.int .u32 ((((x + y + c) / 4294967296) : Nat) : Int))))) := by
 have C := Cx.start hX
 refine Calls.ofW (args := [(.int .u32 ((x : Nat) : Int)), (.int .u32 ((y : Nat) : Int)), (.int .u32 ((c : Nat) : Int))]) Tryz.func98 rfl rfl (Nat.le_of_ble_eq_true rfl) (Rg (Oa (Oa (Nl (Rg (Om (O rfl (St.conv (z := ((x : Nat) : Int)) us61 un60 rfl (IntWalk.u64_in _ (by omega)) (Om ?_)))))))))
 refine O rfl (St.conv (z := ((y : Nat) : Int)) us61 un60 rfl (IntWalk.u64_in _ (by omega)) (O rfl (St.add rfl rfl (nat_add_u64 (a := x) (b := y) (by omega)) (Om (O rfl (St.conv (z := ((c : Nat) : Int)) us61 un60 rfl (IntWalk.u64_in _ (by omega)) (O rfl (St.add rfl rfl (nat_add_u64 (a := x + y) (b := c) (by omega)) (Oa (Nl (Rg ?_)))))))))))
 refine Om (O rfl (St.conv (z := ((((x + y) + c) % 4294967296 : Nat) : Int)) us60 un61 rfl (wrap_nat_u32 _) (Oa (Nl (Rg (Om (O rfl (St.shr rfl rfl (by decide) (nat_shr (d := 4294967296) _ (by decide)) (O rfl (St.conv (z := (((((x + y) + c) / 4294967296) % 4294967296 : Nat) : Int)) us60 un61 rfl (wrap_nat_u32 _) ?_))))))))))
 refine Oa (Nl (W.ret (ret_2 rfl (resV.t rfl) (resV.t rfl) (Ret.intro ?_ C.below))))
 refine ⟨_, _, rfl, ?_, ?_⟩
 · skip
   rfl
 · skip
   exact congrArg (Value.int _) (by omega)
set_option maxHeartbeats 1000000 in
theorem c_sub32 {X : Nat → Prop} {w : World} (hX : ∀ b, X b → b < w.heap.size) {x : Nat} {y : Nat} {b : Nat} (hx : x < 4294967296) (hy : y < 4294967296) (hb : b ≤ 1) : Calls Tryz.prog 99 #[(.int .u32 ((x : Nat) : Int)), (.int .u32 ((y : Nat) : Int)), (.int .u32 ((b : Nat) : Int))] w (Ret w fun v w' => (∃ v0 v1, v = .tuple #[v0, v1] ∧ (v0 = (.int .u32 ((((x + 8589934592 - y - b) % 4294967296) : Nat) : Int))) ∧ (v1 = (.int .u32 (((if x < y + b then 1 else 0) : Nat) : Int))))) := by
 have C := Cx.start hX
 have hxy : x ^^^ y < 4294967296 := Nat.xor_lt_two_pow (n := 32) hx hy
 have h1 : (4294967295 - x) &&& y < 4294967296 := Nat.and_lt_two_pow _ (n := 32) hy
 have h2 : ∀ d, d < 4294967296 → (4294967295 - (x ^^^ y)) &&& d < 4294967296 := fun d hd => Nat.and_lt_two_pow _ (n := 32) hd
 refine Calls.ofW (args := [(.int .u32 ((x : Nat) : Int)), (.int .u32 ((y : Nat) : Int)), (.int .u32 ((b : Nat) : Int))]) Tryz.func99 rfl rfl (Nat.le_of_ble_eq_true rfl) (Rg (Oa (Oa (Nl (Rg (Om (Om (O rfl (St.sub (z := (((x + 4294967296 - y) % 4294967296 : Nat) : Int)) rfl rfl (sub32a hy) ?_)))))))))
 refine Om (O rfl (St.sub (z := (((x + 8589934592 - y - b) % 4294967296 : Nat) : Int)) rfl rfl ((sub32a (by omega)).trans (by omega)) (Oa (Nl (Rg (Om (O rfl (St.notI rfl (nat_not_u32 (by omega)) (Om (O rfl (St.and rfl rfl (nat_and_u32 (a := 4294967295 - x) (b := y) (by omega) (by omega)) (Om ?_))))))))))))
 refine Om (O rfl (St.xor rfl rfl (nat_xor_u32 (a := x) (b := y) (by omega) (by omega)) (O rfl (St.notI rfl (nat_not_u32 (by omega)) (Om (O rfl (St.and rfl rfl (nat_and_u32 (a := 4294967295 - (x ^^^ y)) (b := (x + 8589934592 - y - b) % 4294967296) (by omega) (by omega)) (O rfl (St.or rfl rfl (nat_or_u32 (a := (4294967295 - x) &&& y) (b := (4294967295 - (x ^^^ y)) &&& ((x + 8589934592 - y - b) % 4294967296)) (by omega) (h2 _ (by omega))) ?_)))))))))
 refine O rfl (St.shr rfl rfl (by decide) (nat_shr (d := 2147483648) _ (by decide)) (Oa (Nl (W.ret (ret_2 rfl (resV.t rfl) (resV.t rfl) (Ret.intro ?_ C.below))))))
 refine ⟨_, _, rfl, ?_, ?_⟩
 · skip
   rfl
 · skip
   exact congrArg (Value.int _) (congrArg _ (borrow_bit hx hy hb rfl))
set_option maxHeartbeats 1000000 in
theorem c_div32 {X : Nat → Prop} {w : World} (hX : ∀ b, X b → b < w.heap.size) {hi : Nat} {lo : Nat} {y : Nat} (hh : hi < y) (hl : lo < 4294967296) (hy : y < 4294967296) : Calls Tryz.prog 142 #[(.int .u32 ((hi : Nat) : Int)), (.int .u32 ((lo : Nat) : Int)), (.int .u32 ((y : Nat) : Int))] w (Ret w fun v w' => (∃ v0 v1, v = .tuple #[v0, v1] ∧ (v0 = (.int .u32 ((((hi * 4294967296 + lo) / y) : Nat) : Int))) ∧ (v1 = (.int .u32 ((((hi * 4294967296 + lo) % y) : Nat) : Int))))) := by
 have C := Cx.start hX
 have hq : (hi * 4294967296 + lo) / y < 4294967296 := Nat.div_lt_of_lt_mul (by have := Nat.mul_le_mul_right 4294967296 (show hi + 1 ≤ y by omega); omega)
 have hr := Nat.mod_lt (hi * 4294967296 + lo) (show 0 < y by omega)
 refine Calls.ofW (args := [(.int .u32 ((hi : Nat) : Int)), (.int .u32 ((lo : Nat) : Int)), (.int .u32 ((y : Nat) : Int))]) Tryz.func142 rfl rfl (Nat.le_of_ble_eq_true rfl) (Rg (Oa (Oa (Nl (Rh (Om (O rfl (St.neq (t := true) rfl rfl (by rw [decide_eq_false (by omega)]; rfl) (Om ?_)))))))))
 refine Og rfl rfl (St.move (Og rfl rfl (St.move (Og rfl rfl (St.leq (t := false) rfl rfl (decide_eq_false (by omega)) (OT (Nl (W.condF rfl (W.skip (Rg (Om (O rfl (St.conv (z := ((hi : Nat) : Int)) us61 un60 rfl (IntWalk.u64_in _ (by omega)) (O rfl (St.shl rfl rfl (by decide) (nat_shl_u64 (a := hi) (d := 4294967296) (by decide) (by omega)) ?_)))))))))))))))
 refine Om (O rfl (St.conv (z := ((lo : Nat) : Int)) us61 un60 rfl (IntWalk.u64_in _ (by omega)) (O rfl (St.or (z := ((hi * 4294967296 + lo : Nat) : Int)) rfl rfl (word_or (by omega) (by omega)) (Oa (Nl (W.seq (W.quietC mixed 11 C (Qm (Qm (Qp (fun _ => St.conv (z := ((y : Nat) : Int)) us61 un60 rfl (IntWalk.u64_in _ (by omega)) ⟨rfl, rfl⟩) ?_)))))))))))
 refine Qp (fun _ => St.quo rfl rfl (by omega) (nat_quo_u64 (a := hi * 4294967296 + lo) (b := y) (by omega)) ⟨rfl, rfl⟩) (Qp (fun _ => St.conv (z := ((((hi * 4294967296 + lo) / y) % 4294967296 : Nat) : Int)) us60 un61 rfl (wrap_nat_u32 _) ⟨rfl, rfl⟩) (Qm (Qm (Qp (fun _ => St.conv (z := ((y : Nat) : Int)) us61 un60 rfl (IntWalk.u64_in _ (by omega)) ⟨rfl, rfl⟩) (Qp (fun _ => St.rem rfl rfl (by omega) (nat_rem (hi * 4294967296 + lo) y) ⟨rfl, rfl⟩) ?_)))))
 refine Qp (fun _ => St.conv (z := ((((hi * 4294967296 + lo) % y) % 4294967296 : Nat) : Int)) us60 un61 rfl (wrap_nat_u32 _) ⟨rfl, rfl⟩) (Qa (Qz fun w3 C1 S2 => (Oa (Nl (W.ret (ret_2 rfl (resV.t rfl) (resV.t rfl) (Ret.intro ?_ C1.below)))))))
 refine ⟨_, _, rfl, ?_, ?_⟩
 · skip
   exact congrArg (Value.int _) (congrArg _ (Nat.mod_eq_of_lt hq))
 · skip
   exact congrArg (Value.int _) (congrArg _ (Nat.mod_eq_of_lt (Nat.lt_trans hr hy)))
set_option maxHeartbeats 1000000 in
theorem c_plus {X : Nat → Prop} {w : World} (hX : ∀ b, X b → b < w.heap.size) {v0 : Value} {a : List Nat} (r0 : RS u32Ty X w v0 a) {v1 : Value} {b : List Nat} (r1 : RS u32Ty X w v1 b) (hla : a.length ≤ 549755813888) (hlb : b.length ≤ 549755813888) : Calls Tryz.prog 54 #[v0, v1] w (Ret w fun v w' => RS u32Ty X w' v (digsN (max a.length b.length + 1) (val a + val b))) := by
 obtain ⟨a1, c2, rfl, _, _⟩ := r0.len
 obtain ⟨a3, c4, rfl, _, _⟩ := r1.len
 have C := Cx.start hX
 have sa := r0.u32_small
 have sb := r1.u32_small
 refine Calls.ofW (args := [(.slice a1 a.length c2), (.slice a3 b.length c4)]) Tryz.func54 rfl rfl (Nat.le_of_ble_eq_true rfl) (Rg (Oa (Nl (Rh (Om (O rfl (St.len sl24 rfl (Om (O rfl (St.len sl24 rfl (O rfl (St.lss2 rfl rfl (fun hc5 => ?_) (fun hc5 => ?_)))))))))))))
 · refine Nl (W.condT rfl (W.region (Om (Om (Oa (Oa (Nl (Rg (Om (O rfl (St.len sl24 rfl (O rfl (St.add rfl rfl (nat_add_i64 (a := b.length) (b := 1) (by omega)) (O rfl (St.makeRow (n := (b.length + 1)) C sl24 rfl rfl rfl (by omega) io61 (by decide) ?_)))))))))))))))
   intro g6 w7 x8 y9 lt10 C11 s12 o13
   replace r0 := r0.sp s12
   replace r1 := r1.sp s12
   refine Oa (Nl (Rg (Oa (Nl (Rh (Om (O rfl (St.len sl24 rfl (Om (Nl (W.block (W.loopN (fun μ f v => ∃ (x y : Nat → Prop) (i : Nat) (p : List Nat) (c : Nat), Cx X w x y v ∧ f 0 = (.slice a3 b.length c4) ∧ f 1 = (.slice a1 a.length c2) ∧ f 4 = (.slice none 0 0) ∧ f 5 = (.slice (some ⟨g6, 0, none⟩) (b.length + 1) (b.length + 1)) ∧ f 21 = (.slice a3 b.length c4) ∧ f 22 = (.int .i64 ((b.length : Nat) : Int)) ∧ f 23 = (.int .i64 ((i : Nat) : Int)) ∧ f 6 = (.int .u32 ((c : Nat) : Int)) ∧ RS u32Ty x v (.slice a1 a.length c2) a ∧ RS u32Ty x v (.slice a3 b.length c4) b ∧ Own w y v g6 ((p ++ List.replicate ((b.length + 1) - i) 0).map u32v) 61 ∧ i ≤ b.length ∧ p.length = i ∧ small p ∧ c ≤ 1 ∧ val p + 4294967296 ^ i * c = val (b.take i) + val (a.take i) ∧ μ = (b.length - i)) _ ⟨_, _, 0, [], 0, C11, rfl, rfl, rfl, rfl, rfl, rfl, rfl, rfl, r0, r1, o13, (Nat.zero_le _), rfl, small_nil, (by omega), (by simp [val]), rfl⟩ ?_))))))))))))
   rintro m29 f14 w15 ⟨x16, y17, i, p, c, C18, e19, e20, e21, e22, e23, e24, e25, e26, r0, r1, o27, hi, hp, hs, hc, hv, hmu28⟩
   obtain ⟨f30, rfl⟩ := rebK (aC e19 (aC e20 (aC e21 (aC e22 (aC e23 (aC e24 (aC e25 (aC e26 aN))))))))
   clear e19 e20 e21 e22 e23 e24 e25 e26
   refine Rg (O rfl (St.lss2 rfl rfl (fun hc31 => ?_) (fun hc31 => ?_)))
   · refine Nl (W.seq (W.condT rfl (W.skip (W.seq (W.block (Rg (Om (O rfl (St.idx (j := i) (u := (b.getD i 0)) r1 sl24 io61 rfl rfl rfl (getSome (by omega)) ?_)))))))))
     intro b32 o33 cs34 e35
     obtain ⟨rfl, bd36⟩ : cs34 = _ ∧ _ := e35.rd
     refine O rfl (St.load1 pl61 rfl (e35.cell 0 _ rfl) (Oa (Oa (Nl (Rg (Oa (Nl (Rh (Om (Om (O rfl (St.len sl24 rfl (O rfl (St.lss2 rfl rfl (fun hc37 => ?_) (fun hc37 => ?_)))))))))))))))
     · refine Nl (W.condT rfl (W.region (Om (Om (O rfl (St.idx (j := i) (u := (a.getD i 0)) r0 sl24 io61 rfl rfl rfl (getSome (by omega)) ?_))))))
       intro b38 o39 cs40 e41
       obtain ⟨rfl, bd42⟩ : cs40 = _ ∧ _ := e41.rd
       refine O rfl (St.load1 pl61 rfl (e41.cell 0 _ rfl) (Oa (Nl (W.region (Om (Om (Om (Om (Om (O rfl (St.callR C18 cb98 rfl rfl (c_add32 C18.bd (x := (b.getD i 0)) (y := (a.getD i 0)) (c := c) (by omega) (by omega) hc) ?_)))))))))))
       intro v43 w44 C45 s46 h47
       replace o27 := o27.spn s46
       obtain ⟨v48, v49, rfl, rfl, rfl⟩ := h47
       refine Om (O rfl (St.extract rfl rfl (O rfl (St.extract rfl rfl (O rfl (St.idxRow (j := i) sl24 io61 rfl rfl rfl (by omega) (On (St.storeRow (j := i) (u := (((b.getD i 0) + (a.getD i 0) + c) % 4294967296)) C45 o27 io61 rfl rfl (by rw [List.length_append, List.length_replicate, hp]; omega) ?_))))))))
       intro w52 C53 s54 o55
       replace r0 := (r0.sp s46).sp s54
       replace r1 := (r1.sp s46).sp s54
       rw [set_fill hp (by omega)] at o55
       refine Oa (Nl (W.region (O rfl (St.add rfl rfl (nat_add_i64 (a := i) (b := 1) (by omega)) (Om (Nl (⟨_, (by omega), _, _, (i + 1), (p ++ [(((b.getD i 0) + (a.getD i 0) + c) % 4294967296)]), (((b.getD i 0) + (a.getD i 0) + c) / 4294967296), C53, rfl, rfl, rfl, rfl, rfl, rfl, rfl, rfl, r0, r1, o55, (by omega), (by rw [List.length_append, hp]; rfl), (small_snoc hs (by omega)), (by omega), (plus_step hp hv rfl rfl), rfl⟩)))))))
     refine Nl (W.condF rfl (W.skip (W.region (Om (Om (Om (Om (Om (O rfl (St.callR C18 cb98 rfl rfl (c_add32 C18.bd (x := (b.getD i 0)) (y := 0) (c := c) (by omega) (by omega) hc) ?_))))))))))
     intro v56 w57 C58 s59 h60
     replace o27 := o27.spn s59
     obtain ⟨v61, v62, rfl, rfl, rfl⟩ := h60
     refine Om (O rfl (St.extract rfl rfl (O rfl (St.extract rfl rfl (O rfl (St.idxRow (j := i) sl24 io61 rfl rfl rfl (by omega) (On (St.storeRow (j := i) (u := (((b.getD i 0) + 0 + c) % 4294967296)) C58 o27 io61 rfl rfl (by rw [List.length_append, List.length_replicate, hp]; omega) ?_))))))))
     intro w65 C66 s67 o68
     replace r0 := (r0.sp s59).sp s67
     replace r1 := (r1.sp s59).sp s67
     rw [set_fill hp (by omega)] at o68
     refine Oa (Nl (W.region (O rfl (St.add rfl rfl (nat_add_i64 (a := i) (b := 1) (by omega)) (Om (Nl (⟨_, (by omega), _, _, (i + 1), (p ++ [(((b.getD i 0) + 0 + c) % 4294967296)]), (((b.getD i 0) + 0 + c) / 4294967296), C66, rfl, rfl, rfl, rfl, rfl, rfl, rfl, rfl, r0, r1, o68, (by omega), (by rw [List.length_append, hp]; rfl), (small_snoc hs (by omega)), (by omega), (plus_step hp hv rfl (getD_ge (by omega))), rfl⟩)))))))
   refine Nl (W.seq (W.condF rfl (W.exit (Rg (Om (Om (O rfl (St.len sl24 rfl (Om (O rfl (St.idxRow (j := b.length) sl24 io61 rfl rfl rfl (by omega) (On (St.storeRow (j := b.length) (u := c) C18 o27 io61 rfl rfl (by rw [List.length_append, List.length_replicate, hp]; omega) ?_)))))))))))))
   intro w69 C70 s71 o72
   rw [set_fillE hp (by omega)] at o72
   exact Nl (Rg (Om (Oa (Nl (W.ret (ret_1 rfl (resV.t rfl) (Ret.intro (RS.eqv (o72.rowRS C70 hX (by rw [List.length_append, hp]; show _ = _ + 1; omega) (by omega) (small_snoc hs (by omega)) id) (((plus_end (A := b) (B := a) hs (by omega) rfl (by omega) hc (by rw [show b.length = i by omega]; exact hv)).trans (by rw [Nat.max_eq_right (by omega), Nat.add_comm (val b)])))) C70.below)))))))
 refine Nl (W.condF rfl (W.skip (Rg (Om (O rfl (St.len sl24 rfl (O rfl (St.add rfl rfl (nat_add_i64 (a := a.length) (b := 1) (by omega)) (O rfl (St.makeRow (n := (a.length + 1)) C sl24 rfl rfl rfl (by omega) io61 (by decide) ?_))))))))))
 intro g73 w74 x75 y76 lt77 C78 s79 o80
 replace r0 := r0.sp s79
 replace r1 := r1.sp s79
 refine Oa (Nl (Rg (Oa (Nl (Rh (Om (O rfl (St.len sl24 rfl (Om (Nl (W.block (W.loopN (fun μ f v => ∃ (x y : Nat → Prop) (i : Nat) (p : List Nat) (c : Nat), Cx X w x y v ∧ f 0 = (.slice a1 a.length c2) ∧ f 1 = (.slice a3 b.length c4) ∧ f 4 = (.slice none 0 0) ∧ f 5 = (.slice (some ⟨g73, 0, none⟩) (a.length + 1) (a.length + 1)) ∧ f 21 = (.slice a1 a.length c2) ∧ f 22 = (.int .i64 ((a.length : Nat) : Int)) ∧ f 23 = (.int .i64 ((i : Nat) : Int)) ∧ f 6 = (.int .u32 ((c : Nat) : Int)) ∧ RS u32Ty x v (.slice a1 a.length c2) a ∧ RS u32Ty x v (.slice a3 b.length c4) b ∧ Own w y v g73 ((p ++ List.replicate ((a.length + 1) - i) 0).map u32v) 61 ∧ i ≤ a.length ∧ p.length = i ∧ small p ∧ c ≤ 1 ∧ val p + 4294967296 ^ i * c = val (a.take i) + val (b.take i) ∧ μ = (a.length - i)) _ ⟨_, _, 0, [], 0, C78, rfl, rfl, rfl, rfl, rfl, rfl, rfl, rfl, r0, r1, o80, (Nat.zero_le _), rfl, small_nil, (by omega), (by simp [val]), rfl⟩ ?_))))))))))))
 rintro m96 f81 w82 ⟨x83, y84, i, p, c, C85, e86, e87, e88, e89, e90, e91, e92, e93, r0, r1, o94, hi, hp, hs, hc, hv, hmu95⟩
 obtain ⟨f97, rfl⟩ := rebK (aC e86 (aC e87 (aC e88 (aC e89 (aC e90 (aC e91 (aC e92 (aC e93 aN))))))))
 clear e86 e87 e88 e89 e90 e91 e92 e93
 refine Rg (O rfl (St.lss2 rfl rfl (fun hc98 => ?_) (fun hc98 => ?_)))
 · refine Nl (W.seq (W.condT rfl (W.skip (W.seq (W.block (Rg (Om (O rfl (St.idx (j := i) (u := (a.getD i 0)) r0 sl24 io61 rfl rfl rfl (getSome (by omega)) ?_)))))))))
   intro b99 o100 cs101 e102
   obtain ⟨rfl, bd103⟩ : cs101 = _ ∧ _ := e102.rd
   refine O rfl (St.load1 pl61 rfl (e102.cell 0 _ rfl) (Oa (Oa (Nl (Rg (Oa (Nl (Rh (Om (Om (O rfl (St.len sl24 rfl (O rfl (St.lss2 rfl rfl (fun hc104 => ?_) (fun hc104 => ?_)))))))))))))))
   · refine Nl (W.condT rfl (W.region (Om (Om (O rfl (St.idx (j := i) (u := (b.getD i 0)) r1 sl24 io61 rfl rfl rfl (getSome (by omega)) ?_))))))
     intro b105 o106 cs107 e108
     obtain ⟨rfl, bd109⟩ : cs107 = _ ∧ _ := e108.rd
     refine O rfl (St.load1 pl61 rfl (e108.cell 0 _ rfl) (Oa (Nl (W.region (Om (Om (Om (Om (Om (O rfl (St.callR C85 cb98 rfl rfl (c_add32 C85.bd (x := (a.getD i 0)) (y := (b.getD i 0)) (c := c) (by omega) (by omega) hc) ?_)))))))))))
     intro v110 w111 C112 s113 h114
     replace o94 := o94.spn s113
     obtain ⟨v115, v116, rfl, rfl, rfl⟩ := h114
     refine Om (O rfl (St.extract rfl rfl (O rfl (St.extract rfl rfl (O rfl (St.idxRow (j := i) sl24 io61 rfl rfl rfl (by omega) (On (St.storeRow (j := i) (u := (((a.getD i 0) + (b.getD i 0) + c) % 4294967296)) C112 o94 io61 rfl rfl (by rw [List.length_append, List.length_replicate, hp]; omega) ?_))))))))
     intro w119 C120 s121 o122
     replace r0 := (r0.sp s113).sp s121
     replace r1 := (r1.sp s113).sp s121
     rw [set_fill hp (by omega)] at o122
     refine Oa (Nl (W.region (O rfl (St.add rfl rfl (nat_add_i64 (a := i) (b := 1) (by omega)) (Om (Nl (⟨_, (by omega), _, _, (i + 1), (p ++ [(((a.getD i 0) + (b.getD i 0) + c) % 4294967296)]), (((a.getD i 0) + (b.getD i 0) + c) / 4294967296), C120, rfl, rfl, rfl, rfl, rfl, rfl, rfl, rfl, r0, r1, o122, (by omega), (by rw [List.length_append, hp]; rfl), (small_snoc hs (by omega)), (by omega), (plus_step hp hv rfl rfl), rfl⟩)))))))
   refine Nl (W.condF rfl (W.skip (W.region (Om (Om (Om (Om (Om (O rfl (St.callR C85 cb98 rfl rfl (c_add32 C85.bd (x := (a.getD i 0)) (y := 0) (c := c) (by omega) (by omega) hc) ?_))))))))))
   intro v123 w124 C125 s126 h127
   replace o94 := o94.spn s126
   obtain ⟨v128, v129, rfl, rfl, rfl⟩ := h127
   refine Om (O rfl (St.extract rfl rfl (O rfl (St.extract rfl rfl (O rfl (St.idxRow (j := i) sl24 io61 rfl rfl rfl (by omega) (On (St.storeRow (j := i) (u := (((a.getD i 0) + 0 + c) % 4294967296)) C125 o94 io61 rfl rfl (by rw [List.length_append, List.length_replicate, hp]; omega) ?_))))))))
   intro w132 C133 s134 o135
   replace r0 := (r0.sp s126).sp s134
   replace r1 := (r1.sp s126).sp s134
   rw [set_fill hp (by omega)] at o135
   refine Oa (Nl (W.region (O rfl (St.add rfl rfl (nat_add_i64 (a := i) (b := 1) (by omega)) (Om (Nl (⟨_, (by omega), _, _, (i + 1), (p ++ [(((a.getD i 0) + 0 + c) % 4294967296)]), (((a.getD i 0) + 0 + c) / 4294967296), C133, rfl, rfl, rfl, rfl, rfl, rfl, rfl, rfl, r0, r1, o135, (by omega), (by rw [List.length_append, hp]; rfl), (small_snoc hs (by omega)), (by omega), (plus_step hp hv rfl (getD_ge (by omega))), rfl⟩)))))))
 refine Nl (W.seq (W.condF rfl (W.exit (Rg (Om (Om (O rfl (St.len sl24 rfl (Om (O rfl (St.idxRow (j := a.length) sl24 io61 rfl rfl rfl (by omega) (On (St.storeRow (j := a.length) (u := c) C85 o94 io61 rfl rfl (by rw [List.length_append, List.length_replicate, hp]; omega) ?_)))))))))))))
 intro w136 C137 s138 o139
 rw [set_fillE hp (by omega)] at o139
 exact Nl (Rg (Om (Oa (Nl (W.ret (ret_1 rfl (resV.t rfl) (Ret.intro (RS.eqv (o139.rowRS C137 hX (by rw [List.length_append, hp]; show _ = _ + 1; omega) (by omega) (small_snoc hs (by omega)) id) (((plus_end (A := a) (B := b) hs (by omega) rfl (by omega) hc (by rw [show a.length = i by omega]; exact hv)).trans (by rw [Nat.max_eq_left (by omega)])))) C137.below)))))))
set_option maxHeartbeats 1000000 in
theorem c_less {X : Nat → Prop} {w : World} (hX : ∀ b, X b → b < w.heap.size) {v0 : Value} {a : List Nat} (r0 : RS u32Ty X w v0 a) {v1 : Value} {b : List Nat} (r1 : RS u32Ty X w v1 b) (hla : a.length ≤ 1099511627776) (hlb : b.length ≤ a.length) (hle : val b ≤ val a) : Calls Tryz.prog 55 #[v0, v1] w (Ret w fun v w' => RS u32Ty X w' v (digsN a.length (val a - val b))) := by
 obtain ⟨a1, c2, rfl, _, _⟩ := r0.len
 obtain ⟨a3, c4, rfl, _, _⟩ := r1.len
 have C := Cx.start hX
 have sa := r0.u32_small
 have sb := r1.u32_small
 refine Calls.ofW (args := [(.slice a1 a.length c2), (.slice a3 b.length c4)]) Tryz.func55 rfl rfl (Nat.le_of_ble_eq_true rfl) (Rg (Oa (Nl (Rg (Om (O rfl (St.len sl24 rfl (O rfl (St.makeRow (n := a.length) C sl24 rfl rfl rfl (by omega) io61 (by decide) ?_)))))))))
 intro g5 w6 x7 y8 lt9 C10 s11 o12
 replace r0 := r0.sp s11
 replace r1 := r1.sp s11
 refine Oa (Nl (Rg (Oa (Nl (Rh (Om (O rfl (St.len sl24 rfl (Om (Nl (W.block (W.loopN (fun μ f v => ∃ (x y : Nat → Prop) (i : Nat) (p : List Nat) (c : Nat), Cx X w x y v ∧ f 1 = (.slice a3 b.length c4) ∧ f 4 = (.slice none 0 0) ∧ f 5 = (.slice (some ⟨g5, 0, none⟩) a.length a.length) ∧ f 13 = (.slice a1 a.length c2) ∧ f 14 = (.int .i64 ((a.length : Nat) : Int)) ∧ f 15 = (.int .i64 ((i : Nat) : Int)) ∧ f 6 = (.int .u32 ((c : Nat) : Int)) ∧ RS u32Ty x v (.slice a1 a.length c2) a ∧ RS u32Ty x v (.slice a3 b.length c4) b ∧ Own w y v g5 ((p ++ List.replicate (a.length - i) 0).map u32v) 61 ∧ i ≤ a.length ∧ p.length = i ∧ small p ∧ c ≤ 1 ∧ val p + val (b.take i) = val (a.take i) + 4294967296 ^ i * c ∧ μ = (a.length - i)) _ ⟨_, _, 0, [], 0, C10, rfl, rfl, rfl, rfl, rfl, rfl, rfl, r0, r1, o12, (Nat.zero_le _), rfl, small_nil, (by omega), (by simp [val]), rfl⟩ ?_))))))))))))
 rintro m27 f13 w14 ⟨x15, y16, i, p, c, C17, e18, e19, e20, e21, e22, e23, e24, r0, r1, o25, hi, hp, hs, hc, hv, hmu26⟩
 obtain ⟨f28, rfl⟩ := rebK (aC e18 (aC e19 (aC e20 (aC e21 (aC e22 (aC e23 (aC e24 aN)))))))
 clear e18 e19 e20 e21 e22 e23 e24
 refine Rg (O rfl (St.lss2 rfl rfl (fun hc29 => ?_) (fun hc29 => ?_)))
 · refine Nl (W.seq (W.condT rfl (W.skip (W.seq (W.block (Rg (Om (O rfl (St.idx (j := i) (u := (a.getD i 0)) r0 sl24 io61 rfl rfl rfl (getSome (by omega)) ?_)))))))))
   intro b30 o31 cs32 e33
   obtain ⟨rfl, bd34⟩ : cs32 = _ ∧ _ := e33.rd
   refine O rfl (St.load1 pl61 rfl (e33.cell 0 _ rfl) (Oa (Oa (Nl (Rg (Oa (Nl (Rh (Om (Om (O rfl (St.len sl24 rfl (O rfl (St.lss2 rfl rfl (fun hc35 => ?_) (fun hc35 => ?_)))))))))))))))
   · refine Nl (W.condT rfl (W.region (Om (Om (O rfl (St.idx (j := i) (u := (b.getD i 0)) r1 sl24 io61 rfl rfl rfl (getSome (by omega)) ?_))))))
     intro b36 o37 cs38 e39
     obtain ⟨rfl, bd40⟩ : cs38 = _ ∧ _ := e39.rd
     refine O rfl (St.load1 pl61 rfl (e39.cell 0 _ rfl) (Oa (Nl (W.region (Om (Om (Om (Om (Om (O rfl (St.callR C17 cb99 rfl rfl (c_sub32 C17.bd (x := (a.getD i 0)) (y := (b.getD i 0)) (b := c) (by omega) (by omega) hc) ?_)))))))))))
     intro v41 w42 C43 s44 h45
     replace o25 := o25.spn s44
     obtain ⟨v46, v47, rfl, rfl, rfl⟩ := h45
     refine Om (O rfl (St.extract rfl rfl (O rfl (St.extract rfl rfl (O rfl (St.idxRow (j := i) sl24 io61 rfl rfl rfl (by omega) (On (St.storeRow (j := i) (u := (((a.getD i 0) + 8589934592 - (b.getD i 0) - c) % 4294967296)) C43 o25 io61 rfl rfl (by rw [List.length_append, List.length_replicate, hp]; omega) ?_))))))))
     intro w50 C51 s52 o53
     replace r0 := (r0.sp s44).sp s52
     replace r1 := (r1.sp s44).sp s52
     rw [set_fill hp (by omega)] at o53
     refine Oa (Nl (W.region (O rfl (St.add rfl rfl (nat_add_i64 (a := i) (b := 1) (by omega)) (Om (Nl (⟨_, (by omega), _, _, (i + 1), (p ++ [(((a.getD i 0) + 8589934592 - (b.getD i 0) - c) % 4294967296)]), (if (a.getD i 0) < (b.getD i 0) + c then 1 else 0), C51, rfl, rfl, rfl, rfl, rfl, rfl, rfl, r0, r1, o53, (by omega), (by rw [List.length_append, hp]; rfl), (small_snoc hs (by omega)), (by split <;> omega), (less_step hp hc (small_getD sa _) (small_getD sb _) hv rfl rfl), rfl⟩)))))))
   refine Nl (W.condF rfl (W.skip (W.region (Om (Om (Om (Om (Om (O rfl (St.callR C17 cb99 rfl rfl (c_sub32 C17.bd (x := (a.getD i 0)) (y := 0) (b := c) (by omega) (by omega) hc) ?_))))))))))
   intro v54 w55 C56 s57 h58
   replace o25 := o25.spn s57
   obtain ⟨v59, v60, rfl, rfl, rfl⟩ := h58
   refine Om (O rfl (St.extract rfl rfl (O rfl (St.extract rfl rfl (O rfl (St.idxRow (j := i) sl24 io61 rfl rfl rfl (by omega) (On (St.storeRow (j := i) (u := (((a.getD i 0) + 8589934592 - 0 - c) % 4294967296)) C56 o25 io61 rfl rfl (by rw [List.length_append, List.length_replicate, hp]; omega) ?_))))))))
   intro w63 C64 s65 o66
   replace r0 := (r0.sp s57).sp s65
   replace r1 := (r1.sp s57).sp s65
   rw [set_fill hp (by omega)] at o66
   refine Oa (Nl (W.region (O rfl (St.add rfl rfl (nat_add_i64 (a := i) (b := 1) (by omega)) (Om (Nl (⟨_, (by omega), _, _, (i + 1), (p ++ [(((a.getD i 0) + 8589934592 - 0 - c) % 4294967296)]), (if (a.getD i 0) < 0 + c then 1 else 0), C64, rfl, rfl, rfl, rfl, rfl, rfl, rfl, r0, r1, o66, (by omega), (by rw [List.length_append, hp]; rfl), (small_snoc hs (by omega)), (by split <;> omega), (less_step hp hc (small_getD sa _) (by omega) hv rfl (getD_ge (by omega))), rfl⟩)))))))
 exact Nl (W.seq (W.condF rfl (W.exit (Rg (Om (Oa (Nl (W.ret (ret_1 rfl (resV.t rfl) (Ret.intro (RS.eqv (o25.rowRS C17 hX (by rw [List.length_append, List.length_replicate, hp]; omega) (by omega) (small_append hs (small_rep _)) id) ((by rw [show a.length - i = 0 by omega, List.replicate_zero, List.append_nil]; exact less_end hs hp (by omega) hlb hle hv))) C17.below))))))))))
end Go.Wf
namespace Go.Wf
set_option linter.unusedVariables false
set_option linter.unusedSimpArgs false
open Go
theorem mulle {x y : Nat} (hx : x < 4294967296) (hy : y < 4294967296) : x * y ≤ 18446744065119617025 :=
  Nat.le_trans (Nat.mul_le_mul (show x ≤ 4294967295 by omega) (show y ≤ 4294967295 by omega)) (by omega)
theorem small_set {l : List Nat} (h : small l) {d : Nat} (hd : d < 4294967296) (k : Nat) : small (l.set k d) := by
  intro u hu
  rcases List.mem_or_eq_of_mem_set hu with hu | rfl
  · exact h u hu
  · exact hd
theorem getD_set_ne {l : List Nat} {k m d : Nat} (h : m ≠ k) : (l.set k d).getD m 0 = l.getD m 0 := by
  have h' : ¬ k = m := fun e => h e.symm
  simp [List.getD_eq_getElem?_getD, List.getElem?_set, h']
theorem val_set : ∀ {l : List Nat} {k d : Nat}, k < l.length → val (l.set k d) + 4294967296 ^ k * l.getD k 0 = val l + 4294967296 ^ k * d
  | [], _, _, h => by simp at h
  | e :: l, 0, d, _ => by simp [val]; omega
  | e :: l, k + 1, d, h => by
    have := val_set (l := l) (k := k) (d := d) (by simpa using h)
    have e1 : (e :: l).getD (k + 1) 0 = l.getD k 0 := by simp [List.getD_eq_getElem?_getD]
    rw [List.set_cons_succ, val, val, e1, Nat.pow_succ]
    generalize hq : 4294967296 ^ k = q at this ⊢
    rw [Nat.mul_comm q 4294967296, Nat.mul_assoc, Nat.mul_assoc]
    omega
theorem times_step {L : List Nat} {i j c x y V W : Nat} (hk : i + j < L.length) (hv : val L + 4294967296 ^ (i + j) * c = V + 4294967296 ^ i * (x * W)) {W' : Nat} (hW : W' = W + 4294967296 ^ j * y) :
    val (L.set (i + j) ((x * y + L.getD (i + j) 0 + c) % 4294967296)) + 4294967296 ^ (i + (j + 1)) * ((x * y + L.getD (i + j) 0 + c) / 4294967296) = V + 4294967296 ^ i * (x * W') := by
  have h1 := val_set (d := (x * y + L.getD (i + j) 0 + c) % 4294967296) hk
  have h2 := mulB (q := 4294967296 ^ (i + j)) (s := x * y + L.getD (i + j) 0 + c)
  rw [show i + (j + 1) = (i + j) + 1 by omega, Nat.pow_succ, hW]
  rw [Nat.mul_add, Nat.mul_add] at h2
  have h3 : 4294967296 ^ i * (x * (W + 4294967296 ^ j * y)) = 4294967296 ^ i * (x * W) + 4294967296 ^ (i + j) * (x * y) := by
    rw [Nat.mul_add, Nat.mul_add, Nat.pow_add]
    congr 1
    rw [Nat.mul_assoc, Nat.mul_left_comm x]
  omega
theorem times_row {L' : List Nat} {i n c x V W : Nat} (hk : i + n < L'.length) (hz : L'.getD (i + n) 0 = 0) (hv : val L' + 4294967296 ^ (i + n) * c = V * W + 4294967296 ^ i * (x * W)) :
    val (L'.set (i + n) c) = (V + 4294967296 ^ i * x) * W := by
  have h1 := val_set (d := c) hk
  rw [hz, Nat.mul_zero] at h1
  rw [Nat.add_mul, Nat.mul_assoc]
  omega
def timesD (a b : List Nat) : List Nat := if a = [] ∨ b = [] then [] else if a.length = 1 ∧ b.length = 1 then digs (val a * val b) else digsN (a.length + b.length) (val a * val b)
theorem val_mul_lt {a b : List Nat} (sa : small a) (sb : small b) : val a * val b < 4294967296 ^ (a.length + b.length) := by
  rw [Nat.pow_add]
  exact Nat.mul_lt_mul'' (val_lt a sa) (val_lt b sb)
theorem trim_timesD {a b : List Nat} (sa : small a) (sb : small b) : trim (timesD a b) = digs (val a * val b) := by
  unfold timesD
  split
  · rename_i h
    rcases h with rfl | rfl <;> simp [val, digs_zero, trim]
  · split
    · exact trim_digs _
    · exact trim_digsN (val_mul_lt sa sb)
theorem timesD_length {a b : List Nat} (sa : small a) (sb : small b) : (timesD a b).length ≤ a.length + b.length := by
  unfold timesD
  split
  · simp
  · split
    · exact digs_length_le (val_mul_lt sa sb)
    · rw [digsN_length]; exact Nat.le_refl _
theorem one_val {a : List Nat} (h : a.length = 1) : a.getD 0 0 = val a := by
  match a, h with
  | [d], _ => simp [val]
theorem val_drop {a : List Nat} {j : Nat} (h0 : 0 < j) (hj : j ≤ a.length) : val (a.drop (j - 1)) = a.getD (j - 1) 0 + 4294967296 * val (a.drop j) := by
  obtain ⟨i, rfl⟩ : ∃ i, j = i + 1 := ⟨j - 1, by omega⟩
  rw [Nat.add_sub_cancel]
  have e1 : a.drop i = a.getD i 0 :: a.drop (i + 1) := by
    rw [List.getD_eq_getElem?_getD, List.getElem?_eq_getElem (by omega)]; simp
  conv => lhs; rw [e1]
  rfl
theorem short_step {a q : List Nat} {j r d : Nat} (h0 : 0 < j) (hj : j ≤ a.length) (hv : val q * d + r = val (a.drop j)) :
    val (((r * 4294967296 + a.getD (j - 1) 0) / d) :: q) * d + (r * 4294967296 + a.getD (j - 1) 0) % d = val (a.drop (j - 1)) := by
  rw [val_drop h0 hj, ← hv, val, Nat.add_mul]
  have := Nat.div_add_mod (r * 4294967296 + a.getD (j - 1) 0) d
  rw [Nat.mul_comm d] at this
  have e : 4294967296 * val q * d = 4294967296 * (val q * d) := Nat.mul_assoc _ _ _
  omega
theorem set_down {q : List Nat} {j d : Nat} (h0 : 0 < j) : (List.replicate j 0 ++ q).set (j - 1) d = List.replicate (j - 1) 0 ++ d :: q := by
  obtain ⟨i, rfl⟩ : ∃ i, j = i + 1 := ⟨j - 1, by omega⟩
  rw [Nat.add_sub_cancel, List.replicate_succ', List.append_assoc, List.set_append, if_neg (by simp), List.length_replicate, Nat.sub_self]; rfl
theorem short_end {a q : List Nat} {r d : Nat} (hs : small q) (hl : q.length = a.length) (hr : r < d) (hv : val q * d + r = val (a.drop 0)) : q = digsN a.length (val a / d) ∧ r = val a % d := by
  rw [List.drop_zero] at hv
  have h1 : val a / d = val q := by
    rw [← hv, Nat.mul_comm, Nat.mul_add_div (by omega), Nat.div_eq_of_lt hr, Nat.add_zero]
  have h2 : val a % d = r := by
    rw [← hv, Nat.mul_comm, Nat.mul_add_mod, Nat.mod_eq_of_lt hr]
  exact ⟨digsN_uniq hs hl h1.symm, h2.symm⟩
theorem pow2_le {s : Nat} (h : s < 32) : 2 ^ s ≤ 2147483648 := by
  have : 2 ^ s ≤ 2 ^ 31 := Nat.pow_le_pow_right (by omega) (by omega)
  omega
theorem shl_bd {x s : Nat} (hx : x < 4294967296) (hs : s < 32) : s ≤ 64 ∧ x * 2 ^ s < 18446744073709551616 :=
  ⟨by omega, Nat.lt_of_le_of_lt (Nat.mul_le_mul (show x ≤ 4294967295 by omega) (pow2_le hs)) (by omega)⟩
theorem shl_div {x s : Nat} (hx : x < 4294967296) : x * 2 ^ s / 4294967296 < 2 ^ s :=
  Nat.div_lt_of_lt_mul (by rw [Nat.mul_comm x, Nat.mul_comm 4294967296]; exact Nat.mul_lt_mul_of_pos_left hx (Nat.two_pow_pos s))
theorem shl_mod {x s : Nat} (hs : s < 32) : x * 2 ^ s % 4294967296 = 2 ^ s * (x % 2 ^ (32 - s)) := by
  have e : 4294967296 = 2 ^ s * 2 ^ (32 - s) := by rw [← Nat.pow_add, show s + (32 - s) = 32 by omega]
  rw [e, Nat.mul_comm x, Nat.mul_mod_mul_left]
theorem or_low {h x s : Nat} (hs : s < 32) (hh : h < 2 ^ s) : h ||| (x * 2 ^ s % 4294967296) = h + x * 2 ^ s % 4294967296 := by
  rw [shl_mod hs, Nat.or_comm, ← Nat.two_pow_add_eq_or_of_lt hh, Nat.add_comm]
theorem or_low_lt {h x s : Nat} (hs : s < 32) (hh : h < 2 ^ s) : h + x * 2 ^ s % 4294967296 < 4294967296 := by
  rw [← or_low hs hh]
  have := pow2_le hs
  exact Nat.or_lt_two_pow (n := 32) (by omega) (Nat.mod_lt _ (by omega))
theorem shifted_step {a p : List Nat} {i h s : Nat} (hp : p.length = i) (hv : val p + 4294967296 ^ i * h = val (a.take i) * 2 ^ s) :
    val (p ++ [h + a.getD i 0 * 2 ^ s % 4294967296]) + 4294967296 ^ (i + 1) * (a.getD i 0 * 2 ^ s / 4294967296) = val (a.take (i + 1)) * 2 ^ s := by
  rw [val_snoc, hp, Nat.pow_succ, val_take_succ, Nat.add_mul, ← hv]
  have := mulB (q := 4294967296 ^ i) (s := a.getD i 0 * 2 ^ s)
  rw [Nat.mul_add, Nat.mul_assoc (4294967296 ^ i) (a.getD i 0)]
  omega
theorem set_at {p r : List Nat} {i h d : Nat} (hp : p.length = i) : (p ++ h :: r).set i d = p ++ d :: r := by
  rw [List.set_append, if_neg (by omega), hp, Nat.sub_self, List.set_cons_zero]
theorem set_at1 {p : List Nat} {i n h d : Nat} (hp : p.length = i) (hi : i < n) : (p ++ h :: List.replicate (n - i) 0).set (i + 1) d = (p ++ [h]) ++ d :: List.replicate (n - (i + 1)) 0 := by
  obtain ⟨k, hk⟩ : ∃ k, n - i = k + 1 := ⟨n - i - 1, by omega⟩
  rw [hk, show n - (i + 1) = k by omega, List.replicate_succ, List.set_append, if_neg (by omega), hp, Nat.add_sub_cancel_left, List.set_cons_succ, List.set_cons_zero, List.append_assoc]; rfl
theorem getD_at {p r : List Nat} {i h : Nat} (hp : p.length = i) : (p ++ h :: r)[i]? = some h := by
  rw [List.getElem?_append_right (by omega), hp, Nat.sub_self]; rfl
theorem shifted_end {a p : List Nat} {i h s : Nat} (hsm : small p) (hs : s < 32) (hh : h < 2 ^ s) (hp : p.length = i) (hi : i = a.length) (hv : val p + 4294967296 ^ i * h = val (a.take i) * 2 ^ s) :
    p ++ h :: List.replicate (a.length - i) 0 = digsN (a.length + 1) (val a * 2 ^ s) := by
  subst hi
  rw [Nat.sub_self, List.replicate_zero]
  have := pow2_le hs
  refine digsN_uniq (small_snoc hsm (by omega)) (by rw [List.length_append, hp]; rfl) ?_
  rw [val_snoc, hp, hv, List.take_length]
theorem digsN_succ : ∀ (n v : Nat), digsN (n + 1) v = digsN n v ++ [v / 4294967296 ^ n % 4294967296]
  | 0, v => by simp [digsN]
  | n + 1, v => by
    rw [digsN, digsN_succ n, digsN, List.cons_append, Nat.pow_succ, Nat.div_div_eq_div_mul, Nat.mul_comm 4294967296]
theorem val_div_pow : ∀ {a : List Nat}, small a → ∀ i, val a / 4294967296 ^ i = val (a.drop i)
  | [], _, i => by simp [val]
  | d :: r, _, 0 => by simp
  | d :: r, h, i + 1 => by
    have hd : d < 4294967296 := h d (by simp)
    have := val_div_pow (a := r) (fun u hu => h u (by simp [hu])) i
    rw [List.drop_succ_cons, ← this, val, Nat.pow_succ, Nat.mul_comm (4294967296 ^ i), ← Nat.div_div_eq_div_mul]
    congr 1
    omega
theorem unsh_digit {x y r s : Nat} (hs : s < 32) : ((x + 4294967296 * (y + 4294967296 * r)) / 2 ^ s) % 4294967296 = ((x + y * 4294967296) / 2 ^ s) % 4294967296 := by
  have e : 4294967296 = 2 ^ s * 2 ^ (32 - s) := by rw [← Nat.pow_add, show s + (32 - s) = 32 by omega]
  have h1 : x + 4294967296 * (y + 4294967296 * r) = (x + y * 4294967296) + 2 ^ s * (2 ^ (32 - s) * r * 4294967296) := by
    have : 2 ^ s * (2 ^ (32 - s) * r * 4294967296) = 4294967296 * (4294967296 * r) := by
      rw [Nat.mul_assoc (2 ^ (32 - s)), ← Nat.mul_assoc (2 ^ s), ← e, Nat.mul_comm r]
    rw [this]; omega
  rw [h1, Nat.add_mul_div_left _ _ (Nat.two_pow_pos s), Nat.mul_comm (2 ^ (32 - s) * r), Nat.add_mul_mod_self_left]
theorem unsh_step {a : List Nat} {i s : Nat} (sa : small a) (hs : s < 32) (hi : i < a.length) {y : Nat} (hy : y = a.getD (i + 1) 0) :
    digsN i (val a / 2 ^ s) ++ [(a.getD i 0 + y * 4294967296) / 2 ^ s % 4294967296] = digsN (i + 1) (val a / 2 ^ s) := by
  rw [digsN_succ, Nat.div_div_eq_div_mul, Nat.mul_comm (2 ^ s), ← Nat.div_div_eq_div_mul, val_div_pow sa]
  have h1 := val_drop (a := a) (j := i + 1) (by omega) (by omega)
  rw [Nat.add_sub_cancel] at h1
  rw [h1, hy]
  congr 2
  rcases Nat.lt_or_ge (i + 1) a.length with h | h
  · have h2 := val_drop (a := a) (j := i + 2) (by omega) (by omega)
    rw [show i + 2 - 1 = i + 1 by omega] at h2
    rw [h2, unsh_digit hs]
  · have : a.drop (i + 1) = [] := List.drop_of_length_le h
    rw [this, ← getD_ge h]
    simp [val]
theorem times_zs {L : List Nat} {i n j d : Nat} (hj : j < n) (h : ∀ k, L.getD (i + n + k) 0 = 0 ∨ L.length ≤ i + n + k) : ∀ k, (L.set (i + j) d).getD (i + n + k) 0 = 0 ∨ (L.set (i + j) d).length ≤ i + n + k := by
  intro k
  rw [getD_set_ne (by omega), List.length_set]
  exact h k
theorem times_z {L : List Nat} {i n d : Nat} (h : ∀ k, L.getD (i + n + k) 0 = 0 ∨ L.length ≤ i + n + k) : ∀ k, (L.set (i + n) d).getD (i + 1 + n + k) 0 = 0 ∨ (L.set (i + n) d).length ≤ i + 1 + n + k := by
  intro k
  rw [getD_set_ne (by omega), List.length_set, show i + 1 + n + k = i + n + (k + 1) by omega]
  exact h (k + 1)
theorem times_z0 {L : List Nat} {i n : Nat} (h : ∀ k, L.getD (i + n + k) 0 = 0 ∨ L.length ≤ i + n + k) (hl : i + n < L.length) : L.getD (i + n) 0 = 0 := by
  rcases h 0 with h | h
  · exact h
  · omega
theorem times_end {a b L : List Nat} (h0 : 0 < a.length) (h1 : 0 < b.length) (h2 : ¬ (a.length = 1 ∧ b.length = 1)) (hL : L.length = a.length + b.length) (hs : small L) (hv : val L = val a * val b) : L = timesD a b := by
  unfold timesD
  rw [if_neg (by rintro (h | h) <;> simp [h] at h0 h1), if_neg h2]
  exact digsN_uniq hs hL hv
theorem times_nil {a b : List Nat} (h : a.length = 0 ∨ b.length = 0) : [] = timesD a b := by
  unfold timesD
  rw [if_pos (h.imp List.length_eq_zero_iff.1 List.length_eq_zero_iff.1)]
theorem times_one {a b : List Nat} (ha : a.length = 1) (hb : b.length = 1) : digs (a.getD 0 0 * b.getD 0 0) = timesD a b := by
  unfold timesD
  rw [if_neg (by rintro (h | h) <;> simp [h] at ha hb), if_pos ⟨ha, hb⟩, one_val ha, one_val hb]
theorem short_fin {a q : List Nat} {j r d : Nat} (hj : j = 0) (hs : small q) (hl : j + q.length = a.length) (hr : r < d) (hv : val q * d + r = val (a.drop j)) : List.replicate j 0 ++ q = digsN a.length (val a / d) ∧ r = val a % d := by
  subst hj
  rw [List.replicate_zero, List.nil_append]
  exact short_end hs (by omega) hr hv
theorem unsh_step0 {a : List Nat} {i s : Nat} (sa : small a) (hs : s < 32) (hi : i < a.length) (hy : a.length ≤ i + 1) :
    digsN i (val a / 2 ^ s) ++ [a.getD i 0 / 2 ^ s % 4294967296] = digsN (i + 1) (val a / 2 ^ s) := by
  have := unsh_step sa hs hi (getD_ge hy)
  rw [Nat.zero_mul, Nat.add_zero] at this
  exact this
theorem low_or {x y : Nat} (hx : x < 4294967296) : x ||| y * 4294967296 = x + y * 4294967296 := by
  have := Nat.two_pow_add_eq_or_of_lt (i := 32) hx y
  rw [Nat.or_comm, Nat.mul_comm]
  have e : (2 : Nat) ^ 32 = 4294967296 := rfl
  rw [e] at this
  omega
end Go.Wf
namespace Go.Wf
open Go Go.Proofs Go.RowKit
set_option maxRecDepth 100000
set_option linter.unusedVariables false
set_option linter.unusedSimpArgs false
set_option maxHeartbeats 4000000 in
theorem c_times {X : Nat → Prop} {w : World} (hX : ∀ b, X b → b < w.heap.size) {v0 : Value} {a : List Nat} (r0 : RS u32Ty X w v0 a) {v1 : Value} {b : List Nat} (r1 : RS u32Ty X w v1 b) (hla : a.length ≤ 549755813888) (hlb : b.length ≤ 549755813888) : Calls Tryz.prog 90 #[v0, v1] w (Ret w fun v w' => RS u32Ty X w' v (timesD a b)) := by
 obtain ⟨a1, c2, rfl, _, _⟩ := r0.len
 obtain ⟨a3, c4, rfl, _, _⟩ := r1.len
 have C := Cx.start hX
 have sa := r0.u32_small
 have sb := r1.u32_small
 have hm0 := mulle (small_getD sa 0) (small_getD sb 0)
 have hx0 := small_getD sa 0
 have hy0 := small_getD sb 0
 refine Calls.ofW (args := [(.slice a1 a.length c2), (.slice a3 b.length c4)]) Tryz.func90 rfl rfl (Nat.le_of_ble_eq_true rfl) (Rg (Oa (Nl (Rh (Om (O rfl (St.len sl24 rfl (O rfl (St.eql2 rfl rfl (fun hc5 => ?_) (fun hc5 => ?_))))))))))
 · exact Om (Ox rfl rfl rfl (Ox rfl rfl rfl (Ox rfl rfl rfl (OT (Nl (W.condT rfl (Rg (Oa (Nl (W.ret (ret_1 rfl (resV.t rfl) (Ret.intro (RS.eqv ((RS.nil : RS _ _ _ _ _).tr (Tr.weak C.base)) ((times_nil (by omega)))) C.below))))))))))))
 refine Om (Og rfl rfl (St.move (Og rfl rfl (St.len sl24 rfl (Og rfl rfl (St.eql2 rfl rfl (fun hc6 => ?_) (fun hc6 => ?_)))))))
 · exact OF (Nl (W.condT rfl (Rg (Oa (Nl (W.ret (ret_1 rfl (resV.t rfl) (Ret.intro (RS.eqv ((RS.nil : RS _ _ _ _ _).tr (Tr.weak C.base)) ((times_nil (by omega)))) C.below))))))))
 refine OF (Nl (W.condF rfl (W.skip (W.seq (W.cut (fun f v => ∃ (x y : Nat → Prop), Cx X w x y v ∧ f 0 = (.slice a1 a.length c2) ∧ f 1 = (.slice a3 b.length c4) ∧ RS u32Ty x v (.slice a1 a.length c2) a ∧ RS u32Ty x v (.slice a3 b.length c4) b ∧ 0 < a.length ∧ 0 < b.length ∧ ¬(a.length = 1 ∧ b.length = 1)) ?_ ?_)))))
 · refine Rg (Om (O rfl (St.len sl24 rfl (O rfl (St.eql2 rfl rfl (fun hc7 => ?_) (fun hc7 => ?_))))))
   · refine Om (Og rfl rfl (St.move (Og rfl rfl (St.len sl24 rfl (Og rfl rfl (St.eql2 rfl rfl (fun hc8 => ?_) (fun hc8 => ?_)))))))
     · refine OT (Nl (W.condT rfl (W.seq (W.drawC mixed 8 [[], [0], [1], [2], [], [4], [5], [6]] C [fx (.slice a1 a.length c2), fE u32Ty (a.getD 0 0), fx (.int .u32 (((a.getD 0 0) : Nat) : Int)), fx (.int .u64 (((a.getD 0 0) : Nat) : Int)), fx (.slice a3 b.length c4), fE u32Ty (b.getD 0 0), fx (.int .u32 (((b.getD 0 0) : Nat) : Int)), fx (.int .u64 (((b.getD 0 0) : Nat) : Int))] (by kernel_rfl) ⟨sx, sE, sx, sx, sx, sE, sx, sx, trivial⟩ fun f20 s21 w22 ⟨C25, S26⟩ k24 => ?_))))
       replace r0 := r0.sp S26
       replace r1 := r1.sp S26
       have k24 : Keep [28, 29, 30, 31, 32, 33, 34, 35] _ f20 := k24
       refine ⟨⟨fun _ => ?_, fun ⟨e27, _⟩ => ?_, fun ⟨d28, _⟩ => ?_, fun ⟨e29, _⟩ => ?_, fun _ => ?_, fun ⟨e30, _⟩ => ?_, fun ⟨d31, _⟩ => ?_, fun ⟨e32, _⟩ => ?_, trivial⟩, fun ⟨e33, d34, e35, e36, e37, d38, e39, e40, _⟩ => ?_⟩
       · exact stepD k24 aN fun _ => OpSt.op (St.move ⟨s21, RC.same C25, rfl⟩)
       · refine stepD k24 (aC e27 aN) fun _ => OpSt.op (St.idx (j := 0) (u := (a.getD 0 0)) r0 sl24 io61 rfl rfl rfl (getSome (by omega)) ?_)
         intro b42 o43 cs44 e45
         obtain ⟨rfl, bd46⟩ : cs44 = _ ∧ _ := e45.rd
         exact ⟨s21, RC.same C25, ⟨_, _, _, rfl, e45⟩⟩
       · obtain ⟨b48, o49, cs50, e47, e51⟩ := d28
         obtain ⟨rfl, bd52⟩ : cs50 = _ ∧ _ := e51.rd
         exact stepD k24 (aC e47 aN) fun _ => OpSt.op (St.load1 pl61 rfl (e51.cell 0 _ rfl) ⟨s21, RC.same C25, rfl⟩)
       · exact stepD k24 (aC e29 aN) fun _ => OpSt.op (St.conv (z := (((a.getD 0 0) : Nat) : Int)) us61 un60 rfl (IntWalk.u64_in _ (by omega)) ⟨s21, RC.same C25, rfl⟩)
       · exact stepD k24 aN fun _ => OpSt.op (St.move ⟨s21, RC.same C25, rfl⟩)
       · refine stepD k24 (aC e30 aN) fun _ => OpSt.op (St.idx (j := 0) (u := (b.getD 0 0)) r1 sl24 io61 rfl rfl rfl (getSome (by omega)) ?_)
         intro b53 o54 cs55 e56
         obtain ⟨rfl, bd57⟩ : cs55 = _ ∧ _ := e56.rd
         exact ⟨s21, RC.same C25, ⟨_, _, _, rfl, e56⟩⟩
       · obtain ⟨b59, o60, cs61, e58, e62⟩ := d31
         obtain ⟨rfl, bd63⟩ : cs61 = _ ∧ _ := e62.rd
         exact stepD k24 (aC e58 aN) fun _ => OpSt.op (St.load1 pl61 rfl (e62.cell 0 _ rfl) ⟨s21, RC.same C25, rfl⟩)
       · exact stepD k24 (aC e32 aN) fun _ => OpSt.op (St.conv (z := (((b.getD 0 0) : Nat) : Int)) us61 un60 rfl (IntWalk.u64_in _ (by omega)) ⟨s21, RC.same C25, rfl⟩)
       obtain ⟨b65, o66, cs67, e64, e68⟩ := d34
       obtain ⟨rfl, bd69⟩ : cs67 = _ ∧ _ := e68.rd
       obtain ⟨b71, o72, cs73, e70, e74⟩ := d38
       obtain ⟨rfl, bd75⟩ : cs73 = _ ∧ _ := e74.rd
       obtain ⟨f76, rfl⟩ := mixK k24 (aC e33 (aC e64 (aC e35 (aC e36 (aC e37 (aC e70 (aC e39 (aC e40 aN))))))))
       refine O rfl (St.mul rfl rfl (nat_mul_u64 (a := (a.getD 0 0)) (b := (b.getD 0 0)) (by omega)) (O rfl (St.callR C25 cb51 rfl rfl (c_wide C25.bd (n := (a.getD 0 0) * (b.getD 0 0)) (by omega)) ?_)))
       intro v77 w78 C79 s80 h81
       obtain ⟨a82, c83, rfl, _, _⟩ := h81.len
       exact Oa (Nl (W.ret (ret_1 rfl (resV.t rfl) (Ret.intro (RS.eqv ((h81 : RS _ _ _ _ _).tr (Tr.weak C79.base)) ((times_one (by omega) (by omega)))) C79.below))))
     refine OT (Nl (W.condF rfl (W.skip (⟨_, _, C, rfl, rfl, r0, r1, (by omega), (by omega), (by omega)⟩))))
   refine Om (Ox rfl rfl rfl (Ox rfl rfl rfl (Ox rfl rfl rfl (OF (Nl (W.condF rfl (W.skip (⟨_, _, C, rfl, rfl, r0, r1, (by omega), (by omega), (by omega)⟩))))))))
 rintro f84 w85 ⟨x86, y87, C88, e89, e90, r0, r1, h0, h1, h2⟩
 obtain ⟨f91, rfl⟩ := rebK (aC e89 (aC e90 aN))
 clear e89 e90
 refine Rg (Om (O rfl (St.len sl24 rfl (Om (O rfl (St.len sl24 rfl (O rfl (St.add rfl rfl (nat_add_i64 (a := a.length) (b := b.length) (by omega)) (O rfl (St.makeRow (n := (a.length + b.length)) C88 sl24 rfl rfl rfl (by omega) io61 (by decide) ?_))))))))))
 intro g92 w93 x94 y95 lt96 C97 s98 o99
 replace r0 := r0.sp s98
 replace r1 := r1.sp s98
 refine Oa (Nl (Rh (Om (O rfl (St.len sl24 rfl (Om (Nl (W.block (W.loopN (fun μ f v => ∃ (x y : Nat → Prop) (i : Nat) (L : List Nat), Cx X w x y v ∧ f 1 = (.slice a3 b.length c4) ∧ f 5 = (.slice (some ⟨g92, 0, none⟩) (a.length + b.length) (a.length + b.length)) ∧ f 44 = (.slice a1 a.length c2) ∧ f 45 = (.int .i64 ((a.length : Nat) : Int)) ∧ f 46 = (.int .i64 ((i : Nat) : Int)) ∧ RS u32Ty x v (.slice a1 a.length c2) a ∧ RS u32Ty x v (.slice a3 b.length c4) b ∧ Own w y v g92 (L.map u32v) 61 ∧ i ≤ a.length ∧ L.length = a.length + b.length ∧ small L ∧ (∀ k, L.getD (i + b.length + k) 0 = 0 ∨ L.length ≤ i + b.length + k) ∧ val L = val (a.take i) * val b ∧ μ = (a.length - i)) _ ⟨_, _, 0, (List.replicate (a.length + b.length) 0), C97, rfl, rfl, rfl, rfl, rfl, r0, r1, o99, (Nat.zero_le _), (List.length_replicate ..), (small_rep _), (fun k => .inl (by simp [List.getD_eq_getElem?_getD, List.getElem?_replicate]; split <;> rfl)), (by rw [val_rep]; simp [val]), rfl⟩ ?_)))))))))
 rintro m112 f100 w101 ⟨x102, y103, i, L, C104, e105, e106, e107, e108, e109, r0, r1, o110, hi, hL, hs, hz, hv, hmu111⟩
 obtain ⟨f113, rfl⟩ := rebK (aC e105 (aC e106 (aC e107 (aC e108 (aC e109 aN)))))
 clear e105 e106 e107 e108 e109
 refine Rg (O rfl (St.lss2 rfl rfl (fun hc114 => ?_) (fun hc114 => ?_)))
 · refine Nl (W.seq (W.condT rfl (W.skip (W.seq (W.block (Rg (Om (O rfl (St.idx (j := i) (u := (a.getD i 0)) r0 sl24 io61 rfl rfl rfl (getSome (by omega)) ?_)))))))))
   intro b115 o116 cs117 e118
   obtain ⟨rfl, bd119⟩ : cs117 = _ ∧ _ := e118.rd
   refine O rfl (St.load1 pl61 rfl (e118.cell 0 _ rfl) (Oa (Oa (Nl (Rg (Oa (Nl (Rh (Om (O rfl (St.len sl24 rfl (Om (Nl (W.block (W.loopN (fun μ f v => ∃ (x y : Nat → Prop) (j : Nat) (L2 : List Nat) (c : Nat), Cx X w x y v ∧ f 1 = (.slice a3 b.length c4) ∧ f 5 = (.slice (some ⟨g92, 0, none⟩) (a.length + b.length) (a.length + b.length)) ∧ f 6 = (.int .i64 ((i : Nat) : Int)) ∧ f 7 = (.int .u32 (((a.getD i 0) : Nat) : Int)) ∧ f 44 = (.slice a1 a.length c2) ∧ f 45 = (.int .i64 ((a.length : Nat) : Int)) ∧ f 46 = (.int .i64 ((i : Nat) : Int)) ∧ f 47 = (.bool true) ∧ f 48 = (.int .i64 ((i : Nat) : Int)) ∧ f 49 = (.pointer (some ⟨b115, o116, none⟩)) ∧ f 50 = (.int .u32 (((a.getD i 0) : Nat) : Int)) ∧ f 51 = (.slice a3 b.length c4) ∧ f 52 = (.int .i64 ((b.length : Nat) : Int)) ∧ f 53 = (.int .i64 ((j : Nat) : Int)) ∧ f 8 = (.int .u64 ((c : Nat) : Int)) ∧ RS u32Ty x v (.slice a1 a.length c2) a ∧ RS u32Ty x v (.slice a3 b.length c4) b ∧ ElAt u32Ty x v b115 o116 [(.int .u32 (((a.getD i 0) : Nat) : Int))] (a.getD i 0) ∧ Own w y v g92 (L2.map u32v) 61 ∧ j ≤ b.length ∧ L2.length = a.length + b.length ∧ small L2 ∧ c < 4294967296 ∧ (∀ k, L2.getD (i + b.length + k) 0 = 0 ∨ L2.length ≤ i + b.length + k) ∧ val L2 + 4294967296 ^ (i + j) * c = val (a.take i) * val b + 4294967296 ^ i * (a.getD i 0 * val (b.take j)) ∧ μ = (b.length - j)) _ ⟨_, _, 0, L, 0, C104, rfl, rfl, rfl, rfl, rfl, rfl, rfl, rfl, rfl, rfl, rfl, rfl, rfl, rfl, rfl, r0, r1, e118, o110, (Nat.zero_le _), hL, hs, (by omega), hz, (by rw [hv]; simp [val]), rfl⟩ ?_)))))))))))))))
   rintro m142 f120 w121 ⟨x122, y123, j, L2, c, C124, e125, e126, e127, e128, e129, e130, e131, e132, e133, e134, e135, e136, e137, e138, e139, r0, r1, e118, o140, hj, hL2, hs2, hc, hz2, hv2, hmu141⟩
   obtain ⟨f143, rfl⟩ := rebK (aC e125 (aC e126 (aC e127 (aC e128 (aC e129 (aC e130 (aC e131 (aC e132 (aC e133 (aC e134 (aC e135 (aC e136 (aC e137 (aC e138 (aC e139 aN)))))))))))))))
   clear e125 e126 e127 e128 e129 e130 e131 e132 e133 e134 e135 e136 e137 e138 e139
   have hxi := small_getD sa i
   have hyj := small_getD sb j
   have hm := mulle hxi hyj
   have hl2 := small_getD hs2 (i + j)
   refine Rg (O rfl (St.lss2 rfl rfl (fun hc144 => ?_) (fun hc144 => ?_)))
   · refine Nl (W.seq (W.condT rfl (W.skip (W.seq (W.block (Rg (Om (O rfl (St.idx (j := j) (u := (b.getD j 0)) r1 sl24 io61 rfl rfl rfl (getSome (by omega)) ?_)))))))))
     intro b145 o146 cs147 e148
     obtain ⟨rfl, bd149⟩ : cs147 = _ ∧ _ := e148.rd
     refine O rfl (St.load1 pl61 rfl (e148.cell 0 _ rfl) (Oa (Oa (Nl (Rg (Om (O rfl (St.conv (z := (((a.getD i 0) : Nat) : Int)) us61 un60 rfl (IntWalk.u64_in _ (by omega)) (Om (O rfl (St.conv (z := (((b.getD j 0) : Nat) : Int)) us61 un60 rfl (IntWalk.u64_in _ (by omega)) (O rfl (St.mul rfl rfl (nat_mul_u64 (a := (a.getD i 0)) (b := (b.getD j 0)) (by omega)) ?_)))))))))))))
     refine Om (Om (Om (O rfl (St.add rfl rfl (nat_add_i64 (a := i) (b := j) (by omega)) (O rfl (St.idxRow (j := i + j) sl24 io61 rfl rfl rfl (by omega) (O rfl (St.loadRow (j := i + j) (u := (L2.getD (i + j) 0)) o140 pl61 rfl (getSome (by omega)) (O rfl (St.conv (z := (((L2.getD (i + j) 0) : Nat) : Int)) us61 un60 rfl (IntWalk.u64_in _ (by omega)) ?_))))))))))
     refine O rfl (St.add rfl rfl (nat_add_u64 (a := (a.getD i 0) * (b.getD j 0)) (b := (L2.getD (i + j) 0)) (by omega)) (Om (O rfl (St.add rfl rfl (nat_add_u64 (a := ((a.getD i 0) * (b.getD j 0)) + (L2.getD (i + j) 0)) (b := c) (by omega)) (Oa (Nl (W.region (Om (Om (Om (O rfl (St.add rfl rfl (nat_add_i64 (a := i) (b := j) (by omega)) ?_))))))))))))
     refine Om (O rfl (St.conv (z := ((((((a.getD i 0) * (b.getD j 0)) + (L2.getD (i + j) 0)) + c) % 4294967296 : Nat) : Int)) us60 un61 rfl (wrap_nat_u32 _) (Om (O rfl (St.shr rfl rfl (by decide) (nat_shr (d := 4294967296) _ (by decide)) (O rfl (St.idxRow (j := i + j) sl24 io61 rfl rfl rfl (by omega) (On (St.storeRow (j := i + j) (u := ((((a.getD i 0) * (b.getD j 0)) + (L2.getD (i + j) 0)) + c) % 4294967296) C124 o140 io61 rfl rfl (by omega) ?_)))))))))
     intro w150 C151 s152 o153
     replace r0 := r0.sp s152
     replace r1 := r1.sp s152
     replace e118 := e118.sp s152
     refine Oa (Nl (W.region (O rfl (St.add rfl rfl (nat_add_i64 (a := j) (b := 1) (by omega)) (Om (Nl (⟨_, (by omega), _, _, (j + 1), (L2.set (i + j) (((((a.getD i 0) * (b.getD j 0)) + (L2.getD (i + j) 0)) + c) % 4294967296)), ((((a.getD i 0) * (b.getD j 0)) + (L2.getD (i + j) 0)) + c) / 4294967296, C151, rfl, rfl, rfl, rfl, rfl, rfl, rfl, rfl, rfl, rfl, rfl, rfl, rfl, rfl, rfl, r0, r1, e118, o153, (by omega), (by rw [List.length_set]; exact hL2), (small_set hs2 (Nat.mod_lt _ (by omega)) _), (by omega), (times_zs (by omega) hz2), (times_step (by omega) hv2 (val_take_succ b j)), rfl⟩)))))))
   refine Nl (W.seq (W.condF rfl (W.exit (W.region (Om (Om (Om (O rfl (St.len sl24 rfl (O rfl (St.add rfl rfl (nat_add_i64 (a := i) (b := b.length) (by omega)) (Om (O rfl (St.conv (z := ((c : Nat) : Int)) us60 un61 rfl (IntWalk.u32_in _ (by omega)) (O rfl (St.idxRow (j := i + b.length) sl24 io61 rfl rfl rfl (by omega) ?_))))))))))))))))
   refine On (St.storeRow (j := i + b.length) (u := c) C124 o140 io61 rfl rfl (by omega) ?_)
   intro w154 C155 s156 o157
   replace r0 := r0.sp s156
   replace r1 := r1.sp s156
   refine Nl (W.region (O rfl (St.add rfl rfl (nat_add_i64 (a := i) (b := 1) (by omega)) (Om (Nl (⟨_, (by omega), _, _, (i + 1), (L2.set (i + b.length) c), C155, rfl, rfl, rfl, rfl, rfl, r0, r1, o157, (by omega), (by rw [List.length_set]; exact hL2), (small_set hs2 (by omega) _), (times_z hz2 ), (by rw [val_take_succ]; exact times_row (by omega) (times_z0 hz2 (by omega)) (by rw [show i + b.length = i + j by omega, hv2, List.take_of_length_le (show b.length ≤ j by omega)])), rfl⟩))))))
 exact Nl (W.seq (W.condF rfl (W.exit (Rg (Om (Oa (Nl (W.ret (ret_1 rfl (resV.t rfl) (Ret.intro (RS.eqv (o110.rowRS C104 hX (by omega) (by omega) hs id) ((times_end h0 h1 h2 hL hs (by rw [hv, List.take_of_length_le (show a.length ≤ i by omega)])))) C104.below))))))))))
set_option maxHeartbeats 1000000 in
theorem c_short {X : Nat → Prop} {w : World} (hX : ∀ b, X b → b < w.heap.size) {v0 : Value} {a : List Nat} (r0 : RS u32Ty X w v0 a) {d : Nat} (hla : a.length ≤ 1099511627776) (hd : 0 < d) (hd2 : d < 4294967296) : Calls Tryz.prog 93 #[v0, (.int .u32 ((d : Nat) : Int))] w (Ret w fun v w' => (∃ v0 v1, v = .tuple #[v0, v1] ∧ (RS u32Ty X w' v0 (digsN a.length (val a / d))) ∧ (v1 = (.int .u32 (((val a % d) : Nat) : Int))))) := by
 obtain ⟨a1, c2, rfl, _, _⟩ := r0.len
 have C := Cx.start hX
 have sa := r0.u32_small
 refine Calls.ofW (args := [(.slice a1 a.length c2), (.int .u32 ((d : Nat) : Int))]) Tryz.func93 rfl rfl (Nat.le_of_ble_eq_true rfl) (Rg (Oa (Oa (Nl (Rg (Om (O rfl (St.len sl24 rfl (O rfl (St.makeRow (n := a.length) C sl24 rfl rfl rfl (by omega) io61 (by decide) ?_))))))))))
 intro g3 w4 x5 y6 lt7 C8 s9 o10
 replace r0 := r0.sp s9
 refine Oa (Nl (Rg (Oa (Nl (Rh (Om (O rfl (St.len sl24 rfl (O rfl (St.sub (z := (((a.length : Nat) : Int) - 1)) rfl rfl (IntWalk.i64_in _ (by omega)) (Oa (Nl (W.block ?_)))))))))))))
 rw [← List.append_nil (List.replicate a.length 0)] at o10
 refine W.loopN (fun μ f v => ∃ (x y : Nat → Prop) (j : Nat) (q : List Nat) (r : Nat), Cx X w x y v ∧ f 0 = (.slice a1 a.length c2) ∧ f 1 = (.int .u32 ((d : Nat) : Int)) ∧ f 4 = (.slice none 0 0) ∧ f 5 = (.int .u32 0) ∧ f 6 = (.slice (some ⟨g3, 0, none⟩) a.length a.length) ∧ f 8 = (.int .i64 ((j : Int) - 1)) ∧ f 7 = (.int .u32 ((r : Nat) : Int)) ∧ RS u32Ty x v (.slice a1 a.length c2) a ∧ Own w y v g3 ((List.replicate j 0 ++ q).map u32v) 61 ∧ j ≤ a.length ∧ j + q.length = a.length ∧ small q ∧ r < d ∧ val q * d + r = val (a.drop j) ∧ μ = j) _ ⟨_, _, a.length, [], 0, C8, rfl, rfl, rfl, rfl, rfl, rfl, rfl, r0, o10, (Nat.le_refl _), rfl, small_nil, hd, (by rw [List.drop_of_length_le (Nat.le_refl _)]; simp [val]), rfl⟩ ?_
 rintro m25 f11 w12 ⟨x13, y14, j, q, r, C15, e16, e17, e18, e19, e20, e21, e22, r0, o23, hj, hl, hq, hr, hv, hmu24⟩
 obtain ⟨f26, rfl⟩ := rebK (aC e16 (aC e17 (aC e18 (aC e19 (aC e20 (aC e21 (aC e22 aN)))))))
 clear e16 e17 e18 e19 e20 e21 e22
 have hQ : (r * 4294967296 + a.getD (j - 1) 0) / d < 4294967296 := Nat.div_lt_of_lt_mul (by have := Nat.mul_le_mul_right 4294967296 (show r + 1 ≤ d by omega); have := small_getD sa (j - 1); omega)
 refine Rh (Om (O rfl (St.geq2 rfl rfl (fun hc27 => ?_) (fun hc27 => ?_))))
 · refine Nl (W.condT rfl (W.skip (W.seq (W.block (W.region (Om (Om (Om (Om (Om (O rfl (St.idx (j := (j - 1)) (u := (a.getD (j - 1) 0)) r0 sl24 io61 rfl rfl (by omega) (getSome (by omega)) ?_))))))))))))
   intro b28 o29 cs30 e31
   obtain ⟨rfl, bd32⟩ : cs30 = _ ∧ _ := e31.rd
   refine O rfl (St.load1 pl61 rfl (e31.cell 0 _ rfl) (Om (O rfl (St.callR C15 cb142 rfl rfl (c_div32 C15.bd (hi := r) (lo := (a.getD (j - 1) 0)) (y := d) hr (small_getD sa _) hd2) ?_))))
   intro v33 w34 C35 s36 h37
   replace o23 := o23.spn s36
   obtain ⟨v38, v39, rfl, rfl, rfl⟩ := h37
   refine Om (O rfl (St.extract rfl rfl (O rfl (St.extract rfl rfl (O rfl (St.idxRow (j := (j - 1)) sl24 io61 rfl rfl (by omega) (by omega) (On (St.storeRow (j := (j - 1)) (u := ((r * 4294967296 + (a.getD (j - 1) 0)) / d)) C35 o23 io61 rfl rfl (by rw [List.length_append, List.length_replicate]; omega) ?_))))))))
   intro w42 C43 s44 o45
   replace r0 := (r0.sp s36).sp s44
   rw [set_down (by omega)] at o45
   refine Oa (Nl (W.region (Om (O rfl (St.sub (z := (((j : Int) - 1) - 1)) rfl rfl (IntWalk.i64_in _ (by omega)) (Oa (Nl (⟨_, (by omega), _, _, (j - 1), (((r * 4294967296 + (a.getD (j - 1) 0)) / d) :: q), ((r * 4294967296 + (a.getD (j - 1) 0)) % d), C43, rfl, rfl, rfl, rfl, rfl, (congrArg (Value.int .i64) (by omega)), rfl, r0, o45, (by omega), (by rw [List.length_cons]; omega), (small_cons (by omega) hq), (Nat.mod_lt _ hd), (short_step (by omega) hj hv), rfl⟩))))))))
 refine Nl (W.condF rfl (W.exit (Rg (Om (Om (Oa (Oa (Nl (W.ret (ret_2 rfl (resV.t rfl) (resV.t rfl) (Ret.intro ?_ C15.below)))))))))))
 refine ⟨_, _, rfl, ?_, ?_⟩
 · skip
   exact RS.eqv (o23.rowRS C15 hX (by rw [List.length_append, List.length_replicate]; omega) (by omega) (small_append (small_rep _) hq) id) ((short_fin (by omega) hq hl hr hv).1)
 · skip
   exact congrArg (Value.int _) ((congrArg _ (short_fin (by omega) hq hl hr hv).2))
set_option maxHeartbeats 1000000 in
theorem c_shifted {X : Nat → Prop} {w : World} (hX : ∀ b, X b → b < w.heap.size) {v0 : Value} {a : List Nat} (r0 : RS u32Ty X w v0 a) {s : Nat} (hla : a.length < 1099511627776) (hs : s < 32) : Calls Tryz.prog 95 #[v0, (.int .u64 ((s : Nat) : Int))] w (Ret w fun v w' => RS u32Ty X w' v (digsN (a.length + 1) (val a * 2 ^ s))) := by
 obtain ⟨a1, c2, rfl, _, _⟩ := r0.len
 have C := Cx.start hX
 have sa := r0.u32_small
 have hps := pow2_le hs
 refine Calls.ofW (args := [(.slice a1 a.length c2), (.int .u64 ((s : Nat) : Int))]) Tryz.func95 rfl rfl (Nat.le_of_ble_eq_true rfl) (Rg (Oa (Nl (Rg (Om (O rfl (St.len sl24 rfl (O rfl (St.add rfl rfl (nat_add_i64 (a := a.length) (b := 1) (by omega)) (O rfl (St.makeRow (n := (a.length + 1)) C sl24 rfl rfl rfl (by omega) io61 (by decide) ?_)))))))))))
 intro g3 w4 x5 y6 lt7 C8 s9 o10
 replace r0 := r0.sp s9
 refine Oa (Nl (Rh (Om (O rfl (St.len sl24 rfl (Om (Nl (W.block (W.loopN (fun μ f v => ∃ (x y : Nat → Prop) (i : Nat) (p : List Nat) (h : Nat), Cx X w x y v ∧ f 1 = (.int .u64 ((s : Nat) : Int)) ∧ f 4 = (.slice none 0 0) ∧ f 5 = (.slice (some ⟨g3, 0, none⟩) (a.length + 1) (a.length + 1)) ∧ f 13 = (.slice a1 a.length c2) ∧ f 14 = (.int .i64 ((a.length : Nat) : Int)) ∧ f 15 = (.int .i64 ((i : Nat) : Int)) ∧ RS u32Ty x v (.slice a1 a.length c2) a ∧ Own w y v g3 ((p ++ h :: List.replicate (a.length - i) 0).map u32v) 61 ∧ i ≤ a.length ∧ p.length = i ∧ small p ∧ h < 2 ^ s ∧ val p + 4294967296 ^ i * h = val (a.take i) * 2 ^ s ∧ μ = (a.length - i)) _ ⟨_, _, 0, [], 0, C8, rfl, rfl, rfl, rfl, rfl, rfl, r0, o10, (Nat.zero_le _), rfl, small_nil, (Nat.two_pow_pos s), (by simp [val]), rfl⟩ ?_)))))))))
 rintro m24 f11 w12 ⟨x13, y14, i, p, h, C15, e16, e17, e18, e19, e20, e21, r0, o22, hi, hp, hq, hh, hv, hmu23⟩
 obtain ⟨f25, rfl⟩ := rebK (aC e16 (aC e17 (aC e18 (aC e19 (aC e20 (aC e21 aN))))))
 clear e16 e17 e18 e19 e20 e21
 have hx := small_getD sa i
 have hxd := shl_div (s := s) hx
 refine Rg (O rfl (St.lss2 rfl rfl (fun hc26 => ?_) (fun hc26 => ?_)))
 · refine Nl (W.seq (W.condT rfl (W.skip (W.seq (W.block (Rg (Om (O rfl (St.idx (j := i) (u := (a.getD i 0)) r0 sl24 io61 rfl rfl rfl (getSome (by omega)) ?_)))))))))
   intro b27 o28 cs29 e30
   obtain ⟨rfl, bd31⟩ : cs29 = _ ∧ _ := e30.rd
   refine O rfl (St.load1 pl61 rfl (e30.cell 0 _ rfl) (Oa (Oa (Nl (Rg (Om (O rfl (St.conv (z := (((a.getD i 0) : Nat) : Int)) us61 un60 rfl (IntWalk.u64_in _ (by omega)) (Om (O rfl (St.shl rfl rfl (by omega) (nat_shlv_u64 (shl_bd hx hs)) (Oa (Nl (Rg (Om ?_)))))))))))))))
   refine Om (O rfl (St.idxRow (j := i) sl24 io61 rfl rfl rfl (by omega) (O rfl (St.loadRow (j := i) (u := h) o22 pl61 rfl (getD_at hp) (Om (O rfl (St.conv (z := ((((a.getD i 0) * 2 ^ s) % 4294967296 : Nat) : Int)) us60 un61 rfl (wrap_nat_u32 _) (O rfl (St.or (z := ((h + a.getD i 0 * 2 ^ s % 4294967296 : Nat) : Int)) rfl rfl ((nat_or_u32 (a := h) (b := a.getD i 0 * 2 ^ s % 4294967296) (by omega) (by omega)).trans (congrArg _ (or_low hs hh))) ?_)))))))))
   refine O rfl (St.idxRow (j := i) sl24 io61 rfl rfl rfl (by omega) (On (St.storeRow (j := i) (u := h + a.getD i 0 * 2 ^ s % 4294967296) C15 o22 io61 rfl rfl (by simp only [List.length_append, List.length_cons, List.length_replicate, List.length_nil]; omega) ?_)))
   intro w32 C33 s34 o35
   rw [set_at hp] at o35
   refine Nl (W.region (Om (Om (O rfl (St.add rfl rfl (nat_add_i64 (a := i) (b := 1) (by omega)) (Om (O rfl (St.shr rfl rfl (by decide) (nat_shr (d := 4294967296) _ (by decide)) (O rfl (St.conv (z := ((a.getD i 0 * 2 ^ s / 4294967296 : Nat) : Int)) us60 un61 rfl (IntWalk.u32_in _ (by omega)) (O rfl (St.idxRow (j := i + 1) sl24 io61 rfl rfl rfl (by omega) ?_))))))))))))
   refine On (St.storeRow (j := i + 1) (u := a.getD i 0 * 2 ^ s / 4294967296) C33 o35 io61 rfl rfl (by simp only [List.length_append, List.length_cons, List.length_replicate, List.length_nil]; omega) ?_)
   intro w36 C37 s38 o39
   replace r0 := (r0.sp s34).sp s38
   rw [set_at1 hp (by omega)] at o39
   refine Nl (W.region (O rfl (St.add rfl rfl (nat_add_i64 (a := i) (b := 1) (by omega)) (Om (Nl (⟨_, (by omega), _, _, (i + 1), (p ++ [h + a.getD i 0 * 2 ^ s % 4294967296]), (a.getD i 0 * 2 ^ s / 4294967296), C37, rfl, rfl, rfl, rfl, rfl, rfl, r0, o39, (by omega), (by rw [List.length_append, hp]; rfl), (small_snoc hq (or_low_lt hs hh)), hxd, (shifted_step hp hv), rfl⟩))))))
 exact Nl (W.seq (W.condF rfl (W.exit (Rg (Om (Oa (Nl (W.ret (ret_1 rfl (resV.t rfl) (Ret.intro (RS.eqv (o22.rowRS C15 hX (by simp only [List.length_append, List.length_cons, List.length_replicate, List.length_nil]; omega) (by omega) (small_append hq (small_cons (by omega) (small_rep _))) id) ((shifted_end hq hs hh hp (by omega) hv))) C15.below))))))))))
set_option maxHeartbeats 1000000 in
theorem c_unshifted {X : Nat → Prop} {w : World} (hX : ∀ b, X b → b < w.heap.size) {v0 : Value} {a : List Nat} (r0 : RS u32Ty X w v0 a) {s : Nat} (hla : a.length ≤ 1099511627776) (hs : s < 32) : Calls Tryz.prog 97 #[v0, (.int .u64 ((s : Nat) : Int))] w (Ret w fun v w' => RS u32Ty X w' v (digsN a.length (val a / 2 ^ s))) := by
 obtain ⟨a1, c2, rfl, _, _⟩ := r0.len
 have C := Cx.start hX
 have sa := r0.u32_small
 refine Calls.ofW (args := [(.slice a1 a.length c2), (.int .u64 ((s : Nat) : Int))]) Tryz.func97 rfl rfl (Nat.le_of_ble_eq_true rfl) (Rg (Oa (Nl (Rg (Om (O rfl (St.len sl24 rfl (O rfl (St.makeRow (n := a.length) C sl24 rfl rfl rfl (by omega) io61 (by decide) ?_)))))))))
 intro g3 w4 x5 y6 lt7 C8 s9 o10
 replace r0 := r0.sp s9
 refine Oa (Nl (Rh (Om (O rfl (St.len sl24 rfl (Om (Nl (W.block (W.loopN (fun μ f v => ∃ (x y : Nat → Prop) (i : Nat), Cx X w x y v ∧ f 0 = (.slice a1 a.length c2) ∧ f 1 = (.int .u64 ((s : Nat) : Int)) ∧ f 4 = (.slice none 0 0) ∧ f 5 = (.slice (some ⟨g3, 0, none⟩) a.length a.length) ∧ f 12 = (.int .i64 ((a.length : Nat) : Int)) ∧ f 13 = (.int .i64 ((i : Nat) : Int)) ∧ RS u32Ty x v (.slice a1 a.length c2) a ∧ Own w y v g3 ((digsN i (val a / 2 ^ s) ++ List.replicate (a.length - i) 0).map u32v) 61 ∧ i ≤ a.length ∧ μ = (a.length - i)) _ ⟨_, _, 0, C8, rfl, rfl, rfl, rfl, rfl, rfl, r0, o10, (Nat.zero_le _), rfl⟩ ?_)))))))))
 rintro m24 f11 w12 ⟨x13, y14, i, C15, e16, e17, e18, e19, e20, e21, r0, o22, hi, hmu23⟩
 obtain ⟨f25, rfl⟩ := rebK (aC e16 (aC e17 (aC e18 (aC e19 (aC e20 (aC e21 aN))))))
 clear e16 e17 e18 e19 e20 e21
 have hx := small_getD sa i
 have hx1 := small_getD sa (i + 1)
 have hlN := digsN_length i (val a / 2 ^ s)
 refine Rg (O rfl (St.lss2 rfl rfl (fun hc26 => ?_) (fun hc26 => ?_)))
 · refine Nl (W.seq (W.condT rfl (W.skip (W.seq (W.block (Rg (Om (Oa (Nl (Rg (Om (Om (O rfl (St.idx (j := i) (u := (a.getD i 0)) r0 sl24 io61 rfl rfl rfl (getSome (by omega)) ?_))))))))))))))
   intro b27 o28 cs29 e30
   obtain ⟨rfl, bd31⟩ : cs29 = _ ∧ _ := e30.rd
   refine O rfl (St.load1 pl61 rfl (e30.cell 0 _ rfl) (O rfl (St.conv (z := (((a.getD i 0) : Nat) : Int)) us61 un60 rfl (IntWalk.u64_in _ (by omega)) (Oa (Nl (Rh (Om (O rfl (St.add rfl rfl (nat_add_i64 (a := i) (b := 1) (by omega)) (Om (O rfl (St.len sl24 rfl (O rfl (St.lss2 rfl rfl (fun hc32 => ?_) (fun hc32 => ?_)))))))))))))))
   · refine Nl (W.condT rfl (W.region (Om (Om (Om (O rfl (St.add rfl rfl (nat_add_i64 (a := i) (b := 1) (by omega)) (O rfl (St.idx (j := i + 1) (u := (a.getD (i + 1) 0)) r0 sl24 io61 rfl rfl rfl (getSome (by omega)) ?_)))))))))
     intro b33 o34 cs35 e36
     obtain ⟨rfl, bd37⟩ : cs35 = _ ∧ _ := e36.rd
     refine O rfl (St.load1 pl61 rfl (e36.cell 0 _ rfl) (O rfl (St.conv (z := (((a.getD (i + 1) 0) : Nat) : Int)) us61 un60 rfl (IntWalk.u64_in _ (by omega)) (O rfl (St.shl rfl rfl (by decide) (nat_shl_u64 (a := (a.getD (i + 1) 0)) (d := 4294967296) (by decide) (by omega)) (O rfl (St.or (z := ((a.getD i 0 + a.getD (i + 1) 0 * 4294967296 : Nat) : Int)) rfl rfl ((nat_or_u64 (a := a.getD i 0) (b := a.getD (i + 1) 0 * 4294967296) (by omega) (by omega)).trans (congrArg _ (low_or hx))) ?_)))))))
     refine Oa (Nl (W.region (Om (Om (Om (Om (O rfl (St.shr rfl rfl (by omega) (nat_shrv_u64 (by omega)) (O rfl (St.conv (z := ((((a.getD i 0 + a.getD (i + 1) 0 * 4294967296) / 2 ^ s) % 4294967296 : Nat) : Int)) us60 un61 rfl (wrap_nat_u32 _) (O rfl (St.idxRow (j := i) sl24 io61 rfl rfl rfl (by omega) ?_))))))))))))
     refine On (St.storeRow (j := i) (u := ((a.getD i 0 + a.getD (i + 1) 0 * 4294967296) / 2 ^ s) % 4294967296) C15 o22 io61 rfl rfl (by rw [List.length_append, List.length_replicate, hlN]; omega) ?_)
     intro w38 C39 s40 o41
     replace r0 := r0.sp s40
     rw [set_fill hlN (by omega), unsh_step sa hs (by omega) rfl] at o41
     refine Nl (W.region (O rfl (St.add rfl rfl (nat_add_i64 (a := i) (b := 1) (by omega)) (Om (Nl (⟨_, (by omega), _, _, (i + 1), C39, rfl, rfl, rfl, rfl, rfl, rfl, r0, o41, (by omega), rfl⟩))))))
   refine Nl (W.condF rfl (W.skip (W.region (Om (Om (Om (Om (O rfl (St.shr rfl rfl (by omega) (nat_shrv_u64 (by omega)) (O rfl (St.conv (z := ((((a.getD i 0) / 2 ^ s) % 4294967296 : Nat) : Int)) us60 un61 rfl (wrap_nat_u32 _) (O rfl (St.idxRow (j := i) sl24 io61 rfl rfl rfl (by omega) (On (St.storeRow (j := i) (u := ((a.getD i 0) / 2 ^ s) % 4294967296) C15 o22 io61 rfl rfl (by rw [List.length_append, List.length_replicate, hlN]; omega) ?_)))))))))))))))
   intro w42 C43 s44 o45
   replace r0 := r0.sp s44
   rw [set_fill hlN (by omega), unsh_step0 sa hs (by omega) (by omega)] at o45
   refine Nl (W.region (O rfl (St.add rfl rfl (nat_add_i64 (a := i) (b := 1) (by omega)) (Om (Nl (⟨_, (by omega), _, _, (i + 1), C43, rfl, rfl, rfl, rfl, rfl, rfl, r0, o45, (by omega), rfl⟩))))))
 exact Nl (W.seq (W.condF rfl (W.exit (Rg (Om (Oa (Nl (W.ret (ret_1 rfl (resV.t rfl) (Ret.intro (RS.eqv (o22.rowRS C15 hX (by rw [List.length_append, List.length_replicate, digsN_length]; omega) (by omega) (small_append (digsN_small _ _) (small_rep _)) id) ((by rw [show a.length - i = 0 by omega, List.replicate_zero, List.append_nil, show i = a.length by omega]))) C15.below))))))))))
end Go.Wf
namespace Go.Wf
set_option linter.unusedVariables false
set_option linter.unusedSimpArgs false
open Go
theorem kn_g0 {P Ul Vl u2 v2 top v1 : Nat} (hUl : Ul < P) (hu2 : u2 < 4294967296) :
    (Ul + P * (u2 + 4294967296 * top)) / (Vl + P * (v2 + 4294967296 * v1)) ≤ top / v1 ∨ v1 = 0 := by
  rcases Nat.eq_zero_or_pos v1 with h | h
  · exact .inr h
  refine .inl ((Nat.le_div_iff_mul_le h).2 ?_)
  generalize hq : (Ul + P * (u2 + 4294967296 * top)) / (Vl + P * (v2 + 4294967296 * v1)) = q
  have h1 : q * (Vl + P * (v2 + 4294967296 * v1)) ≤ Ul + P * (u2 + 4294967296 * top) := by rw [← hq]; exact Nat.div_mul_le_self _ _
  have h2 : P * (4294967296 * (q * v1)) ≤ q * (Vl + P * (v2 + 4294967296 * v1)) := by
    rw [show P * (4294967296 * (q * v1)) = q * (P * (4294967296 * v1)) by rw [Nat.mul_left_comm q P, Nat.mul_left_comm q 4294967296]]
    refine Nat.mul_le_mul_left _ (Nat.le_trans (Nat.mul_le_mul_left P (show 4294967296 * v1 ≤ v2 + 4294967296 * v1 by omega)) (Nat.le_add_left _ _))
  have h3 : Ul + P * (u2 + 4294967296 * top) < P * (u2 + 4294967296 * top + 1) := by rw [Nat.mul_add P _ 1]; omega
  have h4 : P * (4294967296 * (q * v1)) < P * (u2 + 4294967296 * top + 1) := Nat.lt_of_le_of_lt (Nat.le_trans h2 h1) h3
  have := Nat.lt_of_mul_lt_mul_left h4
  omega
theorem kn_dec {P Ul Vl u2 v2 top v1 g r : Nat} (hUl : Ul < P) (hv : g * v1 + r = top) (h : r * 4294967296 + u2 < g * v2) :
    (Ul + P * (u2 + 4294967296 * top)) / (Vl + P * (v2 + 4294967296 * v1)) < g := by
  have hg : 0 < g := by
    rcases Nat.eq_zero_or_pos g with e | e
    · rw [e] at h; omega
    · exact e
  refine Nat.div_lt_of_lt_mul ?_
  have e1 : (Vl + P * (v2 + 4294967296 * v1)) * g = g * Vl + P * (g * v2 + 4294967296 * (g * v1)) := by
    rw [Nat.mul_comm _ g, Nat.mul_add, Nat.mul_left_comm g P, Nat.mul_add g, Nat.mul_left_comm g 4294967296]
  rw [e1]
  generalize g * v2 = X at *
  generalize g * v1 = Y at *
  have h1 : u2 + 4294967296 * top + 1 ≤ X + 4294967296 * Y := by omega
  have h2 := Nat.mul_le_mul_left P h1
  rw [Nat.mul_add P _ 1] at h2
  omega
theorem kn_top {P Ul Vl u2 v2 top v1 g : Nat} (hU : Ul + P * (u2 + 4294967296 * top) < (Vl + P * (v2 + 4294967296 * v1)) * 4294967296) (h : 4294967296 ≤ g) :
    (Ul + P * (u2 + 4294967296 * top)) / (Vl + P * (v2 + 4294967296 * v1)) < g :=
  Nat.div_lt_of_lt_mul (Nat.lt_of_lt_of_le hU (Nat.mul_le_mul_left _ h))
theorem le_pred {q g : Nat} (h : q < g) : q ≤ g - 1 := by omega
theorem kn_e2 {P Ul Vl u2 v2 top v1 g r : Nat} (hP : 0 < P) (hVl : Vl < P) (hv1 : 0 < v1) (hg : g < 4294967296) (hv : g * v1 + r = top) (h : g * v2 ≤ r * 4294967296 + u2) :
    g ≤ (Ul + P * (u2 + 4294967296 * top)) / (Vl + P * (v2 + 4294967296 * v1)) + 1 := by
  have hV : 0 < Vl + P * (v2 + 4294967296 * v1) := Nat.lt_of_lt_of_le (Nat.mul_pos hP (show 0 < v2 + 4294967296 * v1 by omega)) (Nat.le_add_left _ _)
  have hk : g - 1 ≤ (Ul + P * (u2 + 4294967296 * top)) / (Vl + P * (v2 + 4294967296 * v1)) := by
    rw [Nat.le_div_iff_mul_le hV]
    rcases Nat.eq_zero_or_pos g with e | e
    · rw [e]; omega
    have e1 : g * (Vl + P * (v2 + 4294967296 * v1)) = g * Vl + P * (g * v2 + 4294967296 * (g * v1)) := by
      rw [Nat.mul_add, Nat.mul_left_comm g P, Nat.mul_add g, Nat.mul_left_comm g 4294967296]
    have h1 : P * (g * v2 + 4294967296 * (g * v1)) ≤ P * (u2 + 4294967296 * top) := Nat.mul_le_mul_left P (by omega)
    have h2 : g * Vl ≤ 4294967296 * P := Nat.mul_le_mul (by omega) (by omega)
    have h3 : 4294967296 * P ≤ P * (v2 + 4294967296 * v1) := by rw [Nat.mul_comm]; exact Nat.mul_le_mul_left P (by omega)
    rw [Nat.sub_mul, e1, Nat.one_mul]
    omega
  omega
theorem kn_e1 {P Ul Vl u2 v2 top v1 g r : Nat} (hVl : Vl < P) (hv2 : v2 < 4294967296) (hv1 : 0 < v1) (htop : top < (v1 + 1) * 4294967296) (hv : g * v1 + r = top) (h : 4294967296 ≤ r) :
    g ≤ (Ul + P * (u2 + 4294967296 * top)) / (Vl + P * (v2 + 4294967296 * v1)) ∧ g < 4294967296 := by
  have hP : 0 < P := by omega
  have hg : g < 4294967296 := by
    have h1 : g * v1 < 4294967296 * v1 := by rw [Nat.add_mul] at htop; omega
    exact Nat.lt_of_mul_lt_mul_right h1
  refine ⟨?_, hg⟩
  have hV : 0 < Vl + P * (v2 + 4294967296 * v1) := Nat.lt_of_lt_of_le (Nat.mul_pos hP (show 0 < v2 + 4294967296 * v1 by omega)) (Nat.le_add_left _ _)
  rw [Nat.le_div_iff_mul_le hV]
  have e1 : g * (Vl + P * (v2 + 4294967296 * v1)) = g * (Vl + P * v2) + P * (4294967296 * (g * v1)) := by
    rw [Nat.mul_add P, ← Nat.add_assoc, Nat.mul_add g, Nat.mul_left_comm g P (4294967296 * v1), Nat.mul_left_comm g 4294967296]
  have h1 : Vl + P * v2 ≤ P * 4294967296 := by
    have := Nat.mul_le_mul_left P (show v2 + 1 ≤ 4294967296 by omega)
    rw [Nat.mul_add] at this; omega
  have h2 : g * (Vl + P * v2) ≤ P * (4294967296 * g) := by
    have := Nat.mul_le_mul_left g h1
    rw [show P * (4294967296 * g) = g * (P * 4294967296) by rw [Nat.mul_left_comm g P, Nat.mul_comm 4294967296]]
    exact this
  have h3 : P * (4294967296 * g) + P * (4294967296 * (g * v1)) ≤ P * (u2 + 4294967296 * top) := by
    rw [← Nat.mul_add]
    exact Nat.mul_le_mul_left P (by omega)
  rw [e1]
  omega
theorem kn_topb {P Ul Vl u2 v2 un u1 v1 : Nat} (hVl : Vl < P) (hv2 : v2 < 4294967296) (hu1 : u1 < 4294967296)
    (hU : Ul + P * (u2 + 4294967296 * (un * 4294967296 + u1)) < (Vl + P * (v2 + 4294967296 * v1)) * 4294967296) : un * 4294967296 + u1 < (v1 + 1) * 4294967296 := by
  have h1 : Vl + P * (v2 + 4294967296 * v1) < P * (4294967296 * (v1 + 1)) := by
    have := Nat.mul_le_mul_left P (show v2 + 4294967296 * v1 + 1 ≤ 4294967296 * (v1 + 1) by omega)
    rw [Nat.mul_add P _ 1] at this; omega
  have h2 : P * (4294967296 * (4294967296 * un)) < P * (4294967296 * (4294967296 * (v1 + 1))) := by
    have a1 : P * (4294967296 * (4294967296 * un)) ≤ Ul + P * (u2 + 4294967296 * (un * 4294967296 + u1)) := Nat.le_trans (Nat.mul_le_mul_left P (by omega)) (Nat.le_add_left _ _)
    have a2 : (Vl + P * (v2 + 4294967296 * v1)) * 4294967296 ≤ P * (4294967296 * (4294967296 * (v1 + 1))) := by
      have := Nat.mul_le_mul_right 4294967296 (Nat.le_of_lt h1)
      refine Nat.le_trans this (Nat.le_of_eq ?_)
      rw [Nat.mul_assoc, Nat.mul_comm (4294967296 * (v1 + 1))]
    omega
  have h3 := Nat.lt_of_mul_lt_mul_left h2
  have : un < v1 + 1 := by omega
  have := Nat.mul_le_mul_right 4294967296 (show un + 1 ≤ v1 + 1 by omega)
  omega
theorem val_top2 {l : List Nat} {m : Nat} (h : l.length = m + 2) : val l = val (l.take m) + 4294967296 ^ m * (l.getD m 0 + 4294967296 * l.getD (m + 1) 0) := by
  have h1 : val l = val (l.take (m + 2)) := by rw [List.take_of_length_le (by omega)]
  rw [h1, val_take_succ, val_take_succ, Nat.pow_succ, Nat.mul_add, Nat.mul_assoc]
  omega
theorem val_top3 {l : List Nat} {m : Nat} (h : l.length = m + 3) : val l = val (l.take m) + 4294967296 ^ m * (l.getD m 0 + 4294967296 * (l.getD (m + 2) 0 * 4294967296 + l.getD (m + 1) 0)) := by
  have h1 : val l = val (l.take (m + 3)) := by rw [List.take_of_length_le (by omega)]
  rw [h1, val_take_succ, val_take_succ, val_take_succ, Nat.pow_succ, Nat.pow_succ, Nat.pow_succ]
  generalize 4294967296 ^ m = p
  rw [Nat.mul_add, Nat.mul_assoc p, Nat.mul_assoc p, Nat.mul_assoc (p), Nat.mul_add 4294967296, Nat.mul_add p]
  have e1 : p * (4294967296 * (l.getD (m + 2) 0 * 4294967296)) = p * (4294967296 * 4294967296 * l.getD (m + 2) 0) := by
    rw [Nat.mul_comm (l.getD (m + 2) 0), ← Nat.mul_assoc 4294967296]
  have e2 : 4294967296 * 4294967296 * l.getD (m + 2) 0 = 18446744073709551616 * l.getD (m + 2) 0 := by omega
  omega
theorem kn_sub {U p : List Nat} {i g x c bo V : Nat} (hp : p.length = i) (hg : g < 4294967296) (hx : x < 4294967296) (hc : c < 4294967296) (hb : bo ≤ 1) (hu : U.getD i 0 < 4294967296)
    (hv : val p + g * V = val (U.take i) + 4294967296 ^ i * (c + bo)) {V' : Nat} (hV : V' = V + 4294967296 ^ i * x) :
    val (p ++ [(U.getD i 0 + 8589934592 - (g * x + c) % 4294967296 - bo) % 4294967296]) + g * V' = val (U.take (i + 1)) + 4294967296 ^ (i + 1) * ((g * x + c) / 4294967296 + (if U.getD i 0 < (g * x + c) % 4294967296 + bo then 1 else 0)) := by
  rw [val_snoc, hp, val_take_succ, hV, Nat.mul_add, Nat.mul_left_comm g, Nat.pow_succ]
  generalize hq : 4294967296 ^ i = q at *
  generalize hX : g * x = X at *
  generalize U.getD i 0 = u at *
  have e : (u + 8589934592 - (X + c) % 4294967296 - bo) % 4294967296 + X + c + bo = u + 4294967296 * ((X + c) / 4294967296 + (if u < (X + c) % 4294967296 + bo then 1 else 0)) := by
    split <;> omega
  have e2 := congrArg (q * ·) e
  simp only [Nat.mul_add] at e2
  rw [Nat.mul_assoc q 4294967296, Nat.mul_add 4294967296, Nat.mul_add q]
  rw [Nat.mul_add] at hv
  omega
theorem kn_car {g x c : Nat} (hg : g < 4294967296) (hx : x < 4294967296) (hc : c < 4294967296) : g * x + c ≤ 18446744073709551615 ∧ (g * x + c) / 4294967296 < 4294967296 := by
  have := mulle hg hx
  omega
theorem kn_last {U p : List Nat} {n g c bo V : Nat} (hp : p.length = n) (hc : c < 4294967296) (hb : bo ≤ 1) (hu : U.getD n 0 < 4294967296) (hU : U.length = n + 1)
    (hv : val p + g * V = val (U.take n) + 4294967296 ^ n * (c + bo)) :
    val (p ++ [(U.getD n 0 + 8589934592 - c - bo) % 4294967296]) + g * V = val U + 4294967296 ^ (n + 1) * (if U.getD n 0 < c + bo then 1 else 0) := by
  have h1 : val U = val (U.take (n + 1)) := by rw [List.take_of_length_le (by omega)]
  rw [h1, val_snoc, hp, val_take_succ, Nat.pow_succ]
  generalize 4294967296 ^ n = q at *
  generalize U.getD n 0 = u at *
  have e : (u + 8589934592 - c - bo) % 4294967296 + c + bo = u + 4294967296 * (if u < c + bo then 1 else 0) := by split <;> omega
  have e2 := congrArg (q * ·) e
  simp only [Nat.mul_add] at e2
  rw [Nat.mul_assoc q 4294967296]
  rw [Nat.mul_add] at hv
  omega
theorem kn_ok {U V R g : Nat} (hV : 0 < V) (h1 : U / V ≤ g) (h : R + g * V = U) : g = U / V ∧ R = U % V := by
  have hle : g ≤ U / V := (Nat.le_div_iff_mul_le hV).2 (by omega)
  have hg : g = U / V := by omega
  refine ⟨hg, ?_⟩
  have := Nat.div_add_mod U V
  rw [Nat.mul_comm, ← hg] at this
  omega
theorem kn_back {U V R M g : Nat} (hV : 0 < V) (h2 : g ≤ U / V + 1) (hR : R < M) (h : R + g * V = U + M) : g - 1 = U / V ∧ 0 < g ∧ R + V = U % V + M := by
  have hlt : U < g * V := by omega
  have hg : U / V < g := Nat.div_lt_of_lt_mul (by rw [Nat.mul_comm]; exact hlt)
  have := Nat.div_add_mod U V
  rw [Nat.mul_comm] at this
  generalize U / V = q at *
  generalize U % V = t at *
  have e : g = q + 1 := by omega
  refine ⟨by omega, by omega, ?_⟩
  rw [e, Nat.add_mul, Nat.one_mul] at h
  omega
theorem kn_addstep {R p : List Nat} {i x c V : Nat} (hp : p.length = i) (hv : val p + 4294967296 ^ i * c = val (R.take i) + V) {V' : Nat} (hV : V' = V + 4294967296 ^ i * x) :
    val (p ++ [(R.getD i 0 + x + c) % 4294967296]) + 4294967296 ^ (i + 1) * ((R.getD i 0 + x + c) / 4294967296) = val (R.take (i + 1)) + V' := by
  rw [val_snoc, hp, val_take_succ, hV, Nat.pow_succ]
  have := mulB (q := 4294967296 ^ i) (s := R.getD i 0 + x + c)
  rw [Nat.mul_add, Nat.mul_add] at this
  omega
theorem kn_addlast {R p : List Nat} {n c V T : Nat} (hp : p.length = n) (hsp : small p) (hc : c ≤ 1) (hR : R.length = n + 1) (hT : T < 4294967296 ^ (n + 1)) (hv : val p + 4294967296 ^ n * c = val (R.take n) + V) (ht : val R + V = T + 4294967296 ^ (n + 1)) :
    p ++ [(R.getD n 0 + c) % 4294967296] = digsN (n + 1) T := by
  refine digsN_uniq (small_snoc hsp (Nat.mod_lt _ (by omega))) (by rw [List.length_append, hp]; rfl) ?_
  have h1 : val R = val (R.take (n + 1)) := by rw [List.take_of_length_le (by omega)]
  rw [h1, val_take_succ] at ht
  rw [val_snoc, hp]
  have h3 := val_lt p hsp
  rw [hp] at h3
  have h2 := mulB (q := 4294967296 ^ n) (s := R.getD n 0 + c)
  rw [Nat.mul_add (4294967296 ^ n) (R.getD n 0)] at h2
  rw [Nat.pow_succ] at hT ht
  generalize 4294967296 ^ n = q at *
  have hm : q * ((R.getD n 0 + c) % 4294967296) ≤ q * 4294967295 := Nat.mul_le_mul_left q (by omega)
  have hk : (R.getD n 0 + c) / 4294967296 = 1 := by
    have : q * 4294967296 * ((R.getD n 0 + c) / 4294967296) < q * 4294967296 * 2 := by omega
    have a := Nat.lt_of_mul_lt_mul_left this
    rcases Nat.eq_zero_or_pos ((R.getD n 0 + c) / 4294967296) with e | e
    · rw [e] at h2; omega
    · omega
  rw [hk] at h2
  omega
def blen (x : Nat) : Nat := if x = 0 then 0 else x.log2 + 1
theorem blen_lt (x : Nat) : x < 2 ^ blen x := by
  unfold blen
  split
  · subst_vars; decide
  · exact Nat.lt_log2_self
theorem blen_le {x k : Nat} (h : x < 2 ^ k) : blen x ≤ k := by
  unfold blen
  split
  · omega
  · rename_i h0
    exact (Nat.log2_lt h0).2 h
theorem blen_pos {x : Nat} (h : 0 < x) : 0 < blen x := by
  unfold blen; rw [if_neg (by omega)]; omega
theorem blen_ge {x : Nat} (h : 0 < x) : 2 ^ (blen x - 1) ≤ x := by
  unfold blen; rw [if_neg (by omega), Nat.add_sub_cancel]; exact Nat.log2_self_le (by omega)
theorem blen_uniq {x k : Nat} (h0 : 0 < x) (h1 : x < 2 ^ k) (h2 : 2 ^ k ≤ 2 * x) : blen x = k := by
  have a := blen_le h1
  rcases Nat.lt_or_ge (blen x) k with h | h
  · have b := blen_lt x
    have c : 2 ^ (blen x + 1) ≤ 2 ^ k := Nat.pow_le_pow_right (by omega) h
    rw [Nat.pow_succ] at c
    omega
  · omega
theorem blen_shift {x k : Nat} (h : 2 ^ k ≤ x) : blen x = blen (x / 2 ^ k) + k := by
  have hp := Nat.two_pow_pos k
  have h0 : 0 < x / 2 ^ k := Nat.div_pos h hp
  refine blen_uniq (by omega) ?_ ?_
  · rw [Nat.pow_add]; exact (Nat.div_lt_iff_lt_mul hp).1 (blen_lt _)
  · have h1 := blen_ge h0
    have h2 := blen_pos h0
    have e : blen (x / 2 ^ k) + k = (blen (x / 2 ^ k) - 1 + k) + 1 := by omega
    rw [e, Nat.pow_succ, Nat.mul_comm]
    refine Nat.mul_le_mul_left 2 ?_
    rw [Nat.pow_add]
    exact (Nat.le_div_iff_mul_le hp).1 h1
end Go.Wf
namespace Go.Wf
set_option linter.unusedVariables false
set_option linter.unusedSimpArgs false
open Go Go.RowKit
section
variable {P : Program} {ρ : Operand → Value} {dst : Option Tmp} {ty : TypeId} {pos : String} {after : Array Edge} {gd : Option (Nat × Bool)}
  {w : World} {K : Value → World → Prop} {Kp : List PanicEntry → World → Prop} {X0 x y : Nat → Prop} {w0 : Bs}
theorem St.idxRowO {a i : Operand} {t e : TypeId} {z : Value} {by_ g n c o : Nat} {k : IntKind} {m : Int} {j : Nat} (ht : P.underlying t = some (.slice e)) (hi : infoOf P e = some (z, 1, by_))
    (hx : ρ a = .slice (some ⟨g, o, none⟩) n c) (hy : ρ i = .int k m) (hm : m = j) (hj : j < n) (h : K (.pointer (some ⟨g, o + j, none⟩)) w) : St P ρ ⟨dst, .indexAddr t a i, ty, pos, after, gd⟩ w K Kp := by
  obtain ⟨inf, hi', _, hs, _⟩ := infoOf_parts hi
  refine St.indexAddr ht hi' hs hx hy hm hj ?_
  rw [Nat.mul_one]; exact h
theorem St.loadRowO {a : Operand} {t g j o u : Nat} {A U Z : List Nat} {E : TypeId} (hA : A.length = o) (ow : Own w0 y w g ((A ++ U ++ Z).map u32v) E) (ht : plainTy P t = true) (hx : ρ a = .pointer (some ⟨g, o + j, none⟩)) (hu : U[j]? = some u) (h : K (.int .u32 u) w) :
    St P ρ ⟨dst, .load t a, ty, pos, after, gd⟩ w K Kp := by
  refine St.loadRow ow ht hx ?_ h
  have hj := (List.getElem?_eq_some_iff.1 hu).1
  rw [List.append_assoc, List.getElem?_append_right (by omega), hA, Nat.add_sub_cancel_left, List.getElem?_append_left hj, hu]
theorem St.storeRowO {a v : Operand} {t g j o u : Nat} {z : Value} {by_ : Nat} {A U Z : List Nat} {E : TypeId} (hA : A.length = o) (C : Cx X0 w0 x y w) (ow : Own w0 y w g ((A ++ U ++ Z).map u32v) E) (hi : infoOf P t = some (z, 1, by_)) (hx : ρ a = .pointer (some ⟨g, o + j, none⟩)) (hv : ρ v = .int .u32 u) (hj : j < U.length)
    (h : ∀ w', Cx X0 w0 x y w' → Sp x y w x y w' (· = g) → Own w0 y w' g ((A ++ U.set j u ++ Z).map u32v) E → K undef w') : St P ρ ⟨dst, .store t a v, ty, pos, after, gd⟩ w K Kp := by
  refine St.storeRow C ow hi hx hv (by simp only [List.length_append]; omega) ?_
  have e : (A ++ U ++ Z).set (o + j) u = A ++ U.set j u ++ Z := by
    rw [List.append_assoc, List.set_append, if_neg (by omega), hA, Nat.add_sub_cancel_left, List.set_append, if_pos hj, List.append_assoc]
  rw [e]; exact h
theorem St.sliceRow {a lo r : Operand} {t e : TypeId} {z : Value} {by_ g n c : Nat} {k k' : IntKind} {m m' : Int} {i j : Nat}
    (ht : P.underlying t = some (.slice e)) (hi : infoOf P e = some (z, 1, by_)) (hx : ρ a = .slice (some ⟨g, 0, none⟩) n c) (hy : ρ lo = .int k m) (hm : m = i) (hy' : ρ r = .int k' m') (hm' : m' = j) (hij : i ≤ j) (hj : j ≤ c) (hic : i < c)
    (h : K (.slice (some ⟨g, i, none⟩) (j - i) (c - i)) w) : St P ρ ⟨dst, .slice t a (some lo) (some r) none, ty, pos, after, gd⟩ w K Kp := by
  subst hm; subst hm'
  obtain ⟨inf, hi', _, hs, _⟩ := infoOf_parts hi
  refine St.of_run (v := .slice (some ⟨g, i, none⟩) (j - i) (c - i)) ?_ h
  have h0 : ¬ c = i := by omega
  have h1 : c - i ≠ 0 := by omega
  simp [execOp, hx, hy, hy', Instr.sliceAt, Instr.slice, run_underlying ht, Instr.sliceBounds, Instr.sliceBound, asIntOf, hij, hj, sizeOf, typeInfo, hi', hs, h0, h1, Addr.add]
  try exact fun e => e.symm
theorem St.sliceRowR {a r : Operand} {t e : TypeId} {z : Value} {by_ g n c : Nat} {k' : IntKind} {m' : Int} {j : Nat}
    (ht : P.underlying t = some (.slice e)) (hi : infoOf P e = some (z, 1, by_)) (hx : ρ a = .slice (some ⟨g, 0, none⟩) n c) (hy' : ρ r = .int k' m') (hm' : m' = j) (hj : j ≤ c)
    (h : K (.slice (some ⟨g, 0, none⟩) j c) w) : St P ρ ⟨dst, .slice t a none (some r) none, ty, pos, after, gd⟩ w K Kp := by
  subst hm'
  obtain ⟨inf, hi', _, hs, _⟩ := infoOf_parts hi
  refine St.of_run (v := .slice (some ⟨g, 0, none⟩) j c) ?_ h
  simp [execOp, hx, hy', Instr.sliceAt, Instr.slice, run_underlying ht, Instr.sliceBounds, Instr.sliceBound, asIntOf, hj, sizeOf, typeInfo, hi', hs, Addr.add]
theorem St.callT {k : FuncId} {args : Array Operand} {ts : Array TypeId} {vs : List Value} {g : Nat} {cs cs' : List Value} {T : TypeId} {φ : Value → World → Prop} (C : Cx X0 w0 x y w) (o : Own w0 y w g cs T) (hk : callable P k = true)
    (ha : args.toList.map ρ = vs) (he : ρ (.func k) = .func (.func k) #[] #[]) (hc : Calls P k vs.toArray w (RetM w g fun v w' => φ v w' ∧ Blk w' g cs' T))
    (h : ∀ v w', Cx X0 w0 x y w' → Sp x y w x y w' (· = g) → Own w0 y w' g cs' T → φ v w' → K v w') :
    St P ρ ⟨dst, .call { callee := .value (.func k), args := args, argTypes := ts }, ty, pos, after, gd⟩ w K Kp :=
  St.callM (Ψ := fun v w' c => c = cs' ∧ φ v w') C o hk ha he hc (fun _ _ h => ⟨_, h.2, rfl, h.1⟩) (fun v w' c hC hS hO hp => by obtain ⟨rfl, hp⟩ := hp; exact h v w' hC hS hO hp)
def Fresh (w : World) (cs : List Value) (n : Nat) (T : TypeId) (v : Value) (w' : World) : Prop := ∃ g, v = .slice (some ⟨g, 0, none⟩) n n ∧ w.heap.size ≤ g ∧ Blk w' g cs T
theorem Cx.adopt {w' : World} {g : Nat} {cs : List Value} {T : TypeId} (C : Cx X0 w0 x y w) (h : Below w.heap.size w w') (hg : w.heap.size ≤ g) (hb : Blk w' g cs T) :
    Cx X0 w0 (fun b => x b ∨ b = g) (fun b => y b ∨ b = g) w' ∧ Sp x y w (fun b => x b ∨ b = g) (fun b => y b ∨ b = g) w' nobody ∧ Own w0 (fun b => y b ∨ b = g) w' g cs T := by
  have hle := C.below.size
  refine ⟨⟨C.below.trans (h.mono hle), fun b hb => .inl (C.base b hb), ?_, ?_⟩, ⟨⟨?_, fun b hb _ => h.block b hb, h.size⟩, ⟨?_, fun b hb _ => h.block b hb, h.size⟩, fun _ h => .inl h, fun b hb _ => h.block b hb⟩, ⟨.inr rfl, .inl (by omega), hb⟩⟩
  · rintro b (hx | rfl)
    · exact Nat.lt_of_lt_of_le (C.bd b hx) h.size
    · exact hb.lt
  · rintro b (hy | rfl)
    · exact .inl (C.yx b hy)
    · exact .inr rfl
  · rintro b hlt (hx | rfl)
    · exact hx
    · omega
  · rintro b hlt (hx | rfl)
    · exact hx
    · omega
theorem St.callF {k : FuncId} {args : Array Operand} {ts : Array TypeId} {vs : List Value} {cs : List Value} {n : Nat} {T : TypeId} (C : Cx X0 w0 x y w) (hk : callable P k = true)
    (ha : args.toList.map ρ = vs) (he : ρ (.func k) = .func (.func k) #[] #[]) (hc : Calls P k vs.toArray w (Ret w fun v w' => Fresh w cs n T v w'))
    (h : ∀ g w' x' y', (∀ b, b < w.heap.size → b ≠ g) → Cx X0 w0 x' y' w' → Sp x y w x' y' w' nobody → Own w0 y' w' g cs T → K (.slice (some ⟨g, 0, none⟩) n n) w') :
    St P ρ ⟨dst, .call { callee := .value (.func k), args := args, argTypes := ts }, ty, pos, after, gd⟩ w K Kp := by
  unfold callable at hk
  split at hk
  · rename_i fn hf
    simp only [Bool.and_eq_true, Bool.not_eq_true'] at hk
    refine St.call hf hk.1 hk.2 ha (Calls.mono hc ?_) he
    intro e w' hr
    cases e with
    | returned v =>
      obtain ⟨⟨g, rfl, hg, hb⟩, h2⟩ := hr
      obtain ⟨c, s, o⟩ := C.adopt h2 hg hb
      exact h g w' _ _ (fun b hb => by omega) c s o
    | panicked ch => exact hr.elim
    | outgrown => exact hr.elim
  · cases hk
end
def less1 (x : Nat → Prop) (g : Nat) : Nat → Prop := fun b => x b ∧ b ≠ g
section
variable {X0 x y : Nat → Prop} {w0 : Bs} {w : World}
theorem Cx.freeze (C : Cx X0 w0 x y w) (hX : ∀ b, X0 b → b < w0.heap.size) {g : Nat} {cs : List Value} {T : TypeId} (o : Own w0 y w g cs T) (hM : ¬ w0.M g) : Cx X0 w0 (less1 x g) (less1 y g) w := by
  refine ⟨C.below, fun b hb => ⟨C.base b hb, ?_⟩, fun b hb => C.bd b hb.1, fun b hb => ⟨C.yx b hb.1, hb.2⟩⟩
  rintro rfl
  have := hX b hb
  rcases o.ge with h | h
  · omega
  · exact hM h
theorem Own.frz {g g' : Nat} {cs : List Value} {T : TypeId} (o : Own w0 y w g' cs T) (hn : g' ≠ g) : Own w0 (less1 y g) w g' cs T := ⟨⟨o.mem, hn⟩, o.ge, o.blk⟩
theorem Tr.frz {g : Nat} : Tr x w (less1 x g) w := Tr.weak fun _ h => h.1
theorem Own.frRS {g n c : Nat} {L : List Nat} {E : TypeId} (o : Own w0 y w g (L.map u32v) E) (hn : n ≤ L.length) (hc : n ≤ c) (hb : c ≤ 1099511627776) (hL : ∀ u ∈ L, u < 4294967296) :
    RS u32Ty (less1 x g) w (.slice (some ⟨g, 0, none⟩) n c) (L.take n) := by
  have hl : (L.take n).length = n := by rw [List.length_take]; omega
  refine ⟨_, c, by rw [hl], by omega, by unfold maxLen; omega, .inr ⟨g, 0, rfl, fun h => h.2 rfl, ?_⟩⟩
  intro i u hi
  have hi' : L[i]? = some u := by
    have hlt := (List.getElem?_eq_some_iff.1 hi).1
    rw [hl] at hlt
    rw [List.getElem?_take, if_pos hlt] at hi; exact hi
  refine ⟨[u32v u], ⟨rfl, hL u (List.mem_of_getElem? hi')⟩, ?_⟩
  intro j v hj
  cases j with
  | zero =>
    simp at hj; subst hj
    have := o.blk.cell (j := i) (v := u32v u) (by rw [List.getElem?_map, hi']; rfl)
    rw [show 0 + i * u32Ty.sz + 0 = i by simp [u32Ty]]; exact this
  | succ j => simp at hj
end
end Go.Wf
namespace Go.Wf
set_option linter.unusedVariables false
set_option linter.unusedSimpArgs false
open Go
theorem kn_ld {p U : List Nat} {i j : Nat} (hp : p.length = i) (hj : j = i) (h : j < U.length) : (p ++ U.drop i)[j]? = some (U.getD j 0) := by
  subst hj
  rw [List.getElem?_append_right (by omega), hp, Nat.sub_self, List.getElem?_drop, Nat.add_zero, List.getD_eq_getElem?_getD, List.getElem?_eq_getElem h]; rfl
theorem kn_st {p U : List Nat} {i d : Nat} (hp : p.length = i) (h : i < U.length) : (p ++ U.drop i).set i d = (p ++ [d]) ++ U.drop (i + 1) := by
  rw [List.set_append, if_neg (by omega), hp, Nat.sub_self, List.drop_eq_getElem_cons h, List.set_cons_zero, List.append_assoc]; rfl
theorem kn_stE {p U : List Nat} {i j d : Nat} (hp : p.length = i) (hj : j = i) (h : U.length = i + 1) : (p ++ U.drop i).set j d = p ++ [d] := by
  subst hj
  rw [kn_st hp (by omega), List.drop_of_length_le (by omega), List.append_nil]
theorem kn_kb {k v1 r top : Nat} (h : 0 < v1) (hv : k * v1 + r = top) : k ≤ top := Nat.le_trans (Nat.le_mul_of_pos_right k h) (by omega)
theorem kn_pos {k a b : Nat} (h : a < k * b) : 0 < k := Nat.pos_of_ne_zero fun e => by rw [e, Nat.zero_mul] at h; omega
theorem kn_hv {k v1 r top : Nat} (h : 0 < k) (hv : k * v1 + r = top) : (k - 1) * v1 + (r + v1) = top := by
  obtain ⟨m, rfl⟩ : ∃ m, k = m + 1 := ⟨k - 1, by omega⟩
  rw [Nat.add_mul, Nat.one_mul] at hv
  rw [Nat.add_sub_cancel]; omega
theorem kn_hV {v : List Nat} (hn : 2 ≤ v.length) : val v = val (v.take (v.length - 2)) + 4294967296 ^ (v.length - 2) * (v.getD (v.length - 2) 0 + 4294967296 * v.getD (v.length - 1) 0) := by
  have := val_top2 (l := v) (m := v.length - 2) (by omega)
  rw [show v.length - 2 + 1 = v.length - 1 by omega] at this; exact this
theorem kn_hU {U : List Nat} {n : Nat} (hn : 2 ≤ n) (h : U.length = n + 1) : val U = val (U.take (n - 2)) + 4294967296 ^ (n - 2) * (U.getD (n - 2) 0 + 4294967296 * (U.getD n 0 * 4294967296 + U.getD (n - 1) 0)) := by
  have := val_top3 (l := U) (m := n - 2) (by omega)
  rw [show n - 2 + 1 = n - 1 by omega, show n - 2 + 2 = n by omega] at this; exact this
theorem val_take_lt {l : List Nat} {k : Nat} (h : small l) (hk : k ≤ l.length) : val (l.take k) < 4294967296 ^ k := by
  have := val_lt _ (small_take h k)
  rwa [List.length_take, Nat.min_eq_left hk] at this
theorem kn_T {U v : List Nat} (sv : small v) (hV : 0 < val v) : val U % val v < 4294967296 ^ (v.length + 1) := by
  have h1 := Nat.mod_lt (val U) hV
  have h2 := val_lt v sv
  have h3 : 4294967296 ^ v.length ≤ 4294967296 ^ (v.length + 1) := Nat.pow_le_pow_right (by omega) (by omega)
  omega
def lenTab : List UInt8 := (List.range 256).map fun i => UInt8.ofNat (blen i)
theorem blen_bd {x : Nat} (h : x < 4294967296) : blen x ≤ 32 := blen_le (k := 32) h
theorem tabv {j : Nat} (h : j < 256) : (UInt8.ofNat (blen j)).toNat = blen j := by
  have := blen_le (k := 8) h
  show blen j % 256 = _
  omega
theorem lenTab_get {j : Nat} (h : j < 256) : lenTab[j]? = some (UInt8.ofNat (blen j)) := by
  unfold lenTab
  rw [List.getElem?_map, List.getElem?_range h]; rfl
theorem len32_0 {x : Nat} (h : 65536 ≤ x) (h2 : 256 ≤ x / 65536) (hx : x < 4294967296) : blen x = blen (x / 65536 / 256 % 256) + 24 := by
  rw [Nat.mod_eq_of_lt (by omega), blen_shift (x := x) (k := 16) h, blen_shift (x := x / 2 ^ 16) (k := 8) h2]
theorem len32_1 {x : Nat} (h : 65536 ≤ x) (h2 : x / 65536 < 256) : blen x = blen (x / 65536 % 256) + 16 := by
  rw [Nat.mod_eq_of_lt (by omega), blen_shift (x := x) (k := 16) h]
theorem len32_2 {x : Nat} (h : 256 ≤ x) (hx : x < 65536) : blen x = blen (x / 256 % 256) + 8 := by
  rw [Nat.mod_eq_of_lt (by omega), blen_shift (x := x) (k := 8) h]
theorem len32_3 {x : Nat} (h : x < 256) : blen x = blen (x % 256) := by
  rw [Nat.mod_eq_of_lt h]
end Go.Wf
namespace Go.Wf
open Go Go.Proofs Go.RowKit
set_option maxRecDepth 100000
set_option linter.unusedVariables false
set_option linter.unusedSimpArgs false
set_option maxHeartbeats 1000000 in
theorem c_len32 {X : Nat → Prop} {w : World} (hX : ∀ b, X b → b < w.heap.size) {x : Nat} (hx : x < 4294967296) : Calls Tryz.prog 88 #[(.int .u32 ((x : Nat) : Int))] w (Ret w fun v w' => v = (.int .i64 (((blen x) : Nat) : Int))) := by
 have C := Cx.start hX
 refine Calls.ofW (args := [(.int .u32 ((x : Nat) : Int))]) Tryz.func88 rfl rfl (Nat.le_of_ble_eq_true rfl) (Rg (Oa (Nl (Rh (Om (O rfl (St.geq2 rfl rfl (fun hc1 => ?_) (fun hc1 => ?_))))))))
 · refine Nl (W.condT rfl (Rg (Om (O rfl (St.shr rfl rfl (by decide) (nat_shr (d := 65536) _ (by decide)) (Oa (Nl (W.region (Oa (Nl (Rh (Om (O rfl (St.geq2 rfl rfl (fun hc2 => ?_) (fun hc2 => ?_)))))))))))))))
   · refine Nl (W.condT rfl (Rg (Om (O rfl (St.shr rfl rfl (by decide) (nat_shr (d := 256) _ (by decide)) (Oa (Nl (W.region (Om (O rfl (St.add (z := (16 + 8)) rfl rfl (IntWalk.i64_in _ (by omega)) (Oa (Nl (W.seq ?_))))))))))))))
     have hb8 := UInt8.toNat_lt (UInt8.ofNat (blen ((x / 65536) / 256 % 256)))
     refine W.region (Om (Om (O rfl (St.conv (z := ((((x / 65536) / 256) % 256 : Nat) : Int)) us61 un5 rfl (wrap_nat_u8 _) (O rfl (St.indexL (j := ((x / 65536) / 256) % 256) (c := (UInt8.ofNat (blen (((x / 65536) / 256) % 256)))) un9 rfl rfl rfl (lenTab_get (Nat.mod_lt _ (by decide))) (O rfl (St.conv (z := (((UInt8.ofNat (blen (((x / 65536) / 256) % 256))).toNat : Nat) : Int)) us5 un3 rfl (IntWalk.i64_in _ (by omega)) ?_))))))))
     exact O rfl (St.add (z := ((16 + 8) + (((UInt8.ofNat (blen (((x / 65536) / 256) % 256))).toNat : Nat) : Int))) rfl rfl (IntWalk.i64_in _ (by omega)) (Oa (Nl (W.ret (ret_1 rfl (resV.t rfl) (Ret.intro (congrArg (Value.int _) ((by rw [tabv (Nat.mod_lt _ (by decide)), len32_0 (x := x) (by omega) (by omega) hx]; omega))) C.below))))))
   refine Nl (W.condF rfl (W.skip (W.seq ?_)))
   have hb8 := UInt8.toNat_lt (UInt8.ofNat (blen (x / 65536 % 256)))
   refine W.region (Om (Om (O rfl (St.conv (z := (((x / 65536) % 256 : Nat) : Int)) us61 un5 rfl (wrap_nat_u8 _) (O rfl (St.indexL (j := (x / 65536) % 256) (c := (UInt8.ofNat (blen ((x / 65536) % 256)))) un9 rfl rfl rfl (lenTab_get (Nat.mod_lt _ (by decide))) (O rfl (St.conv (z := (((UInt8.ofNat (blen ((x / 65536) % 256))).toNat : Nat) : Int)) us5 un3 rfl (IntWalk.i64_in _ (by omega)) ?_))))))))
   exact O rfl (St.add rfl rfl (nat_add_i64 (a := 16) (b := (UInt8.ofNat (blen ((x / 65536) % 256))).toNat) (by omega)) (Oa (Nl (W.ret (ret_1 rfl (resV.t rfl) (Ret.intro (congrArg (Value.int _) ((by rw [tabv (Nat.mod_lt _ (by decide)), len32_1 (x := x) (by omega) (by omega)]; omega))) C.below))))))
 refine Nl (W.condF rfl (W.skip (Rh (Om (O rfl (St.geq2 rfl rfl (fun hc3 => ?_) (fun hc3 => ?_)))))))
 · refine Nl (W.condT rfl (Rg (Om (O rfl (St.shr rfl rfl (by decide) (nat_shr (d := 256) _ (by decide)) (Oa (Nl (W.region (Om (O rfl (St.add (z := (0 + 8)) rfl rfl (IntWalk.i64_in _ (by omega)) (Oa (Nl (W.seq ?_))))))))))))))
   have hb8 := UInt8.toNat_lt (UInt8.ofNat (blen (x / 256 % 256)))
   refine W.region (Om (Om (O rfl (St.conv (z := (((x / 256) % 256 : Nat) : Int)) us61 un5 rfl (wrap_nat_u8 _) (O rfl (St.indexL (j := (x / 256) % 256) (c := (UInt8.ofNat (blen ((x / 256) % 256)))) un9 rfl rfl rfl (lenTab_get (Nat.mod_lt _ (by decide))) (O rfl (St.conv (z := (((UInt8.ofNat (blen ((x / 256) % 256))).toNat : Nat) : Int)) us5 un3 rfl (IntWalk.i64_in _ (by omega)) ?_))))))))
   exact O rfl (St.add (z := ((0 + 8) + (((UInt8.ofNat (blen ((x / 256) % 256))).toNat : Nat) : Int))) rfl rfl (IntWalk.i64_in _ (by omega)) (Oa (Nl (W.ret (ret_1 rfl (resV.t rfl) (Ret.intro (congrArg (Value.int _) ((by rw [tabv (Nat.mod_lt _ (by decide)), len32_2 (x := x) (by omega) (by omega)]; omega))) C.below))))))
 refine Nl (W.condF rfl (W.skip (W.seq ?_)))
 have hb8 := UInt8.toNat_lt (UInt8.ofNat (blen (x % 256)))
 refine W.region (Om (Om (O rfl (St.conv (z := ((x % 256 : Nat) : Int)) us61 un5 rfl (wrap_nat_u8 _) (O rfl (St.indexL (j := x % 256) (c := (UInt8.ofNat (blen (x % 256)))) un9 rfl rfl rfl (lenTab_get (Nat.mod_lt _ (by decide))) (O rfl (St.conv (z := (((UInt8.ofNat (blen (x % 256))).toNat : Nat) : Int)) us5 un3 rfl (IntWalk.i64_in _ (by omega)) ?_))))))))
 exact O rfl (St.add rfl rfl (nat_add_i64 (a := 0) (b := (UInt8.ofNat (blen (x % 256))).toNat) (by omega)) (Oa (Nl (W.ret (ret_1 rfl (resV.t rfl) (Ret.intro (congrArg (Value.int _) ((by rw [tabv (Nat.mod_lt _ (by decide)), len32_3 (x := x) (by omega)]; omega))) C.below))))))
set_option maxHeartbeats 1000000 in
theorem c_lz32 {X : Nat → Prop} {w : World} (hX : ∀ b, X b → b < w.heap.size) {x : Nat} (hx : x < 4294967296) : Calls Tryz.prog 94 #[(.int .u32 ((x : Nat) : Int))] w (Ret w fun v w' => v = (.int .i64 (((32 - blen x) : Nat) : Int))) := by
 have C := Cx.start hX
 have hb := blen_bd hx
 refine Calls.ofW (args := [(.int .u32 ((x : Nat) : Int))]) Tryz.func94 rfl rfl (Nat.le_of_ble_eq_true rfl) (Rg (Oa (Nl (Rg (Om (O rfl (St.callR C cb88 rfl rfl (c_len32 C.bd (x := x) (by omega)) ?_)))))))
 intro v1 w2 C3 s4 h5
 subst h5
 exact O rfl (St.sub (z := (32 - (((blen x) : Nat) : Int))) rfl rfl (IntWalk.i64_in _ (by omega)) (Oa (Nl (W.ret (ret_1 rfl (resV.t rfl) (Ret.intro (congrArg (Value.int _) ((by omega))) C3.below))))))
set_option maxHeartbeats 4000000 in
theorem c_digit {X : Nat → Prop} {w : World} (hX : ∀ b, X b → b < w.heap.size) {g j c : Nat} {A U Z : List Nat} (hA : A.length = j) (hB : Blk w g ((A ++ U ++ Z).map u32v) 61) (hXg : X g) {v1 : Value} {V : List Nat} (r1 : RS u32Ty X w v1 V) (sU : small U) (hn : 2 ≤ V.length) (hnB : V.length ≤ 1099511627776) (hU : U.length = V.length + 1) (htop : 0 < (V.getD (V.length - 1) 0)) (hlt : val U < val V * 4294967296) : Calls Tryz.prog 96 #[(.slice (some ⟨g, j, none⟩) U.length c), v1] w (RetM w g fun v w' => v = (.int .u32 (((val U / val V) : Nat) : Int)) ∧ Blk w' g ((A ++ (digsN (V.length + 1) (val U % val V)) ++ Z).map u32v) 61) := by
 obtain ⟨a1, c2, rfl, _, _⟩ := r1.len
 have C := Cx.startM g hX hXg
 have o0 := Own.startM hB
 have sv := r1.u32_small
 have hUe := kn_hU hn hU
 have hVe := kn_hV hn
 have hu2 := small_getD sU (V.length - 2)
 have hun := small_getD sU V.length
 have hu1 := small_getD sU (V.length - 1)
 have hv1 := small_getD sv (V.length - 1)
 have hv2 := small_getD sv (V.length - 2)
 have hUl := val_take_lt (k := V.length - 2) sU (by omega)
 have hVl := val_take_lt (k := V.length - 2) sv (by omega)
 have htopb := kn_topb hVl hv2 hu1 (by rw [← hUe, ← hVe]; exact hlt)
 have hVpos : 0 < val V := by rw [hVe]; exact Nat.lt_of_lt_of_le (Nat.mul_pos (Nat.pow_pos (by decide)) (show 0 < (V.getD (V.length - 2) 0) + 4294967296 * (V.getD (V.length - 1) 0) by omega)) (Nat.le_add_left _ _)
 refine Calls.ofW (args := [(.slice (some ⟨g, j, none⟩) U.length c), (.slice a1 V.length c2)]) Tryz.func96 rfl rfl (Nat.le_of_ble_eq_true rfl) (Rg (Oa (Nl (Rg (Om (O rfl (St.len sl24 rfl (Oa (Nl (W.seq (W.drawC mixed 12 [[], [], [0, 1], [2], [3], [4], [], [], [7], [6, 8], [9], [10]] C [fx (.slice (some ⟨g, j, none⟩) U.length c), fx (.int .i64 ((V.length : Nat) : Int)), fx (.pointer (some ⟨g, j + V.length, none⟩)), fx (.int .u32 (((U.getD V.length 0) : Nat) : Int)), fx (.int .u64 (((U.getD V.length 0) : Nat) : Int)), fx (.int .u64 (((U.getD V.length 0) * 4294967296 : Nat) : Int)), fx (.slice (some ⟨g, j, none⟩) U.length c), fx (.int .i64 ((V.length : Nat) : Int)), fx (.int .i64 ((V.length - 1 : Nat) : Int)), fx (.pointer (some ⟨g, j + (V.length - 1), none⟩)), fx (.int .u32 (((U.getD (V.length - 1) 0) : Nat) : Int)), fx (.int .u64 (((U.getD (V.length - 1) 0) : Nat) : Int))] (by kernel_rfl) ⟨sx, sx, sx, sx, sx, sx, sx, sx, sx, sx, sx, sx, trivial⟩ fun f4 s5 w6 ⟨C9, S10⟩ k8 => ?_)))))))))))
 replace o0 := o0.spn S10
 have k8 : Keep [19, 20, 21, 22, 23, 24, 25, 26, 27, 28, 29, 30] _ f4 := k8
 refine ⟨⟨fun _ => ?_, fun _ => ?_, fun ⟨e12, e13, _⟩ => ?_, fun ⟨e14, _⟩ => ?_, fun ⟨e15, _⟩ => ?_, fun ⟨e16, _⟩ => ?_, fun _ => ?_, fun _ => ?_, fun ⟨e17, _⟩ => ?_, fun ⟨e18, e19, _⟩ => ?_, fun ⟨e20, _⟩ => ?_, fun ⟨e21, _⟩ => ?_, trivial⟩, fun ⟨e22, e23, e24, e25, e26, e27, e28, e29, e30, e31, e32, e33, _⟩ => ?_⟩
 · exact stepD k8 aN fun _ => OpSt.op (St.move ⟨s5, RC.same C9, rfl⟩)
 · exact stepD k8 aN fun _ => OpSt.op (St.move ⟨s5, RC.same C9, rfl⟩)
 · exact stepD k8 (aC e12 (aC e13 aN)) fun _ => OpSt.op (St.idxRowO (j := V.length) sl24 io61 rfl rfl rfl (by omega) ⟨s5, RC.same C9, rfl⟩)
 · exact stepD k8 (aC e14 aN) fun _ => OpSt.op (St.loadRowO (j := V.length) (u := (U.getD V.length 0)) hA o0 pl61 rfl (getSome (by omega)) ⟨s5, RC.same C9, rfl⟩)
 · exact stepD k8 (aC e15 aN) fun _ => OpSt.op (St.conv (z := (((U.getD V.length 0) : Nat) : Int)) us61 un60 rfl (IntWalk.u64_in _ (by omega)) ⟨s5, RC.same C9, rfl⟩)
 · exact stepD k8 (aC e16 aN) fun _ => OpSt.op (St.shl (z := (((U.getD V.length 0) * 4294967296 : Nat) : Int)) rfl rfl (by decide) (word_shl hun) ⟨s5, RC.same C9, rfl⟩)
 · exact stepD k8 aN fun _ => OpSt.op (St.move ⟨s5, RC.same C9, rfl⟩)
 · exact stepD k8 aN fun _ => OpSt.op (St.move ⟨s5, RC.same C9, rfl⟩)
 · exact stepD k8 (aC e17 aN) fun _ => OpSt.op (St.sub rfl rfl (nat_sub_i64 (a := V.length) (b := 1) (by omega) (by omega)) ⟨s5, RC.same C9, rfl⟩)
 · exact stepD k8 (aC e18 (aC e19 aN)) fun _ => OpSt.op (St.idxRowO (j := V.length - 1) sl24 io61 rfl rfl rfl (by omega) ⟨s5, RC.same C9, rfl⟩)
 · exact stepD k8 (aC e20 aN) fun _ => OpSt.op (St.loadRowO (j := V.length - 1) (u := (U.getD (V.length - 1) 0)) hA o0 pl61 rfl (getSome (by omega)) ⟨s5, RC.same C9, rfl⟩)
 · exact stepD k8 (aC e21 aN) fun _ => OpSt.op (St.conv (z := (((U.getD (V.length - 1) 0) : Nat) : Int)) us61 un60 rfl (IntWalk.u64_in _ (by omega)) ⟨s5, RC.same C9, rfl⟩)
 obtain ⟨f35, rfl⟩ := mixK k8 (aC e22 (aC e23 (aC e24 (aC e25 (aC e26 (aC e27 (aC e28 (aC e29 (aC e30 (aC e31 (aC e32 (aC e33 aN))))))))))))
 refine O rfl (St.or (z := (((U.getD V.length 0) * 4294967296 + (U.getD (V.length - 1) 0) : Nat) : Int)) rfl rfl (word_or hun hu1) (Oa (Nl (W.seq (W.drawC mixed 17 [[], [], [], [2], [1, 3], [4], [5], [0, 6], [], [], [], [10], [9, 11], [12], [13], [8, 14], [7]] C9 [fx (.int .u64 (((U.getD V.length 0) * 4294967296 + (U.getD (V.length - 1) 0) : Nat) : Int)), fx (.slice a1 V.length c2), fx (.int .i64 ((V.length : Nat) : Int)), fx (.int .i64 ((V.length - 1 : Nat) : Int)), fE u32Ty (V.getD (V.length - 1) 0), fx (.int .u32 (((V.getD (V.length - 1) 0) : Nat) : Int)), fx (.int .u64 (((V.getD (V.length - 1) 0) : Nat) : Int)), fx (.int .u64 ((((U.getD V.length 0) * 4294967296 + (U.getD (V.length - 1) 0)) / (V.getD (V.length - 1) 0) : Nat) : Int)), fx (.int .u64 (((U.getD V.length 0) * 4294967296 + (U.getD (V.length - 1) 0) : Nat) : Int)), fx (.slice a1 V.length c2), fx (.int .i64 ((V.length : Nat) : Int)), fx (.int .i64 ((V.length - 1 : Nat) : Int)), fE u32Ty (V.getD (V.length - 1) 0), fx (.int .u32 (((V.getD (V.length - 1) 0) : Nat) : Int)), fx (.int .u64 (((V.getD (V.length - 1) 0) : Nat) : Int)), fx (.int .u64 ((((U.getD V.length 0) * 4294967296 + (U.getD (V.length - 1) 0)) % (V.getD (V.length - 1) 0) : Nat) : Int)), fx (.int .u64 ((((U.getD V.length 0) * 4294967296 + (U.getD (V.length - 1) 0)) / (V.getD (V.length - 1) 0) : Nat) : Int))] (by kernel_rfl) ⟨sx, sx, sx, sx, sE, sx, sx, sx, sx, sx, sx, sx, sE, sx, sx, sx, sx, trivial⟩ fun f47 s48 w49 ⟨C52, S53⟩ k51 => ?_)))))
 replace r1 := (r1.sp S10).sp S53
 replace o0 := o0.spn S53
 have k51 : Keep [32, 33, 34, 35, 36, 37, 38, 39, 40, 41, 42, 43, 44, 45, 46, 47, 7] _ f47 := k51
 refine ⟨⟨fun _ => ?_, fun _ => ?_, fun _ => ?_, fun ⟨e55, _⟩ => ?_, fun ⟨e56, e57, _⟩ => ?_, fun ⟨d58, _⟩ => ?_, fun ⟨e59, _⟩ => ?_, fun ⟨e60, e61, _⟩ => ?_, fun _ => ?_, fun _ => ?_, fun _ => ?_, fun ⟨e62, _⟩ => ?_, fun ⟨e63, e64, _⟩ => ?_, fun ⟨d65, _⟩ => ?_, fun ⟨e66, _⟩ => ?_, fun ⟨e67, e68, _⟩ => ?_, fun ⟨e69, _⟩ => ?_, trivial⟩, fun ⟨e70, e71, e72, e73, d74, e75, e76, e77, e78, e79, e80, e81, d82, e83, e84, e85, e86, _⟩ => ?_⟩
 · exact stepD k51 aN fun _ => OpSt.op (St.move ⟨s48, RC.same C52, rfl⟩)
 · exact stepD k51 aN fun _ => OpSt.op (St.move ⟨s48, RC.same C52, rfl⟩)
 · exact stepD k51 aN fun _ => OpSt.op (St.move ⟨s48, RC.same C52, rfl⟩)
 · exact stepD k51 (aC e55 aN) fun _ => OpSt.op (St.sub rfl rfl (nat_sub_i64 (a := V.length) (b := 1) (by omega) (by omega)) ⟨s48, RC.same C52, rfl⟩)
 · refine stepD k51 (aC e56 (aC e57 aN)) fun _ => OpSt.op (St.idx (j := V.length - 1) (u := (V.getD (V.length - 1) 0)) r1 sl24 io61 rfl rfl rfl (getSome (by omega)) ?_)
   intro b88 o89 cs90 e91
   obtain ⟨rfl, bd92⟩ : cs90 = _ ∧ _ := e91.rd
   exact ⟨s48, RC.same C52, ⟨_, _, _, rfl, e91⟩⟩
 · obtain ⟨b94, o95, cs96, e93, e97⟩ := d58
   obtain ⟨rfl, bd98⟩ : cs96 = _ ∧ _ := e97.rd
   exact stepD k51 (aC e93 aN) fun _ => OpSt.op (St.load1 pl61 rfl (e97.cell 0 _ rfl) ⟨s48, RC.same C52, rfl⟩)
 · exact stepD k51 (aC e59 aN) fun _ => OpSt.op (St.conv (z := (((V.getD (V.length - 1) 0) : Nat) : Int)) us61 un60 rfl (IntWalk.u64_in _ (by omega)) ⟨s48, RC.same C52, rfl⟩)
 · exact stepD k51 (aC e60 (aC e61 aN)) fun _ => OpSt.op (St.quo rfl rfl (by omega) (nat_quo_u64 (a := (U.getD V.length 0) * 4294967296 + (U.getD (V.length - 1) 0)) (b := (V.getD (V.length - 1) 0)) (by omega)) ⟨s48, RC.same C52, rfl⟩)
 · exact stepD k51 aN fun _ => OpSt.op (St.move ⟨s48, RC.same C52, rfl⟩)
 · exact stepD k51 aN fun _ => OpSt.op (St.move ⟨s48, RC.same C52, rfl⟩)
 · exact stepD k51 aN fun _ => OpSt.op (St.move ⟨s48, RC.same C52, rfl⟩)
 · exact stepD k51 (aC e62 aN) fun _ => OpSt.op (St.sub rfl rfl (nat_sub_i64 (a := V.length) (b := 1) (by omega) (by omega)) ⟨s48, RC.same C52, rfl⟩)
 · refine stepD k51 (aC e63 (aC e64 aN)) fun _ => OpSt.op (St.idx (j := V.length - 1) (u := (V.getD (V.length - 1) 0)) r1 sl24 io61 rfl rfl rfl (getSome (by omega)) ?_)
   intro b99 o100 cs101 e102
   obtain ⟨rfl, bd103⟩ : cs101 = _ ∧ _ := e102.rd
   exact ⟨s48, RC.same C52, ⟨_, _, _, rfl, e102⟩⟩
 · obtain ⟨b105, o106, cs107, e104, e108⟩ := d65
   obtain ⟨rfl, bd109⟩ : cs107 = _ ∧ _ := e108.rd
   exact stepD k51 (aC e104 aN) fun _ => OpSt.op (St.load1 pl61 rfl (e108.cell 0 _ rfl) ⟨s48, RC.same C52, rfl⟩)
 · exact stepD k51 (aC e66 aN) fun _ => OpSt.op (St.conv (z := (((V.getD (V.length - 1) 0) : Nat) : Int)) us61 un60 rfl (IntWalk.u64_in _ (by omega)) ⟨s48, RC.same C52, rfl⟩)
 · exact stepD k51 (aC e67 (aC e68 aN)) fun _ => OpSt.op (St.rem rfl rfl (by omega) (nat_rem ((U.getD V.length 0) * 4294967296 + (U.getD (V.length - 1) 0)) (V.getD (V.length - 1) 0)) ⟨s48, RC.same C52, rfl⟩)
 · exact stepD k51 (aC e69 aN) fun _ => OpSt.op (St.assign ⟨s48, RC.same C52, rfl⟩)
 obtain ⟨b111, o112, cs113, e110, e114⟩ := d74
 obtain ⟨rfl, bd115⟩ : cs113 = _ ∧ _ := e114.rd
 obtain ⟨b117, o118, cs119, e116, e120⟩ := d82
 obtain ⟨rfl, bd121⟩ : cs119 = _ ∧ _ := e120.rd
 obtain ⟨f122, rfl⟩ := mixK k51 (aC e70 (aC e71 (aC e72 (aC e73 (aC e110 (aC e75 (aC e76 (aC e77 (aC e78 (aC e79 (aC e80 (aC e81 (aC e116 (aC e83 (aC e84 (aC e85 (aC e86 aN)))))))))))))))))
 refine Oa (Nl (W.seq (W.cut (fun f v => ∃ (x y : Nat → Prop) (q : Nat), Cx X ⟨w, (· = g)⟩ x y v ∧ f 0 = (.slice (some ⟨g, j, none⟩) U.length c) ∧ f 1 = (.slice a1 V.length c2) ∧ f 4 = (.int .u32 0) ∧ f 5 = (.int .i64 ((V.length : Nat) : Int)) ∧ f 7 = (.int .u64 ((q : Nat) : Int)) ∧ RS u32Ty x v (.slice a1 V.length c2) V ∧ Own ⟨w, (· = g)⟩ y v g ((A ++ U ++ Z).map u32v) 61 ∧ val U / val V ≤ q ∧ q ≤ val U / val V + 1 ∧ q < 4294967296) ?_ ?_)))
 · refine W.block (W.loopN (fun μ f v => ∃ (x y : Nat → Prop) (k : Nat) (r : Nat), Cx X ⟨w, (· = g)⟩ x y v ∧ f 0 = (.slice (some ⟨g, j, none⟩) U.length c) ∧ f 1 = (.slice a1 V.length c2) ∧ f 4 = (.int .u32 0) ∧ f 5 = (.int .i64 ((V.length : Nat) : Int)) ∧ f 7 = (.int .u64 ((k : Nat) : Int)) ∧ f 8 = (.int .u64 ((r : Nat) : Int)) ∧ RS u32Ty x v (.slice a1 V.length c2) V ∧ Own ⟨w, (· = g)⟩ y v g ((A ++ U ++ Z).map u32v) 61 ∧ val U / val V ≤ k ∧ k * (V.getD (V.length - 1) 0) + r = (U.getD V.length 0) * 4294967296 + (U.getD (V.length - 1) 0) ∧ r < 4294967296 ∧ μ = k) _ ⟨_, _, ((U.getD V.length 0) * 4294967296 + (U.getD (V.length - 1) 0)) / (V.getD (V.length - 1) 0), ((U.getD V.length 0) * 4294967296 + (U.getD (V.length - 1) 0)) % (V.getD (V.length - 1) 0), C52, rfl, rfl, rfl, rfl, rfl, rfl, r1, o0, (by rw [hUe, hVe]; exact (kn_g0 hUl hu2).resolve_right (by omega)), (by rw [Nat.mul_comm]; exact Nat.div_add_mod _ _), (Nat.lt_trans (Nat.mod_lt _ htop) hv1), rfl⟩ ?_)
   rintro m136 f123 w124 ⟨x125, y126, k, r, C127, e128, e129, e130, e131, e132, e133, r1, o134, hk, hkr, hr, hmu135⟩
   obtain ⟨f137, rfl⟩ := rebK (aC e128 (aC e129 (aC e130 (aC e131 (aC e132 (aC e133 aN))))))
   clear e128 e129 e130 e131 e132 e133
   have hkb := kn_kb htop hkr
   refine W.seq (W.seq ?_)
   by_cases hgB : 4294967296 ≤ k
   · refine W.drawC mixed 20 [[], [0], [1], [2], [2], [2], [2, 5], [2, 4, 6], [2, 7], [2, 8], [2, 3, 9], [2], [2, 11], [2], [2], [2, 14], [2, 13, 15], [2, 16], [2, 17], [2, 12, 18]] C127 [fx (.int .u64 ((k : Nat) : Int)), fx (.bool true), fx (.bool true), noG, noG, noG, noG, noG, noG, noG, noG, noG, noG, noG, noG, noG, noG, noG, noG, noG] (by kernel_rfl) ⟨sx, sx, sx, (fun _ _ _ _ _ h _ => h), (fun _ _ _ _ _ h _ => h), (fun _ _ _ _ _ h _ => h), (fun _ _ _ _ _ h _ => h), (fun _ _ _ _ _ h _ => h), (fun _ _ _ _ _ h _ => h), (fun _ _ _ _ _ h _ => h), (fun _ _ _ _ _ h _ => h), (fun _ _ _ _ _ h _ => h), (fun _ _ _ _ _ h _ => h), (fun _ _ _ _ _ h _ => h), (fun _ _ _ _ _ h _ => h), (fun _ _ _ _ _ h _ => h), (fun _ _ _ _ _ h _ => h), (fun _ _ _ _ _ h _ => h), (fun _ _ _ _ _ h _ => h), (fun _ _ _ _ _ h _ => h), trivial⟩ fun f139 s140 w141 ⟨C144, S145⟩ k143 => ?_
     replace r1 := r1.sp S145
     replace o134 := o134.spn S145
     have k143 : Keep [48, 49, 50, 51, 52, 53, 54, 55, 56, 57, 58, 59, 60, 61, 62, 63, 64, 65, 66, 67] _ f139 := k143
     refine ⟨⟨fun _ => ?_, fun ⟨e147, _⟩ => ?_, fun ⟨e148, _⟩ => ?_, fun ⟨e149, _⟩ => ?_, fun ⟨e150, _⟩ => ?_, fun ⟨e151, _⟩ => ?_, fun ⟨e152, d153, _⟩ => ?_, fun ⟨e154, d155, d156, _⟩ => ?_, fun ⟨e157, d158, _⟩ => ?_, fun ⟨e159, d160, _⟩ => ?_, fun ⟨e161, d162, d163, _⟩ => ?_, fun ⟨e164, _⟩ => ?_, fun ⟨e165, d166, _⟩ => ?_, fun ⟨e167, _⟩ => ?_, fun ⟨e168, _⟩ => ?_, fun ⟨e169, d170, _⟩ => ?_, fun ⟨e171, d172, d173, _⟩ => ?_, fun ⟨e174, d175, _⟩ => ?_, fun ⟨e176, d177, _⟩ => ?_, fun ⟨e178, d179, d180, _⟩ => ?_, trivial⟩, fun ⟨e181, e182, e183, d184, d185, d186, d187, d188, d189, d190, d191, d192, d193, d194, d195, d196, d197, d198, d199, d200, _⟩ => ?_⟩
     · exact stepD k143 aN fun _ => OpSt.op (St.move ⟨s140, RC.same C144, rfl⟩)
     · exact stepD k143 (aC e147 aN) fun _ => OpSt.op (St.geq (t := true) rfl rfl (decide_eq_true (by omega)) ⟨s140, RC.same C144, rfl⟩)
     · exact stepD k143 (aC e148 aN) fun _ => OpSt.op (St.move ⟨s140, RC.same C144, rfl⟩)
     · exact stepD k143 (aC e149 aN) fun _ => OpSt.opn rfl rfl ⟨s140, RC.same C144, trivial⟩
     · exact stepD k143 (aC e150 aN) fun _ => OpSt.opn rfl rfl ⟨s140, RC.same C144, trivial⟩
     · exact stepD k143 (aC e151 aN) fun _ => OpSt.opn rfl rfl ⟨s140, RC.same C144, trivial⟩
     · exact stepD k143 (aC e152 aN) fun _ => OpSt.opn rfl rfl ⟨s140, RC.same C144, trivial⟩
     · exact stepD k143 (aC e154 aN) fun _ => OpSt.opn rfl rfl ⟨s140, RC.same C144, trivial⟩
     · exact stepD k143 (aC e157 aN) fun _ => OpSt.opn rfl rfl ⟨s140, RC.same C144, trivial⟩
     · exact stepD k143 (aC e159 aN) fun _ => OpSt.opn rfl rfl ⟨s140, RC.same C144, trivial⟩
     · exact stepD k143 (aC e161 aN) fun _ => OpSt.opn rfl rfl ⟨s140, RC.same C144, trivial⟩
     · exact stepD k143 (aC e164 aN) fun _ => OpSt.opn rfl rfl ⟨s140, RC.same C144, trivial⟩
     · exact stepD k143 (aC e165 aN) fun _ => OpSt.opn rfl rfl ⟨s140, RC.same C144, trivial⟩
     · exact stepD k143 (aC e167 aN) fun _ => OpSt.opn rfl rfl ⟨s140, RC.same C144, trivial⟩
     · exact stepD k143 (aC e168 aN) fun _ => OpSt.opn rfl rfl ⟨s140, RC.same C144, trivial⟩
     · exact stepD k143 (aC e169 aN) fun _ => OpSt.opn rfl rfl ⟨s140, RC.same C144, trivial⟩
     · exact stepD k143 (aC e171 aN) fun _ => OpSt.opn rfl rfl ⟨s140, RC.same C144, trivial⟩
     · exact stepD k143 (aC e174 aN) fun _ => OpSt.opn rfl rfl ⟨s140, RC.same C144, trivial⟩
     · exact stepD k143 (aC e176 aN) fun _ => OpSt.opn rfl rfl ⟨s140, RC.same C144, trivial⟩
     · exact stepD k143 (aC e178 aN) fun _ => OpSt.opn rfl rfl ⟨s140, RC.same C144, trivial⟩
     obtain ⟨f202, rfl⟩ := mixK k143 (aC e181 (aC e182 (aC e183 aN)))
     refine Ox rfl rfl rfl (OT (Nl (W.condT rfl (W.skip (W.block (W.seq ?_))))))
     have hq : val U / val V < k := by rw [hUe, hVe]; exact kn_top (by rw [← hUe, ← hVe]; exact hlt) hgB
     have hk1 : 0 < k := by omega
     refine W.region (Om (O rfl (St.sub rfl rfl (nat_sub_u64 (a := k) (b := 1) (by omega) (by omega)) (Oa (Nl (Rg (Om (Om (Om (O rfl (St.sub rfl rfl (nat_sub_i64 (a := V.length) (b := 1) (by omega) (by omega)) (O rfl (St.idx (j := V.length - 1) (u := (V.getD (V.length - 1) 0)) r1 sl24 io61 rfl rfl rfl (getSome (by omega)) ?_)))))))))))))
     intro b203 o204 cs205 e206
     obtain ⟨rfl, bd207⟩ : cs205 = _ ∧ _ := e206.rd
     refine O rfl (St.load1 pl61 rfl (e206.cell 0 _ rfl) (O rfl (St.conv (z := (((V.getD (V.length - 1) 0) : Nat) : Int)) us61 un60 rfl (IntWalk.u64_in _ (by omega)) (O rfl (St.add rfl rfl (nat_add_u64 (a := r) (b := (V.getD (V.length - 1) 0)) (by omega)) (Oa (Nl (Rg (Om (O rfl (St.geq2 rfl rfl (fun hc208 => ?_) (fun hc208 => ?_))))))))))))
     · refine Nl (W.condT rfl (W.exit (⟨_, _, (k - 1), C144, rfl, rfl, rfl, rfl, rfl, r1, o134, (le_pred hq), (by rw [hUe, hVe]; exact Nat.le_succ_of_le (kn_e1 hVl hv2 htop htopb (kn_hv hk1 hkr) (by omega)).1), (kn_e1 (Ul := 0) (u2 := 0) hVl hv2 htop htopb (kn_hv hk1 hkr) (by omega)).2⟩)))
     refine Nl (W.condF rfl (W.skip (⟨_, (by omega), _, _, (k - 1), (r + (V.getD (V.length - 1) 0)), C144, rfl, rfl, rfl, rfl, rfl, rfl, r1, o134, (le_pred hq), (kn_hv hk1 hkr), (by omega), rfl⟩)))
   refine W.drawC mixed 20 [[], [0], [1], [2], [2], [2], [2, 5], [2, 4, 6], [2, 7], [2, 8], [2, 3, 9], [2], [2, 11], [2], [2], [2, 14], [2, 13, 15], [2, 16], [2, 17], [2, 12, 18]] C127 [fx (.int .u64 ((k : Nat) : Int)), fx (.bool false), fx (.bool false), fx (.int .u64 ((k : Nat) : Int)), fx (.slice a1 V.length c2), fx (.int .i64 ((V.length : Nat) : Int)), fx (.int .i64 ((V.length - 2 : Nat) : Int)), fE u32Ty (V.getD (V.length - 2) 0), fx (.int .u32 (((V.getD (V.length - 2) 0) : Nat) : Int)), fx (.int .u64 (((V.getD (V.length - 2) 0) : Nat) : Int)), fx (.int .u64 ((k * (V.getD (V.length - 2) 0) : Nat) : Int)), fx (.int .u64 ((r : Nat) : Int)), fx (.int .u64 ((r * 4294967296 : Nat) : Int)), fx (.slice (some ⟨g, j, none⟩) U.length c), fx (.int .i64 ((V.length : Nat) : Int)), fx (.int .i64 ((V.length - 2 : Nat) : Int)), fx (.pointer (some ⟨g, j + (V.length - 2), none⟩)), fx (.int .u32 (((U.getD (V.length - 2) 0) : Nat) : Int)), fx (.int .u64 (((U.getD (V.length - 2) 0) : Nat) : Int)), fx (.int .u64 ((r * 4294967296 + (U.getD (V.length - 2) 0) : Nat) : Int))] (by kernel_rfl) ⟨sx, sx, sx, sx, sx, sx, sx, sE, sx, sx, sx, sx, sx, sx, sx, sx, sx, sx, sx, sx, trivial⟩ fun f215 s216 w217 ⟨C220, S221⟩ k219 => ?_
   replace r1 := r1.sp S221
   replace o134 := o134.spn S221
   have k219 : Keep [48, 49, 50, 51, 52, 53, 54, 55, 56, 57, 58, 59, 60, 61, 62, 63, 64, 65, 66, 67] _ f215 := k219
   refine ⟨⟨fun _ => ?_, fun ⟨e223, _⟩ => ?_, fun ⟨e224, _⟩ => ?_, fun ⟨e225, _⟩ => ?_, fun ⟨e226, _⟩ => ?_, fun ⟨e227, _⟩ => ?_, fun ⟨e228, e229, _⟩ => ?_, fun ⟨e230, e231, e232, _⟩ => ?_, fun ⟨e233, d234, _⟩ => ?_, fun ⟨e235, e236, _⟩ => ?_, fun ⟨e237, e238, e239, _⟩ => ?_, fun ⟨e240, _⟩ => ?_, fun ⟨e241, e242, _⟩ => ?_, fun ⟨e243, _⟩ => ?_, fun ⟨e244, _⟩ => ?_, fun ⟨e245, e246, _⟩ => ?_, fun ⟨e247, e248, e249, _⟩ => ?_, fun ⟨e250, e251, _⟩ => ?_, fun ⟨e252, e253, _⟩ => ?_, fun ⟨e254, e255, e256, _⟩ => ?_, trivial⟩, fun ⟨e257, e258, e259, e260, e261, e262, e263, d264, e265, e266, e267, e268, e269, e270, e271, e272, e273, e274, e275, e276, _⟩ => ?_⟩
   · exact stepD k219 aN fun _ => OpSt.op (St.move ⟨s216, RC.same C220, rfl⟩)
   · exact stepD k219 (aC e223 aN) fun _ => OpSt.op (St.geq (t := false) rfl rfl (decide_eq_false (by omega)) ⟨s216, RC.same C220, rfl⟩)
   · exact stepD k219 (aC e224 aN) fun _ => OpSt.op (St.move ⟨s216, RC.same C220, rfl⟩)
   · exact stepD k219 (aC e225 aN) fun _ => OpSt.opg rfl (St.move ⟨s216, RC.same C220, rfl⟩)
   · exact stepD k219 (aC e226 aN) fun _ => OpSt.opg rfl (St.move ⟨s216, RC.same C220, rfl⟩)
   · exact stepD k219 (aC e227 aN) fun _ => OpSt.opg rfl (St.move ⟨s216, RC.same C220, rfl⟩)
   · exact stepD k219 (aC e228 (aC e229 aN)) fun _ => OpSt.opg rfl (St.sub rfl rfl (nat_sub_i64 (a := V.length) (b := 2) (by omega) (by omega)) ⟨s216, RC.same C220, rfl⟩)
   · refine stepD k219 (aC e230 (aC e231 (aC e232 aN))) fun _ => OpSt.opg rfl (St.idx (j := V.length - 2) (u := (V.getD (V.length - 2) 0)) r1 sl24 io61 rfl rfl rfl (getSome (by omega)) ?_)
     intro b278 o279 cs280 e281
     obtain ⟨rfl, bd282⟩ : cs280 = _ ∧ _ := e281.rd
     exact ⟨s216, RC.same C220, ⟨_, _, _, rfl, e281⟩⟩
   · obtain ⟨b284, o285, cs286, e283, e287⟩ := d234
     obtain ⟨rfl, bd288⟩ : cs286 = _ ∧ _ := e287.rd
     exact stepD k219 (aC e233 (aC e283 aN)) fun _ => OpSt.opg rfl (St.load1 pl61 rfl (e287.cell 0 _ rfl) ⟨s216, RC.same C220, rfl⟩)
   · exact stepD k219 (aC e235 (aC e236 aN)) fun _ => OpSt.opg rfl (St.conv (z := (((V.getD (V.length - 2) 0) : Nat) : Int)) us61 un60 rfl (IntWalk.u64_in _ (by omega)) ⟨s216, RC.same C220, rfl⟩)
   · exact stepD k219 (aC e237 (aC e238 (aC e239 aN))) fun _ => OpSt.opg rfl (St.mul rfl rfl (nat_mul_u64 (a := k) (b := (V.getD (V.length - 2) 0)) (by have hmu := mulle (show k < 4294967296 by omega) hv2; omega)) ⟨s216, RC.same C220, rfl⟩)
   · exact stepD k219 (aC e240 aN) fun _ => OpSt.opg rfl (St.move ⟨s216, RC.same C220, rfl⟩)
   · exact stepD k219 (aC e241 (aC e242 aN)) fun _ => OpSt.opg rfl (St.shl (z := ((r * 4294967296 : Nat) : Int)) rfl rfl (by decide) (word_shl hr) ⟨s216, RC.same C220, rfl⟩)
   · exact stepD k219 (aC e243 aN) fun _ => OpSt.opg rfl (St.move ⟨s216, RC.same C220, rfl⟩)
   · exact stepD k219 (aC e244 aN) fun _ => OpSt.opg rfl (St.move ⟨s216, RC.same C220, rfl⟩)
   · exact stepD k219 (aC e245 (aC e246 aN)) fun _ => OpSt.opg rfl (St.sub rfl rfl (nat_sub_i64 (a := V.length) (b := 2) (by omega) (by omega)) ⟨s216, RC.same C220, rfl⟩)
   · exact stepD k219 (aC e247 (aC e248 (aC e249 aN))) fun _ => OpSt.opg rfl (St.idxRowO (j := V.length - 2) sl24 io61 rfl rfl rfl (by omega) ⟨s216, RC.same C220, rfl⟩)
   · exact stepD k219 (aC e250 (aC e251 aN)) fun _ => OpSt.opg rfl (St.loadRowO (j := V.length - 2) (u := (U.getD (V.length - 2) 0)) hA o134 pl61 rfl (getSome (by omega)) ⟨s216, RC.same C220, rfl⟩)
   · exact stepD k219 (aC e252 (aC e253 aN)) fun _ => OpSt.opg rfl (St.conv (z := (((U.getD (V.length - 2) 0) : Nat) : Int)) us61 un60 rfl (IntWalk.u64_in _ (by omega)) ⟨s216, RC.same C220, rfl⟩)
   · exact stepD k219 (aC e254 (aC e255 (aC e256 aN))) fun _ => OpSt.opg rfl (St.or (z := ((r * 4294967296 + (U.getD (V.length - 2) 0) : Nat) : Int)) rfl rfl (word_or hr hu2) ⟨s216, RC.same C220, rfl⟩)
   obtain ⟨b290, o291, cs292, e289, e293⟩ := d264
   obtain ⟨rfl, bd294⟩ : cs292 = _ ∧ _ := e293.rd
   obtain ⟨f295, rfl⟩ := mixK k219 (aC e257 (aC e258 (aC e259 (aC e260 (aC e261 (aC e262 (aC e263 (aC e289 (aC e265 (aC e266 (aC e267 (aC e268 (aC e269 (aC e270 (aC e271 (aC e272 (aC e273 (aC e274 (aC e275 (aC e276 aN))))))))))))))))))))
   refine Og rfl rfl (St.gtr2 rfl rfl (fun hc296 => ?_) (fun hc296 => ?_))
   · refine OF (Nl (W.condT rfl (W.skip (W.block (W.seq ?_)))))
     have hlt2 : r * 4294967296 + (U.getD (V.length - 2) 0) < k * (V.getD (V.length - 2) 0) := Int.ofNat_lt.1 hc296
     have hq : val U / val V < k := by rw [hUe, hVe]; exact kn_dec hUl hkr hlt2
     have hk1 : 0 < k := kn_pos hlt2
     refine W.region (Om (O rfl (St.sub rfl rfl (nat_sub_u64 (a := k) (b := 1) (by omega) (by omega)) (Oa (Nl (Rg (Om (Om (Om (O rfl (St.sub rfl rfl (nat_sub_i64 (a := V.length) (b := 1) (by omega) (by omega)) (O rfl (St.idx (j := V.length - 1) (u := (V.getD (V.length - 1) 0)) r1 sl24 io61 rfl rfl rfl (getSome (by omega)) ?_)))))))))))))
     intro b297 o298 cs299 e300
     obtain ⟨rfl, bd301⟩ : cs299 = _ ∧ _ := e300.rd
     refine O rfl (St.load1 pl61 rfl (e300.cell 0 _ rfl) (O rfl (St.conv (z := (((V.getD (V.length - 1) 0) : Nat) : Int)) us61 un60 rfl (IntWalk.u64_in _ (by omega)) (O rfl (St.add rfl rfl (nat_add_u64 (a := r) (b := (V.getD (V.length - 1) 0)) (by omega)) (Oa (Nl (Rg (Om (O rfl (St.geq2 rfl rfl (fun hc302 => ?_) (fun hc302 => ?_))))))))))))
     · refine Nl (W.condT rfl (W.exit (⟨_, _, (k - 1), C220, rfl, rfl, rfl, rfl, rfl, r1, o134, (le_pred hq), (by rw [hUe, hVe]; exact Nat.le_succ_of_le (kn_e1 hVl hv2 htop htopb (kn_hv hk1 hkr) (by omega)).1), (kn_e1 (Ul := 0) (u2 := 0) hVl hv2 htop htopb (kn_hv hk1 hkr) (by omega)).2⟩)))
     refine Nl (W.condF rfl (W.skip (⟨_, (by omega), _, _, (k - 1), (r + (V.getD (V.length - 1) 0)), C220, rfl, rfl, rfl, rfl, rfl, rfl, r1, o134, (le_pred hq), (kn_hv hk1 hkr), (by omega), rfl⟩)))
   refine OF (Nl (W.condF rfl (W.exit (⟨_, _, k, C220, rfl, rfl, rfl, rfl, rfl, r1, o134, hk, (by rw [hUe, hVe]; exact kn_e2 (Nat.pow_pos (by decide)) hVl htop (by omega) hkr (by omega)), (by omega)⟩))))
 rintro f303 w304 ⟨x305, y306, q, C307, e308, e309, e310, e311, e312, r1, o313, hq1, hq2, hqb⟩
 obtain ⟨f314, rfl⟩ := rebK (aC e308 (aC e309 (aC e310 (aC e311 (aC e312 aN)))))
 clear e308 e309 e310 e311 e312
 refine Rg (Oa (Nl (Rg (Oa (Nl (Rh (Om (O rfl (St.len sl24 rfl (Om (Nl (W.block (W.loopN (fun μ f v => ∃ (x y : Nat → Prop) (i : Nat) (p : List Nat) (cy : Nat) (bo : Nat), Cx X ⟨w, (· = g)⟩ x y v ∧ f 0 = (.slice (some ⟨g, j, none⟩) U.length c) ∧ f 1 = (.slice a1 V.length c2) ∧ f 4 = (.int .u32 0) ∧ f 5 = (.int .i64 ((V.length : Nat) : Int)) ∧ f 7 = (.int .u64 ((q : Nat) : Int)) ∧ f 82 = (.slice a1 V.length c2) ∧ f 83 = (.int .i64 ((V.length : Nat) : Int)) ∧ f 84 = (.int .i64 ((i : Nat) : Int)) ∧ f 9 = (.int .u64 ((cy : Nat) : Int)) ∧ f 10 = (.int .u32 ((bo : Nat) : Int)) ∧ RS u32Ty x v (.slice a1 V.length c2) V ∧ Own ⟨w, (· = g)⟩ y v g ((A ++ (p ++ U.drop i) ++ Z).map u32v) 61 ∧ i ≤ V.length ∧ p.length = i ∧ small p ∧ cy < 4294967296 ∧ bo ≤ 1 ∧ val p + q * val (V.take i) = val (U.take i) + 4294967296 ^ i * (cy + bo) ∧ μ = (V.length - i)) _ ⟨_, _, 0, [], 0, 0, C307, rfl, rfl, rfl, rfl, rfl, rfl, rfl, rfl, rfl, rfl, r1, o313, (Nat.zero_le _), rfl, small_nil, (by omega), (by omega), (by simp [val]), rfl⟩ ?_)))))))))))))
 rintro m332 f315 w316 ⟨x317, y318, i, p, cy, bo, C319, e320, e321, e322, e323, e324, e325, e326, e327, e328, e329, r1, o330, hi, hp, hsp, hcy, hbo, hv2, hmu331⟩
 obtain ⟨f333, rfl⟩ := rebK (aC e320 (aC e321 (aC e322 (aC e323 (aC e324 (aC e325 (aC e326 (aC e327 (aC e328 (aC e329 aN))))))))))
 clear e320 e321 e322 e323 e324 e325 e326 e327 e328 e329
 have hx := small_getD sv i
 have hui := small_getD sU i
 have hcar := kn_car hqb hx hcy
 refine Rg (O rfl (St.lss2 rfl rfl (fun hc334 => ?_) (fun hc334 => ?_)))
 · refine Nl (W.seq (W.condT rfl (W.skip (W.seq (W.block (Rg (Om (O rfl (St.idx (j := i) (u := (V.getD i 0)) r1 sl24 io61 rfl rfl rfl (getSome (by omega)) ?_)))))))))
   intro b335 o336 cs337 e338
   obtain ⟨rfl, bd339⟩ : cs337 = _ ∧ _ := e338.rd
   refine O rfl (St.load1 pl61 rfl (e338.cell 0 _ rfl) (Oa (Oa (Nl (Rg (Om (Om (O rfl (St.conv (z := (((V.getD i 0) : Nat) : Int)) us61 un60 rfl (IntWalk.u64_in _ (by omega)) (O rfl (St.mul rfl rfl (nat_mul_u64 (a := q) (b := (V.getD i 0)) (by omega)) (Om (O rfl (St.add rfl rfl (nat_add_u64 (a := q * (V.getD i 0)) (b := cy) (by omega)) ?_))))))))))))))
   refine Oa (Nl (Rg (Om (Om (Om (Om (O rfl (St.idxRowO (j := i) sl24 io61 rfl rfl rfl (by omega) (O rfl (St.loadRowO (j := i) (u := (U.getD i 0)) hA o330 pl61 rfl (kn_ld hp rfl (by omega)) (Om (O rfl (St.conv (z := ((((q * (V.getD i 0)) + cy) % 4294967296 : Nat) : Int)) us60 un61 rfl (wrap_nat_u32 _) ?_)))))))))))))
   refine Om (O rfl (St.callR C319 cb99 rfl rfl (c_sub32 C319.bd (x := (U.getD i 0)) (y := ((q * (V.getD i 0)) + cy) % 4294967296) (b := bo) hui (Nat.mod_lt _ (by decide)) hbo) ?_))
   intro v340 w341 C342 s343 h344
   replace o330 := o330.spn s343
   obtain ⟨v345, v346, rfl, rfl, rfl⟩ := h344
   refine Om (O rfl (St.extract rfl rfl (O rfl (St.extract rfl rfl (O rfl (St.idxRowO (j := i) sl24 io61 rfl rfl rfl (by omega) (On (St.storeRowO (j := i) (u := (((U.getD i 0) + 8589934592 - (((q * (V.getD i 0)) + cy) % 4294967296) - bo) % 4294967296)) hA C342 o330 io61 rfl rfl (by rw [List.length_append, List.length_drop, hp]; omega) ?_))))))))
   intro w349 C350 s351 o352
   replace r1 := (r1.sp s343).sp s351
   rw [kn_st hp (by omega)] at o352
   refine Oa (Nl (W.region (Om (O rfl (St.shr rfl rfl (by decide) (nat_shr (d := 4294967296) _ (by decide)) (Oa (Nl (W.region (O rfl (St.add rfl rfl (nat_add_i64 (a := i) (b := 1) (by omega)) (Om (Nl (⟨_, (by omega), _, _, (i + 1), (p ++ [(((U.getD i 0) + 8589934592 - (((q * (V.getD i 0)) + cy) % 4294967296) - bo) % 4294967296)]), ((q * (V.getD i 0)) + cy) / 4294967296, (if (U.getD i 0) < (((q * (V.getD i 0)) + cy) % 4294967296) + bo then 1 else 0), C350, rfl, rfl, rfl, rfl, rfl, rfl, rfl, rfl, rfl, rfl, r1, o352, (by omega), (by rw [List.length_append, hp]; rfl), (small_snoc hsp (by omega)), hcar.2, (by split <;> omega), (kn_sub hp hqb hx hcy hbo hui hv2 (val_take_succ V i)), rfl⟩)))))))))))))
 refine Nl (W.seq (W.condF rfl (W.exit (W.seq (W.cut (fun f v => ∃ (x y : Nat → Prop) (R : List Nat) (e : Nat), Cx X ⟨w, (· = g)⟩ x y v ∧ f 0 = (.slice (some ⟨g, j, none⟩) U.length c) ∧ f 1 = (.slice a1 V.length c2) ∧ f 4 = (.int .u32 0) ∧ f 5 = (.int .i64 ((V.length : Nat) : Int)) ∧ f 7 = (.int .u64 ((q : Nat) : Int)) ∧ f 10 = (.int .u32 ((e : Nat) : Int)) ∧ RS u32Ty x v (.slice a1 V.length c2) V ∧ Own ⟨w, (· = g)⟩ y v g ((A ++ R ++ Z).map u32v) 61 ∧ R.length = V.length + 1 ∧ small R ∧ e ≤ 1 ∧ val R + q * val V = val U + 4294967296 ^ (V.length + 1) * e) ?_ ?_)))))
 · refine W.region (Om (Om (Om (Om (O rfl (St.idxRowO (j := V.length) sl24 io61 rfl rfl rfl (by omega) (O rfl (St.loadRowO (j := V.length) (u := (U.getD V.length 0)) hA o330 pl61 rfl (kn_ld hp (by omega) (by omega)) (Om (O rfl (St.conv (z := ((cy : Nat) : Int)) us60 un61 rfl (IntWalk.u32_in _ (by omega)) ?_)))))))))))
   refine Om (O rfl (St.callR C319 cb99 rfl rfl (c_sub32 C319.bd (x := (U.getD V.length 0)) (y := cy) (b := bo) hun hcy hbo) ?_))
   intro v353 w354 C355 s356 h357
   replace o330 := o330.spn s356
   obtain ⟨v358, v359, rfl, rfl, rfl⟩ := h357
   refine Om (O rfl (St.extract rfl rfl (O rfl (St.extract rfl rfl (O rfl (St.idxRowO (j := V.length) sl24 io61 rfl rfl rfl (by omega) (On (St.storeRowO (j := V.length) (u := (((U.getD V.length 0) + 8589934592 - cy - bo) % 4294967296)) hA C355 o330 io61 rfl rfl (by rw [List.length_append, List.length_drop, hp]; omega) ?_))))))))
   intro w362 C363 s364 o365
   replace r1 := (r1.sp s356).sp s364
   rw [kn_stE hp (by omega) (by omega)] at o365
   refine Oa (Nl (⟨_, _, (p ++ [(((U.getD V.length 0) + 8589934592 - cy - bo) % 4294967296)]), (if (U.getD V.length 0) < cy + bo then 1 else 0), C363, rfl, rfl, rfl, rfl, rfl, rfl, r1, o365, (by rw [List.length_append, hp]; show i + 1 = _; omega), (small_snoc hsp (by omega)), (by split <;> omega), (kn_last (by omega) hcy hbo hun hU (by have hh := hv2; rw [show i = V.length by omega, List.take_length] at hh; exact hh))⟩))
 rintro f366 w367 ⟨x368, y369, R, e, C370, e371, e372, e373, e374, e375, e376, r1, o377, hR, hRs, he, hRv⟩
 obtain ⟨f378, rfl⟩ := rebK (aC e371 (aC e372 (aC e373 (aC e374 (aC e375 (aC e376 aN))))))
 clear e371 e372 e373 e374 e375 e376
 refine Rh (Om (O rfl (St.neq2 rfl rfl (fun hc379 => ?_) (fun hc379 => ?_))))
 · refine Nl (W.condT rfl (W.seq ?_))
   obtain ⟨hb3, hq0, hb5⟩ := kn_back (U := val U) (V := val V) (R := val R) (M := 4294967296 ^ (V.length + 1)) (g := q) hVpos hq2 (by have hh := val_lt R hRs; rwa [hR] at hh) (by rw [hRv, show e = 1 by omega, Nat.mul_one])
   refine W.region (Om (O rfl (St.sub rfl rfl (nat_sub_u64 (a := q) (b := 1) (by omega) (by omega)) (Oa (Nl (Rg (Oa (Nl (Rh (Om (O rfl (St.len sl24 rfl (Om (Nl (W.block (W.loopN (fun μ f v => ∃ (x y : Nat → Prop) (i : Nat) (p : List Nat) (cy : Nat), Cx X ⟨w, (· = g)⟩ x y v ∧ f 0 = (.slice (some ⟨g, j, none⟩) U.length c) ∧ f 4 = (.int .u32 0) ∧ f 5 = (.int .i64 ((V.length : Nat) : Int)) ∧ f 7 = (.int .u64 ((q - 1 : Nat) : Int)) ∧ f 130 = (.slice a1 V.length c2) ∧ f 131 = (.int .i64 ((V.length : Nat) : Int)) ∧ f 132 = (.int .i64 ((i : Nat) : Int)) ∧ f 14 = (.int .u32 ((cy : Nat) : Int)) ∧ RS u32Ty x v (.slice a1 V.length c2) V ∧ Own ⟨w, (· = g)⟩ y v g ((A ++ (p ++ R.drop i) ++ Z).map u32v) 61 ∧ i ≤ V.length ∧ p.length = i ∧ small p ∧ cy ≤ 1 ∧ val p + 4294967296 ^ i * cy = val (R.take i) + val (V.take i) ∧ μ = (V.length - i)) _ ⟨_, _, 0, [], 0, C370, rfl, rfl, rfl, rfl, rfl, rfl, rfl, rfl, r1, o377, (Nat.zero_le _), rfl, small_nil, (by omega), (by simp [val]), rfl⟩ ?_))))))))))))))))
   rintro m395 f380 w381 ⟨x382, y383, i, p, cy, C384, e385, e386, e387, e388, e389, e390, e391, e392, r1, o393, hi, hp, hsp, hcy, hv3, hmu394⟩
   obtain ⟨f396, rfl⟩ := rebK (aC e385 (aC e386 (aC e387 (aC e388 (aC e389 (aC e390 (aC e391 (aC e392 aN))))))))
   clear e385 e386 e387 e388 e389 e390 e391 e392
   have hx := small_getD sv i
   have hri := small_getD hRs i
   refine Rg (O rfl (St.lss2 rfl rfl (fun hc397 => ?_) (fun hc397 => ?_)))
   · refine Nl (W.seq (W.condT rfl (W.skip (W.seq (W.block (Rg (Om (O rfl (St.idx (j := i) (u := (V.getD i 0)) r1 sl24 io61 rfl rfl rfl (getSome (by omega)) ?_)))))))))
     intro b398 o399 cs400 e401
     obtain ⟨rfl, bd402⟩ : cs400 = _ ∧ _ := e401.rd
     refine O rfl (St.load1 pl61 rfl (e401.cell 0 _ rfl) (Oa (Oa (Nl (W.region (Om (Om (Om (Om (O rfl (St.idxRowO (j := i) sl24 io61 rfl rfl rfl (by omega) (O rfl (St.loadRowO (j := i) (u := (R.getD i 0)) hA o393 pl61 rfl (kn_ld hp rfl (by omega)) (Om (Om ?_)))))))))))))))
     refine O rfl (St.callR C384 cb98 rfl rfl (c_add32 C384.bd (x := (R.getD i 0)) (y := (V.getD i 0)) (c := cy) hri hx hcy) ?_)
     intro v403 w404 C405 s406 h407
     replace o393 := o393.spn s406
     obtain ⟨v408, v409, rfl, rfl, rfl⟩ := h407
     refine Om (O rfl (St.extract rfl rfl (O rfl (St.extract rfl rfl (O rfl (St.idxRowO (j := i) sl24 io61 rfl rfl rfl (by omega) (On (St.storeRowO (j := i) (u := (((R.getD i 0) + (V.getD i 0) + cy) % 4294967296)) hA C405 o393 io61 rfl rfl (by rw [List.length_append, List.length_drop, hp]; omega) ?_))))))))
     intro w412 C413 s414 o415
     replace r1 := (r1.sp s406).sp s414
     rw [kn_st hp (by omega)] at o415
     refine Oa (Nl (W.region (O rfl (St.add rfl rfl (nat_add_i64 (a := i) (b := 1) (by omega)) (Om (Nl (⟨_, (by omega), _, _, (i + 1), (p ++ [(((R.getD i 0) + (V.getD i 0) + cy) % 4294967296)]), (((R.getD i 0) + (V.getD i 0) + cy) / 4294967296), C413, rfl, rfl, rfl, rfl, rfl, rfl, rfl, rfl, r1, o415, (by omega), (by rw [List.length_append, hp]; rfl), (small_snoc hsp (by omega)), (by omega), (kn_addstep hp hv3 (val_take_succ V i)), rfl⟩)))))))
   refine Nl (W.seq (W.condF rfl (W.exit (W.region (Om (Om (O rfl (St.idxRowO (j := V.length) sl24 io61 rfl rfl rfl (by omega) (O rfl (St.loadRowO (j := V.length) (u := (R.getD V.length 0)) hA o393 pl61 rfl (kn_ld hp (by omega) (by omega)) (Om (O rfl (St.add (z := (((R.getD V.length 0 + cy) % 4294967296 : Nat) : Int)) rfl rfl (by rw [← Int.natCast_add]; exact wrap_nat_u32 _) ?_)))))))))))))
   refine O rfl (St.idxRowO (j := V.length) sl24 io61 rfl rfl rfl (by omega) (On (St.storeRowO (j := V.length) (u := (R.getD V.length 0 + cy) % 4294967296) hA C384 o393 io61 rfl rfl (by rw [List.length_append, List.length_drop, hp]; omega) ?_)))
   intro w416 C417 s418 o419
   rw [kn_stE hp (by omega) (by omega)] at o419
   refine Nl (Rg (Om (O rfl (St.conv (z := ((q - 1 : Nat) : Int)) us60 un61 rfl (IntWalk.u32_in _ (by omega)) (Oa (Nl (W.ret (ret_1 rfl (resV.t rfl) (RetM.intro ⟨?_, ?_⟩ C417.below)))))))))
   · exact congrArg (Value.int _) (congrArg _ hb3)
   have hh := o419.blk
   rw [kn_addlast (by omega) hsp hcy hR (kn_T sv hVpos) (by have hh := hv3; rw [show i = V.length by omega, List.take_length] at hh; exact hh) hb5] at hh
   exact hh
 refine Nl (W.condF rfl (W.skip (Rg (Om (O rfl (St.conv (z := ((q : Nat) : Int)) us60 un61 rfl (IntWalk.u32_in _ (by omega)) (Oa (Nl (W.ret (ret_1 rfl (resV.t rfl) (RetM.intro ⟨?_, ?_⟩ C370.below)))))))))))
 · exact congrArg (Value.int _) (congrArg _ (kn_ok hVpos hq1 (by rw [hRv, show e = 0 by omega, Nat.mul_zero, Nat.add_zero])).1)
 have hh := o377.blk
 rw [show R = digsN (V.length + 1) (val U % val V) from digsN_uniq hRs hR (kn_ok hVpos hq1 (by rw [hRv, show e = 0 by omega, Nat.mul_zero, Nat.add_zero])).2] at hh
 exact hh
end Go.Wf
namespace Go.Wf
set_option linter.unusedVariables false
set_option linter.unusedSimpArgs false
open Go
theorem val_cut (l : List Nat) (k : Nat) (hk : k ≤ l.length) : val l = val (l.take k) + 4294967296 ^ k * val (l.drop k) := by
  conv => lhs; rw [← List.take_append_drop k l]
  rw [val_append, List.length_take, Nat.min_eq_left hk]
theorem cmpN_lt {a b : Nat} (h : cmpN a b < 0) : a < b := by
  unfold cmpN at h
  split at h
  · assumption
  · split at h <;> omega
theorem cmpN_ge {a b : Nat} (h : ¬ cmpN a b < 0) : b ≤ a := by
  unfold cmpN at h
  split at h
  · omega
  · omega
theorem length_le_of {a b : List Nat} (hb : trim b = b) (sa : small a) (h : val b ≤ val a) : b.length ≤ a.length := by
  rcases Nat.lt_or_ge a.length b.length with h1 | h1
  · have := val_lt_of_length hb sa h1; omega
  · exact h1
theorem canon {a : List Nat} (ha : trim a = a) (sa : small a) : a = digs (val a) := by
  conv => lhs; rw [← ha, trim_eq sa]
theorem dv_lt {a b : List Nat} (h : val a < val b) : [] = digs (val a / val b) := by rw [Nat.div_eq_of_lt h]; rfl
theorem dv_lt2 {a b : List Nat} (ha : trim a = a) (sa : small a) (h : val a < val b) : a = digs (val a % val b) := by
  rw [Nat.mod_eq_of_lt h]; exact canon ha sa
theorem val_small2 {a : List Nat} (sa : small a) (h : a.length ≤ 2) : val a < 18446744073709551616 := by
  have := val_lt a sa
  have h2 : 4294967296 ^ a.length ≤ 4294967296 ^ 2 := Nat.pow_le_pow_right (by omega) h
  omega
theorem div_lt64 {x y : Nat} (h : x < 18446744073709551616) : x / y < 18446744073709551616 := Nat.lt_of_le_of_lt (Nat.div_le_self _ _) h
theorem mod_lt64 {x y : Nat} (h : x < 18446744073709551616) : x % y < 18446744073709551616 := Nat.lt_of_le_of_lt (Nat.mod_le _ _) h
theorem top_pos {b : List Nat} (hb : trim b = b) (sb : small b) (h : b ≠ []) : 0 < b.getD (b.length - 1) 0 := by
  rcases List.eq_nil_or_concat b with rfl | ⟨q, d, rfl⟩
  · exact absurd rfl h
  · have h1 := trim_top hb h
    simp only [List.concat_eq_append] at *
    have sq : small q := fun u hu => sb u (by simp [hu])
    have h2 := val_lt q sq
    rw [val_snoc, List.length_append, List.length_singleton, Nat.add_sub_cancel] at h1
    rw [List.length_append, List.length_singleton, Nat.add_sub_cancel, List.getD_eq_getElem?_getD, List.getElem?_append_right (by omega), Nat.sub_self]
    show 0 < d
    rcases Nat.eq_zero_or_pos d with e | e
    · rw [e, Nat.mul_zero] at h1; omega
    · exact e
theorem dv_shift {b : List Nat} (sb : small b) (hne : b ≠ []) {s : Nat} (hs : s ≤ 32 - blen (b.getD (b.length - 1) 0)) : val b * 2 ^ s < 4294967296 ^ b.length := by
  have hpos : 0 < b.length := List.length_pos_iff.2 hne
  have h1 := val_take_lt (k := b.length - 1) sb (by omega)
  have h2 := val_take_succ b (b.length - 1)
  rw [show b.length - 1 + 1 = b.length by omega, List.take_length] at h2
  have h3 := blen_lt (b.getD (b.length - 1) 0)
  have h4 := blen_bd (small_getD sb (b.length - 1))
  generalize b.getD (b.length - 1) 0 = t at *
  have h5 : (t + 1) * 2 ^ s ≤ 4294967296 := by
    refine Nat.le_trans (Nat.mul_le_mul_right _ (show t + 1 ≤ 2 ^ blen t by omega)) ?_
    rw [← Nat.pow_add]
    exact Nat.le_trans (Nat.pow_le_pow_right (by omega) (show blen t + s ≤ 32 by omega)) (by decide)
  have h6 : val b + 1 ≤ 4294967296 ^ (b.length - 1) * (t + 1) := by rw [Nat.mul_add, Nat.mul_one]; omega
  have h7 := Nat.mul_le_mul_right (2 ^ s) h6
  rw [Nat.mul_assoc] at h7
  have h8 := Nat.mul_le_mul_left (4294967296 ^ (b.length - 1)) h5
  rw [← Nat.pow_succ, show (b.length - 1).succ = b.length by omega] at h8
  rw [Nat.add_mul, Nat.one_mul] at h7
  have := Nat.two_pow_pos s
  omega
theorem digs_len {v n : Nat} (h1 : v < 4294967296 ^ n) (h2 : 4294967296 ^ (n - 1) ≤ v) (hn : 0 < n) : (digs v).length = n := by
  have a := digs_length_le h1
  rcases Nat.lt_or_ge (digs v).length n with h | h
  · have b := val_digs_lt v
    have c : 4294967296 ^ (digs v).length ≤ 4294967296 ^ (n - 1) := Nat.pow_le_pow_right (by omega) (by omega)
    omega
  · omega
theorem dv_vlen {b : List Nat} (hb : trim b = b) (sb : small b) (hne : b ≠ []) {s : Nat} (hs : s ≤ 32 - blen (b.getD (b.length - 1) 0)) : (trim (digsN (b.length + 1) (val b * 2 ^ s))).length = b.length ∧ val (trim (digsN (b.length + 1) (val b * 2 ^ s))) = val b * 2 ^ s ∧ trim (trim (digsN (b.length + 1) (val b * 2 ^ s))) = trim (digsN (b.length + 1) (val b * 2 ^ s)) := by
  have h1 := dv_shift sb hne hs
  have hpos : 0 < b.length := List.length_pos_iff.2 hne
  have h1' : val b * 2 ^ s < 4294967296 ^ (b.length + 1) := Nat.lt_of_lt_of_le h1 (Nat.pow_le_pow_right (by omega) (by omega))
  rw [trim_digsN h1']
  refine ⟨digs_len h1 (Nat.le_trans (trim_top hb hne) (Nat.le_mul_of_pos_right _ (Nat.two_pow_pos s))) hpos, val_digs _, trim_digs _⟩
theorem dv_init {a b L : List Nat} (sa : small a) (hb : trim b = b) (hne : b ≠ []) {s : Nat} (hle : b.length ≤ a.length) (hL : L.length = a.length + 1) (hs : small L) (hv : val L = val a * 2 ^ s) :
    val (L.drop (a.length + 1 - b.length)) < val b * 2 ^ s := by
  have hpos : 0 < b.length := List.length_pos_iff.2 hne
  have h1 := val_cut L (a.length + 1 - b.length) (by omega)
  have h2 := val_lt a sa
  have h3 := trim_top hb hne
  have h4 : 4294967296 ^ (a.length + 1 - b.length) * val (L.drop (a.length + 1 - b.length)) < 4294967296 ^ (a.length + 1 - b.length) * (4294967296 ^ (b.length - 1) * 2 ^ s) := by
    rw [← Nat.mul_assoc, ← Nat.pow_add, show a.length + 1 - b.length + (b.length - 1) = a.length by omega]
    have := Nat.mul_lt_mul_of_pos_right h2 (Nat.two_pow_pos s)
    omega
  have h5 := Nat.lt_of_mul_lt_mul_left h4
  exact Nat.lt_of_lt_of_le h5 (Nat.mul_le_mul_right _ h3)
theorem dv_split {L : List Nat} {J n : Nat} (hJ : 0 < J) (hl : J + n ≤ L.length) : L = L.take (J - 1) ++ (L.drop (J - 1)).take (n + 1) ++ L.drop (J + n) := by
  rw [List.append_assoc]
  conv => lhs; rw [← List.take_append_drop (J - 1) L]
  congr 1
  conv => lhs; rw [← List.take_append_drop (n + 1) (L.drop (J - 1))]
  rw [List.drop_drop, show J - 1 + (n + 1) = J + n by omega]
theorem dv_ulen {L : List Nat} {J n : Nat} (hJ : 0 < J) (hl : J + n ≤ L.length) : ((L.drop (J - 1)).take (n + 1)).length = n + 1 := by
  rw [List.length_take, List.length_drop]; omega
theorem dv_high {L : List Nat} {J n D : Nat} (hl : J + n ≤ L.length) (hD : D < 4294967296 ^ n) (hlo : val (L.drop J) < D) : val (L.drop (J + n)) = 0 := by
  have h := val_cut (L.drop J) n (by rw [List.length_drop]; omega)
  rw [List.drop_drop] at h
  rcases Nat.eq_zero_or_pos (val (L.drop (J + n))) with e | e
  · exact e
  · have := Nat.mul_le_mul_left (4294967296 ^ n) e
    rw [Nat.mul_one] at this
    omega
theorem dv_uval {L : List Nat} {J n D : Nat} (hJ : 0 < J) (hl : J + n ≤ L.length) (hD : D < 4294967296 ^ n) (hlo : val (L.drop J) < D) : val (L.drop (J - 1)) = val ((L.drop (J - 1)).take (n + 1)) := by
  have h := val_cut (L.drop (J - 1)) (n + 1) (by rw [List.length_drop]; omega)
  rw [List.drop_drop, show J - 1 + (n + 1) = J + n by omega, dv_high hl hD hlo, Nat.mul_zero, Nat.add_zero] at h
  exact h
theorem dv_ult {L : List Nat} {J n D : Nat} (hs : small L) (hJ : 0 < J) (hl : J + n ≤ L.length) (hD : D < 4294967296 ^ n) (hlo : val (L.drop J) < D) : val ((L.drop (J - 1)).take (n + 1)) < D * 4294967296 := by
  rw [← dv_uval hJ hl hD hlo, val_drop hJ (by omega)]
  have := small_getD hs (J - 1)
  omega
theorem dv_digit {u D : Nat} (h : u < D * 4294967296) : u / D < 4294967296 := Nat.div_lt_of_lt_mul h
theorem dv_new {L : List Nat} {J n T : Nat} (hJ : 0 < J) (hl : J + n ≤ L.length) : (L.take (J - 1) ++ digsN (n + 1) T ++ L.drop (J + n)).length = L.length := by
  simp only [List.length_append, List.length_take, List.length_drop, digsN_length]; omega
theorem dv_newlo {L : List Nat} {J n D u : Nat} (hJ : 0 < J) (hl : J + n ≤ L.length) (hD : D < 4294967296 ^ n) (hlo : val (L.drop J) < D) : val ((L.take (J - 1) ++ digsN (n + 1) (u % D) ++ L.drop (J + n)).drop (J - 1)) = u % D := by
  have hlen : (L.take (J - 1)).length = J - 1 := by rw [List.length_take]; omega
  have hT : u % D < 4294967296 ^ (n + 1) := by
    have h1 := Nat.mod_lt u (show 0 < D by omega)
    have h2 : 4294967296 ^ n ≤ 4294967296 ^ (n + 1) := Nat.pow_le_pow_right (by omega) (by omega)
    omega
  rw [List.append_assoc, List.drop_append_of_le_length (by omega), List.drop_of_length_le (by omega), List.nil_append, val_append, val_digsN _ _ hT, dv_high hl hD hlo, Nat.mul_zero, Nat.add_zero]
theorem dv_step {L Q : List Nat} {J n D N : Nat} (hJ : 0 < J) (hl : J + n ≤ L.length) (hD : D < 4294967296 ^ n) (hlo : val (L.drop J) < D) (hN : N = val Q * D * 4294967296 ^ J + val L) :
    N = val ((val ((L.drop (J - 1)).take (n + 1)) / D) :: Q) * D * 4294967296 ^ (J - 1) + val (L.take (J - 1) ++ digsN (n + 1) (val ((L.drop (J - 1)).take (n + 1)) % D) ++ L.drop (J + n)) := by
  have hlen : (L.take (J - 1)).length = J - 1 := by rw [List.length_take]; omega
  have h1 := val_cut (L.take (J - 1) ++ digsN (n + 1) (val ((L.drop (J - 1)).take (n + 1)) % D) ++ L.drop (J + n)) (J - 1) (by rw [dv_new hJ hl]; omega)
  rw [dv_newlo hJ hl hD hlo] at h1
  rw [List.append_assoc, List.take_append_of_le_length (by omega), List.take_take, Nat.min_self, ← List.append_assoc] at h1
  have h2 := val_cut L (J - 1) (by omega)
  have h3 := dv_uval hJ hl hD hlo
  rw [h3] at h2
  rw [h1, hN, h2, val]
  generalize val ((L.drop (J - 1)).take (n + 1)) = u
  have h4 := Nat.div_add_mod u D
  generalize u % D = r at *
  generalize u / D = d at *
  have e : 4294967296 ^ J = 4294967296 * 4294967296 ^ (J - 1) := by rw [Nat.mul_comm, ← Nat.pow_succ, show (J - 1).succ = J by omega]
  rw [e, ← h4]
  generalize 4294967296 ^ (J - 1) = p
  generalize val (L.take (J - 1)) = t
  generalize val Q = q
  rw [Nat.add_mul, Nat.add_mul, Nat.mul_add, Nat.mul_comm d D, Nat.mul_comm (D * d) p]
  have e2 : q * D * (4294967296 * p) = 4294967296 * q * D * p := by
    rw [← Nat.mul_assoc, Nat.mul_comm (q * D), ← Nat.mul_assoc]
  rw [e2]
  omega
theorem dv_abd {a : List Nat} (sa : small a) {s : Nat} (hs : s ≤ 32) : val a * 2 ^ s < 4294967296 ^ (a.length + 1) := by
  have h1 := val_lt a sa
  have h2 : 2 ^ s ≤ 4294967296 := Nat.le_trans (Nat.pow_le_pow_right (by omega) hs) (by decide)
  have h3 := Nat.mul_le_mul_left (val a) h2
  have h4 := Nat.mul_lt_mul_of_pos_right h1 (show 0 < 4294967296 by decide)
  rw [Nat.pow_succ]
  omega
theorem small_new {L : List Nat} {i k n T : Nat} (hs : small L) : small (L.take i ++ digsN n T ++ L.drop k) := small_append (small_append (small_take hs _) (digsN_small _ _)) (small_drop hs _)
theorem dv_q {a b Q L : List Nat} {s : Nat} (hQ : small Q) (hb : 0 < val b) (hN : val a * 2 ^ s = val Q * (val b * 2 ^ s) * 4294967296 ^ 0 + val L) (hlo : val (L.drop 0) < val b * 2 ^ s) : trim Q = digs (val a / val b) := by
  rw [List.drop_zero] at hlo
  rw [Nat.pow_zero, Nat.mul_one] at hN
  rw [trim_eq hQ]
  congr 1
  have hp := Nat.two_pow_pos s
  have h1 : val a * 2 ^ s / (val b * 2 ^ s) = val Q := by
    rw [hN, Nat.mul_comm (val Q), Nat.mul_add_div (Nat.mul_pos hb hp), Nat.div_eq_of_lt hlo, Nat.add_zero]
  rw [← h1, Nat.mul_div_mul_right _ _ hp]
theorem dv_r {a b Q L : List Nat} {s n : Nat} (hL : small L) (hb : 0 < val b) (hn : n ≤ L.length) (hD : val b * 2 ^ s < 4294967296 ^ n) (hN : val a * 2 ^ s = val Q * (val b * 2 ^ s) * 4294967296 ^ 0 + val L) (hlo : val (L.drop 0) < val b * 2 ^ s) :
    trim (digsN (L.take n).length (val (L.take n) / 2 ^ s)) = digs (val a % val b) := by
  rw [List.drop_zero] at hlo
  rw [Nat.pow_zero, Nat.mul_one] at hN
  have hp := Nat.two_pow_pos s
  have h0 : val (L.take n) = val L := by
    have h := val_cut L n hn
    have e := dv_high (J := 0) (n := n) (L := L) (by omega) hD (by rw [List.drop_zero]; exact hlo)
    rw [Nat.zero_add] at e
    rw [e] at h; omega
  have h1 : val L = val a * 2 ^ s % (val b * 2 ^ s) := by
    rw [hN, Nat.mul_comm (val Q), Nat.mul_add_mod, Nat.mod_eq_of_lt hlo]
  have h2 : val L / 2 ^ s = val a % val b := by
    rw [h1, Nat.mul_mod_mul_right, Nat.mul_div_cancel _ hp]
  rw [h0, h2]
  refine trim_digsN ?_
  rw [← h2, List.length_take, Nat.min_eq_left hn]
  exact Nat.lt_of_le_of_lt (Nat.div_le_self _ _) (Nat.lt_trans hlo hD)
end Go.Wf
namespace Go.Wf
open Go Go.Proofs Go.RowKit
set_option maxRecDepth 100000
set_option linter.unusedVariables false
set_option linter.unusedSimpArgs false
section
variable {P : Program} {ρ : Operand → Value} {dst : Option Tmp} {ty : TypeId} {pos : String} {after : Array Edge} {gd : Option (Nat × Bool)}
  {w : World} {K : Value → World → Prop} {Kp : List PanicEntry → World → Prop}
theorem St.sliceRowE {a lo r : Operand} {t e : TypeId} {z : Value} {by_ g n c : Nat} {k k' : IntKind} {m m' : Int} {i j u : Nat} (hu : j - i = u)
    (ht : P.underlying t = some (.slice e)) (hi : infoOf P e = some (z, 1, by_)) (hx : ρ a = .slice (some ⟨g, 0, none⟩) n c) (hy : ρ lo = .int k m) (hm : m = i) (hy' : ρ r = .int k' m') (hm' : m' = j) (hij : i ≤ j) (hj : j ≤ c) (hic : i < c)
    (h : K (.slice (some ⟨g, i, none⟩) u (c - i)) w) : St P ρ ⟨dst, .slice t a (some lo) (some r) none, ty, pos, after, gd⟩ w K Kp :=
  St.sliceRow ht hi hx hy hm hy' hm' hij hj hic (by rw [hu]; exact h)
end
set_option maxHeartbeats 1000000 in
theorem c_shiftedF {X : Nat → Prop} {w : World} (hX : ∀ b, X b → b < w.heap.size) {v0 : Value} {a : List Nat} (r0 : RS u32Ty X w v0 a) {s : Nat} (hla : a.length < 1099511627776) (hs : s < 32) : Calls Tryz.prog 95 #[v0, (.int .u64 ((s : Nat) : Int))] w (Ret w fun v w' => Fresh w ((digsN (a.length + 1) (val a * 2 ^ s)).map u32v) (a.length + 1) 61 v w') := by
 obtain ⟨a1, c2, rfl, _, _⟩ := r0.len
 have C := Cx.start hX
 have sa := r0.u32_small
 have hps := pow2_le hs
 refine Calls.ofW (args := [(.slice a1 a.length c2), (.int .u64 ((s : Nat) : Int))]) Tryz.func95 rfl rfl (Nat.le_of_ble_eq_true rfl) (Rg (Oa (Nl (Rg (Om (O rfl (St.len sl24 rfl (O rfl (St.add rfl rfl (nat_add_i64 (a := a.length) (b := 1) (by omega)) (O rfl (St.makeRow (n := (a.length + 1)) C sl24 rfl rfl rfl (by omega) io61 (by decide) ?_)))))))))))
 intro g3 w4 x5 y6 lt7 C8 s9 o10
 replace r0 := r0.sp s9
 refine Oa (Nl (Rh (Om (O rfl (St.len sl24 rfl (Om (Nl (W.block (W.loopN (fun μ f v => ∃ (x y : Nat → Prop) (i : Nat) (p : List Nat) (h : Nat), Cx X w x y v ∧ f 1 = (.int .u64 ((s : Nat) : Int)) ∧ f 4 = (.slice none 0 0) ∧ f 5 = (.slice (some ⟨g3, 0, none⟩) (a.length + 1) (a.length + 1)) ∧ f 13 = (.slice a1 a.length c2) ∧ f 14 = (.int .i64 ((a.length : Nat) : Int)) ∧ f 15 = (.int .i64 ((i : Nat) : Int)) ∧ RS u32Ty x v (.slice a1 a.length c2) a ∧ Own w y v g3 ((p ++ h :: List.replicate (a.length - i) 0).map u32v) 61 ∧ i ≤ a.length ∧ p.length = i ∧ small p ∧ h < 2 ^ s ∧ val p + 4294967296 ^ i * h = val (a.take i) * 2 ^ s ∧ μ = (a.length - i)) _ ⟨_, _, 0, [], 0, C8, rfl, rfl, rfl, rfl, rfl, rfl, r0, o10, (Nat.zero_le _), rfl, small_nil, (Nat.two_pow_pos s), (by simp [val]), rfl⟩ ?_)))))))))
 rintro m24 f11 w12 ⟨x13, y14, i, p, h, C15, e16, e17, e18, e19, e20, e21, r0, o22, hi, hp, hq, hh, hv, hmu23⟩
 obtain ⟨f25, rfl⟩ := rebK (aC e16 (aC e17 (aC e18 (aC e19 (aC e20 (aC e21 aN))))))
 clear e16 e17 e18 e19 e20 e21
 have hx := small_getD sa i
 have hxd := shl_div (s := s) hx
 refine Rg (O rfl (St.lss2 rfl rfl (fun hc26 => ?_) (fun hc26 => ?_)))
 · refine Nl (W.seq (W.condT rfl (W.skip (W.seq (W.block (Rg (Om (O rfl (St.idx (j := i) (u := (a.getD i 0)) r0 sl24 io61 rfl rfl rfl (getSome (by omega)) ?_)))))))))
   intro b27 o28 cs29 e30
   obtain ⟨rfl, bd31⟩ : cs29 = _ ∧ _ := e30.rd
   refine O rfl (St.load1 pl61 rfl (e30.cell 0 _ rfl) (Oa (Oa (Nl (Rg (Om (O rfl (St.conv (z := (((a.getD i 0) : Nat) : Int)) us61 un60 rfl (IntWalk.u64_in _ (by omega)) (Om (O rfl (St.shl rfl rfl (by omega) (nat_shlv_u64 (shl_bd hx hs)) (Oa (Nl (Rg (Om ?_)))))))))))))))
   refine Om (O rfl (St.idxRow (j := i) sl24 io61 rfl rfl rfl (by omega) (O rfl (St.loadRow (j := i) (u := h) o22 pl61 rfl (getD_at hp) (Om (O rfl (St.conv (z := ((((a.getD i 0) * 2 ^ s) % 4294967296 : Nat) : Int)) us60 un61 rfl (wrap_nat_u32 _) (O rfl (St.or (z := ((h + a.getD i 0 * 2 ^ s % 4294967296 : Nat) : Int)) rfl rfl ((nat_or_u32 (a := h) (b := a.getD i 0 * 2 ^ s % 4294967296) (by omega) (by omega)).trans (congrArg _ (or_low hs hh))) ?_)))))))))
   refine O rfl (St.idxRow (j := i) sl24 io61 rfl rfl rfl (by omega) (On (St.storeRow (j := i) (u := h + a.getD i 0 * 2 ^ s % 4294967296) C15 o22 io61 rfl rfl (by simp only [List.length_append, List.length_cons, List.length_replicate, List.length_nil]; omega) ?_)))
   intro w32 C33 s34 o35
   rw [set_at hp] at o35
   refine Nl (W.region (Om (Om (O rfl (St.add rfl rfl (nat_add_i64 (a := i) (b := 1) (by omega)) (Om (O rfl (St.shr rfl rfl (by decide) (nat_shr (d := 4294967296) _ (by decide)) (O rfl (St.conv (z := ((a.getD i 0 * 2 ^ s / 4294967296 : Nat) : Int)) us60 un61 rfl (IntWalk.u32_in _ (by omega)) (O rfl (St.idxRow (j := i + 1) sl24 io61 rfl rfl rfl (by omega) ?_))))))))))))
   refine On (St.storeRow (j := i + 1) (u := a.getD i 0 * 2 ^ s / 4294967296) C33 o35 io61 rfl rfl (by simp only [List.length_append, List.length_cons, List.length_replicate, List.length_nil]; omega) ?_)
   intro w36 C37 s38 o39
   replace r0 := (r0.sp s34).sp s38
   rw [set_at1 hp (by omega)] at o39
   refine Nl (W.region (O rfl (St.add rfl rfl (nat_add_i64 (a := i) (b := 1) (by omega)) (Om (Nl (⟨_, (by omega), _, _, (i + 1), (p ++ [h + a.getD i 0 * 2 ^ s % 4294967296]), (a.getD i 0 * 2 ^ s / 4294967296), C37, rfl, rfl, rfl, rfl, rfl, rfl, r0, o39, (by omega), (by rw [List.length_append, hp]; rfl), (small_snoc hq (or_low_lt hs hh)), hxd, (shifted_step hp hv), rfl⟩))))))
 refine Nl (W.seq (W.condF rfl (W.exit (Rg (Om (Oa (Nl (W.ret (ret_1 rfl (resV.t rfl) (Ret.intro ?_ C15.below))))))))))
 refine ⟨_, rfl, o22.ge.resolve_right id, ?_⟩
 have hblk := o22.blk
 rw [shifted_end hq hs hh hp (by omega) hv] at hblk
 exact hblk
set_option maxHeartbeats 4000000 in
theorem c_divide {X : Nat → Prop} {w : World} (hX : ∀ b, X b → b < w.heap.size) {v0 : Value} {a : List Nat} (r0 : RS u32Ty X w v0 a) {v1 : Value} {b : List Nat} (r1 : RS u32Ty X w v1 b) (ha : trim a = a) (hb : trim b = b) (hne : b ≠ []) (hla : a.length ≤ 549755813888) (hlb : b.length ≤ 549755813888) : Calls Tryz.prog 53 #[v0, v1] w (Ret w fun v w' => (∃ v0 v1, v = .tuple #[v0, v1] ∧ (RS u32Ty X w' v0 (digs (val a / val b))) ∧ (RS u32Ty X w' v1 (digs (val a % val b))))) := by
 obtain ⟨a1, c2, rfl, _, _⟩ := r0.len
 obtain ⟨a3, c4, rfl, _, _⟩ := r1.len
 have C := Cx.start hX
 have sa := r0.u32_small
 have sb := r1.u32_small
 have hbpos : 0 < val b := Nat.lt_of_lt_of_le (Nat.pow_pos (by decide)) (trim_top hb hne)
 have hbl0 := List.length_pos_iff.2 hne
 refine Calls.ofW (args := [(.slice a1 a.length c2), (.slice a3 b.length c4)]) Tryz.func53 rfl rfl (Nat.le_of_ble_eq_true rfl) (Rg (Oa (Oa (Nl (Rh (Om (Om (O rfl (St.callR C cb91 rfl rfl (c_compare C.bd r0 r1 ha hb (by omega) (by omega)) ?_)))))))))
 intro v5 w6 C7 s8 h9
 replace r0 := r0.sp s8
 replace r1 := r1.sp s8
 subst h9
 refine O rfl (St.lss2 rfl rfl (fun hc10 => ?_) (fun hc10 => ?_))
 · refine Nl (W.condT rfl (Rg (Om (O rfl (St.callR C7 cb63 rfl rfl (c_cloneU C7.bd r0 (by omega)) ?_)))))
   intro v11 w12 C13 s14 h15
   obtain ⟨a16, c17, rfl, _, _⟩ := h15.len
   refine Oa (Oa (Nl (W.ret (ret_2 rfl (resV.t rfl) (resV.t rfl) (Ret.intro ?_ C13.below)))))
   refine ⟨_, _, rfl, ?_, ?_⟩
   · skip
     exact RS.eqv ((RS.nil : RS _ _ _ _ _).tr (Tr.weak C13.base)) ((dv_lt (cmpN_lt hc10)))
   · skip
     exact RS.eqv ((h15 : RS _ _ _ _ _).tr (Tr.weak C13.base)) ((dv_lt2 ha sa (cmpN_lt hc10)))
 refine Nl (W.condF rfl (W.skip (Rh (Om (O rfl (St.len sl24 rfl (O rfl (St.leq2 rfl rfl (fun hc18 => ?_) (fun hc18 => ?_)))))))))
 · refine Nl (W.condT rfl (W.seq ?_))
   have hlab := length_le_of hb sa (cmpN_ge hc10)
   refine W.region (Om (O rfl (St.callR C7 cb92 rfl rfl (c_word C7.bd r0 (by omega)) ?_)))
   intro v19 w20 C21 s22 h23
   replace r1 := r1.sp s22
   subst h23
   refine Om (O rfl (St.callR C21 cb92 rfl rfl (c_word C21.bd r1 (by omega)) ?_))
   intro v24 w25 C26 s27 h28
   subst h28
   refine Oa (Oa (Nl (W.seq ?_)))
   have hva64 := val_small2 sa (by omega)
   refine W.drawC mixed 7 [[], [], [0, 1], [2], [], [], [4, 5]] C26 [fx (.int .u64 (((val a) : Nat) : Int)), fx (.int .u64 (((val b) : Nat) : Int)), fx (.int .u64 (((val a) / (val b) : Nat) : Int)), fs u32Ty (digs ((val a) / (val b))), fx (.int .u64 (((val a) : Nat) : Int)), fx (.int .u64 (((val b) : Nat) : Int)), fx (.int .u64 (((val a) % (val b) : Nat) : Int))] (by kernel_rfl) ⟨sx, sx, sx, ss, sx, sx, sx, trivial⟩ fun f37 s38 w39 ⟨C42, S43⟩ k41 => ?_
   have k41 : Keep [28, 29, 30, 31, 32, 33, 34] _ f37 := k41
   refine ⟨⟨fun _ => ?_, fun _ => ?_, fun ⟨e44, e45, _⟩ => ?_, fun ⟨e46, _⟩ => ?_, fun _ => ?_, fun _ => ?_, fun ⟨e47, e48, _⟩ => ?_, trivial⟩, fun ⟨e49, e50, e51, d52, e53, e54, e55, _⟩ => ?_⟩
   · exact stepD k41 aN fun _ => OpSt.op (St.move ⟨s38, RC.same C42, rfl⟩)
   · exact stepD k41 aN fun _ => OpSt.op (St.move ⟨s38, RC.same C42, rfl⟩)
   · exact stepD k41 (aC e44 (aC e45 aN)) fun _ => OpSt.op (St.quo rfl rfl (by omega) (nat_quo_u64 (a := (val a)) (b := (val b)) (by omega)) ⟨s38, RC.same C42, rfl⟩)
   · refine stepD k41 (aC e46 aN) fun _ => OpSt.op (St.callR C42 cb51 rfl rfl (c_wide C42.bd (n := (val a) / (val b)) (div_lt64 (val_small2 sa (by omega)))) ?_)
     intro v57 w58 C59 s60 h61
     exact ⟨s38, ⟨C59, s60⟩, h61⟩
   · exact stepD k41 aN fun _ => OpSt.op (St.move ⟨s38, RC.same C42, rfl⟩)
   · exact stepD k41 aN fun _ => OpSt.op (St.move ⟨s38, RC.same C42, rfl⟩)
   · exact stepD k41 (aC e47 (aC e48 aN)) fun _ => OpSt.op (St.rem rfl rfl (by omega) (nat_rem (val a) (val b)) ⟨s38, RC.same C42, rfl⟩)
   obtain ⟨a63, c64, e62, d52⟩ := RS.opn d52
   obtain ⟨f65, rfl⟩ := mixK k41 (aC e49 (aC e50 (aC e51 (aC e62 (aC e53 (aC e54 (aC e55 aN)))))))
   refine O rfl (St.callR C42 cb51 rfl rfl (c_wide C42.bd (n := (val a) % (val b)) (mod_lt64 (val_small2 sa (by omega)))) ?_)
   intro v66 w67 C68 s69 h70
   replace d52 := d52.sp s69
   obtain ⟨a71, c72, rfl, _, _⟩ := h70.len
   refine Oa (Oa (Nl (W.ret (ret_2 rfl (resV.t rfl) (resV.t rfl) (Ret.intro ?_ C68.below)))))
   refine ⟨_, _, rfl, ?_, ?_⟩
   · skip
     exact RS.eqv ((d52 : RS _ _ _ _ _).tr (Tr.weak C68.base)) (rfl)
   · skip
     exact RS.eqv ((h70 : RS _ _ _ _ _).tr (Tr.weak C68.base)) (rfl)
 refine Nl (W.condF rfl (W.skip (W.seq (W.seq ?_))))
 have hlab := length_le_of hb sa (cmpN_ge hc10)
 refine W.region (Om (O rfl (St.len sl24 rfl (O rfl (St.eql2 rfl rfl (fun hc73 => ?_) (fun hc73 => ?_))))))
 · refine Nl (W.condT rfl (W.seq ?_))
   have h1v := one_val (a := b) (by omega)
   refine W.region (Om (Om (O rfl (St.idx (j := 0) (u := (b.getD 0 0)) r1 sl24 io61 rfl rfl rfl (getSome (by omega)) ?_))))
   intro b74 o75 cs76 e77
   obtain ⟨rfl, bd78⟩ : cs76 = _ ∧ _ := e77.rd
   refine O rfl (St.load1 pl61 rfl (e77.cell 0 _ rfl) (O rfl (St.callR C7 cb93 rfl rfl (c_short C7.bd r0 (d := (b.getD 0 0)) (by omega) (by rw [h1v]; exact hbpos) (small_getD sb _)) ?_)))
   intro v79 w80 C81 s82 h83
   obtain ⟨v84, v85, rfl, h86, rfl⟩ := h83
   obtain ⟨a88, c89, rfl, _, _⟩ := h86.len
   refine Om (O rfl (St.extract rfl rfl (O rfl (St.extract rfl rfl (Oa (Oa (Nl (Rg (Om (O rfl (St.callR C81 cb52 rfl rfl (c_trimmed C81.bd h86 (by rw [digsN_length]; omega)) ?_)))))))))))
   intro v90 w91 C92 s93 h94
   obtain ⟨a95, c96, rfl, _, _⟩ := h94.len
   refine Om (O rfl (St.conv (z := ((val a % b.getD 0 0 : Nat) : Int)) us61 un60 rfl (IntWalk.u64_in _ (by have := small_getD sb 0; have := Nat.mod_lt (val a) (show 0 < b.getD 0 0 by rw [h1v]; exact hbpos); omega)) (O rfl (St.callR C92 cb51 rfl rfl (c_wide C92.bd (n := val a % b.getD 0 0) (by have := small_getD sb 0; have := Nat.mod_lt (val a) (show 0 < b.getD 0 0 by rw [h1v]; exact hbpos); omega)) ?_))))
   intro v97 w98 C99 s100 h101
   replace h94 := h94.sp s100
   obtain ⟨a102, c103, rfl, _, _⟩ := h101.len
   refine Oa (Oa (Nl (W.ret (ret_2 rfl (resV.t rfl) (resV.t rfl) (Ret.intro ?_ C99.below)))))
   refine ⟨_, _, rfl, ?_, ?_⟩
   · skip
     exact RS.eqv ((h94 : RS _ _ _ _ _).tr (Tr.weak C99.base)) ((by rw [h1v]; exact trim_digsN (Nat.lt_of_le_of_lt (Nat.div_le_self _ _) (val_lt a sa))))
   · skip
     exact RS.eqv ((h101 : RS _ _ _ _ _).tr (Tr.weak C99.base)) ((by rw [h1v]))
 refine Nl (W.condF rfl (W.skip (Rg (Om (Om (O rfl (St.len sl24 rfl (O rfl (St.sub (z := (((b.length : Nat) : Int) - 1)) rfl rfl (IntWalk.i64_in _ (by omega)) (O rfl (St.idx (j := (b.length - 1)) (u := (b.getD (b.length - 1) 0)) r1 sl24 io61 rfl rfl (by omega) (getSome (by omega)) ?_)))))))))))
 intro b104 o105 cs106 e107
 obtain ⟨rfl, bd108⟩ : cs106 = _ ∧ _ := e107.rd
 refine O rfl (St.load1 pl61 rfl (e107.cell 0 _ rfl) (O rfl (St.callR C7 cb94 rfl rfl (c_lz32 C7.bd (x := (b.getD (b.length - 1) 0)) (small_getD sb _)) ?_)))
 intro v109 w110 C111 s112 h113
 replace r0 := r0.sp s112
 subst h113
 refine O rfl (St.conv (z := (((32 - blen (b.getD (b.length - 1) 0)) : Nat) : Int)) us3 un62 rfl (IntWalk.u64_in _ (by omega)) (Oa (Nl (W.seq ?_))))
 have hbl := blen_pos (top_pos hb sb hne)
 refine W.region (Om (Om (O rfl (St.callF C111 cb95 rfl rfl (c_shiftedF C111.bd r0 (s := (32 - blen (b.getD (b.length - 1) 0))) (by omega) (by omega)) ?_))))
 intro g114 w115 x116 y117 lt118 C119 s120 o121
 replace r1 := (r1.sp s112).sp s120
 refine Om (Om (O rfl (St.callR C119 cb95 rfl rfl (c_shifted C119.bd r1 (s := (32 - blen (b.getD (b.length - 1) 0))) (by omega) (by omega)) ?_)))
 intro v122 w123 C124 s125 h126
 obtain ⟨a127, c128, rfl, _, _⟩ := h126.len
 refine O rfl (St.callR C124 cb52 rfl rfl (c_trimmed C124.bd h126 (by rw [digsN_length]; omega)) ?_)
 intro v129 w130 C131 s132 h133
 replace o121 := (o121.spn s125).spn s132
 obtain ⟨a134, c135, rfl, _, _⟩ := h133.len
 refine Oa (Oa (Nl (W.seq ?_)))
 have hs32 : (32 - blen (b.getD (b.length - 1) 0)) < 32 := by omega
 obtain ⟨hVl, hVv, hVt⟩ := dv_vlen hb sb hne (Nat.le_refl (32 - blen (b.getD (b.length - 1) 0)))
 have hVs := h133.u32_small
 have hi0 := dv_init sa hb hne (s := (32 - blen (b.getD (b.length - 1) 0))) hlab (digsN_length (a.length + 1) (val a * 2 ^ (32 - blen (b.getD (b.length - 1) 0)))) (digsN_small _ _) (val_digsN _ _ (dv_abd sa (Nat.le_of_lt hs32)))
 have hva := val_digsN (a.length + 1) (val a * 2 ^ (32 - blen (b.getD (b.length - 1) 0))) (dv_abd sa (Nat.le_of_lt hs32))
 generalize (trim (digsN (b.length + 1) (val b * 2 ^ (32 - blen (b.getD (b.length - 1) 0))))) = V at *
 generalize (32 - blen (b.getD (b.length - 1) 0)) = s at *
 rw [← hVl, ← hVv] at hi0
 have hVD := val_lt V hVs
 have hVpos : 0 < val V := by rw [hVv]; exact Nat.mul_pos hbpos (Nat.two_pow_pos s)
 have hVne : V ≠ [] := by rintro rfl; simp at hVl; omega
 refine W.region (Om (O rfl (St.len sl24 rfl (Oa (Nl (Rg (Om (O rfl (St.len sl24 rfl (Om (O rfl (St.sub rfl rfl (nat_sub_i64 (a := (a.length + 1)) (b := V.length) (by omega) (by omega)) (O rfl (St.makeRow (n := (a.length + 1 - V.length)) C131 sl24 rfl rfl rfl (by omega) io61 (by decide) ?_))))))))))))))
 intro g136 w137 x138 y139 lt140 C141 s142 o143
 have n144 := lt140 _ o121.blk.lt
 replace h133 := h133.sp s142
 replace o121 := o121.spn s142
 refine Oa (Nl (Rh (Om (O rfl (St.len sl24 rfl (O rfl (St.sub (z := ((((a.length + 1 - V.length) : Nat) : Int) - 1)) rfl rfl (IntWalk.i64_in _ (by omega)) (Oa (Nl (W.block ?_))))))))))
 rw [← List.append_nil (List.replicate (a.length + 1 - V.length) 0)] at o143
 refine W.loopN (fun μ f v => ∃ (x y : Nat → Prop) (J : Nat) (Q : List Nat) (L : List Nat), Cx X w x y v ∧ f 4 = (.slice (some ⟨g136, 0, none⟩) (a.length + 1 - V.length) (a.length + 1 - V.length)) ∧ f 5 = (.slice none 0 0) ∧ f 10 = (.int .u64 ((s : Nat) : Int)) ∧ f 11 = (.slice (some ⟨g114, 0, none⟩) (a.length + 1) (a.length + 1)) ∧ f 12 = (.slice a134 V.length c135) ∧ f 13 = (.int .i64 ((V.length : Nat) : Int)) ∧ f 14 = (.int .i64 ((J : Int) - 1)) ∧ RS u32Ty x v (.slice a134 V.length c135) V ∧ Own w y v g114 (L.map u32v) 61 ∧ Own w y v g136 ((List.replicate J 0 ++ Q).map u32v) 61 ∧ J ≤ a.length + 1 - V.length ∧ J + Q.length = a.length + 1 - V.length ∧ small Q ∧ L.length = a.length + 1 ∧ small L ∧ val (L.drop J) < val V ∧ val a * 2 ^ s = val Q * val V * 4294967296 ^ J + val L ∧ μ = J) _ ⟨_, _, (a.length + 1 - V.length), [], (digsN (a.length + 1) (val a * 2 ^ s)), C141, rfl, rfl, rfl, rfl, rfl, rfl, (congrArg (Value.int .i64) (by omega)), h133, o121, o143, (Nat.le_refl _), rfl, small_nil, (digsN_length _ _), (digsN_small _ _), hi0, (by rw [hva]; simp [val]), rfl⟩ ?_
 rintro m160 f145 w146 ⟨x147, y148, J, Q, L, C149, e150, e151, e152, e153, e154, e155, e156, h133, o157, o158, hJ, hQl, hQs, hLl, hLs, hlo, hN, hmu159⟩
 obtain ⟨f161, rfl⟩ := rebK (aC e150 (aC e151 (aC e152 (aC e153 (aC e154 (aC e155 (aC e156 aN)))))))
 clear e150 e151 e152 e153 e154 e155 e156
 have hJL : 0 < J → J + V.length ≤ L.length := fun _ => by omega
 refine Rh (Om (O rfl (St.geq2 rfl rfl (fun hc162 => ?_) (fun hc162 => ?_))))
 · refine Nl (W.condT rfl (W.skip (W.seq (W.block (W.region (Om (Om (Om (Om (Om (Om (O rfl (St.add (z := (((J : Int) - 1) + ((V.length : Nat) : Int))) rfl rfl (IntWalk.i64_in _ (by omega)) (O rfl (St.add (z := ((((J : Int) - 1) + ((V.length : Nat) : Int)) + 1)) rfl rfl (IntWalk.i64_in _ (by omega)) ?_)))))))))))))))
   refine O rfl (St.sliceRowE (i := (J - 1)) (j := (J + V.length)) (by rw [dv_ulen (by omega) (by omega)]; omega) sl24 io61 rfl rfl (by omega) rfl (by omega) (by omega) (by omega) (by omega) (Om (O rfl (St.callT C149 o157 cb96 rfl rfl (c_digit C149.bd (A := (L.take (J - 1))) (U := ((L.drop (J - 1)).take (V.length + 1))) (Z := (L.drop (J + V.length))) (by rw [List.length_take]; omega) (by have hh := o157.blk; rw [dv_split (L := L) (J := J) (n := V.length) (by omega) (by omega)] at hh; exact hh) (C149.yx _ o157.mem) h133 (small_take (small_drop hLs _) _) (by omega) (by omega) (dv_ulen (by omega) (by omega)) (top_pos hVt hVs hVne) (dv_ult hLs (by omega) (by omega) hVD hlo)) ?_))))
   intro v163 w164 C165 s166 o167 h168
   replace o158 := o158.spo s166 (Ne.symm n144)
   subst h168
   refine O rfl (St.idxRow (j := (J - 1)) sl24 io61 rfl rfl (by omega) (by omega) (On (St.storeRow (j := (J - 1)) (u := (val ((L.drop (J - 1)).take (V.length + 1)) / val V)) C165 o158 io61 rfl rfl (by rw [List.length_append, List.length_replicate]; omega) ?_)))
   intro w169 C170 s171 o172
   replace h133 := (h133.sp s166).sp s171
   replace o167 := o167.spo s171 n144
   rw [set_down (by omega)] at o172
   refine Nl (W.region (Om (O rfl (St.sub (z := (((J : Int) - 1) - 1)) rfl rfl (IntWalk.i64_in _ (by omega)) (Oa (Nl (⟨_, (by omega), _, _, (J - 1), ((val ((L.drop (J - 1)).take (V.length + 1))) / val V :: Q), (L.take (J - 1) ++ digsN (V.length + 1) ((val ((L.drop (J - 1)).take (V.length + 1))) % val V) ++ L.drop (J + V.length)), C170, rfl, rfl, rfl, rfl, rfl, rfl, (congrArg (Value.int .i64) (by omega)), h133, o167, o172, (by omega), (by rw [List.length_cons]; omega), (small_cons (dv_digit (dv_ult hLs (by omega) (by omega) hVD hlo)) hQs), ((dv_new (by omega) (by omega)).trans hLl), (small_new hLs), (by rw [dv_newlo (by omega) (by omega) hVD hlo]; exact Nat.mod_lt _ hVpos), (dv_step (by omega) (by omega) hVD hlo hN), rfl⟩)))))))
 refine Nl (W.condF rfl (W.exit (W.seq ?_)))
 have hJ0 : J = 0 := by omega
 rw [hVv, hJ0] at hN
 rw [hVv, hJ0] at hlo
 have h173 := o158.frRS (x := x147) (n := (a.length + 1 - V.length)) (c := (a.length + 1 - V.length)) (by rw [List.length_append, List.length_replicate]; omega) (Nat.le_refl _) (by omega) (small_append (small_rep _) hQs)
 rw [hJ0, List.replicate_zero, List.nil_append, List.take_of_length_le (by omega)] at h173
 have C174 := C149.freeze hX o158 id
 replace o157 := o157.frz n144
 have h175 := o157.frRS (x := (less1 x147 g136)) (n := (a.length + 1)) (c := (a.length + 1)) (by omega) (Nat.le_refl _) (by omega) hLs
 rw [List.take_of_length_le (by omega)] at h175
 have C176 := C174.freeze hX o157 id
 refine W.drawC mixed 6 [[], [0], [], [], [2, 3], []] C176 [fx (.slice (some ⟨g136, 0, none⟩) (a.length + 1 - V.length) (a.length + 1 - V.length)), fs u32Ty (trim Q), fx (.slice (some ⟨g114, 0, none⟩) (a.length + 1) (a.length + 1)), fx (.int .i64 ((V.length : Nat) : Int)), fs u32Ty (L.take V.length), fx (.int .u64 ((s : Nat) : Int))] (by kernel_rfl) ⟨sx, ss, sx, sx, ss, sx, trivial⟩ fun f186 s187 w188 ⟨C191, S192⟩ k190 => ?_
 replace h173 := (h173.tr (Tr.frz (g := g114))).sp S192
 replace h175 := h175.sp S192
 have k190 : Keep [93, 94, 95, 96, 97, 98] _ f186 := k190
 refine ⟨⟨fun _ => ?_, fun ⟨e193, _⟩ => ?_, fun _ => ?_, fun _ => ?_, fun ⟨e194, e195, _⟩ => ?_, fun _ => ?_, trivial⟩, fun ⟨e196, d197, e198, e199, d200, e201, _⟩ => ?_⟩
 · exact stepD k190 aN fun _ => OpSt.op (St.move ⟨s187, RC.same C191, rfl⟩)
 · refine stepD k190 (aC e193 aN) fun _ => OpSt.op (St.callR C191 cb52 rfl rfl (c_trimmed C191.bd h173 (by omega)) ?_)
   intro v203 w204 C205 s206 h207
   exact ⟨s187, ⟨C205, s206⟩, h207⟩
 · exact stepD k190 aN fun _ => OpSt.op (St.move ⟨s187, RC.same C191, rfl⟩)
 · exact stepD k190 aN fun _ => OpSt.op (St.move ⟨s187, RC.same C191, rfl⟩)
 · refine stepD k190 (aC e194 (aC e195 aN)) fun _ => OpSt.op (St.slr (j := V.length) h175 sl24 io61 rfl rfl rfl (by omega) ?_)
   intro h208
   exact ⟨s187, RC.same C191, h208⟩
 · exact stepD k190 aN fun _ => OpSt.op (St.move ⟨s187, RC.same C191, rfl⟩)
 obtain ⟨a210, c211, e209, d197⟩ := RS.opn d197
 obtain ⟨a213, c214, e212, d200⟩ := RS.opn d200
 obtain ⟨f215, rfl⟩ := mixK k190 (aC e196 (aC e209 (aC e198 (aC e199 (aC e212 (aC e201 aN))))))
 refine O rfl (St.callR C191 cb97 rfl rfl (c_unshifted C191.bd d200 (s := s) (by rw [List.length_take]; omega) hs32) ?_)
 intro v216 w217 C218 s219 h220
 obtain ⟨a221, c222, rfl, _, _⟩ := h220.len
 refine O rfl (St.callR C218 cb52 rfl rfl (c_trimmed C218.bd h220 (by rw [digsN_length, List.length_take]; omega)) ?_)
 intro v223 w224 C225 s226 h227
 replace d197 := (d197.sp s219).sp s226
 obtain ⟨a228, c229, rfl, _, _⟩ := h227.len
 refine Oa (Oa (Nl (W.ret (ret_2 rfl (resV.t rfl) (resV.t rfl) (Ret.intro ?_ C225.below)))))
 refine ⟨_, _, rfl, ?_, ?_⟩
 · skip
   exact RS.eqv ((d197 : RS _ _ _ _ _).tr (Tr.weak C225.base)) ((dv_q hQs hbpos hN hlo))
 · skip
   exact RS.eqv ((h227 : RS _ _ _ _ _).tr (Tr.weak C225.base)) ((dv_r hLs hbpos (by omega) (by rw [← hVv]; exact hVD) hN hlo))
end Go.Wf
namespace Go.Wf
set_option linter.unusedVariables false
set_option linter.unusedSimpArgs false
open Go
theorem natAbs_zsign (b : Bool) (n : Nat) : (zsign b n).natAbs = n := by cases b <;> simp [zsign]
theorem zsign_zero (b : Bool) : zsign b 0 = 0 := by cases b <;> rfl
theorem zsign_lt (b : Bool) (n : Nat) : decide (zsign b n < 0) = (b && decide (0 < n)) := by
  cases b
  · simp [zsign]
  · simp [zsign]
theorem zsign_not (b : Bool) (n : Nat) : zsign (!b) n = - zsign b n := by cases b <;> simp [zsign]
theorem zsign_false (n : Nat) : zsign false n = n := rfl
theorem digs_len_pos (v : Nat) : decide (0 < (digs v).length) = decide (0 < v) := by
  rcases Nat.eq_zero_or_pos v with rfl | h
  · rfl
  · have : digs v ≠ [] := fun e => by rw [digs_nil_iff] at e; omega
    rw [decide_eq_true h, decide_eq_true (List.length_pos_iff.2 this)]
theorem mkSg_of {b : Bool} {m : List Nat} (h : small m) : mkSg b m = ofZ (zsign b (val m)) := by
  unfold mkSg ofZ
  rw [trim_eq h, natAbs_zsign, zsign_lt, digs_len_pos]
theorem mkSg_val {b : Bool} {m : List Nat} {z : Int} (h : small m) (e : zsign b (val m) = z) : mkSg b m = ofZ z := by rw [mkSg_of h, e]
theorem toZ_ofZ (z : Int) : (ofZ z).toZ = z := by
  unfold GInt.toZ ofZ
  rw [val_digs]
  rcases Int.lt_or_le z 0 with h | h
  · rw [decide_eq_true h]; simp [zsign]; omega
  · rw [decide_eq_false (by omega)]; simp [zsign]; omega
theorem ofZ_small (z : Int) : small (ofZ z).mag := small_digs _
theorem ofZ_trim (z : Int) : trim (ofZ z).mag = (ofZ z).mag := trim_digs _
theorem ofZ_inj {y z : Int} (h : ofZ y = ofZ z) : y = z := by rw [← toZ_ofZ y, h, toZ_ofZ]
theorem ofZ_mag (z : Int) : (ofZ z).mag = digs z.natAbs := rfl
theorem ofZ_neg (z : Int) : (ofZ z).neg = decide (z < 0) := rfl
theorem ofZ_zero : ofZ 0 = ⟨false, []⟩ := rfl
theorem toZ_natAbs (a : GInt) : a.toZ.natAbs = val a.mag := natAbs_zsign _ _
theorem toZ_zero_iff {a : GInt} : a.toZ = 0 ↔ val a.mag = 0 := by rw [← Int.natAbs_eq_zero, toZ_natAbs]
theorem trim_len_zero {m : List Nat} (_h : small m) : (trim m).length = 0 ↔ val m = 0 := by
  rw [List.length_eq_zero_iff, trim_zero_iff]
theorem sign_zero {a : GInt} (h : val a.mag = 0) : (0 : Int) = a.toZ.sign := by rw [toZ_zero_iff.2 h]; rfl
theorem sign_neg {a : GInt} (hn : a.neg = true) (h : val a.mag ≠ 0) : (-1 : Int) = a.toZ.sign := by
  unfold GInt.toZ; rw [hn]; rw [Int.sign_eq_neg_one_of_neg]; simp [zsign]; omega
theorem sign_pos {a : GInt} (hn : a.neg = false) (h : val a.mag ≠ 0) : (1 : Int) = a.toZ.sign := by
  unfold GInt.toZ; rw [hn]; rw [Int.sign_eq_one_of_pos]; simp [zsign]; omega
theorem add_same {a : GInt} {b : List Nat} {n : Bool} (h : a.neg = n) : zsign n (val a.mag + val b) = a.toZ + zsign n (val b) := by
  unfold GInt.toZ; rw [h]; cases n <;> simp [zsign] <;> omega
theorem add_ge {a : GInt} {b : List Nat} {n : Bool} (h : ¬ a.neg = n) (hle : val b ≤ val a.mag) : zsign a.neg (val a.mag - val b) = a.toZ + zsign n (val b) := by
  unfold GInt.toZ
  have : n = !a.neg := by cases n <;> cases hh : a.neg <;> simp_all
  rw [this]; cases a.neg <;> simp [zsign] <;> omega
theorem add_lt {a : GInt} {b : List Nat} {n : Bool} (h : ¬ a.neg = n) (hle : val a.mag ≤ val b) : zsign n (val b - val a.mag) = a.toZ + zsign n (val b) := by
  unfold GInt.toZ
  have : n = !a.neg := by cases n <;> cases hh : a.neg <;> simp_all
  rw [this]; cases a.neg <;> simp [zsign] <;> omega
theorem mul_zsign (a b : GInt) : zsign (a.neg != b.neg) (val a.mag * val b.mag) = a.toZ * b.toZ := by
  unfold GInt.toZ
  cases a.neg <;> cases b.neg <;> simp [zsign, Int.neg_mul, Int.mul_neg]
theorem zdiv_pos {a b : GInt} (hb : val b.mag ≠ 0) (h : a.neg = false ∨ val a.mag % val b.mag = 0) :
    zsign (a.neg != b.neg) (val a.mag / val b.mag) = a.toZ / b.toZ ∧ ((val a.mag % val b.mag : Nat) : Int) = a.toZ % b.toZ := by
  unfold GInt.toZ
  have hm := Nat.div_add_mod (val a.mag) (val b.mag)
  generalize val a.mag = x at *
  generalize val b.mag = y at *
  cases ha : a.neg with
  | false =>
    cases b.neg with
    | false => simp [zsign]
    | true => simp [zsign]
  | true =>
    have h0 : x % y = 0 := by
      rcases h with h | h
      · rw [ha] at h; cases h
      · exact h
    rw [h0, Nat.add_zero] at hm
    generalize x / y = q at *
    subst hm
    have hy : (y : Int) ≠ 0 := by omega
    cases b.neg with
    | false =>
      simp only [zsign]
      refine ⟨?_, ?_⟩
      · have : -((y * q : Nat) : Int) = (y : Int) * (-(q : Int)) := by simp [Int.mul_neg]
        simp only [if_true, Bool.bne_false, if_false, Bool.false_eq_true]
        rw [this, Int.mul_ediv_cancel_left _ hy]
      · simp [h0]
    | true =>
      simp only [zsign]
      refine ⟨?_, ?_⟩
      · have : -((y * q : Nat) : Int) = (-(y : Int)) * (q : Int) := by simp [Int.neg_mul]
        simp only [if_true, bne_self_eq_false, if_false, Bool.false_eq_true]
        rw [this, Int.mul_ediv_cancel_left _ (by omega)]
      · simp [h0]
theorem zdiv_neg {a b : GInt} (hb : val b.mag ≠ 0) (ha : a.neg = true) (h : val a.mag % val b.mag ≠ 0) :
    zsign (a.neg != b.neg) (val a.mag / val b.mag + 1) = a.toZ / b.toZ ∧ ((val b.mag - val a.mag % val b.mag : Nat) : Int) = a.toZ % b.toZ := by
  unfold GInt.toZ
  have hm := Nat.div_add_mod (val a.mag) (val b.mag)
  have hlt := Nat.mod_lt (val a.mag) (show 0 < val b.mag by omega)
  generalize val a.mag = x at *
  generalize val b.mag = y at *
  generalize x / y = q at *
  generalize x % y = r at *
  rw [ha]
  have key : ∀ s : Int, (s = y ∨ s = -y) → ∀ Q : Int, -(x : Int) = s * Q + ((y - r : Nat) : Int) → Q = -(x : Int) / s ∧ ((y - r : Nat) : Int) = -(x : Int) % s := by
    intro s hs Q hQ
    have h1 : 0 ≤ ((y - r : Nat) : Int) := Int.natCast_nonneg _
    have h2 : ((y - r : Nat) : Int) < s.natAbs := by
      have : s.natAbs = y := by rcases hs with rfl | rfl <;> simp
      rw [this]; omega
    have hs0 : s ≠ 0 := by rcases hs with rfl | rfl <;> omega
    have e1 : -(x : Int) / s = Q := by
      have h3 : ((y - r : Nat) : Int) / s = 0 := by
        rcases hs with rfl | rfl
        · exact Int.ediv_eq_zero_of_lt h1 (by omega)
        · rw [Int.ediv_neg, Int.ediv_eq_zero_of_lt h1 (by omega), Int.neg_zero]
      rw [hQ, Int.mul_add_ediv_left _ _ hs0, h3, Int.add_zero]
    refine ⟨e1.symm, ?_⟩
    have := Int.emod_def (-(x : Int)) s
    rw [this, e1]; omega
  have hx : (x : Int) = (y : Int) * q + r := by rw [← hm]; simp
  have hsub : ((y - r : Nat) : Int) = (y : Int) - r := by omega
  cases b.neg with
  | false =>
    have := key y (.inl rfl) (-((q : Int) + 1)) (by rw [hsub, hx, Int.mul_neg, Int.mul_add]; omega)
    simpa [zsign] using this
  | true =>
    have := key (-y) (.inr rfl) ((q : Int) + 1) (by rw [hsub, hx, Int.neg_mul, Int.mul_add]; omega)
    simpa [zsign] using this
end Go.Wf
namespace Go.Wf
set_option linter.unusedVariables false
set_option linter.unusedSimpArgs false
open Go
def GRat.q (r : GRat) : Rat := Rat.divInt r.num.toZ r.den.toZ
def ofQ (q : Rat) : GRat := ⟨ofZ q.num, ofZ (q.den : Int)⟩
theorem ofQ_q (q : Rat) : (ofQ q).q = q := by
  unfold GRat.q ofQ
  rw [toZ_ofZ, toZ_ofZ]
  exact Rat.num_divInt_den q
theorem ofQ_inj {p q : Rat} (h : ofQ p = ofQ q) : p = q := by rw [← ofQ_q p, h, ofQ_q]
def low (n d : Int) : GRat := ofQ (Rat.divInt n d)
theorem low_q (n d : Int) : (low n d).q = Rat.divInt n d := ofQ_q _
theorem low_zero_den (n : Int) : low n 0 = ⟨ofZ 0, ofZ 1⟩ := by
  unfold low ofQ
  rw [Rat.divInt_zero]; rfl
theorem low_zero_num (d : Int) : low 0 d = ⟨ofZ 0, ofZ 1⟩ := by
  unfold low ofQ
  rw [Rat.zero_divInt]; rfl
theorem low_neg (n d : Int) : low (-n) (-d) = low n d := by
  unfold low
  rw [Rat.neg_divInt_neg]
theorem low_pos {n d : Int} (hd : 0 < d) : low n d = ⟨ofZ (n / (Int.gcd n d : Int)), ofZ (d / (Int.gcd n d : Int))⟩ := by
  unfold low ofQ
  rw [Rat.num_divInt, Rat.den_divInt, if_neg (by omega), Int.gcd_comm, Int.sign_eq_one_of_pos hd, Int.one_mul]
  congr 2
  have : (d.natAbs : Int) = d := by omega
  rw [← this]
  simp
theorem low_one {n d : Int} (hd : d = 1) : low n d = ⟨ofZ n, ofZ d⟩ := by
  subst hd
  rw [low_pos (by decide), Int.gcd_one_right]
  simp
theorem low_coprime {n d : Int} (hd : 0 < d) (h : Int.gcd n d = 1) : low n d = ⟨ofZ n, ofZ d⟩ := by
  rw [low_pos hd, h]; simp
theorem q_den_zero {a : GRat} (h : a.den.toZ = 0) : a.q = 0 := by
  unfold GRat.q; rw [h, Rat.divInt_zero]
theorem q_add {a b : GRat} (ha : a.den.toZ ≠ 0) (hb : b.den.toZ ≠ 0) : a.q + b.q = Rat.divInt (a.num.toZ * b.den.toZ + b.num.toZ * a.den.toZ) (a.den.toZ * b.den.toZ) := Rat.divInt_add_divInt _ _ ha hb
theorem q_neg (a : GRat) : Rat.divInt (-a.num.toZ) a.den.toZ = - a.q := by
  unfold GRat.q; rw [Rat.neg_divInt]
theorem q_sub (a b : GRat) : a.q + -b.q = a.q - b.q := (Rat.sub_eq_add_neg _ _).symm
theorem q_mul (a b : GRat) : Rat.divInt (a.num.toZ * b.num.toZ) (a.den.toZ * b.den.toZ) = a.q * b.q := by
  unfold GRat.q; rw [Rat.divInt_mul_divInt]
def qsign (q : Rat) : Int := q.num.sign
theorem q_sign (a : GRat) : a.num.toZ.sign * a.den.toZ.sign = qsign a.q := by
  unfold GRat.q qsign
  rw [Rat.num_divInt]
  generalize a.num.toZ = n
  generalize a.den.toZ = d
  rcases Int.lt_trichotomy d 0 with h | h | h
  · rw [Int.sign_eq_neg_one_of_neg h]
    have hg : 0 < Int.gcd d n := Int.gcd_pos_of_ne_zero_left _ (by omega)
    have hdvd : (Int.gcd d n : Int) ∣ n := Int.gcd_dvd_right _ _
    obtain ⟨k, hk⟩ := hdvd
    generalize Int.gcd d n = g at *
    subst hk
    rw [show (-1 : Int) * ((g : Int) * k) = (g : Int) * (-k) by rw [Int.mul_neg, Int.neg_mul, Int.one_mul], Int.mul_ediv_cancel_left _ (by omega), Int.sign_mul, Int.sign_neg, Int.sign_eq_one_of_pos (by omega)]
    omega
  · subst h; simp
  · rw [Int.sign_eq_one_of_pos h]
    have hg : 0 < Int.gcd d n := Int.gcd_pos_of_ne_zero_left _ (by omega)
    have hdvd : (Int.gcd d n : Int) ∣ n := Int.gcd_dvd_right _ _
    obtain ⟨k, hk⟩ := hdvd
    generalize Int.gcd d n = g at *
    subst hk
    rw [Int.one_mul, Int.mul_ediv_cancel_left _ (by omega), Int.sign_mul, Int.sign_eq_one_of_pos (show 0 < (g : Int) by omega)]
    omega
end Go.Wf
namespace Go.Wf
open Go Go.Proofs Go.RowKit
set_option maxRecDepth 100000
set_option linter.unusedVariables false
set_option linter.unusedSimpArgs false
theorem RV.int_small {X : Nat → Prop} {w : World} {v : Value} {a : GInt} (h : RV intTy X w v a) : small a.mag := by
  obtain ⟨s, c, rfl, h2⟩ := RV.int h
  exact h2.u32_small
theorem plus_bd {a b : List Nat} (sa : small a) (sb : small b) : val a + val b < 4294967296 ^ (max a.length b.length + 1) := by
  have h1 := val_lt a sa
  have h2 := val_lt b sb
  have h3 : 4294967296 ^ a.length ≤ 4294967296 ^ max a.length b.length := Nat.pow_le_pow_right (by omega) (Nat.le_max_left _ _)
  have h4 : 4294967296 ^ b.length ≤ 4294967296 ^ max a.length b.length := Nat.pow_le_pow_right (by omega) (Nat.le_max_right _ _)
  rw [Nat.pow_succ]
  omega
set_option maxHeartbeats 1000000 in
theorem c_normal {X : Nat → Prop} {w : World} (hX : ∀ b, X b → b < w.heap.size) {v0 : Value} {a : GInt} (r0 : RV intTy X w v0 a) (hl : a.mag.length ≤ 1099511627776) : Calls Tryz.prog 143 #[v0] w (Ret w fun v w' => RV intTy X w' v (ofZ a.toZ)) := by
 obtain ⟨a1, c2, rfl, h3⟩ := RV.int r0
 have C := Cx.start hX
 have sa := r0.int_small
 refine Calls.ofW (args := [(.agg #[(.bool a.neg), (.slice a1 a.mag.length c2)])]) Tryz.func143 rfl rfl (Nat.le_of_ble_eq_true rfl) (Rg (O rfl (St.boxC C rfl ?_)))
 intro g4 w5 x6 y7 lt8 C9 s10 o11
 replace h3 := h3.sp s10
 refine O rfl (St.allocC C9 io26 rfl ?_)
 intro g12 w13 x14 y15 lt16 C17 s18 o19
 refine Nl (W.seq (W.drawC mixed 6 [[], [0], [], [2], [3], [4]] C17 [fx (.pointer (some ⟨g4, 0, none⟩)), fx (.bool a.neg), fx (.pointer (some ⟨g4, 1, none⟩)), fx (.slice a1 a.mag.length c2), fs u32Ty (trim a.mag), fs u32Ty (trim a.mag)] (by kernel_rfl) ⟨sx, sx, sx, sx, ss, ss, trivial⟩ fun f36 s37 w38 ⟨C41, S42⟩ k40 => ?_))
 replace h3 := (h3.sp s18).sp S42
 replace o11 := (o11.spn s18).spn S42
 have k40 : Keep [3, 4, 5, 6, 7, 8] _ f36 := k40
 refine ⟨⟨fun _ => ?_, fun ⟨e45, _⟩ => ?_, fun _ => ?_, fun ⟨e46, _⟩ => ?_, fun ⟨e47, _⟩ => ?_, fun ⟨d48, _⟩ => ?_, trivial⟩, fun ⟨e49, e50, e51, e52, d53, d54, _⟩ => ?_⟩
 · exact stepD k40 aN fun _ => OpSt.op (St.fieldAddr fo26_0 rfl ⟨s37, RC.same C41, rfl⟩)
 · exact stepD k40 (aC e45 aN) fun _ => OpSt.op (St.loadO1 o11 pl4 rfl rfl ⟨s37, RC.same C41, rfl⟩)
 · exact stepD k40 aN fun _ => OpSt.op (St.fieldAddr fo26_1 rfl ⟨s37, RC.same C41, rfl⟩)
 · exact stepD k40 (aC e46 aN) fun _ => OpSt.op (St.loadO1 o11 pl24 rfl rfl ⟨s37, RC.same C41, rfl⟩)
 · refine stepD k40 (aC e47 aN) fun _ => OpSt.op (St.callR C41 cb52 rfl rfl (c_trimmed C41.bd h3 (by omega)) ?_)
   intro v56 w57 C58 s59 h60
   exact ⟨s37, ⟨C58, s59⟩, h60⟩
 · obtain ⟨a62, c63, e61, d48⟩ := RS.opn d48
   refine stepD k40 (aC e61 aN) fun _ => OpSt.op (St.callR C41 cb63 rfl rfl (c_cloneU C41.bd d48 (Nat.le_trans (trim_length_le _) (by omega))) ?_)
   intro v64 w65 C66 s67 h68
   exact ⟨s37, ⟨C66, s67⟩, h68⟩
 obtain ⟨a70, c71, e69, d53⟩ := RS.opn d53
 obtain ⟨a73, c74, e72, d54⟩ := RS.opn d54
 obtain ⟨f75, rfl⟩ := mixK k40 (aC e49 (aC e50 (aC e51 (aC e52 (aC e69 (aC e72 aN))))))
 refine O rfl (St.callR C41 cb50 rfl rfl (c_signed C41.bd d54 (Nat.le_trans (trim_length_le _) (by omega))) ?_)
 intro v76 w77 C78 s79 h80
 replace o19 := (o19.spn S42).spn s79
 obtain ⟨a81, c82, rfl, h83⟩ := RV.int h80
 refine On (St.storeC (cs' := [(.bool (mkSg a.neg (trim a.mag)).neg), (.slice a81 (mkSg a.neg (trim a.mag)).mag.length c82)]) C78 o19 io26 rfl rfl rfl rfl rfl rfl ?_)
 intro w84 C85 s86 o87
 replace h83 := h83.sp s86
 refine Nl (W.ret (ret_1 rfl (resV.c o87 rfl ag26 rfl) (Ret.intro ?_ C85.below)))
 exact RV.eqv (a := (mkSg a.neg (trim a.mag))) ((mkInt h83).tr (Tr.weak C85.base)) (mkSg_val (small_trim sa) (by rw [val_trim]; rfl))
set_option maxHeartbeats 1000000 in
theorem c_signI {X : Nat → Prop} {w : World} (hX : ∀ b, X b → b < w.heap.size) {v0 : Value} {a : GInt} (r0 : RV intTy X w v0 a) (hl : a.mag.length ≤ 1099511627776) : Calls Tryz.prog 27 #[v0] w (Ret w fun v w' => v = (.int .i64 a.toZ.sign)) := by
 obtain ⟨a1, c2, rfl, h3⟩ := RV.int r0
 have C := Cx.start hX
 have sa := r0.int_small
 refine Calls.ofW (args := [(.agg #[(.bool a.neg), (.slice a1 a.mag.length c2)])]) Tryz.func27 rfl rfl (Nat.le_of_ble_eq_true rfl) (Rg (O rfl (St.boxC C rfl ?_)))
 intro g4 w5 x6 y7 lt8 C9 s10 o11
 replace h3 := h3.sp s10
 refine Oa (Nl (W.seq (W.block (Rg (O rfl (St.fieldAddr fo26_1 rfl (O rfl (St.loadO1 o11 pl24 rfl rfl (O rfl (St.callR C9 cb52 rfl rfl (c_trimmed C9.bd h3 (by omega)) ?_))))))))))
 intro v12 w13 C14 s15 h16
 replace o11 := o11.spn s15
 obtain ⟨a17, c18, rfl, _, _⟩ := h16.len
 refine O rfl (St.len sl24 rfl (O rfl (St.eql2 rfl rfl (fun hc19 => ?_) (fun hc19 => ?_))))
 · exact Oa (Nl (W.condT rfl (Rg (Oa (Nl (W.ret (ret_1 rfl (resV.t rfl) (Ret.intro (congrArg (Value.int _) ((sign_zero ((trim_len_zero sa).1 (by omega))))) C14.below))))))))
 refine Oa (Nl (W.condF rfl (Rg (O rfl (St.fieldAddr fo26_0 rfl (O rfl (St.bool (St.loadO1 o11 pl4 rfl rfl ⟨_, rfl, fun hb20 => ?_, fun hb20 => ?_⟩))))))))
 · exact Oa (Nl (W.condT rfl (Rg (Oa (Nl (W.ret (ret_1 rfl (resV.t rfl) (Ret.intro (congrArg (Value.int _) ((sign_neg hb20 (fun h => hc19 (by rw [(trim_len_zero sa).2 h]; rfl))))) C14.below))))))))
 exact Oa (Nl (W.condF rfl (W.skip (Rg (Oa (Nl (W.ret (ret_1 rfl (resV.t rfl) (Ret.intro (congrArg (Value.int _) ((sign_pos hb20 (fun h => hc19 (by rw [(trim_len_zero sa).2 h]; rfl))))) C14.below)))))))))
set_option maxHeartbeats 1000000 in
theorem c_negI {X : Nat → Prop} {w : World} (hX : ∀ b, X b → b < w.heap.size) {v0 : Value} {a : GInt} (r0 : RV intTy X w v0 a) (hl : a.mag.length ≤ 1099511627776) : Calls Tryz.prog 144 #[v0] w (Ret w fun v w' => RV intTy X w' v (ofZ (-a.toZ))) := by
 obtain ⟨a1, c2, rfl, h3⟩ := RV.int r0
 have C := Cx.start hX
 have sa := r0.int_small
 refine Calls.ofW (args := [(.agg #[(.bool a.neg), (.slice a1 a.mag.length c2)])]) Tryz.func144 rfl rfl (Nat.le_of_ble_eq_true rfl) (Rg (O rfl (St.boxC C rfl ?_)))
 intro g4 w5 x6 y7 lt8 C9 s10 o11
 replace h3 := h3.sp s10
 refine O rfl (St.allocC C9 io26 rfl ?_)
 intro g12 w13 x14 y15 lt16 C17 s18 o19
 refine Nl (W.seq (W.drawC mixed 7 [[], [0], [1], [], [3], [4], [5]] C17 [fx (.pointer (some ⟨g4, 0, none⟩)), fx (.bool a.neg), fx (.bool (!a.neg)), fx (.pointer (some ⟨g4, 1, none⟩)), fx (.slice a1 a.mag.length c2), fs u32Ty (trim a.mag), fs u32Ty (trim a.mag)] (by kernel_rfl) ⟨sx, sx, sx, sx, sx, ss, ss, trivial⟩ fun f36 s37 w38 ⟨C41, S42⟩ k40 => ?_))
 replace h3 := (h3.sp s18).sp S42
 replace o11 := (o11.spn s18).spn S42
 have k40 : Keep [3, 4, 5, 6, 7, 8, 9] _ f36 := k40
 refine ⟨⟨fun _ => ?_, fun ⟨e45, _⟩ => ?_, fun ⟨e46, _⟩ => ?_, fun _ => ?_, fun ⟨e47, _⟩ => ?_, fun ⟨e48, _⟩ => ?_, fun ⟨d49, _⟩ => ?_, trivial⟩, fun ⟨e50, e51, e52, e53, e54, d55, d56, _⟩ => ?_⟩
 · exact stepD k40 aN fun _ => OpSt.op (St.fieldAddr fo26_0 rfl ⟨s37, RC.same C41, rfl⟩)
 · exact stepD k40 (aC e45 aN) fun _ => OpSt.op (St.loadO1 o11 pl4 rfl rfl ⟨s37, RC.same C41, rfl⟩)
 · exact stepD k40 (aC e46 aN) fun _ => OpSt.op (St.not rfl ⟨s37, RC.same C41, rfl⟩)
 · exact stepD k40 aN fun _ => OpSt.op (St.fieldAddr fo26_1 rfl ⟨s37, RC.same C41, rfl⟩)
 · exact stepD k40 (aC e47 aN) fun _ => OpSt.op (St.loadO1 o11 pl24 rfl rfl ⟨s37, RC.same C41, rfl⟩)
 · refine stepD k40 (aC e48 aN) fun _ => OpSt.op (St.callR C41 cb52 rfl rfl (c_trimmed C41.bd h3 (by omega)) ?_)
   intro v58 w59 C60 s61 h62
   exact ⟨s37, ⟨C60, s61⟩, h62⟩
 · obtain ⟨a64, c65, e63, d49⟩ := RS.opn d49
   refine stepD k40 (aC e63 aN) fun _ => OpSt.op (St.callR C41 cb63 rfl rfl (c_cloneU C41.bd d49 (Nat.le_trans (trim_length_le _) (by omega))) ?_)
   intro v66 w67 C68 s69 h70
   exact ⟨s37, ⟨C68, s69⟩, h70⟩
 obtain ⟨a72, c73, e71, d55⟩ := RS.opn d55
 obtain ⟨a75, c76, e74, d56⟩ := RS.opn d56
 obtain ⟨f77, rfl⟩ := mixK k40 (aC e50 (aC e51 (aC e52 (aC e53 (aC e54 (aC e71 (aC e74 aN)))))))
 refine O rfl (St.callR C41 cb50 rfl rfl (c_signed C41.bd d56 (Nat.le_trans (trim_length_le _) (by omega))) ?_)
 intro v78 w79 C80 s81 h82
 replace o19 := (o19.spn S42).spn s81
 obtain ⟨a83, c84, rfl, h85⟩ := RV.int h82
 refine On (St.storeC (cs' := [(.bool (mkSg (!a.neg) (trim a.mag)).neg), (.slice a83 (mkSg (!a.neg) (trim a.mag)).mag.length c84)]) C80 o19 io26 rfl rfl rfl rfl rfl rfl ?_)
 intro w86 C87 s88 o89
 replace h85 := h85.sp s88
 refine Nl (W.ret (ret_1 rfl (resV.c o89 rfl ag26 rfl) (Ret.intro ?_ C87.below)))
 exact RV.eqv (a := (mkSg (!a.neg) (trim a.mag))) ((mkInt h85).tr (Tr.weak C87.base)) (mkSg_val (small_trim sa) (by rw [val_trim, zsign_not]; rfl))
set_option maxHeartbeats 1000000 in
theorem c_absI {X : Nat → Prop} {w : World} (hX : ∀ b, X b → b < w.heap.size) {v0 : Value} {a : GInt} (r0 : RV intTy X w v0 a) (hl : a.mag.length ≤ 1099511627776) : Calls Tryz.prog 482 #[v0] w (Ret w fun v w' => RV intTy X w' v (ofZ (a.toZ.natAbs : Int))) := by
 obtain ⟨a1, c2, rfl, h3⟩ := RV.int r0
 have C := Cx.start hX
 have sa := r0.int_small
 refine Calls.ofW (args := [(.agg #[(.bool a.neg), (.slice a1 a.mag.length c2)])]) Tryz.func482 rfl rfl (Nat.le_of_ble_eq_true rfl) (Rg (O rfl (St.boxC C rfl ?_)))
 intro g4 w5 x6 y7 lt8 C9 s10 o11
 refine O rfl (St.allocC C9 io26 rfl ?_)
 intro g12 w13 x14 y15 lt16 C17 s18 o19
 replace h3 := (h3.sp s10).sp s18
 replace o11 := o11.spn s18
 refine Nl (Rg (O rfl (St.fieldAddr fo26_1 rfl (O rfl (St.loadO1 o11 pl24 rfl rfl (O rfl (St.callR C17 cb52 rfl rfl (c_trimmed C17.bd h3 (by omega)) ?_)))))))
 intro v21 w22 C23 s24 h25
 replace o19 := o19.spn s24
 obtain ⟨a26, c27, rfl, _, _⟩ := h25.len
 refine O rfl (St.callR C23 cb63 rfl rfl (c_cloneU C23.bd h25 (Nat.le_trans (trim_length_le _) (by omega))) ?_)
 intro v28 w29 C30 s31 h32
 obtain ⟨a33, c34, rfl, _, _⟩ := h32.len
 refine O rfl (St.callR C30 cb50 rfl rfl (c_signed C30.bd h32 (Nat.le_trans (trim_length_le _) (by omega))) ?_)
 intro v35 w36 C37 s38 h39
 replace o19 := (o19.spn s31).spn s38
 obtain ⟨a40, c41, rfl, h42⟩ := RV.int h39
 refine On (St.storeC (cs' := [(.bool (mkSg false (trim a.mag)).neg), (.slice a40 (mkSg false (trim a.mag)).mag.length c41)]) C37 o19 io26 rfl rfl rfl rfl rfl rfl ?_)
 intro w43 C44 s45 o46
 replace h42 := h42.sp s45
 refine Nl (W.ret (ret_1 rfl (resV.c o46 rfl ag26 rfl) (Ret.intro ?_ C44.below)))
 exact RV.eqv (a := (mkSg false (trim a.mag))) ((mkInt h42).tr (Tr.weak C44.base)) (mkSg_val (b := false) (z := (a.toZ.natAbs : Int)) (small_trim sa) (by rw [val_trim, toZ_natAbs]; rfl))
set_option maxHeartbeats 1000000 in
theorem c_addI {X : Nat → Prop} {w : World} (hX : ∀ b, X b → b < w.heap.size) {v0 : Value} {a : GInt} (r0 : RV intTy X w v0 a) {n : Bool} {v2 : Value} {b : List Nat} (r2 : RS u32Ty X w v2 b) (hla : a.mag.length ≤ 549755813888) (hb : trim b = b) (hlb : b.length ≤ 549755813888) : Calls Tryz.prog 191 #[v0, (.bool n), v2] w (Ret w fun v w' => RV intTy X w' v (ofZ (a.toZ + zsign n (val b)))) := by
 obtain ⟨a1, c2, rfl, h3⟩ := RV.int r0
 obtain ⟨a4, c5, rfl, _, _⟩ := r2.len
 have C := Cx.start hX
 have sa := r0.int_small
 have sb := r2.u32_small
 have tt := trim_trim sa
 have tl := trim_length_le a.mag
 have tv := val_trim a.mag
 have tb : ¬ cmpN (val (trim a.mag)) (val b) ≥ 0 → val a.mag ≤ val b := fun h => by rw [← tv]; exact Nat.le_of_lt (cmpN_lt (by omega))
 have tg : cmpN (val (trim a.mag)) (val b) ≥ 0 → val b ≤ val (trim a.mag) := fun h => cmpN_ge (by omega)
 have tll : val a.mag ≤ val b → (trim a.mag).length ≤ b.length := fun h => length_le_of tt sb (by omega)
 have tgl : val b ≤ val (trim a.mag) → b.length ≤ (trim a.mag).length := fun h => length_le_of hb (small_trim sa) h
 refine Calls.ofW (args := [(.agg #[(.bool a.neg), (.slice a1 a.mag.length c2)]), (.bool n), (.slice a4 b.length c5)]) Tryz.func191 rfl rfl (Nat.le_of_ble_eq_true rfl) (Rg (O rfl (St.boxC C rfl ?_)))
 intro g6 w7 x8 y9 lt10 C11 s12 o13
 replace r2 := r2.sp s12
 refine O rfl (St.allocC C11 io26 rfl ?_)
 intro g14 w15 x16 y17 lt18 C19 s20 o21
 replace h3 := (h3.sp s12).sp s20
 replace o13 := o13.spn s20
 refine Nl (Rg (O rfl (St.fieldAddr fo26_1 rfl (O rfl (St.loadO1 o13 pl24 rfl rfl (O rfl (St.callR C19 cb52 rfl rfl (c_trimmed C19.bd h3 (by omega)) ?_)))))))
 intro v23 w24 C25 s26 h27
 replace r2 := (r2.sp s20).sp s26
 replace o13 := o13.spn s26
 replace o21 := o21.spn s26
 obtain ⟨a28, c29, rfl, _, _⟩ := h27.len
 refine Oa (Nl (Rh (O rfl (St.fieldAddr fo26_0 rfl (O rfl (St.loadO1 o13 pl4 rfl rfl (Om (O rfl (St.bool (St.eqlB un4 rfl rfl rfl ⟨_, rfl, fun hb30 => ?_, fun hb30 => ?_⟩))))))))))
 · refine Nl (W.condT rfl (Rg (Om (Om (Om (O rfl (St.callR C25 cb54 rfl rfl (c_plus C25.bd h27 r2 (by omega) (by omega)) ?_)))))))
   intro v31 w32 C33 s34 h35
   obtain ⟨a36, c37, rfl, _, _⟩ := h35.len
   refine O rfl (St.callR C33 cb50 rfl rfl (c_signed C33.bd h35 (by rw [digsN_length]; omega)) ?_)
   intro v38 w39 C40 s41 h42
   replace o21 := (o21.spn s34).spn s41
   obtain ⟨a43, c44, rfl, h45⟩ := RV.int h42
   refine On (St.storeC (cs' := [(.bool (mkSg n (digsN (max (trim a.mag).length b.length + 1) (val (trim a.mag) + val b))).neg), (.slice a43 (mkSg n (digsN (max (trim a.mag).length b.length + 1) (val (trim a.mag) + val b))).mag.length c44)]) C40 o21 io26 rfl rfl rfl rfl rfl rfl ?_)
   intro w46 C47 s48 o49
   replace h45 := h45.sp s48
   refine Nl (W.ret (ret_1 rfl (resV.c o49 rfl ag26 rfl) (Ret.intro ?_ C47.below)))
   exact RV.eqv (a := (mkSg n (digsN (max (trim a.mag).length b.length + 1) (val (trim a.mag) + val b)))) ((mkInt h45).tr (Tr.weak C47.base)) (mkSg_val (digsN_small _ _) (by rw [val_digsN _ _ (plus_bd (small_trim sa) sb), tv]; exact add_same (by simpa using hb30)))
 refine Nl (W.condF rfl (W.skip (Rh (Om (Om (O rfl (St.callR C25 cb91 rfl rfl (c_compare C25.bd h27 r2 tt hb (by omega) (by omega)) ?_)))))))
 intro v50 w51 C52 s53 h54
 replace r2 := r2.sp s53
 replace h27 := h27.sp s53
 replace o21 := o21.spn s53
 subst h54
 refine O rfl (St.geq2 rfl rfl (fun hc55 => ?_) (fun hc55 => ?_))
 · refine Nl (W.condT rfl (W.seq (W.drawC mixed 5 [[], [0], [], [], [2, 3]] C52 [fx (.pointer (some ⟨g6, 0, none⟩)), fx (.bool a.neg), fx (.slice a28 (trim a.mag).length c29), fx (.slice a4 b.length c5), fs u32Ty (digsN (trim a.mag).length (val (trim a.mag) - val b))] (by kernel_rfl) ⟨sx, sx, sx, sx, ss, trivial⟩ fun f64 s65 w66 ⟨C69, S70⟩ k68 => ?_)))
   replace r2 := r2.sp S70
   replace h27 := h27.sp S70
   replace o13 := (o13.spn s53).spn S70
   have k68 : Keep [24, 25, 26, 27, 28] _ f64 := k68
   refine ⟨⟨fun _ => ?_, fun ⟨e73, _⟩ => ?_, fun _ => ?_, fun _ => ?_, fun ⟨e74, e75, _⟩ => ?_, trivial⟩, fun ⟨e76, e77, e78, e79, d80, _⟩ => ?_⟩
   · exact stepD k68 aN fun _ => OpSt.op (St.fieldAddr fo26_0 rfl ⟨s65, RC.same C69, rfl⟩)
   · exact stepD k68 (aC e73 aN) fun _ => OpSt.op (St.loadO1 o13 pl4 rfl rfl ⟨s65, RC.same C69, rfl⟩)
   · exact stepD k68 aN fun _ => OpSt.op (St.move ⟨s65, RC.same C69, rfl⟩)
   · exact stepD k68 aN fun _ => OpSt.op (St.move ⟨s65, RC.same C69, rfl⟩)
   · refine stepD k68 (aC e74 (aC e75 aN)) fun _ => OpSt.op (St.callR C69 cb55 rfl rfl (c_less C69.bd h27 r2 (by omega) (tgl (tg (by omega))) (tg (by omega))) ?_)
     intro v82 w83 C84 s85 h86
     exact ⟨s65, ⟨C84, s85⟩, h86⟩
   obtain ⟨a88, c89, e87, d80⟩ := RS.opn d80
   obtain ⟨f90, rfl⟩ := mixK k68 (aC e76 (aC e77 (aC e78 (aC e79 (aC e87 aN)))))
   refine O rfl (St.callR C69 cb50 rfl rfl (c_signed C69.bd d80 (by rw [digsN_length]; omega)) ?_)
   intro v91 w92 C93 s94 h95
   replace o21 := (o21.spn S70).spn s94
   obtain ⟨a96, c97, rfl, h98⟩ := RV.int h95
   refine On (St.storeC (cs' := [(.bool (mkSg a.neg (digsN (trim a.mag).length (val (trim a.mag) - val b))).neg), (.slice a96 (mkSg a.neg (digsN (trim a.mag).length (val (trim a.mag) - val b))).mag.length c97)]) C93 o21 io26 rfl rfl rfl rfl rfl rfl ?_)
   intro w99 C100 s101 o102
   replace h98 := h98.sp s101
   refine Nl (W.ret (ret_1 rfl (resV.c o102 rfl ag26 rfl) (Ret.intro ?_ C100.below)))
   exact RV.eqv (a := (mkSg a.neg (digsN (trim a.mag).length (val (trim a.mag) - val b)))) ((mkInt h98).tr (Tr.weak C100.base)) (mkSg_val (digsN_small _ _) (by rw [val_digsN _ _ (Nat.lt_of_le_of_lt (Nat.sub_le _ _) (val_lt _ (small_trim sa))), tv]; exact add_ge (by simpa using hb30) (by rw [← tv]; exact tg (by omega))))
 refine Nl (W.condF rfl (W.skip (Rg (Om (Om (Om (O rfl (St.callR C52 cb55 rfl rfl (c_less C52.bd r2 h27 (by omega) (tll (tb (by omega))) (by rw [tv]; exact tb (by omega))) ?_))))))))
 intro v103 w104 C105 s106 h107
 obtain ⟨a108, c109, rfl, _, _⟩ := h107.len
 refine O rfl (St.callR C105 cb50 rfl rfl (c_signed C105.bd h107 (by rw [digsN_length]; omega)) ?_)
 intro v110 w111 C112 s113 h114
 replace o21 := (o21.spn s106).spn s113
 obtain ⟨a115, c116, rfl, h117⟩ := RV.int h114
 refine On (St.storeC (cs' := [(.bool (mkSg n (digsN b.length (val b - val (trim a.mag)))).neg), (.slice a115 (mkSg n (digsN b.length (val b - val (trim a.mag)))).mag.length c116)]) C112 o21 io26 rfl rfl rfl rfl rfl rfl ?_)
 intro w118 C119 s120 o121
 replace h117 := h117.sp s120
 refine Nl (W.ret (ret_1 rfl (resV.c o121 rfl ag26 rfl) (Ret.intro ?_ C119.below)))
 exact RV.eqv (a := (mkSg n (digsN b.length (val b - val (trim a.mag))))) ((mkInt h117).tr (Tr.weak C119.base)) (mkSg_val (digsN_small _ _) (by rw [val_digsN _ _ (Nat.lt_of_le_of_lt (Nat.sub_le _ _) (val_lt _ sb)), tv]; exact add_lt (by simpa using hb30) (tb (by omega))))
end Go.Wf
namespace Go.Wf
open Go Go.Proofs Go.RowKit
set_option maxRecDepth 100000
set_option linter.unusedVariables false
set_option linter.unusedSimpArgs false
theorem mkSg_digs {b : Bool} {m : List Nat} {v : Nat} {z : Int} (h : trim m = digs v) (e : zsign b v = z) : mkSg b m = ofZ z := by
  subst e
  unfold mkSg ofZ
  rw [h, natAbs_zsign, zsign_lt, digs_len_pos]
theorem gcd_len {a b : List Nat} (sa : small a) (sb : small b) : (digs (Nat.gcd (val a) (val b))).length ≤ a.length + b.length := by
  refine digs_length_le ?_
  have h1 := val_lt a sa
  have h2 := val_lt b sb
  have h3 : 4294967296 ^ a.length ≤ 4294967296 ^ (a.length + b.length) := Nat.pow_le_pow_right (by omega) (by omega)
  have h4 : 4294967296 ^ b.length ≤ 4294967296 ^ (a.length + b.length) := Nat.pow_le_pow_right (by omega) (by omega)
  rcases Nat.eq_zero_or_pos (val a) with e | e
  · rw [e, Nat.gcd_zero_left]; omega
  · have := Nat.gcd_le_left (val b) e; omega
theorem gcd_step (x y : Nat) : Nat.gcd y (x % y) = Nat.gcd x y := by rw [Nat.gcd_comm x y, Nat.gcd_rec y x, Nat.gcd_comm]
theorem digs_mod_len {a b : List Nat} (sb : small b) (h : 0 < val b) : (digs (val a % val b)).length ≤ b.length := digs_length_le (Nat.lt_trans (Nat.mod_lt _ h) (val_lt b sb))
theorem digs_div_len {a : List Nat} (sa : small a) (n : Nat) : (digs (val a / n)).length ≤ a.length := digs_length_le (Nat.lt_of_le_of_lt (Nat.div_le_self _ _) (val_lt a sa))
theorem small_1 : small [1] := small_cons (by decide) small_nil
theorem val_ne_pos {b : List Nat} (h : val b ≠ 0) : 0 < val b := by omega
set_option maxHeartbeats 1000000 in
theorem c_addZ {X : Nat → Prop} {w : World} (hX : ∀ b, X b → b < w.heap.size) {v0 : Value} {a : GInt} (r0 : RV intTy X w v0 a) {v1 : Value} {b : GInt} (r1 : RV intTy X w v1 b) (hla : a.mag.length ≤ 549755813888) (hlb : b.mag.length ≤ 549755813888) : Calls Tryz.prog 139 #[v0, v1] w (Ret w fun v w' => RV intTy X w' v (ofZ (a.toZ + b.toZ))) := by
 obtain ⟨a1, c2, rfl, h3⟩ := RV.int r0
 obtain ⟨a4, c5, rfl, h6⟩ := RV.int r1
 have C := Cx.start hX
 have sa := r0.int_small
 have sb := r1.int_small
 refine Calls.ofW (args := [(.agg #[(.bool a.neg), (.slice a1 a.mag.length c2)]), (.agg #[(.bool b.neg), (.slice a4 b.mag.length c5)])]) Tryz.func139 rfl rfl (Nat.le_of_ble_eq_true rfl) (Rg (O rfl (St.boxC C rfl ?_)))
 intro g7 w8 x9 y10 lt11 C12 s13 o14
 refine O rfl (St.boxC C12 rfl ?_)
 intro g15 w16 x17 y18 lt19 C20 s21 o22
 replace h3 := (h3.sp s13).sp s21
 replace h6 := (h6.sp s13).sp s21
 replace o14 := o14.spn s21
 refine O rfl (St.allocC C20 io26 rfl ?_)
 intro g24 w25 x26 y27 lt28 C29 s30 o31
 refine Nl (W.seq (W.drawC mixed 6 [[], [], [1], [], [3], [4]] C29 [fx (.agg #[(.bool a.neg), (.slice a1 a.mag.length c2)]), fx (.pointer (some ⟨g15, 0, none⟩)), fx (.bool b.neg), fx (.pointer (some ⟨g15, 1, none⟩)), fx (.slice a4 b.mag.length c5), fs u32Ty (trim b.mag)] (by kernel_rfl) ⟨sx, sx, sx, sx, sx, ss, trivial⟩ fun f42 s43 w44 ⟨C47, S48⟩ k46 => ?_))
 replace h3 := (h3.sp s30).sp S48
 replace h6 := (h6.sp s30).sp S48
 replace o14 := (o14.spn s30).spn S48
 replace o22 := (o22.spn s30).spn S48
 have k46 : Keep [5, 6, 7, 8, 9, 10] _ f42 := k46
 refine ⟨⟨fun _ => ?_, fun _ => ?_, fun ⟨e52, _⟩ => ?_, fun _ => ?_, fun ⟨e53, _⟩ => ?_, fun ⟨e54, _⟩ => ?_, trivial⟩, fun ⟨e55, e56, e57, e58, e59, d60, _⟩ => ?_⟩
 · exact stepD k46 aN fun _ => OpSt.op (St.loadOA (vs := [(.bool a.neg), (.slice a1 a.mag.length c2)]) o14 ag26 rfl rfl rfl ⟨s43, RC.same C47, rfl⟩)
 · exact stepD k46 aN fun _ => OpSt.op (St.fieldAddr fo26_0 rfl ⟨s43, RC.same C47, rfl⟩)
 · exact stepD k46 (aC e52 aN) fun _ => OpSt.op (St.loadO1 o22 pl4 rfl rfl ⟨s43, RC.same C47, rfl⟩)
 · exact stepD k46 aN fun _ => OpSt.op (St.fieldAddr fo26_1 rfl ⟨s43, RC.same C47, rfl⟩)
 · exact stepD k46 (aC e53 aN) fun _ => OpSt.op (St.loadO1 o22 pl24 rfl rfl ⟨s43, RC.same C47, rfl⟩)
 · refine stepD k46 (aC e54 aN) fun _ => OpSt.op (St.callR C47 cb52 rfl rfl (c_trimmed C47.bd h6 (by omega)) ?_)
   intro v62 w63 C64 s65 h66
   exact ⟨s43, ⟨C64, s65⟩, h66⟩
 obtain ⟨a68, c69, e67, d60⟩ := RS.opn d60
 obtain ⟨f70, rfl⟩ := mixK k46 (aC e55 (aC e56 (aC e57 (aC e58 (aC e59 (aC e67 aN))))))
 refine O rfl (St.callR C47 cb191 rfl rfl (c_addI C47.bd (a := a) (mkInt h3) d60 (by omega) (trim_trim sb) (Nat.le_trans (trim_length_le _) (by omega))) ?_)
 intro v71 w72 C73 s74 h75
 replace o31 := (o31.spn S48).spn s74
 obtain ⟨a76, c77, rfl, h78⟩ := RV.int h75
 refine On (St.storeC (cs' := [(.bool (ofZ (a.toZ + zsign b.neg (val (trim b.mag)))).neg), (.slice a76 (ofZ (a.toZ + zsign b.neg (val (trim b.mag)))).mag.length c77)]) C73 o31 io26 rfl rfl rfl rfl rfl rfl ?_)
 intro w79 C80 s81 o82
 replace h78 := h78.sp s81
 refine Nl (W.ret (ret_1 rfl (resV.c o82 rfl ag26 rfl) (Ret.intro ?_ C80.below)))
 exact RV.eqv (a := (ofZ (a.toZ + zsign b.neg (val (trim b.mag))))) ((mkInt h78).tr (Tr.weak C80.base)) ((by rw [val_trim]; rfl))
set_option maxHeartbeats 1000000 in
theorem c_subZ {X : Nat → Prop} {w : World} (hX : ∀ b, X b → b < w.heap.size) {v0 : Value} {a : GInt} (r0 : RV intTy X w v0 a) {v1 : Value} {b : GInt} (r1 : RV intTy X w v1 b) (hla : a.mag.length ≤ 549755813888) (hlb : b.mag.length ≤ 549755813888) : Calls Tryz.prog 230 #[v0, v1] w (Ret w fun v w' => RV intTy X w' v (ofZ (a.toZ - b.toZ))) := by
 obtain ⟨a1, c2, rfl, h3⟩ := RV.int r0
 obtain ⟨a4, c5, rfl, h6⟩ := RV.int r1
 have C := Cx.start hX
 have sa := r0.int_small
 have sb := r1.int_small
 refine Calls.ofW (args := [(.agg #[(.bool a.neg), (.slice a1 a.mag.length c2)]), (.agg #[(.bool b.neg), (.slice a4 b.mag.length c5)])]) Tryz.func230 rfl rfl (Nat.le_of_ble_eq_true rfl) (Rg (O rfl (St.boxC C rfl ?_)))
 intro g7 w8 x9 y10 lt11 C12 s13 o14
 refine O rfl (St.boxC C12 rfl ?_)
 intro g15 w16 x17 y18 lt19 C20 s21 o22
 replace h3 := (h3.sp s13).sp s21
 replace h6 := (h6.sp s13).sp s21
 replace o14 := o14.spn s21
 refine O rfl (St.allocC C20 io26 rfl ?_)
 intro g24 w25 x26 y27 lt28 C29 s30 o31
 refine Nl (W.seq (W.drawC mixed 7 [[], [], [1], [2], [], [4], [5]] C29 [fx (.agg #[(.bool a.neg), (.slice a1 a.mag.length c2)]), fx (.pointer (some ⟨g15, 0, none⟩)), fx (.bool b.neg), fx (.bool (!b.neg)), fx (.pointer (some ⟨g15, 1, none⟩)), fx (.slice a4 b.mag.length c5), fs u32Ty (trim b.mag)] (by kernel_rfl) ⟨sx, sx, sx, sx, sx, sx, ss, trivial⟩ fun f42 s43 w44 ⟨C47, S48⟩ k46 => ?_))
 replace h3 := (h3.sp s30).sp S48
 replace h6 := (h6.sp s30).sp S48
 replace o14 := (o14.spn s30).spn S48
 replace o22 := (o22.spn s30).spn S48
 have k46 : Keep [5, 6, 7, 8, 9, 10, 11] _ f42 := k46
 refine ⟨⟨fun _ => ?_, fun _ => ?_, fun ⟨e52, _⟩ => ?_, fun ⟨e53, _⟩ => ?_, fun _ => ?_, fun ⟨e54, _⟩ => ?_, fun ⟨e55, _⟩ => ?_, trivial⟩, fun ⟨e56, e57, e58, e59, e60, e61, d62, _⟩ => ?_⟩
 · exact stepD k46 aN fun _ => OpSt.op (St.loadOA (vs := [(.bool a.neg), (.slice a1 a.mag.length c2)]) o14 ag26 rfl rfl rfl ⟨s43, RC.same C47, rfl⟩)
 · exact stepD k46 aN fun _ => OpSt.op (St.fieldAddr fo26_0 rfl ⟨s43, RC.same C47, rfl⟩)
 · exact stepD k46 (aC e52 aN) fun _ => OpSt.op (St.loadO1 o22 pl4 rfl rfl ⟨s43, RC.same C47, rfl⟩)
 · exact stepD k46 (aC e53 aN) fun _ => OpSt.op (St.not rfl ⟨s43, RC.same C47, rfl⟩)
 · exact stepD k46 aN fun _ => OpSt.op (St.fieldAddr fo26_1 rfl ⟨s43, RC.same C47, rfl⟩)
 · exact stepD k46 (aC e54 aN) fun _ => OpSt.op (St.loadO1 o22 pl24 rfl rfl ⟨s43, RC.same C47, rfl⟩)
 · refine stepD k46 (aC e55 aN) fun _ => OpSt.op (St.callR C47 cb52 rfl rfl (c_trimmed C47.bd h6 (by omega)) ?_)
   intro v64 w65 C66 s67 h68
   exact ⟨s43, ⟨C66, s67⟩, h68⟩
 obtain ⟨a70, c71, e69, d62⟩ := RS.opn d62
 obtain ⟨f72, rfl⟩ := mixK k46 (aC e56 (aC e57 (aC e58 (aC e59 (aC e60 (aC e61 (aC e69 aN)))))))
 refine O rfl (St.callR C47 cb191 rfl rfl (c_addI C47.bd (a := a) (mkInt h3) d62 (by omega) (trim_trim sb) (Nat.le_trans (trim_length_le _) (by omega))) ?_)
 intro v73 w74 C75 s76 h77
 replace o31 := (o31.spn S48).spn s76
 obtain ⟨a78, c79, rfl, h80⟩ := RV.int h77
 refine On (St.storeC (cs' := [(.bool (ofZ (a.toZ + zsign (!b.neg) (val (trim b.mag)))).neg), (.slice a78 (ofZ (a.toZ + zsign (!b.neg) (val (trim b.mag)))).mag.length c79)]) C75 o31 io26 rfl rfl rfl rfl rfl rfl ?_)
 intro w81 C82 s83 o84
 replace h80 := h80.sp s83
 refine Nl (W.ret (ret_1 rfl (resV.c o84 rfl ag26 rfl) (Ret.intro ?_ C82.below)))
 exact RV.eqv (a := (ofZ (a.toZ + zsign (!b.neg) (val (trim b.mag))))) ((mkInt h80).tr (Tr.weak C82.base)) ((by rw [val_trim, zsign_not, Int.sub_eq_add_neg]; rfl))
set_option maxHeartbeats 1000000 in
theorem c_mulZ {X : Nat → Prop} {w : World} (hX : ∀ b, X b → b < w.heap.size) {v0 : Value} {a : GInt} (r0 : RV intTy X w v0 a) {v1 : Value} {b : GInt} (r1 : RV intTy X w v1 b) (hla : a.mag.length ≤ 549755813888) (hlb : b.mag.length ≤ 549755813888) : Calls Tryz.prog 49 #[v0, v1] w (Ret w fun v w' => RV intTy X w' v (ofZ (a.toZ * b.toZ))) := by
 obtain ⟨a1, c2, rfl, h3⟩ := RV.int r0
 obtain ⟨a4, c5, rfl, h6⟩ := RV.int r1
 have C := Cx.start hX
 have sa := r0.int_small
 have sb := r1.int_small
 have tla := trim_length_le a.mag
 have tlb := trim_length_le b.mag
 have tdl := timesD_length (small_trim sa) (small_trim sb)
 refine Calls.ofW (args := [(.agg #[(.bool a.neg), (.slice a1 a.mag.length c2)]), (.agg #[(.bool b.neg), (.slice a4 b.mag.length c5)])]) Tryz.func49 rfl rfl (Nat.le_of_ble_eq_true rfl) (Rg (O rfl (St.boxC C rfl ?_)))
 intro g7 w8 x9 y10 lt11 C12 s13 o14
 refine O rfl (St.boxC C12 rfl ?_)
 intro g15 w16 x17 y18 lt19 C20 s21 o22
 replace h3 := (h3.sp s13).sp s21
 replace h6 := (h6.sp s13).sp s21
 replace o14 := o14.spn s21
 refine O rfl (St.allocC C20 io26 rfl ?_)
 intro g24 w25 x26 y27 lt28 C29 s30 o31
 refine Nl (W.seq (W.drawC mixed 12 [[], [0], [], [2], [1, 3], [], [5], [6], [], [8], [9], [7, 10]] C29 [fx (.pointer (some ⟨g7, 0, none⟩)), fx (.bool a.neg), fx (.pointer (some ⟨g15, 0, none⟩)), fx (.bool b.neg), fx (.bool (a.neg != b.neg)), fx (.pointer (some ⟨g7, 1, none⟩)), fx (.slice a1 a.mag.length c2), fs u32Ty (trim a.mag), fx (.pointer (some ⟨g15, 1, none⟩)), fx (.slice a4 b.mag.length c5), fs u32Ty (trim b.mag), fs u32Ty (timesD (trim a.mag) (trim b.mag))] (by kernel_rfl) ⟨sx, sx, sx, sx, sx, sx, sx, ss, sx, sx, ss, ss, trivial⟩ fun f56 s57 w58 ⟨C61, S62⟩ k60 => ?_))
 replace h3 := (h3.sp s30).sp S62
 replace h6 := (h6.sp s30).sp S62
 replace o14 := (o14.spn s30).spn S62
 replace o22 := (o22.spn s30).spn S62
 have k60 : Keep [5, 6, 7, 8, 9, 10, 11, 12, 13, 14, 15, 16] _ f56 := k60
 refine ⟨⟨fun _ => ?_, fun ⟨e66, _⟩ => ?_, fun _ => ?_, fun ⟨e67, _⟩ => ?_, fun ⟨e68, e69, _⟩ => ?_, fun _ => ?_, fun ⟨e70, _⟩ => ?_, fun ⟨e71, _⟩ => ?_, fun _ => ?_, fun ⟨e72, _⟩ => ?_, fun ⟨e73, _⟩ => ?_, fun ⟨d74, d75, _⟩ => ?_, trivial⟩, fun ⟨e76, e77, e78, e79, e80, e81, e82, d83, e84, e85, d86, d87, _⟩ => ?_⟩
 · exact stepD k60 aN fun _ => OpSt.op (St.fieldAddr fo26_0 rfl ⟨s57, RC.same C61, rfl⟩)
 · exact stepD k60 (aC e66 aN) fun _ => OpSt.op (St.loadO1 o14 pl4 rfl rfl ⟨s57, RC.same C61, rfl⟩)
 · exact stepD k60 aN fun _ => OpSt.op (St.fieldAddr fo26_0 rfl ⟨s57, RC.same C61, rfl⟩)
 · exact stepD k60 (aC e67 aN) fun _ => OpSt.op (St.loadO1 o22 pl4 rfl rfl ⟨s57, RC.same C61, rfl⟩)
 · exact stepD k60 (aC e68 (aC e69 aN)) fun _ => OpSt.op (St.neqB un4 rfl rfl rfl ⟨s57, RC.same C61, rfl⟩)
 · exact stepD k60 aN fun _ => OpSt.op (St.fieldAddr fo26_1 rfl ⟨s57, RC.same C61, rfl⟩)
 · exact stepD k60 (aC e70 aN) fun _ => OpSt.op (St.loadO1 o14 pl24 rfl rfl ⟨s57, RC.same C61, rfl⟩)
 · refine stepD k60 (aC e71 aN) fun _ => OpSt.op (St.callR C61 cb52 rfl rfl (c_trimmed C61.bd h3 (by omega)) ?_)
   intro v89 w90 C91 s92 h93
   exact ⟨s57, ⟨C91, s92⟩, h93⟩
 · exact stepD k60 aN fun _ => OpSt.op (St.fieldAddr fo26_1 rfl ⟨s57, RC.same C61, rfl⟩)
 · exact stepD k60 (aC e72 aN) fun _ => OpSt.op (St.loadO1 o22 pl24 rfl rfl ⟨s57, RC.same C61, rfl⟩)
 · refine stepD k60 (aC e73 aN) fun _ => OpSt.op (St.callR C61 cb52 rfl rfl (c_trimmed C61.bd h6 (by omega)) ?_)
   intro v94 w95 C96 s97 h98
   exact ⟨s57, ⟨C96, s97⟩, h98⟩
 · obtain ⟨a100, c101, e99, d74⟩ := RS.opn d74
   obtain ⟨a103, c104, e102, d75⟩ := RS.opn d75
   refine stepD k60 (aC e99 (aC e102 aN)) fun _ => OpSt.op (St.callR C61 cb90 rfl rfl (c_times C61.bd d74 d75 (by omega) (by omega)) ?_)
   intro v105 w106 C107 s108 h109
   exact ⟨s57, ⟨C107, s108⟩, h109⟩
 obtain ⟨a111, c112, e110, d83⟩ := RS.opn d83
 obtain ⟨a114, c115, e113, d86⟩ := RS.opn d86
 obtain ⟨a117, c118, e116, d87⟩ := RS.opn d87
 obtain ⟨f119, rfl⟩ := mixK k60 (aC e76 (aC e77 (aC e78 (aC e79 (aC e80 (aC e81 (aC e82 (aC e110 (aC e84 (aC e85 (aC e113 (aC e116 aN))))))))))))
 refine O rfl (St.callR C61 cb50 rfl rfl (c_signed C61.bd d87 (by omega)) ?_)
 intro v120 w121 C122 s123 h124
 replace o31 := (o31.spn S62).spn s123
 obtain ⟨a125, c126, rfl, h127⟩ := RV.int h124
 refine On (St.storeC (cs' := [(.bool (mkSg (a.neg != b.neg) (timesD (trim a.mag) (trim b.mag))).neg), (.slice a125 (mkSg (a.neg != b.neg) (timesD (trim a.mag) (trim b.mag))).mag.length c126)]) C122 o31 io26 rfl rfl rfl rfl rfl rfl ?_)
 intro w128 C129 s130 o131
 replace h127 := h127.sp s130
 refine Nl (W.ret (ret_1 rfl (resV.c o131 rfl ag26 rfl) (Ret.intro ?_ C129.below)))
 exact RV.eqv (a := (mkSg (a.neg != b.neg) (timesD (trim a.mag) (trim b.mag)))) ((mkInt h127).tr (Tr.weak C129.base)) (mkSg_digs (trim_timesD (small_trim sa) (small_trim sb)) (by rw [val_trim, val_trim]; exact mul_zsign a b))
set_option maxHeartbeats 1000000 in
theorem c_divmodZ {X : Nat → Prop} {w : World} (hX : ∀ b, X b → b < w.heap.size) {v0 : Value} {a : GInt} (r0 : RV intTy X w v0 a) {v1 : Value} {b : GInt} (r1 : RV intTy X w v1 b) (hla : a.mag.length ≤ 274877906944) (hlb : b.mag.length ≤ 274877906944) (hb0 : val b.mag ≠ 0) : Calls Tryz.prog 26 #[v0, v1] w (Ret w fun v w' => (∃ v0 v1 v2, v = .tuple #[v0, v1, v2] ∧ (RV intTy X w' v0 (ofZ (a.toZ / b.toZ))) ∧ (RV intTy X w' v1 (ofZ (a.toZ % b.toZ))) ∧ (v2 = (.int .i64 0)))) := by
 obtain ⟨a1, c2, rfl, h3⟩ := RV.int r0
 obtain ⟨a4, c5, rfl, h6⟩ := RV.int r1
 have C := Cx.start hX
 have sa := r0.int_small
 have sb := r1.int_small
 have tla := trim_length_le a.mag
 have tlb := trim_length_le b.mag
 have tb : (trim b.mag).length ≠ 0 := fun h => hb0 ((trim_len_zero sb).1 h)
 have tva := val_trim a.mag
 have tvb := val_trim b.mag
 have hbp : 0 < val (trim b.mag) := by omega
 have hdl := digs_div_len (small_trim sa) (val (trim b.mag))
 have hml := digs_mod_len (a := trim a.mag) (small_trim sb) hbp
 have hmz : ¬ (digs (val (trim a.mag) % val (trim b.mag))).length > 0 ↔ val a.mag % val b.mag = 0 := by rw [tva, tvb]; have := digs_len_pos (val a.mag % val b.mag); simp only [decide_eq_decide] at this; omega
 refine Calls.ofW (args := [(.agg #[(.bool a.neg), (.slice a1 a.mag.length c2)]), (.agg #[(.bool b.neg), (.slice a4 b.mag.length c5)])]) Tryz.func26 rfl rfl (Nat.le_of_ble_eq_true rfl) (Rg (O rfl (St.boxC C rfl ?_)))
 intro g7 w8 x9 y10 lt11 C12 s13 o14
 replace h3 := h3.sp s13
 refine O rfl (St.boxC C12 rfl ?_)
 intro g15 w16 x17 y18 lt19 C20 s21 o22
 replace h6 := (h6.sp s13).sp s21
 refine O rfl (St.allocC C20 io26 rfl ?_)
 intro g24 w25 x26 y27 lt28 C29 s30 o31
 replace h3 := (h3.sp s21).sp s30
 replace o14 := (o14.spn s21).spn s30
 refine O rfl (St.allocC C29 io26 rfl ?_)
 intro g34 w35 x36 y37 lt38 C39 s40 o41
 have n44 := lt38 _ o31.blk.lt
 replace h6 := (h6.sp s30).sp s40
 replace o22 := (o22.spn s30).spn s40
 refine Oa (Nl (Rg (O rfl (St.fieldAddr fo26_1 rfl (O rfl (St.loadO1 o22 pl24 rfl rfl (O rfl (St.callR C39 cb52 rfl rfl (c_trimmed C39.bd h6 (by omega)) ?_))))))))
 intro v45 w46 C47 s48 h49
 replace h3 := (h3.sp s40).sp s48
 replace o14 := (o14.spn s40).spn s48
 replace o22 := o22.spn s48
 replace o31 := (o31.spn s40).spn s48
 replace o41 := o41.spn s48
 obtain ⟨a50, c51, rfl, _, _⟩ := h49.len
 refine Oa (Nl (Rh (Om (O rfl (St.len sl24 rfl (O rfl (St.eql (t := false) rfl rfl (decide_eq_false (by omega)) (Nl (W.condF rfl (W.skip (Rg (O rfl (St.fieldAddr fo26_1 rfl (O rfl (St.loadO1 o14 pl24 rfl rfl (O rfl (St.callR C47 cb52 rfl rfl (c_trimmed C47.bd h3 (by omega)) ?_)))))))))))))))))
 intro v52 w53 C54 s55 h56
 replace h49 := h49.sp s55
 obtain ⟨a57, c58, rfl, _, _⟩ := h56.len
 refine Om (O rfl (St.callR C54 cb53 rfl rfl (c_divide C54.bd h56 h49 (trim_trim sa) (trim_trim sb) (by intro e; rw [e] at tb; exact tb rfl) (by omega) (by omega)) ?_))
 intro v59 w60 C61 s62 h63
 replace h49 := h49.sp s62
 replace o14 := (o14.spn s55).spn s62
 replace o22 := (o22.spn s55).spn s62
 replace o31 := (o31.spn s55).spn s62
 replace o41 := (o41.spn s55).spn s62
 obtain ⟨v64, v65, rfl, h66, h67⟩ := h63
 obtain ⟨a68, c69, rfl, _, _⟩ := h66.len
 obtain ⟨a70, c71, rfl, _, _⟩ := h67.len
 refine Om (O rfl (St.extract rfl rfl (O rfl (St.extract rfl rfl (Oa (Oa (Nl (Rh (O rfl (St.fieldAddr fo26_0 rfl (O rfl (St.bool (St.loadO1 o14 pl4 rfl rfl ⟨_, rfl, fun hb72 => ?_, fun hb72 => ?_⟩)))))))))))))
 · refine Om (Og rfl rfl (St.move (Og rfl rfl (St.len sl24 rfl (Og rfl rfl (St.gtr2 rfl rfl (fun hc73 => ?_) (fun hc73 => ?_)))))))
   · refine OT (Nl (W.condT rfl (W.region (Om (O rfl (St.bsPub (T := u32Ty) (css := [[(.int .u32 1)]]) (l := [1]) C61 sl24 io61 (by decide) (by decide) rfl (by kernel_rfl) ⟨⟨rfl, (by omega)⟩, trivial⟩ ?_))))))
     intro g78 w74 C75 s76 h77
     replace h66 := h66.sp s76
     replace o14 := o14.spn s76
     replace o22 := o22.spn s76
     replace o31 := o31.spn s76
     refine O rfl (St.callR C75 cb54 rfl rfl (c_plus C75.bd h66 h77 (by omega) (by simp)) ?_)
     intro v81 w82 C83 s84 h85
     replace h49 := (h49.sp s76).sp s84
     replace h67 := (h67.sp s76).sp s84
     replace o41 := (o41.spn s76).spn s84
     obtain ⟨a86, c87, rfl, _, _⟩ := h85.len
     refine Om (Om (O rfl (St.callR C83 cb55 rfl rfl (c_less C83.bd h49 h67 (by omega) (by omega) (by rw [val_digs]; exact Nat.le_of_lt (Nat.mod_lt _ hbp))) ?_)))
     intro v88 w89 C90 s91 h92
     replace h85 := h85.sp s91
     replace o14 := (o14.spn s84).spn s91
     replace o22 := (o22.spn s84).spn s91
     replace o31 := (o31.spn s84).spn s91
     obtain ⟨a93, c94, rfl, _, _⟩ := h92.len
     refine Oa (Oa (Nl (Rg (O rfl (St.fieldAddr fo26_0 rfl (O rfl (St.loadO1 o14 pl4 rfl rfl (O rfl (St.fieldAddr fo26_0 rfl (O rfl (St.loadO1 o22 pl4 rfl rfl (O rfl (St.neqB un4 rfl rfl rfl (Om (O rfl (St.callR C90 cb50 rfl rfl (c_signed C90.bd h85 (by first | omega | (rw [digsN_length]; simp; omega))) ?_))))))))))))))))
     intro v95 w96 C97 s98 h99
     replace h92 := h92.sp s98
     replace o41 := (o41.spn s91).spn s98
     obtain ⟨a100, c101, rfl, h102⟩ := RV.int h99
     refine Om (O rfl (St.callR C97 cb50 rfl rfl (c_signed C97.bd h92 (by first | omega | (rw [digsN_length]; omega))) ?_))
     intro v103 w104 C105 s106 h107
     replace h102 := h102.sp s106
     replace o31 := (o31.spn s98).spn s106
     obtain ⟨a108, c109, rfl, h110⟩ := RV.int h107
     refine On (St.storeC (cs' := [(.bool (mkSg (a.neg != b.neg) (digsN (max (digs (val (trim a.mag) / val (trim b.mag))).length [1].length + 1) (val (digs (val (trim a.mag) / val (trim b.mag))) + val [1]))).neg), (.slice a100 (mkSg (a.neg != b.neg) (digsN (max (digs (val (trim a.mag) / val (trim b.mag))).length [1].length + 1) (val (digs (val (trim a.mag) / val (trim b.mag))) + val [1]))).mag.length c101)]) C105 o31 io26 rfl rfl rfl rfl rfl rfl ?_)
     intro w111 C112 s113 o114
     replace o41 := (o41.spn s106).spo s113 (Ne.symm n44)
     refine On (St.storeC (cs' := [(.bool (mkSg false (digsN (trim b.mag).length (val (trim b.mag) - val (digs (val (trim a.mag) % val (trim b.mag)))))).neg), (.slice a108 (mkSg false (digsN (trim b.mag).length (val (trim b.mag) - val (digs (val (trim a.mag) % val (trim b.mag)))))).mag.length c109)]) C112 o41 io26 rfl rfl rfl rfl rfl rfl ?_)
     intro w115 C116 s117 o118
     replace h102 := (h102.sp s113).sp s117
     replace h110 := (h110.sp s113).sp s117
     replace o114 := o114.spo s117 n44
     refine Oa (Nl (W.ret (ret_3 rfl (resV.c o114 rfl ag26 rfl) (resV.c o118 rfl ag26 rfl) (resV.t rfl) (Ret.intro ?_ C116.below))))
     refine ⟨_, _, _, rfl, ?_, ?_, ?_⟩
     · skip
       exact RV.eqv (a := (mkSg (a.neg != b.neg) (digsN (max (digs (val (trim a.mag) / val (trim b.mag))).length [1].length + 1) (val (digs (val (trim a.mag) / val (trim b.mag))) + val [1])))) ((mkInt h102).tr (Tr.weak C116.base)) (by exact mkSg_val (digsN_small _ _) (by rw [val_digsN _ _ (plus_bd (small_digs _) small_1), val_digs, tva, tvb, show val [1] = 1 from rfl]; exact (zdiv_neg hb0 hb72 (fun h => by have := hmz.2 h; omega)).1))
     · skip
       exact RV.eqv (a := (mkSg false (digsN (trim b.mag).length (val (trim b.mag) - val (digs (val (trim a.mag) % val (trim b.mag))))))) ((mkInt h110).tr (Tr.weak C116.base)) (by exact mkSg_val (digsN_small _ _) (by rw [val_digsN _ _ (Nat.lt_of_le_of_lt (Nat.sub_le _ _) (val_lt _ (small_trim sb))), val_digs, tva, tvb, zsign_false]; exact (zdiv_neg hb0 hb72 (fun h => by have := hmz.2 h; omega)).2))
     · skip
       rfl
   refine OT (Nl (W.condF rfl (W.skip (Rg (O rfl (St.fieldAddr fo26_0 rfl (O rfl (St.loadO1 o14 pl4 rfl rfl (O rfl (St.fieldAddr fo26_0 rfl (O rfl (St.loadO1 o22 pl4 rfl rfl (O rfl (St.neqB un4 rfl rfl rfl (Om (O rfl (St.callR C61 cb50 rfl rfl (c_signed C61.bd h66 (by first | omega | (rw [digsN_length]; simp; omega))) ?_)))))))))))))))))
   intro v119 w120 C121 s122 h123
   replace h67 := h67.sp s122
   replace o41 := o41.spn s122
   obtain ⟨a124, c125, rfl, h126⟩ := RV.int h123
   refine Om (O rfl (St.callR C121 cb50 rfl rfl (c_signed C121.bd h67 (by first | omega | (rw [digsN_length]; omega))) ?_))
   intro v127 w128 C129 s130 h131
   replace h126 := h126.sp s130
   replace o31 := (o31.spn s122).spn s130
   obtain ⟨a132, c133, rfl, h134⟩ := RV.int h131
   refine On (St.storeC (cs' := [(.bool (mkSg (a.neg != b.neg) (digs (val (trim a.mag) / val (trim b.mag)))).neg), (.slice a124 (mkSg (a.neg != b.neg) (digs (val (trim a.mag) / val (trim b.mag)))).mag.length c125)]) C129 o31 io26 rfl rfl rfl rfl rfl rfl ?_)
   intro w135 C136 s137 o138
   replace o41 := (o41.spn s130).spo s137 (Ne.symm n44)
   refine On (St.storeC (cs' := [(.bool (mkSg false (digs (val (trim a.mag) % val (trim b.mag)))).neg), (.slice a132 (mkSg false (digs (val (trim a.mag) % val (trim b.mag)))).mag.length c133)]) C136 o41 io26 rfl rfl rfl rfl rfl rfl ?_)
   intro w139 C140 s141 o142
   replace h126 := (h126.sp s137).sp s141
   replace h134 := (h134.sp s137).sp s141
   replace o138 := o138.spo s141 n44
   refine Oa (Nl (W.ret (ret_3 rfl (resV.c o138 rfl ag26 rfl) (resV.c o142 rfl ag26 rfl) (resV.t rfl) (Ret.intro ?_ C140.below))))
   refine ⟨_, _, _, rfl, ?_, ?_, ?_⟩
   · skip
     exact RV.eqv (a := (mkSg (a.neg != b.neg) (digs (val (trim a.mag) / val (trim b.mag))))) ((mkInt h126).tr (Tr.weak C140.base)) (by exact mkSg_val (small_digs _) (by rw [val_digs, tva, tvb]; exact (zdiv_pos hb0 (.inr (hmz.1 (by omega)))).1))
   · skip
     exact RV.eqv (a := (mkSg false (digs (val (trim a.mag) % val (trim b.mag))))) ((mkInt h134).tr (Tr.weak C140.base)) (by exact mkSg_val (small_digs _) (by rw [val_digs, tva, tvb, zsign_false]; exact (zdiv_pos hb0 (.inr (hmz.1 (by omega)))).2))
   · skip
     rfl
 refine Om (Ox rfl rfl rfl (Ox rfl rfl rfl (Ox rfl rfl rfl (OF (Nl (W.condF rfl (W.skip (Rg (O rfl (St.fieldAddr fo26_0 rfl (O rfl (St.loadO1 o14 pl4 rfl rfl (O rfl (St.fieldAddr fo26_0 rfl (O rfl (St.loadO1 o22 pl4 rfl rfl (O rfl (St.neqB un4 rfl rfl rfl (Om (O rfl (St.callR C61 cb50 rfl rfl (c_signed C61.bd h66 (by first | omega | (rw [digsN_length]; simp; omega))) ?_)))))))))))))))))))))
 intro v143 w144 C145 s146 h147
 replace h67 := h67.sp s146
 replace o41 := o41.spn s146
 obtain ⟨a148, c149, rfl, h150⟩ := RV.int h147
 refine Om (O rfl (St.callR C145 cb50 rfl rfl (c_signed C145.bd h67 (by first | omega | (rw [digsN_length]; omega))) ?_))
 intro v151 w152 C153 s154 h155
 replace h150 := h150.sp s154
 replace o31 := (o31.spn s146).spn s154
 obtain ⟨a156, c157, rfl, h158⟩ := RV.int h155
 refine On (St.storeC (cs' := [(.bool (mkSg (a.neg != b.neg) (digs (val (trim a.mag) / val (trim b.mag)))).neg), (.slice a148 (mkSg (a.neg != b.neg) (digs (val (trim a.mag) / val (trim b.mag)))).mag.length c149)]) C153 o31 io26 rfl rfl rfl rfl rfl rfl ?_)
 intro w159 C160 s161 o162
 replace o41 := (o41.spn s154).spo s161 (Ne.symm n44)
 refine On (St.storeC (cs' := [(.bool (mkSg false (digs (val (trim a.mag) % val (trim b.mag)))).neg), (.slice a156 (mkSg false (digs (val (trim a.mag) % val (trim b.mag)))).mag.length c157)]) C160 o41 io26 rfl rfl rfl rfl rfl rfl ?_)
 intro w163 C164 s165 o166
 replace h150 := (h150.sp s161).sp s165
 replace h158 := (h158.sp s161).sp s165
 replace o162 := o162.spo s165 n44
 refine Oa (Nl (W.ret (ret_3 rfl (resV.c o162 rfl ag26 rfl) (resV.c o166 rfl ag26 rfl) (resV.t rfl) (Ret.intro ?_ C164.below))))
 refine ⟨_, _, _, rfl, ?_, ?_, ?_⟩
 · skip
   exact RV.eqv (a := (mkSg (a.neg != b.neg) (digs (val (trim a.mag) / val (trim b.mag))))) ((mkInt h150).tr (Tr.weak C164.base)) (by exact mkSg_val (small_digs _) (by rw [val_digs, tva, tvb]; exact (zdiv_pos hb0 (.inl hb72)).1))
 · skip
   exact RV.eqv (a := (mkSg false (digs (val (trim a.mag) % val (trim b.mag))))) ((mkInt h158).tr (Tr.weak C164.base)) (by exact mkSg_val (small_digs _) (by rw [val_digs, tva, tvb, zsign_false]; exact (zdiv_pos hb0 (.inl hb72)).2))
 · skip
   rfl
end Go.Wf
