/-
  Walks, printed by program (wip/tools).
-/
import Derived.Test.YtjadodiecjkmoaaGreatDoorCoreH
import Derived.Test.YtjadodiecjkmoaaGreatDoorFacts58
import Derived.Test.YtjadodiecjkmoaaGreatDoorSum1
namespace Go.Wf
set_option linter.unusedSimpArgs false
open Go Go.Proofs Go.RowKit
set_option maxRecDepth 100000
set_option linter.unusedVariables false
set_option maxHeartbeats 1000000 in
theorem c_sum {X : Nat → Prop} {w : World} (hX : ∀ b, X b → b < w.heap.size) {v0 : Value} {m : List UInt8} (r0 : RS u8Ty X w v0 m) (hm : m.length ≤ 1099511627776) : Calls Tryz.prog 6 #[v0] w (Ret w fun v w' => v = (.int .u32 (((fnv m) : Nat) : Int))) := by
 obtain ⟨a1, c2, rfl, _, _⟩ := r0.len
 have C := Cx.start hX
 refine Calls.ofW (args := [(.slice a1 m.length c2)]) Tryz.func6 rfl rfl (Nat.le_of_ble_eq_true rfl) (W.seq (W.region (O rfl (St.assign (Sq.nil (W.seq (W.region (O rfl (St.assign (Sq.nil (W.seq (W.seq (W.region (O rfl (St.move (O rfl (St.len sl22 rfl (O rfl (St.move (Sq.nil (W.block (W.loopN (fun μ f v => ∃ (x y : Nat → Prop) (j : Nat) (h : Nat), Cx X w x y v ∧ f 2 = (.int .u32 0) ∧ f 6 = (.slice a1 m.length c2) ∧ f 7 = (.int .i64 ((m.length : Nat) : Int)) ∧ f 8 = (.int .i64 ((j : Nat) : Int)) ∧ f 3 = (.int .u32 ((h : Nat) : Int)) ∧ RS u8Ty x v (.slice a1 m.length c2) m ∧ j ≤ m.length ∧ h < 4294967296 ∧ fnv (m.take j) = h ∧ μ = (m.length - j)) _ ⟨_, _, 0, 2166136261, C, rfl, rfl, rfl, rfl, rfl, r0, (Nat.zero_le _), (by decide), (by rw [List.take_zero]; rfl), rfl⟩ ?_))))))))))))))))))))))
 rintro m14 f3 w4 ⟨x5, y6, j, h, C7, e8, e9, e10, e11, e12, r0, hj, hh, hv, hmu13⟩
 obtain ⟨f15, rfl⟩ := reb_of [(2, (.int .u32 0)), (6, (.slice a1 m.length c2)), (7, (.int .i64 ((m.length : Nat) : Int))), (8, (.int .i64 ((j : Nat) : Int))), (3, (.int .u32 ((h : Nat) : Int)))] (allCons e8 (allCons e9 (allCons e10 (allCons e11 (allCons e12 allNil)))))
 clear e8 e9 e10 e11 e12
 refine W.seq (W.region (O rfl (St.lss2 rfl rfl (fun hc16 => ?_) (fun hc16 => ?_))))
 · refine Sq.nil (W.seq (W.condT rfl (W.skip (W.seq (W.block (W.seq (W.region (O rfl (St.idx (j := j) (u := (m.getD j 0)) r0 sl22 io5 rfl rfl rfl (getSome (by omega)) ?_)))))))))
   intro b17 o18 cs19 e20
   obtain rfl : cs19 = _ := e20.rd
   refine O rfl (St.load1 pl5 rfl (e20.cell 0 _ rfl) (O rfl (St.assign (Sq.nil (W.region (O rfl (St.move (O rfl (St.move (O rfl (St.conv (z := (((m.getD j 0).toNat : Nat) : Int)) us5 un24 rfl (IntWalk.u32_in _ (by have := u8lt (m.getD j 0); omega)) (O rfl (St.xor rfl rfl (nat_xor_u32 (a := h) (b := (m.getD j 0).toNat) (by omega) (u8lt _)) (O rfl (St.mul (z := ((fnvS h (m.getD j 0).toNat : Nat) : Int)) rfl rfl (mul_fnv _ _) ?_)))))))))))))))
   refine O rfl (St.assign (Sq.nil (W.region (O rfl (St.add rfl rfl (nat_add_i64 (a := j) (b := 1) (by omega)) (O rfl (St.move (Sq.nil (⟨_, (by omega), _, _, (j + 1), (fnvS h (m.getD j 0).toNat), C7, rfl, rfl, rfl, rfl, rfl, r0, (by omega), (fnvS_lt _ _), (fnv_step hv (by omega)), rfl⟩)))))))))
 · refine Sq.nil (W.seq (W.condF rfl (W.exit (W.seq (W.region (O rfl (St.move (O rfl (St.assign (Sq.nil (W.ret (ret_1 rfl (resV.t rfl) (Ret.intro ?_ C7.below)))))))))))))
   exact congrArg (Value.int _) ((fnv_end hv (by omega)))
set_option maxHeartbeats 1000000 in
theorem c_sumR {X : Nat → Prop} {w : World} (hX : ∀ b, X b → b < w.heap.size) {v0 : Value} {m : List UInt8} (r0 : RS u8Ty X w v0 m) (hm : m.length ≤ 1099511627776) : Calls Tryz.prog 7 #[v0] w (Ret w fun v w' => v = (.int .u32 (((fnv m) : Nat) : Int))) := by
 obtain ⟨a1, c2, rfl, _, _⟩ := r0.len
 have C := Cx.start hX
 refine Calls.ofW (args := [(.slice a1 m.length c2)]) Tryz.func7 rfl rfl (Nat.le_of_ble_eq_true rfl) (W.seq (W.region (O rfl (St.assign (Sq.nil (W.seq (W.region (O rfl (St.assign (Sq.nil (W.seq (W.seq (W.region (O rfl (St.assign (Sq.nil (W.block (W.loopN (fun μ f v => ∃ (x y : Nat → Prop) (j : Nat) (h : Nat), Cx X w x y v ∧ f 0 = (.slice a1 m.length c2) ∧ f 2 = (.int .u32 0) ∧ f 4 = (.int .i64 ((j : Nat) : Int)) ∧ f 3 = (.int .u32 ((h : Nat) : Int)) ∧ RS u8Ty x v (.slice a1 m.length c2) m ∧ j ≤ m.length ∧ h < 4294967296 ∧ fnv (m.take j) = h ∧ μ = (m.length - j)) _ ⟨_, _, 0, 2166136261, C, rfl, rfl, rfl, rfl, r0, (Nat.zero_le _), (by decide), (by rw [List.take_zero]; rfl), rfl⟩ ?_))))))))))))))))))
 rintro m13 f3 w4 ⟨x5, y6, j, h, C7, e8, e9, e10, e11, r0, hj, hh, hv, hmu12⟩
 obtain ⟨f14, rfl⟩ := reb_of [(0, (.slice a1 m.length c2)), (2, (.int .u32 0)), (4, (.int .i64 ((j : Nat) : Int))), (3, (.int .u32 ((h : Nat) : Int)))] (allCons e8 (allCons e9 (allCons e10 (allCons e11 allNil))))
 clear e8 e9 e10 e11
 refine W.seq (W.seq (W.region (O rfl (St.move (O rfl (St.move (O rfl (St.len sl22 rfl (O rfl (St.lss2 rfl rfl (fun hc15 => ?_) (fun hc15 => ?_)))))))))))
 · refine Sq.nil (W.condT rfl (W.skip (W.seq (W.block (W.region (O rfl (St.move (O rfl (St.move (O rfl (St.move (O rfl (St.idx (j := j) (u := (m.getD j 0)) r0 sl22 io5 rfl rfl rfl (getSome (by omega)) ?_)))))))))))))
   intro b16 o17 cs18 e19
   obtain rfl : cs18 = _ := e19.rd
   refine O rfl (St.load1 pl5 rfl (e19.cell 0 _ rfl) (O rfl (St.conv (z := (((m.getD j 0).toNat : Nat) : Int)) us5 un24 rfl (IntWalk.u32_in _ (by have := u8lt (m.getD j 0); omega)) (O rfl (St.xor rfl rfl (nat_xor_u32 (a := h) (b := (m.getD j 0).toNat) (by omega) (u8lt _)) (O rfl (St.mul (z := ((fnvS h (m.getD j 0).toNat : Nat) : Int)) rfl rfl (mul_fnv _ _) (O rfl (St.assign ?_)))))))))
   refine Sq.nil (W.region (O rfl (St.move (O rfl (St.add rfl rfl (nat_add_i64 (a := j) (b := 1) (by omega)) (O rfl (St.assign (Sq.nil (⟨_, (by omega), _, _, (j + 1), (fnvS h (m.getD j 0).toNat), C7, rfl, rfl, rfl, rfl, r0, (by omega), (fnvS_lt _ _), (fnv_step hv (by omega)), rfl⟩)))))))))
 · refine Sq.nil (W.condF rfl (W.exit (W.seq (W.region (O rfl (St.move (O rfl (St.assign (Sq.nil (W.ret (ret_1 rfl (resV.t rfl) (Ret.intro ?_ C7.below))))))))))))
   exact congrArg (Value.int _) ((fnv_end hv (by omega)))
set_option maxHeartbeats 1000000 in
theorem c_mod58 {X : Nat → Prop} {w : World} (hX : ∀ b, X b → b < w.heap.size) {a : Int} {n : Int} (hn : 0 < n) (hb : n ≤ 1099511627776) : Calls Tryz.prog 8 #[(.int .i64 a), (.int .i64 n)] w (Ret w fun v w' => v = (.int .i64 (a % n))) := by
 have C := Cx.start hX
 have ht := tmod_bd a hn
 refine Calls.ofW (args := [(.int .i64 a), (.int .i64 n)]) Tryz.func8 rfl rfl (Nat.le_of_ble_eq_true rfl) (W.seq (W.region (O rfl (St.assign (Sq.nil (W.seq (W.region (O rfl (St.move (O rfl (St.move (O rfl (St.rem rfl rfl (by omega) rfl (O rfl (St.assign (Sq.nil (W.seq (W.seq (W.region (O rfl (St.move (O rfl (St.lss2 rfl rfl (fun hc1 => ?_) (fun hc1 => ?_))))))))))))))))))))))))
 · refine Sq.nil (W.condT rfl (W.region (O rfl (St.move (O rfl (St.move (O rfl (St.add (z := ((a.tmod n) + n)) rfl rfl (IntWalk.i64_in _ (by omega)) (O rfl (St.assign (Sq.nil (W.seq (W.region (O rfl (St.move (O rfl (St.assign (Sq.nil (W.ret (ret_1 rfl (resV.t rfl) (Ret.intro ?_ C.below)))))))))))))))))))))
   exact congrArg (Value.int _) ((tmod_neg hn (by omega)))
 · refine Sq.nil (W.condF rfl (W.skip (W.seq (W.region (O rfl (St.move (O rfl (St.assign (Sq.nil (W.ret (ret_1 rfl (resV.t rfl) (Ret.intro ?_ C.below))))))))))))
   exact congrArg (Value.int _) ((tmod_pos hn (by omega)))
end Go.Wf
