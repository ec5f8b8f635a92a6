/-
  What great returns: a truth value.
-/
import Derived.Test.YtjadodiecjkmoaaGreatDoorEvS
import Derived.Test.YtjadodiecjkmoaaGreatDoorProg
namespace Go.Wf
set_option linter.unusedVariables false
set_option linter.unusedSimpArgs false
open Go Go.Proofs Go.RowKit
set_option maxRecDepth 100000
section
variable {P : Program} {ops : Array Oper} {n : Nat} {Q : Post} {r : List Oper} {f : Fr} {w : World}
theorem Oy {d : Nat} {op : Op} {ty : TypeId} {pos : String} {after : Array Edge} {j : Nat} {b : Bool} (hlo : Nat.blt d n = true) (hy : yieldedF ops f j = none)
    (h : Sq P ops n Q r (updO f (some d) undef) w) :
    Sq P ops n Q (⟨some d, op, ty, pos, after, some (j, b)⟩ :: r) f w := ⟨Nat.le_of_ble_eq_true hlo, by simp only [Region.wanted, hy]; exact h⟩
end
theorem sTy : Tryz.prog.underlying 9 = some .string := by rfl
theorem sPl : plainTy Tryz.prog 9 = true := by rfl
set_option maxHeartbeats 2000000 in
theorem great_c {X : Nat → Prop} {w : World} (hX : ∀ b, X b → b < w.heap.size) {op pr : Int} {a b c : ByteArray} :
    Calls Tryz.prog 9 #[.agg #[.int .i64 op, .string a, .string b, .string c, .int .i64 pr]] w (Ret w fun v _ => ∃ g, v = .bool g) := by
  have C := Cx.start hX
  refine Calls.ofW (args := [.agg #[.int .i64 op, .string a, .string b, .string c, .int .i64 pr]]) Tryz.func9 rfl rfl (Nat.le_of_ble_eq_true rfl) (W.seq (W.region (O rfl (St.boxC C rfl ?_))))
  intro g w4 x5 y6 lt7 C8 s9 o10
  refine O rfl (St.assign (Sq.nil (W.seq (W.region ?_))))
  refine O rfl (St.fieldAddr rfl rfl (O rfl (St.loadO1 o10 sPl rfl rfl (O rfl (St.lenS sTy rfl (O rfl (St.gtr2 rfl rfl (fun _ => ?_) (fun _ => ?_))))))))
  · exact O rfl (St.move (Ox rfl rfl rfl (Ox rfl rfl rfl (Ox rfl rfl rfl (Ox rfl rfl rfl (Ox rfl rfl rfl (Oy rfl rfl (Oy rfl rfl (Oy rfl rfl (Oy rfl rfl (Ox rfl rfl rfl (O rfl (St.pick (t := true) rfl (O rfl (St.move (Ox rfl rfl rfl (Ox rfl rfl rfl (Ox rfl rfl rfl (Ox rfl rfl rfl (Ox rfl rfl rfl (Oy rfl rfl (Oy rfl rfl (Oy rfl rfl (Oy rfl rfl (Ox rfl rfl rfl (O rfl (St.pick (t := true) rfl (O rfl (St.assign (Sq.nil (W.ret (ret_1 rfl (resV.t rfl) (Ret.intro ⟨_, rfl⟩ C8.below)))))))))))))))))))))))))))))))))
  · refine O rfl (St.move (Og rfl rfl (St.fieldAddr rfl rfl (Og rfl rfl (St.loadO1 o10 sPl rfl rfl (Og rfl rfl (St.lenS sTy rfl (Og rfl rfl (St.gtr2 rfl rfl (fun _ => ?_) (fun _ => ?_))))))))))
    · refine Og rfl rfl (St.move (Og rfl rfl (St.fieldAddr rfl rfl (Og rfl rfl (St.loadO1 o10 sPl rfl rfl (Og rfl rfl (St.lenS sTy rfl (Og rfl rfl (St.leq2 rfl rfl (fun _ => ?_) (fun _ => ?_))))))))))
      · exact Og rfl rfl (St.pick (t := true) rfl (O rfl (St.pick (t := false) rfl (O rfl (St.move (Ox rfl rfl rfl (Ox rfl rfl rfl (Ox rfl rfl rfl (Ox rfl rfl rfl (Ox rfl rfl rfl (Oy rfl rfl (Oy rfl rfl (Oy rfl rfl (Oy rfl rfl (Ox rfl rfl rfl (O rfl (St.pick (t := true) rfl (O rfl (St.assign (Sq.nil (W.ret (ret_1 rfl (resV.t rfl) (Ret.intro ⟨_, rfl⟩ C8.below)))))))))))))))))))))))
      · refine Og rfl rfl (St.pick (t := true) rfl (O rfl (St.pick (t := false) rfl (O rfl (St.move (Og rfl rfl (St.fieldAddr rfl rfl (Og rfl rfl (St.loadO1 o10 sPl rfl rfl (Og rfl rfl (St.lenS sTy rfl (Og rfl rfl (St.gtr2 rfl rfl (fun _ => ?_) (fun _ => ?_))))))))))))))
        · refine Og rfl rfl (St.move (Og rfl rfl (St.fieldAddr rfl rfl (Og rfl rfl (St.loadO1 o10 sPl rfl rfl (Og rfl rfl (St.lenS sTy rfl (Og rfl rfl (St.leq2 rfl rfl (fun _ => ?_) (fun _ => ?_))))))))))
          · exact Og rfl rfl (St.pick (t := true) rfl (O rfl (St.pick (t := false) rfl (O rfl (St.assign (Sq.nil (W.ret (ret_1 rfl (resV.t rfl) (Ret.intro ⟨_, rfl⟩ C8.below)))))))))
          · exact Og rfl rfl (St.pick (t := true) rfl (O rfl (St.pick (t := false) rfl (O rfl (St.assign (Sq.nil (W.ret (ret_1 rfl (resV.t rfl) (Ret.intro ⟨_, rfl⟩ C8.below)))))))))
        · exact Og rfl rfl (St.move (Ox rfl rfl rfl (Ox rfl rfl rfl (Ox rfl rfl rfl (Ox rfl rfl rfl (Og rfl rfl (St.pick (t := false) rfl (O rfl (St.pick (t := false) rfl (O rfl (St.assign (Sq.nil (W.ret (ret_1 rfl (resV.t rfl) (Ret.intro ⟨_, rfl⟩ C8.below)))))))))))))))
    · refine Og rfl rfl (St.move (Ox rfl rfl rfl (Ox rfl rfl rfl (Ox rfl rfl rfl (Ox rfl rfl rfl (Og rfl rfl (St.pick (t := false) rfl (O rfl (St.pick (t := false) rfl (O rfl (St.move (Og rfl rfl (St.fieldAddr rfl rfl (Og rfl rfl (St.loadO1 o10 sPl rfl rfl (Og rfl rfl (St.lenS sTy rfl (Og rfl rfl (St.gtr2 rfl rfl (fun _ => ?_) (fun _ => ?_))))))))))))))))))))
      · refine Og rfl rfl (St.move (Og rfl rfl (St.fieldAddr rfl rfl (Og rfl rfl (St.loadO1 o10 sPl rfl rfl (Og rfl rfl (St.lenS sTy rfl (Og rfl rfl (St.leq2 rfl rfl (fun _ => ?_) (fun _ => ?_))))))))))
        · exact Og rfl rfl (St.pick (t := true) rfl (O rfl (St.pick (t := false) rfl (O rfl (St.assign (Sq.nil (W.ret (ret_1 rfl (resV.t rfl) (Ret.intro ⟨_, rfl⟩ C8.below)))))))))
        · exact Og rfl rfl (St.pick (t := true) rfl (O rfl (St.pick (t := false) rfl (O rfl (St.assign (Sq.nil (W.ret (ret_1 rfl (resV.t rfl) (Ret.intro ⟨_, rfl⟩ C8.below)))))))))
      · exact Og rfl rfl (St.move (Ox rfl rfl rfl (Ox rfl rfl rfl (Ox rfl rfl rfl (Ox rfl rfl rfl (Og rfl rfl (St.pick (t := false) rfl (O rfl (St.pick (t := false) rfl (O rfl (St.assign (Sq.nil (W.ret (ret_1 rfl (resV.t rfl) (Ret.intro ⟨_, rfl⟩ C8.below)))))))))))))))
end Go.Wf
