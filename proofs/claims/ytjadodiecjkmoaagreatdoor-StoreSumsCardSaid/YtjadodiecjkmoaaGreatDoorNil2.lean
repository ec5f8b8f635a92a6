/-
  StoreNil by its walk: it returns true where the table of bit positions is laid.
-/
import Derived.Test.YtjadodiecjkmoaaGreatDoorEvX
import Derived.Test.YtjadodiecjkmoaaGreatDoorAwake
import Derived.Test.YtjadodiecjkmoaaGreatDoorNil1
namespace Go.Proofs.YtjadodiecjkmoaaGreatDoor
set_option linter.unusedVariables false
set_option linter.unusedSimpArgs false
open Go Go.Ev Go.Wf Go.RowKit Go.Proofs
set_option maxRecDepth 100000
theorem ord58 : Tryz.prog.follows .mixedOrders = true := by kernel_rfl
theorem exS58 : ExS Tryz.prog ex58 := by
  intro k hk
  have e : k = 176 := by
    unfold ex58 at hk
    cases h : Nat.beq k 176 with
    | false => rw [h] at hk; exact absurd rfl hk
    | true => exact Nat.eq_of_beq_eq_true h
  subst e
  exact ⟨_, _, Tryz.func176, by rfl, by rfl, by rfl, by rfl, .inl ⟨rfl, rfl⟩⟩
theorem tabsBelow {w w' : World} {n : Nat} {l : List (Nat × List AV)} (h : TabsIn w n l) (hb : Below w.heap.size w w') : TabsIn w' n l := by
  intro p hp
  obtain ⟨h1, C, T, fr, h2, h3⟩ := h p hp
  refine ⟨h1, C, T, fr, ?_, h3⟩
  rw [hb.block _ (by
    have := Array.getElem?_eq_some_iff.1 h2
    exact this.1)]
  exact h2
theorem awake_c {w : World} (hT : TabsIn w 7 [(1, tab64)]) : Calls Tryz.prog 5 #[] w (Ret w fun v _ => v = .bool true) := by
  refine (closedG_true exS58 noPrim ord58 awake_run (by decide) w hT).mono ?_
  rintro en w' ⟨rfl, hb⟩
  exact ⟨rfl, hb⟩
theorem call58 (m : Nat) : CallS Tryz.prog (evCallF Tryz.prog (fun _ => none) ex58 m) := call_s exS58 noPrim ord58 m
theorem ag29 : aggTy Tryz.prog 29 5 = true := by rfl
theorem cb9 : callable Tryz.prog 9 = true := by rfl
theorem cb5 : callable Tryz.prog 5 = true := by rfl
theorem toBelow {w w' : World} (h : Bel w w') : Below w.heap.size w w' := ⟨h.os, h.tape, h.output, h.size, fun k hk => h.block k hk id⟩
set_option maxHeartbeats 2000000 in
theorem nil_c {w : World} (hT : TabsIn w 7 [(1, tab64)]) {op pr : Int} {a b c : ByteArray} :
    Calls Tryz.prog 4 #[.agg #[.int .i64 op, .string a, .string b, .string c, .int .i64 pr]] w (Ret w fun v _ => v = .bool true) := by
  have C := Cx.start (X0 := fun _ => False) (w0 := w) (fun _ h => h.elim)
  refine Calls.ofW (args := [.agg #[.int .i64 op, .string a, .string b, .string c, .int .i64 pr]]) Tryz.func4 rfl rfl (Nat.le_of_ble_eq_true rfl) (W.seq (W.region (O rfl (St.boxC C rfl ?_))))
  intro g w4 x5 y6 lt7 C8 s9 o10
  refine O rfl (St.assign (Sq.nil (W.seq (W.seq (W.region (O rfl (St.loadOA o10 ag29 rfl rfl rfl (O rfl (St.callR C8 cb9 rfl rfl (great_c C8.bd) ?_)))))))))
  rintro v11 w12 C13 s14 ⟨t, rfl⟩
  replace o10 := o10.spn s14
  cases t
  · refine O rfl (St.move (Og rfl rfl (St.callR (vs := []) C13 cb5 rfl rfl (awake_c (tabsBelow hT (toBelow C13.below))) ?_)))
    rintro v15 w16 C17 s18 rfl
    replace o10 := o10.spn s18
    refine Og rfl rfl (St.not rfl (O rfl (St.pick (t := false) rfl (Sq.nil (W.condF rfl (W.skip ?_))))))
    refine tail_true (call58 20) (by decide) ord58 (t := 1) (s := 2) (g := g) (ty := 29) (vs := [.int .i64 op, .string a, .string b, .string c, .int .i64 pr]) ?_ rfl rfl rfl o10.blk ?_
    · kernel_rfl
    · rintro F' w' h2 ⟨h3, h4, h5, h6, h7⟩
      have hb := C17.below
      refine ret_1 rfl (resV.t h2) (Ret.intro rfl ⟨h3.trans hb.os, h4.trans hb.tape, h5.trans hb.output, Nat.le_trans hb.size h6, fun k hk hm => ?_⟩)
      rw [h7 k (Nat.lt_of_lt_of_le hk hb.size) (by
        rcases o10.ge with h | h
        · have hk : k < w.heap.size := hk
          have h : w.heap.size ≤ g := h
          omega
        · exact h.elim)]
      exact hb.block k hk hm
  · refine O rfl (St.move (Ox rfl rfl rfl (Ox rfl rfl rfl (O rfl (St.pick (t := true) rfl (Sq.nil (W.condT rfl (W.seq (W.region ?_)))))))))
    refine O rfl (St.callR (vs := []) C13 cb5 rfl rfl (awake_c (tabsBelow hT (toBelow C13.below))) ?_)
    rintro v15 w16 C17 s18 rfl
    exact O rfl (St.assign (Sq.nil (W.ret (ret_1 rfl (resV.t rfl) (Ret.intro rfl C17.below)))))
end Go.Proofs.YtjadodiecjkmoaaGreatDoor
