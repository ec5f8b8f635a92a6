/-
  StoreSums by its walk: it returns true where the table of bit positions is laid.
-/
import Derived.Test.YtjadodiecjkmoaaGreatDoorNil2
import Derived.Test.YtjadodiecjkmoaaGreatDoorSum2
import Derived.Test.YtjadodiecjkmoaaGreatDoorSum3
namespace Go.Proofs.YtjadodiecjkmoaaGreatDoor
set_option linter.unusedSimpArgs false
open Go Go.Ev Go.Wf Go.RowKit Go.Proofs
set_option maxRecDepth 100000
set_option linter.unusedVariables false
theorem sums_c {X : Nat → Prop} {w : World} (hT : TabsIn w 7 [(1, tab64)]) (hX : ∀ b, X b → b < w.heap.size) {v0 : Value} {m : List UInt8} (r0 : RS u8Ty X w v0 m) {a : Int} {d : UInt8} :
    Calls Tryz.prog 3 #[v0, .int .i64 a, .int .u8 d.toNat] w (Ret w fun v _ => v = .bool true) := by
 obtain ⟨a1, c2, rfl, _, _⟩ := r0.len
 have C := Cx.start hX
 refine Calls.ofW (args := [(.slice a1 m.length c2), (.int .i64 a), (.int .u8 d.toNat)]) Tryz.func3 rfl rfl (Nat.le_of_ble_eq_true rfl) (W.seq (W.region (O rfl (St.assign (Sq.nil (W.seq (W.seq (W.region (O rfl (St.move (O rfl (St.len sl22 rfl (O rfl (St.gtr2 rfl rfl (fun hc3 => ?_) (fun hc3 => ?_)))))))))))))))
 · refine O rfl (St.move (Ox rfl rfl rfl (Ox rfl rfl rfl (O rfl (St.pick (t := true) rfl (Sq.nil (W.condT rfl (W.seq (W.region (O rfl (St.callR C cb5 rfl rfl (awake_c (tabsBelow hT (toBelow C.below))) ?_)))))))))))
   intro v4 w5 C6 s7 h8
   subst h8
   exact O rfl (St.assign (Sq.nil (W.ret (ret_1 rfl (resV.t rfl) (Ret.intro rfl C6.below)))))
 · refine O rfl (St.move (Og rfl rfl (St.callR C cb5 rfl rfl (awake_c (tabsBelow hT (toBelow C.below))) ?_)))
   intro v9 w10 C11 s12 h13
   subst h13
   replace r0 := r0.sp s12
   refine Og rfl rfl (St.not rfl (O rfl (St.pick (t := false) rfl (Sq.nil (W.condF rfl (W.skip (W.seq (W.region (O rfl (St.move (O rfl (St.callR C11 cb6 rfl rfl (c_sum C11.bd r0 (by omega)) ?_))))))))))))
   intro v15 w16 C17 s18 h19
   replace r0 := r0.sp s18
   subst h19
   refine O rfl (St.assign (Sq.nil (W.seq (W.seq (W.region (O rfl (St.move (O rfl (St.move (O rfl (St.callR C17 cb7 rfl rfl (c_sumR C17.bd r0 (by omega)) ?_)))))))))))
   intro v20 w21 C22 s23 h24
   replace r0 := r0.sp s23
   subst h24
   refine O rfl (St.neq2 rfl rfl (fun hc25 => ?_) (fun hc25 => ?_))
   · exact absurd rfl hc25
   · refine Sq.nil (W.condF rfl (W.skip (W.seq (W.seq (W.region (O rfl (St.move (O rfl (St.len sl22 rfl (O rfl (St.eql2 rfl rfl (fun hc26 => ?_) (fun hc26 => ?_))))))))))))
     · exact O rfl (St.move (Ox rfl rfl rfl (Ox rfl rfl rfl (O rfl (St.pick (t := true) rfl (Sq.nil (W.condT rfl (W.seq (W.region (O rfl (St.assign (Sq.nil (W.ret (ret_1 rfl (resV.t rfl) (Ret.intro rfl C22.below)))))))))))))))
     · refine O rfl (St.move (Og rfl rfl (St.move (Og rfl rfl (St.eql2 rfl rfl (fun hc27 => ?_) (fun hc27 => ?_))))))
       · exact O rfl (St.pick (t := false) rfl (Sq.nil (W.condT rfl (W.seq (W.region (O rfl (St.assign (Sq.nil (W.ret (ret_1 rfl (resV.t rfl) (Ret.intro rfl C22.below)))))))))))
       · refine O rfl (St.pick (t := false) rfl (Sq.nil (W.condF rfl (W.skip (W.seq (W.region (O rfl (St.bs0 (T := u8Ty) C22 sl22 io5 ?_))))))))
         intro g32 w28 x33 C29 s30 u34 h31
         replace r0 := r0.sp s30
         refine O rfl (St.move (O rfl (St.appendC (T := u8Ty) C29 sl22 io5 rfl rfl h31 (srcRS r0) (by simp [maxLen] <;> omega) (by simp <;> omega) rfl ?_)))
         intro v35 w36 x37 C38 s39 u40 h41
         replace r0 := r0.tr s39.tx
         rw [List.nil_append] at h41
         obtain ⟨a42, c43, rfl, _, _⟩ := h41.len
         refine O rfl (St.assign (Sq.nil (W.seq (W.region (O rfl (St.move (O rfl (St.move (O rfl (St.len sl22 rfl (O rfl (St.callR C38 cb8 rfl rfl (c_mod58 C38.bd (by omega) (by omega)) ?_))))))))))))
         intro v44 w45 C46 s47 h48
         replace h41 := h41.sp s47 C46 (fun _ h => h)
         subst h48
         obtain ⟨g, cap, R, e50, hcap, hcap2, C50, o50⟩ := h41.own8 C46 (by rintro rfl; exact hc26 rfl)
         cases e50
         have hml : 0 < m.length := by omega
         have hk0 := Int.emod_nonneg a (show ((m.length : Nat) : Int) ≠ 0 by omega)
         have hk1 := Int.emod_lt_of_pos a (show (0 : Int) < ((m.length : Nat) : Int) by omega)
         obtain ⟨k, hk⟩ := Int.eq_ofNat_of_zero_le hk0
         have hkm : k < m.length := by omega
         have hd : d ≠ 0 := by rintro rfl; exact hc27 rfl
         refine O rfl (St.assign (Sq.nil (W.seq (W.region (O rfl (St.move (O rfl (St.move (O rfl (St.move (O rfl (St.move (O rfl (St.idxRow (j := k) sl22 io5 rfl rfl hk hkm ?_))))))))))))))
         refine O rfl (St.loadO1 o50 pl5 rfl (row8_get hkm) (O rfl (St.move (O rfl (St.xor rfl rfl (nat_xor_u8 _ _) (O rfl (St.idxRow (j := k) sl22 io5 rfl rfl hk hkm ?_)))))))
         refine On (St.storeC (vs := [u8v (m.getD k 0 ^^^ d)]) (cs' := (m.set k (m.getD k 0 ^^^ d)).map u8v ++ R) C50 o50 io5 rfl rfl rfl ?_ rfl (row8_set hkm _) ?_)
         · exact Nat.ble_eq_true_of_le (by simp; omega)
         intro w51 C51 s51 o51
         have C52 := C51.freeze hX o51 (fun h => h)
         have r52 := o51.frRS8 (x := x37) (n := m.length) (c := c43) List.length_set.symm hcap hcap2
         refine Sq.nil (W.seq (W.region (O rfl (St.move (O rfl (St.callR C52 cb6 rfl rfl (c_sum C52.bd r52 (by rw [List.length_set]; omega)) ?_))))))
         intro v53 w53 C53 s53 h53
         subst h53
         refine O rfl (St.move (O rfl (St.neq2 rfl rfl (fun _ => ?_) (fun he => ?_))))
         · exact O rfl (St.assign (Sq.nil (W.ret (ret_1 rfl (resV.t rfl) (Ret.intro rfl C53.below)))))
         · exact absurd (Int.ofNat.inj he) (fnv_set hkm hd)
end Go.Proofs.YtjadodiecjkmoaaGreatDoor
