/- Part 6 of the texts for the claim. -/
import Derived.Test.YtjiojpmoleilgaaGreatDoorOrder5
namespace Go.Wf
open Go Go.Proofs Go.RowKit
set_option maxRecDepth 100000
set_option linter.unusedVariables false
set_option linter.unusedSimpArgs false
theorem Ja8 (q : Rat) : ofZ (ofQ q).num.toZ = (ofQ q).num := by unfold ofQ; rw [Jp]
theorem Jcq (q : Rat) : ofZ (ofQ q).den.toZ = (ofQ q).den := by unfold ofQ; rw [Jp]
set_option maxHeartbeats 1000000 in
theorem x_rof {X : Nat → Prop} {w : World} (hX : ∀ b, X b → b < w.heap.size) {n : Int} (hlo : -9223372036854775808 ≤ n) (hhi : n ≤ 9223372036854775807) : Calls Tryz.prog 113 #[(.int .i64 n)] w (Ret w fun v w' => RV Yk X w' v (ofQ (Rat.divInt n 1))) := by
 have C := Cx.start hX
 refine Calls.ofW (args := [(.int .i64 n)]) Tryz.func113 rfl rfl (Nat.le_of_ble_eq_true rfl) (Rg (O rfl (St.allocC C io28 rfl ?_)))
 intro g1 w2 x3 y4 lt5 C6 s7 o8
 refine Nl (Rg (Om (O rfl (St.callR C6 Jk5 rfl rfl (x_of C6.bd hlo hhi) ?_))))
 intro v9 w10 C11 s12 h13
 obtain ⟨a14, c15, rfl, h16⟩ := RV.int h13
 refine O rfl (St.callR C11 Jk5 rfl rfl (x_of C11.bd (by decide) (by decide)) ?_)
 intro v17 w18 C19 s20 h21
 replace o8 := (o8.spn s12).spn s20
 obtain ⟨a22, c23, rfl, h24⟩ := RV.int h21
 refine O rfl (St.build (cs := [(.bool (ofZ n).neg), (.slice a14 (ofZ n).mag.length c15), (.bool (ofZ 1).neg), (.slice a22 (ofZ 1).mag.length c23)]) rfl (by kernel_rfl) (On (St.storeC (cs' := [(.bool (ofZ n).neg), (.slice a14 (ofZ n).mag.length c15), (.bool (ofZ 1).neg), (.slice a22 (ofZ 1).mag.length c23)]) C19 o8 io28 rfl rfl rfl rfl rfl rfl ?_)))
 intro w25 C26 s27 o28
 replace h16 := (h16.sp s20).sp s27
 replace h24 := h24.sp s27
 refine Nl (W.ret (Jf rfl (resV.c o28 rfl ag28 rfl) (Ret.intro ?_ C26.below)))
 exact RV.eqv (a := (⟨⟨(ofZ n).neg, (ofZ n).mag⟩, ⟨(ofZ 1).neg, (ofZ 1).mag⟩⟩ : GRat)) ((Zp h16 h24).tr (Tr.weak C26.base)) (Qz rfl)
set_option maxHeartbeats 2000000 in
theorem Jkg {X : Nat → Prop} {w : World} (hX : ∀ b, X b → b < w.heap.size) {v0 : Value} {n : GInt} (r0 : RV Jv X w v0 n) {v1 : Value} {d : GInt} (r1 : RV Jv X w v1 d) (hln : n.mag.length ≤ 536870912) (hld : d.mag.length ≤ 536870912) : Calls Tryz.prog 77 #[v0, v1] w (Ret w fun v w' => RV Yk X w' v (ofQ (Rat.divInt n.toZ d.toZ))) := by
 obtain ⟨a1, c2, rfl, h3⟩ := RV.int r0
 obtain ⟨a4, c5, rfl, h6⟩ := RV.int r1
 have C := Cx.start hX
 have sn := r0.int_small
 have sd := r1.int_small
 have hN := J1 sn
 have hD := J1 sd
 refine Calls.ofW (args := [(.agg #[(.bool n.neg), (.slice a1 n.mag.length c2)]), (.agg #[(.bool d.neg), (.slice a4 d.mag.length c5)])]) Tryz.func77 rfl rfl (Nat.le_of_ble_eq_true rfl) (Rg (O rfl (St.boxC C rfl ?_)))
 intro g7 w8 x9 y10 lt11 C12 s13 o14
 replace h6 := h6.sp s13
 refine O rfl (St.boxC C12 rfl ?_)
 intro g15 w16 x17 y18 lt19 C20 s21 o22
 replace h3 := (h3.sp s13).sp s21
 replace o14 := o14.spn s21
 refine O rfl (St.allocC C20 io28 rfl ?_)
 intro g24 w25 x26 y27 lt28 C29 s30 o31
 replace h6 := (h6.sp s21).sp s30
 replace o22 := o22.spn s30
 refine Nl (Rh (O rfl (St.loadOA (vs := [(.bool d.neg), (.slice a4 d.mag.length c5)]) o22 ag26 rfl rfl rfl (O rfl (St.callR C29 Jln rfl rfl (Je0 C29.bd (a := d) (Jj h6) (by omega)) ?_)))))
 intro v34 w35 C36 s37 h38
 replace h3 := (h3.sp s30).sp s37
 replace h6 := h6.sp s37
 replace o14 := (o14.spn s30).spn s37
 replace o22 := o22.spn s37
 subst h38
 refine O rfl (St.eql2 rfl rfl (fun hc39 => ?_) (fun hc39 => ?_))
 ·refine Nl (W.condT rfl (Rg (O rfl (St.callR C36 cb113 rfl rfl (x_rof C36.bd (by decide) (by decide)) ?_))))
  intro v40 w41 C42 s43 h44
  replace o31 := (o31.spn s37).spn s43
  obtain ⟨a45, c46, a47, c48, rfl, h49, h50⟩ := RV.rat h44
  refine On (St.storeC (cs' := [(.bool (ofQ (Rat.divInt 0 1)).num.neg), (.slice a45 (ofQ (Rat.divInt 0 1)).num.mag.length c46), (.bool (ofQ (Rat.divInt 0 1)).den.neg), (.slice a47 (ofQ (Rat.divInt 0 1)).den.mag.length c48)]) C42 o31 io28 rfl rfl rfl rfl rfl rfl ?_)
  intro w51 C52 s53 o54
  replace h49 := h49.sp s53
  replace h50 := h50.sp s53
  refine Nl (W.ret (Jf rfl (resV.c o54 rfl ag28 rfl) (Ret.intro ?_ C52.below)))
  exact RV.eqv (a := (ofQ (Rat.divInt 0 1))) ((Zp h49 h50).tr (Tr.weak C52.base)) (Jql hc39)
 refine Nl (W.condF rfl (W.skip (W.seq ?_)))
 have hne := xo_ne (n := n.toZ) hc39
 have hgl := Jt7 (n := n.toZ) hc39
 refine W.region (O rfl (St.loadOA (vs := [(.bool n.neg), (.slice a1 n.mag.length c2)]) o14 ag26 rfl rfl rfl (O rfl (St.loadOA (vs := [(.bool d.neg), (.slice a4 d.mag.length c5)]) o22 ag26 rfl rfl rfl (O rfl (St.callR C36 cb114 rfl rfl (x_gcd C36.bd (a := n) (Jj h3) (b := d) (Jj h6) (by omega) (by omega)) ?_))))))
 intro v55 w56 C57 s58 h59
 replace h3 := h3.sp s58
 replace h6 := h6.sp s58
 replace o14 := o14.spn s58
 replace o22 := o22.spn s58
 replace o31 := (o31.spn s37).spn s58
 obtain ⟨a60, c61, rfl, h62⟩ := RV.int h59
 refine O rfl (St.allocC C57 io26 rfl ?_)
 intro g63 w64 x65 y66 lt67 C68 s69 o70
 have n71 := lt67 _ o14.blk.lt
 have n72 := lt67 _ o22.blk.lt
 have n73 := lt67 _ o31.blk.lt
 replace h62 := h62.sp s69
 replace o31 := o31.spn s69
 refine On (St.storeC (cs' := [(.bool (ofZ ((Int.gcd n.toZ d.toZ : Nat) : Int)).neg), (.slice a60 (ofZ ((Int.gcd n.toZ d.toZ : Nat) : Int)).mag.length c61)]) C68 o70 io26 rfl rfl rfl rfl rfl rfl ?_)
 intro w74 C75 s76 o77
 replace h3 := (h3.sp s69).sp s76
 replace h6 := (h6.sp s69).sp s76
 replace o14 := (o14.spn s69).spo s76 n71
 replace o22 := (o22.spn s69).spo s76 n72
 refine Nl (Rh (O rfl (St.loadOA (vs := [(.bool d.neg), (.slice a4 d.mag.length c5)]) o22 ag26 rfl rfl rfl (O rfl (St.callR C75 Jln rfl rfl (Je0 C75.bd (a := d) (Jj h6) (by omega)) ?_)))))
 intro v78 w79 C80 s81 h82
 replace h62 := (h62.sp s76).sp s81
 replace o31 := (o31.spo s76 n73).spn s81
 replace o77 := o77.spn s81
 subst h82
 refine O rfl (St.lss2 rfl rfl (fun hc83 => ?_) (fun hc83 => ?_))
 ·refine Nl (W.condT rfl (W.region (O rfl (St.loadOA (vs := [(.bool (ofZ ((Int.gcd n.toZ d.toZ : Nat) : Int)).neg), (.slice a60 (ofZ ((Int.gcd n.toZ d.toZ : Nat) : Int)).mag.length c61)]) o77 ag26 rfl rfl rfl (O rfl (St.callR C80 Jq8 rfl rfl (Jqt C80.bd (a := (ofZ ((Int.gcd n.toZ d.toZ : Nat) : Int))) (Jj h62) (by omega)) ?_))))))
  intro v84 w85 C86 s87 h88
  replace h3 := (h3.sp s81).sp s87
  replace h6 := (h6.sp s81).sp s87
  replace o14 := (o14.spn s81).spn s87
  replace o22 := (o22.spn s81).spn s87
  replace o77 := o77.spn s87
  simp only [Jp, Yv] at h88
  obtain ⟨a89, c90, rfl, h91⟩ := RV.int h88
  refine On (St.storeC (cs' := [(.bool (ofZ (-((Int.gcd n.toZ d.toZ : Nat) : Int))).neg), (.slice a89 (ofZ (-((Int.gcd n.toZ d.toZ : Nat) : Int))).mag.length c90)]) C86 o77 io26 rfl rfl rfl rfl rfl rfl ?_)
  intro w92 C93 s94 o95
  replace o31 := (o31.spn s87).spo s94 n73
  refine Nl (W.seq (W.seq (W.drawC Zc 2 [[], []] C93 [fx (.agg #[(.bool (ofZ (-((Int.gcd n.toZ d.toZ : Nat) : Int))).neg), (.slice a89 (ofZ (-((Int.gcd n.toZ d.toZ : Nat) : Int))).mag.length c90)]), fr Jv (ofZ 1)] (by kernel_rfl) ⟨sx, sr, trivial⟩ fun f105 s106 w107 ⟨C110, S111⟩ k109 => ?_)))
  replace h3 := (h3.sp s94).sp S111
  replace h6 := (h6.sp s94).sp S111
  replace h91 := (h91.sp s94).sp S111
  replace o14 := (o14.spo s94 n71).spn S111
  replace o22 := (o22.spo s94 n72).spn S111
  replace o95 := o95.spn S111
  have k109 : Keep [18, 19] _ f105 := k109
  refine ⟨⟨fun _ => ?_, fun _ => ?_, trivial⟩, fun ⟨e116, d117, _⟩ => ?_⟩
  ·exact Ja k109 aN fun _ => OpSt.op (St.loadOA (vs := [(.bool (ofZ (-((Int.gcd n.toZ d.toZ : Nat) : Int))).neg), (.slice a89 (ofZ (-((Int.gcd n.toZ d.toZ : Nat) : Int))).mag.length c90)]) o95 ag26 rfl rfl rfl ⟨s106, RC.same C110, rfl⟩)
  ·refine Ja k109 aN fun _ => OpSt.op (St.callR C110 Jk5 rfl rfl (x_of C110.bd (by decide) (by decide)) ?_)
   intro v118 w119 C120 s121 h122
   exact ⟨s106, ⟨C120, s121⟩, h122⟩
  obtain ⟨a124, c125, e123, h126⟩ := RV.int d117
  obtain ⟨f127, rfl⟩ := mixK k109 (aC e116 (aC e123 aN))
  refine O rfl (St.bool (St.callR C110 Jtc rfl rfl (Jn1 C110.bd (a := (ofZ (-((Int.gcd n.toZ d.toZ : Nat) : Int)))) (Jj h91) (b := (ofZ 1)) (Jj h126) (by first | omega | (rw [Zq]; omega)) (by decide)) ?_))
  intro v128 w129 C130 s131 h132
  replace o31 := (o31.spn S111).spn s131
  refine ⟨_, h132, fun hb133 => ?_, fun hb133 => ?_⟩
  ·refine Nl (W.condT rfl (W.seq (W.drawC Zc 3 [[], [0], []] C130 [fx (.agg #[(.bool n.neg), (.slice a1 n.mag.length c2)]), fr Jv (ofZ n.toZ), fx (.agg #[(.bool d.neg), (.slice a4 d.mag.length c5)])] (by kernel_rfl) ⟨sx, sr, sx, trivial⟩ fun f143 s144 w145 ⟨C148, S149⟩ k147 => ?_)))
   replace h3 := (h3.sp s131).sp S149
   replace h6 := (h6.sp s131).sp S149
   replace o14 := (o14.spn s131).spn S149
   replace o22 := (o22.spn s131).spn S149
   have k147 : Keep [21, 22, 23] _ f143 := k147
   refine ⟨⟨fun _ => ?_, fun ⟨e154, _⟩ => ?_, fun _ => ?_, trivial⟩, fun ⟨e155, d156, e157, _⟩ => ?_⟩
   ·exact Ja k147 aN fun _ => OpSt.op (St.loadOA (vs := [(.bool n.neg), (.slice a1 n.mag.length c2)]) o14 ag26 rfl rfl rfl ⟨s144, RC.same C148, rfl⟩)
   ·refine Ja k147 (aC e154 aN) fun _ => OpSt.op (St.callR C148 qw rfl rfl (Q7 C148.bd (a := n) (Jj h3) (by omega)) ?_)
    intro v158 w159 C160 s161 h162
    exact ⟨s144, ⟨C160, s161⟩, h162⟩
   ·exact Ja k147 aN fun _ => OpSt.op (St.loadOA (vs := [(.bool d.neg), (.slice a4 d.mag.length c5)]) o22 ag26 rfl rfl rfl ⟨s144, RC.same C148, rfl⟩)
   obtain ⟨a164, c165, e163, h166⟩ := RV.int d156
   obtain ⟨f167, rfl⟩ := mixK k147 (aC e155 (aC e163 (aC e157 aN)))
   refine O rfl (St.callR C148 qw rfl rfl (Q7 C148.bd (a := d) (Jj h6) (by omega)) ?_)
   intro v168 w169 C170 s171 h172
   replace o31 := (o31.spn S149).spn s171
   obtain ⟨a173, c174, rfl, h175⟩ := RV.int h172
   refine O rfl (St.build (cs := [(.bool (ofZ n.toZ).neg), (.slice a164 (ofZ n.toZ).mag.length c165), (.bool (ofZ d.toZ).neg), (.slice a173 (ofZ d.toZ).mag.length c174)]) rfl (by kernel_rfl) (On (St.storeC (cs' := [(.bool (ofZ n.toZ).neg), (.slice a164 (ofZ n.toZ).mag.length c165), (.bool (ofZ d.toZ).neg), (.slice a173 (ofZ d.toZ).mag.length c174)]) C170 o31 io28 rfl rfl rfl rfl rfl rfl ?_)))
   intro w176 C177 s178 o179
   replace h166 := (h166.sp s171).sp s178
   replace h175 := h175.sp s178
   refine Nl (W.ret (Jf rfl (resV.c o179 rfl ag28 rfl) (Ret.intro ?_ C177.below)))
   exact RV.eqv (a := (⟨⟨(ofZ n.toZ).neg, (ofZ n.toZ).mag⟩, ⟨(ofZ d.toZ).neg, (ofZ d.toZ).mag⟩⟩ : GRat)) ((Zp h166 h175).tr (Tr.weak C177.base)) ((Jtn (of_decide_eq_true hb133)).elim)
  refine Nl (W.condF rfl (W.skip (W.seq (W.drawC Zc 5 [[], [], [0, 1], [], []] C130 [fx (.agg #[(.bool n.neg), (.slice a1 n.mag.length c2)]), fx (.agg #[(.bool (ofZ (-((Int.gcd n.toZ d.toZ : Nat) : Int))).neg), (.slice a89 (ofZ (-((Int.gcd n.toZ d.toZ : Nat) : Int))).mag.length c90)]), fr Jv (ofZ (n.toZ / (-((Int.gcd n.toZ d.toZ : Nat) : Int)))), fx (.agg #[(.bool d.neg), (.slice a4 d.mag.length c5)]), fx (.agg #[(.bool (ofZ (-((Int.gcd n.toZ d.toZ : Nat) : Int))).neg), (.slice a89 (ofZ (-((Int.gcd n.toZ d.toZ : Nat) : Int))).mag.length c90)])] (by kernel_rfl) ⟨sx, sx, sr, sx, sx, trivial⟩ fun f189 s190 w191 ⟨C194, S195⟩ k193 => ?_))))
  replace h3 := (h3.sp s131).sp S195
  replace h6 := (h6.sp s131).sp S195
  replace h91 := (h91.sp s131).sp S195
  replace o14 := (o14.spn s131).spn S195
  replace o22 := (o22.spn s131).spn S195
  replace o95 := (o95.spn s131).spn S195
  have k193 : Keep [26, 27, 28, 29, 30] _ f189 := k193
  refine ⟨⟨fun _ => ?_, fun _ => ?_, fun ⟨e200, e201, _⟩ => ?_, fun _ => ?_, fun _ => ?_, trivial⟩, fun ⟨e202, e203, d204, e205, e206, _⟩ => ?_⟩
  ·exact Ja k193 aN fun _ => OpSt.op (St.loadOA (vs := [(.bool n.neg), (.slice a1 n.mag.length c2)]) o14 ag26 rfl rfl rfl ⟨s190, RC.same C194, rfl⟩)
  ·exact Ja k193 aN fun _ => OpSt.op (St.loadOA (vs := [(.bool (ofZ (-((Int.gcd n.toZ d.toZ : Nat) : Int))).neg), (.slice a89 (ofZ (-((Int.gcd n.toZ d.toZ : Nat) : Int))).mag.length c90)]) o95 ag26 rfl rfl rfl ⟨s190, RC.same C194, rfl⟩)
  ·refine Ja k193 (aC e200 (aC e201 aN)) fun _ => OpSt.op (St.callR C194 Jlj rfl rfl (Q0 C194.bd (a := n) (Jj h3) (b := (ofZ (-((Int.gcd n.toZ d.toZ : Nat) : Int)))) (Jj h91) (by omega) (by first | omega | (rw [Zq]; omega)) (by rw [Kb]; have h7 := hne; omega)) ?_)
   intro v207 w208 C209 s210 h211
   simp only [Jp, Yv] at h211
   exact ⟨s190, ⟨C209, s210⟩, h211⟩
  ·exact Ja k193 aN fun _ => OpSt.op (St.loadOA (vs := [(.bool d.neg), (.slice a4 d.mag.length c5)]) o22 ag26 rfl rfl rfl ⟨s190, RC.same C194, rfl⟩)
  ·exact Ja k193 aN fun _ => OpSt.op (St.loadOA (vs := [(.bool (ofZ (-((Int.gcd n.toZ d.toZ : Nat) : Int))).neg), (.slice a89 (ofZ (-((Int.gcd n.toZ d.toZ : Nat) : Int))).mag.length c90)]) o95 ag26 rfl rfl rfl ⟨s190, RC.same C194, rfl⟩)
  obtain ⟨a213, c214, e212, h215⟩ := RV.int d204
  obtain ⟨f216, rfl⟩ := mixK k193 (aC e202 (aC e203 (aC e212 (aC e205 (aC e206 aN)))))
  refine O rfl (St.callR C194 Jlj rfl rfl (Q0 C194.bd (a := d) (Jj h6) (b := (ofZ (-((Int.gcd n.toZ d.toZ : Nat) : Int)))) (Jj h91) (by omega) (by first | omega | (rw [Zq]; omega)) (by rw [Kb]; have h7 := hne; omega)) ?_)
  intro v217 w218 C219 s220 h221
  replace o31 := (o31.spn S195).spn s220
  simp only [Jp, Yv] at h221
  obtain ⟨a222, c223, rfl, h224⟩ := RV.int h221
  refine O rfl (St.build (cs := [(.bool (ofZ (n.toZ / (-((Int.gcd n.toZ d.toZ : Nat) : Int)))).neg), (.slice a213 (ofZ (n.toZ / (-((Int.gcd n.toZ d.toZ : Nat) : Int)))).mag.length c214), (.bool (ofZ (d.toZ / (-((Int.gcd n.toZ d.toZ : Nat) : Int)))).neg), (.slice a222 (ofZ (d.toZ / (-((Int.gcd n.toZ d.toZ : Nat) : Int)))).mag.length c223)]) rfl (by kernel_rfl) (On (St.storeC (cs' := [(.bool (ofZ (n.toZ / (-((Int.gcd n.toZ d.toZ : Nat) : Int)))).neg), (.slice a213 (ofZ (n.toZ / (-((Int.gcd n.toZ d.toZ : Nat) : Int)))).mag.length c214), (.bool (ofZ (d.toZ / (-((Int.gcd n.toZ d.toZ : Nat) : Int)))).neg), (.slice a222 (ofZ (d.toZ / (-((Int.gcd n.toZ d.toZ : Nat) : Int)))).mag.length c223)]) C219 o31 io28 rfl rfl rfl rfl rfl rfl ?_)))
  intro w225 C226 s227 o228
  replace h215 := (h215.sp s220).sp s227
  replace h224 := h224.sp s227
  refine Nl (W.ret (Jf rfl (resV.c o228 rfl ag28 rfl) (Ret.intro ?_ C226.below)))
  exact RV.eqv (a := (⟨⟨(ofZ (n.toZ / (-((Int.gcd n.toZ d.toZ : Nat) : Int)))).neg, (ofZ (n.toZ / (-((Int.gcd n.toZ d.toZ : Nat) : Int)))).mag⟩, ⟨(ofZ (d.toZ / (-((Int.gcd n.toZ d.toZ : Nat) : Int)))).neg, (ofZ (d.toZ / (-((Int.gcd n.toZ d.toZ : Nat) : Int)))).mag⟩⟩ : GRat)) ((Zp h215 h224).tr (Tr.weak C226.base)) (Jt1 hc83)
 refine Nl (W.condF rfl (W.skip (W.seq (W.seq (W.drawC Zc 2 [[], []] C80 [fx (.agg #[(.bool (ofZ ((Int.gcd n.toZ d.toZ : Nat) : Int)).neg), (.slice a60 (ofZ ((Int.gcd n.toZ d.toZ : Nat) : Int)).mag.length c61)]), fr Jv (ofZ 1)] (by kernel_rfl) ⟨sx, sr, trivial⟩ fun f238 s239 w240 ⟨C243, S244⟩ k242 => ?_)))))
 replace h3 := (h3.sp s81).sp S244
 replace h6 := (h6.sp s81).sp S244
 replace h62 := h62.sp S244
 replace o14 := (o14.spn s81).spn S244
 replace o22 := (o22.spn s81).spn S244
 replace o77 := o77.spn S244
 have k242 : Keep [18, 19] _ f238 := k242
 refine ⟨⟨fun _ => ?_, fun _ => ?_, trivial⟩, fun ⟨e249, d250, _⟩ => ?_⟩
 ·exact Ja k242 aN fun _ => OpSt.op (St.loadOA (vs := [(.bool (ofZ ((Int.gcd n.toZ d.toZ : Nat) : Int)).neg), (.slice a60 (ofZ ((Int.gcd n.toZ d.toZ : Nat) : Int)).mag.length c61)]) o77 ag26 rfl rfl rfl ⟨s239, RC.same C243, rfl⟩)
 ·refine Ja k242 aN fun _ => OpSt.op (St.callR C243 Jk5 rfl rfl (x_of C243.bd (by decide) (by decide)) ?_)
  intro v251 w252 C253 s254 h255
  exact ⟨s239, ⟨C253, s254⟩, h255⟩
 obtain ⟨a257, c258, e256, h259⟩ := RV.int d250
 obtain ⟨f260, rfl⟩ := mixK k242 (aC e249 (aC e256 aN))
 refine O rfl (St.bool (St.callR C243 Jtc rfl rfl (Jn1 C243.bd (a := (ofZ ((Int.gcd n.toZ d.toZ : Nat) : Int))) (Jj h62) (b := (ofZ 1)) (Jj h259) (by first | omega | (rw [Zq]; omega)) (by decide)) ?_))
 intro v261 w262 C263 s264 h265
 replace o31 := (o31.spn S244).spn s264
 refine ⟨_, h265, fun hb266 => ?_, fun hb266 => ?_⟩
 ·refine Nl (W.condT rfl (W.seq (W.drawC Zc 3 [[], [0], []] C263 [fx (.agg #[(.bool n.neg), (.slice a1 n.mag.length c2)]), fr Jv (ofZ n.toZ), fx (.agg #[(.bool d.neg), (.slice a4 d.mag.length c5)])] (by kernel_rfl) ⟨sx, sr, sx, trivial⟩ fun f276 s277 w278 ⟨C281, S282⟩ k280 => ?_)))
  replace h3 := (h3.sp s264).sp S282
  replace h6 := (h6.sp s264).sp S282
  replace o14 := (o14.spn s264).spn S282
  replace o22 := (o22.spn s264).spn S282
  have k280 : Keep [21, 22, 23] _ f276 := k280
  refine ⟨⟨fun _ => ?_, fun ⟨e287, _⟩ => ?_, fun _ => ?_, trivial⟩, fun ⟨e288, d289, e290, _⟩ => ?_⟩
  ·exact Ja k280 aN fun _ => OpSt.op (St.loadOA (vs := [(.bool n.neg), (.slice a1 n.mag.length c2)]) o14 ag26 rfl rfl rfl ⟨s277, RC.same C281, rfl⟩)
  ·refine Ja k280 (aC e287 aN) fun _ => OpSt.op (St.callR C281 qw rfl rfl (Q7 C281.bd (a := n) (Jj h3) (by omega)) ?_)
   intro v291 w292 C293 s294 h295
   exact ⟨s277, ⟨C293, s294⟩, h295⟩
  ·exact Ja k280 aN fun _ => OpSt.op (St.loadOA (vs := [(.bool d.neg), (.slice a4 d.mag.length c5)]) o22 ag26 rfl rfl rfl ⟨s277, RC.same C281, rfl⟩)
  obtain ⟨a297, c298, e296, h299⟩ := RV.int d289
  obtain ⟨f300, rfl⟩ := mixK k280 (aC e288 (aC e296 (aC e290 aN)))
  refine O rfl (St.callR C281 qw rfl rfl (Q7 C281.bd (a := d) (Jj h6) (by omega)) ?_)
  intro v301 w302 C303 s304 h305
  replace o31 := (o31.spn S282).spn s304
  obtain ⟨a306, c307, rfl, h308⟩ := RV.int h305
  refine O rfl (St.build (cs := [(.bool (ofZ n.toZ).neg), (.slice a297 (ofZ n.toZ).mag.length c298), (.bool (ofZ d.toZ).neg), (.slice a306 (ofZ d.toZ).mag.length c307)]) rfl (by kernel_rfl) (On (St.storeC (cs' := [(.bool (ofZ n.toZ).neg), (.slice a297 (ofZ n.toZ).mag.length c298), (.bool (ofZ d.toZ).neg), (.slice a306 (ofZ d.toZ).mag.length c307)]) C303 o31 io28 rfl rfl rfl rfl rfl rfl ?_)))
  intro w309 C310 s311 o312
  replace h299 := (h299.sp s304).sp s311
  replace h308 := h308.sp s311
  refine Nl (W.ret (Jf rfl (resV.c o312 rfl ag28 rfl) (Ret.intro ?_ C310.below)))
  exact RV.eqv (a := (⟨⟨(ofZ n.toZ).neg, (ofZ n.toZ).mag⟩, ⟨(ofZ d.toZ).neg, (ofZ d.toZ).mag⟩⟩ : GRat)) ((Zp h299 h308).tr (Tr.weak C310.base)) (Vz (Jnt (n := n.toZ) hc39 hc83) (Yt.1 (of_decide_eq_true hb266)))
 refine Nl (W.condF rfl (W.skip (W.seq (W.drawC Zc 5 [[], [], [0, 1], [], []] C263 [fx (.agg #[(.bool n.neg), (.slice a1 n.mag.length c2)]), fx (.agg #[(.bool (ofZ ((Int.gcd n.toZ d.toZ : Nat) : Int)).neg), (.slice a60 (ofZ ((Int.gcd n.toZ d.toZ : Nat) : Int)).mag.length c61)]), fr Jv (ofZ (n.toZ / ((Int.gcd n.toZ d.toZ : Nat) : Int))), fx (.agg #[(.bool d.neg), (.slice a4 d.mag.length c5)]), fx (.agg #[(.bool (ofZ ((Int.gcd n.toZ d.toZ : Nat) : Int)).neg), (.slice a60 (ofZ ((Int.gcd n.toZ d.toZ : Nat) : Int)).mag.length c61)])] (by kernel_rfl) ⟨sx, sx, sr, sx, sx, trivial⟩ fun f322 s323 w324 ⟨C327, S328⟩ k326 => ?_))))
 replace h3 := (h3.sp s264).sp S328
 replace h6 := (h6.sp s264).sp S328
 replace h62 := (h62.sp s264).sp S328
 replace o14 := (o14.spn s264).spn S328
 replace o22 := (o22.spn s264).spn S328
 replace o77 := (o77.spn s264).spn S328
 have k326 : Keep [26, 27, 28, 29, 30] _ f322 := k326
 refine ⟨⟨fun _ => ?_, fun _ => ?_, fun ⟨e333, e334, _⟩ => ?_, fun _ => ?_, fun _ => ?_, trivial⟩, fun ⟨e335, e336, d337, e338, e339, _⟩ => ?_⟩
 ·exact Ja k326 aN fun _ => OpSt.op (St.loadOA (vs := [(.bool n.neg), (.slice a1 n.mag.length c2)]) o14 ag26 rfl rfl rfl ⟨s323, RC.same C327, rfl⟩)
 ·exact Ja k326 aN fun _ => OpSt.op (St.loadOA (vs := [(.bool (ofZ ((Int.gcd n.toZ d.toZ : Nat) : Int)).neg), (.slice a60 (ofZ ((Int.gcd n.toZ d.toZ : Nat) : Int)).mag.length c61)]) o77 ag26 rfl rfl rfl ⟨s323, RC.same C327, rfl⟩)
 ·refine Ja k326 (aC e333 (aC e334 aN)) fun _ => OpSt.op (St.callR C327 Jlj rfl rfl (Q0 C327.bd (a := n) (Jj h3) (b := (ofZ ((Int.gcd n.toZ d.toZ : Nat) : Int))) (Jj h62) (by omega) (by first | omega | (rw [Zq]; omega)) (by rw [Kb]; have h7 := hne; omega)) ?_)
  intro v340 w341 C342 s343 h344
  simp only [Jp, Yv] at h344
  exact ⟨s323, ⟨C342, s343⟩, h344⟩
 ·exact Ja k326 aN fun _ => OpSt.op (St.loadOA (vs := [(.bool d.neg), (.slice a4 d.mag.length c5)]) o22 ag26 rfl rfl rfl ⟨s323, RC.same C327, rfl⟩)
 ·exact Ja k326 aN fun _ => OpSt.op (St.loadOA (vs := [(.bool (ofZ ((Int.gcd n.toZ d.toZ : Nat) : Int)).neg), (.slice a60 (ofZ ((Int.gcd n.toZ d.toZ : Nat) : Int)).mag.length c61)]) o77 ag26 rfl rfl rfl ⟨s323, RC.same C327, rfl⟩)
 obtain ⟨a346, c347, e345, h348⟩ := RV.int d337
 obtain ⟨f349, rfl⟩ := mixK k326 (aC e335 (aC e336 (aC e345 (aC e338 (aC e339 aN)))))
 refine O rfl (St.callR C327 Jlj rfl rfl (Q0 C327.bd (a := d) (Jj h6) (b := (ofZ ((Int.gcd n.toZ d.toZ : Nat) : Int))) (Jj h62) (by omega) (by first | omega | (rw [Zq]; omega)) (by rw [Kb]; have h7 := hne; omega)) ?_)
 intro v350 w351 C352 s353 h354
 replace o31 := (o31.spn S328).spn s353
 simp only [Jp, Yv] at h354
 obtain ⟨a355, c356, rfl, h357⟩ := RV.int h354
 refine O rfl (St.build (cs := [(.bool (ofZ (n.toZ / ((Int.gcd n.toZ d.toZ : Nat) : Int))).neg), (.slice a346 (ofZ (n.toZ / ((Int.gcd n.toZ d.toZ : Nat) : Int))).mag.length c347), (.bool (ofZ (d.toZ / ((Int.gcd n.toZ d.toZ : Nat) : Int))).neg), (.slice a355 (ofZ (d.toZ / ((Int.gcd n.toZ d.toZ : Nat) : Int))).mag.length c356)]) rfl (by kernel_rfl) (On (St.storeC (cs' := [(.bool (ofZ (n.toZ / ((Int.gcd n.toZ d.toZ : Nat) : Int))).neg), (.slice a346 (ofZ (n.toZ / ((Int.gcd n.toZ d.toZ : Nat) : Int))).mag.length c347), (.bool (ofZ (d.toZ / ((Int.gcd n.toZ d.toZ : Nat) : Int))).neg), (.slice a355 (ofZ (d.toZ / ((Int.gcd n.toZ d.toZ : Nat) : Int))).mag.length c356)]) C352 o31 io28 rfl rfl rfl rfl rfl rfl ?_)))
 intro w358 C359 s360 o361
 replace h348 := (h348.sp s353).sp s360
 replace h357 := h357.sp s360
 refine Nl (W.ret (Jf rfl (resV.c o361 rfl ag28 rfl) (Ret.intro ?_ C359.below)))
 exact RV.eqv (a := (⟨⟨(ofZ (n.toZ / ((Int.gcd n.toZ d.toZ : Nat) : Int))).neg, (ofZ (n.toZ / ((Int.gcd n.toZ d.toZ : Nat) : Int))).mag⟩, ⟨(ofZ (d.toZ / ((Int.gcd n.toZ d.toZ : Nat) : Int))).neg, (ofZ (d.toZ / ((Int.gcd n.toZ d.toZ : Nat) : Int))).mag⟩⟩ : GRat)) ((Zp h348 h357).tr (Tr.weak C359.base)) (zl (Jnt (n := n.toZ) hc39 hc83))
set_option maxHeartbeats 1000000 in
theorem Jcn {X : Nat → Prop} {w : World} (hX : ∀ b, X b → b < w.heap.size) {v0 : Value} {a : GRat} (r0 : RV Yk X w v0 a) (hln : a.num.mag.length ≤ 536870912) (hld : a.den.mag.length ≤ 536870912) : Calls Tryz.prog 42 #[v0] w (Ret w fun v w' => RV Yk X w' v (ofQ a.q)) := by
 obtain ⟨a1, c2, a3, c4, rfl, h5, h6⟩ := RV.rat r0
 have C := Cx.start hX
 have sn := r0.rat_small.1
 have sd := r0.rat_small.2
 refine Calls.ofW (args := [(.agg #[(.bool a.num.neg), (.slice a1 a.num.mag.length c2), (.bool a.den.neg), (.slice a3 a.den.mag.length c4)])]) Tryz.func42 rfl rfl (Nat.le_of_ble_eq_true rfl) (Rg (O rfl (St.boxC C rfl ?_)))
 intro g7 w8 x9 y10 lt11 C12 s13 o14
 refine O rfl (St.allocC C12 io28 rfl ?_)
 intro g15 w16 x17 y18 lt19 C20 s21 o22
 replace h5 := (h5.sp s13).sp s21
 replace h6 := (h6.sp s13).sp s21
 replace o14 := o14.spn s21
 refine Nl (Rg (O rfl (St.fieldAddr Kt rfl (O rfl (St.loadOA (vs := [(.bool a.num.neg), (.slice a1 a.num.mag.length c2)]) o14 ag26 rfl rfl rfl (O rfl (St.fieldAddr Ym rfl (O rfl (St.loadOA (vs := [(.bool a.den.neg), (.slice a3 a.den.mag.length c4)]) o14 ag26 rfl rfl rfl (O rfl (St.callR C20 cb77 rfl rfl (Jkg C20.bd (n := a.num) (Jj h5) (d := a.den) (Jj h6) (by omega) (by omega)) ?_)))))))))))
 intro v24 w25 C26 s27 h28
 replace o22 := o22.spn s27
 obtain ⟨a29, c30, a31, c32, rfl, h33, h34⟩ := RV.rat h28
 refine On (St.storeC (cs' := [(.bool (ofQ (Rat.divInt a.num.toZ a.den.toZ)).num.neg), (.slice a29 (ofQ (Rat.divInt a.num.toZ a.den.toZ)).num.mag.length c30), (.bool (ofQ (Rat.divInt a.num.toZ a.den.toZ)).den.neg), (.slice a31 (ofQ (Rat.divInt a.num.toZ a.den.toZ)).den.mag.length c32)]) C26 o22 io28 rfl rfl rfl rfl rfl rfl ?_)
 intro w35 C36 s37 o38
 replace h33 := h33.sp s37
 replace h34 := h34.sp s37
 refine Nl (W.ret (Jf rfl (resV.c o38 rfl ag28 rfl) (Ret.intro ?_ C36.below)))
 exact RV.eqv (a := (ofQ (Rat.divInt a.num.toZ a.den.toZ))) ((Zp h33 h34).tr (Tr.weak C36.base)) rfl
set_option maxHeartbeats 1000000 in
theorem Jt3 {X : Nat → Prop} {w : World} (hX : ∀ b, X b → b < w.heap.size) {v0 : Value} {a : GRat} (r0 : RV Yk X w v0 a) (hln : a.num.mag.length ≤ 536870912) (hld : a.den.mag.length ≤ 536870912) : Calls Tryz.prog 102 #[v0] w (Ret w fun v w' => RV Yk X w' v (ofQ (-a.q))) := by
 obtain ⟨a1, c2, a3, c4, rfl, h5, h6⟩ := RV.rat r0
 have C := Cx.start hX
 have sn := r0.rat_small.1
 have sd := r0.rat_small.2
 have hN := J1 sn
 refine Calls.ofW (args := [(.agg #[(.bool a.num.neg), (.slice a1 a.num.mag.length c2), (.bool a.den.neg), (.slice a3 a.den.mag.length c4)])]) Tryz.func102 rfl rfl (Nat.le_of_ble_eq_true rfl) (Rg (O rfl (St.boxC C rfl ?_)))
 intro g7 w8 x9 y10 lt11 C12 s13 o14
 replace h5 := h5.sp s13
 replace h6 := h6.sp s13
 refine O rfl (St.allocC C12 io28 rfl ?_)
 intro g15 w16 x17 y18 lt19 C20 s21 o22
 refine Nl (W.seq (W.drawC Zc 5 [[], [0], [1], [], [3]] C20 [fx (.pointer (some ⟨g7, 0, none⟩)), fx (.agg #[(.bool a.num.neg), (.slice a1 a.num.mag.length c2)]), fr Jv (ofZ (-a.num.toZ)), fx (.pointer (some ⟨g7, 2, none⟩)), fx (.agg #[(.bool a.den.neg), (.slice a3 a.den.mag.length c4)])] (by kernel_rfl) ⟨sx, sx, sr, sx, sx, trivial⟩ fun f33 s34 w35 ⟨C38, S39⟩ k37 => ?_))
 replace h5 := (h5.sp s21).sp S39
 replace h6 := (h6.sp s21).sp S39
 replace o14 := (o14.spn s21).spn S39
 have k37 : Keep [3, 4, 5, 6, 7] _ f33 := k37
 refine ⟨⟨fun _ => ?_, fun ⟨e42, _⟩ => ?_, fun ⟨e43, _⟩ => ?_, fun _ => ?_, fun ⟨e44, _⟩ => ?_, trivial⟩, fun ⟨e45, e46, d47, e48, e49, _⟩ => ?_⟩
 ·exact Ja k37 aN fun _ => OpSt.op (St.fieldAddr Kt rfl ⟨s34, RC.same C38, rfl⟩)
 ·exact Ja k37 (aC e42 aN) fun _ => OpSt.op (St.loadOA (vs := [(.bool a.num.neg), (.slice a1 a.num.mag.length c2)]) o14 ag26 rfl rfl rfl ⟨s34, RC.same C38, rfl⟩)
 ·refine Ja k37 (aC e43 aN) fun _ => OpSt.op (St.callR C38 Jq8 rfl rfl (Jqt C38.bd (a := a.num) (Jj h5) (by omega)) ?_)
  intro v50 w51 C52 s53 h54
  exact ⟨s34, ⟨C52, s53⟩, h54⟩
 ·exact Ja k37 aN fun _ => OpSt.op (St.fieldAddr Ym rfl ⟨s34, RC.same C38, rfl⟩)
 ·exact Ja k37 (aC e44 aN) fun _ => OpSt.op (St.loadOA (vs := [(.bool a.den.neg), (.slice a3 a.den.mag.length c4)]) o14 ag26 rfl rfl rfl ⟨s34, RC.same C38, rfl⟩)
 obtain ⟨a56, c57, e55, h58⟩ := RV.int d47
 obtain ⟨f59, rfl⟩ := mixK k37 (aC e45 (aC e46 (aC e55 (aC e48 (aC e49 aN)))))
 refine O rfl (St.callR C38 cb77 rfl rfl (Jkg C38.bd (n := (ofZ (-a.num.toZ))) (Jj h58) (d := a.den) (Jj h6) (by rw [Zq]; omega) (by omega)) ?_)
 intro v60 w61 C62 s63 h64
 replace o22 := (o22.spn S39).spn s63
 simp only [Jp, Yv] at h64
 obtain ⟨a65, c66, a67, c68, rfl, h69, h70⟩ := RV.rat h64
 refine On (St.storeC (cs' := [(.bool (ofQ (Rat.divInt (-a.num.toZ) a.den.toZ)).num.neg), (.slice a65 (ofQ (Rat.divInt (-a.num.toZ) a.den.toZ)).num.mag.length c66), (.bool (ofQ (Rat.divInt (-a.num.toZ) a.den.toZ)).den.neg), (.slice a67 (ofQ (Rat.divInt (-a.num.toZ) a.den.toZ)).den.mag.length c68)]) C62 o22 io28 rfl rfl rfl rfl rfl rfl ?_)
 intro w71 C72 s73 o74
 replace h69 := h69.sp s73
 replace h70 := h70.sp s73
 refine Nl (W.ret (Jf rfl (resV.c o74 rfl ag28 rfl) (Ret.intro ?_ C72.below)))
 exact RV.eqv (a := (ofQ (Rat.divInt (-a.num.toZ) a.den.toZ))) ((Zp h69 h70).tr (Tr.weak C72.base)) (congrArg ofQ (Jwq a))
set_option maxHeartbeats 1000000 in
theorem Jqk {X : Nat → Prop} {w : World} (hX : ∀ b, X b → b < w.heap.size) {v0 : Value} {a : GRat} (r0 : RV Yk X w v0 a) (hln : a.num.mag.length ≤ 1099511627776) (hld : a.den.mag.length ≤ 1099511627776) : Calls Tryz.prog 82 #[v0] w (Ret w fun v w' => v = (.int .i64 (qv a.q))) := by
 obtain ⟨a1, c2, a3, c4, rfl, h5, h6⟩ := RV.rat r0
 have C := Cx.start hX
 have sn := r0.rat_small.1
 have sd := r0.rat_small.2
 have hb1 := qe a.num.toZ a.den.toZ
 refine Calls.ofW (args := [(.agg #[(.bool a.num.neg), (.slice a1 a.num.mag.length c2), (.bool a.den.neg), (.slice a3 a.den.mag.length c4)])]) Tryz.func82 rfl rfl (Nat.le_of_ble_eq_true rfl) (Rg (O rfl (St.boxC C rfl ?_)))
 intro g7 w8 x9 y10 lt11 C12 s13 o14
 refine Oa (Nl (W.seq (W.drawC Zc 5 [[], [0], [1], [], [3]] C12 [fx (.pointer (some ⟨g7, 0, none⟩)), fx (.agg #[(.bool a.num.neg), (.slice a1 a.num.mag.length c2)]), fx (.int .i64 a.num.toZ.sign), fx (.pointer (some ⟨g7, 2, none⟩)), fx (.agg #[(.bool a.den.neg), (.slice a3 a.den.mag.length c4)])] (by kernel_rfl) ⟨sx, sx, sx, sx, sx, trivial⟩ fun f21 s22 w23 ⟨C26, S27⟩ k25 => ?_)))
 replace h5 := (h5.sp s13).sp S27
 replace h6 := (h6.sp s13).sp S27
 replace o14 := o14.spn S27
 have k25 : Keep [3, 4, 5, 6, 7] _ f21 := k25
 refine ⟨⟨fun _ => ?_, fun ⟨e29, _⟩ => ?_, fun ⟨e30, _⟩ => ?_, fun _ => ?_, fun ⟨e31, _⟩ => ?_, trivial⟩, fun ⟨e32, e33, e34, e35, e36, _⟩ => ?_⟩
 ·exact Ja k25 aN fun _ => OpSt.op (St.fieldAddr Kt rfl ⟨s22, RC.same C26, rfl⟩)
 ·exact Ja k25 (aC e29 aN) fun _ => OpSt.op (St.loadOA (vs := [(.bool a.num.neg), (.slice a1 a.num.mag.length c2)]) o14 ag26 rfl rfl rfl ⟨s22, RC.same C26, rfl⟩)
 ·refine Ja k25 (aC e30 aN) fun _ => OpSt.op (St.callR C26 Jln rfl rfl (Je0 C26.bd (a := a.num) (Jj h5) (by omega)) ?_)
  intro v37 w38 C39 s40 h41
  exact ⟨s22, ⟨C39, s40⟩, h41⟩
 ·exact Ja k25 aN fun _ => OpSt.op (St.fieldAddr Ym rfl ⟨s22, RC.same C26, rfl⟩)
 ·exact Ja k25 (aC e31 aN) fun _ => OpSt.op (St.loadOA (vs := [(.bool a.den.neg), (.slice a3 a.den.mag.length c4)]) o14 ag26 rfl rfl rfl ⟨s22, RC.same C26, rfl⟩)
 obtain ⟨f42, rfl⟩ := mixK k25 (aC e32 (aC e33 (aC e34 (aC e35 (aC e36 aN)))))
 refine O rfl (St.callR C26 Jln rfl rfl (Je0 C26.bd (a := a.den) (Jj h6) (by omega)) ?_)
 intro v43 w44 C45 s46 h47
 subst h47
 exact O rfl (St.mul (z := (a.num.toZ.sign * a.den.toZ.sign)) rfl rfl (IntWalk.i64_in _ (by omega)) (Oa (Nl (W.ret (Jf rfl (resV.t rfl) (Ret.intro (congrArg (Value.int _) (Jn9 a)) C45.below))))))
set_option maxHeartbeats 2000000 in
theorem Jui {X : Nat → Prop} {w : World} (hX : ∀ b, X b → b < w.heap.size) {v0 : Value} {a : GRat} (r0 : RV Yk X w v0 a) {v1 : Value} {b : GRat} (r1 : RV Yk X w v1 b) (hln : a.num.mag.length ≤ 100000000) (hld : a.den.mag.length ≤ 100000000) (hlm : b.num.mag.length ≤ 100000000) (hle : b.den.mag.length ≤ 100000000) : Calls Tryz.prog 125 #[v0, v1] w (Ret w fun v w' => RV Yk X w' v (ofQ (a.q + b.q))) := by
 obtain ⟨a1, c2, a3, c4, rfl, h5, h6⟩ := RV.rat r0
 obtain ⟨a7, c8, a9, c10, rfl, h11, h12⟩ := RV.rat r1
 have C := Cx.start hX
 have sn := r0.rat_small.1
 have sd := r0.rat_small.2
 have sm := r1.rat_small.1
 have se := r1.rat_small.2
 have hN := Kn sn
 have hD := Ko sd
 have hM := Kn sm
 have hE := Ko se
 have m1 := Xm (x := (ofQ a.q).num.toZ) (y := (ofQ b.q).den.toZ)
 have m2 := Xm (x := (ofQ b.q).num.toZ) (y := (ofQ a.q).den.toZ)
 have m3 := Xm (x := (ofQ a.q).den.toZ) (y := (ofQ b.q).den.toZ)
 have m4 := Jay (x := (ofQ a.q).num.toZ * (ofQ b.q).den.toZ) (y := (ofQ b.q).num.toZ * (ofQ a.q).den.toZ)
 simp only [Ja8, Jcq] at m1 m2 m3
 refine Calls.ofW (args := [(.agg #[(.bool a.num.neg), (.slice a1 a.num.mag.length c2), (.bool a.den.neg), (.slice a3 a.den.mag.length c4)]), (.agg #[(.bool b.num.neg), (.slice a7 b.num.mag.length c8), (.bool b.den.neg), (.slice a9 b.den.mag.length c10)])]) Tryz.func125 rfl rfl (Nat.le_of_ble_eq_true rfl) (Rg (O rfl (St.boxC C rfl ?_)))
 intro g13 w14 x15 y16 lt17 C18 s19 o20
 refine O rfl (St.boxC C18 rfl ?_)
 intro g21 w22 x23 y24 lt25 C26 s27 o28
 replace h5 := (h5.sp s19).sp s27
 replace h6 := (h6.sp s19).sp s27
 replace h11 := (h11.sp s19).sp s27
 replace h12 := (h12.sp s19).sp s27
 refine O rfl (St.allocC C26 io28 rfl ?_)
 intro g30 w31 x32 y33 lt34 C35 s36 o37
 replace o20 := (o20.spn s27).spn s36
 replace o28 := o28.spn s36
 refine Nl (W.seq (W.drawS Zc 6 [[], [0], [], [2], [], []] ((x32, y33), Jgz) (RL X w) [fx (.agg #[(.bool a.num.neg), (.slice a1 a.num.mag.length c2), (.bool a.den.neg), (.slice a3 a.den.mag.length c4)]), fun (s : GhL) (v : Value) (w' : World) => RV Yk s.1.1 w' v (ofQ a.q), fx (.agg #[(.bool b.num.neg), (.slice a7 b.num.mag.length c8), (.bool b.den.neg), (.slice a9 b.den.mag.length c10)]), fun (s : GhL) (v : Value) (w' : World) => RV Yk s.1.1 w' v (ofQ b.q), fun (s : GhL) (v : Value) (w' : World) => ∃ g' : Nat, v = .pointer (some ⟨g', 0, none⟩) ∧ Own w s.1.2 w' g' [(.bool false), (.slice none 0 0), (.bool false), (.slice none 0 0)] 28 ∧ w31.heap.size ≤ g' ∧ s.2 g' = some 4, fun (s : GhL) (v : Value) (w' : World) => ∃ g' : Nat, v = .pointer (some ⟨g', 0, none⟩) ∧ Own w s.1.2 w' g' [(.bool false), (.slice none 0 0), (.bool false), (.slice none 0 0)] 28 ∧ w31.heap.size ≤ g' ∧ s.2 g' = some 5] (by kernel_rfl) (RL.draw C35) RL.trans ⟨sx, (fun _ _ _ _ _ h r => RV.tr h r.rc.sp.tx), sx, (fun _ _ _ _ _ h r => RV.tr h r.rc.sp.tx), (fun _ _ _ _ _ ⟨g, e, o, l, q⟩ r => ⟨g, e, o.spn r.rc.sp, l, r.ext _ _ q⟩), (fun _ _ _ _ _ ⟨g, e, o, l, q⟩ r => ⟨g, e, o.spn r.rc.sp, l, r.ext _ _ q⟩), trivial⟩ fun f86 s87 w88 r89 k90 => ?_))
 have C91 := r89.rc.cx
 have S92 := r89.rc.sp
 have lt93 := o20.blk.lt
 have lt94 := o28.blk.lt
 have lt95 := o37.blk.lt
 have hszS92 := S92.tx.size
 replace h5 := (h5.sp s36).sp S92
 replace h6 := (h6.sp s36).sp S92
 replace h11 := (h11.sp s36).sp S92
 replace h12 := (h12.sp s36).sp S92
 replace o20 := o20.spn S92
 replace o28 := o28.spn S92
 have k90 : Keep [7, 8, 9, 10, 5, 6] _ f86 := k90
 refine ⟨⟨fun _ => ?_, fun ⟨e96, _⟩ => ?_, fun _ => ?_, fun ⟨e97, _⟩ => ?_, fun _ => ?_, fun _ => ?_, trivial⟩, fun ⟨e98, d99, e100, d101, d102, d103, _⟩ => ?_⟩
 ·exact Ja k90 aN fun _ => OpSt.op (St.loadOA (vs := [(.bool a.num.neg), (.slice a1 a.num.mag.length c2), (.bool a.den.neg), (.slice a3 a.den.mag.length c4)]) o20 ag28 rfl rfl rfl ⟨s87, RL.same C91, rfl⟩)
 ·refine Ja k90 (aC e96 aN) fun _ => OpSt.op (St.callR C91 cb42 rfl rfl (Jcn C91.bd (a := a) (Zp h5 h6) (by omega) (by omega)) ?_)
  intro v104 w105 C106 s107 h108
  exact ⟨s87, RL.step ⟨C106, s107⟩, h108⟩
 ·exact Ja k90 aN fun _ => OpSt.op (St.loadOA (vs := [(.bool b.num.neg), (.slice a7 b.num.mag.length c8), (.bool b.den.neg), (.slice a9 b.den.mag.length c10)]) o28 ag28 rfl rfl rfl ⟨s87, RL.same C91, rfl⟩)
 ·refine Ja k90 (aC e97 aN) fun _ => OpSt.op (St.callR C91 cb42 rfl rfl (Jcn C91.bd (a := b) (Zp h11 h12) (by omega) (by omega)) ?_)
  intro v109 w110 C111 s112 h113
  exact ⟨s87, RL.step ⟨C111, s112⟩, h113⟩
 ·refine Ja k90 aN fun _ => OpSt.op (St.allocC C91 io28 rfl ?_)
  intro g114 w115 x116 y117 lt118 C119 s120 o121
  exact ⟨((x116, y117), lab s87.2 g114 4), RL.new (r89.bd fun _ _ h => by cases h) ⟨C119, s120⟩ (Nat.le_of_not_lt fun hh => lt118 _ hh rfl) o121.blk.lt, g114, rfl, o121, Nat.le_of_not_lt fun hh => lt118 _ (Nat.lt_of_lt_of_le hh hszS92) rfl, Ql _ _ _⟩
 ·refine Ja k90 aN fun _ => OpSt.op (St.allocC C91 io28 rfl ?_)
  intro g125 w126 x127 y128 lt129 C130 s131 o132
  exact ⟨((x127, y128), lab s87.2 g125 5), RL.new (r89.bd fun _ _ h => by cases h) ⟨C130, s131⟩ (Nat.le_of_not_lt fun hh => lt129 _ hh rfl) o132.blk.lt, g125, rfl, o132, Nat.le_of_not_lt fun hh => lt129 _ (Nat.lt_of_lt_of_le hh hszS92) rfl, Ql _ _ _⟩
 obtain ⟨a137, c138, a139, c140, e136, h141, h142⟩ := RV.rat d99
 obtain ⟨a144, c145, a146, c147, e143, h148, h149⟩ := RV.rat d101
 obtain ⟨g151, e150, o152, l153, q154⟩ := d102
 have n155 : g13 ≠ g151 := Nat.ne_of_lt (Nat.lt_of_lt_of_le lt93 l153)
 have n156 : g21 ≠ g151 := Nat.ne_of_lt (Nat.lt_of_lt_of_le lt94 l153)
 have n157 : g30 ≠ g151 := Nat.ne_of_lt (Nat.lt_of_lt_of_le lt95 l153)
 obtain ⟨g160, e159, o161, l162, q163⟩ := d103
 have n164 : g13 ≠ g160 := Nat.ne_of_lt (Nat.lt_of_lt_of_le lt93 l162)
 have n165 : g21 ≠ g160 := Nat.ne_of_lt (Nat.lt_of_lt_of_le lt94 l162)
 have n166 : g30 ≠ g160 := Nat.ne_of_lt (Nat.lt_of_lt_of_le lt95 l162)
 have n167 : g151 ≠ g160 := Jfi q154 q163 rfl
 obtain ⟨f169, rfl⟩ := mixK k90 (aC e98 (aC e136 (aC e100 (aC e143 (aC e150 (aC e159 aN))))))
 refine On (St.storeC (cs' := [(.bool (ofQ a.q).num.neg), (.slice a137 (ofQ a.q).num.mag.length c138), (.bool (ofQ a.q).den.neg), (.slice a139 (ofQ a.q).den.mag.length c140)]) C91 o152 io28 rfl rfl rfl rfl rfl rfl ?_)
 intro w170 C171 s172 o173
 replace h141 := h141.sp s172
 replace h142 := h142.sp s172
 replace h148 := h148.sp s172
 replace h149 := h149.sp s172
 replace o37 := (o37.spn S92).spo s172 n157
 replace o161 := o161.spo s172 (Ne.symm n167)
 refine On (St.storeC (cs' := [(.bool (ofQ b.q).num.neg), (.slice a144 (ofQ b.q).num.mag.length c145), (.bool (ofQ b.q).den.neg), (.slice a146 (ofQ b.q).den.mag.length c147)]) C171 o161 io28 rfl rfl rfl rfl rfl rfl ?_)
 intro w174 C175 s176 o177
 refine Nl (W.seq (W.drawC Zc 15 [[], [0], [], [2], [1, 3], [], [5], [], [7], [6, 8], [4, 9], [], [11], [], [13]] C175 [fx (.pointer (some ⟨g151, 0, none⟩)), fx (.agg #[(.bool (ofQ a.q).num.neg), (.slice a137 (ofQ a.q).num.mag.length c138)]), fx (.pointer (some ⟨g160, 2, none⟩)), fx (.agg #[(.bool (ofQ b.q).den.neg), (.slice a146 (ofQ b.q).den.mag.length c147)]), fr Jv (ofZ ((ofQ a.q).num.toZ * (ofQ b.q).den.toZ)), fx (.pointer (some ⟨g160, 0, none⟩)), fx (.agg #[(.bool (ofQ b.q).num.neg), (.slice a144 (ofQ b.q).num.mag.length c145)]), fx (.pointer (some ⟨g151, 2, none⟩)), fx (.agg #[(.bool (ofQ a.q).den.neg), (.slice a139 (ofQ a.q).den.mag.length c140)]), fr Jv (ofZ ((ofQ b.q).num.toZ * (ofQ a.q).den.toZ)), fr Jv (ofZ (((ofQ a.q).num.toZ * (ofQ b.q).den.toZ) + ((ofQ b.q).num.toZ * (ofQ a.q).den.toZ))), fx (.pointer (some ⟨g151, 2, none⟩)), fx (.agg #[(.bool (ofQ a.q).den.neg), (.slice a139 (ofQ a.q).den.mag.length c140)]), fx (.pointer (some ⟨g160, 2, none⟩)), fx (.agg #[(.bool (ofQ b.q).den.neg), (.slice a146 (ofQ b.q).den.mag.length c147)])] (by kernel_rfl) ⟨sx, sx, sx, sx, sr, sx, sx, sx, sx, sr, sr, sx, sx, sx, sx, trivial⟩ fun f203 s204 w205 ⟨C208, S209⟩ k207 => ?_))
 replace h141 := (h141.sp s176).sp S209
 replace h142 := (h142.sp s176).sp S209
 replace h148 := (h148.sp s176).sp S209
 replace h149 := (h149.sp s176).sp S209
 replace o37 := (o37.spo s176 n166).spn S209
 replace o173 := (o173.spo s176 n167).spn S209
 replace o177 := o177.spn S209
 have k207 : Keep [11, 12, 13, 14, 15, 16, 17, 18, 19, 20, 21, 22, 23, 24, 25] _ f203 := k207
 refine ⟨⟨fun _ => ?_, fun ⟨e215, _⟩ => ?_, fun _ => ?_, fun ⟨e216, _⟩ => ?_, fun ⟨e217, e218, _⟩ => ?_, fun _ => ?_, fun ⟨e219, _⟩ => ?_, fun _ => ?_, fun ⟨e220, _⟩ => ?_, fun ⟨e221, e222, _⟩ => ?_, fun ⟨d223, d224, _⟩ => ?_, fun _ => ?_, fun ⟨e225, _⟩ => ?_, fun _ => ?_, fun ⟨e226, _⟩ => ?_, trivial⟩, fun ⟨e227, e228, e229, e230, d231, e232, e233, e234, e235, d236, d237, e238, e239, e240, e241, _⟩ => ?_⟩
 ·exact Ja k207 aN fun _ => OpSt.op (St.fieldAddr Kt rfl ⟨s204, RC.same C208, rfl⟩)
 ·exact Ja k207 (aC e215 aN) fun _ => OpSt.op (St.loadOA (vs := [(.bool (ofQ a.q).num.neg), (.slice a137 (ofQ a.q).num.mag.length c138)]) o173 ag26 rfl rfl rfl ⟨s204, RC.same C208, rfl⟩)
 ·exact Ja k207 aN fun _ => OpSt.op (St.fieldAddr Ym rfl ⟨s204, RC.same C208, rfl⟩)
 ·exact Ja k207 (aC e216 aN) fun _ => OpSt.op (St.loadOA (vs := [(.bool (ofQ b.q).den.neg), (.slice a146 (ofQ b.q).den.mag.length c147)]) o177 ag26 rfl rfl rfl ⟨s204, RC.same C208, rfl⟩)
 ·refine Ja k207 (aC e217 (aC e218 aN)) fun _ => OpSt.op (St.callR C208 Jpp rfl rfl (Jr6 C208.bd (a := (ofQ a.q).num) (Jj h141) (b := (ofQ b.q).den) (Jj h149) (by omega) (by omega)) ?_)
  intro v242 w243 C244 s245 h246
  exact ⟨s204, ⟨C244, s245⟩, h246⟩
 ·exact Ja k207 aN fun _ => OpSt.op (St.fieldAddr Kt rfl ⟨s204, RC.same C208, rfl⟩)
 ·exact Ja k207 (aC e219 aN) fun _ => OpSt.op (St.loadOA (vs := [(.bool (ofQ b.q).num.neg), (.slice a144 (ofQ b.q).num.mag.length c145)]) o177 ag26 rfl rfl rfl ⟨s204, RC.same C208, rfl⟩)
 ·exact Ja k207 aN fun _ => OpSt.op (St.fieldAddr Ym rfl ⟨s204, RC.same C208, rfl⟩)
 ·exact Ja k207 (aC e220 aN) fun _ => OpSt.op (St.loadOA (vs := [(.bool (ofQ a.q).den.neg), (.slice a139 (ofQ a.q).den.mag.length c140)]) o173 ag26 rfl rfl rfl ⟨s204, RC.same C208, rfl⟩)
 ·refine Ja k207 (aC e221 (aC e222 aN)) fun _ => OpSt.op (St.callR C208 Jpp rfl rfl (Jr6 C208.bd (a := (ofQ b.q).num) (Jj h148) (b := (ofQ a.q).den) (Jj h142) (by omega) (by omega)) ?_)
  intro v247 w248 C249 s250 h251
  exact ⟨s204, ⟨C249, s250⟩, h251⟩
 ·obtain ⟨a253, c254, e252, h255⟩ := RV.int d223
  obtain ⟨a257, c258, e256, h259⟩ := RV.int d224
  refine Ja k207 (aC e252 (aC e256 aN)) fun _ => OpSt.op (St.callR C208 Jte rfl rfl (Jun C208.bd (a := (ofZ ((ofQ a.q).num.toZ * (ofQ b.q).den.toZ))) (Jj h255) (b := (ofZ ((ofQ b.q).num.toZ * (ofQ a.q).den.toZ))) (Jj h259) (by omega) (by omega)) ?_)
  intro v260 w261 C262 s263 h264
  simp only [Jp, Yv] at h264
  exact ⟨s204, ⟨C262, s263⟩, h264⟩
 ·exact Ja k207 aN fun _ => OpSt.op (St.fieldAddr Ym rfl ⟨s204, RC.same C208, rfl⟩)
 ·exact Ja k207 (aC e225 aN) fun _ => OpSt.op (St.loadOA (vs := [(.bool (ofQ a.q).den.neg), (.slice a139 (ofQ a.q).den.mag.length c140)]) o173 ag26 rfl rfl rfl ⟨s204, RC.same C208, rfl⟩)
 ·exact Ja k207 aN fun _ => OpSt.op (St.fieldAddr Ym rfl ⟨s204, RC.same C208, rfl⟩)
 ·exact Ja k207 (aC e226 aN) fun _ => OpSt.op (St.loadOA (vs := [(.bool (ofQ b.q).den.neg), (.slice a146 (ofQ b.q).den.mag.length c147)]) o177 ag26 rfl rfl rfl ⟨s204, RC.same C208, rfl⟩)
 obtain ⟨a266, c267, e265, h268⟩ := RV.int d231
 obtain ⟨a270, c271, e269, h272⟩ := RV.int d236
 obtain ⟨a274, c275, e273, h276⟩ := RV.int d237
 obtain ⟨f277, rfl⟩ := mixK k207 (aC e227 (aC e228 (aC e229 (aC e230 (aC e265 (aC e232 (aC e233 (aC e234 (aC e235 (aC e269 (aC e273 (aC e238 (aC e239 (aC e240 (aC e241 aN)))))))))))))))
 refine O rfl (St.callR C208 Jpp rfl rfl (Jr6 C208.bd (a := (ofQ a.q).den) (Jj h142) (b := (ofQ b.q).den) (Jj h149) (by omega) (by omega)) ?_)
 intro v278 w279 C280 s281 h282
 replace h276 := h276.sp s281
 obtain ⟨a283, c284, rfl, h285⟩ := RV.int h282
 refine O rfl (St.callR C280 cb77 rfl rfl (Jkg C280.bd (n := (ofZ (((ofQ a.q).num.toZ * (ofQ b.q).den.toZ) + ((ofQ b.q).num.toZ * (ofQ a.q).den.toZ)))) (Jj h276) (d := (ofZ ((ofQ a.q).den.toZ * (ofQ b.q).den.toZ))) (Jj h285) (by omega) (by omega)) ?_)
 intro v286 w287 C288 s289 h290
 replace o37 := (o37.spn s281).spn s289
 simp only [Jp, Yv] at h290
 obtain ⟨a291, c292, a293, c294, rfl, h295, h296⟩ := RV.rat h290
 refine On (St.storeC (cs' := [(.bool (ofQ (Rat.divInt (((ofQ a.q).num.toZ * (ofQ b.q).den.toZ) + ((ofQ b.q).num.toZ * (ofQ a.q).den.toZ)) ((ofQ a.q).den.toZ * (ofQ b.q).den.toZ))).num.neg), (.slice a291 (ofQ (Rat.divInt (((ofQ a.q).num.toZ * (ofQ b.q).den.toZ) + ((ofQ b.q).num.toZ * (ofQ a.q).den.toZ)) ((ofQ a.q).den.toZ * (ofQ b.q).den.toZ))).num.mag.length c292), (.bool (ofQ (Rat.divInt (((ofQ a.q).num.toZ * (ofQ b.q).den.toZ) + ((ofQ b.q).num.toZ * (ofQ a.q).den.toZ)) ((ofQ a.q).den.toZ * (ofQ b.q).den.toZ))).den.neg), (.slice a293 (ofQ (Rat.divInt (((ofQ a.q).num.toZ * (ofQ b.q).den.toZ) + ((ofQ b.q).num.toZ * (ofQ a.q).den.toZ)) ((ofQ a.q).den.toZ * (ofQ b.q).den.toZ))).den.mag.length c294)]) C288 o37 io28 rfl rfl rfl rfl rfl rfl ?_)
 intro w297 C298 s299 o300
 replace h295 := h295.sp s299
 replace h296 := h296.sp s299
 refine Nl (W.ret (Jf rfl (resV.c o300 rfl ag28 rfl) (Ret.intro ?_ C298.below)))
 exact RV.eqv (a := (ofQ (Rat.divInt (((ofQ a.q).num.toZ * (ofQ b.q).den.toZ) + ((ofQ b.q).num.toZ * (ofQ a.q).den.toZ)) ((ofQ a.q).den.toZ * (ofQ b.q).den.toZ)))) ((Zp h295 h296).tr (Tr.weak C298.base)) (Ju4 _ _)
set_option maxHeartbeats 1000000 in
theorem Juz {X : Nat → Prop} {w : World} (hX : ∀ b, X b → b < w.heap.size) {v0 : Value} {a : GRat} (r0 : RV Yk X w v0 a) {v1 : Value} {b : GRat} (r1 : RV Yk X w v1 b) (hln : a.num.mag.length ≤ 50000000) (hld : a.den.mag.length ≤ 50000000) (hlm : b.num.mag.length ≤ 50000000) (hle : b.den.mag.length ≤ 50000000) : Calls Tryz.prog 88 #[v0, v1] w (Ret w fun v w' => RV Yk X w' v (ofQ (a.q - b.q))) := by
 obtain ⟨a1, c2, a3, c4, rfl, h5, h6⟩ := RV.rat r0
 obtain ⟨a7, c8, a9, c10, rfl, h11, h12⟩ := RV.rat r1
 have C := Cx.start hX
 have sn := r0.rat_small.1
 have sd := r0.rat_small.2
 have sm := r1.rat_small.1
 have se := r1.rat_small.2
 have q1 := Kn sm
 have q2 := Ko se
 rw [← Xn] at q1
 rw [← Xy] at q2
 refine Calls.ofW (args := [(.agg #[(.bool a.num.neg), (.slice a1 a.num.mag.length c2), (.bool a.den.neg), (.slice a3 a.den.mag.length c4)]), (.agg #[(.bool b.num.neg), (.slice a7 b.num.mag.length c8), (.bool b.den.neg), (.slice a9 b.den.mag.length c10)])]) Tryz.func88 rfl rfl (Nat.le_of_ble_eq_true rfl) (Rg (O rfl (St.boxC C rfl ?_)))
 intro g13 w14 x15 y16 lt17 C18 s19 o20
 refine O rfl (St.boxC C18 rfl ?_)
 intro g21 w22 x23 y24 lt25 C26 s27 o28
 replace h5 := (h5.sp s19).sp s27
 replace h6 := (h6.sp s19).sp s27
 replace h11 := (h11.sp s19).sp s27
 replace h12 := (h12.sp s19).sp s27
 replace o20 := o20.spn s27
 refine O rfl (St.allocC C26 io28 rfl ?_)
 intro g30 w31 x32 y33 lt34 C35 s36 o37
 refine Nl (W.seq (W.drawC Zc 3 [[], [], [1]] C35 [fx (.agg #[(.bool a.num.neg), (.slice a1 a.num.mag.length c2), (.bool a.den.neg), (.slice a3 a.den.mag.length c4)]), fx (.agg #[(.bool b.num.neg), (.slice a7 b.num.mag.length c8), (.bool b.den.neg), (.slice a9 b.den.mag.length c10)]), fr Yk (ofQ (-b.q))] (by kernel_rfl) ⟨sx, sx, sr, trivial⟩ fun f52 s53 w54 ⟨C57, S58⟩ k56 => ?_))
 replace h5 := (h5.sp s36).sp S58
 replace h6 := (h6.sp s36).sp S58
 replace h11 := (h11.sp s36).sp S58
 replace h12 := (h12.sp s36).sp S58
 replace o20 := (o20.spn s36).spn S58
 replace o28 := (o28.spn s36).spn S58
 have k56 : Keep [5, 6, 7] _ f52 := k56
 refine ⟨⟨fun _ => ?_, fun _ => ?_, fun ⟨e62, _⟩ => ?_, trivial⟩, fun ⟨e63, e64, d65, _⟩ => ?_⟩
 ·exact Ja k56 aN fun _ => OpSt.op (St.loadOA (vs := [(.bool a.num.neg), (.slice a1 a.num.mag.length c2), (.bool a.den.neg), (.slice a3 a.den.mag.length c4)]) o20 ag28 rfl rfl rfl ⟨s53, RC.same C57, rfl⟩)
 ·exact Ja k56 aN fun _ => OpSt.op (St.loadOA (vs := [(.bool b.num.neg), (.slice a7 b.num.mag.length c8), (.bool b.den.neg), (.slice a9 b.den.mag.length c10)]) o28 ag28 rfl rfl rfl ⟨s53, RC.same C57, rfl⟩)
 ·refine Ja k56 (aC e62 aN) fun _ => OpSt.op (St.callR C57 cb102 rfl rfl (Jt3 C57.bd (a := b) (Zp h11 h12) (by omega) (by omega)) ?_)
  intro v66 w67 C68 s69 h70
  exact ⟨s53, ⟨C68, s69⟩, h70⟩
 obtain ⟨a72, c73, a74, c75, e71, h76, h77⟩ := RV.rat d65
 obtain ⟨f78, rfl⟩ := mixK k56 (aC e63 (aC e64 (aC e71 aN)))
 refine O rfl (St.callR C57 cb125 rfl rfl (Jui C57.bd (a := a) (Zp h5 h6) (b := (ofQ (-b.q))) (Zp h76 h77) (by omega) (by omega) (by omega) (by omega)) ?_)
 intro v79 w80 C81 s82 h83
 replace o37 := (o37.spn S58).spn s82
 simp only [Jp, Yv] at h83
 obtain ⟨a84, c85, a86, c87, rfl, h88, h89⟩ := RV.rat h83
 refine On (St.storeC (cs' := [(.bool (ofQ (a.q + (-b.q))).num.neg), (.slice a84 (ofQ (a.q + (-b.q))).num.mag.length c85), (.bool (ofQ (a.q + (-b.q))).den.neg), (.slice a86 (ofQ (a.q + (-b.q))).den.mag.length c87)]) C81 o37 io28 rfl rfl rfl rfl rfl rfl ?_)
 intro w90 C91 s92 o93
 replace h88 := h88.sp s92
 replace h89 := h89.sp s92
 refine Nl (W.ret (Jf rfl (resV.c o93 rfl ag28 rfl) (Ret.intro ?_ C91.below)))
 exact RV.eqv (a := (ofQ (a.q + (-b.q)))) ((Zp h88 h89).tr (Tr.weak C91.base)) ((by rw [Rat.sub_eq_add_neg]))
set_option maxHeartbeats 1000000 in
theorem Jtu {X : Nat → Prop} {w : World} (hX : ∀ b, X b → b < w.heap.size) {v0 : Value} {a : GRat} (r0 : RV Yk X w v0 a) {v1 : Value} {b : GRat} (r1 : RV Yk X w v1 b) (hln : a.num.mag.length ≤ 10000000) (hld : a.den.mag.length ≤ 10000000) (hlm : b.num.mag.length ≤ 10000000) (hle : b.den.mag.length ≤ 10000000) : Calls Tryz.prog 57 #[v0, v1] w (Ret w fun v w' => v = (.int .i64 (qcmp a.q b.q))) := by
 obtain ⟨a1, c2, a3, c4, rfl, h5, h6⟩ := RV.rat r0
 obtain ⟨a7, c8, a9, c10, rfl, h11, h12⟩ := RV.rat r1
 have C := Cx.start hX
 have sn := r0.rat_small.1
 have sd := r0.rat_small.2
 have sm := r1.rat_small.1
 have se := r1.rat_small.2
 have q1 := Kn sm
 have q2 := Ko se
 rw [← Xn] at q1
 rw [← Xy] at q2
 have q3 := Kn sn
 have q4 := Ko sd
 have q5 := yg a.q (-b.q)
 have q6 := ya a.q (-b.q)
 rw [← Rat.sub_eq_add_neg] at q5 q6
 refine Calls.ofW (args := [(.agg #[(.bool a.num.neg), (.slice a1 a.num.mag.length c2), (.bool a.den.neg), (.slice a3 a.den.mag.length c4)]), (.agg #[(.bool b.num.neg), (.slice a7 b.num.mag.length c8), (.bool b.den.neg), (.slice a9 b.den.mag.length c10)])]) Tryz.func57 rfl rfl (Nat.le_of_ble_eq_true rfl) (Rg (O rfl (St.boxC C rfl ?_)))
 intro g13 w14 x15 y16 lt17 C18 s19 o20
 refine O rfl (St.boxC C18 rfl ?_)
 intro g21 w22 x23 y24 lt25 C26 s27 o28
 replace h5 := (h5.sp s19).sp s27
 replace h6 := (h6.sp s19).sp s27
 replace h11 := (h11.sp s19).sp s27
 replace h12 := (h12.sp s19).sp s27
 replace o20 := o20.spn s27
 refine Oa (Nl (Rg (O rfl (St.loadOA (vs := [(.bool a.num.neg), (.slice a1 a.num.mag.length c2), (.bool a.den.neg), (.slice a3 a.den.mag.length c4)]) o20 ag28 rfl rfl rfl (O rfl (St.loadOA (vs := [(.bool b.num.neg), (.slice a7 b.num.mag.length c8), (.bool b.den.neg), (.slice a9 b.den.mag.length c10)]) o28 ag28 rfl rfl rfl (O rfl (St.callR C26 cb88 rfl rfl (Juz C26.bd (a := a) (Zp h5 h6) (b := b) (Zp h11 h12) (by omega) (by omega) (by omega) (by omega)) ?_))))))))
 intro v30 w31 C32 s33 h34
 obtain ⟨a35, c36, a37, c38, rfl, h39, h40⟩ := RV.rat h34
 refine O rfl (St.callR C32 cb82 rfl rfl (Jqk C32.bd (a := (ofQ (a.q - b.q))) (Zp h39 h40) (by omega) (by omega)) ?_)
 intro v41 w42 C43 s44 h45
 simp only [Jp, Yv] at h45
 subst h45
 refine Oa (Nl (W.ret (Jf rfl (resV.t rfl) (Ret.intro ?_ C43.below))))
 rfl
end Go.Wf
namespace Go.Wf
set_option linter.unusedVariables false
set_option linter.unusedSimpArgs false
open Go
def sgnB (b : Bool) : Int := if b = true then -1 else 1
theorem sgn_t {b : Bool} (h : b = true) : (-1 : Int) = sgnB b := by rw [h]; rfl
theorem sgn_f {b : Bool} (h : b = false) : (1 : Int) = sgnB b := by rw [h]; rfl
theorem Jn2 {a b : Int} (h : a < b) : (-1 : Int) = cmpI a b := by unfold cmpI; rw [if_pos h]
theorem Jov {a b : Int} (h : ¬ a < b) (h2 : b < a) : (1 : Int) = cmpI a b := by unfold cmpI; rw [if_neg h, if_neg (by omega)]
theorem Js7 {a b : Int} (h : ¬ a < b) (h2 : ¬ b < a) : (0 : Int) = cmpI a b := by unfold cmpI; rw [if_neg h, if_pos (by omega)]
theorem Vb {a b : Int} (h : a = b) : cmpI a b = 0 := by unfold cmpI; rw [if_neg (by omega), if_pos h]
theorem yn {a b : Int} (h : cmpI a b = 0) : a = b := by unfold cmpI at h; split at h <;> (try split at h) <;> omega
theorem xo {a b : Int} (h : ¬ a = b) : sgnB (decide (a < b)) = cmpI a b := by
 unfold cmpI sgnB
 by_cases h2 : a < b
 ·simp [h2]
 ·simp [h2, h]
section
variable {α : Type} {f : α → α → Int} {a b : List α} {d : α} {i : Nat}
theorem Jbm (ha : i < a.length) (hb : i < b.length) : cmpL f (a.drop i) (b.drop i) = ocmp (f (a.getD i d) (b.getD i d)) (cmpL f (a.drop (i + 1)) (b.drop (i + 1))) := by
 rw [List.drop_eq_getElem_cons ha, List.drop_eq_getElem_cons hb, cmpL]
 rw [List.getD_eq_getElem?_getD, List.getD_eq_getElem?_getD, List.getElem?_eq_getElem ha, List.getElem?_eq_getElem hb]; rfl
theorem Vx (hv : cmpL f a b = cmpL f (a.drop i) (b.drop i)) (ha : i < a.length) (hb : i < b.length) (h : f (a.getD i d) (b.getD i d) = 0) : cmpL f a b = cmpL f (a.drop (i + 1)) (b.drop (i + 1)) := by
 rw [hv, Jbm (d := d) ha hb, h, ocmp, if_pos rfl]
theorem Vs (hv : cmpL f a b = cmpL f (a.drop i) (b.drop i)) (ha : i < a.length) (hb : i < b.length) (h : ¬ f (a.getD i d) (b.getD i d) = 0) : f (a.getD i d) (b.getD i d) = cmpL f a b := by
 rw [hv, Jbm (d := d) ha hb, ocmp, if_neg h]
theorem Jeb (hv : cmpL f a b = cmpL f (a.drop i) (b.drop i)) (ha : a.length ≤ i) (hb : i < b.length) : (-1 : Int) = cmpL f a b := by
 rw [hv, List.drop_of_length_le ha, List.drop_eq_getElem_cons hb]; rfl
theorem Jdl (hv : cmpL f a b = cmpL f (a.drop i) (b.drop i)) (ha : i < a.length) (hb : b.length ≤ i) : (1 : Int) = cmpL f a b := by
 rw [hv, List.drop_of_length_le hb, List.drop_eq_getElem_cons ha]; rfl
theorem Xf (hv : cmpL f a b = cmpL f (a.drop i) (b.drop i)) (ha : a.length ≤ i) (hb : b.length ≤ i) : (0 : Int) = cmpL f a b := by
 rw [hv, List.drop_of_length_le hb, List.drop_of_length_le ha]; rfl
theorem zo (hv : cmpL f a b = cmpL f (a.drop i) (b.drop i)) (ha : i ≤ a.length) (hb : i ≤ b.length) (h : ¬ (i < a.length ∧ i < b.length)) (hn : ¬ a.length = b.length) : sgnB (decide ((a.length : Int) < (b.length : Int))) = cmpL f a b := by
 unfold sgnB
 by_cases h2 : a.length < b.length
 ·rw [if_pos (decide_eq_true (by omega))]; exact Jeb hv (by omega) (by omega)
 ·rw [if_neg (by simp; omega)]; exact Jdl hv (by omega) (by omega)
end
theorem Jei : ∀ a b : List GExpr, Kf a b = cmpL cmpE a b
 | [], [] => by rw [Kf]; rfl
 | [], _ :: _ => by rw [Kf]; rfl
 | _ :: _, [] => by rw [Kf]; rfl
 | a :: l, b :: m => by rw [Kf, Jei l m]; rfl
theorem q7 (a b : UInt8) (l m : List UInt8) : Op.bytesLess (a :: l) (b :: m) = (decide (a < b) || (decide (a = b) && Op.bytesLess l m)) := by
 rw [Op.bytesLess]
 by_cases h : a < b
 ·simp [h]
 ·by_cases h2 : a = b
  ·simp [h2]
  ·simp [h, h2]
theorem kx : ∀ {a b : List UInt8}, ¬ a = b → sgnB (Op.bytesLess a b) = cmpL cmpB a b
 | [], [], h => absurd rfl h
 | [], _ :: _, _ => rfl
 | _ :: _, [], _ => rfl
 | a :: l, b :: m, h => by
  rw [q7, cmpL, ocmp]
  by_cases h1 : a = b
  ·subst h1
   have h2 : cmpB a a = 0 := Vb rfl
   rw [if_pos h2, ← kx (show ¬ l = m from fun e => h (by rw [e]))]
   simp
  ·have h3 : ¬ ((a.toNat : Nat) : Int) = ((b.toNat : Nat) : Int) := fun e => h1 (UInt8.toNat_inj.1 (by omega))
   have h2 : ¬ cmpB a b = 0 := fun e => h3 (yn e)
   rw [if_neg h2]
   unfold cmpB
   rw [← xo h3]
   congr 1
   simp [h1, UInt8.lt_iff_toNat_lt]
theorem Qf {a b : List UInt8} (h : a = b) : cmpL cmpB a b = 0 := by
 subst h
 induction a with
 | nil => rfl
 | cons x l ih => rw [cmpL, ih, ocmp, if_pos (show cmpB x x = 0 from Vb rfl)]
mutual
def Z1 : GExpr → Bool
 | .mk _ n c s l => decide (n.length ≤ 80) && decide (c.num.mag.length ≤ 8) && decide (c.den.mag.length ≤ 8) && decide (s.length ≤ 100) && z9 l
def z9 : List GExpr → Bool
 | [] => true
 | a :: l => Z1 a && z9 l
end
theorem zz : ∀ {l : List GExpr}, z9 l = true ↔ ∀ i, i < l.length → Z1 (l.getD i default) = true
 | [] => by simp [z9]
 | a :: l => by
  rw [z9, Bool.and_eq_true, zz (l := l)]
  constructor
  ·rintro ⟨h1, h2⟩ i hi
   cases i with
   | zero => exact h1
   | succ i => exact h2 i (by simp at hi; omega)
  ·intro h
   exact ⟨h 0 (by simp), fun i hi => h (i + 1) (by simp; omega)⟩
theorem Y7 {a : GExpr} : Z1 a = true ↔ a.n.length ≤ 80 ∧ a.c.num.mag.length ≤ 8 ∧ a.c.den.mag.length ≤ 8 ∧ a.name.length ≤ 100 ∧ ∀ i, i < a.args.length → Z1 (a.args.getD i default) = true := by
 cases a
 rw [Z1, ← zz]
 simp only [Bool.and_eq_true, decide_eq_true_eq, GExpr.n, GExpr.c, GExpr.name, GExpr.args, and_assoc]
theorem Xg {a : GExpr} {i : Nat} (h : Z1 a = true) (hi : i < a.args.length) : Z1 (a.args.getD i default) = true := (Y7.1 h).2.2.2.2 i hi
theorem Jav {a : GExpr} {i : Nat} (hi : i < a.args.length) : SizeOf.sizeOf (a.args.getD i default) < SizeOf.sizeOf a := by
 have h1 : a.args.getD i default ∈ a.args := by
  rw [List.getD_eq_getElem?_getD, List.getElem?_eq_getElem hi]; exact List.getElem_mem hi
 have h2 := List.sizeOf_lt_of_mem h1
 refine Nat.lt_trans h2 ?_
 cases a
 simp only [GExpr.args]
 simp; omega
theorem zq {a : GExpr} (h : (80 : Int) < (a.n.length : Nat) ∨ (8 : Int) < (a.c.num.mag.length : Nat) ∨ (8 : Int) < (a.c.den.mag.length : Nat) ∨ (100 : Int) < (a.name.length : Nat)) : false = Z1 a := by
 refine (Bool.eq_false_iff.2 fun hp => ?_).symm
 have := Y7.1 hp
 omega
theorem Jdj {a : GExpr} {i : Nat} (hi : i < a.args.length) (h : Z1 (a.args.getD i default) = false) : false = Z1 a := by
 refine (Bool.eq_false_iff.2 fun hp => ?_).symm
 rw [Xg hp hi] at h; cases h
theorem Jjg {a : GExpr} {i : Nat} (h1 : ¬ (80 : Int) < (a.n.length : Nat)) (h2 : ¬ (8 : Int) < (a.c.num.mag.length : Nat)) (h3 : ¬ (8 : Int) < (a.c.den.mag.length : Nat)) (h4 : ¬ (100 : Int) < (a.name.length : Nat)) (hi : ¬ (i : Int) < (a.args.length : Nat))
  (h : ∀ j, j < i → Z1 (a.args.getD j default) = true) : true = Z1 a :=
 (Y7.2 ⟨by omega, by omega, by omega, by omega, fun j hj => h j (by omega)⟩).symm
theorem Jnm {p : Nat → Prop} {i : Nat} (h : ∀ j, j < i → p j) (hi : p i) : ∀ j, j < i + 1 → p j := fun j hj => by
 rcases Nat.lt_or_ge j i with h2 | h2
 ·exact h j h2
 ·rw [show j = i by omega]; exact hi
section
variable {a b : GExpr}
theorem Jib (h : ¬ a.op = b.op) : cmpI a.op b.op = cmpE a b := by
 rw [Xa, ocmp, if_neg fun e => h (yn e)]
theorem Jv8 (h : a.op = b.op) (h2 : ¬ cmpL cmpI a.n b.n = 0) : cmpL cmpI a.n b.n = cmpE a b := by
 rw [Xa, ocmp, if_pos (Vb h), ocmp, if_neg h2]
theorem Jv7 (h : a.op = b.op) (h2 : cmpL cmpI a.n b.n = 0) (h3 : ¬ qcmp a.c.q b.c.q = 0) : qcmp a.c.q b.c.q = cmpE a b := by
 rw [Xa, ocmp, if_pos (Vb h), ocmp, if_pos h2, ocmp, if_neg h3]
theorem Ju9 (h : a.op = b.op) (h2 : cmpL cmpI a.n b.n = 0) (h3 : qcmp a.c.q b.c.q = 0) (h4 : ¬ cmpL cmpB a.name b.name = 0) : cmpL cmpB a.name b.name = cmpE a b := by
 rw [Xa, ocmp, if_pos (Vb h), ocmp, if_pos h2, ocmp, if_pos h3, ocmp, if_neg h4]
theorem Jga (h : a.op = b.op) (h2 : cmpL cmpI a.n b.n = 0) (h3 : qcmp a.c.q b.c.q = 0) (h4 : cmpL cmpB a.name b.name = 0) : cmpL cmpE a.args b.args = cmpE a b := by
 rw [Xa, ocmp, if_pos (Vb h), ocmp, if_pos h2, ocmp, if_pos h3, ocmp, if_pos h4, Jei]
theorem Jqr {s t : List UInt8} (h : ¬ s = t) : ¬ cmpL cmpB s t = 0 := by
 rw [← kx h]; unfold sgnB; split <;> omega
end
end Go.Wf
namespace Go.Wf
open Go Go.Proofs Go.RowKit
set_option maxRecDepth 100000
set_option linter.unusedVariables false
set_option linter.unusedSimpArgs false
set_option maxHeartbeats 1000000 in
theorem Jdb {X : Nat → Prop} {w : World} (hX : ∀ b, X b → b < w.heap.size) {b : Bool}  : Calls Tryz.prog 55 #[(.bool b)] w (Ret w fun v w' => v = (.int .i64 (sgnB b))) := by
 have C := Cx.start hX
 refine Calls.ofW (args := [(.bool b)]) Tryz.func55 rfl rfl (Nat.le_of_ble_eq_true rfl) (Rg (Oa (Nl (Rh (Om (Nl (W.cond rfl (fun hb1 => ?_) (fun hb1 => ?_))))))))
 ·exact Rg (Oa (Nl (W.ret (Jf rfl (resV.t rfl) (Ret.intro (congrArg (Value.int _) (sgn_t hb1)) C.below)))))
 exact W.skip (Rg (Oa (Nl (W.ret (Jf rfl (resV.t rfl) (Ret.intro (congrArg (Value.int _) (sgn_f hb1)) C.below))))))
set_option maxHeartbeats 1000000 in
theorem Jo4 {X : Nat → Prop} {w : World} (hX : ∀ b, X b → b < w.heap.size) {v0 : Value} {a : List Int} (r0 : RS Ke X w v0 a) {v1 : Value} {b : List Int} (r1 : RS Ke X w v1 b)  : Calls Tryz.prog 56 #[v0, v1] w (Ret w fun v w' => v = (.int .i64 (cmpL cmpI a b))) := by
 obtain ⟨a1, c2, rfl, _, _⟩ := r0.len
 obtain ⟨a3, c4, rfl, _, _⟩ := r1.len
 have C := Cx.start hX
 have hml : maxLen = 9223372036854775807 := rfl
 refine Calls.ofW (args := [(.slice a1 a.length c2), (.slice a3 b.length c4)]) Tryz.func56 rfl rfl (Nat.le_of_ble_eq_true rfl) (Rg (Oa (Nl (Rh (Oa (Nl (W.block (W.loopN (fun μ f v => ∃ (x y : Nat → Prop) (i : Nat), Cx X w x y v ∧ f 0 = (.slice a1 a.length c2) ∧ f 1 = (.slice a3 b.length c4) ∧ f 5 = (.int .i64 ((i : Nat) : Int)) ∧ RS Ke x v (.slice a1 a.length c2) a ∧ RS Ke x v (.slice a3 b.length c4) b ∧ i ≤ a.length ∧ i ≤ b.length ∧ cmpL cmpI a b = cmpL cmpI (a.drop i) (b.drop i) ∧ μ = (a.length - i)) _ ⟨_, _, 0, C, rfl, rfl, rfl, r0, r1, (Nat.zero_le _), (Nat.zero_le _), rfl, rfl⟩ ?_))))))))
 rintro m14 f5 w6 ⟨x7, y8, i, C9, e10, e11, e12, r0, r1, hi, hib, hv, hmu13⟩
 obtain ⟨f15, rfl⟩ := rebK (aC e10 (aC e11 (aC e12 aN)))
 clear e10 e11 e12
 refine Rh (Om (Om (O rfl (St.len sl23 rfl (O rfl (St.lss2 rfl rfl (fun hc16 => ?_) (fun hc16 => ?_)))))))
 ·refine Om (Og rfl rfl (St.move (Og rfl rfl (St.move (Og rfl rfl (St.len sl23 rfl (Og rfl rfl (St.lss2 rfl rfl (fun hc17 => ?_) (fun hc17 => ?_)))))))))
  ·refine OT (Nl (W.condT rfl (W.skip (W.seq (W.block (W.seq (W.drawC Zc 8 [[], [], [0, 1], [2], [], [], [4, 5], [6]] C9 [fx (.slice a1 a.length c2), fx (.int .i64 ((i : Nat) : Int)), fE Ke (a.getD i 0), fx (.int .i64 (a.getD i 0)), fx (.slice a3 b.length c4), fx (.int .i64 ((i : Nat) : Int)), fE Ke (b.getD i 0), fx (.int .i64 (b.getD i 0))] (by kernel_rfl) ⟨sx, sx, sE, sx, sx, sx, sE, sx, trivial⟩ fun f29 s30 w31 ⟨C34, S35⟩ k33 => ?_)))))))
   replace r0 := r0.sp S35
   replace r1 := r1.sp S35
   have k33 : Keep [18, 19, 20, 21, 22, 23, 24, 25] _ f29 := k33
   refine ⟨⟨fun _ => ?_, fun _ => ?_, fun ⟨e36, e37, _⟩ => ?_, fun ⟨d38, _⟩ => ?_, fun _ => ?_, fun _ => ?_, fun ⟨e39, e40, _⟩ => ?_, fun ⟨d41, _⟩ => ?_, trivial⟩, fun ⟨e42, e43, d44, e45, e46, e47, d48, e49, _⟩ => ?_⟩
   ·exact Ja k33 aN fun _ => OpSt.op (St.move ⟨s30, RC.same C34, rfl⟩)
   ·exact Ja k33 aN fun _ => OpSt.op (St.move ⟨s30, RC.same C34, rfl⟩)
   ·refine Ja k33 (aC e36 (aC e37 aN)) fun _ => OpSt.op (St.idx (j := i) (u := (a.getD i 0)) r0 sl23 io3 rfl rfl rfl (Jl (by omega)) ?_)
    intro b50 o51 cs52 e53
    obtain ⟨rfl, bd54⟩ : cs52 = _ ∧ _ := e53.rd
    exact ⟨s30, RC.same C34, ⟨_, _, _, rfl, e53⟩⟩
   ·obtain ⟨b56, o57, cs58, e55, e59⟩ := d38
    obtain ⟨rfl, bd60⟩ : cs58 = _ ∧ _ := e59.rd
    exact Ja k33 (aC e55 aN) fun _ => OpSt.op (St.load1 pl3 rfl (e59.cell 0 _ rfl) ⟨s30, RC.same C34, rfl⟩)
   ·exact Ja k33 aN fun _ => OpSt.op (St.move ⟨s30, RC.same C34, rfl⟩)
   ·exact Ja k33 aN fun _ => OpSt.op (St.move ⟨s30, RC.same C34, rfl⟩)
   ·refine Ja k33 (aC e39 (aC e40 aN)) fun _ => OpSt.op (St.idx (j := i) (u := (b.getD i 0)) r1 sl23 io3 rfl rfl rfl (Jl (by omega)) ?_)
    intro b61 o62 cs63 e64
    obtain ⟨rfl, bd65⟩ : cs63 = _ ∧ _ := e64.rd
    exact ⟨s30, RC.same C34, ⟨_, _, _, rfl, e64⟩⟩
   ·obtain ⟨b67, o68, cs69, e66, e70⟩ := d41
    obtain ⟨rfl, bd71⟩ : cs69 = _ ∧ _ := e70.rd
    exact Ja k33 (aC e66 aN) fun _ => OpSt.op (St.load1 pl3 rfl (e70.cell 0 _ rfl) ⟨s30, RC.same C34, rfl⟩)
   obtain ⟨b73, o74, cs75, e72, e76⟩ := d44
   obtain ⟨rfl, bd77⟩ : cs75 = _ ∧ _ := e76.rd
   obtain ⟨b79, o80, cs81, e78, e82⟩ := d48
   obtain ⟨rfl, bd83⟩ : cs81 = _ ∧ _ := e82.rd
   obtain ⟨f84, rfl⟩ := mixK k33 (aC e42 (aC e43 (aC e72 (aC e45 (aC e46 (aC e47 (aC e78 (aC e49 aN))))))))
   refine O rfl (St.neq2 rfl rfl (fun hc85 => ?_) (fun hc85 => ?_))
   ·refine Nl (W.condT rfl (W.seq (W.drawC Zc 8 [[], [], [0, 1], [2], [], [], [4, 5], [6]] C34 [fx (.slice a1 a.length c2), fx (.int .i64 ((i : Nat) : Int)), fE Ke (a.getD i 0), fx (.int .i64 (a.getD i 0)), fx (.slice a3 b.length c4), fx (.int .i64 ((i : Nat) : Int)), fE Ke (b.getD i 0), fx (.int .i64 (b.getD i 0))] (by kernel_rfl) ⟨sx, sx, sE, sx, sx, sx, sE, sx, trivial⟩ fun f97 s98 w99 ⟨C102, S103⟩ k101 => ?_)))
    replace r0 := r0.sp S103
    replace r1 := r1.sp S103
    have k101 : Keep [27, 28, 29, 30, 31, 32, 33, 34] _ f97 := k101
    refine ⟨⟨fun _ => ?_, fun _ => ?_, fun ⟨e104, e105, _⟩ => ?_, fun ⟨d106, _⟩ => ?_, fun _ => ?_, fun _ => ?_, fun ⟨e107, e108, _⟩ => ?_, fun ⟨d109, _⟩ => ?_, trivial⟩, fun ⟨e110, e111, d112, e113, e114, e115, d116, e117, _⟩ => ?_⟩
    ·exact Ja k101 aN fun _ => OpSt.op (St.move ⟨s98, RC.same C102, rfl⟩)
    ·exact Ja k101 aN fun _ => OpSt.op (St.move ⟨s98, RC.same C102, rfl⟩)
    ·refine Ja k101 (aC e104 (aC e105 aN)) fun _ => OpSt.op (St.idx (j := i) (u := (a.getD i 0)) r0 sl23 io3 rfl rfl rfl (Jl (by omega)) ?_)
     intro b118 o119 cs120 e121
     obtain ⟨rfl, bd122⟩ : cs120 = _ ∧ _ := e121.rd
     exact ⟨s98, RC.same C102, ⟨_, _, _, rfl, e121⟩⟩
    ·obtain ⟨b124, o125, cs126, e123, e127⟩ := d106
     obtain ⟨rfl, bd128⟩ : cs126 = _ ∧ _ := e127.rd
     exact Ja k101 (aC e123 aN) fun _ => OpSt.op (St.load1 pl3 rfl (e127.cell 0 _ rfl) ⟨s98, RC.same C102, rfl⟩)
    ·exact Ja k101 aN fun _ => OpSt.op (St.move ⟨s98, RC.same C102, rfl⟩)
    ·exact Ja k101 aN fun _ => OpSt.op (St.move ⟨s98, RC.same C102, rfl⟩)
    ·refine Ja k101 (aC e107 (aC e108 aN)) fun _ => OpSt.op (St.idx (j := i) (u := (b.getD i 0)) r1 sl23 io3 rfl rfl rfl (Jl (by omega)) ?_)
     intro b129 o130 cs131 e132
     obtain ⟨rfl, bd133⟩ : cs131 = _ ∧ _ := e132.rd
     exact ⟨s98, RC.same C102, ⟨_, _, _, rfl, e132⟩⟩
    ·obtain ⟨b135, o136, cs137, e134, e138⟩ := d109
     obtain ⟨rfl, bd139⟩ : cs137 = _ ∧ _ := e138.rd
     exact Ja k101 (aC e134 aN) fun _ => OpSt.op (St.load1 pl3 rfl (e138.cell 0 _ rfl) ⟨s98, RC.same C102, rfl⟩)
    obtain ⟨b141, o142, cs143, e140, e144⟩ := d112
    obtain ⟨rfl, bd145⟩ : cs143 = _ ∧ _ := e144.rd
    obtain ⟨b147, o148, cs149, e146, e150⟩ := d116
    obtain ⟨rfl, bd151⟩ : cs149 = _ ∧ _ := e150.rd
    obtain ⟨f152, rfl⟩ := mixK k101 (aC e110 (aC e111 (aC e140 (aC e113 (aC e114 (aC e115 (aC e146 (aC e117 aN))))))))
    refine O rfl (St.lss rfl rfl rfl (O rfl (St.callR C102 cb55 rfl rfl (Jdb C102.bd) ?_)))
    intro v153 w154 C155 s156 h157
    subst h157
    exact Oa (Nl (W.ret (Jf rfl (resV.t rfl) (Ret.intro (congrArg (Value.int _) (Eq.trans (xo hc85) (Vs (d := 0) hv (by omega) (by omega) fun e => hc85 (yn e)))) C155.below))))
   refine Nl (W.condF rfl (W.skip (W.region (Om (O rfl (St.add rfl rfl (Je (a := i) (b := 1) (by omega)) (Oa (Nl (⟨_, (by omega), _, _, (i + 1), C34, rfl, rfl, rfl, r0, r1, (by omega), (by omega), (Vx (d := 0) hv (by omega) (by omega) (Vb hc85)), rfl⟩)))))))))
  refine OT (Nl (W.condF rfl (W.exit (Rh (Om (O rfl (St.len sl23 rfl (Om (O rfl (St.len sl23 rfl (O rfl (St.neq2 rfl rfl (fun hc158 => ?_) (fun hc158 => ?_)))))))))))))
  ·refine Nl (W.condT rfl (Rg (Om (O rfl (St.len sl23 rfl (Om (O rfl (St.len sl23 rfl (O rfl (St.lss rfl rfl rfl (O rfl (St.callR C9 cb55 rfl rfl (Jdb C9.bd) ?_))))))))))))
   intro v159 w160 C161 s162 h163
   subst h163
   exact Oa (Nl (W.ret (Jf rfl (resV.t rfl) (Ret.intro (congrArg (Value.int _) (zo hv hi hib (by omega) (by omega))) C161.below))))
  exact Nl (W.condF rfl (W.skip (Rg (Oa (Nl (W.ret (Jf rfl (resV.t rfl) (Ret.intro (congrArg (Value.int _) (Xf hv (by omega) (by omega))) C9.below))))))))
 refine Om (Ox rfl rfl rfl (Ox rfl rfl rfl (Ox rfl rfl rfl (Ox rfl rfl rfl (OF (Nl (W.condF rfl (W.exit (Rh (Om (O rfl (St.len sl23 rfl (Om (O rfl (St.len sl23 rfl (O rfl (St.neq2 rfl rfl (fun hc164 => ?_) (fun hc164 => ?_))))))))))))))))))
 ·refine Nl (W.condT rfl (Rg (Om (O rfl (St.len sl23 rfl (Om (O rfl (St.len sl23 rfl (O rfl (St.lss rfl rfl rfl (O rfl (St.callR C9 cb55 rfl rfl (Jdb C9.bd) ?_))))))))))))
  intro v165 w166 C167 s168 h169
  subst h169
  exact Oa (Nl (W.ret (Jf rfl (resV.t rfl) (Ret.intro (congrArg (Value.int _) (zo hv hi hib (by omega) (by omega))) C167.below))))
 exact Nl (W.condF rfl (W.skip (Rg (Oa (Nl (W.ret (Jf rfl (resV.t rfl) (Ret.intro (congrArg (Value.int _) (Xf hv (by omega) (by omega))) C9.below))))))))
set_option maxHeartbeats 4000000 in
theorem Jnj (N : Nat) : ∀ {X : Nat → Prop} {w : World} (hX : ∀ b, X b → b < w.heap.size) {v0 : Value} {a : GExpr} (r0 : RV J0 X w v0 a) {v1 : Value} {b : GExpr} (r1 : RV J0 X w v1 b) (pa : Z1 a = true) (pb : Z1 b = true) (hN : (SizeOf.sizeOf a) < N), Calls Tryz.prog 24 #[v0, v1] w (Ret w fun v w' => v = (.int .i64 (cmpE a b))) := by
 induction N with
 | zero => intro X w hX v0 a r0 v1 b r1 pa pb hN; exact absurd hN (Nat.not_lt_zero _)
 | succ N ih =>
  intro X w hX v0 a r0 v1 b r1 pa pb hN
  obtain ⟨a1, c2, a3, c4, a5, c6, a7, c8, rfl, h9⟩ := RV.expr r0
  have h10 := h9.n
  have h11 := h9.num
  have h12 := h9.den
  have h13 := h9.args
  obtain ⟨a14, c15, a16, c17, a18, c19, a20, c21, rfl, h22⟩ := RV.expr r1
  have h23 := h22.n
  have h24 := h22.num
  have h25 := h22.den
  have h26 := h22.args
  have C := Cx.start hX
  have hal := r0.args_max
  obtain ⟨pa1, pa2, pa3, pa4, pa5⟩ := Y7.1 pa
  obtain ⟨pb1, pb2, pb3, pb4, pb5⟩ := Y7.1 pb
  refine Calls.ofW (args := [(.agg #[(.int .i64 a.op), (.slice a1 a.n.length c2), (.bool a.c.num.neg), (.slice a3 a.c.num.mag.length c4), (.bool a.c.den.neg), (.slice a5 a.c.den.mag.length c6), (str a.name), (.slice a7 a.args.length c8)]), (.agg #[(.int .i64 b.op), (.slice a14 b.n.length c15), (.bool b.c.num.neg), (.slice a16 b.c.num.mag.length c17), (.bool b.c.den.neg), (.slice a18 b.c.den.mag.length c19), (str b.name), (.slice a20 b.args.length c21)])]) Tryz.func24 rfl rfl (Nat.le_of_ble_eq_true rfl) ?_
  refine Rg (O rfl (St.boxC C rfl ?_))
  intro g27 w28 x29 y30 lt31 C32 s33 o34
  replace h11 := h11.sp s33
  replace h12 := h12.sp s33
  replace h24 := h24.sp s33
  replace h25 := h25.sp s33
  refine O rfl (St.boxC C32 rfl ?_)
  intro g35 w36 x37 y38 lt39 C40 s41 o42
  replace h10 := (h10.sp s33).sp s41
  replace h13 := (h13.sp s33).sp s41
  replace h23 := (h23.sp s33).sp s41
  replace h26 := (h26.sp s33).sp s41
  replace o34 := o34.spn s41
  refine Oa (Nl (Rh (O rfl (St.fieldAddr Q4 rfl (O rfl (St.loadO1 o34 pl3 rfl rfl (O rfl (St.fieldAddr Q4 rfl (O rfl (St.loadO1 o42 pl3 rfl rfl (O rfl (St.neq2 rfl rfl (fun hc44 => ?_) (fun hc44 => ?_)))))))))))))
  ·refine Nl (W.condT rfl (Rg (O rfl (St.fieldAddr Q4 rfl (O rfl (St.loadO1 o34 pl3 rfl rfl (O rfl (St.fieldAddr Q4 rfl (O rfl (St.loadO1 o42 pl3 rfl rfl (O rfl (St.lss rfl rfl rfl (O rfl (St.callR C40 cb55 rfl rfl (Jdb C40.bd) ?_))))))))))))))
   intro v45 w46 C47 s48 h49
   subst h49
   exact Oa (Nl (W.ret (Jf rfl (resV.t rfl) (Ret.intro (congrArg (Value.int _) (Eq.trans (xo hc44) (Jib hc44))) C47.below))))
  refine Nl (W.condF rfl (W.skip (Rh (O rfl (St.fieldAddr j4 rfl (O rfl (St.loadO1 o34 pl23 rfl rfl (O rfl (St.fieldAddr j4 rfl (O rfl (St.loadO1 o42 pl23 rfl rfl (O rfl (St.callR C40 cb56 rfl rfl (Jo4 C40.bd h10 h23) ?_)))))))))))))
  intro v50 w51 C52 s53 h54
  replace h11 := (h11.sp s41).sp s53
  replace h12 := (h12.sp s41).sp s53
  replace h24 := (h24.sp s41).sp s53
  replace h25 := (h25.sp s41).sp s53
  replace o34 := o34.spn s53
  replace o42 := o42.spn s53
  subst h54
  refine Oa (Nl (Rg (Om (O rfl (St.neq2 rfl rfl (fun hc55 => ?_) (fun hc55 => ?_))))))
  ·exact Nl (W.condT rfl (Rg (Om (Oa (Nl (W.ret (Jf rfl (resV.t rfl) (Ret.intro (congrArg (Value.int _) (Jv8 (by omega) hc55)) C52.below))))))))
  refine Nl (W.condF rfl (W.skip (Rh (O rfl (St.fieldAddr jw rfl (O rfl (St.loadOA (vs := [(.bool a.c.num.neg), (.slice a3 a.c.num.mag.length c4), (.bool a.c.den.neg), (.slice a5 a.c.den.mag.length c6)]) o34 ag28 rfl rfl rfl (O rfl (St.fieldAddr jw rfl (O rfl (St.loadOA (vs := [(.bool b.c.num.neg), (.slice a16 b.c.num.mag.length c17), (.bool b.c.den.neg), (.slice a18 b.c.den.mag.length c19)]) o42 ag28 rfl rfl rfl ?_)))))))))))
  refine O rfl (St.callR C52 cb57 rfl rfl (Jtu C52.bd (a := a.c) (Zp h11 h12) (b := b.c) (Zp h24 h25) (by omega) (by omega) (by omega) (by omega)) ?_)
  intro v56 w57 C58 s59 h60
  replace h10 := (h10.sp s53).sp s59
  replace h11 := h11.sp s59
  replace h12 := h12.sp s59
  replace h13 := (h13.sp s53).sp s59
  replace h23 := (h23.sp s53).sp s59
  replace h24 := h24.sp s59
  replace h25 := h25.sp s59
  replace h26 := (h26.sp s53).sp s59
  replace o34 := o34.spn s59
  replace o42 := o42.spn s59
  subst h60
  refine Oa (Nl (Rg (Om (O rfl (St.neq2 rfl rfl (fun hc61 => ?_) (fun hc61 => ?_))))))
  ·exact Nl (W.condT rfl (Rg (Om (Oa (Nl (W.ret (Jf rfl (resV.t rfl) (Ret.intro (congrArg (Value.int _) (Jv7 (by omega) (by omega) hc61)) C58.below))))))))
  refine Nl (W.condF rfl (W.skip (Rh (O rfl (St.fieldAddr yh rfl (O rfl (St.loadO1 o34 pl9 rfl rfl (O rfl (St.fieldAddr yh rfl (O rfl (St.loadO1 o42 pl9 rfl rfl (O rfl (St.neqL rfl rfl (fun hc62 => ?_) (fun hc62 => ?_))))))))))))))
  ·refine Nl (W.condT rfl (Rg (O rfl (St.fieldAddr yh rfl (O rfl (St.loadO1 o34 pl9 rfl rfl (O rfl (St.fieldAddr yh rfl (O rfl (St.loadO1 o42 pl9 rfl rfl (O rfl (St.lssS rfl rfl rfl (O rfl (St.callR C58 cb55 rfl rfl (Jdb C58.bd) ?_))))))))))))))
   intro v63 w64 C65 s66 h67
   subst h67
   exact Oa (Nl (W.ret (Jf rfl (resV.t rfl) (Ret.intro (congrArg (Value.int _) (Eq.trans (kx hc62) (Ju9 (by omega) (by omega) (by omega) (Jqr hc62)))) C65.below))))
  refine Nl (W.condF rfl (W.skip (Rh (Oa (Nl (W.block (W.loopN (fun μ f v => ∃ (x y : Nat → Prop) (i : Nat), Cx X w x y v ∧ f 2 = (.pointer (some ⟨g27, 0, none⟩)) ∧ f 3 = (.pointer (some ⟨g35, 0, none⟩)) ∧ f 7 = (.int .i64 ((i : Nat) : Int)) ∧ RS Ke x v (.slice a1 a.n.length c2) a.n ∧ RS Jb x v (.slice a3 a.c.num.mag.length c4) a.c.num.mag ∧ RS Jb x v (.slice a5 a.c.den.mag.length c6) a.c.den.mag ∧ RS J0 x v (.slice a7 a.args.length c8) a.args ∧ RS Ke x v (.slice a14 b.n.length c15) b.n ∧ RS Jb x v (.slice a16 b.c.num.mag.length c17) b.c.num.mag ∧ RS Jb x v (.slice a18 b.c.den.mag.length c19) b.c.den.mag ∧ RS J0 x v (.slice a20 b.args.length c21) b.args ∧ Own w y v g27 [(.int .i64 a.op), (.slice a1 a.n.length c2), (.bool a.c.num.neg), (.slice a3 a.c.num.mag.length c4), (.bool a.c.den.neg), (.slice a5 a.c.den.mag.length c6), (str a.name), (.slice a7 a.args.length c8)] 31 ∧ Own w y v g35 [(.int .i64 b.op), (.slice a14 b.n.length c15), (.bool b.c.num.neg), (.slice a16 b.c.num.mag.length c17), (.bool b.c.den.neg), (.slice a18 b.c.den.mag.length c19), (str b.name), (.slice a20 b.args.length c21)] 31 ∧ i ≤ a.args.length ∧ i ≤ b.args.length ∧ cmpL cmpE a.args b.args = cmpL cmpE (a.args.drop i) (b.args.drop i) ∧ μ = (a.args.length - i)) _ ⟨_, _, 0, C58, rfl, rfl, rfl, h10, h11, h12, h13, h23, h24, h25, h26, o34, o42, (Nat.zero_le _), (Nat.zero_le _), rfl, rfl⟩ ?_)))))))
  rintro m79 f68 w69 ⟨x70, y71, i, C72, e73, e74, e75, h10, h11, h12, h13, h23, h24, h25, h26, o76, o77, hi, hib, hv, hmu78⟩
  obtain ⟨f80, rfl⟩ := rebK (aC e73 (aC e74 (aC e75 aN)))
  clear e73 e74 e75
  refine Rh (Om (O rfl (St.fieldAddr Y4 rfl (O rfl (St.loadO1 o76 pl29 rfl rfl (O rfl (St.len sl29 rfl (O rfl (St.lss2 rfl rfl (fun hc81 => ?_) (fun hc81 => ?_))))))))))
  ·refine Om (Og rfl rfl (St.move (Og rfl rfl (St.fieldAddr Y4 rfl (Og rfl rfl (St.loadO1 o77 pl29 rfl rfl (Og rfl rfl (St.len sl29 rfl (Og rfl rfl (St.lss2 rfl rfl (fun hc82 => ?_) (fun hc82 => ?_)))))))))))
   ·refine OT (Nl (W.condT rfl (W.skip (W.seq (W.block (W.seq (W.drawC Zc 10 [[], [0], [], [1, 2], [3], [], [5], [], [6, 7], [8]] C72 [fx (.pointer (some ⟨g27, 7, none⟩)), fx (.slice a7 a.args.length c8), fx (.int .i64 ((i : Nat) : Int)), fE J0 (a.args.getD i default), fr J0 (a.args.getD i default), fx (.pointer (some ⟨g35, 7, none⟩)), fx (.slice a20 b.args.length c21), fx (.int .i64 ((i : Nat) : Int)), fE J0 (b.args.getD i default), fr J0 (b.args.getD i default)] (by kernel_rfl) ⟨sx, sx, sx, sE, sr, sx, sx, sx, sE, sr, trivial⟩ fun f118 s119 w120 ⟨C123, S124⟩ k122 => ?_)))))))
    replace h13 := h13.sp S124
    replace h26 := h26.sp S124
    replace o76 := o76.spn S124
    replace o77 := o77.spn S124
    have k122 : Keep [61, 62, 63, 64, 65, 66, 67, 68, 69, 70] _ f118 := k122
    refine ⟨⟨fun _ => ?_, fun ⟨e127, _⟩ => ?_, fun _ => ?_, fun ⟨e128, e129, _⟩ => ?_, fun ⟨d130, _⟩ => ?_, fun _ => ?_, fun ⟨e131, _⟩ => ?_, fun _ => ?_, fun ⟨e132, e133, _⟩ => ?_, fun ⟨d134, _⟩ => ?_, trivial⟩, fun ⟨e135, e136, e137, d138, d139, e140, e141, e142, d143, d144, _⟩ => ?_⟩
    ·exact Ja k122 aN fun _ => OpSt.op (St.fieldAddr Y4 rfl ⟨s119, RC.same C123, rfl⟩)
    ·exact Ja k122 (aC e127 aN) fun _ => OpSt.op (St.loadO1 o76 pl29 rfl rfl ⟨s119, RC.same C123, rfl⟩)
    ·exact Ja k122 aN fun _ => OpSt.op (St.move ⟨s119, RC.same C123, rfl⟩)
    ·refine Ja k122 (aC e128 (aC e129 aN)) fun _ => OpSt.op (St.idx (j := i) (u := (a.args.getD i default)) h13 sl29 io31 rfl rfl rfl (Jl (by omega)) ?_)
     intro b145 o146 cs147 e148
     obtain ⟨a149, c150, a151, c152, a153, c154, a155, c156, rfl, h157⟩ := Zh e148.rd
     have h158 := h157.n
     have h159 := h157.num
     have h160 := h157.den
     have h161 := h157.args
     exact ⟨s119, RC.same C123, ⟨_, _, _, rfl, e148⟩⟩
    ·obtain ⟨b163, o164, cs165, e162, e166⟩ := d130
     obtain ⟨a167, c168, a169, c170, a171, c172, a173, c174, rfl, h175⟩ := Zh e166.rd
     have h176 := h175.n
     have h177 := h175.num
     have h178 := h175.den
     have h179 := h175.args
     exact Ja k122 (aC e162 aN) fun _ => OpSt.op (St.loadA (cs := [(.int .i64 (a.args.getD i default).op), (.slice a167 (a.args.getD i default).n.length c168), (.bool (a.args.getD i default).c.num.neg), (.slice a169 (a.args.getD i default).c.num.mag.length c170), (.bool (a.args.getD i default).c.den.neg), (.slice a171 (a.args.getD i default).c.den.mag.length c172), (str (a.args.getD i default).name), (.slice a173 (a.args.getD i default).args.length c174)]) ag31 rfl rfl e166.cell ⟨s119, RC.same C123, (Js (a.args.getD i default) h175.lo h175.hi h175.name h176 h177 h178 h179)⟩)
    ·exact Ja k122 aN fun _ => OpSt.op (St.fieldAddr Y4 rfl ⟨s119, RC.same C123, rfl⟩)
    ·exact Ja k122 (aC e131 aN) fun _ => OpSt.op (St.loadO1 o77 pl29 rfl rfl ⟨s119, RC.same C123, rfl⟩)
    ·exact Ja k122 aN fun _ => OpSt.op (St.move ⟨s119, RC.same C123, rfl⟩)
    ·refine Ja k122 (aC e132 (aC e133 aN)) fun _ => OpSt.op (St.idx (j := i) (u := (b.args.getD i default)) h26 sl29 io31 rfl rfl rfl (Jl (by omega)) ?_)
     intro b180 o181 cs182 e183
     obtain ⟨a184, c185, a186, c187, a188, c189, a190, c191, rfl, h192⟩ := Zh e183.rd
     have h193 := h192.n
     have h194 := h192.num
     have h195 := h192.den
     have h196 := h192.args
     exact ⟨s119, RC.same C123, ⟨_, _, _, rfl, e183⟩⟩
    ·obtain ⟨b198, o199, cs200, e197, e201⟩ := d134
     obtain ⟨a202, c203, a204, c205, a206, c207, a208, c209, rfl, h210⟩ := Zh e201.rd
     have h211 := h210.n
     have h212 := h210.num
     have h213 := h210.den
     have h214 := h210.args
     exact Ja k122 (aC e197 aN) fun _ => OpSt.op (St.loadA (cs := [(.int .i64 (b.args.getD i default).op), (.slice a202 (b.args.getD i default).n.length c203), (.bool (b.args.getD i default).c.num.neg), (.slice a204 (b.args.getD i default).c.num.mag.length c205), (.bool (b.args.getD i default).c.den.neg), (.slice a206 (b.args.getD i default).c.den.mag.length c207), (str (b.args.getD i default).name), (.slice a208 (b.args.getD i default).args.length c209)]) ag31 rfl rfl e201.cell ⟨s119, RC.same C123, (Js (b.args.getD i default) h210.lo h210.hi h210.name h211 h212 h213 h214)⟩)
    obtain ⟨b216, o217, cs218, e215, e219⟩ := d138
    obtain ⟨a220, c221, a222, c223, a224, c225, a226, c227, rfl, h228⟩ := Zh e219.rd
    have h229 := h228.n
    have h230 := h228.num
    have h231 := h228.den
    have h232 := h228.args
    obtain ⟨a234, c235, a236, c237, a238, c239, a240, c241, e233, h242⟩ := RV.expr d139
    have h243 := h242.n
    have h244 := h242.num
    have h245 := h242.den
    have h246 := h242.args
    obtain ⟨b248, o249, cs250, e247, e251⟩ := d143
    obtain ⟨a252, c253, a254, c255, a256, c257, a258, c259, rfl, h260⟩ := Zh e251.rd
    have h261 := h260.n
    have h262 := h260.num
    have h263 := h260.den
    have h264 := h260.args
    obtain ⟨a266, c267, a268, c269, a270, c271, a272, c273, e265, h274⟩ := RV.expr d144
    have h275 := h274.n
    have h276 := h274.num
    have h277 := h274.den
    have h278 := h274.args
    obtain ⟨f279, rfl⟩ := mixK k122 (aC e135 (aC e136 (aC e137 (aC e215 (aC e233 (aC e140 (aC e141 (aC e142 (aC e247 (aC e265 aN))))))))))
    refine O rfl (St.callR C123 cb24 rfl rfl (ih C123.bd (Js (a.args.getD i default) h242.lo h242.hi h242.name h243 h244 h245 h246) (Js (b.args.getD i default) h274.lo h274.hi h274.name h275 h276 h277 h278) (Xg pa (by omega)) (Xg pb (by omega)) (Nat.lt_of_lt_of_le (Jav (by omega)) (Nat.le_of_lt_succ hN))) ?_)
    intro v280 w281 C282 s283 h284
    replace h10 := (h10.sp S124).sp s283
    replace h11 := (h11.sp S124).sp s283
    replace h12 := (h12.sp S124).sp s283
    replace h13 := h13.sp s283
    replace h23 := (h23.sp S124).sp s283
    replace h24 := (h24.sp S124).sp s283
    replace h25 := (h25.sp S124).sp s283
    replace h26 := h26.sp s283
    replace o76 := o76.spn s283
    replace o77 := o77.spn s283
    subst h284
    refine Oa (Nl (Rg (Om (O rfl (St.neq2 rfl rfl (fun hc285 => ?_) (fun hc285 => ?_))))))
    ·exact Nl (W.condT rfl (Rg (Om (Oa (Nl (W.ret (Jf rfl (resV.t rfl) (Ret.intro (congrArg (Value.int _) (Eq.trans (Vs (d := default) hv (by omega) (by omega) hc285) (Jga (by omega) (by omega) (by omega) (Qf hc62)))) C282.below))))))))
    refine Nl (W.condF rfl (W.skip (W.region (Om (O rfl (St.add rfl rfl (Je (a := i) (b := 1) (by omega)) (Oa (Nl (⟨_, (by omega), _, _, (i + 1), C282, rfl, rfl, rfl, h10, h11, h12, h13, h23, h24, h25, h26, o76, o77, (by omega), (by omega), (Vx (d := default) hv (by omega) (by omega) hc285), rfl⟩)))))))))
   refine OT (Nl (W.condF rfl (W.exit (Rh (O rfl (St.fieldAddr Y4 rfl (O rfl (St.loadO1 o76 pl29 rfl rfl (O rfl (St.len sl29 rfl (O rfl (St.fieldAddr Y4 rfl (O rfl (St.loadO1 o77 pl29 rfl rfl (O rfl (St.len sl29 rfl (O rfl (St.neq2 rfl rfl (fun hc286 => ?_) (fun hc286 => ?_)))))))))))))))))))
   ·refine Nl (W.condT rfl (Rg (O rfl (St.fieldAddr Y4 rfl (O rfl (St.loadO1 o76 pl29 rfl rfl (O rfl (St.len sl29 rfl (O rfl (St.fieldAddr Y4 rfl (O rfl (St.loadO1 o77 pl29 rfl rfl (O rfl (St.len sl29 rfl (O rfl (St.lss rfl rfl rfl (O rfl (St.callR C72 cb55 rfl rfl (Jdb C72.bd) ?_))))))))))))))))))
    intro v287 w288 C289 s290 h291
    subst h291
    exact Oa (Nl (W.ret (Jf rfl (resV.t rfl) (Ret.intro (congrArg (Value.int _) (Eq.trans (zo hv hi hib (by omega) (by omega)) (Jga (by omega) (by omega) (by omega) (Qf hc62)))) C289.below))))
   exact Nl (W.condF rfl (W.skip (Rg (Oa (Nl (W.ret (Jf rfl (resV.t rfl) (Ret.intro (congrArg (Value.int _) (Eq.trans (Xf hv (by omega) (by omega)) (Jga (by omega) (by omega) (by omega) (Qf hc62)))) C72.below))))))))
  refine Om (Ox rfl rfl rfl (Ox rfl rfl rfl (Ox rfl rfl rfl (Ox rfl rfl rfl (Ox rfl rfl rfl (OF (Nl (W.condF rfl (W.exit (Rh (O rfl (St.fieldAddr Y4 rfl (O rfl (St.loadO1 o76 pl29 rfl rfl (O rfl (St.len sl29 rfl (O rfl (St.fieldAddr Y4 rfl (O rfl (St.loadO1 o77 pl29 rfl rfl (O rfl (St.len sl29 rfl ?_))))))))))))))))))))))
  refine O rfl (St.neq2 rfl rfl (fun hc292 => ?_) (fun hc292 => ?_))
  ·refine Nl (W.condT rfl (Rg (O rfl (St.fieldAddr Y4 rfl (O rfl (St.loadO1 o76 pl29 rfl rfl (O rfl (St.len sl29 rfl (O rfl (St.fieldAddr Y4 rfl (O rfl (St.loadO1 o77 pl29 rfl rfl (O rfl (St.len sl29 rfl (O rfl (St.lss rfl rfl rfl (O rfl (St.callR C72 cb55 rfl rfl (Jdb C72.bd) ?_))))))))))))))))))
   intro v293 w294 C295 s296 h297
   subst h297
   exact Oa (Nl (W.ret (Jf rfl (resV.t rfl) (Ret.intro (congrArg (Value.int _) (Eq.trans (zo hv hi hib (by omega) (by omega)) (Jga (by omega) (by omega) (by omega) (Qf hc62)))) C295.below))))
  exact Nl (W.condF rfl (W.skip (Rg (Oa (Nl (W.ret (Jf rfl (resV.t rfl) (Ret.intro (congrArg (Value.int _) (Eq.trans (Xf hv (by omega) (by omega)) (Jga (by omega) (by omega) (by omega) (Qf hc62)))) C72.below))))))))
theorem Jhz {X : Nat → Prop} {w : World} (hX : ∀ b, X b → b < w.heap.size) {v0 : Value} {a : GExpr} (r0 : RV J0 X w v0 a) {v1 : Value} {b : GExpr} (r1 : RV J0 X w v1 b) (pa : Z1 a = true) (pb : Z1 b = true) : Calls Tryz.prog 24 #[v0, v1] w (Ret w fun v w' => v = (.int .i64 (cmpE a b))) := Jnj ((SizeOf.sizeOf a) + 1) hX r0 r1 pa pb (Nat.lt_succ_self _)
end Go.Wf
namespace Go.Wf
open Go Go.Proofs Go.RowKit
set_option maxRecDepth 100000
set_option linter.unusedVariables false
set_option linter.unusedSimpArgs false
def CmpOk (a b : List GExpr) : Prop := ∀ i, i < a.length → i < b.length → ∀ {X : Nat → Prop} {w : World} (hX : ∀ b, X b → b < w.heap.size) {v0 v1 : Value}, RV J0 X w v0 (a.getD i default) → RV J0 X w v1 (b.getD i default) →
 Calls Tryz.prog 54 #[v0, v1] w (Ret w fun v w' => v = .int .i64 (cmpE (a.getD i default) (b.getD i default)))
set_option maxHeartbeats 1000000 in
theorem Job {X : Nat → Prop} {w : World} (hX : ∀ b, X b → b < w.heap.size) {n : Int}  : Calls Tryz.prog 172 #[(.int .i64 n)] w (Ret w fun v w' => v = (.bool false)) := by
 have C := Cx.start hX
 exact Calls.ofW (args := [(.int .i64 n)]) Tryz.func172 rfl rfl (Nat.le_of_ble_eq_true rfl) (Rg (Oa (Nl (Rg (Om (Om (O rfl (St.neq rfl rfl rfl (Oa (Nl (W.ret (Jf rfl (resV.t rfl) (Ret.intro (congrArg (Value.bool) ((by simp))) C.below)))))))))))))
set_option maxHeartbeats 1000000 in
theorem Jtl {X : Nat → Prop} {w : World} (hX : ∀ b, X b → b < w.heap.size) {a : Int} {b : Int}  : Calls Tryz.prog 122 #[(.int .i64 a), (.int .i64 b)] w (Ret w fun v w' => v = (.int .i64 (cmpI a b))) := by
 have C := Cx.start hX
 refine Calls.ofW (args := [(.int .i64 a), (.int .i64 b)]) Tryz.func122 rfl rfl (Nat.le_of_ble_eq_true rfl) (Rg (Oa (Nl (Rg (Om (O rfl (St.callR C Jwm rfl rfl (Job C.bd) ?_)))))))
 intro v1 w2 C3 s4 h5
 subst h5
 refine Oa (Nl (Rg (Om (O rfl (St.callR C3 Jwm rfl rfl (Job C3.bd) ?_)))))
 intro v6 w7 C8 s9 h10
 subst h10
 refine Oa (Nl (Rh (Om (Nl (W.condF rfl (W.skip (Rh (Om (Nl (W.condF rfl (W.skip (Rh (Om (Om (O rfl (St.lss2 rfl rfl (fun hc11 => ?_) (fun hc11 => ?_)))))))))))))))))
 ·exact Nl (W.condT rfl (Rg (Oa (Nl (W.ret (Jf rfl (resV.t rfl) (Ret.intro (congrArg (Value.int _) (Jn2 hc11)) C8.below)))))))
 refine Nl (W.condF rfl (W.skip (Rh (Om (Om (O rfl (St.gtr2 rfl rfl (fun hc12 => ?_) (fun hc12 => ?_))))))))
 ·exact Nl (W.condT rfl (Rg (Oa (Nl (W.ret (Jf rfl (resV.t rfl) (Ret.intro (congrArg (Value.int _) (Jov hc11 hc12)) C8.below)))))))
 exact Nl (W.condF rfl (W.skip (Rg (Oa (Nl (W.ret (Jf rfl (resV.t rfl) (Ret.intro (congrArg (Value.int _) (Js7 hc11 hc12)) C8.below))))))))
set_option maxHeartbeats 1000000 in
theorem Jsn {X : Nat → Prop} {w : World} (hX : ∀ b, X b → b < w.heap.size) {v0 : Value} {a : List Int} (r0 : RS Ke X w v0 a) {v1 : Value} {b : List Int} (r1 : RS Ke X w v1 b)  : Calls Tryz.prog 84 #[v0, v1] w (Ret w fun v w' => v = (.int .i64 (cmpL cmpI a b))) := by
 obtain ⟨a1, c2, rfl, _, _⟩ := r0.len
 obtain ⟨a3, c4, rfl, _, _⟩ := r1.len
 have C := Cx.start hX
 have hml : maxLen = 9223372036854775807 := rfl
 refine Calls.ofW (args := [(.slice a1 a.length c2), (.slice a3 b.length c4)]) Tryz.func84 rfl rfl (Nat.le_of_ble_eq_true rfl) (Rg (Oa (Nl (Rh (Om (O rfl (St.len sl23 rfl (Om (Nl (W.block (W.loopN (fun μ f v => ∃ (x y : Nat → Prop) (i : Nat), Cx X w x y v ∧ f 0 = (.slice a1 a.length c2) ∧ f 1 = (.slice a3 b.length c4) ∧ f 9 = (.slice a1 a.length c2) ∧ f 10 = (.int .i64 ((a.length : Nat) : Int)) ∧ f 11 = (.int .i64 ((i : Nat) : Int)) ∧ RS Ke x v (.slice a1 a.length c2) a ∧ RS Ke x v (.slice a3 b.length c4) b ∧ i ≤ a.length ∧ i ≤ b.length ∧ cmpL cmpI a b = cmpL cmpI (a.drop i) (b.drop i) ∧ μ = (a.length - i)) _ ⟨_, _, 0, C, rfl, rfl, rfl, rfl, rfl, r0, r1, (Nat.zero_le _), (Nat.zero_le _), rfl, rfl⟩ ?_)))))))))))
 rintro m16 f5 w6 ⟨x7, y8, i, C9, e10, e11, e12, e13, e14, r0, r1, hi, hib, hv, hmu15⟩
 obtain ⟨f17, rfl⟩ := rebK (aC e10 (aC e11 (aC e12 (aC e13 (aC e14 aN)))))
 clear e10 e11 e12 e13 e14
 refine Rg (O rfl (St.lss2 rfl rfl (fun hc18 => ?_) (fun hc18 => ?_)))
 ·refine Nl (W.seq (W.condT rfl (W.skip (W.seq (W.block (Rg (Om (O rfl (St.idx (j := i) (u := (a.getD i 0)) r0 sl23 io3 rfl rfl rfl (Jl (by omega)) ?_)))))))))
  intro b19 o20 cs21 e22
  obtain ⟨rfl, bd23⟩ : cs21 = _ ∧ _ := e22.rd
  refine O rfl (St.load1 pl3 rfl (e22.cell 0 _ rfl) (Oa (Oa (Nl (Rh (Om (Om (O rfl (St.len sl23 rfl (O rfl (St.geq2 rfl rfl (fun hc24 => ?_) (fun hc24 => ?_))))))))))))
  ·exact Nl (W.condT rfl (Rg (Oa (Nl (W.ret (Jf rfl (resV.t rfl) (Ret.intro (congrArg (Value.int _) (Jdl hv (by omega) (by omega))) C9.below)))))))
  refine Nl (W.condF rfl (W.skip (Rg (Om (Om (O rfl (St.idx (j := i) (u := (b.getD i 0)) r1 sl23 io3 rfl rfl rfl (Jl (by omega)) ?_)))))))
  intro b25 o26 cs27 e28
  obtain ⟨rfl, bd29⟩ : cs27 = _ ∧ _ := e28.rd
  refine O rfl (St.load1 pl3 rfl (e28.cell 0 _ rfl) (Oa (Nl (Rg (Om (Om (O rfl (St.callR C9 cb122 rfl rfl (Jtl C9.bd) ?_))))))))
  intro v30 w31 C32 s33 h34
  replace r0 := r0.sp s33
  replace r1 := r1.sp s33
  subst h34
  refine Oa (Nl (Rg (Om (O rfl (St.neq2 rfl rfl (fun hc35 => ?_) (fun hc35 => ?_))))))
  ·exact Nl (W.condT rfl (Rg (Om (Oa (Nl (W.ret (Jf rfl (resV.t rfl) (Ret.intro (congrArg (Value.int _) (Vs (d := 0) hv (by omega) (by omega) hc35)) C32.below))))))))
  refine Nl (W.condF rfl (W.skip (W.region (O rfl (St.add rfl rfl (Je (a := i) (b := 1) (by omega)) (Om (Nl (⟨_, (by omega), _, _, (i + 1), C32, rfl, rfl, rfl, rfl, rfl, r0, r1, (by omega), (by omega), (Vx (d := 0) hv (by omega) (by omega) hc35), rfl⟩))))))))
 refine Nl (W.seq (W.condF rfl (W.exit (Rh (Om (O rfl (St.len sl23 rfl (Om (O rfl (St.len sl23 rfl (O rfl (St.lss2 rfl rfl (fun hc36 => ?_) (fun hc36 => ?_)))))))))))))
 ·exact Nl (W.condT rfl (Rg (Oa (Nl (W.ret (Jf rfl (resV.t rfl) (Ret.intro (congrArg (Value.int _) (Jeb hv (by omega) (by omega))) C9.below)))))))
 exact Nl (W.condF rfl (W.skip (Rg (Oa (Nl (W.ret (Jf rfl (resV.t rfl) (Ret.intro (congrArg (Value.int _) (Xf hv (by omega) (by omega))) C9.below))))))))
set_option maxHeartbeats 1000000 in
theorem Jrx {X : Nat → Prop} {w : World} (hX : ∀ b, X b → b < w.heap.size) {a : List UInt8} {b : List UInt8}  : Calls Tryz.prog 124 #[(str a), (str b)] w (Ret w fun v w' => v = (.int .i64 (cmpL cmpB a b))) := by
 have C := Cx.start hX
 refine Calls.ofW (args := [(str a), (str b)]) Tryz.func124 rfl rfl (Nat.le_of_ble_eq_true rfl) (Rg (Oa (Nl (Rg (Om (Om (O rfl (St.cmpStr rfl rfl (Oa (Nl (W.ret (Jf rfl (resV.t rfl) (Ret.intro ?_ C.below)))))))))))))
 rfl
set_option maxHeartbeats 1000000 in
theorem Jvl {X : Nat → Prop} {w : World} (hX : ∀ b, X b → b < w.heap.size) {a : List UInt8} {b : List UInt8}  : Calls Tryz.prog 86 #[(str a), (str b)] w (Ret w fun v w' => v = (.int .i64 (cmpL cmpB a b))) := by
 have C := Cx.start hX
 refine Calls.ofW (args := [(str a), (str b)]) Tryz.func86 rfl rfl (Nat.le_of_ble_eq_true rfl) (Rg (Oa (Nl (Rg (Om (Om (O rfl (St.callR C cb124 rfl rfl (Jrx C.bd) ?_))))))))
 intro v1 w2 C3 s4 h5
 subst h5
 refine Oa (Nl (W.ret (Jf rfl (resV.t rfl) (Ret.intro ?_ C3.below))))
 rfl
set_option maxHeartbeats 4000000 in
theorem Jt9 {X : Nat → Prop} {w : World} (hX : ∀ b, X b → b < w.heap.size) {v0 : Value} {a : List GExpr} (r0 : RS J0 X w v0 a) {v1 : Value} {b : List GExpr} (r1 : RS J0 X w v1 b) (hC : CmpOk a b) : Calls Tryz.prog 87 #[v0, v1, (.func (.func 54) #[] #[])] w (Ret w fun v w' => v = (.int .i64 (cmpL cmpE a b))) := by
 obtain ⟨a1, c2, rfl, _, _⟩ := r0.len
 obtain ⟨a3, c4, rfl, _, _⟩ := r1.len
 have C := Cx.start hX
 have hml : maxLen = 9223372036854775807 := rfl
 refine Calls.ofW (args := [(.slice a1 a.length c2), (.slice a3 b.length c4), (.func (.func 54) #[] #[])]) Tryz.func87 rfl rfl (Nat.le_of_ble_eq_true rfl) (Rg (Oa (Nl (Rh (Om (O rfl (St.len sl29 rfl (Om (Nl (W.block (W.loopN (fun μ f v => ∃ (x y : Nat → Prop) (i : Nat), Cx X w x y v ∧ f 0 = (.slice a1 a.length c2) ∧ f 1 = (.slice a3 b.length c4) ∧ f 2 = (.func (.func 54) #[] #[]) ∧ f 11 = (.slice a1 a.length c2) ∧ f 12 = (.int .i64 ((a.length : Nat) : Int)) ∧ f 13 = (.int .i64 ((i : Nat) : Int)) ∧ RS J0 x v (.slice a1 a.length c2) a ∧ RS J0 x v (.slice a3 b.length c4) b ∧ i ≤ a.length ∧ i ≤ b.length ∧ cmpL cmpE a b = cmpL cmpE (a.drop i) (b.drop i) ∧ μ = (a.length - i)) _ ⟨_, _, 0, C, rfl, rfl, rfl, rfl, rfl, rfl, r0, r1, (Nat.zero_le _), (Nat.zero_le _), rfl, rfl⟩ ?_)))))))))))
 rintro m17 f5 w6 ⟨x7, y8, i, C9, e10, e11, e12, e13, e14, e15, r0, r1, hi, hib, hv, hmu16⟩
 obtain ⟨f18, rfl⟩ := rebK (aC e10 (aC e11 (aC e12 (aC e13 (aC e14 (aC e15 aN))))))
 clear e10 e11 e12 e13 e14 e15
 refine Rg (O rfl (St.lss2 rfl rfl (fun hc19 => ?_) (fun hc19 => ?_)))
 ·refine Nl (W.seq (W.condT rfl (W.skip (W.seq (W.block (Rg (Om (O rfl (St.idx (j := i) (u := (a.getD i default)) r0 sl29 io31 rfl rfl rfl (Jl (by omega)) ?_)))))))))
  intro b20 o21 cs22 e23
  obtain ⟨a24, c25, a26, c27, a28, c29, a30, c31, rfl, h32⟩ := Zh e23.rd
  have h33 := h32.n
  have h34 := h32.num
  have h35 := h32.den
  have h36 := h32.args
  refine O rfl (St.loadA (cs := [(.int .i64 (a.getD i default).op), (.slice a24 (a.getD i default).n.length c25), (.bool (a.getD i default).c.num.neg), (.slice a26 (a.getD i default).c.num.mag.length c27), (.bool (a.getD i default).c.den.neg), (.slice a28 (a.getD i default).c.den.mag.length c29), (str (a.getD i default).name), (.slice a30 (a.getD i default).args.length c31)]) ag31 rfl rfl e23.cell ?_)
  refine O rfl (St.allocC C9 io31 rfl ?_)
  intro g37 w38 x39 y40 lt41 C42 s43 o44
  replace r0 := r0.sp s43
  refine Oa (On (St.storeC (cs' := [(.int .i64 (a.getD i default).op), (.slice a24 (a.getD i default).n.length c25), (.bool (a.getD i default).c.num.neg), (.slice a26 (a.getD i default).c.num.mag.length c27), (.bool (a.getD i default).c.den.neg), (.slice a28 (a.getD i default).c.den.mag.length c29), (str (a.getD i default).name), (.slice a30 (a.getD i default).args.length c31)]) C42 o44 io31 rfl rfl rfl rfl rfl rfl ?_))
  intro w45 C46 s47 o48
  replace r1 := (r1.sp s43).sp s47
  replace h33 := (h33.sp s43).sp s47
  replace h34 := (h34.sp s43).sp s47
  replace h35 := (h35.sp s43).sp s47
  replace h36 := (h36.sp s43).sp s47
  refine Nl (Rh (Om (Om (O rfl (St.len sl29 rfl (O rfl (St.geq2 rfl rfl (fun hc49 => ?_) (fun hc49 => ?_))))))))
  ·exact Nl (W.condT rfl (Rg (Oa (Nl (W.ret (Jf rfl (resV.t rfl) (Ret.intro (congrArg (Value.int _) (Jdl hv (by omega) (by omega))) C46.below)))))))
  refine Nl (W.condF rfl (W.skip (Rg (Om (Om (O rfl (St.idx (j := i) (u := (b.getD i default)) r1 sl29 io31 rfl rfl rfl (Jl (by omega)) ?_)))))))
  intro b50 o51 cs52 e53
  obtain ⟨a54, c55, a56, c57, a58, c59, a60, c61, rfl, h62⟩ := Zh e53.rd
  have h63 := h62.n
  have h64 := h62.num
  have h65 := h62.den
  have h66 := h62.args
  refine O rfl (St.loadA (cs := [(.int .i64 (b.getD i default).op), (.slice a54 (b.getD i default).n.length c55), (.bool (b.getD i default).c.num.neg), (.slice a56 (b.getD i default).c.num.mag.length c57), (.bool (b.getD i default).c.den.neg), (.slice a58 (b.getD i default).c.den.mag.length c59), (str (b.getD i default).name), (.slice a60 (b.getD i default).args.length c61)]) ag31 rfl rfl e53.cell ?_)
  refine O rfl (St.allocC C46 io31 rfl ?_)
  intro g67 w68 x69 y70 lt71 C72 s73 o74
  have n75 := lt71 _ o48.blk.lt
  replace r0 := (r0.sp s47).sp s73
  replace r1 := r1.sp s73
  refine On (St.storeC (cs' := [(.int .i64 (b.getD i default).op), (.slice a54 (b.getD i default).n.length c55), (.bool (b.getD i default).c.num.neg), (.slice a56 (b.getD i default).c.num.mag.length c57), (.bool (b.getD i default).c.den.neg), (.slice a58 (b.getD i default).c.den.mag.length c59), (str (b.getD i default).name), (.slice a60 (b.getD i default).args.length c61)]) C72 o74 io31 rfl rfl rfl rfl rfl rfl ?_)
  intro w76 C77 s78 o79
  replace h33 := (h33.sp s73).sp s78
  replace h34 := (h34.sp s73).sp s78
  replace h35 := (h35.sp s73).sp s78
  replace h36 := (h36.sp s73).sp s78
  replace h63 := (h63.sp s73).sp s78
  replace h64 := (h64.sp s73).sp s78
  replace h65 := (h65.sp s73).sp s78
  replace h66 := (h66.sp s73).sp s78
  replace o48 := (o48.spn s73).spo s78 n75
  refine Nl (Rg (Om (O rfl (St.loadOA (vs := [(.int .i64 (a.getD i default).op), (.slice a24 (a.getD i default).n.length c25), (.bool (a.getD i default).c.num.neg), (.slice a26 (a.getD i default).c.num.mag.length c27), (.bool (a.getD i default).c.den.neg), (.slice a28 (a.getD i default).c.den.mag.length c29), (str (a.getD i default).name), (.slice a30 (a.getD i default).args.length c31)]) o48 ag31 rfl rfl rfl ?_))))
  refine O rfl (St.loadOA (vs := [(.int .i64 (b.getD i default).op), (.slice a54 (b.getD i default).n.length c55), (.bool (b.getD i default).c.num.neg), (.slice a56 (b.getD i default).c.num.mag.length c57), (.bool (b.getD i default).c.den.neg), (.slice a58 (b.getD i default).c.den.mag.length c59), (str (b.getD i default).name), (.slice a60 (b.getD i default).args.length c61)]) o79 ag31 rfl rfl rfl ?_)
  refine O rfl (St.callVR C77 cb54 rfl rfl (hC i (by omega) (by omega) C77.bd (Js (a.getD i default) h32.lo h32.hi h32.name h33 h34 h35 h36) (Js (b.getD i default) h62.lo h62.hi h62.name h63 h64 h65 h66)) ?_)
  intro v80 w81 C82 s83 h84
  replace r0 := (r0.sp s78).sp s83
  replace r1 := (r1.sp s78).sp s83
  subst h84
  refine Oa (Nl (Rg (Om (O rfl (St.neq2 rfl rfl (fun hc85 => ?_) (fun hc85 => ?_))))))
  ·exact Nl (W.condT rfl (Rg (Om (Oa (Nl (W.ret (Jf rfl (resV.t rfl) (Ret.intro (congrArg (Value.int _) (Vs (d := default) hv (by omega) (by omega) hc85)) C82.below))))))))
  refine Nl (W.condF rfl (W.skip (W.region (O rfl (St.add rfl rfl (Je (a := i) (b := 1) (by omega)) (Om (Nl (⟨_, (by omega), _, _, (i + 1), C82, rfl, rfl, rfl, rfl, rfl, rfl, r0, r1, (by omega), (by omega), (Vx (d := default) hv (by omega) (by omega) hc85), rfl⟩))))))))
 refine Nl (W.seq (W.condF rfl (W.exit (Rh (Om (O rfl (St.len sl29 rfl (Om (O rfl (St.len sl29 rfl (O rfl (St.lss2 rfl rfl (fun hc86 => ?_) (fun hc86 => ?_)))))))))))))
 ·exact Nl (W.condT rfl (Rg (Oa (Nl (W.ret (Jf rfl (resV.t rfl) (Ret.intro (congrArg (Value.int _) (Jeb hv (by omega) (by omega))) C9.below)))))))
 exact Nl (W.condF rfl (W.skip (Rg (Oa (Nl (W.ret (Jf rfl (resV.t rfl) (Ret.intro (congrArg (Value.int _) (Xf hv (by omega) (by omega))) C9.below))))))))
set_option maxHeartbeats 4000000 in
theorem Jmo (N : Nat) : ∀ {X : Nat → Prop} {w : World} (hX : ∀ b, X b → b < w.heap.size) {v0 : Value} {a : GExpr} (r0 : RV J0 X w v0 a) {v1 : Value} {b : GExpr} (r1 : RV J0 X w v1 b) (pa : Z1 a = true) (pb : Z1 b = true) (hN : (SizeOf.sizeOf a) < N), Calls Tryz.prog 54 #[v0, v1] w (Ret w fun v w' => v = (.int .i64 (cmpE a b))) := by
 induction N with
 | zero => intro X w hX v0 a r0 v1 b r1 pa pb hN; exact absurd hN (Nat.not_lt_zero _)
 | succ N ih =>
  intro X w hX v0 a r0 v1 b r1 pa pb hN
  obtain ⟨a1, c2, a3, c4, a5, c6, a7, c8, rfl, h9⟩ := RV.expr r0
  have h10 := h9.n
  have h11 := h9.num
  have h12 := h9.den
  have h13 := h9.args
  obtain ⟨a14, c15, a16, c17, a18, c19, a20, c21, rfl, h22⟩ := RV.expr r1
  have h23 := h22.n
  have h24 := h22.num
  have h25 := h22.den
  have h26 := h22.args
  have C := Cx.start hX
  have hal := r0.args_max
  obtain ⟨pa1, pa2, pa3, pa4, pa5⟩ := Y7.1 pa
  obtain ⟨pb1, pb2, pb3, pb4, pb5⟩ := Y7.1 pb
  refine Calls.ofW (args := [(.agg #[(.int .i64 a.op), (.slice a1 a.n.length c2), (.bool a.c.num.neg), (.slice a3 a.c.num.mag.length c4), (.bool a.c.den.neg), (.slice a5 a.c.den.mag.length c6), (str a.name), (.slice a7 a.args.length c8)]), (.agg #[(.int .i64 b.op), (.slice a14 b.n.length c15), (.bool b.c.num.neg), (.slice a16 b.c.num.mag.length c17), (.bool b.c.den.neg), (.slice a18 b.c.den.mag.length c19), (str b.name), (.slice a20 b.args.length c21)])]) Tryz.func54 rfl rfl (Nat.le_of_ble_eq_true rfl) ?_
  refine Rg (O rfl (St.boxC C rfl ?_))
  intro g27 w28 x29 y30 lt31 C32 s33 o34
  replace h11 := h11.sp s33
  replace h12 := h12.sp s33
  replace h13 := h13.sp s33
  replace h24 := h24.sp s33
  replace h25 := h25.sp s33
  replace h26 := h26.sp s33
  refine O rfl (St.boxC C32 rfl ?_)
  intro g35 w36 x37 y38 lt39 C40 s41 o42
  replace h10 := (h10.sp s33).sp s41
  replace h23 := (h23.sp s33).sp s41
  replace o34 := o34.spn s41
  refine Oa (Nl (Rh (O rfl (St.fieldAddr Q4 rfl (O rfl (St.loadO1 o34 pl3 rfl rfl (O rfl (St.fieldAddr Q4 rfl (O rfl (St.loadO1 o42 pl3 rfl rfl (O rfl (St.neq2 rfl rfl (fun hc44 => ?_) (fun hc44 => ?_)))))))))))))
  ·refine Nl (W.condT rfl (Rh (O rfl (St.fieldAddr Q4 rfl (O rfl (St.loadO1 o34 pl3 rfl rfl (O rfl (St.fieldAddr Q4 rfl (O rfl (St.loadO1 o42 pl3 rfl rfl (O rfl (St.lss2 rfl rfl (fun hc45 => ?_) (fun hc45 => ?_)))))))))))))
   ·exact Nl (W.condT rfl (Rg (Oa (Nl (W.ret (Jf rfl (resV.t rfl) (Ret.intro (congrArg (Value.int _) (Eq.trans (Jn2 hc45) (Jib hc44))) C40.below)))))))
   exact Nl (W.condF rfl (W.skip (Rg (Oa (Nl (W.ret (Jf rfl (resV.t rfl) (Ret.intro (congrArg (Value.int _) (Eq.trans (Jov hc45 (by omega)) (Jib hc44))) C40.below))))))))
  refine Nl (W.condF rfl (W.skip (Rh (O rfl (St.fieldAddr j4 rfl (O rfl (St.loadO1 o34 pl23 rfl rfl (O rfl (St.fieldAddr j4 rfl (O rfl (St.loadO1 o42 pl23 rfl rfl (O rfl (St.callR C40 cb84 rfl rfl (Jsn C40.bd h10 h23) ?_)))))))))))))
  intro v46 w47 C48 s49 h50
  replace h11 := (h11.sp s41).sp s49
  replace h12 := (h12.sp s41).sp s49
  replace h13 := (h13.sp s41).sp s49
  replace h24 := (h24.sp s41).sp s49
  replace h25 := (h25.sp s41).sp s49
  replace h26 := (h26.sp s41).sp s49
  replace o34 := o34.spn s49
  replace o42 := o42.spn s49
  subst h50
  refine Oa (Nl (Rg (Om (O rfl (St.neq2 rfl rfl (fun hc51 => ?_) (fun hc51 => ?_))))))
  ·exact Nl (W.condT rfl (Rg (Om (Oa (Nl (W.ret (Jf rfl (resV.t rfl) (Ret.intro (congrArg (Value.int _) (Jv8 (by omega) hc51)) C48.below))))))))
  refine Nl (W.condF rfl (W.skip (Rh (O rfl (St.fieldAddr jw rfl (O rfl (St.loadOA (vs := [(.bool a.c.num.neg), (.slice a3 a.c.num.mag.length c4), (.bool a.c.den.neg), (.slice a5 a.c.den.mag.length c6)]) o34 ag28 rfl rfl rfl (O rfl (St.fieldAddr jw rfl (O rfl (St.loadOA (vs := [(.bool b.c.num.neg), (.slice a16 b.c.num.mag.length c17), (.bool b.c.den.neg), (.slice a18 b.c.den.mag.length c19)]) o42 ag28 rfl rfl rfl ?_)))))))))))
  refine O rfl (St.callR C48 cb85 rfl rfl (Juj C48.bd (a := a.c) (Zp h11 h12) (b := b.c) (Zp h24 h25) (by omega) (by omega) (by omega) (by omega)) ?_)
  intro v52 w53 C54 s55 h56
  replace o34 := o34.spn s55
  replace o42 := o42.spn s55
  subst h56
  refine Oa (Nl (Rg (Om (O rfl (St.neq2 rfl rfl (fun hc57 => ?_) (fun hc57 => ?_))))))
  ·exact Nl (W.condT rfl (Rg (Om (Oa (Nl (W.ret (Jf rfl (resV.t rfl) (Ret.intro (congrArg (Value.int _) (Jv7 (by omega) (by omega) hc57)) C54.below))))))))
  refine Nl (W.condF rfl (W.skip (Rh (O rfl (St.fieldAddr yh rfl (O rfl (St.loadO1 o34 pl9 rfl rfl (O rfl (St.fieldAddr yh rfl (O rfl (St.loadO1 o42 pl9 rfl rfl (O rfl (St.callR C54 cb86 rfl rfl (Jvl C54.bd) ?_)))))))))))))
  intro v58 w59 C60 s61 h62
  replace h13 := (h13.sp s55).sp s61
  replace h26 := (h26.sp s55).sp s61
  replace o34 := o34.spn s61
  replace o42 := o42.spn s61
  subst h62
  refine Oa (Nl (Rg (Om (O rfl (St.neq2 rfl rfl (fun hc63 => ?_) (fun hc63 => ?_))))))
  ·exact Nl (W.condT rfl (Rg (Om (Oa (Nl (W.ret (Jf rfl (resV.t rfl) (Ret.intro (congrArg (Value.int _) (Ju9 (by omega) (by omega) (by omega) hc63)) C60.below))))))))
  refine Nl (W.condF rfl (W.skip (Rg (O rfl (St.fieldAddr Y4 rfl (O rfl (St.loadO1 o34 pl29 rfl rfl (O rfl (St.fieldAddr Y4 rfl (O rfl (St.loadO1 o42 pl29 rfl rfl (O rfl (St.callR C60 cb87 rfl rfl (Jt9 C60.bd h13 h26 (fun i h1 h2 {_ _} hX {_ _} q0 q1 => ih hX q0 q1 (Xg pa h1) (Xg pb h2) (Nat.lt_of_lt_of_le (Jav h1) (Nat.le_of_lt_succ hN)))) ?_)))))))))))))
  intro v64 w65 C66 s67 h68
  subst h68
  exact Oa (Nl (W.ret (Jf rfl (resV.t rfl) (Ret.intro (congrArg (Value.int _) (Jga (by omega) (by omega) (by omega) (by omega))) C66.below))))
theorem Jvt {X : Nat → Prop} {w : World} (hX : ∀ b, X b → b < w.heap.size) {v0 : Value} {a : GExpr} (r0 : RV J0 X w v0 a) {v1 : Value} {b : GExpr} (r1 : RV J0 X w v1 b) (pa : Z1 a = true) (pb : Z1 b = true) : Calls Tryz.prog 54 #[v0, v1] w (Ret w fun v w' => v = (.int .i64 (cmpE a b))) := Jmo ((SizeOf.sizeOf a) + 1) hX r0 r1 pa pb (Nat.lt_succ_self _)
set_option maxHeartbeats 1000000 in
theorem Y9 {X : Nat → Prop} {w : World} (hX : ∀ b, X b → b < w.heap.size) {v0 : Value} {a : GExpr} (r0 : RV J0 X w v0 a) {v1 : Value} {b : GExpr} (r1 : RV J0 X w v1 b) (pa : Z1 a = true) (pb : Z1 b = true) : Calls Tryz.prog 22 #[v0, v1] w (Ret w fun v w' => v = (.bool (decide (cmpE a b < 0)))) := by
 obtain ⟨a1, c2, a3, c4, a5, c6, a7, c8, rfl, h9⟩ := RV.expr r0
 have h10 := h9.n
 have h11 := h9.num
 have h12 := h9.den
 have h13 := h9.args
 obtain ⟨a14, c15, a16, c17, a18, c19, a20, c21, rfl, h22⟩ := RV.expr r1
 have h23 := h22.n
 have h24 := h22.num
 have h25 := h22.den
 have h26 := h22.args
 have C := Cx.start hX
 refine Calls.ofW (args := [(.agg #[(.int .i64 a.op), (.slice a1 a.n.length c2), (.bool a.c.num.neg), (.slice a3 a.c.num.mag.length c4), (.bool a.c.den.neg), (.slice a5 a.c.den.mag.length c6), (str a.name), (.slice a7 a.args.length c8)]), (.agg #[(.int .i64 b.op), (.slice a14 b.n.length c15), (.bool b.c.num.neg), (.slice a16 b.c.num.mag.length c17), (.bool b.c.den.neg), (.slice a18 b.c.den.mag.length c19), (str b.name), (.slice a20 b.args.length c21)])]) Tryz.func22 rfl rfl (Nat.le_of_ble_eq_true rfl) ?_
 refine Rg (O rfl (St.boxC C rfl ?_))
 intro g27 w28 x29 y30 lt31 C32 s33 o34
 refine O rfl (St.boxC C32 rfl ?_)
 intro g35 w36 x37 y38 lt39 C40 s41 o42
 replace h10 := (h10.sp s33).sp s41
 replace h11 := (h11.sp s33).sp s41
 replace h12 := (h12.sp s33).sp s41
 replace h13 := (h13.sp s33).sp s41
 replace h23 := (h23.sp s33).sp s41
 replace h24 := (h24.sp s33).sp s41
 replace h25 := (h25.sp s33).sp s41
 replace h26 := (h26.sp s33).sp s41
 replace o34 := o34.spn s41
 refine Oa (Nl (Rg (O rfl (St.loadOA (vs := [(.int .i64 a.op), (.slice a1 a.n.length c2), (.bool a.c.num.neg), (.slice a3 a.c.num.mag.length c4), (.bool a.c.den.neg), (.slice a5 a.c.den.mag.length c6), (str a.name), (.slice a7 a.args.length c8)]) o34 ag31 rfl rfl rfl (O rfl (St.loadOA (vs := [(.int .i64 b.op), (.slice a14 b.n.length c15), (.bool b.c.num.neg), (.slice a16 b.c.num.mag.length c17), (.bool b.c.den.neg), (.slice a18 b.c.den.mag.length c19), (str b.name), (.slice a20 b.args.length c21)]) o42 ag31 rfl rfl rfl ?_))))))
 refine O rfl (St.callR C40 cb54 rfl rfl (Jvt C40.bd (Js a h9.lo h9.hi h9.name h10 h11 h12 h13) (Js b h22.lo h22.hi h22.name h23 h24 h25 h26) pa pb) ?_)
 intro v44 w45 C46 s47 h48
 subst h48
 refine O rfl (St.lss rfl rfl rfl (Oa (Nl (W.ret (Jf rfl (resV.t rfl) (Ret.intro ?_ C46.below))))))
 rfl
end Go.Wf
namespace Go.Wf
open Go Go.Proofs Go.RowKit
set_option maxRecDepth 100000
set_option linter.unusedVariables false
set_option linter.unusedSimpArgs false
set_option maxHeartbeats 2000000 in
theorem Jk9 (N : Nat) : ∀ {X : Nat → Prop} {w : World} (hX : ∀ b, X b → b < w.heap.size) {v0 : Value} {a : GExpr} (r0 : RV J0 X w v0 a) {m : Int}  (hN : (SizeOf.sizeOf a) < N), Calls Tryz.prog 51 #[v0, (.int .i64 m)] w (Ret w fun v w' => ∃ n : Int, v = .int .i64 n) := by
 induction N with
 | zero => intro X w hX v0 a r0 m hN; exact absurd hN (Nat.not_lt_zero _)
 | succ N ih =>
  intro X w hX v0 a r0 m hN
  obtain ⟨a1, c2, a3, c4, a5, c6, a7, c8, rfl, h9⟩ := RV.expr r0
  have h10 := h9.n
  have h11 := h9.num
  have h12 := h9.den
  have h13 := h9.args
  have C := Cx.start hX
  have hal := r0.args_max
  refine Calls.ofW (args := [(.agg #[(.int .i64 a.op), (.slice a1 a.n.length c2), (.bool a.c.num.neg), (.slice a3 a.c.num.mag.length c4), (.bool a.c.den.neg), (.slice a5 a.c.den.mag.length c6), (str a.name), (.slice a7 a.args.length c8)]), (.int .i64 m)]) Tryz.func51 rfl rfl (Nat.le_of_ble_eq_true rfl) (Rg (O rfl (St.boxC C rfl ?_)))
  intro g14 w15 x16 y17 lt18 C19 s20 o21
  replace h10 := h10.sp s20
  replace h11 := h11.sp s20
  replace h12 := h12.sp s20
  replace h13 := h13.sp s20
  refine Oa (Nl (Rg (Oa (Nl (Rh (Oa (Nl (W.block (W.loopN (fun μ f v => ∃ (x y : Nat → Prop) (i : Nat) (z : Int), Cx X w x y v ∧ f 1 = (.int .i64 m) ∧ f 2 = (.pointer (some ⟨g14, 0, none⟩)) ∧ f 4 = (.int .i64 0) ∧ f 6 = (.int .i64 ((i : Nat) : Int)) ∧ f 5 = (.int .i64 z) ∧ RS Ke x v (.slice a1 a.n.length c2) a.n ∧ RS Jb x v (.slice a3 a.c.num.mag.length c4) a.c.num.mag ∧ RS Jb x v (.slice a5 a.c.den.mag.length c6) a.c.den.mag ∧ RS J0 x v (.slice a7 a.args.length c8) a.args ∧ Own w y v g14 [(.int .i64 a.op), (.slice a1 a.n.length c2), (.bool a.c.num.neg), (.slice a3 a.c.num.mag.length c4), (.bool a.c.den.neg), (.slice a5 a.c.den.mag.length c6), (str a.name), (.slice a7 a.args.length c8)] 31 ∧ i ≤ a.args.length ∧ μ = (a.args.length - i)) _ ⟨_, _, 0, 1, C19, rfl, rfl, rfl, rfl, rfl, h10, h11, h12, h13, o21, (Nat.zero_le _), rfl⟩ ?_)))))))))
  rintro m34 f22 w23 ⟨x24, y25, i, z, C26, e27, e28, e29, e30, e31, h10, h11, h12, h13, o32, hi, hmu33⟩
  obtain ⟨f35, rfl⟩ := rebK (aC e27 (aC e28 (aC e29 (aC e30 (aC e31 aN)))))
  clear e27 e28 e29 e30 e31
  refine Rh (Om (O rfl (St.fieldAddr Y4 rfl (O rfl (St.loadO1 o32 pl29 rfl rfl (O rfl (St.len sl29 rfl (O rfl (St.lss2 rfl rfl (fun hc36 => ?_) (fun hc36 => ?_))))))))))
  ·refine Om (Og rfl rfl (St.move (Og rfl rfl (St.move (Og rfl rfl (St.leq2 rfl rfl (fun hc37 => ?_) (fun hc37 => ?_)))))))
   ·refine OT (Nl (W.condT rfl (W.skip (W.seq (W.block (W.region (Om (O rfl (St.fieldAddr Y4 rfl (O rfl (St.loadO1 o32 pl29 rfl rfl (Om (O rfl (St.idx (j := i) (u := (a.args.getD i default)) h13 sl29 io31 rfl rfl rfl (Jl (by omega)) ?_))))))))))))))
    intro b38 o39 cs40 e41
    obtain ⟨a42, c43, a44, c45, a46, c47, a48, c49, rfl, h50⟩ := Zh e41.rd
    have h51 := h50.n
    have h52 := h50.num
    have h53 := h50.den
    have h54 := h50.args
    refine O rfl (St.loadA (cs := [(.int .i64 (a.args.getD i default).op), (.slice a42 (a.args.getD i default).n.length c43), (.bool (a.args.getD i default).c.num.neg), (.slice a44 (a.args.getD i default).c.num.mag.length c45), (.bool (a.args.getD i default).c.den.neg), (.slice a46 (a.args.getD i default).c.den.mag.length c47), (str (a.args.getD i default).name), (.slice a48 (a.args.getD i default).args.length c49)]) ag31 rfl rfl e41.cell ?_)
    refine Om (Om (O rfl (St.sub (z := (IntKind.i64.wrap (m - z))) rfl rfl rfl (O rfl (St.callR C26 cb51 rfl rfl (ih C26.bd (Js (a.args.getD i default) h50.lo h50.hi h50.name h51 h52 h53 h54) (Nat.lt_of_lt_of_le (Jav (by omega)) (Nat.le_of_lt_succ hN))) ?_)))))
    intro v55 w56 C57 s58 h59
    replace h10 := h10.sp s58
    replace h11 := h11.sp s58
    replace h12 := h12.sp s58
    replace h13 := h13.sp s58
    replace o32 := o32.spn s58
    obtain ⟨z60, rfl⟩ := h59
    refine O rfl (St.add (z := (IntKind.i64.wrap (z + z60))) rfl rfl rfl (Oa (Nl (W.region (Om (O rfl (St.add rfl rfl (Je (a := i) (b := 1) (by omega)) (Oa (Nl (⟨_, (by omega), _, _, (i + 1), (IntKind.i64.wrap (z + z60)), C57, rfl, rfl, rfl, rfl, rfl, h10, h11, h12, h13, o32, (by omega), rfl⟩))))))))))
   exact OT (Nl (W.condF rfl (W.exit (Rg (Om (Oa (Nl (W.ret (Jf rfl (resV.t rfl) (Ret.intro ⟨_, rfl⟩ C26.below))))))))))
  exact Om (Ox rfl rfl rfl (Ox rfl rfl rfl (Ox rfl rfl rfl (OF (Nl (W.condF rfl (W.exit (Rg (Om (Oa (Nl (W.ret (Jf rfl (resV.t rfl) (Ret.intro ⟨_, rfl⟩ C26.below))))))))))))))
theorem Jwf {X : Nat → Prop} {w : World} (hX : ∀ b, X b → b < w.heap.size) {v0 : Value} {a : GExpr} (r0 : RV J0 X w v0 a) {m : Int}  : Calls Tryz.prog 51 #[v0, (.int .i64 m)] w (Ret w fun v w' => ∃ n : Int, v = .int .i64 n) := Jk9 ((SizeOf.sizeOf a) + 1) hX r0 (Nat.lt_succ_self _)
set_option maxHeartbeats 1000000 in
theorem x_few {X : Nat → Prop} {w : World} (hX : ∀ b, X b → b < w.heap.size) {v0 : Value} {a : GExpr} (r0 : RV J0 X w v0 a) {m : Int}  : Calls Tryz.prog 36 #[v0, (.int .i64 m)] w (Ret w fun v w' => ∃ b : Bool, v = .bool b ∧ (b = true → True)) := by
 obtain ⟨a1, c2, a3, c4, a5, c6, a7, c8, rfl, h9⟩ := RV.expr r0
 have h10 := h9.n
 have h11 := h9.num
 have h12 := h9.den
 have h13 := h9.args
 have C := Cx.start hX
 refine Calls.ofW (args := [(.agg #[(.int .i64 a.op), (.slice a1 a.n.length c2), (.bool a.c.num.neg), (.slice a3 a.c.num.mag.length c4), (.bool a.c.den.neg), (.slice a5 a.c.den.mag.length c6), (str a.name), (.slice a7 a.args.length c8)]), (.int .i64 m)]) Tryz.func36 rfl rfl (Nat.le_of_ble_eq_true rfl) (Rg (O rfl (St.boxC C rfl ?_)))
 intro g14 w15 x16 y17 lt18 C19 s20 o21
 replace h10 := h10.sp s20
 replace h11 := h11.sp s20
 replace h12 := h12.sp s20
 replace h13 := h13.sp s20
 refine Oa (Nl (Rg (O rfl (St.loadOA (vs := [(.int .i64 a.op), (.slice a1 a.n.length c2), (.bool a.c.num.neg), (.slice a3 a.c.num.mag.length c4), (.bool a.c.den.neg), (.slice a5 a.c.den.mag.length c6), (str a.name), (.slice a7 a.args.length c8)]) o21 ag31 rfl rfl rfl (Om (O rfl (St.callR C19 cb51 rfl rfl (Jwf C19.bd (Js a h9.lo h9.hi h9.name h10 h11 h12 h13)) ?_)))))))
 intro v22 w23 C24 s25 h26
 obtain ⟨z27, rfl⟩ := h26
 exact Om (O rfl (St.leq rfl rfl rfl (Oa (Nl (W.ret (Jf rfl (resV.t rfl) (Ret.intro ⟨_, rfl, fun _ => trivial⟩ C24.below)))))))
set_option maxHeartbeats 2000000 in
theorem Jhf (N : Nat) : ∀ {X : Nat → Prop} {w : World} (hX : ∀ b, X b → b < w.heap.size) {v0 : Value} {a : GExpr} (r0 : RV J0 X w v0 a)  (hN : (SizeOf.sizeOf a) < N), Calls Tryz.prog 37 #[v0] w (Ret w fun v w' => v = (.bool (Z1 a))) := by
 induction N with
 | zero => intro X w hX v0 a r0 hN; exact absurd hN (Nat.not_lt_zero _)
 | succ N ih =>
  intro X w hX v0 a r0 hN
  obtain ⟨a1, c2, a3, c4, a5, c6, a7, c8, rfl, h9⟩ := RV.expr r0
  have h10 := h9.n
  have h11 := h9.num
  have h12 := h9.den
  have h13 := h9.args
  have C := Cx.start hX
  have hal := r0.args_max
  refine Calls.ofW (args := [(.agg #[(.int .i64 a.op), (.slice a1 a.n.length c2), (.bool a.c.num.neg), (.slice a3 a.c.num.mag.length c4), (.bool a.c.den.neg), (.slice a5 a.c.den.mag.length c6), (str a.name), (.slice a7 a.args.length c8)])]) Tryz.func37 rfl rfl (Nat.le_of_ble_eq_true rfl) (Rg (O rfl (St.boxC C rfl ?_)))
  intro g14 w15 x16 y17 lt18 C19 s20 o21
  replace h10 := h10.sp s20
  replace h11 := h11.sp s20
  replace h12 := h12.sp s20
  replace h13 := h13.sp s20
  refine Oa (Nl (Rh (O rfl (St.fieldAddr j4 rfl (O rfl (St.loadO1 o21 pl23 rfl rfl (O rfl (St.len sl23 rfl (O rfl (St.gtr2 rfl rfl (fun hc22 => ?_) (fun hc22 => ?_)))))))))))
  ·refine Om (Ox rfl rfl rfl (Ox rfl rfl rfl (Ox rfl rfl rfl (Ox rfl rfl rfl (Ox rfl rfl rfl (Ox rfl rfl rfl (OT (Om (Ox rfl rfl rfl (Ox rfl rfl rfl (Ox rfl rfl rfl (Ox rfl rfl rfl (Ox rfl rfl rfl (Ox rfl rfl rfl (OT (Om (Ox rfl rfl rfl (Ox rfl rfl rfl (Ox rfl rfl rfl ?_)))))))))))))))))))
   exact Ox rfl rfl rfl (OT (Nl (W.condT rfl (Rg (Oa (Nl (W.ret (Jf rfl (resV.t rfl) (Ret.intro (congrArg (Value.bool) (zq (by omega))) C19.below)))))))))
  refine Om (Og rfl rfl (St.fieldAddr jw rfl (Og rfl rfl (St.fieldAddr Kt rfl (Og rfl rfl (St.fieldAddr J3 rfl (Og rfl rfl (St.loadO1 o21 pl24 rfl rfl (Og rfl rfl (St.len sl24 rfl (Og rfl rfl (St.gtr2 rfl rfl (fun hc23 => ?_) (fun hc23 => ?_)))))))))))))
  ·refine OF (Om (Ox rfl rfl rfl (Ox rfl rfl rfl (Ox rfl rfl rfl (Ox rfl rfl rfl (Ox rfl rfl rfl (Ox rfl rfl rfl (OT (Om (Ox rfl rfl rfl (Ox rfl rfl rfl (Ox rfl rfl rfl (Ox rfl rfl rfl (OT (Nl (W.condT rfl (Rg (Oa (Nl ?_)))))))))))))))))))
   exact W.ret (Jf rfl (resV.t rfl) (Ret.intro (congrArg (Value.bool) (zq (by omega))) C19.below))
  refine OF (Om (Og rfl rfl (St.fieldAddr jw rfl (Og rfl rfl (St.fieldAddr Ym rfl (Og rfl rfl (St.fieldAddr J3 rfl (Og rfl rfl (St.loadO1 o21 pl24 rfl rfl (Og rfl rfl (St.len sl24 rfl (Og rfl rfl (St.gtr2 rfl rfl (fun hc24 => ?_) (fun hc24 => ?_))))))))))))))
  ·exact OF (Om (Ox rfl rfl rfl (Ox rfl rfl rfl (Ox rfl rfl rfl (Ox rfl rfl rfl (OT (Nl (W.condT rfl (Rg (Oa (Nl (W.ret (Jf rfl (resV.t rfl) (Ret.intro (congrArg (Value.bool) (zq (by omega))) C19.below))))))))))))))
  refine OF (Om (Og rfl rfl (St.fieldAddr yh rfl (Og rfl rfl (St.loadO1 o21 pl9 rfl rfl (Og rfl rfl (St.lenL un9 rfl (Og rfl rfl (St.gtr2 rfl rfl (fun hc25 => ?_) (fun hc25 => ?_))))))))))
  ·exact OF (Nl (W.condT rfl (Rg (Oa (Nl (W.ret (Jf rfl (resV.t rfl) (Ret.intro (congrArg (Value.bool) (zq (by omega))) C19.below))))))))
  refine OF (Nl (W.condF rfl (W.skip (Rh (Oa (Nl (W.block (W.loopN (fun μ f v => ∃ (x y : Nat → Prop) (i : Nat), Cx X w x y v ∧ f 1 = (.pointer (some ⟨g14, 0, none⟩)) ∧ f 3 = (.int .i64 ((i : Nat) : Int)) ∧ RS Ke x v (.slice a1 a.n.length c2) a.n ∧ RS Jb x v (.slice a3 a.c.num.mag.length c4) a.c.num.mag ∧ RS Jb x v (.slice a5 a.c.den.mag.length c6) a.c.den.mag ∧ RS J0 x v (.slice a7 a.args.length c8) a.args ∧ Own w y v g14 [(.int .i64 a.op), (.slice a1 a.n.length c2), (.bool a.c.num.neg), (.slice a3 a.c.num.mag.length c4), (.bool a.c.den.neg), (.slice a5 a.c.den.mag.length c6), (str a.name), (.slice a7 a.args.length c8)] 31 ∧ i ≤ a.args.length ∧ (∀ j, j < i → Z1 (a.args.getD j default) = true) ∧ μ = (a.args.length - i)) _ ⟨_, _, 0, C19, rfl, rfl, h10, h11, h12, h13, o21, (Nat.zero_le _), (fun _ h => absurd h (Nat.not_lt_zero _)), rfl⟩ ?_))))))))
  rintro m35 f26 w27 ⟨x28, y29, i, C30, e31, e32, h10, h11, h12, h13, o33, hi, hall, hmu34⟩
  obtain ⟨f36, rfl⟩ := rebK (aC e31 (aC e32 aN))
  clear e31 e32
  refine Rh (Om (O rfl (St.fieldAddr Y4 rfl (O rfl (St.loadO1 o33 pl29 rfl rfl (O rfl (St.len sl29 rfl (O rfl (St.lss2 rfl rfl (fun hc37 => ?_) (fun hc37 => ?_))))))))))
  ·refine Nl (W.condT rfl (W.skip (W.seq (W.block (Rg (O rfl (St.fieldAddr Y4 rfl (O rfl (St.loadO1 o33 pl29 rfl rfl (Om (O rfl (St.idx (j := i) (u := (a.args.getD i default)) h13 sl29 io31 rfl rfl rfl (Jl (by omega)) ?_))))))))))))
   intro b38 o39 cs40 e41
   obtain ⟨a42, c43, a44, c45, a46, c47, a48, c49, rfl, h50⟩ := Zh e41.rd
   have h51 := h50.n
   have h52 := h50.num
   have h53 := h50.den
   have h54 := h50.args
   refine O rfl (St.loadA (cs := [(.int .i64 (a.args.getD i default).op), (.slice a42 (a.args.getD i default).n.length c43), (.bool (a.args.getD i default).c.num.neg), (.slice a44 (a.args.getD i default).c.num.mag.length c45), (.bool (a.args.getD i default).c.den.neg), (.slice a46 (a.args.getD i default).c.den.mag.length c47), (str (a.args.getD i default).name), (.slice a48 (a.args.getD i default).args.length c49)]) ag31 rfl rfl e41.cell ?_)
   refine O rfl (St.bool (St.callR C30 cb37 rfl rfl (ih C30.bd (Js (a.args.getD i default) h50.lo h50.hi h50.name h51 h52 h53 h54) (Nat.lt_of_lt_of_le (Jav (by omega)) (Nat.le_of_lt_succ hN))) ?_))
   intro v55 w56 C57 s58 h59
   replace h10 := h10.sp s58
   replace h11 := h11.sp s58
   replace h12 := h12.sp s58
   replace h13 := h13.sp s58
   replace o33 := o33.spn s58
   refine ⟨_, h59, fun hb60 => ?_, fun hb60 => ?_⟩
   ·refine O rfl (St.not rfl (Nl (W.condF rfl (W.skip (W.region (Om (O rfl (St.add rfl rfl (Je (a := i) (b := 1) (by omega)) (Oa (Nl (⟨_, (by omega), _, _, (i + 1), C57, rfl, rfl, h10, h11, h12, h13, o33, (by omega), (Jnm hall hb60), rfl⟩)))))))))))
   exact O rfl (St.not rfl (Nl (W.condT rfl (Rg (Oa (Nl (W.ret (Jf rfl (resV.t rfl) (Ret.intro (congrArg (Value.bool) (Jdj (i := i) (by omega) hb60)) C57.below)))))))))
  exact Nl (W.condF rfl (W.exit (Rg (Oa (Nl (W.ret (Jf rfl (resV.t rfl) (Ret.intro (congrArg (Value.bool) (Jjg hc22 hc23 hc24 hc25 (by omega) hall)) C30.below))))))))
theorem Jpx {X : Nat → Prop} {w : World} (hX : ∀ b, X b → b < w.heap.size) {v0 : Value} {a : GExpr} (r0 : RV J0 X w v0 a)  : Calls Tryz.prog 37 #[v0] w (Ret w fun v w' => v = (.bool (Z1 a))) := Jhf ((SizeOf.sizeOf a) + 1) hX r0 (Nat.lt_succ_self _)
set_option maxHeartbeats 2000000 in
theorem Jj2 (N : Nat) : ∀ {X : Nat → Prop} {w : World} (hX : ∀ b, X b → b < w.heap.size) {v0 : Value} {a : GExpr} (r0 : RV J0 X w v0 a) {m : Int} (pa : Z1 a = true) (hN : (SizeOf.sizeOf a) < N), Calls Tryz.prog 38 #[v0, (.int .i64 m)] w (Ret w fun v w' => ∃ n : Int, v = .int .i64 n) := by
 induction N with
 | zero => intro X w hX v0 a r0 m pa hN; exact absurd hN (Nat.not_lt_zero _)
 | succ N ih =>
  intro X w hX v0 a r0 m pa hN
  obtain ⟨a1, c2, a3, c4, a5, c6, a7, c8, rfl, h9⟩ := RV.expr r0
  have h10 := h9.n
  have h11 := h9.num
  have h12 := h9.den
  have h13 := h9.args
  have C := Cx.start hX
  have hal := r0.args_max
  obtain ⟨pa1, pa2, pa3, pa4, pa5⟩ := Y7.1 pa
  refine Calls.ofW (args := [(.agg #[(.int .i64 a.op), (.slice a1 a.n.length c2), (.bool a.c.num.neg), (.slice a3 a.c.num.mag.length c4), (.bool a.c.den.neg), (.slice a5 a.c.den.mag.length c6), (str a.name), (.slice a7 a.args.length c8)]), (.int .i64 m)]) Tryz.func38 rfl rfl (Nat.le_of_ble_eq_true rfl) (Rg (O rfl (St.boxC C rfl ?_)))
  intro g14 w15 x16 y17 lt18 C19 s20 o21
  replace h10 := h10.sp s20
  replace h11 := h11.sp s20
  replace h12 := h12.sp s20
  replace h13 := h13.sp s20
  refine Oa (Nl (Rg (Oa (Nl (W.seq (W.cut (fun f v => ∃ (x y : Nat → Prop) (z : Int), Cx X w x y v ∧ f 1 = (.int .i64 m) ∧ f 2 = (.pointer (some ⟨g14, 0, none⟩)) ∧ f 4 = (.int .i64 0) ∧ f 5 = (.int .i64 z) ∧ RS Ke x v (.slice a1 a.n.length c2) a.n ∧ RS Jb x v (.slice a3 a.c.num.mag.length c4) a.c.num.mag ∧ RS Jb x v (.slice a5 a.c.den.mag.length c6) a.c.den.mag ∧ RS J0 x v (.slice a7 a.args.length c8) a.args ∧ Own w y v g14 [(.int .i64 a.op), (.slice a1 a.n.length c2), (.bool a.c.num.neg), (.slice a3 a.c.num.mag.length c4), (.bool a.c.den.neg), (.slice a5 a.c.den.mag.length c6), (str a.name), (.slice a7 a.args.length c8)] 31) ?_ ?_))))))
  ·refine Rg (O rfl (St.fieldAddr Q4 rfl (O rfl (St.loadO1 o21 pl3 rfl rfl (O rfl (St.eql2 rfl rfl (fun hc22 => ?_) (fun hc22 => ?_)))))))
   ·refine Nl (W.condT rfl (W.region (O rfl (St.fieldAddr jw rfl (O rfl (St.fieldAddr Kt rfl (O rfl (St.fieldAddr J3 rfl (O rfl (St.loadO1 o21 pl24 rfl rfl (O rfl (St.len sl24 rfl (O rfl (St.fieldAddr jw rfl (O rfl (St.fieldAddr Ym rfl (O rfl (St.fieldAddr J3 rfl (O rfl (St.loadO1 o21 pl24 rfl rfl (O rfl (St.len sl24 rfl (O rfl (St.add rfl rfl (Je (a := a.c.num.mag.length) (b := a.c.den.mag.length) (by omega)) ?_))))))))))))))))))))))))
    refine O rfl (St.mul rfl rfl (yl (a := 32) (b := a.c.num.mag.length + a.c.den.mag.length) (by omega)) (Om (O rfl (St.mul (z := (IntKind.i64.wrap (((32 * (a.c.num.mag.length + a.c.den.mag.length) : Nat) : Int) * m))) rfl rfl rfl (O rfl (St.quo rfl rfl (by decide) rfl (Oa (Nl (⟨_, _, (IntKind.i64.wrap (Int.tdiv (IntKind.i64.wrap (((32 * (a.c.num.mag.length + a.c.den.mag.length) : Nat) : Int) * m)) 4)), C19, rfl, rfl, rfl, rfl, h10, h11, h12, h13, o21⟩)))))))))
   refine Nl (W.condF rfl (W.skip (⟨_, _, 0, C19, rfl, rfl, rfl, rfl, h10, h11, h12, h13, o21⟩)))
  rintro f23 w24 ⟨x25, y26, z, C27, e28, e29, e30, e31, h10, h11, h12, h13, o32⟩
  obtain ⟨f33, rfl⟩ := rebK (aC e28 (aC e29 (aC e30 (aC e31 aN))))
  clear e28 e29 e30 e31
  refine W.seq (W.cut (fun f v => ∃ (x y : Nat → Prop) (t : Int), Cx X w x y v ∧ f 2 = (.pointer (some ⟨g14, 0, none⟩)) ∧ f 4 = (.int .i64 0) ∧ f 5 = (.int .i64 z) ∧ f 1 = (.int .i64 t) ∧ RS Ke x v (.slice a1 a.n.length c2) a.n ∧ RS Jb x v (.slice a3 a.c.num.mag.length c4) a.c.num.mag ∧ RS Jb x v (.slice a5 a.c.den.mag.length c6) a.c.den.mag ∧ RS J0 x v (.slice a7 a.args.length c8) a.args ∧ Own w y v g14 [(.int .i64 a.op), (.slice a1 a.n.length c2), (.bool a.c.num.neg), (.slice a3 a.c.num.mag.length c4), (.bool a.c.den.neg), (.slice a5 a.c.den.mag.length c6), (str a.name), (.slice a7 a.args.length c8)] 31) ?_ ?_)
  ·refine Rg (O rfl (St.fieldAddr Q4 rfl (O rfl (St.loadO1 o32 pl3 rfl rfl (O rfl (St.eql2 rfl rfl (fun hc34 => ?_) (fun hc34 => ?_)))))))
   ·refine Om (Og rfl rfl (St.fieldAddr j4 rfl (Og rfl rfl (St.loadO1 o32 pl23 rfl rfl (Og rfl rfl (St.len sl23 rfl (Og rfl rfl (St.gtr2 rfl rfl (fun hc35 => ?_) (fun hc35 => ?_)))))))))
    ·refine OT (Nl (W.condT rfl (W.drawC Zc 14 [[], [], [1], [2], [3], [4], [], [6], [7], [8], [9], [10], [11], [5, 12]] C27 [fx (.int .i64 m), fx (.pointer (some ⟨g14, 1, none⟩)), fx (.slice a1 a.n.length c2), fE Ke (a.n.getD 0 0), fx (.int .i64 (a.n.getD 0 0)), fx (.int .i64 (if 1000 < (a.n.getD 0 0) then 1000 else (a.n.getD 0 0))), fx (.pointer (some ⟨g14, 1, none⟩)), fx (.slice a1 a.n.length c2), fE Ke (a.n.getD 0 0), fx (.int .i64 (a.n.getD 0 0)), fx (.int .i64 (if (-1000) > (a.n.getD 0 0) then (-1000) else (a.n.getD 0 0))), fx (.int .i64 (IntKind.i64.wrap (0 - (if (-1000) > (a.n.getD 0 0) then (-1000) else (a.n.getD 0 0))))), fx (.int .i64 (if 1000 < (IntKind.i64.wrap (0 - (if (-1000) > (a.n.getD 0 0) then (-1000) else (a.n.getD 0 0)))) then 1000 else (IntKind.i64.wrap (0 - (if (-1000) > (a.n.getD 0 0) then (-1000) else (a.n.getD 0 0)))))), fx (.int .i64 (if (if 1000 < (IntKind.i64.wrap (0 - (if (-1000) > (a.n.getD 0 0) then (-1000) else (a.n.getD 0 0)))) then 1000 else (IntKind.i64.wrap (0 - (if (-1000) > (a.n.getD 0 0) then (-1000) else (a.n.getD 0 0))))) > (if (if 1000 < (a.n.getD 0 0) then 1000 else (a.n.getD 0 0)) > 1 then (if 1000 < (a.n.getD 0 0) then 1000 else (a.n.getD 0 0)) else 1) then (if 1000 < (IntKind.i64.wrap (0 - (if (-1000) > (a.n.getD 0 0) then (-1000) else (a.n.getD 0 0)))) then 1000 else (IntKind.i64.wrap (0 - (if (-1000) > (a.n.getD 0 0) then (-1000) else (a.n.getD 0 0))))) else (if (if 1000 < (a.n.getD 0 0) then 1000 else (a.n.getD 0 0)) > 1 then (if 1000 < (a.n.getD 0 0) then 1000 else (a.n.getD 0 0)) else 1)))] (by kernel_rfl) ⟨sx, sx, sx, sE, sx, sx, sx, sx, sE, sx, sx, sx, sx, sx, trivial⟩ fun f47 s48 w49 ⟨C52, S53⟩ k51 => ?_)))
     replace h10 := h10.sp S53
     replace h11 := h11.sp S53
     replace h12 := h12.sp S53
     replace h13 := h13.sp S53
     replace o32 := o32.spn S53
     have k51 : Keep [34, 35, 36, 37, 38, 39, 40, 41, 42, 43, 44, 45, 46, 47] _ f47 := k51
     refine ⟨⟨fun _ => ?_, fun _ => ?_, fun ⟨e55, _⟩ => ?_, fun ⟨e56, _⟩ => ?_, fun ⟨d57, _⟩ => ?_, fun ⟨e58, _⟩ => ?_, fun _ => ?_, fun ⟨e59, _⟩ => ?_, fun ⟨e60, _⟩ => ?_, fun ⟨d61, _⟩ => ?_, fun ⟨e62, _⟩ => ?_, fun ⟨e63, _⟩ => ?_, fun ⟨e64, _⟩ => ?_, fun ⟨e65, e66, _⟩ => ?_, trivial⟩, fun ⟨e67, e68, e69, d70, e71, e72, e73, e74, d75, e76, e77, e78, e79, e80, _⟩ => ?_⟩
     ·exact Ja k51 aN fun _ => OpSt.op (St.move ⟨s48, RC.same C52, rfl⟩)
     ·exact Ja k51 aN fun _ => OpSt.op (St.fieldAddr j4 rfl ⟨s48, RC.same C52, rfl⟩)
     ·exact Ja k51 (aC e55 aN) fun _ => OpSt.op (St.loadO1 o32 pl23 rfl rfl ⟨s48, RC.same C52, rfl⟩)
     ·refine Ja k51 (aC e56 aN) fun _ => OpSt.op (St.idx (j := 0) (u := (a.n.getD 0 0)) h10 sl23 io3 rfl rfl rfl (Jl (by omega)) ?_)
      intro b81 o82 cs83 e84
      obtain ⟨rfl, bd85⟩ : cs83 = _ ∧ _ := e84.rd
      exact ⟨s48, RC.same C52, ⟨_, _, _, rfl, e84⟩⟩
     ·obtain ⟨b87, o88, cs89, e86, e90⟩ := d57
      obtain ⟨rfl, bd91⟩ : cs89 = _ ∧ _ := e90.rd
      exact Ja k51 (aC e86 aN) fun _ => OpSt.op (St.load1 pl3 rfl (e90.cell 0 _ rfl) ⟨s48, RC.same C52, rfl⟩)
     ·exact Ja k51 (aC e58 aN) fun _ => OpSt.op (St.min rfl rfl rfl ⟨s48, RC.same C52, rfl⟩)
     ·exact Ja k51 aN fun _ => OpSt.op (St.fieldAddr j4 rfl ⟨s48, RC.same C52, rfl⟩)
     ·exact Ja k51 (aC e59 aN) fun _ => OpSt.op (St.loadO1 o32 pl23 rfl rfl ⟨s48, RC.same C52, rfl⟩)
     ·refine Ja k51 (aC e60 aN) fun _ => OpSt.op (St.idx (j := 0) (u := (a.n.getD 0 0)) h10 sl23 io3 rfl rfl rfl (Jl (by omega)) ?_)
      intro b92 o93 cs94 e95
      obtain ⟨rfl, bd96⟩ : cs94 = _ ∧ _ := e95.rd
      exact ⟨s48, RC.same C52, ⟨_, _, _, rfl, e95⟩⟩
     ·obtain ⟨b98, o99, cs100, e97, e101⟩ := d61
      obtain ⟨rfl, bd102⟩ : cs100 = _ ∧ _ := e101.rd
      exact Ja k51 (aC e97 aN) fun _ => OpSt.op (St.load1 pl3 rfl (e101.cell 0 _ rfl) ⟨s48, RC.same C52, rfl⟩)
     ·exact Ja k51 (aC e62 aN) fun _ => OpSt.op (St.max rfl rfl rfl ⟨s48, RC.same C52, rfl⟩)
     ·exact Ja k51 (aC e63 aN) fun _ => OpSt.op (St.neg (z := (IntKind.i64.wrap (0 - (if (-1000) > (a.n.getD 0 0) then (-1000) else (a.n.getD 0 0))))) rfl rfl ⟨s48, RC.same C52, rfl⟩)
     ·exact Ja k51 (aC e64 aN) fun _ => OpSt.op (St.min rfl rfl rfl ⟨s48, RC.same C52, rfl⟩)
     ·exact Ja k51 (aC e65 (aC e66 aN)) fun _ => OpSt.op (St.max3 rfl rfl rfl rfl ⟨s48, RC.same C52, rfl⟩)
     obtain ⟨b104, o105, cs106, e103, e107⟩ := d70
     obtain ⟨rfl, bd108⟩ : cs106 = _ ∧ _ := e107.rd
     obtain ⟨b110, o111, cs112, e109, e113⟩ := d75
     obtain ⟨rfl, bd114⟩ : cs112 = _ ∧ _ := e113.rd
     obtain ⟨f115, rfl⟩ := mixK k51 (aC e67 (aC e68 (aC e69 (aC e103 (aC e71 (aC e72 (aC e73 (aC e74 (aC e109 (aC e76 (aC e77 (aC e78 (aC e79 (aC e80 aN))))))))))))))
     refine O rfl (St.mul (z := (IntKind.i64.wrap (m * (if (if 1000 < (IntKind.i64.wrap (0 - (if (-1000) > (a.n.getD 0 0) then (-1000) else (a.n.getD 0 0)))) then 1000 else (IntKind.i64.wrap (0 - (if (-1000) > (a.n.getD 0 0) then (-1000) else (a.n.getD 0 0))))) > (if (if 1000 < (a.n.getD 0 0) then 1000 else (a.n.getD 0 0)) > 1 then (if 1000 < (a.n.getD 0 0) then 1000 else (a.n.getD 0 0)) else 1) then (if 1000 < (IntKind.i64.wrap (0 - (if (-1000) > (a.n.getD 0 0) then (-1000) else (a.n.getD 0 0)))) then 1000 else (IntKind.i64.wrap (0 - (if (-1000) > (a.n.getD 0 0) then (-1000) else (a.n.getD 0 0))))) else (if (if 1000 < (a.n.getD 0 0) then 1000 else (a.n.getD 0 0)) > 1 then (if 1000 < (a.n.getD 0 0) then 1000 else (a.n.getD 0 0)) else 1))))) rfl rfl rfl ?_)
     refine O rfl (St.min rfl rfl rfl (Oa (Nl (⟨_, _, (if 100000 < (IntKind.i64.wrap (m * (if (if 1000 < (IntKind.i64.wrap (0 - (if (-1000) > (a.n.getD 0 0) then (-1000) else (a.n.getD 0 0)))) then 1000 else (IntKind.i64.wrap (0 - (if (-1000) > (a.n.getD 0 0) then (-1000) else (a.n.getD 0 0))))) > (if (if 1000 < (a.n.getD 0 0) then 1000 else (a.n.getD 0 0)) > 1 then (if 1000 < (a.n.getD 0 0) then 1000 else (a.n.getD 0 0)) else 1) then (if 1000 < (IntKind.i64.wrap (0 - (if (-1000) > (a.n.getD 0 0) then (-1000) else (a.n.getD 0 0)))) then 1000 else (IntKind.i64.wrap (0 - (if (-1000) > (a.n.getD 0 0) then (-1000) else (a.n.getD 0 0))))) else (if (if 1000 < (a.n.getD 0 0) then 1000 else (a.n.getD 0 0)) > 1 then (if 1000 < (a.n.getD 0 0) then 1000 else (a.n.getD 0 0)) else 1)))) then 100000 else (IntKind.i64.wrap (m * (if (if 1000 < (IntKind.i64.wrap (0 - (if (-1000) > (a.n.getD 0 0) then (-1000) else (a.n.getD 0 0)))) then 1000 else (IntKind.i64.wrap (0 - (if (-1000) > (a.n.getD 0 0) then (-1000) else (a.n.getD 0 0))))) > (if (if 1000 < (a.n.getD 0 0) then 1000 else (a.n.getD 0 0)) > 1 then (if 1000 < (a.n.getD 0 0) then 1000 else (a.n.getD 0 0)) else 1) then (if 1000 < (IntKind.i64.wrap (0 - (if (-1000) > (a.n.getD 0 0) then (-1000) else (a.n.getD 0 0)))) then 1000 else (IntKind.i64.wrap (0 - (if (-1000) > (a.n.getD 0 0) then (-1000) else (a.n.getD 0 0))))) else (if (if 1000 < (a.n.getD 0 0) then 1000 else (a.n.getD 0 0)) > 1 then (if 1000 < (a.n.getD 0 0) then 1000 else (a.n.getD 0 0)) else 1))))), C52, rfl, rfl, rfl, rfl, h10, h11, h12, h13, o32⟩))))
    refine OT (Nl (W.condF rfl (W.skip (⟨_, _, m, C27, rfl, rfl, rfl, rfl, h10, h11, h12, h13, o32⟩))))
   refine Om (Ox rfl rfl rfl (Ox rfl rfl rfl (Ox rfl rfl rfl (Ox rfl rfl rfl (OF (Nl (W.condF rfl (W.skip (⟨_, _, m, C27, rfl, rfl, rfl, rfl, h10, h11, h12, h13, o32⟩)))))))))
  rintro f116 w117 ⟨x118, y119, t, C120, e121, e122, e123, e124, h10, h11, h12, h13, o125⟩
  obtain ⟨f126, rfl⟩ := rebK (aC e121 (aC e122 (aC e123 (aC e124 aN))))
  clear e121 e122 e123 e124
  refine Rh (Oa (Nl (W.block (W.loopN (fun μ f v => ∃ (x y : Nat → Prop) (i : Nat) (z2 : Int), Cx X w x y v ∧ f 1 = (.int .i64 t) ∧ f 2 = (.pointer (some ⟨g14, 0, none⟩)) ∧ f 4 = (.int .i64 0) ∧ f 6 = (.int .i64 ((i : Nat) : Int)) ∧ f 5 = (.int .i64 z2) ∧ RS Ke x v (.slice a1 a.n.length c2) a.n ∧ RS Jb x v (.slice a3 a.c.num.mag.length c4) a.c.num.mag ∧ RS Jb x v (.slice a5 a.c.den.mag.length c6) a.c.den.mag ∧ RS J0 x v (.slice a7 a.args.length c8) a.args ∧ Own w y v g14 [(.int .i64 a.op), (.slice a1 a.n.length c2), (.bool a.c.num.neg), (.slice a3 a.c.num.mag.length c4), (.bool a.c.den.neg), (.slice a5 a.c.den.mag.length c6), (str a.name), (.slice a7 a.args.length c8)] 31 ∧ i ≤ a.args.length ∧ μ = (a.args.length - i)) _ ⟨_, _, 0, z, C120, rfl, rfl, rfl, rfl, rfl, h10, h11, h12, h13, o125, (Nat.zero_le _), rfl⟩ ?_))))
  rintro m139 f127 w128 ⟨x129, y130, i, z2, C131, e132, e133, e134, e135, e136, h10, h11, h12, h13, o137, hi, hmu138⟩
  obtain ⟨f140, rfl⟩ := rebK (aC e132 (aC e133 (aC e134 (aC e135 (aC e136 aN)))))
  clear e132 e133 e134 e135 e136
  refine Rh (Om (O rfl (St.fieldAddr Y4 rfl (O rfl (St.loadO1 o137 pl29 rfl rfl (O rfl (St.len sl29 rfl (O rfl (St.lss2 rfl rfl (fun hc141 => ?_) (fun hc141 => ?_))))))))))
  ·refine Nl (W.condT rfl (W.skip (W.seq (W.block (W.region (Om (O rfl (St.fieldAddr Y4 rfl (O rfl (St.loadO1 o137 pl29 rfl rfl (Om (O rfl (St.idx (j := i) (u := (a.args.getD i default)) h13 sl29 io31 rfl rfl rfl (Jl (by omega)) ?_)))))))))))))
   intro b142 o143 cs144 e145
   obtain ⟨a146, c147, a148, c149, a150, c151, a152, c153, rfl, h154⟩ := Zh e145.rd
   have h155 := h154.n
   have h156 := h154.num
   have h157 := h154.den
   have h158 := h154.args
   refine O rfl (St.loadA (cs := [(.int .i64 (a.args.getD i default).op), (.slice a146 (a.args.getD i default).n.length c147), (.bool (a.args.getD i default).c.num.neg), (.slice a148 (a.args.getD i default).c.num.mag.length c149), (.bool (a.args.getD i default).c.den.neg), (.slice a150 (a.args.getD i default).c.den.mag.length c151), (str (a.args.getD i default).name), (.slice a152 (a.args.getD i default).args.length c153)]) ag31 rfl rfl e145.cell ?_)
   refine Om (O rfl (St.callR C131 cb38 rfl rfl (ih C131.bd (Js (a.args.getD i default) h154.lo h154.hi h154.name h155 h156 h157 h158) (Xg pa (by omega)) (Nat.lt_of_lt_of_le (Jav (by omega)) (Nat.le_of_lt_succ hN))) ?_))
   intro v159 w160 C161 s162 h163
   replace h10 := h10.sp s162
   replace h11 := h11.sp s162
   replace h12 := h12.sp s162
   replace h13 := h13.sp s162
   replace o137 := o137.spn s162
   obtain ⟨z164, rfl⟩ := h163
   refine O rfl (St.add (z := (IntKind.i64.wrap (z2 + z164))) rfl rfl rfl (O rfl (St.min rfl rfl rfl (Oa (Nl (W.region (Om (O rfl (St.add rfl rfl (Je (a := i) (b := 1) (by omega)) (Oa (Nl (⟨_, (by omega), _, _, (i + 1), (if 100000 < (IntKind.i64.wrap (z2 + z164)) then 100000 else (IntKind.i64.wrap (z2 + z164))), C161, rfl, rfl, rfl, rfl, rfl, h10, h11, h12, h13, o137, (by omega), rfl⟩))))))))))))
  exact Nl (W.condF rfl (W.exit (Rg (Om (Oa (Nl (W.ret (Jf rfl (resV.t rfl) (Ret.intro ⟨_, rfl⟩ C131.below)))))))))
theorem Jrc {X : Nat → Prop} {w : World} (hX : ∀ b, X b → b < w.heap.size) {v0 : Value} {a : GExpr} (r0 : RV J0 X w v0 a) {m : Int} (pa : Z1 a = true) : Calls Tryz.prog 38 #[v0, (.int .i64 m)] w (Ret w fun v w' => ∃ n : Int, v = .int .i64 n) := Jj2 ((SizeOf.sizeOf a) + 1) hX r0 pa (Nat.lt_succ_self _)
set_option maxHeartbeats 1000000 in
theorem Jdc {X : Nat → Prop} {w : World} (hX : ∀ b, X b → b < w.heap.size) {v0 : Value} {a : GExpr} (r0 : RV J0 X w v0 a)  : Calls Tryz.prog 13 #[v0] w (Ret w fun v w' => ∃ b : Bool, v = .bool b ∧ (b = true → (Z1 a = true))) := by
 obtain ⟨a1, c2, a3, c4, a5, c6, a7, c8, rfl, h9⟩ := RV.expr r0
 have h10 := h9.n
 have h11 := h9.num
 have h12 := h9.den
 have h13 := h9.args
 have C := Cx.start hX
 refine Calls.ofW (args := [(.agg #[(.int .i64 a.op), (.slice a1 a.n.length c2), (.bool a.c.num.neg), (.slice a3 a.c.num.mag.length c4), (.bool a.c.den.neg), (.slice a5 a.c.den.mag.length c6), (str a.name), (.slice a7 a.args.length c8)])]) Tryz.func13 rfl rfl (Nat.le_of_ble_eq_true rfl) (Rg (O rfl (St.boxC C rfl ?_)))
 intro g14 w15 x16 y17 lt18 C19 s20 o21
 replace h10 := h10.sp s20
 replace h11 := h11.sp s20
 replace h12 := h12.sp s20
 replace h13 := h13.sp s20
 refine Oa (Nl (Rg (O rfl (St.loadOA (vs := [(.int .i64 a.op), (.slice a1 a.n.length c2), (.bool a.c.num.neg), (.slice a3 a.c.num.mag.length c4), (.bool a.c.den.neg), (.slice a5 a.c.den.mag.length c6), (str a.name), (.slice a7 a.args.length c8)]) o21 ag31 rfl rfl rfl (O rfl (St.bool (St.callR C19 cb36 rfl rfl (x_few C19.bd (Js a h9.lo h9.hi h9.name h10 h11 h12 h13)) ?_)))))))
 intro v22 w23 C24 s25 h26
 replace h10 := h10.sp s25
 replace h11 := h11.sp s25
 replace h12 := h12.sp s25
 replace h13 := h13.sp s25
 replace o21 := o21.spn s25
 obtain ⟨b28, e29, hp30⟩ := h26
 refine ⟨b28, e29, fun hb27 => ?_, fun hb27 => ?_⟩
 ·refine Om (Og rfl rfl (St.loadOA (vs := [(.int .i64 a.op), (.slice a1 a.n.length c2), (.bool a.c.num.neg), (.slice a3 a.c.num.mag.length c4), (.bool a.c.den.neg), (.slice a5 a.c.den.mag.length c6), (str a.name), (.slice a7 a.args.length c8)]) o21 ag31 rfl rfl rfl (Og rfl rfl (St.bool (St.callR C24 cb37 rfl rfl (Jpx C24.bd (Js a h9.lo h9.hi h9.name h10 h11 h12 h13)) ?_)))))
  intro v31 w32 C33 s34 h35
  replace h10 := h10.sp s34
  replace h11 := h11.sp s34
  replace h12 := h12.sp s34
  replace h13 := h13.sp s34
  replace o21 := o21.spn s34
  refine ⟨_, h35, fun hb36 => ?_, fun hb36 => ?_⟩
  ·refine OT (Om (Og rfl rfl (St.loadOA (vs := [(.int .i64 a.op), (.slice a1 a.n.length c2), (.bool a.c.num.neg), (.slice a3 a.c.num.mag.length c4), (.bool a.c.den.neg), (.slice a5 a.c.den.mag.length c6), (str a.name), (.slice a7 a.args.length c8)]) o21 ag31 rfl rfl rfl (Og rfl rfl (St.callR C33 cb38 rfl rfl (Jrc C33.bd (Js a h9.lo h9.hi h9.name h10 h11 h12 h13) hb36) ?_)))))
   intro v37 w38 C39 s40 h41
   obtain ⟨z42, rfl⟩ := h41
   exact Og rfl rfl (St.leq rfl rfl rfl (OT (Oa (Nl (W.ret (Jf rfl (resV.t rfl) (Ret.intro ⟨_, rfl, fun _ => hb36⟩ C39.below)))))))
  exact OT (Om (Ox rfl rfl rfl (Ox rfl rfl rfl (Ox rfl rfl rfl (OF (Oa (Nl (W.ret (Jf rfl (resV.t rfl) (Ret.intro ⟨_, rfl, fun e => by cases e⟩ C33.below))))))))))
 exact Om (Ox rfl rfl rfl (Ox rfl rfl rfl (OF (Om (Ox rfl rfl rfl (Ox rfl rfl rfl (Ox rfl rfl rfl (OF (Oa (Nl (W.ret (Jf rfl (resV.t rfl) (Ret.intro ⟨_, rfl, fun e => by cases e⟩ C24.below)))))))))))))
end Go.Wf
namespace Go.Ev
set_option linter.unusedVariables false
set_option linter.unusedSimpArgs false
open Go Go.Wf Go.RowKit
theorem jr (m j : Nat) : tb m j = m.testBit j := by
 show Nat.beq (Nat.land (Nat.shiftRight m j) 1) 1 = _
 rw [j0]
 have : Nat.land (Nat.shiftRight m j) 1 = (m >>> j) % 2 := Nat.and_two_pow_sub_one_eq_mod _ 1
 rw [this, Nat.testBit_eq_decide_div_mod_eq, Nat.shiftRight_eq_div_pow]
theorem j1 (a b j : Nat) : tb (Nat.lor a b) j = (tb a j || tb b j) := by
 rw [jr, jr, jr]; exact Nat.testBit_or a b j
theorem Jcj (e j : Nat) : tb (Nat.pow 2 e) j = decide (e = j) := by rw [jr]; exact Nat.testBit_two_pow
theorem Jdx (j : Nat) : tb 0 j = false := by rw [jr]; exact Nat.zero_testBit j
theorem Jdz {α : Type} (l : List α) (x : α) : snoc l x = l ++ [x] := by
 induction l with
 | nil => rfl
 | cons a l ih => exact congrArg (a :: ·) ih
theorem Jvq {acc : List Nat} {j : Nat} : ∀ (es : List Edge) (s : Nat), tb (edgM acc es s) j = true → tb s j = true ∨ ∃ e ∈ es, Region.binds .any e = true ∧ (e.on = j ∨ tb (acc[e.on]?.getD 0) j = true) := by
 intro es
 induction es with
 | nil => intro s h; exact .inl h
 | cons e es ih =>
  intro s h
  have e0 : edgM acc (e :: es) s = Bool.rec (edgM acc es s) (fz (Nat.lor (Nat.lor (edgM acc es s) (Nat.pow 2 e.on)) ((nth acc e.on).getD 0)) fun x => x) (Region.binds .any e) := rfl
  rw [e0] at h
  have rest : tb (edgM acc es s) j = true → tb s j = true ∨ ∃ e' ∈ e :: es, Region.binds .any e' = true ∧ (e'.on = j ∨ tb (acc[e'.on]?.getD 0) j = true) := by
   intro h
   rcases ih s h with h | ⟨e', he, hb, hj⟩
   ·exact .inl h
   ·exact .inr ⟨e', List.mem_cons_of_mem _ he, hb, hj⟩
  cases hb : Region.binds .any e with
  | false => rw [hb] at h; exact rest h
  | true =>
   rw [hb] at h
   simp only [Xk, j1, Jcj, V5, Bool.or_eq_true, decide_eq_true_eq] at h
   rcases h with (h | h) | h
   ·exact rest h
   ·exact .inr ⟨e, List.mem_cons_self, hb, .inl h⟩
   ·exact .inr ⟨e, List.mem_cons_self, hb, .inr h⟩
theorem Joj : ∀ (l : List Oper) (acc : List Nat), ∃ r, ancM l acc = acc ++ r ∧ r.length = l.length ∧ ∀ (k : Nat) (o : Oper), l[k]? = some o → r[k]? = some (edgM (acc ++ r.take k) o.after.toList 0) := by
 intro l
 induction l with
 | nil => intro acc; exact ⟨[], by simp [ancM], rfl, fun k o h => by simp at h⟩
 | cons o l ih =>
  intro acc
  have e0 : ancM (o :: l) acc = fz (edgM acc o.after.toList 0) fun m => ancM l (snoc acc m) := rfl
  rw [e0, Xk, Jdz]
  obtain ⟨r, h1, h2, h3⟩ := ih (acc ++ [edgM acc o.after.toList 0])
  refine ⟨edgM acc o.after.toList 0 :: r, by rw [h1]; simp, by simp [h2], ?_⟩
  intro k o' hk
  cases k with
  | zero => simp at hk; subst hk; simp
  | succ k =>
   have := h3 k o' (by simpa using hk)
   simpa using this
section
variable {ops : Array Oper}
noncomputable def msk (ops : Array Oper) (k : Nat) : Nat := ((ancM ops.toList [])[k]?).getD 0
theorem jp : (ancM ops.toList []).length = ops.size := by
 obtain ⟨r, h1, h2, _⟩ := Joj ops.toList []
 rw [h1]; simp [h2]
theorem Jbr {k : Nat} (hk : k < ops.size) : (ancM ops.toList [])[k]? = some (msk ops k) := by
 unfold msk
 rw [List.getElem?_eq_getElem (by rw [jp]; exact hk)]; rfl
theorem Ju6 {k j : Nat} {o : Oper} (ho : ops[k]? = some o) (h : tb (msk ops k) j = true) : ∃ e ∈ o.after, Region.binds .any e = true ∧ (e.on = j ∨ (e.on < k ∧ tb (msk ops e.on) j = true)) := by
 obtain ⟨r, h1, h2, h3⟩ := Joj ops.toList []
 have hk := h3 k o (by simpa using ho)
 simp only [List.nil_append] at h1 hk
 unfold msk at h
 rw [h1, hk] at h
 simp only [Option.getD_some] at h
 rcases Jvq _ _ h with h | ⟨e, he, hb, hj⟩
 ·rw [Jdx] at h; cases h
 ·refine ⟨e, by simpa using he, hb, ?_⟩
  rcases hj with hj | hj
  ·exact .inl hj
  ·rw [List.getElem?_take] at hj
   split at hj
   ·rename_i hlt
    refine .inr ⟨hlt, ?_⟩
    unfold msk
    rw [h1]; exact hj
   ·simp only [Option.getD_none] at hj
    rw [Jdx] at hj; cases hj
theorem Ji1 {L : Array Bool} (hs : L.size = ops.size) (hc : Yz ops L) : ∀ (k : Nat) (o : Oper) (j : Nat), ops[k]? = some o → (∀ e ∈ o.after, Region.binds .any e = true → L.getD e.on false = true) → tb (msk ops k) j = true → L.getD j false = true := by
 intro k
 induction k using Nat.strongRecOn with
 | _ k ih =>
  intro o j ho hp h
  obtain ⟨e, he, hb, hj⟩ := Ju6 ho h
  have hl := hp e he hb
  rcases hj with rfl | ⟨hlt, hj⟩
  ·exact hl
  ·have hsz : e.on < ops.size := by
    have := (Array.getElem?_eq_some_iff.1 ho).1; omega
   have hso : ops[e.on]? = some ops[e.on] := by simp [hsz]
   refine ih e.on hlt ops[e.on] j hso ?_ hj
   intro e' he' hb'
   refine hc e.on hsz ?_ _ hso e' he' hb'
   have : L[e.on]? = some L[e.on] := by simp [hs, hsz]
   simp [Array.getD_eq_getD_getElem?, this] at hl ⊢; exact hl
theorem Jep : ∀ (k : Nat) (o : Oper) (j : Nat), ops[k]? = some o → (∀ (k : Nat) (o : Oper), ops[k]? = some o → ∀ e ∈ o.after, Region.binds .any e = true → e.on < k) → tb (msk ops k) j = true → j < k := by
 intro k
 induction k using Nat.strongRecOn with
 | _ k ih =>
  intro o j ho hb h
  obtain ⟨e, he, hbe, hj⟩ := Ju6 ho h
  have hlt := hb k o ho e he hbe
  rcases hj with rfl | ⟨_, hj⟩
  ·exact hlt
  ·have hsz : e.on < ops.size := by
    have := (Array.getElem?_eq_some_iff.1 ho).1; omega
   have := ih e.on hlt ops[e.on] j (by simp [hsz]) hb hj
   omega
theorem Ji7 {α : Type} {p : α → Bool} {l : List α} (h : allB p l = true) : ∀ x ∈ l, p x = true := by
 induction l with
 | nil => intro x hx; cases hx
 | cons a l ih =>
  have h : (Bool.rec false (allB p l) (p a) : Bool) = true := h
  cases hp : p a with
  | false => rw [hp] at h; cases h
  | true =>
   rw [hp] at h
   intro x hx
   cases hx with
   | head => exact hp
   | tail _ hx => exact ih h x hx
theorem Jwg : ∀ (l : List Oper) (i k : Nat) (o : Oper) (d : Tmp), l[k]? = some o → o.dst = some d → (d, i + k) ∈ dsts l i := by
 intro l
 induction l with
 | nil => intro i k o d h; simp at h
 | cons x l ih =>
  intro i k o d h hd
  have e0 : dsts (x :: l) i = Option.rec (dsts l (Nat.succ i)) (fun d => (d, i) :: dsts l (Nat.succ i)) x.dst := rfl
  rw [e0]
  cases k with
  | zero =>
   simp at h; subst h
   rw [hd]; exact List.mem_cons_self
  | succ k =>
   have := ih (i + 1) k o d (by simpa using h) hd
   rw [show i + (k + 1) = i + 1 + k by omega]
   cases hx : x.dst with
   | none => exact this
   | some d' => exact List.mem_cons_of_mem _ this
theorem Jtr {n : Nat} : ∀ (l : List (Nat × Nat)) (s : Nat), nodB n l s = true → (∀ p ∈ l, p.1 < n ∧ tb s p.1 = false) ∧ l.Pairwise fun p q => p.1 ≠ q.1 := by
 intro l
 induction l with
 | nil => intro s _; exact ⟨(fun p hp => by cases hp), List.Pairwise.nil⟩
 | cons p l ih =>
  intro s h
  have h : (Bool.rec false (Bool.rec (nodB n l (Nat.lor s (Nat.pow 2 p.1))) false (tb s p.1)) (Nat.blt p.1 n) : Bool) = true := h
  cases h1 : Nat.blt p.1 n with
  | false => rw [h1] at h; cases h
  | true =>
   rw [h1] at h
   cases h2 : tb s p.1 with
   | true => rw [h2] at h; cases h
   | false =>
    rw [h2] at h
    obtain ⟨k1, k2⟩ := ih _ h
    refine ⟨?_, List.Pairwise.cons ?_ k2⟩
    ·intro q hq
     cases hq with
     | head => exact ⟨Yb h1, h2⟩
     | tail _ hq =>
      obtain ⟨g1, g2⟩ := k1 q hq
      rw [j1] at g2
      exact ⟨g1, (Bool.or_eq_false_iff.1 g2).1⟩
    ·intro q hq e
     have := (k1 q hq).2
     rw [j1, Jcj] at this
     have := (Bool.or_eq_false_iff.1 this).2
     exact of_decide_eq_false this e
theorem Jrz {l : List (Nat × Nat)} (h : l.Pairwise fun p q => p.1 ≠ q.1) {d j k : Nat} (hj : (d, j) ∈ l) (hk : (d, k) ∈ l) : j = k := by
 induction l with
 | nil => cases hj
 | cons p l ih =>
  cases h with
  | cons h1 h2 =>
   cases hj with
   | head => cases hk with
    | head => rfl
    | tail _ hk => exact absurd rfl (h1 (d, k) hk)
   | tail _ hj => cases hk with
    | head => exact absurd rfl (h1 (d, j) hj)
    | tail _ hk => exact ih h2 hj hk
def isMv (P : Program) (ops : Array Oper) (k : Nat) : Bool := ((ops[k]?).map fun o => Yw (kdOf P o.op)).getD false
theorem Jwn (P : Program) : ∀ (l : List Oper) (i k : Nat), tb (movM P l i) k = (decide (i ≤ k) && ((l[k - i]?).map fun o => Yw (kdOf P o.op)).getD false) := by
 intro l
 induction l with
 | nil => intro i k; show tb 0 k = _; rw [Jdx]; simp
 | cons o l ih =>
  intro i k
  have e0 : movM P (o :: l) i = Bool.rec (movM P l (Nat.succ i)) (Nat.lor (Nat.pow 2 i) (movM P l (Nat.succ i))) (Yw (kdOf P o.op)) := rfl
  rw [e0]
  have ih := ih (Nat.succ i) k
  rcases Nat.lt_trichotomy k i with h | h | h
  ·have h1 : decide (i ≤ k) = false := decide_eq_false (by omega)
   have h2 : decide (Nat.succ i ≤ k) = false := decide_eq_false (by omega)
   rw [h2, Bool.false_and] at ih
   rw [h1, Bool.false_and]
   cases Yw (kdOf P o.op) with
   | false => exact ih
   | true => show tb (Nat.lor (Nat.pow 2 i) _) k = _; rw [j1, Jcj, ih, decide_eq_false (by omega)]; rfl
  ·subst h
   have h2 : decide (Nat.succ k ≤ k) = false := decide_eq_false (by omega)
   rw [h2, Bool.false_and] at ih
   rw [Nat.sub_self]
   simp only [List.getElem?_cons_zero, Option.map_some, Option.getD_some, Nat.le_refl, decide_true, Bool.true_and]
   cases Yw (kdOf P o.op) with
   | false => exact ih
   | true => show tb (Nat.lor (Nat.pow 2 k) _) k = _; rw [j1, Jcj, ih]; simp
  ·have h1 : decide (i ≤ k) = true := decide_eq_true (by omega)
   have h2 : decide (Nat.succ i ≤ k) = true := decide_eq_true (by omega)
   have h3 : k - i = (k - Nat.succ i) + 1 := by omega
   rw [h2, Bool.true_and] at ih
   rw [h1, Bool.true_and, h3]
   simp only [List.getElem?_cons_succ]
   cases Yw (kdOf P o.op) with
   | false => exact ih
   | true => show tb (Nat.lor (Nat.pow 2 i) _) k = _; rw [j1, Jcj, ih, decide_eq_false (by omega)]; rfl
theorem mvM (P : Program) (k : Nat) : tb (movM P ops.toList 0) k = isMv P ops k := by
 rw [Jwn]; simp [isMv]
theorem Jk1 {a m k : Nat} (h : Nat.beq (Nat.land (Nat.land m (Nat.sub (Nat.pow 2 k) 1)) a) (Nat.land m (Nat.sub (Nat.pow 2 k) 1)) = true) {j : Nat} (hj : j < k) (hm : tb m j = true) : tb a j = true := by
 have e := Nat.eq_of_beq_eq_true h
 have e1 : (Nat.land (Nat.land m (Nat.sub (Nat.pow 2 k) 1)) a).testBit j = (Nat.land m (Nat.sub (Nat.pow 2 k) 1)).testBit j := by rw [e]
 have e2 : (Nat.land m (Nat.sub (Nat.pow 2 k) 1)).testBit j = (m.testBit j && (2 ^ k - 1).testBit j) := Nat.testBit_and _ _ _
 have e3 : (Nat.land (Nat.land m (Nat.sub (Nat.pow 2 k) 1)) a).testBit j = ((Nat.land m (Nat.sub (Nat.pow 2 k) 1)).testBit j && a.testBit j) := Nat.testBit_and _ _ _
 rw [e3, e2, Nat.testBit_two_pow_sub_one] at e1
 rw [jr] at hm ⊢
 rw [hm] at e1
 simpa [hj] using e1
theorem Jnb {mv : Nat} : ∀ (l : List Nat) (i : Nat), Jby mv l i = true → ∀ k a, l[k]? = some a → tb mv (i + k) = true → ∀ j, j < i + k → tb mv j = true → tb a j = true := by
 intro l
 induction l with
 | nil => intro i _ k a h; simp at h
 | cons b l ih =>
  intro i h k a hk hm j hj hmj
  have h : (Bool.rec (Jby mv l (Nat.succ i)) (Bool.rec false (Jby mv l (Nat.succ i)) (Nat.beq (Nat.land (Nat.land mv (Nat.sub (Nat.pow 2 i) 1)) b) (Nat.land mv (Nat.sub (Nat.pow 2 i) 1)))) (tb mv i) : Bool) = true := h
  cases k with
  | zero =>
   simp at hk; subst hk
   rw [Nat.add_zero] at hm hj
   rw [hm] at h
   cases hb : Nat.beq (Nat.land (Nat.land mv (Nat.sub (Nat.pow 2 i) 1)) b) (Nat.land mv (Nat.sub (Nat.pow 2 i) 1)) with
   | false => rw [hb] at h; cases h
   | true => exact Jk1 hb hj hmj
  | succ k =>
   have h2 : Jby mv l (Nat.succ i) = true := by
    revert h
    cases tb mv i <;> intro h
    ·exact h
    ·revert h
     cases Nat.beq (Nat.land (Nat.land mv (Nat.sub (Nat.pow 2 i) 1)) b) (Nat.land mv (Nat.sub (Nat.pow 2 i) 1)) <;> intro h
     ·cases h
     ·exact h
   exact ih (i + 1) h2 k a (by simpa using hk) (by rw [show i + 1 + k = i + (k + 1) by omega]; exact hm) j (by omega) hmj
structure Lk (P : Program) (n : Nat) (ops : Array Oper) : Prop where
 back : ∀ (k : Nat) (o : Oper), ops[k]? = some o → ∀ e ∈ o.after, Region.binds .any e = true → e.on < k
 read : ∀ (k : Nat) (o : Oper) t (j : Nat) (o' : Oper), ops[k]? = some o → t ∈ z8 o.op.operands.toList → ops[j]? = some o' → o'.dst = some t → tb (msk ops k) j = true ∨ tb (msk ops j) k = true
 gd : ∀ (k : Nat) (o : Oper) p, ops[k]? = some o → o.guard = some p → tb (msk ops k) p.1 = true
 lt : ∀ (k : Nat) (o : Oper) d, ops[k]? = some o → o.dst = some d → d < n
 uniq : ∀ (j k : Nat) (o o' : Oper) d, ops[j]? = some o → ops[k]? = some o' → o.dst = some d → o'.dst = some d → j = k
 chain : ∀ j k, j < k → isMv P ops j = true → isMv P ops k = true → tb (msk ops k) j = true
theorem Jp0 {all : List Nat} {ds : List (Nat × Nat)} : ∀ (l : List Oper) (ms : List Nat) (i : Nat), Jqq ops all ds l ms i = true → ∀ (k : Nat) (o : Oper), l[k]? = some o → ∃ a, ms[k]? = some a ∧
  allB (Je7 all ds a (i + k)) (z8 o.op.operands.toList) = true ∧ gdOk ops a o.guard = true ∧ allB (fun e => Bool.rec true (Nat.blt e.on (i + k)) (Region.binds .any e)) o.after.toList = true := by
 intro l
 induction l with
 | nil => intro ms i _ k o h; simp at h
 | cons x l ih =>
  intro ms i h k o hk
  cases ms with
  | nil => cases h
  | cons a ms =>
   have h : (Bool.rec false (Jqq ops all ds l ms (Nat.succ i)) (allB (Je7 all ds a i) (z8 x.op.operands.toList) && gdOk ops a x.guard && allB (fun e => Bool.rec true (Nat.blt e.on i) (Region.binds .any e)) x.after.toList) : Bool) = true := h
   cases hb : (allB (Je7 all ds a i) (z8 x.op.operands.toList) && gdOk ops a x.guard && allB (fun e => Bool.rec true (Nat.blt e.on i) (Region.binds .any e)) x.after.toList) with
   | false => rw [hb] at h; cases h
   | true =>
    rw [hb] at h
    obtain ⟨hb, h3⟩ := Zj hb
    obtain ⟨h1, h2⟩ := Zj hb
    cases k with
    | zero => simp at hk; subst hk; exact ⟨a, rfl, h1, h2, h3⟩
    | succ k =>
     obtain ⟨a', g0, g1, g2, g3⟩ := ih ms (i + 1) h k o (by simpa using hk)
     rw [show i + 1 + k = i + (k + 1) by omega] at g1 g3
     exact ⟨a', by simpa using g0, g1, g2, g3⟩
theorem Jrb {P : Program} {n : Nat} (h : Jmg P n ops (ancM ops.toList []) = true) : Lk P n ops := by
 unfold Jmg at h
 obtain ⟨h, h3⟩ := Zj h
 obtain ⟨h1, h2⟩ := Zj h
 have hp := Jp0 _ _ _ h1
 obtain ⟨n1, n2⟩ := Jtr _ _ h2
 have hd : ∀ (k : Nat) (o : Oper) d, ops[k]? = some o → o.dst = some d → (d, k) ∈ dsts ops.toList 0 := fun k o d hk hd => by
  have := Jwg ops.toList 0 k o d (by simpa using hk) hd
  rw [Nat.zero_add] at this; exact this
 refine ⟨?_, ?_, ?_, ?_, ?_, ?_⟩
 ·intro k o hk e he hb
  obtain ⟨a, _, _, _, g⟩ := hp k o (by simpa using hk)
  have := Ji7 g e (by simpa using he)
  rw [hb, Nat.zero_add] at this
  exact Yb this
 ·intro k o t j o' hk ht hj hjd
  obtain ⟨a, ha, g, _, _⟩ := hp k o (by simpa using hk)
  have hks := (Array.getElem?_eq_some_iff.1 hk).1
  rw [Jbr hks] at ha
  cases ha
  have := Ji7 (Ji7 g t ht) _ (hd j o' t hj hjd)
  simp only [Nat.zero_add] at this
  rw [show Nat.beq t t = true from Nat.beq_refl t] at this
  have this : (Bool.rec (tb ((nth (ancM ops.toList []) j).getD 0) k) true (tb (msk ops k) j) : Bool) = true := this
  cases hb : tb (msk ops k) j with
  | true => exact .inl rfl
  | false =>
   rw [hb, V5] at this
   exact .inr this
 ·intro k o p hk hg
  obtain ⟨a, ha, _, g, _⟩ := hp k o (by simpa using hk)
  have hks := (Array.getElem?_eq_some_iff.1 hk).1
  rw [Jbr hks] at ha
  cases ha
  rw [hg] at g
  exact g
 ·intro k o d hk hkd
  exact (n1 _ (hd k o d hk hkd)).1
 ·intro j k o o' d hj hk hjd hkd
  exact Jrz n2 (hd j o d hj hjd) (hd k o' d hk hkd)
 ·intro j k hjk hj hk
  have hks : k < ops.size := by
   unfold isMv at hk
   cases ho : ops[k]? with
   | none => rw [ho] at hk; cases hk
   | some o => exact (Array.getElem?_eq_some_iff.1 ho).1
  rw [← mvM] at hj hk
  exact Jnb _ _ h3 k _ (Jbr hks) (by rw [Nat.zero_add]; exact hk) j (by omega) hj
end
end Go.Ev
namespace Go.Ev
set_option linter.unusedVariables false
set_option linter.unusedSimpArgs false
open Go Go.Wf Go.RowKit
noncomputable def setd (d : Option Tmp) (v : AV) (f : Fr) : Fr := match d with
 | none => f
 | some t => setF t v f
section
variable (P : Program) (call : CallF) (n : Nat) (ops : Array Oper)
def One (i a : Nat) (o : Oper) (s : DS) (v : AV) (s1 : DS) : Prop := ∃ h', match kdOf P o.op with
 | .pure => evOp P call o.op s.f s.h = .ok v h' ∧ s1 = s
 | .read => evOp P call o.op s.f ⟨Z3 s.qt a s.fl s.h.t, s.h.n⟩ = .ok v h' ∧ s1 = ⟨s.f, s.h, s.fl, s.qt, s.hs, (i, s.f, v) :: s.rs⟩
 | .quiet => evOp P call o.op s.f s.h = .ok v h' ∧ s1 = ⟨s.f, ⟨s.h.t, h'.n⟩, s.fl, (i, s.h.n, get5 s.h.n h'.t) :: s.qt, s.hs, s.rs⟩
 | .move => evOp P call o.op s.f ⟨Z3 s.qt a s.fl s.h.t, s.h.n⟩ = .ok v h' ∧ s1 = ⟨s.f, h', Nat.lor s.fl a, s.qt, s.hs ++ [(h', Nat.lor s.fl a)], s.rs⟩
def Stp (i a : Nat) (o : Oper) (s s' : DS) : Prop := lo n o.dst ∧
 ((j9 ops o.guard s.f = some true ∧ ∃ v s1, One P call i a o s v s1 ∧ s' = ⟨setd o.dst v s.f, s1.h, s1.fl, s1.qt, s1.hs, s1.rs⟩) ∨
  (j9 ops o.guard s.f = some false ∧ s' = ⟨setd o.dst (.tp []) s.f, s.h, s.fl, s.qt, if Yw (kdOf P o.op) then s.hs ++ [(s.h, s.fl)] else s.hs, s.rs⟩))
end
section
variable {P : Program} {call : CallF} {n : Nat} {ops : Array Oper}
theorem Jop {d : Option Tmp} {v : AV} {f : Fr} {k : Fr → Out} (e : okO (setO n d v f k)) : setO n d v f k = k (setd d v f) ∧ lo n d := by
 obtain ⟨f', h1, h2, h3⟩ := Jjj e
 refine ⟨?_, h2⟩
 rw [h1]
 rcases h3 with ⟨rfl, rfl⟩ | ⟨t, rfl, _, rfl⟩ <;> rfl
theorem Jqs {i a : Nat} {o : Oper} {s : DS} {k : AV → DS → Out} (e : okO (Jgn P call i a o s k)) : ∃ v s1, One P call i a o s v s1 ∧ Jgn P call i a o s k = k v s1 := by
 rw [Jls] at e ⊢
 unfold Jiz at e ⊢
 unfold One
 cases hk : kdOf P o.op with
 | pure =>
  rw [hk] at e
  simp only at e ⊢
  obtain ⟨v, h', h1, h2⟩ := Jkq e
  exact ⟨v, s, ⟨h', h1, rfl⟩, h2⟩
 | read =>
  rw [hk] at e
  simp only at e ⊢
  obtain ⟨v, h', h1, h2⟩ := Jkq e
  exact ⟨v, _, ⟨h', h1, rfl⟩, h2⟩
 | quiet =>
  rw [hk] at e
  simp only at e ⊢
  obtain ⟨v, h', h1, h2⟩ := Jkq e
  exact ⟨v, _, ⟨h', h1, rfl⟩, h2⟩
 | move =>
  rw [hk] at e
  simp only at e ⊢
  obtain ⟨v, h', h1, h2⟩ := Jkq e
  refine ⟨v, _, ⟨h', h1, rfl⟩, ?_⟩
  rw [h2, Xk, Jdz]
theorem Jrl : ∀ (l : List Oper) (i : Nat) (ms : List Nat) (s : DS) (k : DS → Out), okO (Jcw P call n ops l i ms s k) →
  ∃ S : Nat → DS, S i = s ∧ Jcw P call n ops l i ms s k = k (S (i + l.length)) ∧ ∀ (j : Nat) (o : Oper), l[j]? = some o → ∃ a, ms[j]? = some a ∧ Stp P call n ops (i + j) a o (S (i + j)) (S (i + j + 1)) := by
 intro l
 induction l with
 | nil => intro i ms s k _; exact ⟨fun _ => s, rfl, rfl, fun j o h => by simp at h⟩
 | cons o l ih =>
  intro i ms s k e
  cases ms with
  | nil => exact e.elim
  | cons a ms =>
   have e0 : Jcw P call n ops (o :: l) i (a :: ms) s k = Jaf ops o.guard s.f
     (Jgn P call i a o s fun v s' => setO n o.dst v s'.f fun f' => Jcw P call n ops l (Nat.succ i) ms ⟨f', s'.h, s'.fl, s'.qt, s'.hs, s'.rs⟩ k)
     (setO n o.dst (.tp []) s.f fun f' => Jcw P call n ops l (Nat.succ i) ms ⟨f', s.h, s.fl, s.qt, Bool.rec s.hs (snoc s.hs (s.h, s.fl)) (Yw (kdOf P o.op)), s.rs⟩ k) (.no 42) := rfl
   rw [e0, zi] at e
   rw [e0, zi]
   have fin : ∀ s', Stp P call n ops i a o s s' → okO (Jcw P call n ops l (Nat.succ i) ms s' k) → ∃ S : Nat → DS, S i = s ∧ Jcw P call n ops l (Nat.succ i) ms s' k = k (S (i + (o :: l).length)) ∧
     ∀ (j : Nat) (o' : Oper), (o :: l)[j]? = some o' → ∃ a', (a :: ms)[j]? = some a' ∧ Stp P call n ops (i + j) a' o' (S (i + j)) (S (i + j + 1)) := by
    intro s' hs' he
    obtain ⟨S, h1, h2, h3⟩ := ih (Nat.succ i) ms s' k he
    refine ⟨fun m => if m = i then s else S m, if_pos rfl, ?_, ?_⟩
    ·rw [h2]
     have : ¬ (i + (o :: l).length = i) := by simp
     show k (S (Nat.succ i + l.length)) = k (if i + (o :: l).length = i then s else S (i + (o :: l).length))
     rw [if_neg this]
     congr 2
     simp only [List.length_cons]; omega
    ·intro j o' hj
     cases j with
     | zero =>
      simp at hj; subst hj
      refine ⟨a, rfl, ?_⟩
      show Stp P call n ops (i + 0) a o (if i + 0 = i then s else S (i + 0)) (if i + 0 + 1 = i then s else S (i + 0 + 1))
      rw [Nat.add_zero, if_pos rfl, if_neg (by omega), show i + 1 = Nat.succ i from rfl, h1]
      exact hs'
     | succ j =>
      obtain ⟨a', g1, g2⟩ := h3 j o' (by simpa using hj)
      refine ⟨a', by simpa using g1, ?_⟩
      show Stp P call n ops (i + (j + 1)) a' o' (if i + (j + 1) = i then s else S (i + (j + 1))) (if i + (j + 1) + 1 = i then s else S (i + (j + 1) + 1))
      rw [if_neg (by omega), if_neg (by omega), show i + (j + 1) = Nat.succ i + j by omega]
      exact g2
   cases hw : j9 ops o.guard s.f with
   | none => rw [hw] at e; exact e.elim
   | some b =>
    rw [hw] at e
    cases b with
    | true =>
     simp only at e ⊢
     obtain ⟨v, s1, h1, h2⟩ := Jqs e
     rw [h2] at e ⊢
     have hf1 : s1.f = s.f := by
      obtain ⟨h', h1⟩ := h1
      cases hk : kdOf P o.op <;> rw [hk] at h1 <;> simp only at h1 <;> rw [h1.2]
     obtain ⟨h3, h4⟩ := Jop e
     rw [h3] at e ⊢
     rw [hf1] at e ⊢
     exact fin _ ⟨h4, .inl ⟨hw, v, s1, h1, rfl⟩⟩ e
    | false =>
     simp only at e ⊢
     obtain ⟨h3, h4⟩ := Jop e
     rw [h3] at e ⊢
     have hh : (Bool.rec s.hs (snoc s.hs (s.h, s.fl)) (Yw (kdOf P o.op)) : List (Hp × Nat)) = if Yw (kdOf P o.op) then s.hs ++ [(s.h, s.fl)] else s.hs := by
      rw [za, Jdz]
     rw [hh] at e ⊢
     exact fin _ ⟨h4, .inr ⟨hw, rfl⟩⟩ e
structure Run (P : Program) (call : CallF) (n : Nat) (ops : Array Oper) (f : Fr) (h : Hp) (S : Nat → DS) : Prop where
 s0 : S 0 = ⟨f, h, 0, [], [(h, 0)], []⟩
 st : ∀ (k : Nat) (o : Oper), ops[k]? = some o → Stp P call n ops k (msk ops k) o (S k) (S (k + 1))
 cs : CallS P call
 n256 : n ≤ 4096
 lim : h.n ≤ big5
def mcn (P : Program) (ops : Array Oper) (i : Nat) : Nat := (List.range i).countP (isMv P ops)
theorem Jl7 (i : Nat) : mcn P ops (i + 1) = mcn P ops i + if isMv P ops i then 1 else 0 := by
 unfold mcn
 rw [List.range_succ, List.countP_append, List.countP_singleton]
theorem Q9 {k : Nat} {o : Oper} (ho : ops[k]? = some o) : isMv P ops k = Yw (kdOf P o.op) := by unfold isMv; rw [ho]; rfl
theorem jv {id : Nat} {a fl : Nat} {t : T5 (Option Blk)} (hid : id < big5) : ∀ (qt : QT), (∀ e ∈ qt, e.2.1 < big5) →
  (get5 id (Z3 qt a fl t) = get5 id t ∧ ∀ e ∈ qt, e.2.1 = id → tb a e.1 = true → tb fl e.1 = false → False) ∨ ∃ e ∈ qt, e.2.1 = id ∧ tb a e.1 = true ∧ tb fl e.1 = false ∧ get5 id (Z3 qt a fl t) = e.2.2 := by
 intro qt
 induction qt with
 | nil => intro _; exact .inl ⟨rfl, fun e he => by cases he⟩
 | cons p qt ih =>
  intro hq
  have e0 : Z3 (p :: qt) a fl t = Bool.rec (Z3 qt a fl t) (Bool.rec (set5 p.2.1 p.2.2 (Z3 qt a fl t)) (Z3 qt a fl t) (tb fl p.1)) (tb a p.1) := rfl
  have ih := ih fun e he => hq e (List.mem_cons_of_mem _ he)
  have rest : (tb a p.1 = true → tb fl p.1 = false → p.2.1 ≠ id) → Z3 (p :: qt) a fl t = Z3 qt a fl t ∨ get5 id (Z3 (p :: qt) a fl t) = get5 id (Z3 qt a fl t) → (get5 id (Z3 (p :: qt) a fl t) = get5 id t ∧ ∀ e ∈ p :: qt, e.2.1 = id → tb a e.1 = true → tb fl e.1 = false → False) ∨ ∃ e ∈ p :: qt, e.2.1 = id ∧ tb a e.1 = true ∧ tb fl e.1 = false ∧ get5 id (Z3 (p :: qt) a fl t) = e.2.2 := by
   intro hne he
   have he : get5 id (Z3 (p :: qt) a fl t) = get5 id (Z3 qt a fl t) := he.elim (fun h => by rw [h]) fun h => h
   rw [he]
   rcases ih with ⟨h1, h2⟩ | ⟨e, h1, h2⟩
   ·refine .inl ⟨h1, fun e hm => ?_⟩
    cases hm with
    | head => intro x y z; exact hne y z x
    | tail _ hm => exact h2 e hm
   ·exact .inr ⟨e, List.mem_cons_of_mem _ h1, h2⟩
  cases ha : tb a p.1 with
  | false => exact rest (fun h => by rw [ha] at h; cases h) (.inl (by rw [e0, ha]))
  | true =>
   cases hf : tb fl p.1 with
   | true => exact rest (fun _ h => by rw [hf] at h; cases h) (.inl (by rw [e0, ha, hf]))
   | false =>
    have e1 : Z3 (p :: qt) a fl t = set5 p.2.1 p.2.2 (Z3 qt a fl t) := by rw [e0, ha, hf]
    by_cases hx : p.2.1 = id
    ·refine .inr ⟨p, List.mem_cons_self, hx, ha, hf, ?_⟩
     rw [e1, Zk _ _ _ _ hid (hq p List.mem_cons_self), if_pos hx.symm]
    ·refine rest (fun _ _ => hx) (.inr ?_)
     rw [e1, Zk _ _ _ _ hid (hq p List.mem_cons_self), if_neg (fun h => hx h.symm)]
section
variable {f : Fr} {h : Hp} {S : Nat → DS} (R : Run P call n ops f h S)
include R
theorem Run.grow {k : Nat} {o : Oper} (ho : ops[k]? = some o) (hl : (S k).h.n ≤ big5) : (S k).h.n ≤ (S (k + 1)).h.n ∧ (S (k + 1)).h.n ≤ big5 := by
 obtain ⟨_, ⟨_, v, s1, ⟨h', h1⟩, h2⟩ | ⟨_, h2⟩⟩ := R.st k o ho
 ·rw [h2]
  cases hk : kdOf P o.op with
  | pure => rw [hk] at h1; simp only at h1; rw [h1.2]; exact ⟨Nat.le_refl _, hl⟩
  | read => rw [hk] at h1; simp only at h1; rw [h1.2]; exact ⟨Nat.le_refl _, hl⟩
  | quiet =>
   rw [hk] at h1; simp only at h1
   obtain ⟨b, hb, hh, _⟩ := Xi hk h1.1
   rw [h1.2, hh]
   exact ⟨Nat.le_succ _, hb⟩
  | move =>
   rw [hk] at h1; simp only at h1
   have g := (Ja7 R.cs h1.1).1 hl
   rw [h1.2]
   exact ⟨g.le, g.lim hl⟩
 ·rw [h2]; exact ⟨Nat.le_refl _, hl⟩
theorem Run.lims : ∀ i, i ≤ ops.size → (S i).h.n ≤ big5 ∧ h.n ≤ (S i).h.n := by
 intro i
 induction i with
 | zero => intro _; rw [R.s0]; exact ⟨R.lim, Nat.le_refl _⟩
 | succ i ih =>
  intro hi
  obtain ⟨h1, h2⟩ := ih (by omega)
  have ho : ops[i]? = some ops[i] := by simp [show i < ops.size by omega]
  obtain ⟨g1, g2⟩ := R.grow ho h1
  exact ⟨g2, Nat.le_trans h2 g1⟩
theorem Run.mono : ∀ i j, i ≤ j → j ≤ ops.size → (S i).h.n ≤ (S j).h.n := by
 intro i j hij
 induction hij with
 | refl => intro _; exact Nat.le_refl _
 | step hij ih =>
  rename_i j
  intro hj
  have hj : j + 1 ≤ ops.size := hj
  have ho : ops[j]? = some ops[j] := by simp [show j < ops.size by omega]
  exact Nat.le_trans (ih (by omega)) (R.grow ho (R.lims j (by omega)).1).1
theorem Run.hs : ∀ i, i ≤ ops.size → (S i).hs.length = mcn P ops i + 1 ∧ ∃ hl, (S i).hs[mcn P ops i]? = some (hl, (S i).fl) ∧ (S i).h.t = hl.t ∧ hl.n ≤ (S i).h.n := by
 intro i
 induction i with
 | zero => intro _; rw [R.s0]; exact ⟨rfl, h, rfl, rfl, Nat.le_refl _⟩
 | succ i ih =>
  intro hi
  obtain ⟨h1, hl, h2, h3, h4⟩ := ih (by omega)
  have ho : ops[i]? = some ops[i] := by simp [show i < ops.size by omega]
  rw [Jl7, Q9 (P := P) ho]
  have hlast : ∀ x, ((S i).hs ++ [x])[mcn P ops i + 1]? = some x := fun x => by
   rw [List.getElem?_append_right (by omega), h1, Nat.sub_self]; rfl
  obtain ⟨_, ⟨_, v, s1, ⟨h', g1⟩, g2⟩ | ⟨_, g2⟩⟩ := R.st i _ ho
  ·cases hk : kdOf P ops[i].op with
   | pure => rw [hk] at g1; simp only at g1; rw [g2, g1.2]; exact ⟨h1, hl, h2, h3, h4⟩
   | read => rw [hk] at g1; simp only at g1; rw [g2, g1.2]; exact ⟨h1, hl, h2, h3, h4⟩
   | quiet =>
    rw [hk] at g1; simp only at g1
    obtain ⟨b, hb, hh, _⟩ := Xi hk g1.1
    rw [g2, g1.2]
    refine ⟨h1, hl, h2, h3, ?_⟩
    show hl.n ≤ h'.n
    rw [hh]; exact Nat.le_succ_of_le h4
   | move =>
    rw [hk] at g1; simp only at g1
    rw [g2, g1.2]
    refine ⟨by simp [h1, Yw], h', hlast _, rfl, Nat.le_refl _⟩
  ·rw [g2]
   cases hk : Yw (kdOf P ops[i].op) with
   | false => exact ⟨h1, hl, h2, h3, h4⟩
   | true => exact ⟨by simp [h1], (S i).h, hlast _, rfl, Nat.le_refl _⟩
theorem Run.hs_step {k : Nat} {o : Oper} (ho : ops[k]? = some o) : (∃ l, (S (k + 1)).hs = (S k).hs ++ l) ∧ (∃ l, (S (k + 1)).qt = l ++ (S k).qt) := by
 obtain ⟨_, ⟨_, v, s1, ⟨h', g1⟩, g2⟩ | ⟨_, g2⟩⟩ := R.st k o ho
 ·cases hk : kdOf P o.op with
  | pure => rw [hk] at g1; simp only at g1; rw [g2, g1.2]; exact ⟨⟨[], by simp⟩, ⟨[], rfl⟩⟩
  | read => rw [hk] at g1; simp only at g1; rw [g2, g1.2]; exact ⟨⟨[], by simp⟩, ⟨[], rfl⟩⟩
  | quiet => rw [hk] at g1; simp only at g1; rw [g2, g1.2]; exact ⟨⟨[], by simp⟩, ⟨[_], rfl⟩⟩
  | move => rw [hk] at g1; simp only at g1; rw [g2, g1.2]; exact ⟨⟨_, rfl⟩, ⟨[], rfl⟩⟩
 ·rw [g2]
  cases hk : Yw (kdOf P o.op) with
  | false => exact ⟨⟨[], by simp⟩, ⟨[], rfl⟩⟩
  | true => exact ⟨⟨_, rfl⟩, ⟨[], rfl⟩⟩
theorem Run.hs_pre : ∀ i j, i ≤ j → j ≤ ops.size → (∀ (p : Nat) x, (S i).hs[p]? = some x → (S j).hs[p]? = some x) ∧ ∀ e ∈ (S i).qt, e ∈ (S j).qt := by
 intro i j hij
 induction hij with
 | refl => intro _; exact ⟨fun _ _ h => h, fun _ h => h⟩
 | step hij ih =>
  rename_i j
  intro hj
  have hj : j + 1 ≤ ops.size := hj
  have ho : ops[j]? = some ops[j] := by simp [show j < ops.size by omega]
  obtain ⟨i1, i2⟩ := ih (by omega)
  obtain ⟨⟨l, hl⟩, ⟨m, hm⟩⟩ := R.hs_step ho
  refine ⟨fun p x hx => ?_, fun e he => ?_⟩
  ·have := i1 p x hx
   show (S (j + 1)).hs[p]? = some x
   rw [hl, List.getElem?_append_left (List.getElem?_eq_some_iff.1 this).1]; exact this
  ·show e ∈ (S (j + 1)).qt
   rw [hm]; exact List.mem_append_right _ (i2 e he)
theorem Run.qt : ∀ i, i ≤ ops.size → ∀ e ∈ (S i).qt, e.1 < i ∧ ∃ o v b, ops[e.1]? = some o ∧ kdOf P o.op = .quiet ∧ j9 ops o.guard (S e.1).f = some true ∧
  evOp P call o.op (S e.1).f (S e.1).h = .ok v ⟨set5 (S e.1).h.n (some b) (S e.1).h.t, (S e.1).h.n + 1⟩ ∧ e.2.1 = (S e.1).h.n ∧ e.2.2 = some b ∧ (S (e.1 + 1)).h.n = (S e.1).h.n + 1 ∧ (S e.1).h.n < big5 := by
 intro i
 induction i with
 | zero => intro _ e he; rw [R.s0] at he; cases he
 | succ i ih =>
  intro hi e he
  have ho : ops[i]? = some ops[i] := by simp [show i < ops.size by omega]
  have old : e ∈ (S i).qt → e.1 < i + 1 ∧ ∃ o v b, ops[e.1]? = some o ∧ kdOf P o.op = .quiet ∧ j9 ops o.guard (S e.1).f = some true ∧
    evOp P call o.op (S e.1).f (S e.1).h = .ok v ⟨set5 (S e.1).h.n (some b) (S e.1).h.t, (S e.1).h.n + 1⟩ ∧ e.2.1 = (S e.1).h.n ∧ e.2.2 = some b ∧ (S (e.1 + 1)).h.n = (S e.1).h.n + 1 ∧ (S e.1).h.n < big5 := by
   intro he
   obtain ⟨h1, h2⟩ := ih (by omega) e he
   exact ⟨by omega, h2⟩
  have hst := R.st i _ ho
  obtain ⟨_, ⟨hw, v, s1, ⟨h', g1⟩, g2⟩ | ⟨_, g2⟩⟩ := hst
  ·cases hk : kdOf P ops[i].op with
   | pure => rw [hk] at g1; simp only at g1; rw [g2, g1.2] at he; exact old he
   | read => rw [hk] at g1; simp only at g1; rw [g2, g1.2] at he; exact old he
   | move => rw [hk] at g1; simp only at g1; rw [g2, g1.2] at he; exact old he
   | quiet =>
    rw [hk] at g1; simp only at g1
    obtain ⟨b, hb, hh, _⟩ := Xi hk g1.1
    have he' : e ∈ (i, (S i).h.n, get5 (S i).h.n h'.t) :: (S i).qt := by rw [g2, g1.2] at he; exact he
    cases he' with
    | tail _ he => exact old he
    | head =>
     refine ⟨Nat.lt_succ_self i, ops[i], v, b, ho, hk, hw, by rw [← hh]; exact g1.1, rfl, ?_, ?_, hb⟩
     ·rw [hh]
      show get5 (S i).h.n (set5 (S i).h.n (some b) (S i).h.t) = some b
      rw [Zk _ _ _ _ hb hb, if_pos rfl]
     ·rw [g2, g1.2, hh]
  ·rw [g2] at he; exact old he
theorem Run.apart {q i : Nat} {id : Nat} (hq : q < ops.size) (hi : i < ops.size) (hqi : q ≠ i) (h1 : (S q).h.n ≤ id) (h2 : id < (S (q + 1)).h.n) : ¬ ((S i).h.n ≤ id ∧ id < (S (i + 1)).h.n) := by
 intro ⟨h3, h4⟩
 rcases Nat.lt_or_ge q i with hl | hl
 ·have := R.mono (q + 1) i hl (by omega); omega
 ·have := R.mono (i + 1) q (by omega) (by omega); omega
theorem Run.frame {k : Nat} {o : Oper} (ho : ops[k]? = some o) {t : Nat} (ht : t < 4096) (hne : o.dst ≠ some t) : getF t (S (k + 1)).f = getF t (S k).f := by
 have key : ∀ v, getF t (setd o.dst v (S k).f) = getF t (S k).f := by
  intro v
  have hlo := (R.st k o ho).1
  cases hd : o.dst with
  | none => rfl
  | some d =>
   rw [hd] at hlo hne
   have hlo : d < n := hlo
   show getF t (setF d v (S k).f) = _
   rw [Xj _ _ _ _ ht (Nat.lt_of_lt_of_le hlo R.n256), if_neg (fun e => hne (by rw [e]))]
 obtain ⟨_, ⟨_, v, s1, _, g2⟩ | ⟨_, g2⟩⟩ := R.st k o ho
 ·rw [g2]; exact key v
 ·rw [g2]; exact key (.tp [])
theorem Run.frames {t : Nat} (ht : t < 4096) : ∀ i j, i ≤ j → j ≤ ops.size → (∀ (k : Nat) (o : Oper), i ≤ k → k < j → ops[k]? = some o → o.dst ≠ some t) → getF t (S j).f = getF t (S i).f := by
 intro i j hij
 induction hij with
 | refl => intro _ _; rfl
 | step hij ih =>
  rename_i j
  intro hj hh
  have hj : j + 1 ≤ ops.size := hj
  have hij : i ≤ j := hij
  have ho : ops[j]? = some ops[j] := by simp [show j < ops.size by omega]
  have e1 : getF t (S (j + 1)).f = getF t (S j).f := R.frame ho ht (hh j _ hij (Nat.lt_succ_self j) ho)
  show getF t (S (j + 1)).f = _
  rw [e1]
  exact ih (by omega) fun k o h1 h2 => hh k o h1 (Nat.lt_succ_of_lt h2)
theorem Run.qt_id {i : Nat} (hi : i ≤ ops.size) : ∀ e ∈ (S i).qt, e.2.1 < (S i).h.n ∧ e.2.1 < big5 ∧ h.n ≤ e.2.1 := by
 intro e he
 obtain ⟨h1, o, v, b, _, _, _, _, h2, _, h3, h4⟩ := R.qt i hi e he
 have := R.mono (e.1 + 1) i h1 hi
 have h5 := (R.lims e.1 (by omega)).2
 refine ⟨by omega, by omega, by omega⟩
theorem Run.one {i : Nat} (hi : i ≤ ops.size) {e e' : Nat × Nat × Option Blk} (he : e ∈ (S i).qt) (he' : e' ∈ (S i).qt) (hid : e.2.1 = e'.2.1) : e.1 = e'.1 := by
 obtain ⟨h1, o, v, b, _, _, _, _, h2, _, h3, h4⟩ := R.qt i hi e he
 obtain ⟨h1', o', v', b', _, _, _, _, h2', _, h3', h4'⟩ := R.qt i hi e' he'
 refine Classical.byContradiction fun hne => ?_
 exact R.apart (q := e.1) (i := e'.1) (id := e.2.1) (by omega) (by omega) hne (by omega) (by omega) ⟨by omega, by omega⟩
theorem Run.none_ (hfin : ∀ id, h.n ≤ id → id < big5 → get5 id h.t = none) : ∀ i, i ≤ ops.size → ∀ (p : Nat) x, (S i).hs[p]? = some x → (∀ e ∈ (S ops.size).qt, tb x.2 e.1 = false → get5 e.2.1 x.1.t = none) ∧ ∀ id, id < h.n → get5 id h.t = none → get5 id x.1.t = none := by
 intro i
 induction i with
 | zero =>
  intro _ p x hx
  rw [R.s0] at hx
  cases p with
  | zero =>
   simp at hx; subst hx
   refine ⟨fun e he _ => ?_, fun id _ hn => hn⟩
   obtain ⟨_, h2, h3⟩ := R.qt_id (Nat.le_refl _) e he
   exact hfin _ h3 h2
  | succ p => simp at hx
 | succ i ih =>
  intro hi p x hx
  have hi' : i < ops.size := by omega
  have ho : ops[i]? = some ops[i] := by simp [hi']
  have ihh := ih (by omega)
  obtain ⟨hlen, hl, hlast, hlt, hln⟩ := R.hs i (by omega)
  have hlim := (R.lims i (by omega))
  obtain ⟨k1, k2⟩ := ihh _ _ hlast
  have old : (S i).hs[p]? = some x → _ := fun hx => ihh p x hx
  have new_ : ∀ y, ((S i).hs ++ [y])[p]? = some x → (S i).hs[p]? = some x ∨ x = y := by
   intro y hy
   rw [List.getElem?_append] at hy
   split at hy
   ·exact .inl hy
   ·refine .inr ?_
    have := (List.getElem?_eq_some_iff.1 hy).1
    have e0 : p - (S i).hs.length = 0 := by simp at this; omega
    rw [e0] at hy
    simp at hy; exact hy.symm
  obtain ⟨_, ⟨_, v, s1, ⟨h', g1⟩, g2⟩ | ⟨_, g2⟩⟩ := R.st i _ ho
  ·cases hk : kdOf P ops[i].op with
   | pure => rw [hk] at g1; simp only at g1; rw [g2, g1.2] at hx; exact old hx
   | read => rw [hk] at g1; simp only at g1; rw [g2, g1.2] at hx; exact old hx
   | quiet => rw [hk] at g1; simp only at g1; rw [g2, g1.2] at hx; exact old hx
   | move =>
    rw [hk] at g1; simp only at g1
    have hn1 : (S (i + 1)).h = h' := by rw [g2, g1.2]
    rw [g2, g1.2] at hx
    rcases new_ _ hx with hx | rfl
    ·exact old hx
    ·have g := (Ja7 R.cs g1.1).1 hlim.1
     have hqb : ∀ e ∈ (S i).qt, e.2.1 < big5 := fun e he => (R.qt_id (by omega) e he).2.1
     constructor
     ·intro e he htb
      simp only at htb ⊢
      rw [j1] at htb
      obtain ⟨t1, t2⟩ := Bool.or_eq_false_iff.1 htb
      obtain ⟨he0, oq, vq, bq, hoq, hkq, _, _, hidq, _, hnq, hbq⟩ := R.qt _ (Nat.le_refl _) e he
      have hne : e.1 ≠ i := by
       intro e1
       rw [e1, ho] at hoq; cases hoq
       rw [hk] at hkq; cases hkq
      have hap := R.apart (q := e.1) (i := i) (id := e.2.1) he0 hi' hne (by omega) (by omega)
      rw [hn1] at hap
      refine g.none_ e.2.1 (by omega) hap ?_
      show get5 e.2.1 (Z3 (S i).qt (msk ops i) (S i).fl (S i).h.t) = none
      rcases jv (a := msk ops i) (fl := (S i).fl) (t := (S i).h.t) (id := e.2.1) (by omega) (S i).qt hqb with ⟨q1, _⟩ | ⟨e', q1, q2, q3, q4, _⟩
      ·rw [q1, hlt]
       exact k1 e he t1
      ·have := R.one (Nat.le_refl _) ((R.hs_pre i ops.size (by omega) (Nat.le_refl _)).2 e' q1) he q2
       rw [this] at q3
       rw [q3] at t2; cases t2
     ·intro id hid hn
      simp only
      have hsz : id < big5 := by have := R.lim; omega
      refine g.none_ id hsz (fun hh => by have hh1 : (S i).h.n ≤ id := hh.1; omega) ?_
      show get5 id (Z3 (S i).qt (msk ops i) (S i).fl (S i).h.t) = none
      rcases jv (a := msk ops i) (fl := (S i).fl) (t := (S i).h.t) (id := id) hsz (S i).qt hqb with ⟨q1, _⟩ | ⟨e', q1, q2, _⟩
      ·rw [q1, hlt]
       exact k2 id hid hn
      ·have := (R.qt_id (by omega) e' q1).2.2
       omega
  ·rw [g2] at hx
   cases hk : Yw (kdOf P ops[i].op) with
   | false => rw [hk] at hx; exact old hx
   | true =>
    rw [hk] at hx
    rcases new_ _ hx with hx | rfl
    ·exact old hx
    ·constructor
     ·intro e he htb
      show get5 e.2.1 (S i).h.t = none
      rw [hlt]; exact k1 e he htb
     ·intro id hid hn
      show get5 id (S i).h.t = none
      rw [hlt]; exact k2 id hid hn
theorem Run.none2 : ∀ i, i ≤ ops.size → ∀ (p : Nat) x, (S i).hs[p]? = some x → ∀ id, id < big5 → ¬ (h.n ≤ id ∧ id < (S ops.size).h.n) → get5 id h.t = none → get5 id x.1.t = none := by
 intro i
 induction i with
 | zero =>
  intro _ p x hx
  rw [R.s0] at hx
  cases p with
  | zero => simp at hx; subst hx; exact fun id _ _ hn => hn
  | succ p => simp at hx
 | succ i ih =>
  intro hi p x hx
  have hi' : i < ops.size := by omega
  have ho : ops[i]? = some ops[i] := by simp [hi']
  have ihh := ih (by omega)
  obtain ⟨hlen, hl, hlast, hlt, hln⟩ := R.hs i (by omega)
  have hlim := (R.lims i (by omega))
  have k2 := ihh _ _ hlast
  have hmN := R.mono (i + 1) ops.size (by omega) (Nat.le_refl _)
  have hm1 := R.mono i (i + 1) (by omega) (by omega)
  have old : (S i).hs[p]? = some x → _ := fun hx => ihh p x hx
  have new_ : ∀ y, ((S i).hs ++ [y])[p]? = some x → (S i).hs[p]? = some x ∨ x = y := by
   intro y hy
   rw [List.getElem?_append] at hy
   split at hy
   ·exact .inl hy
   ·refine .inr ?_
    have := (List.getElem?_eq_some_iff.1 hy).1
    have e0 : p - (S i).hs.length = 0 := by simp at this; omega
    rw [e0] at hy
    simp at hy; exact hy.symm
  obtain ⟨_, ⟨_, v, s1, ⟨h', g1⟩, g2⟩ | ⟨_, g2⟩⟩ := R.st i _ ho
  ·cases hk : kdOf P ops[i].op with
   | pure =>
        rw [hk] at g1; simp only at g1; have e9 : (S (i + 1)).hs = (S i).hs := by rw [g2, g1.2]
        rw [e9] at hx; exact old hx
   | read =>
        rw [hk] at g1; simp only at g1; have e9 : (S (i + 1)).hs = (S i).hs := by rw [g2, g1.2]
        rw [e9] at hx; exact old hx
   | quiet =>
         rw [hk] at g1; simp only at g1; have e9 : (S (i + 1)).hs = (S i).hs := by rw [g2, g1.2]
         rw [e9] at hx; exact old hx
   | move =>
    rw [hk] at g1; simp only at g1
    have hn1 : (S (i + 1)).h = h' := by rw [g2, g1.2]
    have e9 : (S (i + 1)).hs = (S i).hs ++ [(h', Nat.lor (S i).fl (msk ops i))] := by rw [g2, g1.2]
    rw [e9] at hx
    rcases new_ _ hx with hx | rfl
    ·exact old hx
    ·have g := (Ja7 R.cs g1.1).1 hlim.1
     have hqb : ∀ e ∈ (S i).qt, e.2.1 < big5 := fun e he => (R.qt_id (by omega) e he).2.1
     intro id hsz hid hn
     simp only
     refine g.none_ id hsz (fun hh => hid ⟨Nat.le_trans hlim.2 hh.1, by have h9 : id < h'.n := hh.2; rw [← hn1] at h9; omega⟩) ?_
     show get5 id (Z3 (S i).qt (msk ops i) (S i).fl (S i).h.t) = none
     rcases jv (a := msk ops i) (fl := (S i).fl) (t := (S i).h.t) (id := id) hsz (S i).qt hqb with ⟨q1, _⟩ | ⟨e', q1, q2, _⟩
     ·rw [q1, hlt]
      exact k2 id hsz hid hn
     ·have q9 := R.qt_id (by omega) e' q1
      exact absurd ⟨by omega, by omega⟩ hid
  ·have e9 : (S (i + 1)).hs = if Yw (kdOf P ops[i].op) then (S i).hs ++ [((S i).h, (S i).fl)] else (S i).hs := by rw [g2]
   rw [e9] at hx
   split at hx
   ·rcases new_ _ hx with hx | rfl
    ·exact old hx
    ·intro id hsz hid hn
     show get5 id (S i).h.t = none
     rw [hlt]; exact k2 id hsz hid hn
   ·exact old hx
end
end
end Go.Ev
namespace Go.Ev
set_option linter.unusedVariables false
set_option linter.unusedSimpArgs false
open Go Go.Wf Go.RowKit
theorem Jpz {a b : Option Nat} (h : Jpy a b = true) : a = b := by
 unfold Jpy at h
 split at h
 ·rfl
 ·rw [Nat.eq_of_beq_eq_true h]
 ·cases h
theorem Joq {a b : AV} (h : avEq a b = true) : a = b := by
 unfold avEq at h
 split at h
 ·rw [eq_of_beq h]
 ·obtain ⟨h1, h2⟩ := Zj h
  rw [Jet] at h2
  rw [Kj h1, of_decide_eq_true h2]
 ·rw [Jdu] at h; rw [of_decide_eq_true h]
 ·rfl
 ·obtain ⟨h1, h2⟩ := Zj h
  rw [Nat.eq_of_beq_eq_true h1, Nat.eq_of_beq_eq_true h2]
 ·rfl
 ·obtain ⟨h, h5⟩ := Zj h
  obtain ⟨h, h4⟩ := Zj h
  obtain ⟨h, h3⟩ := Zj h
  obtain ⟨h1, h2⟩ := Zj h
  rw [Nat.eq_of_beq_eq_true h1, Nat.eq_of_beq_eq_true h2, Nat.eq_of_beq_eq_true h3, Nat.eq_of_beq_eq_true h4, Jpz h5]
 ·rfl
 ·rfl
 ·cases h
theorem Jry : ∀ (a b : List AV), Jr4 a b = true → a = b := by
 intro a
 induction a with
 | nil => intro b h; cases b with
  | nil => rfl
  | cons y b => cases h
 | cons x a ih =>
  intro b h
  cases b with
  | nil => cases h
  | cons y b =>
   have h : (Bool.rec false (Jr4 a b) (avEq x y) : Bool) = true := h
   cases hb : avEq x y with
   | false => rw [hb] at h; cases h
   | true => rw [hb] at h; rw [Joq hb, ih b h]
theorem Jpe {a b : AV} (h : Jhm a b = true) : a = b := by
 unfold Jhm at h
 split at h
 ·rw [Jry _ _ h]
 ·exact Joq h
noncomputable def resF (l : List Nat) (f : Fr) : Fr := l.foldr (fun t acc => setF t (getF t f) acc) (Jk4 AV.u)
theorem Je4 {l : List Nat} {f : Fr} (hl : ∀ x ∈ l, x < 4096) {t : Nat} (ht : t < 4096) : getF t (resF l f) = if t ∈ l then getF t f else AV.u := by
 induction l with
 | nil => exact Jbn t AV.u
 | cons x l ih =>
  have ih := ih fun y hy => hl y (by simp [hy])
  show getF t (setF x (getF x f) (resF l f)) = _
  rw [Xj _ _ _ _ ht (hl x (by simp)), ih]
  by_cases h1 : t = x
  ·subst h1; simp
  ·rw [if_neg h1]; simp [h1]
section
variable {P : Program} {call : CallF} {n : Nat} {ops : Array Oper} {f : Fr} {h : Hp} {S : Nat → DS}
theorem Jeq {Φ : Phi} {τ : Tau} {H : Hp} {w : World} {qt : QT} {a fl m : Nat} (r : Rel Φ τ H w) (h1 : H.n ≤ m) (h2 : m ≤ big5) (hq : ∀ e ∈ qt, e.2.1 < m)
  (hb : ∀ e ∈ qt, tb a e.1 = true → tb fl e.1 = false → ∀ b, e.2.2 = some b → Kg Φ τ w e.2.1 b) : Rel Φ τ ⟨Z3 qt a fl H.t, m⟩ w := by
 have hq5 : ∀ e ∈ qt, e.2.1 < big5 := fun e he => by have := hq e he; omega
 refine ⟨h2, ?_, ?_⟩
 ·intro id b hid hg
  have hid : id < m := hid
  have hg : get5 id (Z3 qt a fl H.t) = some b := hg
  rcases jv (a := a) (fl := fl) (t := H.t) (id := id) (by omega) qt hq5 with ⟨q1, _⟩ | ⟨e, q1, q2, q3, q4, q5⟩
  ·rw [q1] at hg
   rcases Nat.lt_or_ge id H.n with hl | hl
   ·exact r.blk id b hl hg
   ·rw [r.fin id hl (by omega)] at hg; cases hg
  ·rw [q5] at hg
   rw [← q2]
   exact hb e q1 q3 q4 b hg
 ·intro id hid h5
  have hid : m ≤ id := hid
  show get5 id (Z3 qt a fl H.t) = none
  rcases jv (a := a) (fl := fl) (t := H.t) (id := id) h5 qt hq5 with ⟨q1, _⟩ | ⟨e, q1, q2, _⟩
  ·rw [q1]; exact r.fin id (by omega) h5
  ·have := hq e q1; omega
def cnt (P : Program) (ops : Array Oper) (L : Array Bool) : Nat := (List.range ops.size).countP fun i => L.getD i false && isMv P ops i
structure IvS (P : Program) (ops : Array Oper) (f : Fr) (h : Hp) (S : Nat → DS) (Φ0 : Phi) (τ0 : Tau) (w0 : World) (L : Array Bool) (F : Wf.Fr) (w : World) (Φ : Phi) (τ : Tau) : Prop where
 tw : Tw Φ0 τ0 h w0 Φ τ (S ops.size).h.n w
 fre : ∀ i, i < ops.size → L.getD i false = false → Fre Φ (S i).h.n (S (i + 1)).h.n
 fw : ∀ t, t < 4096 → ∀ (j : Nat) (o : Oper), ops[j]? = some o → o.dst = some t → L.getD j false = true → Rv Φ (getF t (S (j + 1)).f) (F t)
 f0 : ∀ t, t < 4096 → (∀ (j : Nat) (o : Oper), ops[j]? = some o → o.dst = some t → L.getD j false = false) → Rv Φ (getF t f) (F t)
 rel : ∀ x, (S ops.size).hs[cnt P ops L]? = some x → Rel Φ τ x.1 w
 qs : ∀ x, (S ops.size).hs[cnt P ops L]? = some x → ∀ e ∈ (S ops.size).qt, L.getD e.1 false = true → tb x.2 e.1 = false → ∀ b, e.2.2 = some b → Kg Φ τ w e.2.1 b
theorem vz {L : Array Bool} {i : Nat} (hi : i < L.size) (j : Nat) : (L.setIfInBounds i true).getD j false = if j = i then true else L.getD j false := by
 rw [Array.getD_eq_getD_getElem?, Array.getElem?_setIfInBounds]
 by_cases e : i = j
 ·subst e; simp [hi]
 ·rw [if_neg e, if_neg (fun h => e h.symm), ← Array.getD_eq_getD_getElem?]
theorem Jo2 {L : Array Bool} {i : Nat} (hi : i < ops.size) (hs : L.size = ops.size) (hf : L.getD i false = false) : cnt P ops (L.setIfInBounds i true) = cnt P ops L + if isMv P ops i then 1 else 0 := by
 cases hm : isMv P ops i with
 | true =>
  simp only [if_true]
  refine kv _ List.nodup_range _ _ i (by simpa using hi) ?_ ?_ ?_
  ·show ((L.setIfInBounds i true).getD i false && isMv P ops i) = true; rw [vz (by omega), if_pos rfl, hm]; rfl
  ·show (L.getD i false && isMv P ops i) = false; rw [hf]; rfl
  ·intro j hj
   show _ = ((L.setIfInBounds i true).getD j false && isMv P ops j)
   rw [vz (by omega), if_neg hj]
 | false =>
  simp only [Bool.false_eq_true, if_false, Nat.add_zero]
  unfold cnt
  apply List.countP_congr
  intro j _
  rw [vz (by omega)]
  by_cases e : j = i
  ·subst e; rw [hm]; simp
  ·rw [if_neg e]
theorem yi (p : Nat → Bool) : ∀ (N i : Nat), i ≤ N → (List.range N).countP (fun j => decide (j < i) && p j) = (List.range i).countP p := by
 intro N
 induction N with
 | zero =>
      intro i hi; have : i = 0 := by omega
      subst this; rfl
 | succ N ih =>
  intro i hi
  rw [List.range_succ, List.countP_append, List.countP_singleton]
  by_cases e : i = N + 1
  ·subst e
   rw [List.range_succ, List.countP_append, List.countP_singleton]
   have h1 : (List.range N).countP (fun j => decide (j < N + 1) && p j) = (List.range N).countP p := by
    apply List.countP_congr
    intro j hj
    have : j < N := by simpa using hj
    simp [show j < N + 1 by omega]
   rw [h1]; simp
  ·rw [ih i (by omega)]
   have : decide (N < i) = false := decide_eq_false (by omega)
   rw [this]; simp
section
variable (R : Run P call n ops f h S) (K : Lk P n ops)
include K
omit K in
theorem notL {L : Array Bool} (hs : L.size = ops.size) (hc : Yz ops L) {i j : Nat} (hj : j < ops.size) (hi : L.getD i false = false) (ha : tb (msk ops j) i = true) : L.getD j false = false := by
 cases hb : L.getD j false with
 | false => rfl
 | true =>
  have ho : ops[j]? = some ops[j] := by simp [hj]
  have hjj : L.getD j true = true := by
   have : L[j]? = some L[j] := by simp [hs, hj]
   simp [Array.getD_eq_getD_getElem?, this] at hb ⊢; exact hb
  have := Ji1 hs hc j _ i ho (fun e he hbe => hc j hj hjj _ ho e he hbe) ha
  rw [hi] at this; cases this
theorem qj {L : Array Bool} (hs : L.size = ops.size) (hc : Yz ops L) {i : Nat} {o : Oper} (ho : ops[i]? = some o) (hi : L.getD i false = false) (hp : ∀ e ∈ o.after, Region.binds .any e = true → L.getD e.on false = true) (hm : isMv P ops i = true) : cnt P ops L = mcn P ops i := by
 have hiN := (Array.getElem?_eq_some_iff.1 ho).1
 unfold cnt mcn
 rw [← yi (isMv P ops) ops.size i (by omega)]
 apply List.countP_congr
 intro j hj
 have hj : j < ops.size := by simpa using hj
 cases hmj : isMv P ops j with
 | false => simp
 | true =>
  simp only [Bool.and_true]
  rcases Nat.lt_trichotomy j i with h1 | h1 | h1
  ·rw [decide_eq_true h1, Ji1 hs hc i o j ho hp (K.chain j i h1 hmj hm)]
  ·subst h1; rw [hi]; simp
  ·rw [decide_eq_false (by omega), notL hs hc hj hi (K.chain i j h1 hm hmj)]
include R
theorem frm {L : Array Bool} {F : Wf.Fr} {w w0 : World} {Φ Φ0 : Phi} {τ τ0 : Tau} (I : IvS P ops f h S Φ0 τ0 w0 L F w Φ τ) (hs : L.size = ops.size) (hc : Yz ops L) {i : Nat} {o : Oper} (ho : ops[i]? = some o) (hi : L.getD i false = false)
  (hp : ∀ e ∈ o.after, Region.binds .any e = true → L.getD e.on false = true) {t : Nat} (ht : t < 4096)
  (hw : ∀ (j : Nat) (o' : Oper), ops[j]? = some o' → o'.dst = some t → tb (msk ops i) j = true ∨ tb (msk ops j) i = true) : Rv Φ (getF t (S i).f) (F t) := by
 have hiN := (Array.getElem?_eq_some_iff.1 ho).1
 by_cases hex : ∃ (j : Nat) (o' : Oper), ops[j]? = some o' ∧ o'.dst = some t ∧ L.getD j false = true
 ·obtain ⟨j, o', hj, hd, hl⟩ := hex
  have hjN := (Array.getElem?_eq_some_iff.1 hj).1
  rcases hw j o' hj hd with h1 | h1
  ·have hlt := Jep i o j ho K.back h1
   have e1 : getF t (S i).f = getF t (S (j + 1)).f := R.frames ht (j + 1) i hlt (by omega) fun k ok h2 h3 hk hd2 => by
    have := K.uniq j k o' ok t hj hk hd hd2
    omega
   rw [e1]
   exact I.fw t ht j o' hj hd hl
  ·have := notL hs hc hjN hi h1
   rw [hl] at this; cases this
 ·have hall : ∀ (j : Nat) (o' : Oper), ops[j]? = some o' → o'.dst = some t → L.getD j false = false := by
   intro j o' hj hd
   cases hb : L.getD j false with
   | false => rfl
   | true => exact absurd ⟨j, o', hj, hd, hb⟩ hex
  have e1 : getF t (S i).f = getF t (S 0).f := R.frames ht 0 i (Nat.zero_le _) (by omega) fun k ok _ h3 hk hd => by
   rcases hw k ok hk hd with h1 | h1
   ·have := Ji1 hs hc i o k ho hp h1
    rw [hall k ok hk hd] at this; cases this
   ·have := Jep k ok i hk K.back h1
    omega
  rw [e1, R.s0]
  exact I.f0 t ht hall
theorem frmOp {L : Array Bool} {F : Wf.Fr} {w w0 : World} {Φ Φ0 : Phi} {τ τ0 : Tau} (I : IvS P ops f h S Φ0 τ0 w0 L F w Φ τ) (hs : L.size = ops.size) (hc : Yz ops L) {i : Nat} {o : Oper} (ho : ops[i]? = some o) (hi : L.getD i false = false)
  (hp : ∀ e ∈ o.after, Region.binds .any e = true → L.getD e.on false = true) : ∃ g, FR Φ g F ∧ ∀ H, evOp P call o.op (S i).f H = evOp P call o.op g H := by
 refine ⟨resF ((z8 o.op.operands.toList).filter (fun t => decide (t < 4096))) (S i).f, ?_, fun H => Jmj ?_⟩
 ·intro t ht
  rw [Je4 (fun x hx => by simpa using (List.mem_filter.1 hx).2) ht]
  split
  ·rename_i hm
   have hm := (List.mem_filter.1 hm).1
   exact frm R K I hs hc ho hi hp ht fun j o' hj hd => K.read i o t j o' ho hm hj hd
  ·simp only [Rv]
 ·intro t hm ht
  rw [Je4 (fun x hx => by simpa using (List.mem_filter.1 hx).2) ht, if_pos]
  exact List.mem_filter.2 ⟨Jf7 hm, by simpa using ht⟩
theorem Jju {L : Array Bool} {F : Wf.Fr} {w w0 : World} {Φ Φ0 : Phi} {τ τ0 : Tau} (I : IvS P ops f h S Φ0 τ0 w0 L F w Φ τ) (hs : L.size = ops.size) (hc : Yz ops L) {i : Nat} {o : Oper} (ho : ops[i]? = some o) (hi : L.getD i false = false)
  (hp : ∀ e ∈ o.after, Region.binds .any e = true → L.getD e.on false = true) {b : Bool} (hw : j9 ops o.guard (S i).f = some b) : Region.wanted o (Zv ops F) = b := by
 refine xy (Φ := Φ) hw fun p d hg hd => ?_
 show Rv Φ (Bool.rec AV.u (getF d (S i).f) (Nat.ble (Nat.succ d) 4096)) (F d)
 cases hb : Nat.ble (Nat.succ d) 4096 with
 | false => simp only [Rv]
 | true =>
  have hd5 : d < 4096 := Nat.le_of_ble_eq_true hb
  rw [Option.bind_eq_some_iff] at hd
  obtain ⟨og, hog, hd⟩ := hd
  refine frm R K I hs hc ho hi hp hd5 fun j o' hj hdj => ?_
  have := K.uniq p.1 j og o' d hog hj hd hdj
  subst this
  exact .inl (K.gd i o p ho hg)
end
end
end Go.Ev
namespace Go.Ev
set_option linter.unusedVariables false
set_option linter.unusedSimpArgs false
open Go Go.Wf Go.RowKit
section
variable {P : Program} {call : CallF} {n : Nat} {ops : Array Oper} {f : Fr} {h : Hp} {S : Nat → DS}
theorem Jc2 {F : Wf.Fr} {d t : Nat} {v : Value} : Wf.updO F (some d) v t = if t = d then v else F t := rfl
theorem IvS.upd {Φ0 Φ Φ' : Phi} {τ0 τ τ' : Tau} {w0 w w' : World} {L : Array Bool} {F : Wf.Fr} {i : Nat} {o : Oper} {v : Value} (R : Run P call n ops f h S) (K : Lk P n ops) (I : IvS P ops f h S Φ0 τ0 w0 L F w Φ τ) (hs : L.size = ops.size)
  (ho : ops[i]? = some o) (hi : L.getD i false = false) (tw : Tw Φ0 τ0 h w0 Φ' τ' (S ops.size).h.n w') (sub : Sub Φ Φ')
  (fre : ∀ j, j < ops.size → j ≠ i → L.getD j false = false → Fre Φ' (S j).h.n (S (j + 1)).h.n) (val : ∀ t, t < 4096 → o.dst = some t → Rv Φ' (getF t (S (i + 1)).f) v)
  (rel : ∀ x, (S ops.size).hs[cnt P ops L + if isMv P ops i then 1 else 0]? = some x → Rel Φ' τ' x.1 w')
  (qs : ∀ x, (S ops.size).hs[cnt P ops L + if isMv P ops i then 1 else 0]? = some x → ∀ e ∈ (S ops.size).qt, (e.1 = i ∨ L.getD e.1 false = true) → tb x.2 e.1 = false → ∀ b, e.2.2 = some b → Kg Φ' τ' w' e.2.1 b) :
  IvS P ops f h S Φ0 τ0 w0 (L.setIfInBounds i true) (updO F o.dst v) w' Φ' τ' := by
 have hiN := (Array.getElem?_eq_some_iff.1 ho).1
 have hg := fun j => vz (L := L) (i := i) (by omega) j
 have hc := Jo2 (P := P) hiN hs hi
 refine ⟨tw, ?_, ?_, ?_, ?_, ?_⟩
 ·intro j hj hl
  rw [hg] at hl
  split at hl
  ·cases hl
  ·rename_i hne; exact fre j hj hne hl
 ·intro t ht j o' hj hd hl
  rw [hg] at hl
  by_cases e : j = i
  ·subst e
   rw [ho] at hj; cases hj
   have := val t ht hd
   rw [hd, Jc2, if_pos rfl]; exact this
  ·rw [if_neg e] at hl
   have hne : o.dst ≠ some t := fun hd2 => e (K.uniq j i o' o t hj ho hd hd2)
   have := (I.fw t ht j o' hj hd hl).mono sub
   cases hod : o.dst with
   | none => exact this
   | some d =>
    rw [Jc2, if_neg (fun e => hne (by rw [hod, e]))]; exact this
 ·intro t ht hall
  have hne : o.dst ≠ some t := by
   intro hd
   have := hall i o ho hd
   rw [hg, if_pos rfl] at this; cases this
  have := (I.f0 t ht fun j o' hj hd => by
   have := hall j o' hj hd
   rw [hg] at this
   split at this
   ·cases this
   ·exact this).mono sub
  cases hod : o.dst with
  | none => exact this
  | some d =>
   rw [Jc2, if_neg (fun e => hne (by rw [hod, e]))]; exact this
 ·intro x hx
  rw [hc] at hx; exact rel x hx
 ·intro x hx e he hl hb
  rw [hc] at hx
  rw [hg] at hl
  refine qs x hx e he ?_ hb
  split at hl
  ·exact .inl (by assumption)
  ·exact .inr hl
theorem Js4 {m a : Nat} {qt : QT} {g : Fr} {o : Oper} {v : AV} {k : Out} : ∀ (l : List (Hp × Nat)), okO (winK P call m qt a g o v l k) → winK P call m qt a g o v l k = k ∧ ∀ x ∈ l, ∃ h', evOp P call o.op g ⟨Z3 qt a x.2 x.1.t, m⟩ = .ok v h' := by
 intro l
 induction l with
 | nil => intro _; exact ⟨rfl, fun x hx => by cases hx⟩
 | cons y l ih =>
  intro e
  have e0 : winK P call m qt a g o v (y :: l) k = Res.rec (fun v' _ => Bool.rec (.no 61) (winK P call m qt a g o v l k) (Jhm v v')) Out.no (fun _ _ => .no 60) (evOp P call o.op g ⟨Z3 qt a y.2 y.1.t, m⟩) := rfl
  rw [e0] at e ⊢
  obtain ⟨v', h', h1, h2⟩ := Jkq e
  rw [h2] at e ⊢
  cases hb : Jhm v v' with
  | false => rw [hb] at e; exact e.elim
  | true =>
   rw [hb] at e
   obtain ⟨h3, h4⟩ := ih e
   refine ⟨h3, fun x hx => ?_⟩
   cases hx with
   | head => rw [Jpe hb]; exact ⟨h', h1⟩
   | tail _ hx => exact h4 x hx
theorem Jo5 {m : Nat} {qt : QT} {rs : List (Nat × Fr × AV)} {hs : List (Hp × Nat)} {k : Out} : ∀ (l : List (Nat × Oper × Nat × Nat × Nat)), okO (Jhb P call m qt rs hs k l) → Jhb P call m qt rs hs k l = k ∧
  ∀ p ∈ l, ∀ r, Jcv rs p.1 = some r → ∀ x ∈ tk (dr hs p.2.2.2.1) (Nat.succ (Nat.sub p.2.2.2.2 p.2.2.2.1)), ∃ h', evOp P call p.2.1.op r.1 ⟨Z3 qt p.2.2.1 x.2 x.1.t, m⟩ = .ok r.2 h' := by
 intro l
 induction l with
 | nil => intro _; exact ⟨rfl, fun p hp => by cases hp⟩
 | cons q l ih =>
  intro e
  have e0 : Jhb P call m qt rs hs k (q :: l) = Option.rec (Jhb P call m qt rs hs k l) (fun r => winK P call m qt q.2.2.1 r.1 q.2.1 r.2 (tk (dr hs q.2.2.2.1) (Nat.succ (Nat.sub q.2.2.2.2 q.2.2.2.1))) (Jhb P call m qt rs hs k l)) (Jcv rs q.1) := rfl
  rw [e0] at e ⊢
  cases hf : Jcv rs q.1 with
  | none =>
   rw [hf] at e
   obtain ⟨h1, h2⟩ := ih e
   refine ⟨h1, fun p hp => ?_⟩
   cases hp with
   | head => intro r hr; rw [hf] at hr; cases hr
   | tail _ hp => exact h2 p hp
  | some r =>
   rw [hf] at e
   simp only at e ⊢
   obtain ⟨h1, h2⟩ := Js4 _ e
   rw [h1] at e ⊢
   obtain ⟨h3, h4⟩ := ih e
   refine ⟨h3, fun p hp => ?_⟩
   cases hp with
   | head => intro r' hr; rw [hf] at hr; cases hr; exact h2
   | tail _ hp => exact h4 p hp
theorem Jtg (mv a : Nat) : ∀ (l : List Nat) (i : Nat), loM mv a l i = (List.range l.length).countP fun j => tb (Nat.land mv a) (i + j) := by
 intro l
 induction l with
 | nil => intro i; rfl
 | cons b l ih =>
  intro i
  have e0 : loM mv a (b :: l) i = Bool.rec (loM mv a l (Nat.succ i)) (Nat.succ (loM mv a l (Nat.succ i))) (tb (Nat.land mv a) i) := rfl
  rw [e0, ih, List.length_cons, List.range_succ_eq_map, List.countP_cons, List.countP_map]
  have e1 : (List.range l.length).countP ((fun j => tb (Nat.land mv a) (i + j)) ∘ Nat.succ) = (List.range l.length).countP fun j => tb (Nat.land mv a) (Nat.succ i + j) := by
   apply List.countP_congr
   intro j _
   simp only [Function.comp]
   rw [show i + Nat.succ j = Nat.succ i + j by omega]
  rw [e1, Nat.add_zero]
  cases tb (Nat.land mv a) i <;> rfl
theorem Jv9 (p r : Bool) (G : Nat) : (Bool.rec G (Bool.rec (Nat.succ G) G r) p : Nat) = G + if p && !r then 1 else 0 := by cases p <;> cases r <;> rfl
theorem Juv (mv q : Nat) : ∀ (l : List Nat) (i : Nat), hiM mv q l i = (List.range l.length).countP fun j => tb mv (i + j) && !tb ((l[j]?).getD 0) q := by
 intro l
 induction l with
 | nil => intro i; rfl
 | cons b l ih =>
  intro i
  have e0 : hiM mv q (b :: l) i = Bool.rec (hiM mv q l (Nat.succ i)) (Bool.rec (Nat.succ (hiM mv q l (Nat.succ i))) (hiM mv q l (Nat.succ i)) (tb b q)) (tb mv i) := rfl
  rw [e0, ih, List.length_cons, List.range_succ_eq_map, List.countP_cons, List.countP_map]
  have e1 : (List.range l.length).countP ((fun j => tb mv (i + j) && !tb (((b :: l)[j]?).getD 0) q) ∘ Nat.succ) = (List.range l.length).countP fun j => tb mv (Nat.succ i + j) && !tb ((l[j]?).getD 0) q := by
   apply List.countP_congr
   intro j _
   simp only [Function.comp, List.getElem?_cons_succ]
   rw [show i + Nat.succ j = Nat.succ i + j by omega]
  rw [e1, Nat.add_zero]
  simp only [List.getElem?_cons_zero, Option.getD_some]
  exact Jv9 _ _ _
theorem Jvw {P : Program} {mv : Nat} {ms : List Nat} : ∀ (l : List Oper) (m : List Nat) (i j : Nat) (o : Oper) (a : Nat), l[j]? = some o → m[j]? = some a → Jfj (kdOf P o.op) = true → loM mv a ms 0 ≠ hiM mv (i + j) ms 0 →
  m.length = l.length → (i + j, o, a, loM mv a ms 0, hiM mv (i + j) ms 0) ∈ winM P mv ms l m i := by
 intro l
 induction l with
 | nil => intro m i j o a h; simp at h
 | cons x l ih =>
  intro m i j o a hj hm hr hne hlen
  cases m with
  | nil => simp at hm
  | cons b m =>
   have e0 : winM P mv ms (x :: l) (b :: m) i = Bool.rec (winM P mv ms l m (Nat.succ i)) (Bool.rec ((i, x, b, loM mv b ms 0, hiM mv i ms 0) :: winM P mv ms l m (Nat.succ i)) (winM P mv ms l m (Nat.succ i)) (Nat.beq (loM mv b ms 0) (hiM mv i ms 0))) (Jfj (kdOf P x.op)) := rfl
   rw [e0]
   cases j with
   | zero =>
    simp at hj hm; subst hj; subst hm
    rw [Nat.add_zero] at hne ⊢
    have hb : Nat.beq (loM mv b ms 0) (hiM mv i ms 0) = false := by rw [j0]; exact decide_eq_false hne
    rw [hr, hb]
    exact List.mem_cons_self
   | succ j =>
    have := ih m (Nat.succ i) j o a (by simpa using hj) (by simpa using hm) hr (by rw [show Nat.succ i + j = i + (j + 1) by omega]; exact hne) (by simpa using hlen)
    rw [show Nat.succ i + j = i + (j + 1) by omega] at this
    cases Jfj (kdOf P x.op) with
    | false => exact this
    | true =>
     cases Nat.beq (loM mv b ms 0) (hiM mv i ms 0) with
     | true => exact this
     | false => exact List.mem_cons_of_mem _ this
section
variable (R : Run P call n ops f h S) (K : Lk P n ops)
include R
theorem Run.rs {k : Nat} {o : Oper} (ho : ops[k]? = some o) (hr : kdOf P o.op = .read) (hw : j9 ops o.guard (S k).f = some true) :
  ∃ v h', evOp P call o.op (S k).f ⟨Z3 (S k).qt (msk ops k) (S k).fl (S k).h.t, (S k).h.n⟩ = .ok v h' ∧ (∀ t, o.dst = some t → t < 4096 → getF t (S (k + 1)).f = v) ∧ ∀ j, k + 1 ≤ j → j ≤ ops.size → Jcv (S j).rs k = some ((S k).f, v) := by
 have hkN := (Array.getElem?_eq_some_iff.1 ho).1
 obtain ⟨hlo, ⟨_, v, s1, ⟨h', g1⟩, g2⟩ | ⟨hw2, g2⟩⟩ := R.st k o ho
 ·rw [hr] at g1
  simp only at g1
  refine ⟨v, h', g1.1, ?_, ?_⟩
  ·intro t hd ht
   rw [g2, hd]
   show getF t (setF t v (S k).f) = v
   rw [Xj _ _ _ _ ht ht, if_pos rfl]
  ·intro j hj
   induction hj with
   | refl =>
    intro _
    rw [g2, g1.2]
    show (Bool.rec (Jcv (S k).rs k) (some ((S k).f, v)) (Nat.beq k k) : Option (Fr × AV)) = _
    rw [show Nat.beq k k = true from Nat.beq_refl k]
   | step hj ih =>
    rename_i j
    intro hjN
    have hjN : j + 1 ≤ ops.size := hjN
    have hj : k + 1 ≤ j := hj
    have hoj : ops[j]? = some ops[j] := by simp [show j < ops.size by omega]
    have ih := ih (by omega)
    obtain ⟨_, ⟨_, v2, s2, ⟨h2, q1⟩, q2⟩ | ⟨_, q2⟩⟩ := R.st j _ hoj
    ·cases hk : kdOf P ops[j].op with
     | pure => rw [hk] at q1; simp only at q1; rw [q2, q1.2]; exact ih
     | quiet => rw [hk] at q1; simp only at q1; rw [q2, q1.2]; exact ih
     | move => rw [hk] at q1; simp only at q1; rw [q2, q1.2]; exact ih
     | read =>
      rw [hk] at q1; simp only at q1; rw [q2, q1.2]
      show (Bool.rec (Jcv (S j).rs k) (some ((S j).f, v2)) (Nat.beq j k) : Option (Fr × AV)) = _
      have : Nat.beq j k = false := by rw [j0]; exact decide_eq_false (by omega)
      rw [this]; exact ih
    ·rw [q2]; exact ih
 ·rw [hw] at hw2; cases hw2
include K
theorem stepI (hfin : ∀ id, h.n ≤ id → id < big5 → get5 id h.t = none) (hwin : ∀ p ∈ winM P (movM P ops.toList 0) (ancM ops.toList []) ops.toList (ancM ops.toList []) 0, ∀ r, Jcv (S ops.size).rs p.1 = some r → ∀ x ∈ tk (dr (S ops.size).hs p.2.2.2.1) (Nat.succ (Nat.sub p.2.2.2.2 p.2.2.2.1)),
   ∃ h', evOp P call p.2.1.op r.1 ⟨Z3 (S ops.size).qt p.2.2.1 x.2 x.1.t, (S ops.size).h.n⟩ = .ok r.2 h')
  {Φ0 Φ : Phi} {τ0 τ : Tau} {w0 w : World} {L : Array Bool} {F : Wf.Fr} (I : IvS P ops f h S Φ0 τ0 w0 L F w Φ τ) (hs : L.size = ops.size) (hc : Yz ops L) {i : Nat} {o : Oper} (ho : ops[i]? = some o) (hi : L.getD i false = false)
  (hp : ∀ e ∈ o.after, Region.binds .any e = true → L.getD e.on false = true) :
  lo n o.dst ∧ OpSt P ops F o w (fun v w' => ∃ Φ' τ', IvS P ops f h S Φ0 τ0 w0 (L.setIfInBounds i true) (updO F o.dst v) w' Φ' τ') (fun _ _ => False) := by
 have hiN := (Array.getElem?_eq_some_iff.1 ho).1
 have hmono1 := R.mono i (i + 1) (by omega) (by omega)
 have hmonoN := R.mono (i + 1) ops.size (by omega) (Nat.le_refl _)
 have hlimN := (R.lims ops.size (Nat.le_refl _))
 have hlimi := R.lims i (by omega)
 obtain ⟨hhl, hlx, hlat, hlt, hln⟩ := R.hs i (by omega)
 have hlatN := (R.hs_pre i ops.size (by omega) (Nat.le_refl _)).1 _ _ hlat
 have hqN := (R.hs_pre i ops.size (by omega) (Nat.le_refl _)).2
 have setv : ∀ {t : Nat} {v : AV} {g : Fr}, t < 4096 → o.dst = some t → getF t (setd o.dst v g) = v := by
  intro t v g ht hd
  rw [hd]
  show getF t (setF t v g) = v
  rw [Xj _ _ _ _ ht ht, if_pos rfl]
 have relAt : ∀ {x : Hp × Nat}, (S ops.size).hs[cnt P ops L]? = some x → ∀ {qt : QT} {m : Nat}, (∀ e ∈ qt, e ∈ (S ops.size).qt ∧ e.2.1 < m) → x.1.n ≤ m → m ≤ big5 → Rel Φ τ ⟨Z3 qt (msk ops i) x.2 x.1.t, m⟩ w := by
  intro x hx qt m hq h1 h2
  refine Jeq (I.rel x hx) h1 h2 (fun e he => (hq e he).2) fun e he ha hf b hb => ?_
  exact I.qs x hx e (hq e he).1 (Ji1 hs hc i o e.1 ho hp ha) hf b hb
 obtain ⟨hlo, hst⟩ := R.st i o ho
 refine ⟨hlo, ?_⟩
 obtain ⟨g, hF, hev⟩ := frmOp R K I hs hc ho hi hp
 rcases hst with ⟨hw, v, s1, ⟨h', g1⟩, g2⟩ | ⟨hw, g2⟩
 ·have hwant := Jju R K I hs hc ho hi hp hw
  unfold OpSt
  rw [if_pos hwant]
  cases hk : kdOf P o.op with
  | pure =>
   have hmv : isMv P ops i = false := by rw [Q9 ho, hk]; rfl
   rw [hk] at g1; simp only at g1
   obtain ⟨g1, rfl⟩ := g1
   rw [hev] at g1
   obtain ⟨_, pu⟩ := Jcd hk g1
   obtain ⟨dst, op, ty, pos, after, gd⟩ := o
   refine (pu Φ F w dst ty pos after gd hF).mono ?_ fun _ _ h => h
   rintro x w' ⟨rfl, hv⟩
   refine ⟨Φ, τ, I.upd R K hs ho hi I.tw (Sub.refl _) (fun j hj hne hl => I.fre j hj hl) (fun t ht hd => ?_) ?_ ?_⟩
   ·rw [g2]; simp only; rw [setv ht hd]; exact hv
   ·rw [hmv]; exact I.rel
   ·rw [hmv]
    intro x hx e he hl
    rcases hl with hl | hl
    ·obtain ⟨_, o', _, _, ho', hk', _⟩ := R.qt _ (Nat.le_refl _) e he
     rw [hl, ho] at ho'; cases ho'
     rw [hk] at hk'; cases hk'
    ·exact I.qs x hx e he hl
  | read =>
   have hmv : isMv P ops i = false := by rw [Q9 ho, hk]; rfl
   obtain ⟨vr, hr', e1, e2, e3⟩ := R.rs ho hk hw
   have e3 := e3 ops.size (by omega) (Nat.le_refl _)
   have hlo1 : loM (movM P ops.toList 0) (msk ops i) (ancM ops.toList []) 0 ≤ cnt P ops L := by
    rw [Jtg, jp]
    unfold cnt
    apply List.countP_mono_left
    intro j hj hb
    rw [Nat.zero_add] at hb
    have e5 : tb (Nat.land (movM P ops.toList 0) (msk ops i)) j = (tb (movM P ops.toList 0) j && tb (msk ops i) j) := by rw [jr, jr, jr]; exact Nat.testBit_and _ _ _
    rw [e5, mvM] at hb
    obtain ⟨b1, b2⟩ := Zj hb
    rw [Ji1 hs hc i o j ho hp b2, b1]; rfl
   have hhi1 : cnt P ops L ≤ hiM (movM P ops.toList 0) i (ancM ops.toList []) 0 := by
    rw [Juv, jp]
    unfold cnt
    apply List.countP_mono_left
    intro j hj hb
    have hj : j < ops.size := by simpa using hj
    obtain ⟨b1, b2⟩ := Zj hb
    rw [Nat.zero_add, mvM, b2]
    cases hd : tb (((ancM ops.toList [])[j]?).getD 0) i with
    | false => rfl
    | true =>
     have := notL hs hc hj hi hd
     rw [b1] at this; cases this
   have hlo2 : loM (movM P ops.toList 0) (msk ops i) (ancM ops.toList []) 0 ≤ mcn P ops i := by
    rw [Jtg, jp]
    unfold mcn
    rw [← yi (isMv P ops) ops.size i (by omega)]
    apply List.countP_mono_left
    intro j hj hb
    rw [Nat.zero_add] at hb
    have e5 : tb (Nat.land (movM P ops.toList 0) (msk ops i)) j = (tb (movM P ops.toList 0) j && tb (msk ops i) j) := by rw [jr, jr, jr]; exact Nat.testBit_and _ _ _
    rw [e5, mvM] at hb
    obtain ⟨b1, b2⟩ := Zj hb
    rw [b1, decide_eq_true (Jep i o j ho K.back b2)]; rfl
   have hhi2 : mcn P ops i ≤ hiM (movM P ops.toList 0) i (ancM ops.toList []) 0 := by
    rw [Juv, jp]
    unfold mcn
    rw [← yi (isMv P ops) ops.size i (by omega)]
    apply List.countP_mono_left
    intro j hj hb
    have hj : j < ops.size := by simpa using hj
    obtain ⟨b1, b2⟩ := Zj hb
    have b1 : j < i := of_decide_eq_true b1
    rw [Nat.zero_add, mvM, b2]
    cases hd : tb (((ancM ops.toList [])[j]?).getD 0) i with
    | false => rfl
    | true =>
     have := Jep j ops[j] i (by simp [hj]) K.back hd
     omega
   have hlenN := (R.hs ops.size (Nat.le_refl _)).1
   have hcN : cnt P ops L ≤ mcn P ops ops.size := by
    unfold cnt mcn
    apply List.countP_mono_left
    intro j _ hb
    exact (Zj hb).2
   obtain ⟨x, hx⟩ : ∃ x, (S ops.size).hs[cnt P ops L]? = some x := ⟨_, List.getElem?_eq_getElem (by omega)⟩
   have rd : ∃ hq, evOp P call o.op (S i).f hq = .ok vr hr' ∨ (∃ h2, evOp P call o.op (S i).f hq = .ok vr h2) ∧ True := ⟨_, .inl e1⟩
   have core : ∃ H h2, evOp P call o.op (S i).f H = .ok vr h2 ∧ Rel Φ τ H w := by
    by_cases hne : loM (movM P ops.toList 0) (msk ops i) (ancM ops.toList []) 0 = hiM (movM P ops.toList 0) i (ancM ops.toList []) 0
    ·have hcc : cnt P ops L = mcn P ops i := by omega
     rw [← hcc] at hlatN
     refine ⟨_, _, e1, ?_⟩
     have := relAt hlatN (qt := (S i).qt) (m := (S i).h.n) (fun e he => ⟨hqN e he, (R.qt_id (by omega) e he).1⟩) hln hlimi.1
     rw [hlt]; exact this
    ·have hmem := Jvw (P := P) (mv := movM P ops.toList 0) (ms := ancM ops.toList []) ops.toList (ancM ops.toList []) 0 i o (msk ops i) (by simpa using ho) (Jbr hiN) (by rw [hk]; rfl) (by rw [Nat.zero_add]; exact hne) (by rw [jp]; simp)
     rw [Nat.zero_add] at hmem
     have hxm : x ∈ tk (dr (S ops.size).hs (loM (movM P ops.toList 0) (msk ops i) (ancM ops.toList []) 0)) (Nat.succ (Nat.sub (hiM (movM P ops.toList 0) i (ancM ops.toList []) 0) (loM (movM P ops.toList 0) (msk ops i) (ancM ops.toList []) 0))) := by
      rw [Js0, xv]
      apply List.mem_of_getElem? (i := cnt P ops L - loM (movM P ops.toList 0) (msk ops i) (ancM ops.toList []) 0)
      rw [List.getElem?_take, if_pos, List.getElem?_drop]
      ·rw [← hx]; congr 1; omega
      ·show _ < (hiM (movM P ops.toList 0) i (ancM ops.toList []) 0 - loM (movM P ops.toList 0) (msk ops i) (ancM ops.toList []) 0) + 1
       omega
     obtain ⟨h2, hh2⟩ := hwin _ hmem _ e3 x hxm
     refine ⟨_, h2, hh2, ?_⟩
     have hxn : x.1.n ≤ (S ops.size).h.n := by
      have key : ∀ j, j ≤ ops.size → ∀ (p : Nat) y, (S j).hs[p]? = some y → y.1.n ≤ (S j).h.n := by
       intro j
       induction j with
       | zero =>
        intro _ p y hy
        rw [R.s0] at hy ⊢
        cases p with
        | zero => simp at hy; subst hy; exact Nat.le_refl _
        | succ p => simp at hy
       | succ j ih =>
        intro hj p y hy
        have hoj : ops[j]? = some ops[j] := by simp [show j < ops.size by omega]
        have hm := R.mono j (j + 1) (by omega) hj
        have old : (S j).hs[p]? = some y → y.1.n ≤ (S (j + 1)).h.n := fun hy => Nat.le_trans (ih (by omega) p y hy) hm
        have new_ : ∀ z : Hp × Nat, z.1.n ≤ (S (j + 1)).h.n → ((S j).hs ++ [z])[p]? = some y → y.1.n ≤ (S (j + 1)).h.n := by
         intro z hz hy
         rw [List.getElem?_append] at hy
         split at hy
         ·exact old hy
         ·have := (List.getElem?_eq_some_iff.1 hy).1
          have e0 : p - (S j).hs.length = 0 := by simp at this; omega
          rw [e0] at hy
          simp at hy; subst hy; exact hz
        obtain ⟨_, ⟨_, v2, s2, ⟨h2, q1⟩, q2⟩ | ⟨_, q2⟩⟩ := R.st j _ hoj
        ·cases hkj : kdOf P ops[j].op with
         | pure =>
              rw [hkj] at q1; simp only at q1; have e9 : (S (j + 1)).hs = (S j).hs := by rw [q2, q1.2]
              rw [e9] at hy; exact old hy
         | read =>
              rw [hkj] at q1; simp only at q1; have e9 : (S (j + 1)).hs = (S j).hs := by rw [q2, q1.2]
              rw [e9] at hy; exact old hy
         | quiet =>
               rw [hkj] at q1; simp only at q1; have e9 : (S (j + 1)).hs = (S j).hs := by rw [q2, q1.2]
               rw [e9] at hy; exact old hy
         | move =>
          rw [hkj] at q1; simp only at q1
          have e9 : (S (j + 1)).hs = (S j).hs ++ [(h2, Nat.lor (S j).fl (msk ops j))] := by rw [q2, q1.2]
          rw [e9] at hy
          exact new_ _ (by rw [q2, q1.2]; exact Nat.le_refl _) hy
        ·have e9 : (S (j + 1)).hs = if Yw (kdOf P ops[j].op) then (S j).hs ++ [((S j).h, (S j).fl)] else (S j).hs := by rw [q2]
         rw [e9] at hy
         split at hy
         ·exact new_ _ hm hy
         ·exact old hy
      exact key ops.size (Nat.le_refl _) _ x hx
     exact relAt hx (fun e he => ⟨he, (R.qt_id (Nat.le_refl _) e he).1⟩) hxn hlimN.1
   obtain ⟨H, h2, hev2, hrel⟩ := core
   rw [hev] at hev2
   obtain ⟨_, rdd⟩ := Jct hk hev2
   obtain ⟨dst, op, ty, pos, after, gd⟩ := o
   refine (rdd Φ τ F w dst ty pos after gd hF hrel).mono ?_ fun _ _ h => h
   rintro y w' ⟨rfl, hv⟩
   refine ⟨Φ, τ, I.upd R K hs ho hi I.tw (Sub.refl _) (fun j hj hne hl => I.fre j hj hl) (fun t ht hd => ?_) ?_ ?_⟩
   ·rw [e2 t hd ht]; exact hv
   ·rw [hmv]; exact I.rel
   ·rw [hmv]
    intro x hx e he hl
    rcases hl with hl | hl
    ·obtain ⟨_, o', _, _, ho', hk', _⟩ := R.qt _ (Nat.le_refl _) e he
     rw [hl, ho] at ho'; cases ho'
     rw [hk] at hk'; cases hk'
    ·exact I.qs x hx e he hl
  | quiet =>
   have hmv : isMv P ops i = false := by rw [Q9 ho, hk]; rfl
   rw [hk] at g1; simp only at g1
   obtain ⟨g1, hs1⟩ := g1
   have g1' := g1
   rw [hev] at g1
   obtain ⟨b, hb, hh, qt⟩ := Xi hk g1
   have hni : (S (i + 1)).h.n = (S i).h.n + 1 := by rw [g2, hs1, hh]
   have hfr : Φ (S i).h.n = none := I.fre i hiN hi _ (Nat.le_refl _) (by omega)
   obtain ⟨dst, op, ty, pos, after, gd⟩ := o
   refine (qt Φ F w dst ty pos after gd hF hfr).mono ?_ fun _ _ h => h
   rintro y w' ⟨kk, O, wn, hv, nb⟩
   have hsub : Sub Φ (ext Φ (S i).h.n ⟨w.heap.size, 0, kk⟩) := Sub.ext hfr
   have hkeep : ∀ g, g < w.heap.size → w'.heap[g]? = w.heap[g]? ∧ (if g = w.heap.size then (if b.ro then Lab.ro else Lab.own (S i).h.n) else τ g) = τ g := fun g hg => ⟨wn.old g hg, if_neg (by omega)⟩
   refine ⟨_, fun g => if g = w.heap.size then (if b.ro then Lab.ro else Lab.own (S i).h.n) else τ g, I.upd R K hs ho hi ?_ hsub ?_ ?_ ?_ ?_⟩
   ·refine ⟨wn.os.trans I.tw.os, wn.tape.trans I.tw.tape, wn.output.trans I.tw.output, by rw [wn.size]; have := I.tw.size; omega, I.tw.sub.trans hsub, ?_, ?_⟩
    ·intro id hid
     rw [← I.tw.same id hid]
     unfold ext
     rw [if_neg (by omega)]
    ·intro g hg hkp
     obtain ⟨k1, k2⟩ := I.tw.keep g hg hkp
     obtain ⟨k3, k4⟩ := hkeep g (Nat.lt_of_lt_of_le hg I.tw.size)
     exact ⟨k3.trans k1, k4.trans k2⟩
   ·intro j hj hne hl id h1 h2
    have := I.fre j hj hl id h1 h2
    unfold ext
    rw [if_neg]
    ·exact this
    ·rintro rfl
     exact R.apart hiN hj (fun e => hne e.symm) (Nat.le_refl _) (by omega) ⟨h1, h2⟩
   ·intro t ht hd
    rw [g2]; simp only; rw [setv ht hd]; exact hv
   ·rw [hmv]
    intro x hx
    exact (I.rel x hx).kept hsub hkeep
   ·rw [hmv]
    intro x hx e he hl htb b' hb'
    rcases hl with hl | hl
    ·
     obtain ⟨he0, oq, vq, bq, hoq, hkq, hwq, hevq, hidq, hbq, _, _⟩ := R.qt _ (Nat.le_refl _) e he
     rw [hl, ho] at hoq; cases hoq
     rw [hl] at hevq hidq
     rw [g1'] at hevq
     have h9 := (Jx hevq).2
     rw [hh] at h9
     have h10 := congrArg Hp.t h9
     have h11 : get5 (S i).h.n (set5 (S i).h.n (some b) (S i).h.t) = get5 (S i).h.n (set5 (S i).h.n (some bq) (S i).h.t) := by
      have : set5 (S i).h.n (some b) (S i).h.t = set5 (S i).h.n (some bq) (S i).h.t := h10
      rw [this]
     rw [Zk _ _ _ _ hb hb, Zk _ _ _ _ hb hb, if_pos rfl, if_pos rfl] at h11
     cases h11
     rw [hbq] at hb'
     cases hb'
     rw [hidq]
     exact nb _ _ _ hsub (Q3 _ _ _) wn.new_ (if_pos rfl)
    ·obtain ⟨en, _, hlt, _, k⟩ := (I.qs x hx e he hl htb b' hb').at_
     exact k hsub (hkeep _ hlt).1 (hkeep _ hlt).2
  | move =>
   have hmv : isMv P ops i = true := by rw [Q9 ho, hk]; rfl
   have hcc := qj K hs hc ho hi hp hmv
   rw [hk] at g1; simp only at g1
   obtain ⟨g1, hs1⟩ := g1
   rw [hev] at g1
   obtain ⟨gw, sop⟩ := Ja7 R.cs g1
   have gw := gw hlimi.1
   have hn1 : (S (i + 1)).h = h' := by rw [g2, hs1]
   have hlatC : (S ops.size).hs[cnt P ops L]? = some (hlx, (S i).fl) := by rw [hcc]; exact hlatN
   have hrelE : Rel Φ τ ⟨Z3 (S i).qt (msk ops i) (S i).fl (S i).h.t, (S i).h.n⟩ w := by
    have := relAt hlatC (qt := (S i).qt) (m := (S i).h.n) (fun e he => ⟨hqN e he, (R.qt_id (by omega) e he).1⟩) hln hlimi.1
    rw [hlt]; exact this
   have hqb : ∀ e ∈ (S i).qt, e.2.1 < big5 := fun e he => (R.qt_id (by omega) e he).2.1
   have hnone := R.none_ hfin ops.size (Nat.le_refl _) _ _ hlatN
   obtain ⟨dst, op, ty, pos, after, gd⟩ := o
   refine (sop Φ τ F w dst ty pos after gd hF hrelE (by rw [← hn1]; exact I.fre i hiN hi)).mono ?_ fun _ _ h => h
   rintro y w' ⟨Φ', τ', hv, hrel', tw'⟩
   have hnew : (S ops.size).hs[cnt P ops L + 1]? = some (h', Nat.lor (S i).fl (msk ops i)) := by
    refine (R.hs_pre (i + 1) ops.size (by omega) (Nat.le_refl _)).1 _ _ ?_
    have e9 : (S (i + 1)).hs = (S i).hs ++ [(h', Nat.lor (S i).fl (msk ops i))] := by rw [g2, hs1]
    rw [e9, hcc, List.getElem?_append_right (by omega), hhl, Nat.sub_self]; rfl
   have hnN : h'.n ≤ (S ops.size).h.n := by rw [← hn1]; exact hmonoN
   refine ⟨Φ', τ', I.upd R K hs ho hi ?_ tw'.sub ?_ ?_ ?_ ?_⟩
   ·refine ⟨tw'.os.trans I.tw.os, tw'.tape.trans I.tw.tape, tw'.output.trans I.tw.output, Nat.le_trans I.tw.size tw'.size, I.tw.sub.trans tw'.sub, ?_, ?_⟩
    ·intro id hid
     rw [tw'.same id (fun hh => hid ⟨Nat.le_trans hlimi.2 hh.1, Nat.lt_of_lt_of_le hh.2 hnN⟩), I.tw.same id hid]
    ·intro g hg hkp
     obtain ⟨k1, k2⟩ := I.tw.keep g hg hkp
     obtain ⟨k3, k4⟩ := tw'.keep g (Nat.lt_of_lt_of_le hg I.tw.size) (fun id e => by
      rw [k2] at e
      obtain ⟨z1, z2⟩ := hkp id e
      refine ⟨fun hid => ?_, fun hh => z2 ⟨Nat.le_trans hlimi.2 hh.1, Nat.lt_of_lt_of_le hh.2 hnN⟩⟩
      have hid : id < (S i).h.n := hid
      have hidh : id < h.n := by
       rcases Nat.lt_or_ge id h.n with hl | hl
       ·exact hl
       ·exact absurd ⟨hl, by omega⟩ z2
      show get5 id (Z3 (S i).qt (msk ops i) (S i).fl (S i).h.t) = none
      rcases jv (a := msk ops i) (fl := (S i).fl) (t := (S i).h.t) (id := id) (by have := R.lim; omega) (S i).qt hqb with ⟨q1, _⟩ | ⟨e', q1, q2, _⟩
      ·rw [q1, hlt]; exact hnone.2 id hidh (z1 hidh)
      ·have := (R.qt_id (by omega) e' q1).2.2
       omega)
     exact ⟨k3.trans k1, k4.trans k2⟩
   ·intro j hj hne hl id h1 h2
    rw [tw'.same id (fun hh => R.apart hj hiN hne h1 h2 ⟨hh.1, by rw [hn1]; exact hh.2⟩)]
    exact I.fre j hj hl id h1 h2
   ·intro t ht hd
    rw [g2]; simp only; rw [setv ht hd]; exact hv
   ·rw [hmv]
    intro x hx
    simp only [if_true] at hx
    rw [hnew] at hx; cases hx
    exact hrel'
   ·rw [hmv]
    intro x hx e he hl htb b' hb'
    simp only [if_true] at hx
    rw [hnew] at hx; cases hx
    simp only at htb
    rw [j1] at htb
    obtain ⟨t1, t2⟩ := Bool.or_eq_false_iff.1 htb
    obtain ⟨he0, oq, vq, bq, hoq, hkq, _, _, hidq, _, hnq, hbq⟩ := R.qt _ (Nat.le_refl _) e he
    have hne : e.1 ≠ i := by
     intro e1
     rw [e1, ho] at hoq; cases hoq
     rw [hk] at hkq; cases hkq
    have hl : L.getD e.1 false = true := hl.resolve_left hne
    have hnoq := hnone.1 e he t1
    obtain ⟨en, _, hlt2, hlab, kk⟩ := (I.qs _ hlatC e he hl t1 b' hb').at_
    have hkp := tw'.keep en.g hlt2 (fun id e9 => by
     rw [hlab] at e9
     split at e9
     ·cases e9
     ·cases e9
      refine ⟨fun _ => ?_, fun hh => R.apart he0 hiN hne (by omega) (by omega) ⟨hh.1, by rw [hn1]; exact hh.2⟩⟩
      show get5 e.2.1 (Z3 (S i).qt (msk ops i) (S i).fl (S i).h.t) = none
      rcases jv (a := msk ops i) (fl := (S i).fl) (t := (S i).h.t) (id := e.2.1) (by omega) (S i).qt hqb with ⟨q1, _⟩ | ⟨e', q1, q2, q3, q4, _⟩
      ·rw [q1, hlt]; exact hnoq
      ·have := R.one (Nat.le_refl _) (hqN e' q1) he q2
       rw [this] at q3
       rw [q3] at t2; cases t2)
    exact kk tw'.sub hkp.1 hkp.2
 ·
  have hwant := Jju R K I hs hc ho hi hp hw
  unfold OpSt
  rw [if_neg (by rw [hwant]; simp)]
  refine ⟨Φ, τ, I.upd R K hs ho hi I.tw (Sub.refl _) (fun j hj hne hl => I.fre j hj hl) (fun t ht hd => ?_) ?_ ?_⟩
  ·rw [g2]; simp only; rw [setv ht hd]; simp only [Rv, RvL]; exact ⟨[], rfl, rfl⟩
  ·cases hmv : isMv P ops i with
   | false => exact I.rel
   | true =>
    have hcc := qj K hs hc ho hi hp hmv
    have hnew : (S ops.size).hs[cnt P ops L + 1]? = some ((S i).h, (S i).fl) := by
     refine (R.hs_pre (i + 1) ops.size (by omega) (Nat.le_refl _)).1 _ _ ?_
     have hm2 : Yw (kdOf P o.op) = true := by rw [← Q9 (P := P) ho]; exact hmv
     have e9 : (S (i + 1)).hs = (S i).hs ++ [((S i).h, (S i).fl)] := by rw [g2]; simp only; rw [if_pos hm2]
     rw [e9, hcc, List.getElem?_append_right (by omega), hhl, Nat.sub_self]; rfl
    intro x hx
    simp only [if_true] at hx
    rw [hnew] at hx; cases hx
    have r0 := I.rel (hlx, (S i).fl) (by rw [hcc]; exact hlatN)
    refine ⟨hlimi.1, fun id b hid hb => ?_, fun id hid h5 => ?_⟩
    ·have hid : id < (S i).h.n := hid
     have hb : get5 id (S i).h.t = some b := hb
     rw [hlt] at hb
     rcases Nat.lt_or_ge id hlx.n with hl | hl
     ·exact r0.blk id b hl hb
     ·rw [r0.fin id hl (by omega)] at hb; cases hb
    ·show get5 id (S i).h.t = none
     rw [hlt]; exact r0.fin id (Nat.le_trans hln hid) h5
  ·intro x hx e he hl htb b' hb'
   have hq : e.1 = i → False := by
    intro e1
    obtain ⟨_, o', _, _, ho', _, hwq, _⟩ := R.qt _ (Nat.le_refl _) e he
    rw [e1, ho] at ho'; cases ho'
    rw [e1, hw] at hwq; cases hwq
   have hl : L.getD e.1 false = true := hl.resolve_left hq
   cases hmv : isMv P ops i with
   | false => rw [hmv] at hx; exact I.qs x hx e he hl htb b' hb'
   | true =>
    rw [hmv] at hx
    have hcc := qj K hs hc ho hi hp hmv
    have hnew : (S ops.size).hs[cnt P ops L + 1]? = some ((S i).h, (S i).fl) := by
     refine (R.hs_pre (i + 1) ops.size (by omega) (Nat.le_refl _)).1 _ _ ?_
     have hm2 : Yw (kdOf P o.op) = true := by rw [← Q9 (P := P) ho]; exact hmv
     have e9 : (S (i + 1)).hs = (S i).hs ++ [((S i).h, (S i).fl)] := by rw [g2]; simp only; rw [if_pos hm2]
     rw [e9, hcc, List.getElem?_append_right (by omega), hhl, Nat.sub_self]; rfl
    simp only [if_true] at hx
    rw [hnew] at hx; cases hx
    exact I.qs (hlx, (S i).fl) (by rw [hcc]; exact hlatN) e he hl htb b' hb'
end
end
end Go.Ev
namespace Go.Ev
set_option linter.unusedVariables false
set_option linter.unusedSimpArgs false
open Go Go.Wf Go.RowKit
section
variable {fc : Fence} {P : Program} {call : CallF} {n : Nat}
def Vd (fc : Fence) (P : Program) (n : Nat) (c : Code) (o : Fr → Hp → Out) : Prop := ∀ f h, okO (o f h) → Gw h (hpO (o f h) h) ∧
 ∀ (Φ : Phi) (τ : Tau) (F : Wf.Fr) (w : World) (D : List Deferred), FR Φ f F → Rel Φ τ h w → Fre Φ h.n (hpO (o f h) h).n → W fc P c n D (OutQ Φ τ h w (o f h)) F w
theorem Jl1 [Fw fc] (hc : CallS P call) (hn : n ≤ 4096) (hm : P.follows .mixedOrders = true) (id : Nat) (ops : Array Oper) (draw : Bool) : Vd fc P n (.region id ops draw) (zr P call n ops draw) := by
 intro f h e
 cases draw with
 | false =>
  rw [qz] at e ⊢
  obtain ⟨g, s⟩ := Jrt hc hn ops.toList f h e
  exact ⟨g, fun Φ τ F w D hF hR hFr => W.region (s Φ τ F w _ hF hR hFr fun _ _ _ q => q)⟩
 | true =>
  have ed : zr P call n ops true f h = Jja P call n ops f h := rfl
  rw [ed] at e ⊢
  unfold Jja at e ⊢
  cases hb : Jmg P n ops (ancM ops.toList []) with
  | false => rw [hb] at e; exact e.elim
  | true =>
   rw [hb] at e
   simp only at e ⊢
   obtain ⟨S, s0, e1, hst⟩ := Jrl _ _ _ _ _ e
   rw [e1] at e ⊢
   have hlen : 0 + ops.toList.length = ops.size := by simp
   rw [hlen] at e ⊢
   obtain ⟨e2, hwin⟩ := Jo5 _ e
   rw [e2] at e ⊢
   have K := Jrb hb
   have run : h.n ≤ big5 → Run P call n ops f h S := fun hl => ⟨s0, fun k o ho => by
    obtain ⟨a, ha, hs⟩ := hst k o (by simpa using ho)
    have hkN := (Array.getElem?_eq_some_iff.1 ho).1
    rw [Jbr hkN] at ha
    cases ha
    rw [Nat.zero_add] at hs
    exact hs, hc, hn, hl⟩
   have hone : ∀ {q : Nat}, q < ops.size → tb (Nat.sub (Nat.pow 2 ops.size) 1) q = true := by
    intro q hq
    rw [jr]
    have := Nat.testBit_two_pow_sub_one ops.size q
    show (2 ^ ops.size - 1).testBit q = true
    rw [this]; simpa using hq
   refine ⟨fun hl => ?_, fun Φ τ F w D hF hR hFr => ?_⟩
   ·have R := run hl
    obtain ⟨hhl, hlx, hlat, hlt, hln⟩ := R.hs ops.size (Nat.le_refl _)
    have hlims := R.lims ops.size (Nat.le_refl _)
    refine ⟨hlims.2, ?_, fun _ => hlims.1⟩
    intro i h5 hid hnn
    have hid : ¬ (h.n ≤ i ∧ i < (S ops.size).h.n) := hid
    show get5 i (Z3 (S ops.size).qt _ (S ops.size).fl (S ops.size).h.t) = none
    rcases jv (a := Nat.sub (Nat.pow 2 ops.size) 1) (fl := (S ops.size).fl) (t := (S ops.size).h.t) (id := i) h5 (S ops.size).qt (fun e he => (R.qt_id (Nat.le_refl _) e he).2.1) with ⟨q1, _⟩ | ⟨e', q1, q2, _⟩
    ·rw [q1, hlt]
     exact R.none2 ops.size (Nat.le_refl _) _ _ hlat i h5 hid hnn
    ·have q9 := R.qt_id (Nat.le_refl _) e' q1
     exact absurd ⟨by omega, by omega⟩ hid
   ·have R := run hR.lim
    have hFr : Fre Φ h.n (S ops.size).h.n := hFr
    have hlims := R.lims ops.size (Nat.le_refl _)
    refine W.drawI hm (fun L F' w' => ∃ Φ' τ', IvS P ops f h S Φ τ w.drew L F' w' Φ' τ') K.back ?_ ?_ ?_
    ·have hz : ∀ i, (Array.replicate ops.size false).getD i false = false := by
      intro i
      simp [Array.getD_eq_getD_getElem?]
      by_cases hi : i < ops.size <;> simp [hi]
     have hcnt : cnt P ops (Array.replicate ops.size false) = 0 := by
      unfold cnt
      apply List.countP_eq_zero.2
      intro i _
      rw [hz]; simp
     have hs0 : (S ops.size).hs[0]? = some (h, 0) := by
      have := (R.hs_pre 0 ops.size (Nat.zero_le _) (Nat.le_refl _)).1 0 (h, 0)
      exact this (by rw [R.s0]; rfl)
     refine ⟨Φ, τ, Tw.refl _ _ _ _ _, ?_, ?_, ?_, ?_, ?_⟩
     ·intro i hi _ id h1 h2
      have q1 := R.mono (i + 1) ops.size (by omega) (Nat.le_refl _)
      have q2 := (R.lims i (by omega)).2
      exact hFr id (by omega) (by omega)
     ·intro t _ j o _ _ hl
      rw [hz] at hl; cases hl
     ·intro t ht _; exact hF t ht
     ·intro x hx
      rw [hcnt, hs0] at hx; cases hx
      exact hR.kept (Sub.refl _) fun g _ => ⟨rfl, rfl⟩
     ·intro x _ e _ hl
      rw [hz] at hl; cases hl
    ·intro L i o F' w' hs hcl ho hi hp ⟨Φ', τ', I⟩
     have hiN := (Array.getElem?_eq_some_iff.1 ho).1
     have hi' : L.getD i false = false := by
      have : L[i]? = some L[i] := by simp [hs, hiN]
      simp [Array.getD_eq_getD_getElem?, this] at hi ⊢; exact hi
     exact stepI R K hR.fin hwin I hs hcl ho hi' hp
    ·intro L F' w' hs hall ⟨Φ', τ', I⟩
     have hall' : ∀ i, i < ops.size → L.getD i false = true := by
      intro i hi
      have := hall i hi
      have h9 : L[i]? = some L[i] := by simp [hs, hi]
      simp [Array.getD_eq_getD_getElem?, h9] at this ⊢; exact this
     have hcnt : cnt P ops L = mcn P ops ops.size := by
      unfold cnt mcn
      apply List.countP_congr
      intro j hj
      rw [hall' j (by simpa using hj)]; simp
     obtain ⟨hhl, hlx, hlat, hlt, hln⟩ := R.hs ops.size (Nat.le_refl _)
     refine ⟨Φ', τ', ?_, ?_, ?_⟩
     ·intro t ht
      by_cases hex : ∃ (j : Nat) (o' : Oper), ops[j]? = some o' ∧ o'.dst = some t
      ·obtain ⟨j, o', hj, hd⟩ := hex
       have hjN := (Array.getElem?_eq_some_iff.1 hj).1
       have e9 : getF t (S ops.size).f = getF t (S (j + 1)).f := R.frames ht (j + 1) ops.size (by omega) (Nat.le_refl _) fun k ok h2 h3 hk hd2 => by
        have := K.uniq j k o' ok t hj hk hd hd2
        omega
       rw [e9]
       exact I.fw t ht j o' hj hd (hall' j hjN)
      ·have e9 : getF t (S ops.size).f = getF t (S 0).f := R.frames ht 0 ops.size (Nat.zero_le _) (Nat.le_refl _) fun k ok _ _ hk hd => hex ⟨k, ok, hk, hd⟩
       rw [e9, R.s0]
       exact I.f0 t ht fun j o' hj hd => absurd ⟨j, o', hj, hd⟩ hex
     ·have hr := I.rel _ (by rw [hcnt]; exact hlat)
      have := Jeq (a := Nat.sub (Nat.pow 2 ops.size) 1) (fl := (S ops.size).fl) hr hln hlims.1 (fun e he => (R.qt_id (Nat.le_refl _) e he).1) (fun e he _ hf b hb => I.qs _ (by rw [hcnt]; exact hlat) e he (hall' _ (R.qt _ (Nat.le_refl _) e he).1) hf b hb)
      rw [← hlt] at this; exact this
     ·exact ⟨I.tw.os, I.tw.tape, I.tw.output, I.tw.size, I.tw.sub, I.tw.same, I.tw.keep⟩
theorem sq_s {c d : Code} {x y : Fr → Hp → Out} (hx : Vd fc P n c x) (hy : Vd fc P n d y) : Vd fc P n (.seq c d) (fun f h => sq (x f h) y) := by
 intro f h e
 have e : okO (sq (x f h) y) := e
 show Gw h (hpO (sq (x f h) y) h) ∧ _
 have hx := hx f h
 revert e hx
 cases hq : x f h with
 | nx f1 h1 =>
  intro e hx
  obtain ⟨g1, s1⟩ := hx trivial
  have e : okO (y f1 h1) := e
  obtain ⟨g2, s2⟩ := hy f1 h1 e
  have g1 : Gw h h1 := g1
  have eqq : sq (Out.nx f1 h1) y = y f1 h1 := rfl
  simp only [hq, eqq]
  rw [Jhk e h h1]
  refine ⟨g1.trans g2, fun Φ τ F w D hF hR hFr => ?_⟩
  have k1 := g1 hR.lim
  have k2 := g2 (k1.lim hR.lim)
  refine W.seq ((s1 Φ τ F w D hF hR fun id a b => hFr id a (Nat.lt_of_lt_of_le b k2.le)).mono ?_)
  intro ex F1 w1 q
  cases ex with
  | normal =>
   obtain ⟨Φ1, τ1, hF1, hR1, t1⟩ := q
   refine (s2 Φ1 τ1 F1 w1 D hF1 hR1 fun id a b => by rw [t1.same id (fun hh => by have : id < h1.n := hh.2; omega)]; exact hFr id (Nat.le_trans k1.le a) b).mono ?_
   intro ex F2 w2 q2
   exact q2.trans t1 k1 (k1.lim hR.lim) k2.le
  | _ => exact q.elim
 | ex i f1 h1 =>
  intro e hx
  obtain ⟨g1, s1⟩ := hx trivial
  have eqq : sq (Out.ex i f1 h1) y = .ex i f1 h1 := rfl
  simp only [hq, eqq]
  refine ⟨g1, fun Φ τ F w D hF hR hFr => W.seq ((s1 Φ τ F w D hF hR hFr).mono ?_)⟩
  intro ex F1 w1 q
  cases ex with
  | normal => exact q.elim
  | exit j => exact q
  | _ => exact q.elim
 | rt f1 h1 =>
  intro e hx
  obtain ⟨g1, s1⟩ := hx trivial
  have eqq : sq (Out.rt f1 h1) y = .rt f1 h1 := rfl
  simp only [hq, eqq]
  refine ⟨g1, fun Φ τ F w D hF hR hFr => W.seq ((s1 Φ τ F w D hF hR hFr).mono ?_)⟩
  intro ex F1 w1 q
  cases ex with
  | normal => exact q.elim
  | ret => exact q
  | _ => exact q.elim
 | pn v f1 h1 =>
  intro e hx
  obtain ⟨g1, s1⟩ := hx trivial
  have eqq : sq (Out.pn v f1 h1) y = .pn v f1 h1 := rfl
  simp only [hq, eqq]
  refine ⟨g1, fun Φ τ F w D hF hR hFr => W.seq ((s1 Φ τ F w D hF hR hFr).mono ?_)⟩
  intro ex F1 w1 q
  cases ex with
  | normal => exact q.elim
  | panic ch => exact q
  | _ => exact q.elim
 | no m => intro e; exact e.elim
theorem Jv1 {c d : Code} {x y : Fr → Hp → Out} (o : Operand) (hx : Vd fc P n c x) (hy : Vd fc P n d y) : Vd fc P n (.cond o c d) (Jj0 o x y) := by
 intro f h e
 unfold Jj0 at e ⊢
 split at e
 ·rename_i t ht
  cases t with
  | true =>
   obtain ⟨g, s⟩ := hx f h e
   refine ⟨g, fun Φ τ F w D hF hR hFr => ?_⟩
   have := Jc hF o
   rw [ht] at this
   exact W.condT this.bI (s Φ τ F w D hF hR hFr)
  | false =>
   obtain ⟨g, s⟩ := hy f h e
   refine ⟨g, fun Φ τ F w D hF hR hFr => ?_⟩
   have := Jc hF o
   rw [ht] at this
   exact W.condF this.bI (s Φ τ F w D hF hR hFr)
 ·exact e.elim
theorem blk_s {c : Code} {x : Fr → Hp → Out} (id : Nat) (hx : Vd fc P n c x) : Vd fc P n (.block id c) (fun f h => blkO id (x f h)) := by
 intro f h e
 have e : okO (blkO id (x f h)) := e
 show Gw h (hpO (blkO id (x f h)) h) ∧ _
 have hx := hx f h
 revert e hx
 cases hq : x f h with
 | nx f1 h1 =>
  intro e hx
  obtain ⟨g1, s1⟩ := hx trivial
  have eqq : blkO id (Out.nx f1 h1) = .nx f1 h1 := rfl
  simp only [hq, eqq]
  refine ⟨g1, fun Φ τ F w D hF hR hFr => W.block ((s1 Φ τ F w D hF hR hFr).mono ?_)⟩
  intro ex F1 w1 q
  cases ex with
  | normal => exact q
  | _ => exact q.elim
 | ex i f1 h1 =>
  intro e hx
  obtain ⟨g1, s1⟩ := hx trivial
  by_cases hi : i = id
  ·subst hi
   have eqq : blkO i (Out.ex i f1 h1) = .nx f1 h1 := by
    show (Bool.rec (Out.ex i f1 h1) (Out.nx f1 h1) (Nat.beq i i) : Out) = _
    rw [show Nat.beq i i = true from Nat.beq_refl i]
   simp only [hq, eqq]
   refine ⟨g1, fun Φ τ F w D hF hR hFr => W.block ((s1 Φ τ F w D hF hR hFr).mono ?_)⟩
   intro ex F1 w1 q
   cases ex with
   | exit j =>
    obtain ⟨rfl, q⟩ := q
    show (if i = i then _ else _)
    rw [if_pos rfl]
    exact q
   | _ => exact q.elim
  ·have eqq : blkO id (Out.ex i f1 h1) = .ex i f1 h1 := by
    show (Bool.rec (Out.ex i f1 h1) (Out.nx f1 h1) (Nat.beq i id) : Out) = _
    rw [show Nat.beq i id = false by rw [j0]; exact decide_eq_false hi]
   simp only [hq, eqq]
   refine ⟨g1, fun Φ τ F w D hF hR hFr => W.block ((s1 Φ τ F w D hF hR hFr).mono ?_)⟩
   intro ex F1 w1 q
   cases ex with
   | exit j =>
    obtain ⟨rfl, q⟩ := q
    show (if i = id then _ else _)
    rw [if_neg hi]
    exact ⟨rfl, q⟩
   | _ => exact q.elim
 | rt f1 h1 =>
  intro e hx
  obtain ⟨g1, s1⟩ := hx trivial
  have eqq : blkO id (Out.rt f1 h1) = .rt f1 h1 := rfl
  simp only [hq, eqq]
  refine ⟨g1, fun Φ τ F w D hF hR hFr => W.block ((s1 Φ τ F w D hF hR hFr).mono ?_)⟩
  intro ex F1 w1 q
  cases ex with
  | ret => exact q
  | _ => exact q.elim
 | pn v f1 h1 =>
  intro e hx
  obtain ⟨g1, s1⟩ := hx trivial
  have eqq : blkO id (Out.pn v f1 h1) = .pn v f1 h1 := rfl
  simp only [hq, eqq]
  refine ⟨g1, fun Φ τ F w D hF hR hFr => W.block ((s1 Φ τ F w D hF hR hFr).mono ?_)⟩
  intro ex F1 w1 q
  cases ex with
  | panic ch => exact q
  | _ => exact q.elim
 | no m => intro e; exact e.elim
end
end Go.Ev
