/- Part 6 of the texts for the claim. -/
import Derived.Test.YtjiojpmoleilgaaGreatDoorForms5
set_option linter.unusedVariables false
set_option linter.unusedSimpArgs false
set_option maxRecDepth 100000
set_option maxHeartbeats 4000000
noncomputable section
namespace Go.Wf
open Go
structure cntOk (a:GExpr):Prop where
 o1:1≤a.op
 o2:a.op≤18
 n1:cA a.op≤((a.n.length:Nat):Int)
 n2:((a.n.length:Nat):Int)≤cB a.op
 a1:cC a.op≤((a.args.length:Nat):Int)
 a2:((a.args.length:Nat):Int)≤cD a.op
structure nameOk (a:GExpr):Prop where
 e:decide (a.op=8)=Kt a.name
 s:a.op=8∨a.name=[]
 c:a.op=1∨Jbs a.c.q=0
def Jv0(a:GExpr):Prop:=∀ i,i < a.n.length→lA a.op≤a.n.getD i 0∧a.n.getD i 0≤lB a.op
open Classical in
def Qg(a:GExpr):Int:=if cntOk a∧nameOk a then if Jv0 a then 0 else 2 else 3
mutual
def errE:GExpr→Int
 | .mk o n c s l=>if Qg (.mk o n c s l)=0 then errL l else Qg (.mk o n c s l)
def errL:List GExpr→Int
 | []=>0
 | a::l=>if errE a=0 then errL l else errE a
end
theorem Jex(a:GExpr):errE a=if Qg a=0 then errL a.args else Qg a:=by cases a;rw [errE];rfl
section
variable {a:GExpr}
theorem Qe(h:¬ cntOk a):3=Qg a:=by unfold Qg;rw [if_neg fun e=>h e.1]
theorem Yn(h:¬ nameOk a):3=Qg a:=by unfold Qg;rw [if_neg fun e=>h e.2]
theorem k7(h1:cntOk a)(h2:nameOk a){i:Nat}(hi:i < a.n.length)(h:a.n.getD i 0 < lA a.op∨lB a.op < a.n.getD i 0):2=Qg a:=by
 unfold Qg;rw [if_pos ⟨h1,h2⟩,if_neg fun e=>by have:=e i hi;omega]
theorem Jvc(h1:cntOk a)(h2:nameOk a){i:Nat}(hi:a.n.length≤i)(h:∀ j,j < i→lA a.op≤a.n.getD j 0∧a.n.getD j 0≤lB a.op):0=Qg a:=by
 unfold Qg;rw [if_pos ⟨h1,h2⟩,if_pos (show Jv0 a from fun j hj=>h j (by omega))]
theorem Jrb(h1:cntOk a)(h2:nameOk a){i:Nat}(hi:a.n.length≤i)(h:∀ j,j < i→lA a.op≤a.n.getD j 0∧a.n.getD j 0≤lB a.op):Qg a=0:=(Jvc h1 h2 hi h).symm
theorem Km{e:Int}(h:e=Qg a)(h0:¬ e=0):e=errE a:=by rw [Jex,if_neg (by rw [← h];exact h0)];exact h
theorem Ji6{i:Nat}(hi:i < a.args.length)(hv:errL (a.args.drop i)=errL a.args)(h:errE (a.args.getD i default)=0):errL (a.args.drop (i+1))=errL a.args:=by
 rw [← hv,Xw hi,errL,if_pos h]
theorem Jla{i:Nat}(h0:Qg a=0)(hi:i < a.args.length)(hv:errL (a.args.drop i)=errL a.args)(h:¬ errE (a.args.getD i default)=0):errE (a.args.getD i default)=errE a:=by
 rw [Jex a,if_pos h0,← hv,Xw hi,errL,if_neg h]
theorem Jp1{i:Nat}(h0:Qg a=0)(hi:a.args.length≤i)(hv:errL (a.args.drop i)=errL a.args):0=errE a:=by
 rw [Jex a,if_pos h0,← hv,List.drop_of_length_le hi,errL]
end
theorem Jx0{n:Int}(h:okOp n=true):sA n=cA n:=if_pos (of_decide_eq_true h)
theorem Jf3{a:GExpr}(h:okOp a.op=true)(h1:¬ ((a.n.length:Nat):Int) < sA a.op)(h2:¬ sB a.op < ((a.n.length:Nat):Int))(h3:0≤sC a.op→((a.args.length:Nat):Int)=sC a.op)(h4:sC a.op < 0→¬ ((a.args.length:Nat):Int) < 2)(h5:a.args.length≤60):cntOk a:=by
 have hr:=of_decide_eq_true h;have hb:sB a.op=cB a.op:=if_pos hr;rw [Jx0 h] at h1;rw [hb] at h2;refine⟨hr.1,hr.2,by omega,by omega,?_,?_⟩
 ·unfold sC at h3 h4;unfold cC
  (repeat' split at h3) <;> (repeat' split) <;> first | omega | (unfold cC at h3;(repeat' split at h3) <;> omega)
 ·unfold sC at h3 h4;unfold cD
  (repeat' split at h3) <;> (repeat' split) <;> first | omega | (unfold cC at h3;(repeat' split at h3) <;> omega)
theorem xg{a:GExpr}(h:okOp a.op=false∨((a.n.length:Nat):Int) < sA a.op∨sB a.op < ((a.n.length:Nat):Int)∨(0≤sC a.op∧¬ ((a.args.length:Nat):Int)=sC a.op)∨(sC a.op < 0∧((a.args.length:Nat):Int) < 2)):¬ cntOk a:=by
 intro c;have hr:okOp a.op=true:=decide_eq_true ⟨c.o1,c.o2⟩;have hp:=of_decide_eq_true hr;have hb:sB a.op=cB a.op:=if_pos hp;rw [Jx0 hr,hb,hr] at h;have c1:=c.n1;have c2:=c.n2;have c3:=c.a1;have c4:=c.a2
 rcases h with h | h | h | h | h
 ·cases h
 ·omega
 ·omega
 ·unfold sC at h;unfold cC at c3 h;unfold cD at c4
  (repeat' split at h) <;> (repeat' split at c3) <;> (repeat' split at c4) <;> omega
 ·unfold sC at h;unfold cC at c3 h;unfold cD at c4
  (repeat' split at h) <;> (repeat' split at c3) <;> (repeat' split at c4) <;> omega
theorem Vk{a:GExpr}(h1:(a.op=8∧Kt a.name=true)∨(¬ a.op=8∧a.name=[]))(h2:a.op=1∨Jbs a.c.q=0):nameOk a:=by
 rcases h1 with ⟨h,h3⟩ | ⟨h,h3⟩
 ·exact⟨by rw [decide_eq_true h,h3],.inl h,h2⟩
 ·exact⟨by rw [decide_eq_false h,h3];rfl,.inr h3,h2⟩
theorem jo{a:GExpr}(h:(a.op=8∧Kt a.name=false)∨(¬ a.op=8∧¬ a.name=[])∨(¬ a.op=1∧¬ Jbs a.c.q=0)):¬ nameOk a:=by
 intro c
 rcases h with ⟨h,h3⟩ | ⟨h,h3⟩ | ⟨h,h3⟩
 ·have:=c.e;rw [decide_eq_true h,h3] at this;cases this
 ·exact c.s.elim h h3
 ·exact c.c.elim h h3
def zm(a:GExpr):Int:=if cntE a≤60∧lvlE a≤12 then errE a else 7
theorem Jgn{a:GExpr}{k v:Nat}(h:60 < k+1∨12 < v):(k+1,false)=pszE a k v:=by rw [Jae,if_pos h]
theorem Jk2{a:GExpr}{k v i kk:Nat}(h:¬ (60 < k+1∨12 < v))(hi:i < a.args.length)(hR:pszL (a.args.drop i) kk (v+1)=pszL a.args (k+1) (v+1))(hb:(pszE (a.args.getD i default) kk (v+1)).2=false):pszE (a.args.getD i default) kk (v+1)=pszE a k v:=by
 rw [Jae a,if_neg h];exact Jpc hi hR hb
theorem Jq6{a:GExpr}{k v i kk:Nat}(h:¬ (60 < k+1∨12 < v))(hi:a.args.length≤i)(hR:pszL (a.args.drop i) kk (v+1)=pszL a.args (k+1) (v+1)):(kk,true)=pszE a k v:=by
 rw [Jae a,if_neg h];exact Js2 hi hR
theorem pr_le{a:GExpr}{k v:Nat}(hk:k≤60)(hb:(pszE a k v).2=true):(pszE a k v).1≤60:=by
 obtain⟨h1,h2⟩:=(Jgb _).1 a (Nat.lt_succ_self _) k v hk;rw [h2 hb];rw [h1] at hb
 have:=of_decide_eq_true hb
 omega
end Go.Wf
namespace Go.Wf
open Go Go.Proofs
theorem Xg:Zf Tryz.prog 125=some (.agg #[.int .i64 0,.int .i64 0,.int .i64 0],3,24):=by kernel_rfl
theorem X1:V7 Tryz.prog 125 3=true:=by kernel_rfl
theorem Jto:Zn Tryz.prog 125 0=some 0:=by kernel_rfl
theorem Jvt:Zn Tryz.prog 125 1=some 1:=by kernel_rfl
theorem Jay:Zn Tryz.prog 125 2=some 2:=by kernel_rfl
end Go.Wf
namespace Go.Wf
open Go Go.Proofs Go.RowKit
theorem Jzu{X:Nat→Prop}{w:World}(hX:∀ b,X b→b < w.heap.size){v0:Value}{a:GInt}(r0:RV Jv X w v0 a)(hl:a.mag.length≤1000):Calls Tryz.prog 74 #[v0] w (Ret w fun v w'=>RV Jv X w' v a):=by
 obtain⟨a1,c2,rfl,h3⟩:=RV.int r0;have C:=J25 hX;refine J24 (args:=[(.agg #[(.bool a.neg),(.slice a1 a.mag.length c2)])]) Tryz.func74 rfl rfl (Nat.le_of_ble_eq_true rfl) (Rg (O rfl (J3a C rfl ?_)));intro g4 w5 x6 y7 lt8 C9 s10 o11;replace h3:=h3.sp s10;refine O rfl (J26 C9 io26 rfl ?_);intro g12 w13 x14 y15 lt16 C17 s18 o19;refine Nl (W.seq (J4n Za 6 [[],[0],[],[],[3],[2,4]] C17 [fx (.pointer (some ⟨g4,0,none⟩)),fx (.bool a.neg),u0,fx (.pointer (some ⟨g4,1,none⟩)),fx (.slice a1 a.mag.length c2),us x14 Jc a.mag] (by kernel_rfl) ⟨sx,sx,(fun _ _ _ _ _ h _=>h),sx,sx,ts,trivial⟩ fun f33 w35 C38 S39 k37=>?_))
 replace h3:=(h3.sp s18).sp S39;replace o11:=(o11.spn s18).spn S39;replace o19:=o19.spn S39;have k37:Keep [3,4,5,6,7,8] _ f33:=k37;refine⟨⟨fun _=>?_,fun⟨e42,_⟩=>?_,fun _=>?_,fun _=>?_,fun⟨e43,_⟩=>?_,fun⟨d44,e45,_⟩=>?_,trivial⟩,fun⟨e46,e47,d48,e49,e50,d51,_⟩=>?_⟩
 ·exact Ja k37 aN fun _=>OpSt.op (St.fieldAddr Zi rfl (⟨(),⟨C38,Sp.refl⟩,rfl⟩))
 ·exact Ja k37 (aC e42 aN) fun _=>OpSt.op (J20 o11 pl4 rfl rfl (⟨(),⟨C38,Sp.refl⟩,rfl⟩))
 ·refine Ja k37 aN fun _=>OpSt.op (J4w C38 sl24 Ji ?_);intro g53 w54 C55 s56;exact⟨(),⟨C55,s56⟩,⟨_,rfl⟩⟩
 ·exact Ja k37 aN fun _=>OpSt.op (St.fieldAddr J4 rfl (⟨(),⟨C38,Sp.refl⟩,rfl⟩))
 ·exact Ja k37 (aC e43 aN) fun _=>OpSt.op (J20 o11 pl24 rfl rfl (⟨(),⟨C38,Sp.refl⟩,rfl⟩))
 ·obtain⟨g58,e57⟩:=d44;refine Ja k37 (aC e57 (aC e45 aN)) fun _=>OpSt.op (J4c (T:=Jc) C38 sl24 Ji rfl rfl h3 (Nat.le_trans hl (by decide)) (by omega) rfl ?_);intro v59 w60 C61 s62 h63;exact⟨(),⟨C61,s62⟩,h63⟩
 obtain⟨g65,e64⟩:=d48;obtain⟨a67,c68,e66,d51⟩:=J3u d51;obtain⟨f69,rfl⟩:=mixK k37 (aC e46 (aC e47 (aC e64 (aC e49 (aC e50 (aC e66 aN))))));refine O rfl (St.build (cs:=[(.bool a.neg),(.slice a67 a.mag.length c68)]) rfl (by kernel_rfl) (On (J23 (cs':=[(.bool a.neg),(.slice a67 a.mag.length c68)]) C38 o19 io26 rfl rfl rfl rfl rfl rfl ?_)));intro w70 C71 s72 o73;replace d51:=d51.sp s72;refine Nl (W.ret (Je rfl (resV.c o73 rfl ag26 rfl) (Ret.intro ?_ C71.below)));exact J3h (a:=a) ((Jk d51).tr (Tr.weak C71.base)) rfl
theorem x_cpR{X:Nat→Prop}{w:World}(hX:∀ b,X b→b < w.heap.size){v0:Value}{a:GRat}(r0:RV Z7 X w v0 a)(hn:a.num.mag.length≤1000)(hd:a.den.mag.length≤1000):Calls Tryz.prog 40 #[v0] w (Ret w fun v w'=>RV Z7 X w' v a):=by
 obtain⟨a1,c2,a3,c4,rfl,h5,h6⟩:=J3o r0;have C:=J25 hX;refine J24 (args:=[(.agg #[(.bool a.num.neg),(.slice a1 a.num.mag.length c2),(.bool a.den.neg),(.slice a3 a.den.mag.length c4)])]) Tryz.func40 rfl rfl (Nat.le_of_ble_eq_true rfl) (Rg (O rfl (J3a C rfl ?_)));intro g7 w8 x9 y10 lt11 C12 s13 o14;replace h5:=h5.sp s13;replace h6:=h6.sp s13;refine O rfl (J26 C12 io28 rfl ?_);intro g15 w16 x17 y18 lt19 C20 s21 o22;refine Nl (W.seq (J4n Za 5 [[],[0],[1],[],[3]] C20 [fx (.pointer (some ⟨g7,0,none⟩)),fx (.agg #[(.bool a.num.neg),(.slice a1 a.num.mag.length c2)]),ur x17 Jv a.num,fx (.pointer (some ⟨g7,2,none⟩)),fx (.agg #[(.bool a.den.neg),(.slice a3 a.den.mag.length c4)])] (by kernel_rfl) ⟨sx,sx,tr,sx,sx,trivial⟩ fun f33 w35 C38 S39 k37=>?_))
 replace h5:=(h5.sp s21).sp S39;replace h6:=(h6.sp s21).sp S39;replace o14:=(o14.spn s21).spn S39;have k37:Keep [3,4,5,6,7] _ f33:=k37;refine⟨⟨fun _=>?_,fun⟨e42,_⟩=>?_,fun⟨e43,_⟩=>?_,fun _=>?_,fun⟨e44,_⟩=>?_,trivial⟩,fun⟨e45,e46,d47,e48,e49,_⟩=>?_⟩
 ·exact Ja k37 aN fun _=>OpSt.op (St.fieldAddr Ky rfl (⟨(),⟨C38,Sp.refl⟩,rfl⟩))
 ·exact Ja k37 (aC e42 aN) fun _=>OpSt.op (J22 (vs:=[(.bool a.num.neg),(.slice a1 a.num.mag.length c2)]) o14 ag26 rfl rfl rfl (⟨(),⟨C38,Sp.refl⟩,rfl⟩))
 ·refine Ja k37 (aC e43 aN) fun _=>OpSt.op (J2y C38 cb74 rfl rfl (Jzu C38.bd (a:=a.num) (Jk h5) hn) ?_);intro v51 w52 C53 s54 h55;exact⟨(),⟨C53,s54⟩,h55⟩
 ·exact Ja k37 aN fun _=>OpSt.op (St.fieldAddr Yh rfl (⟨(),⟨C38,Sp.refl⟩,rfl⟩))
 ·exact Ja k37 (aC e44 aN) fun _=>OpSt.op (J22 (vs:=[(.bool a.den.neg),(.slice a3 a.den.mag.length c4)]) o14 ag26 rfl rfl rfl (⟨(),⟨C38,Sp.refl⟩,rfl⟩))
 obtain⟨a57,c58,e56,h59⟩:=RV.int d47;obtain⟨f60,rfl⟩:=mixK k37 (aC e45 (aC e46 (aC e56 (aC e48 (aC e49 aN)))));refine O rfl (J2y C38 cb74 rfl rfl (Jzu C38.bd (a:=a.den) (Jk h6) hd) ?_);intro v61 w62 C63 s64 h65;replace o22:=(o22.spn S39).spn s64;obtain⟨a66,c67,rfl,h68⟩:=RV.int h65;refine O rfl (St.build (cs:=[(.bool a.num.neg),(.slice a57 a.num.mag.length c58),(.bool a.den.neg),(.slice a66 a.den.mag.length c67)]) rfl (by kernel_rfl) (On (J23 (cs':=[(.bool a.num.neg),(.slice a57 a.num.mag.length c58),(.bool a.den.neg),(.slice a66 a.den.mag.length c67)]) C63 o22 io28 rfl rfl rfl rfl rfl rfl ?_)));intro w69 C70 s71 o72;replace h59:=(h59.sp s64).sp s71;replace h68:=h68.sp s71;refine Nl (W.ret (Je rfl (resV.c o72 rfl ag28 rfl) (Ret.intro ?_ C70.below)));exact J3h (a:=a) ((Ze h59 h68).tr (Tr.weak C70.base)) rfl
theorem Jkm(N:Nat):∀ {X:Nat→Prop} {w:World} (hX:∀ b,X b→b < w.heap.size) {v0:Value} {a:GExpr} (r0:RV Jm X w v0 a) {m:Nat} (hm:m≤1000) (hN:(SizeOf.sizeOf a) < N),Calls Tryz.prog 51 #[v0,(.int .i64 ((m:Nat):Int))] w (Ret w fun v w'=>v=(.int .i64 (((min (cntE a) (m+1)):Nat):Int))):=by
 induction N with
 | zero=>intro X w hX v0 a r0 m hm hN;exact absurd hN (Nat.not_lt_zero _)
 | succ N ih=>
  intro X w hX v0 a r0 m hm hN;obtain⟨a1,c2,a3,c4,a5,c6,a7,c8,rfl,h9⟩:=J3k r0;have h10:=h9.n;have h11:=h9.num;have h12:=h9.den;have h13:=h9.args;have C:=J25 hX;have hal:=r0.args_max;refine J24 (args:=[(.agg #[(.int .i64 a.op),(.slice a1 a.n.length c2),(.bool a.c.num.neg),(.slice a3 a.c.num.mag.length c4),(.bool a.c.den.neg),(.slice a5 a.c.den.mag.length c6),(str a.name),(.slice a7 a.args.length c8)]),(.int .i64 ((m:Nat):Int))]) Tryz.func51 rfl rfl (Nat.le_of_ble_eq_true rfl) (Rg (O rfl (J3a C rfl ?_)));intro g14 w15 x16 y17 lt18 C19 s20 o21;replace h10:=h10.sp s20;replace h11:=h11.sp s20;replace h12:=h12.sp s20;replace h13:=h13.sp s20;refine Oa (Nl (Rg (Oa (Nl (Rh (Oa (Nl (W.block (J3g (fun μ f v=>∃ (x y:Nat→Prop) (i:Nat) (z:Nat),Cx X w x y v∧f 1=(.int .i64 ((m:Nat):Int))∧f 2=(.pointer (some ⟨g14,0,none⟩))∧f 4=(.int .i64 0)∧f 6=(.int .i64 ((i:Nat):Int))∧f 5=(.int .i64 ((z:Nat):Int))∧RS Zq x v (.slice a1 a.n.length c2) a.n∧RS Jc x v (.slice a3 a.c.num.mag.length c4) a.c.num.mag∧RS Jc x v (.slice a5 a.c.den.mag.length c6) a.c.den.mag∧RS Jm x v (.slice a7 a.args.length c8) a.args∧Own w y v g14 [(.int .i64 a.op),(.slice a1 a.n.length c2),(.bool a.c.num.neg),(.slice a3 a.c.num.mag.length c4),(.bool a.c.den.neg),(.slice a5 a.c.den.mag.length c6),(str a.name),(.slice a7 a.args.length c8)] 31∧i≤a.args.length∧z=min (1+cntL (a.args.take i)) (m+1)∧μ=(a.args.length - i)) _ ⟨_,_,0,1,C19,rfl,rfl,rfl,rfl,rfl,h10,h11,h12,h13,o21,(Nat.zero_le _),(by rw [List.take_zero,cntL];omega),rfl⟩ ?_)))))))));rintro m34 f22 w23 ⟨x24,y25,i,z,C26,e27,e28,e29,e30,e31,h10,h11,h12,h13,o32,hi,hz,hmu33⟩;obtain⟨f35,rfl⟩:=rebK (aC e27 (aC e28 (aC e29 (aC e30 (aC e31 aN)))));clear e27 e28 e29 e30 e31;refine Rh (Om (O rfl (St.fieldAddr Zl rfl (O rfl (J20 o32 pl29 rfl rfl (O rfl (St.len sl29 rfl (O rfl (J3c rfl rfl (fun hc36=>?_) (fun hc36=>?_))))))))))
  ·refine Om (Og rfl rfl (St.move (Og rfl rfl (St.move (Og rfl rfl (J34 rfl rfl (fun hc37=>?_) (fun hc37=>?_)))))))
   ·refine OT (Nl (J2z rfl (W.skip (W.seq (W.block (W.region (Om (O rfl (St.fieldAddr Zl rfl (O rfl (J20 o32 pl29 rfl rfl (Om (O rfl (J3d (j:=i) (u:=(a.args.getD i default)) h13 sl29 io31 rfl rfl rfl (Jg (by omega)) ?_))))))))))))));intro b38 o39 cs40 e41;obtain⟨a42,c43,a44,c45,a46,c47,a48,c49,rfl,h50⟩:=J1 e41.rd;have h51:=h50.n;have h52:=h50.num;have h53:=h50.den;have h54:=h50.args;refine O rfl (J3w (cs:=[(.int .i64 (a.args.getD i default).op),(.slice a42 (a.args.getD i default).n.length c43),(.bool (a.args.getD i default).c.num.neg),(.slice a44 (a.args.getD i default).c.num.mag.length c45),(.bool (a.args.getD i default).c.den.neg),(.slice a46 (a.args.getD i default).c.den.mag.length c47),(str (a.args.getD i default).name),(.slice a48 (a.args.getD i default).args.length c49)]) ag31 rfl rfl e41.cell ?_);refine Om (Om (O rfl (St.sub rfl rfl (Zu (a:=m) (b:=z) (by omega) (by omega)) (O rfl (J2y C26 cb51 rfl rfl (ih C26.bd (Jz (a.args.getD i default) h50.lo h50.hi h50.name h51 h52 h53 h54) (m:=m - z) (by omega) (Nat.lt_of_lt_of_le (Qv (by omega)) (Nat.le_of_lt_succ hN))) ?_)))));intro v55 w56 C57 s58 h59;replace h10:=h10.sp s58;replace h11:=h11.sp s58;replace h12:=h12.sp s58;replace h13:=h13.sp s58;replace o32:=o32.spn s58;subst h59;refine O rfl (St.add rfl rfl (Jd (a:=z) (b:=(min (cntE (a.args.getD i default)) ((m - z)+1))) (by omega)) (Oa (Nl (W.region (Om (O rfl (St.add rfl rfl (Jd (a:=i) (b:=1) (by omega)) (Oa (Nl (⟨_,(by omega),_,_,(i+1),z+(min (cntE (a.args.getD i default)) ((m - z)+1)),C57,rfl,rfl,rfl,rfl,rfl,h10,h11,h12,h13,o32,(by omega),(Jr1 (by omega) hz (by omega)),rfl⟩))))))))))
   exact OT (Nl (J21 rfl (W.exit (Rg (Om (Oa (Nl (W.ret (Je rfl (resV.t rfl) (Ret.intro (congrArg (Value.int _) (congrArg _ (Jvj (by omega) hz))) C26.below))))))))))
  exact Om (Ox rfl rfl rfl (Ox rfl rfl rfl (Ox rfl rfl rfl (OF (Nl (J21 rfl (W.exit (Rg (Om (Oa (Nl (W.ret (Je rfl (resV.t rfl) (Ret.intro (congrArg (Value.int _) (congrArg _ (Jt1 (by omega) hz))) C26.below))))))))))))))
theorem Jkh{X:Nat→Prop}{w:World}(hX:∀ b,X b→b < w.heap.size){v0:Value}{a:GExpr}(r0:RV Jm X w v0 a){m:Nat}(hm:m≤1000):Calls Tryz.prog 51 #[v0,(.int .i64 ((m:Nat):Int))] w (Ret w fun v w'=>v=(.int .i64 (((min (cntE a) (m+1)):Nat):Int))):=Jkm ((SizeOf.sizeOf a)+1) hX r0 hm (Nat.lt_succ_self _)
theorem Jwn{X:Nat→Prop}{w:World}(hX:∀ b,X b→b < w.heap.size){v0:Value}{a:GExpr}(r0:RV Jm X w v0 a){m:Nat}(hm:m≤1000):Calls Tryz.prog 36 #[v0,(.int .i64 ((m:Nat):Int))] w (Ret w fun v w'=>v=(.bool (decide (cntE a≤m)))):=by
 obtain⟨a1,c2,a3,c4,a5,c6,a7,c8,rfl,h9⟩:=J3k r0;have h10:=h9.n;have h11:=h9.num;have h12:=h9.den;have h13:=h9.args;have C:=J25 hX;refine J24 (args:=[(.agg #[(.int .i64 a.op),(.slice a1 a.n.length c2),(.bool a.c.num.neg),(.slice a3 a.c.num.mag.length c4),(.bool a.c.den.neg),(.slice a5 a.c.den.mag.length c6),(str a.name),(.slice a7 a.args.length c8)]),(.int .i64 ((m:Nat):Int))]) Tryz.func36 rfl rfl (Nat.le_of_ble_eq_true rfl) (Rg (O rfl (J3a C rfl ?_)));intro g14 w15 x16 y17 lt18 C19 s20 o21;replace h10:=h10.sp s20;replace h11:=h11.sp s20;replace h12:=h12.sp s20;replace h13:=h13.sp s20;refine Oa (Nl (Rg (O rfl (J22 (vs:=[(.int .i64 a.op),(.slice a1 a.n.length c2),(.bool a.c.num.neg),(.slice a3 a.c.num.mag.length c4),(.bool a.c.den.neg),(.slice a5 a.c.den.mag.length c6),(str a.name),(.slice a7 a.args.length c8)]) o21 ag31 rfl rfl rfl (Om (O rfl (J2y C19 cb51 rfl rfl (Jkh C19.bd (Jz a h9.lo h9.hi h9.name h10 h11 h12 h13) (m:=m) hm) ?_)))))));intro v22 w23 C24 s25 h26;subst h26;exact Om (O rfl (St.leq rfl rfl rfl (Oa (Nl (W.ret (Je rfl (resV.t rfl) (Ret.intro (congrArg (Value.bool) (decide_eq_decide.2 (by omega))) C24.below)))))))
theorem Jg0{X:Nat→Prop}{w:World}(hX:∀ b,X b→b < w.heap.size){v0:Value}{a:GExpr}(r0:RV Jm X w v0 a)  :Calls Tryz.prog 13 #[v0] w (Ret w fun v w'=>∃ b:Bool,v= .bool b∧(b=true→(Zo a=true∧cntE a≤80))):=by
 obtain⟨a1,c2,a3,c4,a5,c6,a7,c8,rfl,h9⟩:=J3k r0;have h10:=h9.n;have h11:=h9.num;have h12:=h9.den;have h13:=h9.args;have C:=J25 hX;refine J24 (args:=[(.agg #[(.int .i64 a.op),(.slice a1 a.n.length c2),(.bool a.c.num.neg),(.slice a3 a.c.num.mag.length c4),(.bool a.c.den.neg),(.slice a5 a.c.den.mag.length c6),(str a.name),(.slice a7 a.args.length c8)])]) Tryz.func13 rfl rfl (Nat.le_of_ble_eq_true rfl) (Rg (O rfl (J3a C rfl ?_)));intro g14 w15 x16 y17 lt18 C19 s20 o21;replace h10:=h10.sp s20;replace h11:=h11.sp s20;replace h12:=h12.sp s20;replace h13:=h13.sp s20;refine Oa (Nl (Rg (O rfl (J22 (vs:=[(.int .i64 a.op),(.slice a1 a.n.length c2),(.bool a.c.num.neg),(.slice a3 a.c.num.mag.length c4),(.bool a.c.den.neg),(.slice a5 a.c.den.mag.length c6),(str a.name),(.slice a7 a.args.length c8)]) o21 ag31 rfl rfl rfl (O rfl (St.bool (J2y C19 cb36 rfl rfl (Jwn C19.bd (Jz a h9.lo h9.hi h9.name h10 h11 h12 h13) (m:=80) (by omega)) ?_)))))));intro v22 w23 C24 s25 h26;replace h10:=h10.sp s25;replace h11:=h11.sp s25;replace h12:=h12.sp s25;replace h13:=h13.sp s25;replace o21:=o21.spn s25;refine⟨_,h26,fun hb27=>?_,fun hb27=>?_⟩
 ·refine Om (Og rfl rfl (J22 (vs:=[(.int .i64 a.op),(.slice a1 a.n.length c2),(.bool a.c.num.neg),(.slice a3 a.c.num.mag.length c4),(.bool a.c.den.neg),(.slice a5 a.c.den.mag.length c6),(str a.name),(.slice a7 a.args.length c8)]) o21 ag31 rfl rfl rfl (Og rfl rfl (St.bool (J2y C24 cb37 rfl rfl (Jvf C24.bd (Jz a h9.lo h9.hi h9.name h10 h11 h12 h13)) ?_)))));intro v28 w29 C30 s31 h32;replace h10:=h10.sp s31;replace h11:=h11.sp s31;replace h12:=h12.sp s31;replace h13:=h13.sp s31;replace o21:=o21.spn s31;refine⟨_,h32,fun hb33=>?_,fun hb33=>?_⟩
  ·refine OT (Om (Og rfl rfl (J22 (vs:=[(.int .i64 a.op),(.slice a1 a.n.length c2),(.bool a.c.num.neg),(.slice a3 a.c.num.mag.length c4),(.bool a.c.den.neg),(.slice a5 a.c.den.mag.length c6),(str a.name),(.slice a7 a.args.length c8)]) o21 ag31 rfl rfl rfl (Og rfl rfl (J2y C30 cb38 rfl rfl (Juy C30.bd (Jz a h9.lo h9.hi h9.name h10 h11 h12 h13) hb33) ?_)))));intro v34 w35 C36 s37 h38;obtain⟨z39,rfl⟩:=h38;exact Og rfl rfl (St.leq rfl rfl rfl (OT (Oa (Nl (W.ret (Je rfl (resV.t rfl) (Ret.intro (⟨_,rfl,fun _=>⟨hb33,of_decide_eq_true hb27⟩⟩) C36.below)))))))
  exact OT (Om (Ox rfl rfl rfl (Ox rfl rfl rfl (Ox rfl rfl rfl (OF (Oa (Nl (W.ret (Je rfl (resV.t rfl) (Ret.intro ⟨_,rfl,fun e=>by cases e⟩ C30.below))))))))))
 exact Om (Ox rfl rfl rfl (Ox rfl rfl rfl (OF (Om (Ox rfl rfl rfl (Ox rfl rfl rfl (Ox rfl rfl rfl (OF (Oa (Nl (W.ret (Je rfl (resV.t rfl) (Ret.intro ⟨_,rfl,fun e=>by cases e⟩ C24.below)))))))))))))
theorem Jsy(N:Nat):∀ {X:Nat→Prop} {w:World} (hX:∀ b,X b→b < w.heap.size) {v0:Value} {a:GExpr} (r0:RV Jm X w v0 a) (hm:cntE a≤10000) (hN:(SizeOf.sizeOf a) < N),Calls Tryz.prog 52 #[v0] w (Ret w fun v w'=>v=(.int .i64 (((lvlE a):Nat):Int))):=by
 induction N with
 | zero=>intro X w hX v0 a r0 hm hN;exact absurd hN (Nat.not_lt_zero _)
 | succ N ih=>
  intro X w hX v0 a r0 hm hN;obtain⟨a1,c2,a3,c4,a5,c6,a7,c8,rfl,h9⟩:=J3k r0;have h10:=h9.n;have h11:=h9.num;have h12:=h9.den;have h13:=h9.args;have C:=J25 hX;have hal:=r0.args_max;have hce:=Xx a;have hle:=Jxa a;have hlq:=Jel a;refine J24 (args:=[(.agg #[(.int .i64 a.op),(.slice a1 a.n.length c2),(.bool a.c.num.neg),(.slice a3 a.c.num.mag.length c4),(.bool a.c.den.neg),(.slice a5 a.c.den.mag.length c6),(str a.name),(.slice a7 a.args.length c8)])]) Tryz.func52 rfl rfl (Nat.le_of_ble_eq_true rfl) (Rg (O rfl (J3a C rfl ?_)));intro g14 w15 x16 y17 lt18 C19 s20 o21;replace h10:=h10.sp s20;replace h11:=h11.sp s20;replace h12:=h12.sp s20;replace h13:=h13.sp s20;refine Oa (Nl (Rg (Oa (Nl (Rh (Oa (Nl (W.block (J3g (fun μ f v=>∃ (x y:Nat→Prop) (i:Nat) (z:Nat),Cx X w x y v∧f 1=(.pointer (some ⟨g14,0,none⟩))∧f 2=(.int .i64 0)∧f 4=(.int .i64 ((i:Nat):Int))∧f 3=(.int .i64 ((z:Nat):Int))∧RS Zq x v (.slice a1 a.n.length c2) a.n∧RS Jc x v (.slice a3 a.c.num.mag.length c4) a.c.num.mag∧RS Jc x v (.slice a5 a.c.den.mag.length c6) a.c.den.mag∧RS Jm x v (.slice a7 a.args.length c8) a.args∧Own w y v g14 [(.int .i64 a.op),(.slice a1 a.n.length c2),(.bool a.c.num.neg),(.slice a3 a.c.num.mag.length c4),(.bool a.c.den.neg),(.slice a5 a.c.den.mag.length c6),(str a.name),(.slice a7 a.args.length c8)] 31∧i≤a.args.length∧z=lvlL (a.args.take i)∧μ=(a.args.length - i)) _ ⟨_,_,0,0,C19,rfl,rfl,rfl,rfl,h10,h11,h12,h13,o21,(Nat.zero_le _),(by rw [List.take_zero,lvlL]),rfl⟩ ?_)))))))));rintro m33 f22 w23 ⟨x24,y25,i,z,C26,e27,e28,e29,e30,h10,h11,h12,h13,o31,hi,hz,hmu32⟩;obtain⟨f34,rfl⟩:=rebK (aC e27 (aC e28 (aC e29 (aC e30 aN))));clear e27 e28 e29 e30;refine Rh (Om (O rfl (St.fieldAddr Zl rfl (O rfl (J20 o31 pl29 rfl rfl (O rfl (St.len sl29 rfl (O rfl (J3c rfl rfl (fun hc35=>?_) (fun hc35=>?_))))))))))
  ·refine Nl (J2z rfl (W.skip (W.seq (W.block (W.region (Om (O rfl (St.fieldAddr Zl rfl (O rfl (J20 o31 pl29 rfl rfl (Om (O rfl (J3d (j:=i) (u:=(a.args.getD i default)) h13 sl29 io31 rfl rfl rfl (Jg (by omega)) ?_)))))))))))));intro b36 o37 cs38 e39;obtain⟨a40,c41,a42,c43,a44,c45,a46,c47,rfl,h48⟩:=J1 e39.rd;have h49:=h48.n;have h50:=h48.num;have h51:=h48.den;have h52:=h48.args;refine O rfl (J3w (cs:=[(.int .i64 (a.args.getD i default).op),(.slice a40 (a.args.getD i default).n.length c41),(.bool (a.args.getD i default).c.num.neg),(.slice a42 (a.args.getD i default).c.num.mag.length c43),(.bool (a.args.getD i default).c.den.neg),(.slice a44 (a.args.getD i default).c.den.mag.length c45),(str (a.args.getD i default).name),(.slice a46 (a.args.getD i default).args.length c47)]) ag31 rfl rfl e39.cell ?_);refine O rfl (J2y C26 cb52 rfl rfl (ih C26.bd (Jz (a.args.getD i default) h48.lo h48.hi h48.name h49 h50 h51 h52) (by have h7:=Jgc (l:=a.args) (i:=i) (by omega);omega) (Nat.lt_of_lt_of_le (Qv (by omega)) (Nat.le_of_lt_succ hN))) ?_);intro v53 w54 C55 s56 h57;replace h10:=h10.sp s56;replace h11:=h11.sp s56;replace h12:=h12.sp s56;replace h13:=h13.sp s56;replace o31:=o31.spn s56;subst h57;refine O rfl (St.max rfl rfl (by split <;> omega) (Oa (Nl (W.region (Om (O rfl (St.add rfl rfl (Jd (a:=i) (b:=1) (by omega)) (Oa (Nl (⟨_,(by omega),_,_,(i+1),max z (lvlE (a.args.getD i default)),C55,rfl,rfl,rfl,rfl,h10,h11,h12,h13,o31,(by omega),(Juc (by omega) hz),rfl⟩))))))))))
  exact Nl (J21 rfl (W.exit (Rg (Om (O rfl (St.add rfl rfl (Jd (a:=z) (b:=1) (by have h7:=Jp5 (a:=a) (by omega) hz;omega)) (Oa (Nl (W.ret (Je rfl (resV.t rfl) (Ret.intro (congrArg (Value.int _) (congrArg _ (Jp5 (by omega) hz))) C26.below)))))))))))
theorem x_lvl{X:Nat→Prop}{w:World}(hX:∀ b,X b→b < w.heap.size){v0:Value}{a:GExpr}(r0:RV Jm X w v0 a)(hm:cntE a≤10000):Calls Tryz.prog 52 #[v0] w (Ret w fun v w'=>v=(.int .i64 (((lvlE a):Nat):Int))):=Jsy ((SizeOf.sizeOf a)+1) hX r0 hm (Nat.lt_succ_self _)
theorem Jus(N:Nat):∀ {X:Nat→Prop} {w:World} (hX:∀ b,X b→b < w.heap.size) {v0:Value} {a:GExpr} (r0:RV Jm X w v0 a) {g k:Nat} (hB:Blk w g [.int .i64 ((k:Nat):Int)] 3) (hXg:X g) {lv:Nat} (hk:k≤60) (hv:lv≤13) (hN:(SizeOf.sizeOf a) < N),Calls Tryz.prog 79 #[v0,(.pointer (some ⟨g,0,none⟩)),(.int .i64 ((lv:Nat):Int))] w (RetM w g fun v w'=>v=(.bool ((pszE a k lv).2))∧Blk w' g [.int .i64 (((pszE a k lv).1:Nat):Int)] 3):=by
 induction N with
 | zero=>intro X w hX v0 a r0 g k hB hXg lv hk hv hN;exact absurd hN (Nat.not_lt_zero _)
 | succ N ih=>
  intro X w hX v0 a r0 g k hB hXg lv hk hv hN;obtain⟨a1,c2,a3,c4,a5,c6,a7,c8,rfl,h9⟩:=J3k r0;have h10:=h9.n;have h11:=h9.num;have h12:=h9.den;have h13:=h9.args;have C:=J4k g hX hXg;have o0:=J4f hB;have hal:=r0.args_max;refine J24 (args:=[(.agg #[(.int .i64 a.op),(.slice a1 a.n.length c2),(.bool a.c.num.neg),(.slice a3 a.c.num.mag.length c4),(.bool a.c.den.neg),(.slice a5 a.c.den.mag.length c6),(str a.name),(.slice a7 a.args.length c8)]),(.pointer (some ⟨g,0,none⟩)),(.int .i64 ((lv:Nat):Int))]) Tryz.func79 rfl rfl (Nat.le_of_ble_eq_true rfl) (Rg (O rfl (J3a C rfl ?_)));intro g14 w15 x16 y17 lt18 C19 s20 o21;have n22:=lt18 _ o0.blk.lt;replace o0:=o0.spn s20;refine Oa (Nl (Rg (Om (O rfl (St.nilCheck rfl (O rfl (J20 o0 pl3 rfl rfl (O rfl (St.add rfl rfl (Jd (a:=k) (b:=1) (by omega)) (O rfl (St.nilCheck rfl (On (J23 (cs':=[(.int .i64 ((k+1:Nat):Int))]) C19 o0 io3 rfl rfl rfl rfl rfl rfl ?_)))))))))))));intro w23 C24 s25 o26;replace h10:=(h10.sp s20).sp s25;replace h11:=(h11.sp s20).sp s25;replace h12:=(h12.sp s20).sp s25;replace h13:=(h13.sp s20).sp s25;replace o21:=o21.spo s25 (Ne.symm n22);refine Nl (Rh (Om (O rfl (St.nilCheck rfl (O rfl (J20 o26 pl3 rfl rfl (O rfl (J3m rfl rfl (fun hc27=>?_) (fun hc27=>?_)))))))))
  ·refine Om (Ox rfl rfl rfl (Ox rfl rfl rfl (OT (Nl (J2z rfl (Rg (Oa (Nl (W.ret (Je rfl (resV.t rfl) (RetM.intro ⟨?_,?_⟩ C24.below)))))))))))
   ·exact congrArg (Value.bool) (congrArg Prod.snd (Jgn (a:=a) (by omega)))
   have hh:=o26.blk;rw [show k+1=(pszE a k lv).1 from congrArg Prod.fst (Jgn (a:=a) (by omega))] at hh;exact hh
  refine Om (Og rfl rfl (St.move (Og rfl rfl (J3m rfl rfl (fun hc28=>?_) (fun hc28=>?_)))))
  ·refine OF (Nl (J2z rfl (Rg (Oa (Nl (W.ret (Je rfl (resV.t rfl) (RetM.intro ⟨?_,?_⟩ C24.below))))))))
   ·exact congrArg (Value.bool) (congrArg Prod.snd (Jgn (a:=a) (by omega)))
   have hh:=o26.blk;rw [show k+1=(pszE a k lv).1 from congrArg Prod.fst (Jgn (a:=a) (by omega))] at hh;exact hh
  refine OF (Nl (J21 rfl (W.skip (Rh (O rfl (St.fieldAddr Zl rfl (O rfl (J20 o21 pl29 rfl rfl (O rfl (St.len sl29 rfl (Om (Nl (W.block (J3g (fun μ f v=>∃ (x y:Nat→Prop) (i:Nat) (kk:Nat),Cx X ⟨w,(· =g)⟩ x y v∧f 1=(.pointer (some ⟨g,0,none⟩))∧f 2=(.int .i64 ((lv:Nat):Int))∧f 23=(.slice a7 a.args.length c8)∧f 24=(.int .i64 ((a.args.length:Nat):Int))∧f 25=(.int .i64 ((i:Nat):Int))∧RS Zq x v (.slice a1 a.n.length c2) a.n∧RS Jc x v (.slice a3 a.c.num.mag.length c4) a.c.num.mag∧RS Jc x v (.slice a5 a.c.den.mag.length c6) a.c.den.mag∧RS Jm x v (.slice a7 a.args.length c8) a.args∧Own ⟨w,(· =g)⟩ y v g [(.int .i64 ((kk:Nat):Int))] 3∧Own ⟨w,(· =g)⟩ y v g14 [(.int .i64 a.op),(.slice a1 a.n.length c2),(.bool a.c.num.neg),(.slice a3 a.c.num.mag.length c4),(.bool a.c.den.neg),(.slice a5 a.c.den.mag.length c6),(str a.name),(.slice a7 a.args.length c8)] 31∧i≤a.args.length∧pszL (a.args.drop i) kk (lv+1)=pszL a.args (k+1) (lv+1)∧kk≤60∧μ=(a.args.length - i)) _ ⟨_,_,0,(k+1),C24,rfl,rfl,rfl,rfl,rfl,h10,h11,h12,h13,o26,o21,(Nat.zero_le _),rfl,(by omega),rfl⟩ ?_))))))))))))));rintro m42 f29 w30 ⟨x31,y32,i,kk,C33,e34,e35,e36,e37,e38,h10,h11,h12,h13,o39,o40,hi,hR,hkk,hmu41⟩;obtain⟨f43,rfl⟩:=rebK (aC e34 (aC e35 (aC e36 (aC e37 (aC e38 aN)))));clear e34 e35 e36 e37 e38;refine Rg (O rfl (J3c rfl rfl (fun hc44=>?_) (fun hc44=>?_)))
  ·refine Nl (W.seq (J2z rfl (W.skip (W.seq (W.block (Rg (O rfl (J3d (j:=i) (u:=(a.args.getD i default)) h13 sl29 io31 rfl rfl rfl (Jg (by omega)) ?_))))))));intro b45 o46 cs47 e48;obtain⟨a49,c50,a51,c52,a53,c54,a55,c56,rfl,h57⟩:=J1 e48.rd;have h58:=h57.n;have h59:=h57.num;have h60:=h57.den;have h61:=h57.args;refine O rfl (J3w (cs:=[(.int .i64 (a.args.getD i default).op),(.slice a49 (a.args.getD i default).n.length c50),(.bool (a.args.getD i default).c.num.neg),(.slice a51 (a.args.getD i default).c.num.mag.length c52),(.bool (a.args.getD i default).c.den.neg),(.slice a53 (a.args.getD i default).c.den.mag.length c54),(str (a.args.getD i default).name),(.slice a55 (a.args.getD i default).args.length c56)]) ag31 rfl rfl e48.cell ?_);refine O rfl (J26 C33 io31 rfl ?_);intro g62 w63 x64 y65 lt66 C67 s68 o69;have n70:=lt66 _ o39.blk.lt;have n71:=lt66 _ o40.blk.lt;replace h10:=h10.sp s68;replace h11:=h11.sp s68;replace h12:=h12.sp s68;replace h13:=h13.sp s68;replace o40:=o40.spn s68;refine On (J23 (cs':=[(.int .i64 (a.args.getD i default).op),(.slice a49 (a.args.getD i default).n.length c50),(.bool (a.args.getD i default).c.num.neg),(.slice a51 (a.args.getD i default).c.num.mag.length c52),(.bool (a.args.getD i default).c.den.neg),(.slice a53 (a.args.getD i default).c.den.mag.length c54),(str (a.args.getD i default).name),(.slice a55 (a.args.getD i default).args.length c56)]) C67 o69 io31 rfl rfl rfl rfl rfl rfl ?_);intro w72 C73 s74 o75;replace h58:=(h58.sp s68).sp s74;replace h59:=(h59.sp s68).sp s74;replace h60:=(h60.sp s68).sp s74;replace h61:=(h61.sp s68).sp s74;replace o39:=(o39.spn s68).spo s74 n70;refine Nl (Rg (O rfl (J22 (vs:=[(.int .i64 (a.args.getD i default).op),(.slice a49 (a.args.getD i default).n.length c50),(.bool (a.args.getD i default).c.num.neg),(.slice a51 (a.args.getD i default).c.num.mag.length c52),(.bool (a.args.getD i default).c.den.neg),(.slice a53 (a.args.getD i default).c.den.mag.length c54),(str (a.args.getD i default).name),(.slice a55 (a.args.getD i default).args.length c56)]) o75 ag31 rfl rfl rfl ?_)));refine Om (Om (O rfl (St.add rfl rfl (Jd (a:=lv) (b:=1) (by omega)) (O rfl (St.bool (J4h C73 o39 cb79 rfl rfl (ih C73.bd (Jz (a.args.getD i default) h57.lo h57.hi h57.name h58 h59 h60 h61) (k:=kk) o39.blk (C73.yx _ o39.mem) (lv:=lv+1) hkk (by omega) (Nat.lt_of_lt_of_le (Qv (by omega)) (Nat.le_of_lt_succ hN))) ?_))))));intro v76 w77 C78 s79 o80 h81;replace h10:=(h10.sp s74).sp s79;replace h11:=(h11.sp s74).sp s79;replace h12:=(h12.sp s74).sp s79;replace h13:=(h13.sp s74).sp s79;replace o40:=(o40.spo s74 n71).spo s79 (Ne.symm n22);refine⟨_,h81,fun hb82=>?_,fun hb82=>?_⟩
   ·refine O rfl (St.not rfl (Nl (J21 rfl (W.skip (W.region (O rfl (St.add rfl rfl (Jd (a:=i) (b:=1) (by omega)) (Om (Nl (⟨_,(by omega),_,_,(i+1),(pszE (a.args.getD i default) kk (lv+1)).1,C78,rfl,rfl,rfl,rfl,rfl,h10,h11,h12,h13,o80,o40,(by omega),(Jpb (by omega) hR hb82),(pr_le hkk hb82),rfl⟩))))))))))
   refine O rfl (St.not rfl (Nl (J2z rfl (Rg (Oa (Nl (W.ret (Je rfl (resV.t rfl) (RetM.intro ⟨?_,?_⟩ C78.below)))))))))
   ·exact congrArg (Value.bool) ((by rw [← (Jk2 (by omega) (by omega) hR hb82)];exact hb82.symm))
   have hh:=o80.blk;rw [show(pszE (a.args.getD i default) kk (lv+1)).1=(pszE a k lv).1 from congrArg Prod.fst (Jk2 (by omega) (by omega) hR hb82)] at hh;exact hh
  refine Nl (W.seq (J21 rfl (W.exit (Rg (Oa (Nl (W.ret (Je rfl (resV.t rfl) (RetM.intro ⟨?_,?_⟩ C33.below)))))))))
  ·exact congrArg (Value.bool) (congrArg Prod.snd (Jq6 (a:=a) (k:=k) (v:=lv) (by omega) (by omega) hR))
  have hh:=o39.blk;rw [show kk=(pszE a k lv).1 from congrArg Prod.fst (Jq6 (a:=a) (k:=k) (v:=lv) (by omega) (by omega) hR)] at hh;exact hh
theorem c_psz{X:Nat→Prop}{w:World}(hX:∀ b,X b→b < w.heap.size){v0:Value}{a:GExpr}(r0:RV Jm X w v0 a){g k:Nat}(hB:Blk w g [.int .i64 ((k:Nat):Int)] 3)(hXg:X g){lv:Nat}(hk:k≤60)(hv:lv≤13):Calls Tryz.prog 79 #[v0,(.pointer (some ⟨g,0,none⟩)),(.int .i64 ((lv:Nat):Int))] w (RetM w g fun v w'=>v=(.bool ((pszE a k lv).2))∧Blk w' g [.int .i64 (((pszE a k lv).1:Nat):Int)] 3):=Jus ((SizeOf.sizeOf a)+1) hX r0 hB hXg hk hv (Nat.lt_succ_self _)
theorem Jr5{X:Nat→Prop}{w:World}(hX:∀ b,X b→b < w.heap.size){v0:Value}{a:GExpr}(r0:RV Jm X w v0 a)  :Calls Tryz.prog 49 #[v0] w (Ret w fun v w'=>v=(.bool (decide (cntE a≤60∧lvlE a≤12)))):=by
 obtain⟨a1,c2,a3,c4,a5,c6,a7,c8,rfl,h9⟩:=J3k r0;have h10:=h9.n;have h11:=h9.num;have h12:=h9.den;have h13:=h9.args;have C:=J25 hX;refine J24 (args:=[(.agg #[(.int .i64 a.op),(.slice a1 a.n.length c2),(.bool a.c.num.neg),(.slice a3 a.c.num.mag.length c4),(.bool a.c.den.neg),(.slice a5 a.c.den.mag.length c6),(str a.name),(.slice a7 a.args.length c8)])]) Tryz.func49 rfl rfl (Nat.le_of_ble_eq_true rfl) (Rg (O rfl (J3a C rfl ?_)));intro g14 w15 x16 y17 lt18 C19 s20 o21;replace h10:=h10.sp s20;replace h11:=h11.sp s20;replace h12:=h12.sp s20;replace h13:=h13.sp s20;refine Oa (Nl (Rg (O rfl (J26 C19 io3 rfl ?_))));intro g22 w23 x24 y25 lt26 C27 s28 o29;have n30:=lt26 _ o21.blk.lt;refine On (J23 (cs':=[(.int .i64 0)]) C27 o29 io3 rfl rfl rfl rfl rfl rfl ?_);intro w31 C32 s33 o34;replace h10:=(h10.sp s28).sp s33;replace h11:=(h11.sp s28).sp s33;replace h12:=(h12.sp s28).sp s33;replace h13:=(h13.sp s28).sp s33;replace o21:=(o21.spn s28).spo s33 n30;refine Nl (Rg (O rfl (J22 (vs:=[(.int .i64 a.op),(.slice a1 a.n.length c2),(.bool a.c.num.neg),(.slice a3 a.c.num.mag.length c4),(.bool a.c.den.neg),(.slice a5 a.c.den.mag.length c6),(str a.name),(.slice a7 a.args.length c8)]) o21 ag31 rfl rfl rfl (O rfl (J4h C32 o34 cb79 rfl rfl (c_psz C32.bd (Jz a h9.lo h9.hi h9.name h10 h11 h12 h13) (k:=0) o34.blk (C32.yx _ o34.mem) (lv:=1) (by omega) (by omega)) ?_)))));intro v35 w36 C37 s38 o39 h40;subst h40;exact Oa (Nl (W.ret (Je rfl (resV.t rfl) (Ret.intro (congrArg (Value.bool) (Jh2 a)) C37.below))))
end Go.Wf
namespace Go.Wf
open Go Go.RowKit
section
variable {fc:Fence} [Fw fc] {P:Program} {ops:Array Oper} {n:Nat} {D:List Deferred} {Q:Post} {f0:Fr} {w0:World}
def Jlu{σ:Type}(P:Program)(ops:Array Oper)(Q:Post)(R R0:σ→World→σ→World→Prop)(N:σ→World→Prop)(q:Nat)(Gl:List (σ→Value→World→Prop))(f:Fr)(s:σ)(w:World):List Oper→List (List Nat)→Nat→Prop
 | o::l,d::dl,k=>
  (Deps ops Gl f s w d→(Nat.beq k q=true→N s w)→OpSt P ops f o w (fun v w'=>∃ s',(bif Nat.beq k q then R else R0) s w s' w'∧(Gl.getD k noG) s' v w') (fun ch w'=>∀ f,Q (.panic ch) f w'))∧Jlu P ops Q R R0 N q Gl f s w l dl (k+1)
 | _,_,_=>True
def Je6{σ:Type}(R R0:σ→World→σ→World→Prop)(q:Nat):List (σ→Value→World→Prop)→Nat→Prop
 | [],_=>True
 | g::r,k=>(∀ v s w s' w',g s v w→(bif Nat.beq k q then R0 else R) s w s' w'→g s' v w')∧Je6 R R0 q r (k+1)
theorem Je6.at{σ:Type}{R R0:σ→World→σ→World→Prop}{q:Nat}:∀ (Gl:List (σ→Value→World→Prop)) (k:Nat),Je6 R R0 q Gl k→∀ j v s w s' w',(Gl.getD j noG) s v w→(bif Nat.beq (k+j) q then R0 else R) s w s' w'→(Gl.getD j noG) s' v w':=by
 intro Gl
 induction Gl with
 | nil=>intro k _ j v s w s' w' _ _;simp [List.getD,noG]
 | cons g r ih=>
  intro k h j v s w s' w' hg hr
  cases j with
  | zero=>exact h.1 v s w s' w' hg hr
  | succ j=>exact ih (k+1) h.2 j v s w s' w' hg (by rw [show k+1+j=k+(j+1) by omega];exact hr)
theorem Jlu.at{σ:Type}{R R0:σ→World→σ→World→Prop}{N:σ→World→Prop}{q:Nat}{Gl:List (σ→Value→World→Prop)}{f:Fr}{s:σ}{w:World}:∀ (l:List Oper) (dl:List (List Nat)) (k:Nat),Jlu P ops Q R R0 N q Gl f s w l dl k→
  ∀ i o,l[i]? =some o→i < dl.length→Deps ops Gl f s w (dl.getD i [])→(Nat.beq (k+i) q=true→N s w)→
   OpSt P ops f o w (fun v w'=>∃ s',(bif Nat.beq (k+i) q then R else R0) s w s' w'∧(Gl.getD (k+i) noG) s' v w') (fun ch w'=>∀ f,Q (.panic ch) f w'):=by
 intro l
 induction l with
 | nil=>intro dl k _ i o h;simp at h
 | cons x l ih=>
  intro dl k hst i o ho hi
  cases dl with
  | nil=>simp at hi
  | cons d dl=>
   cases i with
   | zero=>simp at ho;subst ho;exact hst.1
   | succ i=>
    have:=ih dl (k+1) hst.2 i o (by simpa using ho) (by simpa using hi)
    intro h3 h4;rw [show k+(i+1)=k+1+i by omega] at h4 ⊢;exact this (by simpa using h3) h4
theorem Ja9{f:Fr}{w:World}{fn:Func}{r s q z:ResultVar}{v u x y:Value}(hr:fn.results= #[r,s,q,z])(h:resV (P:=P) f w r v)(k:resV (P:=P) f w s u)(m:resV (P:=P) f w q x)(l:resV (P:=P) f w z y):∀ tmps:Array Value,(∀ t,tmps.getD t undef=f t)→(results fn tmps).run P w= .ok (.tuple #[v,u,x,y]) w:=by
 intro tmps ht;have h1:=Kr h tmps ht;have h2:=Kr k tmps ht;have h3:=Kr m tmps ht;have h4:=Kr l tmps ht;simp only [K8,hr,List.mapM_toArray,List.mapM_cons,List.mapM_nil,Sem.run_bind,Sem.run_map];rw [h1];simp only [Result.andThen_ok];rw [h2];simp only [Result.andThen_ok];rw [h3];simp only [Result.andThen_ok];rw [h4];simp
theorem Qf{f:Fr}{w:World}{fn:Func}{R:Ending→World→Prop}{r s q z:ResultVar}{v u x y:Value}(hr:fn.results= #[r,s,q,z])(h:resV (P:=P) f w r v)(k:resV (P:=P) f w s u)(m:resV (P:=P) f w q x)(l:resV (P:=P) f w z y)(hR:R (.returned (.tuple #[v,u,x,y])) w):retQ P fn R .ret f w:=⟨_,Ja9 hr h k m l,hR⟩
def RA0(X0:Nat→Prop)(b0:Bs)(s:Gh)(w:World)(s':Gh)(w':World):Prop:=s'=s∧Cx X0 b0 s.1 s.2 w'∧Sp s.1 s.2 w s.1 s.2 w' Zm
structure RA (X0:Nat→Prop) (b0:Bs) (s:Gh) (w:World) (s':Gh) (w':World):Prop where
 cx:Cx X0 b0 s'.1 s'.2 w'
 yy:s'.2=s.2
 ap:Ap s.1 w s'.1 s.2 w'
theorem RA.of{X0:Nat→Prop}{b0:Bs}:∀ (s:Gh) (a:World) (t:Gh) (b:World),RA0 X0 b0 s a t b→RA X0 b0 s a t b:=by
 rintro s a _ b ⟨rfl,c,p⟩;exact⟨c,rfl,p.tx,fun g hg hy=>p.same g hg id⟩
theorem RA.trans{X0:Nat→Prop}{b0:Bs}:∀ (s:Gh) (a:World) (t:Gh) (b:World) (u:Gh) (c:World),RA X0 b0 s a t b→RA X0 b0 t b u c→RA X0 b0 s a u c:=
 fun s a t b u c h k=>⟨k.cx,k.yy.trans h.yy,h.ap.tx.trans k.ap.tx,fun g hg hy=>(k.ap.same g (Nat.lt_of_lt_of_le hg h.ap.tx.size) (by rw [h.yy];exact hy)).trans (h.ap.same g hg hy)⟩
theorem RA0.same{X0:Nat→Prop}{b0:Bs}{s:Gh}{w:World}(C:Cx X0 b0 s.1 s.2 w):RA0 X0 b0 s w s w:=⟨rfl,C,Sp.refl⟩
theorem RA0.go{X0:Nat→Prop}{b0:Bs}{x y:Nat→Prop}{w w':World}(C:Cx X0 b0 x y w')(S:Sp x y w x y w' Zm):RA0 X0 b0 (x,y) w (x,y) w':=⟨rfl,C,S⟩
theorem OS.opn{α:Type}{T:Ty α}{E:TypeId}{b0:Bs}{x y:Nat→Prop}{w:World}{v:Value}{l:List α}(h:OS T E b0 x y w v l):∃ a c,v= .slice a l.length c∧OS T E b0 x y w (.slice a l.length c) l:=by
 obtain⟨a,c,rfl,_,_⟩:=h.len;exact⟨a,c,rfl,h⟩
theorem RA.step{X0:Nat→Prop}{b0:Bs}{s:Gh}{w w':World}{x':Nat→Prop}(C:Cx X0 b0 x' s.2 w')(a:Ap s.1 w x' s.2 w'):RA X0 b0 s w (x',s.2) w':=⟨C,rfl,a⟩
end
end Go.Wf
namespace Go.Wf
open Go
mutual
def okE:GExpr→Prop
 | .mk _ _ c s l=>c.num.mag.length≤1000∧c.den.mag.length≤1000∧s.length≤1000∧okL l
def okL:List GExpr→Prop
 | []=>True
 | a::l=>okE a∧okL l
end
theorem Jf8(a:GExpr):okE a=(a.c.num.mag.length≤1000∧a.c.den.mag.length≤1000∧a.name.length≤1000∧okL a.args):=by cases a;rw [okE];rfl
theorem Jkv:∀ {l:List GExpr},okL l↔∀ i,i < l.length→okE (l.getD i default)
 | []=>⟨fun _ i h=>absurd h (Nat.not_lt_zero _),fun _=>trivial⟩
 | a::l=>by
  rw [okL,Jkv (l:=l)]
  constructor
  ·rintro⟨h1,h2⟩ i hi
   cases i with
   | zero=>exact h1
   | succ i=>exact h2 i (by simp at hi;omega)
  ·intro h;exact⟨h 0 (by simp),fun i hi=>h (i+1) (by simp;omega)⟩
theorem Jp4{a:GExpr}{i:Nat}(h:okE a)(hi:i < a.args.length):okE (a.args.getD i default):=by
 rw [Jf8] at h;exact Jkv.1 h.2.2.2 i hi
theorem Jea:∀ n:Nat,∀ a:GExpr,SizeOf.sizeOf a < n→Zo a=true→okE a:=by
 intro n
 induction n with
 | zero=>intro _ h;exact absurd h (Nat.not_lt_zero _)
 | succ n ih=>
  intro a ha h;obtain⟨_,h2,h3,h4,h5⟩:=Yk.1 h;rw [Jf8];exact⟨by omega,by omega,by omega,Jkv.2 fun i hi=>ih _ (by have:=Qv hi;omega) (h5 i hi)⟩
theorem Jgq{a:GExpr}(h:Zo a=true):okE a:=Jea _ a (Nat.lt_succ_self _) h
theorem xz(a:GExpr):a.args.length < cntE a:=by rw [Xx];have:=Jl6 a.args;omega
theorem RV.n_max{X:Nat→Prop}{w:World}{v:Value}{a:GExpr}(h:RV Jm X w v a):a.n.length≤9223372036854775807:=by
 obtain⟨a1,c1,a2,c2,a3,c3,a4,c4,_,h'⟩:=J3k h;obtain⟨_,_,_,h1,h2⟩:=h'.n.len;have hml:maxLen=9223372036854775807:=rfl;omega
theorem Jox {X:Nat→Prop} {w:World} {s1 s2 s3 s4:Value} (m:GExpr) (g1: -9223372036854775808≤m.op) (g2:m.op≤9223372036854775807) (g3:m.name.length≤maxLen)
  (h1:RS Zq X w s1 m.n) (h2:RS Jc X w s2 m.c.num.mag) (h3:RS Jc X w s3 m.c.den.mag) (h4:RS Jm X w s4 m.args):
  Jm.rd X w [.int .i64 m.op,s1,.bool m.c.num.neg,s2,.bool m.c.den.neg,s3,str m.name,s4] m:=by
 have h:=Jli (b:=m.c.num.neg) (d:=m.c.den.neg) g1 g2 g3 h1 h2 h3 h4
 cases m;exact h
theorem Jxx{a:GExpr}{p:List GExpr}{i:Nat}(hp:p=a.args.take i)(hi:a.args.length≤i):GExpr.mk a.op a.n ⟨⟨a.c.num.neg,a.c.num.mag⟩,⟨a.c.den.neg,a.c.den.mag⟩⟩ a.name p=a:=by
 rw [hp,yw hi];cases a;rfl
theorem Jtp{a:GExpr}{p:List GExpr}{i:Nat}(hp:p=a.args.take i)(hi:i < a.args.length):p++[a.args.getD i default]=a.args.take (i+1):=by
 rw [hp,jx hi]
theorem q8{a:GExpr}(h:¬ (cntE a≤60∧lvlE a≤12)):7=zm a:=by unfold zm;rw [if_neg h]
theorem Jjw{a:GExpr}(h:cntE a≤60∧lvlE a≤12):errE a=zm a:=by unfold zm;rw [if_pos h]
end Go.Wf
namespace Go.Wf
open Go Go.Proofs Go.RowKit
theorem Jtx{X:Nat→Prop}{w:World}(hX:∀ b,X b→b < w.heap.size){n:Int}  :Calls Tryz.prog 120 #[(.int .i64 n)] w (Ret w fun v w'=>∃ v0 v1,v= .tuple #[v0,v1]∧(v0=(.agg #[(.int .i64 (sA n)),(.int .i64 (sB n)),(.int .i64 (sC n))]))∧(v1=(.bool (okOp n)))):=by
 have C:=J25 hX;refine J24 (args:=[(.int .i64 n)]) Tryz.func120 rfl rfl (Nat.le_of_ble_eq_true rfl) (Rg (O rfl (J26 C Xg rfl ?_)));intro g1 w2 x3 y4 lt5 C6 s7 o8;refine Oa (Nl (Rh (Om (Nl (W.block (Rh (O rfl (J3b rfl rfl (fun hc9=>?_) (fun hc9=>?_)))))))))
 ·refine Oa (Nl (J2z rfl (W.skip (J2z rfl (Rg (O rfl (St.build (cs:=[(.int .i64 0),(.int .i64 0),(.int .i64 0)]) rfl (by kernel_rfl) (On (J23 (cs':=[(.int .i64 0),(.int .i64 0),(.int .i64 0)]) C6 o8 Xg rfl rfl rfl rfl rfl rfl ?_)))))))));intro w10 C11 s12 o13;refine Oa (Nl (W.ret (Z4 rfl (resV.c o13 rfl X1 rfl) (resV.t rfl) (Ret.intro ?_ C11.below))));refine⟨_,_,rfl,?_,?_⟩
  ·skip
   exact Kh (by rw [hc9];rfl) (by rw [hc9];rfl) (by rw [hc9];rfl)
  ·skip
   exact congrArg (Value.bool) ((by rw [hc9];rfl))
 refine Oa (Nl (J21 rfl (Rg (O rfl (J3b rfl rfl (fun hc14=>?_) (fun hc14=>?_))))))
 ·refine Oa (Nl (J2z rfl (W.skip (J2z rfl (Rg (O rfl (St.build (cs:=[(.int .i64 0),(.int .i64 0),(.int .i64 0)]) rfl (by kernel_rfl) (On (J23 (cs':=[(.int .i64 0),(.int .i64 0),(.int .i64 0)]) C6 o8 Xg rfl rfl rfl rfl rfl rfl ?_)))))))));intro w15 C16 s17 o18;refine Oa (Nl (W.ret (Z4 rfl (resV.c o18 rfl X1 rfl) (resV.t rfl) (Ret.intro ?_ C16.below))));refine⟨_,_,rfl,?_,?_⟩
  ·skip
   exact Kh (by rw [hc14];rfl) (by rw [hc14];rfl) (by rw [hc14];rfl)
  ·skip
   exact congrArg (Value.bool) ((by rw [hc14];rfl))
 refine Oa (Nl (J21 rfl (Rg (O rfl (J3b rfl rfl (fun hc19=>?_) (fun hc19=>?_))))))
 ·refine Oa (Nl (J2z rfl (W.skip (J2z rfl (Rg (O rfl (St.build (cs:=[(.int .i64 0),(.int .i64 0),(.int .i64 0)]) rfl (by kernel_rfl) (On (J23 (cs':=[(.int .i64 0),(.int .i64 0),(.int .i64 0)]) C6 o8 Xg rfl rfl rfl rfl rfl rfl ?_)))))))));intro w20 C21 s22 o23;refine Oa (Nl (W.ret (Z4 rfl (resV.c o23 rfl X1 rfl) (resV.t rfl) (Ret.intro ?_ C21.below))));refine⟨_,_,rfl,?_,?_⟩
  ·skip
   exact Kh (by rw [hc19];rfl) (by rw [hc19];rfl) (by rw [hc19];rfl)
  ·skip
   exact congrArg (Value.bool) ((by rw [hc19];rfl))
 refine Oa (Nl (J21 rfl (W.region (O rfl (J3b rfl rfl (fun hc24=>?_) (fun hc24=>?_))))))
 ·refine Oa (Nl (J2z rfl (Rg (O rfl (St.build (cs:=[(.int .i64 0),(.int .i64 0),(.int .i64 0)]) rfl (by kernel_rfl) (On (J23 (cs':=[(.int .i64 0),(.int .i64 0),(.int .i64 0)]) C6 o8 Xg rfl rfl rfl rfl rfl rfl ?_)))))));intro w25 C26 s27 o28;refine Oa (Nl (W.ret (Z4 rfl (resV.c o28 rfl X1 rfl) (resV.t rfl) (Ret.intro ?_ C26.below))));refine⟨_,_,rfl,?_,?_⟩
  ·skip
   exact Kh (by rw [hc24];rfl) (by rw [hc24];rfl) (by rw [hc24];rfl)
  ·skip
   exact congrArg (Value.bool) ((by rw [hc24];rfl))
 refine Oa (Nl (J21 rfl (Rg (O rfl (J3b rfl rfl (fun hc29=>?_) (fun hc29=>?_))))))
 ·refine Oa (Nl (J2z rfl (Rg (O rfl (St.build (cs:=[(.int .i64 1),(.int .i64 1),(.int .i64 0)]) rfl (by kernel_rfl) (On (J23 (cs':=[(.int .i64 1),(.int .i64 1),(.int .i64 0)]) C6 o8 Xg rfl rfl rfl rfl rfl rfl ?_)))))));intro w30 C31 s32 o33;refine Oa (Nl (W.ret (Z4 rfl (resV.c o33 rfl X1 rfl) (resV.t rfl) (Ret.intro ?_ C31.below))));refine⟨_,_,rfl,?_,?_⟩
  ·skip
   exact Kh (by rw [hc29];rfl) (by rw [hc29];rfl) (by rw [hc29];rfl)
  ·skip
   exact congrArg (Value.bool) ((by rw [hc29];rfl))
 refine Oa (Nl (J21 rfl (Rh (O rfl (J3b rfl rfl (fun hc34=>?_) (fun hc34=>?_))))))
 ·refine Oa (Nl (J2z rfl (W.skip (J2z rfl (Rg (O rfl (St.build (cs:=[(.int .i64 4),(.int .i64 4),(.int .i64 0)]) rfl (by kernel_rfl) (On (J23 (cs':=[(.int .i64 4),(.int .i64 4),(.int .i64 0)]) C6 o8 Xg rfl rfl rfl rfl rfl rfl ?_)))))))));intro w35 C36 s37 o38;refine Oa (Nl (W.ret (Z4 rfl (resV.c o38 rfl X1 rfl) (resV.t rfl) (Ret.intro ?_ C36.below))));refine⟨_,_,rfl,?_,?_⟩
  ·skip
   exact Kh (by rw [hc34];rfl) (by rw [hc34];rfl) (by rw [hc34];rfl)
  ·skip
   exact congrArg (Value.bool) ((by rw [hc34];rfl))
 refine Oa (Nl (J21 rfl (W.region (O rfl (J3b rfl rfl (fun hc39=>?_) (fun hc39=>?_))))))
 ·refine Oa (Nl (J2z rfl (Rg (O rfl (St.build (cs:=[(.int .i64 4),(.int .i64 4),(.int .i64 0)]) rfl (by kernel_rfl) (On (J23 (cs':=[(.int .i64 4),(.int .i64 4),(.int .i64 0)]) C6 o8 Xg rfl rfl rfl rfl rfl rfl ?_)))))));intro w40 C41 s42 o43;refine Oa (Nl (W.ret (Z4 rfl (resV.c o43 rfl X1 rfl) (resV.t rfl) (Ret.intro ?_ C41.below))));refine⟨_,_,rfl,?_,?_⟩
  ·skip
   exact Kh (by rw [hc39];rfl) (by rw [hc39];rfl) (by rw [hc39];rfl)
  ·skip
   exact congrArg (Value.bool) ((by rw [hc39];rfl))
 refine Oa (Nl (J21 rfl (Rg (O rfl (J3b rfl rfl (fun hc44=>?_) (fun hc44=>?_))))))
 ·refine Oa (Nl (J2z rfl (Rg (O rfl (St.build (cs:=[(.int .i64 2),(.int .i64 41),(.int .i64 0)]) rfl (by kernel_rfl) (On (J23 (cs':=[(.int .i64 2),(.int .i64 41),(.int .i64 0)]) C6 o8 Xg rfl rfl rfl rfl rfl rfl ?_)))))));intro w45 C46 s47 o48;refine Oa (Nl (W.ret (Z4 rfl (resV.c o48 rfl X1 rfl) (resV.t rfl) (Ret.intro ?_ C46.below))));refine⟨_,_,rfl,?_,?_⟩
  ·skip
   exact Kh (by rw [hc44];rfl) (by rw [hc44];rfl) (by rw [hc44];rfl)
  ·skip
   exact congrArg (Value.bool) ((by rw [hc44];rfl))
 refine Oa (Nl (J21 rfl (Rg (O rfl (J3b rfl rfl (fun hc49=>?_) (fun hc49=>?_))))))
 ·refine Oa (Nl (J2z rfl (Rg (O rfl (St.build (cs:=[(.int .i64 2),(.int .i64 65),(.int .i64 0)]) rfl (by kernel_rfl) (On (J23 (cs':=[(.int .i64 2),(.int .i64 65),(.int .i64 0)]) C6 o8 Xg rfl rfl rfl rfl rfl rfl ?_)))))));intro w50 C51 s52 o53;refine Oa (Nl (W.ret (Z4 rfl (resV.c o53 rfl X1 rfl) (resV.t rfl) (Ret.intro ?_ C51.below))));refine⟨_,_,rfl,?_,?_⟩
  ·skip
   exact Kh (by rw [hc49];rfl) (by rw [hc49];rfl) (by rw [hc49];rfl)
  ·skip
   exact congrArg (Value.bool) ((by rw [hc49];rfl))
 refine Oa (Nl (J21 rfl (Rh (O rfl (J3b rfl rfl (fun hc54=>?_) (fun hc54=>?_))))))
 ·refine Oa (Nl (J2z rfl (W.skip (J2z rfl (Rg (O rfl (St.build (cs:=[(.int .i64 0),(.int .i64 0),(.int .i64 (-1))]) rfl (by kernel_rfl) (On (J23 (cs':=[(.int .i64 0),(.int .i64 0),(.int .i64 (-1))]) C6 o8 Xg rfl rfl rfl rfl rfl rfl ?_)))))))));intro w55 C56 s57 o58;refine Oa (Nl (W.ret (Z4 rfl (resV.c o58 rfl X1 rfl) (resV.t rfl) (Ret.intro ?_ C56.below))));refine⟨_,_,rfl,?_,?_⟩
  ·skip
   exact Kh (by rw [hc54];rfl) (by rw [hc54];rfl) (by rw [hc54];rfl)
  ·skip
   exact congrArg (Value.bool) ((by rw [hc54];rfl))
 refine Oa (Nl (J21 rfl (W.region (O rfl (J3b rfl rfl (fun hc59=>?_) (fun hc59=>?_))))))
 ·refine Oa (Nl (J2z rfl (Rg (O rfl (St.build (cs:=[(.int .i64 0),(.int .i64 0),(.int .i64 (-1))]) rfl (by kernel_rfl) (On (J23 (cs':=[(.int .i64 0),(.int .i64 0),(.int .i64 (-1))]) C6 o8 Xg rfl rfl rfl rfl rfl rfl ?_)))))));intro w60 C61 s62 o63;refine Oa (Nl (W.ret (Z4 rfl (resV.c o63 rfl X1 rfl) (resV.t rfl) (Ret.intro ?_ C61.below))));refine⟨_,_,rfl,?_,?_⟩
  ·skip
   exact Kh (by rw [hc59];rfl) (by rw [hc59];rfl) (by rw [hc59];rfl)
  ·skip
   exact congrArg (Value.bool) ((by rw [hc59];rfl))
 refine Oa (Nl (J21 rfl (Rh (O rfl (J3b rfl rfl (fun hc64=>?_) (fun hc64=>?_))))))
 ·refine Oa (Nl (J2z rfl (W.skip (J2z rfl (Rg (O rfl (St.build (cs:=[(.int .i64 1),(.int .i64 1),(.int .i64 1)]) rfl (by kernel_rfl) (On (J23 (cs':=[(.int .i64 1),(.int .i64 1),(.int .i64 1)]) C6 o8 Xg rfl rfl rfl rfl rfl rfl ?_)))))))));intro w65 C66 s67 o68;refine Oa (Nl (W.ret (Z4 rfl (resV.c o68 rfl X1 rfl) (resV.t rfl) (Ret.intro ?_ C66.below))));refine⟨_,_,rfl,?_,?_⟩
  ·skip
   exact Kh (by rw [hc64];rfl) (by rw [hc64];rfl) (by rw [hc64];rfl)
  ·skip
   exact congrArg (Value.bool) ((by rw [hc64];rfl))
 refine Oa (Nl (J21 rfl (Rg (O rfl (J3b rfl rfl (fun hc69=>?_) (fun hc69=>?_))))))
 ·refine Oa (Nl (J2z rfl (W.skip (J2z rfl (Rg (O rfl (St.build (cs:=[(.int .i64 1),(.int .i64 1),(.int .i64 1)]) rfl (by kernel_rfl) (On (J23 (cs':=[(.int .i64 1),(.int .i64 1),(.int .i64 1)]) C6 o8 Xg rfl rfl rfl rfl rfl rfl ?_)))))))));intro w70 C71 s72 o73;refine Oa (Nl (W.ret (Z4 rfl (resV.c o73 rfl X1 rfl) (resV.t rfl) (Ret.intro ?_ C71.below))));refine⟨_,_,rfl,?_,?_⟩
  ·skip
   exact Kh (by rw [hc69];rfl) (by rw [hc69];rfl) (by rw [hc69];rfl)
  ·skip
   exact congrArg (Value.bool) ((by rw [hc69];rfl))
 refine Oa (Nl (J21 rfl (Rg (O rfl (J3b rfl rfl (fun hc74=>?_) (fun hc74=>?_))))))
 ·refine Oa (Nl (J2z rfl (W.skip (J2z rfl (Rg (O rfl (St.build (cs:=[(.int .i64 1),(.int .i64 1),(.int .i64 1)]) rfl (by kernel_rfl) (On (J23 (cs':=[(.int .i64 1),(.int .i64 1),(.int .i64 1)]) C6 o8 Xg rfl rfl rfl rfl rfl rfl ?_)))))))));intro w75 C76 s77 o78;refine Oa (Nl (W.ret (Z4 rfl (resV.c o78 rfl X1 rfl) (resV.t rfl) (Ret.intro ?_ C76.below))));refine⟨_,_,rfl,?_,?_⟩
  ·skip
   exact Kh (by rw [hc74];rfl) (by rw [hc74];rfl) (by rw [hc74];rfl)
  ·skip
   exact congrArg (Value.bool) ((by rw [hc74];rfl))
 refine Oa (Nl (J21 rfl (Rg (O rfl (J3b rfl rfl (fun hc79=>?_) (fun hc79=>?_))))))
 ·refine Oa (Nl (J2z rfl (W.skip (J2z rfl (Rg (O rfl (St.build (cs:=[(.int .i64 1),(.int .i64 1),(.int .i64 1)]) rfl (by kernel_rfl) (On (J23 (cs':=[(.int .i64 1),(.int .i64 1),(.int .i64 1)]) C6 o8 Xg rfl rfl rfl rfl rfl rfl ?_)))))))));intro w80 C81 s82 o83;refine Oa (Nl (W.ret (Z4 rfl (resV.c o83 rfl X1 rfl) (resV.t rfl) (Ret.intro ?_ C81.below))));refine⟨_,_,rfl,?_,?_⟩
  ·skip
   exact Kh (by rw [hc79];rfl) (by rw [hc79];rfl) (by rw [hc79];rfl)
  ·skip
   exact congrArg (Value.bool) ((by rw [hc79];rfl))
 refine Oa (Nl (J21 rfl (W.region (O rfl (J3b rfl rfl (fun hc84=>?_) (fun hc84=>?_))))))
 ·refine Oa (Nl (J2z rfl (Rg (O rfl (St.build (cs:=[(.int .i64 1),(.int .i64 1),(.int .i64 1)]) rfl (by kernel_rfl) (On (J23 (cs':=[(.int .i64 1),(.int .i64 1),(.int .i64 1)]) C6 o8 Xg rfl rfl rfl rfl rfl rfl ?_)))))));intro w85 C86 s87 o88;refine Oa (Nl (W.ret (Z4 rfl (resV.c o88 rfl X1 rfl) (resV.t rfl) (Ret.intro ?_ C86.below))));refine⟨_,_,rfl,?_,?_⟩
  ·skip
   exact Kh (by rw [hc84];rfl) (by rw [hc84];rfl) (by rw [hc84];rfl)
  ·skip
   exact congrArg (Value.bool) ((by rw [hc84];rfl))
 refine Oa (Nl (J21 rfl (Rg (O rfl (J3b rfl rfl (fun hc89=>?_) (fun hc89=>?_))))))
 ·refine Oa (Nl (J2z rfl (Rg (O rfl (St.build (cs:=[(.int .i64 0),(.int .i64 0),(.int .i64 1)]) rfl (by kernel_rfl) (On (J23 (cs':=[(.int .i64 0),(.int .i64 0),(.int .i64 1)]) C6 o8 Xg rfl rfl rfl rfl rfl rfl ?_)))))));intro w90 C91 s92 o93;refine Oa (Nl (W.ret (Z4 rfl (resV.c o93 rfl X1 rfl) (resV.t rfl) (Ret.intro ?_ C91.below))));refine⟨_,_,rfl,?_,?_⟩
  ·skip
   exact Kh (by rw [hc89];rfl) (by rw [hc89];rfl) (by rw [hc89];rfl)
  ·skip
   exact congrArg (Value.bool) ((by rw [hc89];rfl))
 refine Oa (Nl (J21 rfl (Rg (O rfl (J3b rfl rfl (fun hc94=>?_) (fun hc94=>?_))))))
 ·refine Oa (Nl (J2z rfl (Rg (O rfl (St.build (cs:=[(.int .i64 1),(.int .i64 1),(.int .i64 2)]) rfl (by kernel_rfl) (On (J23 (cs':=[(.int .i64 1),(.int .i64 1),(.int .i64 2)]) C6 o8 Xg rfl rfl rfl rfl rfl rfl ?_)))))));intro w95 C96 s97 o98;refine Oa (Nl (W.ret (Z4 rfl (resV.c o98 rfl X1 rfl) (resV.t rfl) (Ret.intro ?_ C96.below))));refine⟨_,_,rfl,?_,?_⟩
  ·skip
   exact Kh (by rw [hc94];rfl) (by rw [hc94];rfl) (by rw [hc94];rfl)
  ·skip
   exact congrArg (Value.bool) ((by rw [hc94];rfl))
 refine Oa (Nl (J21 rfl (W.skip (Rg (O rfl (St.build (cs:=[(.int .i64 0),(.int .i64 0),(.int .i64 0)]) rfl (by kernel_rfl) (On (J23 (cs':=[(.int .i64 0),(.int .i64 0),(.int .i64 0)]) C6 o8 Xg rfl rfl rfl rfl rfl rfl ?_))))))));intro w99 C100 s101 o102;refine Oa (Nl (W.ret (Z4 rfl (resV.c o102 rfl X1 rfl) (resV.t rfl) (Ret.intro ?_ C100.below))));refine⟨_,_,rfl,?_,?_⟩
 ·skip
  exact Kh (by unfold sA;rw [if_neg (by omega)]) (by unfold sB;rw [if_neg (by omega)]) (by unfold sC;rw [if_neg (by omega),if_neg (by omega)])
 ·skip
  exact congrArg (Value.bool) ((decide_eq_false (by omega)).symm)
theorem Jys{X:Nat→Prop}{w:World}(hX:∀ b,X b→b < w.heap.size){v0:Value}{a:GExpr}(r0:RV Jm X w v0 a)(hl:a.args.length≤60)(hok:okE a):Calls Tryz.prog 80 #[v0] w (Ret w fun v w'=>v=(.int .i64 (Qg a))):=by
 obtain⟨a1,c2,a3,c4,a5,c6,a7,c8,rfl,h9⟩:=J3k r0;have h10:=h9.n;have h11:=h9.num;have h12:=h9.den;have h13:=h9.args;have C:=J25 hX;obtain⟨ok1,ok2,ok3,ok4⟩:=(Jf8 a).mp hok;have hnl:=r0.n_max;refine J24 (args:=[(.agg #[(.int .i64 a.op),(.slice a1 a.n.length c2),(.bool a.c.num.neg),(.slice a3 a.c.num.mag.length c4),(.bool a.c.den.neg),(.slice a5 a.c.den.mag.length c6),(str a.name),(.slice a7 a.args.length c8)])]) Tryz.func80 rfl rfl (Nat.le_of_ble_eq_true rfl) (Rg (O rfl (J3a C rfl ?_)));intro g14 w15 x16 y17 lt18 C19 s20 o21;refine Oa (Nl (Rg (O rfl (St.fieldAddr Zh rfl (O rfl (J20 o21 pl3 rfl rfl (O rfl (J2y C19 cb120 rfl rfl (Jtx C19.bd) ?_))))))));intro v22 w23 C24 s25 h26;replace h10:=(h10.sp s20).sp s25;replace h11:=(h11.sp s20).sp s25;replace h12:=(h12.sp s20).sp s25;replace h13:=(h13.sp s20).sp s25;replace o21:=o21.spn s25;obtain⟨v27,v28,rfl,rfl,rfl⟩:=h26;refine Om (O rfl (St.extract rfl rfl (O rfl (St.extract rfl rfl (O rfl (J26 C24 Xg rfl ?_))))));intro g31 w32 x33 y34 lt35 C36 s37 o38;have n39:=lt35 _ o21.blk.lt;refine On (J23 (cs':=[(.int .i64 (sA a.op)),(.int .i64 (sB a.op)),(.int .i64 (sC a.op))]) C36 o38 Xg rfl rfl rfl rfl rfl rfl ?_);intro w40 C41 s42 o43;replace h10:=(h10.sp s37).sp s42;replace h11:=(h11.sp s37).sp s42;replace h12:=(h12.sp s37).sp s42;replace h13:=(h13.sp s37).sp s42;replace o21:=(o21.spn s37).spo s42 n39;refine O rfl (St.bool (St.assign ⟨_,rfl,fun hb44=>?_,fun hb44=>?_⟩))
 ·refine Nl (W.seq (J39 (fun f v=>∃ (x y:Nat→Prop),Cx X w x y v∧f 1=(.pointer (some ⟨g14,0,none⟩))∧RS Zq x v (.slice a1 a.n.length c2) a.n∧RS Jc x v (.slice a3 a.c.num.mag.length c4) a.c.num.mag∧RS Jc x v (.slice a5 a.c.den.mag.length c6) a.c.den.mag∧RS Jm x v (.slice a7 a.args.length c8) a.args∧Own w y v g14 [(.int .i64 a.op),(.slice a1 a.n.length c2),(.bool a.c.num.neg),(.slice a3 a.c.num.mag.length c4),(.bool a.c.den.neg),(.slice a5 a.c.den.mag.length c6),(str a.name),(.slice a7 a.args.length c8)] 31∧Own w y v g31 [(.int .i64 (sA a.op)),(.int .i64 (sB a.op)),(.int .i64 (sC a.op))] 125∧cntOk a) ?_ ?_))
  ·refine Rg (Om (O rfl (St.not rfl (Om (Og rfl rfl (St.fieldAddr Kj rfl (Og rfl rfl (J20 o21 pl23 rfl rfl (Og rfl rfl (St.len sl23 rfl (Og rfl rfl (St.fieldAddr Jto rfl (Og rfl rfl (J20 o43 pl3 rfl rfl (Og rfl rfl (J3c rfl rfl (fun hc45=>?_) (fun hc45=>?_)))))))))))))))))
   ·refine OF (Om (Ox rfl rfl rfl (Ox rfl rfl rfl (Ox rfl rfl rfl (Ox rfl rfl rfl (Ox rfl rfl rfl (Ox rfl rfl rfl (OT (Om (Ox rfl rfl rfl (Ox rfl rfl rfl (Ox rfl rfl rfl (Ox rfl rfl rfl (Oy rfl rfl (Oy rfl rfl (Oy rfl rfl (Oy rfl rfl (Oy rfl rfl (Oy rfl rfl (Ox rfl rfl rfl (OT ?_)))))))))))))))))))));exact Om (Ox rfl rfl rfl (Ox rfl rfl rfl (Ox rfl rfl rfl (Ox rfl rfl rfl (Oy rfl rfl (Oy rfl rfl (Oy rfl rfl (Oy rfl rfl (Ox rfl rfl rfl (OT (Nl (J2z rfl (Rg (Oa (Nl (W.ret (Je rfl (resV.t rfl) (Ret.intro (congrArg (Value.int _) (Qe (xg (.inr (by omega))))) C41.below))))))))))))))))))
   refine OF (Om (Og rfl rfl (St.fieldAddr Kj rfl (Og rfl rfl (J20 o21 pl23 rfl rfl (Og rfl rfl (St.len sl23 rfl (Og rfl rfl (St.fieldAddr Jvt rfl (Og rfl rfl (J20 o43 pl3 rfl rfl (Og rfl rfl (J3m rfl rfl (fun hc46=>?_) (fun hc46=>?_))))))))))))))
   ·refine OF (Om (Ox rfl rfl rfl (Ox rfl rfl rfl (Ox rfl rfl rfl (Ox rfl rfl rfl (Oy rfl rfl (Oy rfl rfl (Oy rfl rfl (Oy rfl rfl (Oy rfl rfl (Oy rfl rfl (Ox rfl rfl rfl (OT (Om (Ox rfl rfl rfl (Ox rfl rfl rfl (Ox rfl rfl rfl (Ox rfl rfl rfl (Oy rfl rfl (Oy rfl rfl (Oy rfl rfl ?_)))))))))))))))))))));exact Oy rfl rfl (Ox rfl rfl rfl (OT (Nl (J2z rfl (Rg (Oa (Nl (W.ret (Je rfl (resV.t rfl) (Ret.intro (congrArg (Value.int _) (Qe (xg (.inr (by omega))))) C41.below))))))))))
   refine OF (Om (Og rfl rfl (St.fieldAddr Jay rfl (Og rfl rfl (J20 o43 pl3 rfl rfl (Og rfl rfl (J3r rfl rfl (fun hc47=>?_) (fun hc47=>?_))))))))
   ·refine Og rfl rfl (St.move (Og rfl rfl (St.fieldAddr Zl rfl (Og rfl rfl (J20 o21 pl29 rfl rfl (Og rfl rfl (St.len sl29 rfl (Og rfl rfl (St.fieldAddr Jay rfl (Og rfl rfl (J20 o43 pl3 rfl rfl (Og rfl rfl (J3f rfl rfl (fun hc48=>?_) (fun hc48=>?_))))))))))))))
    ·exact Og rfl rfl (St.pick (t:=true) rfl (OF (Om (Ox rfl rfl rfl (Ox rfl rfl rfl (Ox rfl rfl rfl (Ox rfl rfl rfl (Oy rfl rfl (Oy rfl rfl (Oy rfl rfl (Oy rfl rfl (Ox rfl rfl rfl (OT (Nl (J2z rfl (Rg (Oa (Nl (W.ret (Je rfl (resV.t rfl) (Ret.intro (congrArg (Value.int _) (Qe (xg (.inr (by omega))))) C41.below)))))))))))))))))))))
    refine Og rfl rfl (St.pick (t:=true) rfl (OF (Om (Og rfl rfl (St.fieldAddr Jay rfl (Og rfl rfl (J20 o43 pl3 rfl rfl (Og rfl rfl (J3c rfl rfl (fun hc49=>?_) (fun hc49=>?_))))))))))
    ·refine Og rfl rfl (St.move (Og rfl rfl (St.fieldAddr Zl rfl (Og rfl rfl (J20 o21 pl29 rfl rfl (Og rfl rfl (St.len sl29 rfl (Og rfl rfl (J3c rfl rfl (fun hc50=>?_) (fun hc50=>?_))))))))))
     ·exact Og rfl rfl (St.pick (t:=true) rfl (OF (Nl (J2z rfl (Rg (Oa (Nl (W.ret (Je rfl (resV.t rfl) (Ret.intro (congrArg (Value.int _) (Qe (xg (.inr (by omega))))) C41.below))))))))))
     refine Og rfl rfl (St.pick (t:=true) rfl (OF (Nl (J21 rfl (W.skip (⟨_,_,C41,rfl,h10,h11,h12,h13,o21,o43,(Jf3 (by assumption) (by omega) (by omega) (fun _=>by omega) (fun _=>by omega) hl)⟩))))))
    refine Og rfl rfl (St.move (Ox rfl rfl rfl (Ox rfl rfl rfl (Ox rfl rfl rfl (Ox rfl rfl rfl (Og rfl rfl (St.pick (t:=false) rfl (OF (Nl (J21 rfl (W.skip (⟨_,_,C41,rfl,h10,h11,h12,h13,o21,o43,(Jf3 (by assumption) (by omega) (by omega) (fun _=>by omega) (fun _=>by omega) hl)⟩))))))))))))
   refine Og rfl rfl (St.move (Ox rfl rfl rfl (Ox rfl rfl rfl (Ox rfl rfl rfl (Ox rfl rfl rfl (Ox rfl rfl rfl (Ox rfl rfl rfl (Og rfl rfl (St.pick (t:=false) rfl (OF (Om (Og rfl rfl (St.fieldAddr Jay rfl (Og rfl rfl (J20 o43 pl3 rfl rfl (Og rfl rfl (J3c rfl rfl (fun hc51=>?_) (fun hc51=>?_))))))))))))))))))
   ·refine Og rfl rfl (St.move (Og rfl rfl (St.fieldAddr Zl rfl (Og rfl rfl (J20 o21 pl29 rfl rfl (Og rfl rfl (St.len sl29 rfl (Og rfl rfl (J3c rfl rfl (fun hc52=>?_) (fun hc52=>?_))))))))))
    ·exact Og rfl rfl (St.pick (t:=true) rfl (OF (Nl (J2z rfl (Rg (Oa (Nl (W.ret (Je rfl (resV.t rfl) (Ret.intro (congrArg (Value.int _) (Qe (xg (.inr (by omega))))) C41.below))))))))))
    refine Og rfl rfl (St.pick (t:=true) rfl (OF (Nl (J21 rfl (W.skip (⟨_,_,C41,rfl,h10,h11,h12,h13,o21,o43,(Jf3 (by assumption) (by omega) (by omega) (fun _=>by omega) (fun _=>by omega) hl)⟩))))))
   refine Og rfl rfl (St.move (Ox rfl rfl rfl (Ox rfl rfl rfl (Ox rfl rfl rfl (Ox rfl rfl rfl (Og rfl rfl (St.pick (t:=false) rfl (OF (Nl (J21 rfl (W.skip (⟨_,_,C41,rfl,h10,h11,h12,h13,o21,o43,(Jf3 (by assumption) (by omega) (by omega) (fun _=>by omega) (fun _=>by omega) hl)⟩))))))))))))
  rintro f53 w54 ⟨x55,y56,C57,e58,h10,h11,h12,h13,o59,o60,hcn⟩;obtain⟨f61,rfl⟩:=rebK (aC e58 aN);clear e58;refine W.seq (J39 (fun f v=>∃ (x y:Nat→Prop),Cx X w x y v∧f 1=(.pointer (some ⟨g14,0,none⟩))∧RS Zq x v (.slice a1 a.n.length c2) a.n∧RS Jc x v (.slice a3 a.c.num.mag.length c4) a.c.num.mag∧RS Jc x v (.slice a5 a.c.den.mag.length c6) a.c.den.mag∧RS Jm x v (.slice a7 a.args.length c8) a.args∧Own w y v g14 [(.int .i64 a.op),(.slice a1 a.n.length c2),(.bool a.c.num.neg),(.slice a3 a.c.num.mag.length c4),(.bool a.c.den.neg),(.slice a5 a.c.den.mag.length c6),(str a.name),(.slice a7 a.args.length c8)] 31∧Own w y v g31 [(.int .i64 (sA a.op)),(.int .i64 (sB a.op)),(.int .i64 (sC a.op))] 125∧nameOk a) ?_ ?_)
  ·refine Rg (O rfl (St.fieldAddr Zh rfl (O rfl (J20 o59 pl3 rfl rfl (O rfl (J3b rfl rfl (fun hc62=>?_) (fun hc62=>?_)))))))
   ·refine Om (Og rfl rfl (St.fieldAddr K0 rfl (Og rfl rfl (J20 o59 pl9 rfl rfl (Og rfl rfl (St.bool (J2y C57 cb18 rfl rfl (Jab C57.bd) ?_)))))));intro v63 w64 C65 s66 h67;replace h10:=h10.sp s66;replace h11:=h11.sp s66;replace h12:=h12.sp s66;replace h13:=h13.sp s66;replace o59:=o59.spn s66;replace o60:=o60.spn s66;refine⟨_,h67,fun hb68=>?_,fun hb68=>?_⟩
    ·refine Og rfl rfl (St.not rfl (OT (Om (Og rfl rfl (St.fieldAddr Zh rfl (Og rfl rfl (J20 o59 pl3 rfl rfl (Og rfl rfl (J3f rfl rfl (fun hc69=>?_) (fun hc69=>?_))))))))))
     ·refine Og rfl rfl (St.move (Og rfl rfl (St.fieldAddr K0 rfl (Og rfl rfl (J20 o59 pl9 rfl rfl (Og rfl rfl (J38 rfl rfl (fun hc70=>?_) (fun hc70=>?_))))))))
      ·exact Og rfl rfl (St.pick (t:=true) rfl (OF (Om (Ox rfl rfl rfl (Ox rfl rfl rfl (Ox rfl rfl rfl (Ox rfl rfl rfl (Oy rfl rfl (Oy rfl rfl (Oy rfl rfl (Oy rfl rfl (Ox rfl rfl rfl (OT (Nl (J2z rfl (Rg (Oa (Nl (W.ret (Je rfl (resV.t rfl) (Ret.intro (congrArg (Value.int _) ((by first | exact Yn (jo (by first | exact .inl ⟨by assumption,by assumption⟩ | exact .inr (.inl ⟨by assumption,by assumption⟩) | exact .inr (.inr ⟨by assumption,by assumption⟩))) | (exfalso;omega)))) C65.below)))))))))))))))))))))
      refine Og rfl rfl (St.pick (t:=true) rfl (OF (Om (Og rfl rfl (St.fieldAddr Zh rfl (Og rfl rfl (J20 o59 pl3 rfl rfl (Og rfl rfl (J3f rfl rfl (fun hc71=>?_) (fun hc71=>?_))))))))))
      ·refine Og rfl rfl (St.move (Og rfl rfl (St.fieldAddr Kg rfl (Og rfl rfl (J22 (vs:=[(.bool a.c.num.neg),(.slice a3 a.c.num.mag.length c4),(.bool a.c.den.neg),(.slice a5 a.c.den.mag.length c6)]) o59 ag28 rfl rfl rfl (Og rfl rfl (J2y C65 vb rfl rfl (X5 C65.bd (a:=a.c) (Ze h11 h12) (by omega) (by omega)) ?_)))))));intro v72 w73 C74 s75 h76;replace h10:=h10.sp s75;replace h11:=h11.sp s75;replace h12:=h12.sp s75;replace h13:=h13.sp s75;replace o59:=o59.spn s75;replace o60:=o60.spn s75;subst h76;refine Og rfl rfl (J3f rfl rfl (fun hc77=>?_) (fun hc77=>?_))
       ·exact Og rfl rfl (St.pick (t:=true) rfl (OF (Nl (J2z rfl (Rg (Oa (Nl (W.ret (Je rfl (resV.t rfl) (Ret.intro (congrArg (Value.int _) ((by first | exact Yn (jo (by first | exact .inl ⟨by assumption,by assumption⟩ | exact .inr (.inl ⟨by assumption,by assumption⟩) | exact .inr (.inr ⟨by assumption,by assumption⟩))) | (exfalso;omega)))) C74.below))))))))))
       refine Og rfl rfl (St.pick (t:=true) rfl (OF (Nl (J21 rfl (W.skip (⟨_,_,C74,rfl,h10,h11,h12,h13,o59,o60,(by first | exact(Vk (by first | exact .inl ⟨by assumption,by assumption⟩ | exact .inr ⟨by assumption,by assumption⟩) (by first | exact .inl (by assumption) | exact .inr (by assumption))) | (exfalso;omega))⟩))))))
      refine Og rfl rfl (St.move (Ox rfl rfl rfl (Ox rfl rfl rfl (Ox rfl rfl rfl (Ox rfl rfl rfl (Og rfl rfl (St.pick (t:=false) rfl (OF (Nl (J21 rfl (W.skip (⟨_,_,C65,rfl,h10,h11,h12,h13,o59,o60,(by first | exact(Vk (by first | exact .inl ⟨by assumption,by assumption⟩ | exact .inr ⟨by assumption,by assumption⟩) (by first | exact .inl (by assumption) | exact .inr (by assumption))) | (exfalso;omega))⟩))))))))))))
     refine Og rfl rfl (St.move (Ox rfl rfl rfl (Ox rfl rfl rfl (Ox rfl rfl rfl (Og rfl rfl (St.pick (t:=false) rfl (OF (Om (Og rfl rfl (St.fieldAddr Zh rfl (Og rfl rfl (J20 o59 pl3 rfl rfl (Og rfl rfl (J3f rfl rfl (fun hc78=>?_) (fun hc78=>?_)))))))))))))))
     ·refine Og rfl rfl (St.move (Og rfl rfl (St.fieldAddr Kg rfl (Og rfl rfl (J22 (vs:=[(.bool a.c.num.neg),(.slice a3 a.c.num.mag.length c4),(.bool a.c.den.neg),(.slice a5 a.c.den.mag.length c6)]) o59 ag28 rfl rfl rfl (Og rfl rfl (J2y C65 vb rfl rfl (X5 C65.bd (a:=a.c) (Ze h11 h12) (by omega) (by omega)) ?_)))))));intro v79 w80 C81 s82 h83;replace h10:=h10.sp s82;replace h11:=h11.sp s82;replace h12:=h12.sp s82;replace h13:=h13.sp s82;replace o59:=o59.spn s82;replace o60:=o60.spn s82;subst h83;refine Og rfl rfl (J3f rfl rfl (fun hc84=>?_) (fun hc84=>?_))
      ·exact Og rfl rfl (St.pick (t:=true) rfl (OF (Nl (J2z rfl (Rg (Oa (Nl (W.ret (Je rfl (resV.t rfl) (Ret.intro (congrArg (Value.int _) ((by first | exact Yn (jo (by first | exact .inl ⟨by assumption,by assumption⟩ | exact .inr (.inl ⟨by assumption,by assumption⟩) | exact .inr (.inr ⟨by assumption,by assumption⟩))) | (exfalso;omega)))) C81.below))))))))))
      refine Og rfl rfl (St.pick (t:=true) rfl (OF (Nl (J21 rfl (W.skip (⟨_,_,C81,rfl,h10,h11,h12,h13,o59,o60,(by first | exact(Vk (by first | exact .inl ⟨by assumption,by assumption⟩ | exact .inr ⟨by assumption,by assumption⟩) (by first | exact .inl (by assumption) | exact .inr (by assumption))) | (exfalso;omega))⟩))))))
     refine Og rfl rfl (St.move (Ox rfl rfl rfl (Ox rfl rfl rfl (Ox rfl rfl rfl (Ox rfl rfl rfl (Og rfl rfl (St.pick (t:=false) rfl (OF (Nl (J21 rfl (W.skip (⟨_,_,C65,rfl,h10,h11,h12,h13,o59,o60,(by first | exact(Vk (by first | exact .inl ⟨by assumption,by assumption⟩ | exact .inr ⟨by assumption,by assumption⟩) (by first | exact .inl (by assumption) | exact .inr (by assumption))) | (exfalso;omega))⟩))))))))))))
    refine Og rfl rfl (St.not rfl (OT (Om (Ox rfl rfl rfl (Ox rfl rfl rfl (Ox rfl rfl rfl (Ox rfl rfl rfl (Oy rfl rfl (Oy rfl rfl (Oy rfl rfl (Ox rfl rfl rfl (OT (Om (Ox rfl rfl rfl (Ox rfl rfl rfl (Ox rfl rfl rfl (Ox rfl rfl rfl (Oy rfl rfl (Oy rfl rfl (Oy rfl rfl (Oy rfl rfl ?_)))))))))))))))))))));exact Ox rfl rfl rfl (OT (Nl (J2z rfl (Rg (Oa (Nl (W.ret (Je rfl (resV.t rfl) (Ret.intro (congrArg (Value.int _) ((by first | exact Yn (jo (by first | exact .inl ⟨by assumption,by assumption⟩ | exact .inr (.inl ⟨by assumption,by assumption⟩) | exact .inr (.inr ⟨by assumption,by assumption⟩))) | (exfalso;omega)))) C65.below)))))))))
   refine Om (Ox rfl rfl rfl (Ox rfl rfl rfl (Ox rfl rfl rfl (Ox rfl rfl rfl (OF (Om (Og rfl rfl (St.fieldAddr Zh rfl (Og rfl rfl (J20 o59 pl3 rfl rfl (Og rfl rfl (J3f rfl rfl (fun hc85=>?_) (fun hc85=>?_)))))))))))))
   ·refine Og rfl rfl (St.move (Og rfl rfl (St.fieldAddr K0 rfl (Og rfl rfl (J20 o59 pl9 rfl rfl (Og rfl rfl (J38 rfl rfl (fun hc86=>?_) (fun hc86=>?_))))))))
    ·exact Og rfl rfl (St.pick (t:=true) rfl (OF (Om (Ox rfl rfl rfl (Ox rfl rfl rfl (Ox rfl rfl rfl (Ox rfl rfl rfl (Oy rfl rfl (Oy rfl rfl (Oy rfl rfl (Oy rfl rfl (Ox rfl rfl rfl (OT (Nl (J2z rfl (Rg (Oa (Nl (W.ret (Je rfl (resV.t rfl) (Ret.intro (congrArg (Value.int _) ((by first | exact Yn (jo (by first | exact .inl ⟨by assumption,by assumption⟩ | exact .inr (.inl ⟨by assumption,by assumption⟩) | exact .inr (.inr ⟨by assumption,by assumption⟩))) | (exfalso;omega)))) C57.below)))))))))))))))))))))
    refine Og rfl rfl (St.pick (t:=true) rfl (OF (Om (Og rfl rfl (St.fieldAddr Zh rfl (Og rfl rfl (J20 o59 pl3 rfl rfl (Og rfl rfl (J3f rfl rfl (fun hc87=>?_) (fun hc87=>?_))))))))))
    ·refine Og rfl rfl (St.move (Og rfl rfl (St.fieldAddr Kg rfl (Og rfl rfl (J22 (vs:=[(.bool a.c.num.neg),(.slice a3 a.c.num.mag.length c4),(.bool a.c.den.neg),(.slice a5 a.c.den.mag.length c6)]) o59 ag28 rfl rfl rfl (Og rfl rfl (J2y C57 vb rfl rfl (X5 C57.bd (a:=a.c) (Ze h11 h12) (by omega) (by omega)) ?_)))))));intro v88 w89 C90 s91 h92;replace h10:=h10.sp s91;replace h11:=h11.sp s91;replace h12:=h12.sp s91;replace h13:=h13.sp s91;replace o59:=o59.spn s91;replace o60:=o60.spn s91;subst h92;refine Og rfl rfl (J3f rfl rfl (fun hc93=>?_) (fun hc93=>?_))
     ·exact Og rfl rfl (St.pick (t:=true) rfl (OF (Nl (J2z rfl (Rg (Oa (Nl (W.ret (Je rfl (resV.t rfl) (Ret.intro (congrArg (Value.int _) ((by first | exact Yn (jo (by first | exact .inl ⟨by assumption,by assumption⟩ | exact .inr (.inl ⟨by assumption,by assumption⟩) | exact .inr (.inr ⟨by assumption,by assumption⟩))) | (exfalso;omega)))) C90.below))))))))))
     refine Og rfl rfl (St.pick (t:=true) rfl (OF (Nl (J21 rfl (W.skip (⟨_,_,C90,rfl,h10,h11,h12,h13,o59,o60,(by first | exact(Vk (by first | exact .inl ⟨by assumption,by assumption⟩ | exact .inr ⟨by assumption,by assumption⟩) (by first | exact .inl (by assumption) | exact .inr (by assumption))) | (exfalso;omega))⟩))))))
    refine Og rfl rfl (St.move (Ox rfl rfl rfl (Ox rfl rfl rfl (Ox rfl rfl rfl (Ox rfl rfl rfl (Og rfl rfl (St.pick (t:=false) rfl (OF (Nl (J21 rfl (W.skip (⟨_,_,C57,rfl,h10,h11,h12,h13,o59,o60,(by first | exact(Vk (by first | exact .inl ⟨by assumption,by assumption⟩ | exact .inr ⟨by assumption,by assumption⟩) (by first | exact .inl (by assumption) | exact .inr (by assumption))) | (exfalso;omega))⟩))))))))))))
   refine Og rfl rfl (St.move (Ox rfl rfl rfl (Ox rfl rfl rfl (Ox rfl rfl rfl (Og rfl rfl (St.pick (t:=false) rfl (OF (Om (Og rfl rfl (St.fieldAddr Zh rfl (Og rfl rfl (J20 o59 pl3 rfl rfl (Og rfl rfl (J3f rfl rfl (fun hc94=>?_) (fun hc94=>?_)))))))))))))))
   ·refine Og rfl rfl (St.move (Og rfl rfl (St.fieldAddr Kg rfl (Og rfl rfl (J22 (vs:=[(.bool a.c.num.neg),(.slice a3 a.c.num.mag.length c4),(.bool a.c.den.neg),(.slice a5 a.c.den.mag.length c6)]) o59 ag28 rfl rfl rfl (Og rfl rfl (J2y C57 vb rfl rfl (X5 C57.bd (a:=a.c) (Ze h11 h12) (by omega) (by omega)) ?_)))))));intro v95 w96 C97 s98 h99;replace h10:=h10.sp s98;replace h11:=h11.sp s98;replace h12:=h12.sp s98;replace h13:=h13.sp s98;replace o59:=o59.spn s98;replace o60:=o60.spn s98;subst h99;refine Og rfl rfl (J3f rfl rfl (fun hc100=>?_) (fun hc100=>?_))
    ·exact Og rfl rfl (St.pick (t:=true) rfl (OF (Nl (J2z rfl (Rg (Oa (Nl (W.ret (Je rfl (resV.t rfl) (Ret.intro (congrArg (Value.int _) ((by first | exact Yn (jo (by first | exact .inl ⟨by assumption,by assumption⟩ | exact .inr (.inl ⟨by assumption,by assumption⟩) | exact .inr (.inr ⟨by assumption,by assumption⟩))) | (exfalso;omega)))) C97.below))))))))))
    refine Og rfl rfl (St.pick (t:=true) rfl (OF (Nl (J21 rfl (W.skip (⟨_,_,C97,rfl,h10,h11,h12,h13,o59,o60,(by first | exact(Vk (by first | exact .inl ⟨by assumption,by assumption⟩ | exact .inr ⟨by assumption,by assumption⟩) (by first | exact .inl (by assumption) | exact .inr (by assumption))) | (exfalso;omega))⟩))))))
   refine Og rfl rfl (St.move (Ox rfl rfl rfl (Ox rfl rfl rfl (Ox rfl rfl rfl (Ox rfl rfl rfl (Og rfl rfl (St.pick (t:=false) rfl (OF (Nl (J21 rfl (W.skip (⟨_,_,C57,rfl,h10,h11,h12,h13,o59,o60,(by first | exact(Vk (by first | exact .inl ⟨by assumption,by assumption⟩ | exact .inr ⟨by assumption,by assumption⟩) (by first | exact .inl (by assumption) | exact .inr (by assumption))) | (exfalso;omega))⟩))))))))))))
  rintro f101 w102 ⟨x103,y104,C105,e106,h10,h11,h12,h13,o107,o108,hnm⟩;obtain⟨f109,rfl⟩:=rebK (aC e106 aN);clear e106;refine Rg (Oa (Oa (Nl (W.seq (J39 (fun f v=>∃ (x y:Nat→Prop),Cx X w x y v∧f 1=(.pointer (some ⟨g14,0,none⟩))∧f 5=(.int .i64 (lA a.op))∧f 6=(.int .i64 (lB a.op))∧RS Zq x v (.slice a1 a.n.length c2) a.n∧RS Jc x v (.slice a3 a.c.num.mag.length c4) a.c.num.mag∧RS Jc x v (.slice a5 a.c.den.mag.length c6) a.c.den.mag∧RS Jm x v (.slice a7 a.args.length c8) a.args∧Own w y v g14 [(.int .i64 a.op),(.slice a1 a.n.length c2),(.bool a.c.num.neg),(.slice a3 a.c.num.mag.length c4),(.bool a.c.den.neg),(.slice a5 a.c.den.mag.length c6),(str a.name),(.slice a7 a.args.length c8)] 31∧Own w y v g31 [(.int .i64 (sA a.op)),(.int .i64 (sB a.op)),(.int .i64 (sC a.op))] 125) ?_ ?_)))))
  ·refine Rg (O rfl (St.fieldAddr Zh rfl (O rfl (J20 o107 pl3 rfl rfl (Nl (W.block (Rg (O rfl (J3b rfl rfl (fun hc110=>?_) (fun hc110=>?_))))))))))
   ·refine Oa (Nl (J2z rfl (W.region (Oa (Oa (Nl (⟨_,_,C105,rfl,(congrArg (Value.int _) (by unfold lA;(repeat' split) <;> omega)),(congrArg (Value.int _) (by unfold lB;(repeat' split) <;> omega)),h10,h11,h12,h13,o107,o108⟩)))))))
   refine Oa (Nl (J21 rfl (Rh (O rfl (J3b rfl rfl (fun hc111=>?_) (fun hc111=>?_))))))
   ·refine Oa (Nl (J2z rfl (W.skip (J2z rfl (W.region (Oa (Oa (Nl (⟨_,_,C105,rfl,(congrArg (Value.int _) (by unfold lA;(repeat' split) <;> omega)),(congrArg (Value.int _) (by unfold lB;(repeat' split) <;> omega)),h10,h11,h12,h13,o107,o108⟩)))))))))
   refine Oa (Nl (J21 rfl (Rg (O rfl (J3b rfl rfl (fun hc112=>?_) (fun hc112=>?_))))))
   ·refine Oa (Nl (J2z rfl (W.skip (J2z rfl (W.region (Oa (Oa (Nl (⟨_,_,C105,rfl,(congrArg (Value.int _) (by unfold lA;(repeat' split) <;> omega)),(congrArg (Value.int _) (by unfold lB;(repeat' split) <;> omega)),h10,h11,h12,h13,o107,o108⟩)))))))))
   refine Oa (Nl (J21 rfl (W.region (O rfl (J3b rfl rfl (fun hc113=>?_) (fun hc113=>?_))))))
   ·refine Oa (Nl (J2z rfl (W.region (Oa (Oa (Nl (⟨_,_,C105,rfl,(congrArg (Value.int _) (by unfold lA;(repeat' split) <;> omega)),(congrArg (Value.int _) (by unfold lB;(repeat' split) <;> omega)),h10,h11,h12,h13,o107,o108⟩)))))))
   refine Oa (Nl (J21 rfl (Rg (O rfl (J3b rfl rfl (fun hc114=>?_) (fun hc114=>?_))))))
   ·refine Oa (Nl (J2z rfl (W.region (Oa (Oa (Nl (⟨_,_,C105,rfl,(congrArg (Value.int _) (by unfold lA;(repeat' split) <;> omega)),(congrArg (Value.int _) (by unfold lB;(repeat' split) <;> omega)),h10,h11,h12,h13,o107,o108⟩)))))))
   refine Oa (Nl (J21 rfl (Rg (O rfl (J3b rfl rfl (fun hc115=>?_) (fun hc115=>?_))))))
   ·refine Oa (Nl (J2z rfl (W.region (Oa (Nl (⟨_,_,C105,rfl,(congrArg (Value.int _) (by unfold lA;(repeat' split) <;> omega)),(congrArg (Value.int _) (by unfold lB;(repeat' split) <;> omega)),h10,h11,h12,h13,o107,o108⟩))))))
   refine Oa (Nl (J21 rfl (W.skip (⟨_,_,C105,rfl,(congrArg (Value.int _) (by unfold lA;(repeat' split) <;> omega)),(congrArg (Value.int _) (by unfold lB;(repeat' split) <;> omega)),h10,h11,h12,h13,o107,o108⟩))))
  rintro f116 w117 ⟨x118,y119,C120,e121,e122,e123,h10,h11,h12,h13,o124,o125⟩;obtain⟨f126,rfl⟩:=rebK (aC e121 (aC e122 (aC e123 aN)));clear e121 e122 e123;refine Rh (O rfl (St.fieldAddr Kj rfl (O rfl (J20 o124 pl23 rfl rfl (O rfl (St.len sl23 rfl (Om (Nl (W.block (J3g (fun μ f v=>∃ (x y:Nat→Prop) (i:Nat),Cx X w x y v∧f 5=(.int .i64 (lA a.op))∧f 6=(.int .i64 (lB a.op))∧f 100=(.slice a1 a.n.length c2)∧f 101=(.int .i64 ((a.n.length:Nat):Int))∧f 102=(.int .i64 ((i:Nat):Int))∧RS Zq x v (.slice a1 a.n.length c2) a.n∧RS Jc x v (.slice a3 a.c.num.mag.length c4) a.c.num.mag∧RS Jc x v (.slice a5 a.c.den.mag.length c6) a.c.den.mag∧RS Jm x v (.slice a7 a.args.length c8) a.args∧Own w y v g14 [(.int .i64 a.op),(.slice a1 a.n.length c2),(.bool a.c.num.neg),(.slice a3 a.c.num.mag.length c4),(.bool a.c.den.neg),(.slice a5 a.c.den.mag.length c6),(str a.name),(.slice a7 a.args.length c8)] 31∧Own w y v g31 [(.int .i64 (sA a.op)),(.int .i64 (sB a.op)),(.int .i64 (sC a.op))] 125∧i≤a.n.length∧(∀ j,j < i→lA a.op≤a.n.getD j 0∧a.n.getD j 0≤lB a.op)∧μ=(a.n.length - i)) _ ⟨_,_,0,C120,rfl,rfl,rfl,rfl,rfl,h10,h11,h12,h13,o124,o125,(Nat.zero_le _),(fun _ h=>absurd h (Nat.not_lt_zero _)),rfl⟩ ?_))))))))));rintro m140 f127 w128 ⟨x129,y130,i,C131,e132,e133,e134,e135,e136,h10,h11,h12,h13,o137,o138,hi,hall,hmu139⟩;obtain⟨f141,rfl⟩:=rebK (aC e132 (aC e133 (aC e134 (aC e135 (aC e136 aN)))));clear e132 e133 e134 e135 e136;refine Rg (O rfl (J3c rfl rfl (fun hc142=>?_) (fun hc142=>?_)))
  ·refine Nl (W.seq (J2z rfl (W.skip (W.seq (W.block (Rg (O rfl (J3d (j:=i) (u:=(a.n.getD i 0)) h10 sl23 io3 rfl rfl rfl (Jg (by omega)) ?_))))))));intro b143 o144 cs145 e146;obtain⟨rfl,bd147⟩:cs145=_∧_:=e146.rd;refine O rfl (J29 pl3 rfl (e146.cell 0 _ rfl) (Oa (Nl (Rg (Om (Om (O rfl (J3c rfl rfl (fun hc148=>?_) (fun hc148=>?_)))))))))
   ·exact Om (Ox rfl rfl rfl (Ox rfl rfl rfl (Ox rfl rfl rfl (OT (Nl (J2z rfl (Rg (Oa (Nl (W.ret (Je rfl (resV.t rfl) (Ret.intro (congrArg (Value.int _) (k7 hcn hnm (i:=i) (by omega) (by omega))) C131.below))))))))))))
   refine Om (Og rfl rfl (St.move (Og rfl rfl (St.move (Og rfl rfl (J3m rfl rfl (fun hc149=>?_) (fun hc149=>?_)))))))
   ·exact OF (Nl (J2z rfl (Rg (Oa (Nl (W.ret (Je rfl (resV.t rfl) (Ret.intro (congrArg (Value.int _) (k7 hcn hnm (i:=i) (by omega) (by omega))) C131.below))))))))
   refine OF (Nl (J21 rfl (W.skip (W.region (O rfl (St.add rfl rfl (Jd (a:=i) (b:=1) (by omega)) (Om (Nl (⟨_,(by omega),_,_,(i+1),C131,rfl,rfl,rfl,rfl,rfl,h10,h11,h12,h13,o137,o138,(by omega),(Ks hall ⟨by omega,by omega⟩),rfl⟩)))))))))
  exact Nl (W.seq (J21 rfl (W.exit (Rg (Oa (Nl (W.ret (Je rfl (resV.t rfl) (Ret.intro (congrArg (Value.int _) (Jvc hcn hnm (i:=i) (by omega) hall)) C131.below)))))))))
 refine Nl (W.seq (J39 (fun f v=>∃ (x y:Nat→Prop),Cx X w x y v∧f 1=(.pointer (some ⟨g14,0,none⟩))∧RS Zq x v (.slice a1 a.n.length c2) a.n∧RS Jc x v (.slice a3 a.c.num.mag.length c4) a.c.num.mag∧RS Jc x v (.slice a5 a.c.den.mag.length c6) a.c.den.mag∧RS Jm x v (.slice a7 a.args.length c8) a.args∧Own w y v g14 [(.int .i64 a.op),(.slice a1 a.n.length c2),(.bool a.c.num.neg),(.slice a3 a.c.num.mag.length c4),(.bool a.c.den.neg),(.slice a5 a.c.den.mag.length c6),(str a.name),(.slice a7 a.args.length c8)] 31∧Own w y v g31 [(.int .i64 (sA a.op)),(.int .i64 (sB a.op)),(.int .i64 (sC a.op))] 125∧cntOk a) ?_ ?_))
 ·refine Rg (Om (O rfl (St.not rfl (Om (Ox rfl rfl rfl (Ox rfl rfl rfl (Ox rfl rfl rfl (Ox rfl rfl rfl (Ox rfl rfl rfl (Ox rfl rfl rfl (OT (Om (Ox rfl rfl rfl (Ox rfl rfl rfl (Ox rfl rfl rfl (Ox rfl rfl rfl (Ox rfl rfl rfl (Ox rfl rfl rfl (OT (Om ?_))))))))))))))))))));refine Ox rfl rfl rfl (Ox rfl rfl rfl (Ox rfl rfl rfl (Ox rfl rfl rfl (Oy rfl rfl (Oy rfl rfl (Oy rfl rfl (Oy rfl rfl (Oy rfl rfl (Oy rfl rfl (Ox rfl rfl rfl (OT (Om (Ox rfl rfl rfl (Ox rfl rfl rfl (Ox rfl rfl rfl (Ox rfl rfl rfl (Oy rfl rfl (Oy rfl rfl (Oy rfl rfl (Oy rfl rfl (Ox rfl rfl rfl (OT ?_))))))))))))))))))))));exact Nl (J2z rfl (Rg (Oa (Nl (W.ret (Je rfl (resV.t rfl) (Ret.intro (congrArg (Value.int _) (Qe (xg (.inl hb44)))) C41.below)))))))
 rintro f150 w151 ⟨x152,y153,C154,e155,h10,h11,h12,h13,o156,o157,hcn⟩;obtain⟨f158,rfl⟩:=rebK (aC e155 aN);clear e155;refine W.seq (J39 (fun f v=>∃ (x y:Nat→Prop),Cx X w x y v∧f 1=(.pointer (some ⟨g14,0,none⟩))∧RS Zq x v (.slice a1 a.n.length c2) a.n∧RS Jc x v (.slice a3 a.c.num.mag.length c4) a.c.num.mag∧RS Jc x v (.slice a5 a.c.den.mag.length c6) a.c.den.mag∧RS Jm x v (.slice a7 a.args.length c8) a.args∧Own w y v g14 [(.int .i64 a.op),(.slice a1 a.n.length c2),(.bool a.c.num.neg),(.slice a3 a.c.num.mag.length c4),(.bool a.c.den.neg),(.slice a5 a.c.den.mag.length c6),(str a.name),(.slice a7 a.args.length c8)] 31∧Own w y v g31 [(.int .i64 (sA a.op)),(.int .i64 (sB a.op)),(.int .i64 (sC a.op))] 125∧nameOk a) ?_ ?_)
 ·refine Rg (O rfl (St.fieldAddr Zh rfl (O rfl (J20 o156 pl3 rfl rfl (O rfl (J3b rfl rfl (fun hc159=>?_) (fun hc159=>?_)))))))
  ·refine Om (Og rfl rfl (St.fieldAddr K0 rfl (Og rfl rfl (J20 o156 pl9 rfl rfl (Og rfl rfl (St.bool (J2y C154 cb18 rfl rfl (Jab C154.bd) ?_)))))));intro v160 w161 C162 s163 h164;replace h10:=h10.sp s163;replace h11:=h11.sp s163;replace h12:=h12.sp s163;replace h13:=h13.sp s163;replace o156:=o156.spn s163;replace o157:=o157.spn s163;refine⟨_,h164,fun hb165=>?_,fun hb165=>?_⟩
   ·refine Og rfl rfl (St.not rfl (OT (Om (Og rfl rfl (St.fieldAddr Zh rfl (Og rfl rfl (J20 o156 pl3 rfl rfl (Og rfl rfl (J3f rfl rfl (fun hc166=>?_) (fun hc166=>?_))))))))))
    ·refine Og rfl rfl (St.move (Og rfl rfl (St.fieldAddr K0 rfl (Og rfl rfl (J20 o156 pl9 rfl rfl (Og rfl rfl (J38 rfl rfl (fun hc167=>?_) (fun hc167=>?_))))))))
     ·exact Og rfl rfl (St.pick (t:=true) rfl (OF (Om (Ox rfl rfl rfl (Ox rfl rfl rfl (Ox rfl rfl rfl (Ox rfl rfl rfl (Oy rfl rfl (Oy rfl rfl (Oy rfl rfl (Oy rfl rfl (Ox rfl rfl rfl (OT (Nl (J2z rfl (Rg (Oa (Nl (W.ret (Je rfl (resV.t rfl) (Ret.intro (congrArg (Value.int _) ((by first | exact Yn (jo (by first | exact .inl ⟨by assumption,by assumption⟩ | exact .inr (.inl ⟨by assumption,by assumption⟩) | exact .inr (.inr ⟨by assumption,by assumption⟩))) | (exfalso;omega)))) C162.below)))))))))))))))))))))
     refine Og rfl rfl (St.pick (t:=true) rfl (OF (Om (Og rfl rfl (St.fieldAddr Zh rfl (Og rfl rfl (J20 o156 pl3 rfl rfl (Og rfl rfl (J3f rfl rfl (fun hc168=>?_) (fun hc168=>?_))))))))))
     ·refine Og rfl rfl (St.move (Og rfl rfl (St.fieldAddr Kg rfl (Og rfl rfl (J22 (vs:=[(.bool a.c.num.neg),(.slice a3 a.c.num.mag.length c4),(.bool a.c.den.neg),(.slice a5 a.c.den.mag.length c6)]) o156 ag28 rfl rfl rfl (Og rfl rfl (J2y C162 vb rfl rfl (X5 C162.bd (a:=a.c) (Ze h11 h12) (by omega) (by omega)) ?_)))))));intro v169 w170 C171 s172 h173;replace h10:=h10.sp s172;replace h11:=h11.sp s172;replace h12:=h12.sp s172;replace h13:=h13.sp s172;replace o156:=o156.spn s172;replace o157:=o157.spn s172;subst h173;refine Og rfl rfl (J3f rfl rfl (fun hc174=>?_) (fun hc174=>?_))
      ·exact Og rfl rfl (St.pick (t:=true) rfl (OF (Nl (J2z rfl (Rg (Oa (Nl (W.ret (Je rfl (resV.t rfl) (Ret.intro (congrArg (Value.int _) ((by first | exact Yn (jo (by first | exact .inl ⟨by assumption,by assumption⟩ | exact .inr (.inl ⟨by assumption,by assumption⟩) | exact .inr (.inr ⟨by assumption,by assumption⟩))) | (exfalso;omega)))) C171.below))))))))))
      refine Og rfl rfl (St.pick (t:=true) rfl (OF (Nl (J21 rfl (W.skip (⟨_,_,C171,rfl,h10,h11,h12,h13,o156,o157,(by first | exact(Vk (by first | exact .inl ⟨by assumption,by assumption⟩ | exact .inr ⟨by assumption,by assumption⟩) (by first | exact .inl (by assumption) | exact .inr (by assumption))) | (exfalso;omega))⟩))))))
     refine Og rfl rfl (St.move (Ox rfl rfl rfl (Ox rfl rfl rfl (Ox rfl rfl rfl (Ox rfl rfl rfl (Og rfl rfl (St.pick (t:=false) rfl (OF (Nl (J21 rfl (W.skip (⟨_,_,C162,rfl,h10,h11,h12,h13,o156,o157,(by first | exact(Vk (by first | exact .inl ⟨by assumption,by assumption⟩ | exact .inr ⟨by assumption,by assumption⟩) (by first | exact .inl (by assumption) | exact .inr (by assumption))) | (exfalso;omega))⟩))))))))))))
    refine Og rfl rfl (St.move (Ox rfl rfl rfl (Ox rfl rfl rfl (Ox rfl rfl rfl (Og rfl rfl (St.pick (t:=false) rfl (OF (Om (Og rfl rfl (St.fieldAddr Zh rfl (Og rfl rfl (J20 o156 pl3 rfl rfl (Og rfl rfl (J3f rfl rfl (fun hc175=>?_) (fun hc175=>?_)))))))))))))))
    ·refine Og rfl rfl (St.move (Og rfl rfl (St.fieldAddr Kg rfl (Og rfl rfl (J22 (vs:=[(.bool a.c.num.neg),(.slice a3 a.c.num.mag.length c4),(.bool a.c.den.neg),(.slice a5 a.c.den.mag.length c6)]) o156 ag28 rfl rfl rfl (Og rfl rfl (J2y C162 vb rfl rfl (X5 C162.bd (a:=a.c) (Ze h11 h12) (by omega) (by omega)) ?_)))))));intro v176 w177 C178 s179 h180;replace h10:=h10.sp s179;replace h11:=h11.sp s179;replace h12:=h12.sp s179;replace h13:=h13.sp s179;replace o156:=o156.spn s179;replace o157:=o157.spn s179;subst h180;refine Og rfl rfl (J3f rfl rfl (fun hc181=>?_) (fun hc181=>?_))
     ·exact Og rfl rfl (St.pick (t:=true) rfl (OF (Nl (J2z rfl (Rg (Oa (Nl (W.ret (Je rfl (resV.t rfl) (Ret.intro (congrArg (Value.int _) ((by first | exact Yn (jo (by first | exact .inl ⟨by assumption,by assumption⟩ | exact .inr (.inl ⟨by assumption,by assumption⟩) | exact .inr (.inr ⟨by assumption,by assumption⟩))) | (exfalso;omega)))) C178.below))))))))))
     refine Og rfl rfl (St.pick (t:=true) rfl (OF (Nl (J21 rfl (W.skip (⟨_,_,C178,rfl,h10,h11,h12,h13,o156,o157,(by first | exact(Vk (by first | exact .inl ⟨by assumption,by assumption⟩ | exact .inr ⟨by assumption,by assumption⟩) (by first | exact .inl (by assumption) | exact .inr (by assumption))) | (exfalso;omega))⟩))))))
    refine Og rfl rfl (St.move (Ox rfl rfl rfl (Ox rfl rfl rfl (Ox rfl rfl rfl (Ox rfl rfl rfl (Og rfl rfl (St.pick (t:=false) rfl (OF (Nl (J21 rfl (W.skip (⟨_,_,C162,rfl,h10,h11,h12,h13,o156,o157,(by first | exact(Vk (by first | exact .inl ⟨by assumption,by assumption⟩ | exact .inr ⟨by assumption,by assumption⟩) (by first | exact .inl (by assumption) | exact .inr (by assumption))) | (exfalso;omega))⟩))))))))))))
   refine Og rfl rfl (St.not rfl (OT (Om (Ox rfl rfl rfl (Ox rfl rfl rfl (Ox rfl rfl rfl (Ox rfl rfl rfl (Oy rfl rfl (Oy rfl rfl (Oy rfl rfl (Ox rfl rfl rfl (OT (Om (Ox rfl rfl rfl (Ox rfl rfl rfl (Ox rfl rfl rfl (Ox rfl rfl rfl (Oy rfl rfl (Oy rfl rfl (Oy rfl rfl (Oy rfl rfl ?_)))))))))))))))))))));exact Ox rfl rfl rfl (OT (Nl (J2z rfl (Rg (Oa (Nl (W.ret (Je rfl (resV.t rfl) (Ret.intro (congrArg (Value.int _) ((by first | exact Yn (jo (by first | exact .inl ⟨by assumption,by assumption⟩ | exact .inr (.inl ⟨by assumption,by assumption⟩) | exact .inr (.inr ⟨by assumption,by assumption⟩))) | (exfalso;omega)))) C162.below)))))))))
  refine Om (Ox rfl rfl rfl (Ox rfl rfl rfl (Ox rfl rfl rfl (Ox rfl rfl rfl (OF (Om (Og rfl rfl (St.fieldAddr Zh rfl (Og rfl rfl (J20 o156 pl3 rfl rfl (Og rfl rfl (J3f rfl rfl (fun hc182=>?_) (fun hc182=>?_)))))))))))))
  ·refine Og rfl rfl (St.move (Og rfl rfl (St.fieldAddr K0 rfl (Og rfl rfl (J20 o156 pl9 rfl rfl (Og rfl rfl (J38 rfl rfl (fun hc183=>?_) (fun hc183=>?_))))))))
   ·exact Og rfl rfl (St.pick (t:=true) rfl (OF (Om (Ox rfl rfl rfl (Ox rfl rfl rfl (Ox rfl rfl rfl (Ox rfl rfl rfl (Oy rfl rfl (Oy rfl rfl (Oy rfl rfl (Oy rfl rfl (Ox rfl rfl rfl (OT (Nl (J2z rfl (Rg (Oa (Nl (W.ret (Je rfl (resV.t rfl) (Ret.intro (congrArg (Value.int _) ((by first | exact Yn (jo (by first | exact .inl ⟨by assumption,by assumption⟩ | exact .inr (.inl ⟨by assumption,by assumption⟩) | exact .inr (.inr ⟨by assumption,by assumption⟩))) | (exfalso;omega)))) C154.below)))))))))))))))))))))
   refine Og rfl rfl (St.pick (t:=true) rfl (OF (Om (Og rfl rfl (St.fieldAddr Zh rfl (Og rfl rfl (J20 o156 pl3 rfl rfl (Og rfl rfl (J3f rfl rfl (fun hc184=>?_) (fun hc184=>?_))))))))))
   ·refine Og rfl rfl (St.move (Og rfl rfl (St.fieldAddr Kg rfl (Og rfl rfl (J22 (vs:=[(.bool a.c.num.neg),(.slice a3 a.c.num.mag.length c4),(.bool a.c.den.neg),(.slice a5 a.c.den.mag.length c6)]) o156 ag28 rfl rfl rfl (Og rfl rfl (J2y C154 vb rfl rfl (X5 C154.bd (a:=a.c) (Ze h11 h12) (by omega) (by omega)) ?_)))))));intro v185 w186 C187 s188 h189;replace h10:=h10.sp s188;replace h11:=h11.sp s188;replace h12:=h12.sp s188;replace h13:=h13.sp s188;replace o156:=o156.spn s188;replace o157:=o157.spn s188;subst h189;refine Og rfl rfl (J3f rfl rfl (fun hc190=>?_) (fun hc190=>?_))
    ·exact Og rfl rfl (St.pick (t:=true) rfl (OF (Nl (J2z rfl (Rg (Oa (Nl (W.ret (Je rfl (resV.t rfl) (Ret.intro (congrArg (Value.int _) ((by first | exact Yn (jo (by first | exact .inl ⟨by assumption,by assumption⟩ | exact .inr (.inl ⟨by assumption,by assumption⟩) | exact .inr (.inr ⟨by assumption,by assumption⟩))) | (exfalso;omega)))) C187.below))))))))))
    refine Og rfl rfl (St.pick (t:=true) rfl (OF (Nl (J21 rfl (W.skip (⟨_,_,C187,rfl,h10,h11,h12,h13,o156,o157,(by first | exact(Vk (by first | exact .inl ⟨by assumption,by assumption⟩ | exact .inr ⟨by assumption,by assumption⟩) (by first | exact .inl (by assumption) | exact .inr (by assumption))) | (exfalso;omega))⟩))))))
   refine Og rfl rfl (St.move (Ox rfl rfl rfl (Ox rfl rfl rfl (Ox rfl rfl rfl (Ox rfl rfl rfl (Og rfl rfl (St.pick (t:=false) rfl (OF (Nl (J21 rfl (W.skip (⟨_,_,C154,rfl,h10,h11,h12,h13,o156,o157,(by first | exact(Vk (by first | exact .inl ⟨by assumption,by assumption⟩ | exact .inr ⟨by assumption,by assumption⟩) (by first | exact .inl (by assumption) | exact .inr (by assumption))) | (exfalso;omega))⟩))))))))))))
  refine Og rfl rfl (St.move (Ox rfl rfl rfl (Ox rfl rfl rfl (Ox rfl rfl rfl (Og rfl rfl (St.pick (t:=false) rfl (OF (Om (Og rfl rfl (St.fieldAddr Zh rfl (Og rfl rfl (J20 o156 pl3 rfl rfl (Og rfl rfl (J3f rfl rfl (fun hc191=>?_) (fun hc191=>?_)))))))))))))))
  ·refine Og rfl rfl (St.move (Og rfl rfl (St.fieldAddr Kg rfl (Og rfl rfl (J22 (vs:=[(.bool a.c.num.neg),(.slice a3 a.c.num.mag.length c4),(.bool a.c.den.neg),(.slice a5 a.c.den.mag.length c6)]) o156 ag28 rfl rfl rfl (Og rfl rfl (J2y C154 vb rfl rfl (X5 C154.bd (a:=a.c) (Ze h11 h12) (by omega) (by omega)) ?_)))))));intro v192 w193 C194 s195 h196;replace h10:=h10.sp s195;replace h11:=h11.sp s195;replace h12:=h12.sp s195;replace h13:=h13.sp s195;replace o156:=o156.spn s195;replace o157:=o157.spn s195;subst h196;refine Og rfl rfl (J3f rfl rfl (fun hc197=>?_) (fun hc197=>?_))
   ·exact Og rfl rfl (St.pick (t:=true) rfl (OF (Nl (J2z rfl (Rg (Oa (Nl (W.ret (Je rfl (resV.t rfl) (Ret.intro (congrArg (Value.int _) ((by first | exact Yn (jo (by first | exact .inl ⟨by assumption,by assumption⟩ | exact .inr (.inl ⟨by assumption,by assumption⟩) | exact .inr (.inr ⟨by assumption,by assumption⟩))) | (exfalso;omega)))) C194.below))))))))))
   refine Og rfl rfl (St.pick (t:=true) rfl (OF (Nl (J21 rfl (W.skip (⟨_,_,C194,rfl,h10,h11,h12,h13,o156,o157,(by first | exact(Vk (by first | exact .inl ⟨by assumption,by assumption⟩ | exact .inr ⟨by assumption,by assumption⟩) (by first | exact .inl (by assumption) | exact .inr (by assumption))) | (exfalso;omega))⟩))))))
  refine Og rfl rfl (St.move (Ox rfl rfl rfl (Ox rfl rfl rfl (Ox rfl rfl rfl (Ox rfl rfl rfl (Og rfl rfl (St.pick (t:=false) rfl (OF (Nl (J21 rfl (W.skip (⟨_,_,C154,rfl,h10,h11,h12,h13,o156,o157,(by first | exact(Vk (by first | exact .inl ⟨by assumption,by assumption⟩ | exact .inr ⟨by assumption,by assumption⟩) (by first | exact .inl (by assumption) | exact .inr (by assumption))) | (exfalso;omega))⟩))))))))))))
 rintro f198 w199 ⟨x200,y201,C202,e203,h10,h11,h12,h13,o204,o205,hnm⟩;obtain⟨f206,rfl⟩:=rebK (aC e203 aN);clear e203;refine Rg (Oa (Oa (Nl (W.seq (J39 (fun f v=>∃ (x y:Nat→Prop),Cx X w x y v∧f 1=(.pointer (some ⟨g14,0,none⟩))∧f 5=(.int .i64 (lA a.op))∧f 6=(.int .i64 (lB a.op))∧RS Zq x v (.slice a1 a.n.length c2) a.n∧RS Jc x v (.slice a3 a.c.num.mag.length c4) a.c.num.mag∧RS Jc x v (.slice a5 a.c.den.mag.length c6) a.c.den.mag∧RS Jm x v (.slice a7 a.args.length c8) a.args∧Own w y v g14 [(.int .i64 a.op),(.slice a1 a.n.length c2),(.bool a.c.num.neg),(.slice a3 a.c.num.mag.length c4),(.bool a.c.den.neg),(.slice a5 a.c.den.mag.length c6),(str a.name),(.slice a7 a.args.length c8)] 31∧Own w y v g31 [(.int .i64 (sA a.op)),(.int .i64 (sB a.op)),(.int .i64 (sC a.op))] 125) ?_ ?_)))))
 ·refine Rg (O rfl (St.fieldAddr Zh rfl (O rfl (J20 o204 pl3 rfl rfl (Nl (W.block (Rg (O rfl (J3b rfl rfl (fun hc207=>?_) (fun hc207=>?_))))))))))
  ·refine Oa (Nl (J2z rfl (W.region (Oa (Oa (Nl (⟨_,_,C202,rfl,(congrArg (Value.int _) (by unfold lA;(repeat' split) <;> omega)),(congrArg (Value.int _) (by unfold lB;(repeat' split) <;> omega)),h10,h11,h12,h13,o204,o205⟩)))))))
  refine Oa (Nl (J21 rfl (Rh (O rfl (J3b rfl rfl (fun hc208=>?_) (fun hc208=>?_))))))
  ·refine Oa (Nl (J2z rfl (W.skip (J2z rfl (W.region (Oa (Oa (Nl (⟨_,_,C202,rfl,(congrArg (Value.int _) (by unfold lA;(repeat' split) <;> omega)),(congrArg (Value.int _) (by unfold lB;(repeat' split) <;> omega)),h10,h11,h12,h13,o204,o205⟩)))))))))
  refine Oa (Nl (J21 rfl (Rg (O rfl (J3b rfl rfl (fun hc209=>?_) (fun hc209=>?_))))))
  ·refine Oa (Nl (J2z rfl (W.skip (J2z rfl (W.region (Oa (Oa (Nl (⟨_,_,C202,rfl,(congrArg (Value.int _) (by unfold lA;(repeat' split) <;> omega)),(congrArg (Value.int _) (by unfold lB;(repeat' split) <;> omega)),h10,h11,h12,h13,o204,o205⟩)))))))))
  refine Oa (Nl (J21 rfl (W.region (O rfl (J3b rfl rfl (fun hc210=>?_) (fun hc210=>?_))))))
  ·refine Oa (Nl (J2z rfl (W.region (Oa (Oa (Nl (⟨_,_,C202,rfl,(congrArg (Value.int _) (by unfold lA;(repeat' split) <;> omega)),(congrArg (Value.int _) (by unfold lB;(repeat' split) <;> omega)),h10,h11,h12,h13,o204,o205⟩)))))))
  refine Oa (Nl (J21 rfl (Rg (O rfl (J3b rfl rfl (fun hc211=>?_) (fun hc211=>?_))))))
  ·refine Oa (Nl (J2z rfl (W.region (Oa (Oa (Nl (⟨_,_,C202,rfl,(congrArg (Value.int _) (by unfold lA;(repeat' split) <;> omega)),(congrArg (Value.int _) (by unfold lB;(repeat' split) <;> omega)),h10,h11,h12,h13,o204,o205⟩)))))))
  refine Oa (Nl (J21 rfl (Rg (O rfl (J3b rfl rfl (fun hc212=>?_) (fun hc212=>?_))))))
  ·refine Oa (Nl (J2z rfl (W.region (Oa (Nl (⟨_,_,C202,rfl,(congrArg (Value.int _) (by unfold lA;(repeat' split) <;> omega)),(congrArg (Value.int _) (by unfold lB;(repeat' split) <;> omega)),h10,h11,h12,h13,o204,o205⟩))))))
  refine Oa (Nl (J21 rfl (W.skip (⟨_,_,C202,rfl,(congrArg (Value.int _) (by unfold lA;(repeat' split) <;> omega)),(congrArg (Value.int _) (by unfold lB;(repeat' split) <;> omega)),h10,h11,h12,h13,o204,o205⟩))))
 rintro f213 w214 ⟨x215,y216,C217,e218,e219,e220,h10,h11,h12,h13,o221,o222⟩;obtain⟨f223,rfl⟩:=rebK (aC e218 (aC e219 (aC e220 aN)));clear e218 e219 e220;refine Rh (O rfl (St.fieldAddr Kj rfl (O rfl (J20 o221 pl23 rfl rfl (O rfl (St.len sl23 rfl (Om (Nl (W.block (J3g (fun μ f v=>∃ (x y:Nat→Prop) (i:Nat),Cx X w x y v∧f 5=(.int .i64 (lA a.op))∧f 6=(.int .i64 (lB a.op))∧f 100=(.slice a1 a.n.length c2)∧f 101=(.int .i64 ((a.n.length:Nat):Int))∧f 102=(.int .i64 ((i:Nat):Int))∧RS Zq x v (.slice a1 a.n.length c2) a.n∧RS Jc x v (.slice a3 a.c.num.mag.length c4) a.c.num.mag∧RS Jc x v (.slice a5 a.c.den.mag.length c6) a.c.den.mag∧RS Jm x v (.slice a7 a.args.length c8) a.args∧Own w y v g14 [(.int .i64 a.op),(.slice a1 a.n.length c2),(.bool a.c.num.neg),(.slice a3 a.c.num.mag.length c4),(.bool a.c.den.neg),(.slice a5 a.c.den.mag.length c6),(str a.name),(.slice a7 a.args.length c8)] 31∧Own w y v g31 [(.int .i64 (sA a.op)),(.int .i64 (sB a.op)),(.int .i64 (sC a.op))] 125∧i≤a.n.length∧(∀ j,j < i→lA a.op≤a.n.getD j 0∧a.n.getD j 0≤lB a.op)∧μ=(a.n.length - i)) _ ⟨_,_,0,C217,rfl,rfl,rfl,rfl,rfl,h10,h11,h12,h13,o221,o222,(Nat.zero_le _),(fun _ h=>absurd h (Nat.not_lt_zero _)),rfl⟩ ?_))))))))));rintro m237 f224 w225 ⟨x226,y227,i,C228,e229,e230,e231,e232,e233,h10,h11,h12,h13,o234,o235,hi,hall,hmu236⟩;obtain⟨f238,rfl⟩:=rebK (aC e229 (aC e230 (aC e231 (aC e232 (aC e233 aN)))));clear e229 e230 e231 e232 e233;refine Rg (O rfl (J3c rfl rfl (fun hc239=>?_) (fun hc239=>?_)))
 ·refine Nl (W.seq (J2z rfl (W.skip (W.seq (W.block (Rg (O rfl (J3d (j:=i) (u:=(a.n.getD i 0)) h10 sl23 io3 rfl rfl rfl (Jg (by omega)) ?_))))))));intro b240 o241 cs242 e243;obtain⟨rfl,bd244⟩:cs242=_∧_:=e243.rd;refine O rfl (J29 pl3 rfl (e243.cell 0 _ rfl) (Oa (Nl (Rg (Om (Om (O rfl (J3c rfl rfl (fun hc245=>?_) (fun hc245=>?_)))))))))
  ·exact Om (Ox rfl rfl rfl (Ox rfl rfl rfl (Ox rfl rfl rfl (OT (Nl (J2z rfl (Rg (Oa (Nl (W.ret (Je rfl (resV.t rfl) (Ret.intro (congrArg (Value.int _) (k7 hcn hnm (i:=i) (by omega) (by omega))) C228.below))))))))))))
  refine Om (Og rfl rfl (St.move (Og rfl rfl (St.move (Og rfl rfl (J3m rfl rfl (fun hc246=>?_) (fun hc246=>?_)))))))
  ·exact OF (Nl (J2z rfl (Rg (Oa (Nl (W.ret (Je rfl (resV.t rfl) (Ret.intro (congrArg (Value.int _) (k7 hcn hnm (i:=i) (by omega) (by omega))) C228.below))))))))
  refine OF (Nl (J21 rfl (W.skip (W.region (O rfl (St.add rfl rfl (Jd (a:=i) (b:=1) (by omega)) (Om (Nl (⟨_,(by omega),_,_,(i+1),C228,rfl,rfl,rfl,rfl,rfl,h10,h11,h12,h13,o234,o235,(by omega),(Ks hall ⟨by omega,by omega⟩),rfl⟩)))))))))
 exact Nl (W.seq (J21 rfl (W.exit (Rg (Oa (Nl (W.ret (Je rfl (resV.t rfl) (Ret.intro (congrArg (Value.int _) (Jvc hcn hnm (i:=i) (by omega) hall)) C228.below)))))))))
theorem Ji3(N:Nat):∀ {X:Nat→Prop} {w:World} (hX:∀ b,X b→b < w.heap.size) {v0:Value} {a:GExpr} (r0:RV Jm X w v0 a) (h60:cntE a≤60) (hok:okE a) (hN:(SizeOf.sizeOf a) < N),Calls Tryz.prog 50 #[v0] w (Ret w fun v w'=>v=(.int .i64 (errE a))):=by
 induction N with
 | zero=>intro X w hX v0 a r0 h60 hok hN;exact absurd hN (Nat.not_lt_zero _)
 | succ N ih=>
  intro X w hX v0 a r0 h60 hok hN;obtain⟨a1,c2,a3,c4,a5,c6,a7,c8,rfl,h9⟩:=J3k r0;have h10:=h9.n;have h11:=h9.num;have h12:=h9.den;have h13:=h9.args;have C:=J25 hX;have hal:=r0.args_max;have hce:=Xx a;have hac:=xz a;refine J24 (args:=[(.agg #[(.int .i64 a.op),(.slice a1 a.n.length c2),(.bool a.c.num.neg),(.slice a3 a.c.num.mag.length c4),(.bool a.c.den.neg),(.slice a5 a.c.den.mag.length c6),(str a.name),(.slice a7 a.args.length c8)])]) Tryz.func50 rfl rfl (Nat.le_of_ble_eq_true rfl) (Rg (O rfl (J3a C rfl ?_)));intro g14 w15 x16 y17 lt18 C19 s20 o21;replace h10:=h10.sp s20;replace h11:=h11.sp s20;replace h12:=h12.sp s20;replace h13:=h13.sp s20;refine Oa (Nl (Rh (O rfl (J22 (vs:=[(.int .i64 a.op),(.slice a1 a.n.length c2),(.bool a.c.num.neg),(.slice a3 a.c.num.mag.length c4),(.bool a.c.den.neg),(.slice a5 a.c.den.mag.length c6),(str a.name),(.slice a7 a.args.length c8)]) o21 ag31 rfl rfl rfl (O rfl (J2y C19 cb80 rfl rfl (Jys C19.bd (Jz a h9.lo h9.hi h9.name h10 h11 h12 h13) (by omega) hok) ?_))))));intro v22 w23 C24 s25 h26;replace h10:=h10.sp s25;replace h11:=h11.sp s25;replace h12:=h12.sp s25;replace h13:=h13.sp s25;replace o21:=o21.spn s25;subst h26;refine Oa (Nl (Rg (Om (O rfl (J3f rfl rfl (fun hc27=>?_) (fun hc27=>?_))))))
  ·exact Nl (J2z rfl (Rg (Om (Oa (Nl (W.ret (Je rfl (resV.t rfl) (Ret.intro (congrArg (Value.int _) (Km rfl hc27)) C24.below))))))))
  refine Nl (J21 rfl (W.skip (Rh (O rfl (St.fieldAddr Zl rfl (O rfl (J20 o21 pl29 rfl rfl (O rfl (St.len sl29 rfl (Om (Nl (W.block (J3g (fun μ f v=>∃ (x y:Nat→Prop) (i:Nat),Cx X w x y v∧f 13=(.slice a7 a.args.length c8)∧f 14=(.int .i64 ((a.args.length:Nat):Int))∧f 15=(.int .i64 ((i:Nat):Int))∧RS Zq x v (.slice a1 a.n.length c2) a.n∧RS Jc x v (.slice a3 a.c.num.mag.length c4) a.c.num.mag∧RS Jc x v (.slice a5 a.c.den.mag.length c6) a.c.den.mag∧RS Jm x v (.slice a7 a.args.length c8) a.args∧Own w y v g14 [(.int .i64 a.op),(.slice a1 a.n.length c2),(.bool a.c.num.neg),(.slice a3 a.c.num.mag.length c4),(.bool a.c.den.neg),(.slice a5 a.c.den.mag.length c6),(str a.name),(.slice a7 a.args.length c8)] 31∧i≤a.args.length∧errL (a.args.drop i)=errL a.args∧μ=(a.args.length - i)) _ ⟨_,_,0,C24,rfl,rfl,rfl,h10,h11,h12,h13,o21,(Nat.zero_le _),rfl,rfl⟩ ?_)))))))))))));rintro m38 f28 w29 ⟨x30,y31,i,C32,e33,e34,e35,h10,h11,h12,h13,o36,hi,hv,hmu37⟩;obtain⟨f39,rfl⟩:=rebK (aC e33 (aC e34 (aC e35 aN)));clear e33 e34 e35;refine Rg (O rfl (J3c rfl rfl (fun hc40=>?_) (fun hc40=>?_)))
  ·refine Nl (W.seq (J2z rfl (W.skip (W.seq (W.block (Rg (O rfl (J3d (j:=i) (u:=(a.args.getD i default)) h13 sl29 io31 rfl rfl rfl (Jg (by omega)) ?_))))))));intro b41 o42 cs43 e44;obtain⟨a45,c46,a47,c48,a49,c50,a51,c52,rfl,h53⟩:=J1 e44.rd;have h54:=h53.n;have h55:=h53.num;have h56:=h53.den;have h57:=h53.args;refine O rfl (J3w (cs:=[(.int .i64 (a.args.getD i default).op),(.slice a45 (a.args.getD i default).n.length c46),(.bool (a.args.getD i default).c.num.neg),(.slice a47 (a.args.getD i default).c.num.mag.length c48),(.bool (a.args.getD i default).c.den.neg),(.slice a49 (a.args.getD i default).c.den.mag.length c50),(str (a.args.getD i default).name),(.slice a51 (a.args.getD i default).args.length c52)]) ag31 rfl rfl e44.cell ?_);refine O rfl (J26 C32 io31 rfl ?_);intro g58 w59 x60 y61 lt62 C63 s64 o65;have n66:=lt62 _ o36.blk.lt;replace h10:=h10.sp s64;replace h11:=h11.sp s64;replace h12:=h12.sp s64;replace h13:=h13.sp s64;replace o36:=o36.spn s64;refine On (J23 (cs':=[(.int .i64 (a.args.getD i default).op),(.slice a45 (a.args.getD i default).n.length c46),(.bool (a.args.getD i default).c.num.neg),(.slice a47 (a.args.getD i default).c.num.mag.length c48),(.bool (a.args.getD i default).c.den.neg),(.slice a49 (a.args.getD i default).c.den.mag.length c50),(str (a.args.getD i default).name),(.slice a51 (a.args.getD i default).args.length c52)]) C63 o65 io31 rfl rfl rfl rfl rfl rfl ?_);intro w67 C68 s69 o70;replace h54:=(h54.sp s64).sp s69;replace h55:=(h55.sp s64).sp s69;replace h56:=(h56.sp s64).sp s69;replace h57:=(h57.sp s64).sp s69;refine Nl (Rg (O rfl (J22 (vs:=[(.int .i64 (a.args.getD i default).op),(.slice a45 (a.args.getD i default).n.length c46),(.bool (a.args.getD i default).c.num.neg),(.slice a47 (a.args.getD i default).c.num.mag.length c48),(.bool (a.args.getD i default).c.den.neg),(.slice a49 (a.args.getD i default).c.den.mag.length c50),(str (a.args.getD i default).name),(.slice a51 (a.args.getD i default).args.length c52)]) o70 ag31 rfl rfl rfl ?_)));refine O rfl (J2y C68 cb50 rfl rfl (ih C68.bd (Jz (a.args.getD i default) h53.lo h53.hi h53.name h54 h55 h56 h57) (by have h7:=Jgc (l:=a.args) (i:=i) (by omega);omega) (Jp4 hok (by omega)) (Nat.lt_of_lt_of_le (Qv (by omega)) (Nat.le_of_lt_succ hN))) ?_);intro v71 w72 C73 s74 h75;replace h10:=(h10.sp s69).sp s74;replace h11:=(h11.sp s69).sp s74;replace h12:=(h12.sp s69).sp s74;replace h13:=(h13.sp s69).sp s74;replace o36:=(o36.spo s69 n66).spn s74;subst h75;refine Oa (Nl (Rg (Om (O rfl (J3f rfl rfl (fun hc76=>?_) (fun hc76=>?_))))))
   ·exact Nl (J2z rfl (Rg (Om (Oa (Nl (W.ret (Je rfl (resV.t rfl) (Ret.intro (congrArg (Value.int _) (Jla hc27 (by omega) hv hc76)) C73.below))))))))
   refine Nl (J21 rfl (W.skip (W.region (O rfl (St.add rfl rfl (Jd (a:=i) (b:=1) (by omega)) (Om (Nl (⟨_,(by omega),_,_,(i+1),C73,rfl,rfl,rfl,h10,h11,h12,h13,o36,(by omega),(Ji6 (by omega) hv hc76),rfl⟩))))))))
  exact Nl (W.seq (J21 rfl (W.exit (Rg (Oa (Nl (W.ret (Je rfl (resV.t rfl) (Ret.intro (congrArg (Value.int _) (Jp1 hc27 (by omega) hv)) C32.below)))))))))
theorem Jrj{X:Nat→Prop}{w:World}(hX:∀ b,X b→b < w.heap.size){v0:Value}{a:GExpr}(r0:RV Jm X w v0 a)(h60:cntE a≤60)(hok:okE a):Calls Tryz.prog 50 #[v0] w (Ret w fun v w'=>v=(.int .i64 (errE a))):=Ji3 ((SizeOf.sizeOf a)+1) hX r0 h60 hok (Nat.lt_succ_self _)
theorem Js0{X:Nat→Prop}{w:World}(hX:∀ b,X b→b < w.heap.size){v0:Value}{a:GExpr}(r0:RV Jm X w v0 a)(hok:okE a):Calls Tryz.prog 20 #[v0] w (Ret w fun v w'=>v=(.int .i64 (zm a))):=by
 obtain⟨a1,c2,a3,c4,a5,c6,a7,c8,rfl,h9⟩:=J3k r0;have h10:=h9.n;have h11:=h9.num;have h12:=h9.den;have h13:=h9.args;have C:=J25 hX;refine J24 (args:=[(.agg #[(.int .i64 a.op),(.slice a1 a.n.length c2),(.bool a.c.num.neg),(.slice a3 a.c.num.mag.length c4),(.bool a.c.den.neg),(.slice a5 a.c.den.mag.length c6),(str a.name),(.slice a7 a.args.length c8)])]) Tryz.func20 rfl rfl (Nat.le_of_ble_eq_true rfl) (Rg (O rfl (J3a C rfl ?_)));intro g14 w15 x16 y17 lt18 C19 s20 o21;replace h10:=h10.sp s20;replace h11:=h11.sp s20;replace h12:=h12.sp s20;replace h13:=h13.sp s20;refine Oa (Nl (Rh (O rfl (J22 (vs:=[(.int .i64 a.op),(.slice a1 a.n.length c2),(.bool a.c.num.neg),(.slice a3 a.c.num.mag.length c4),(.bool a.c.den.neg),(.slice a5 a.c.den.mag.length c6),(str a.name),(.slice a7 a.args.length c8)]) o21 ag31 rfl rfl rfl (O rfl (St.bool (J2y C19 cb49 rfl rfl (Jr5 C19.bd (Jz a h9.lo h9.hi h9.name h10 h11 h12 h13)) ?_)))))));intro v22 w23 C24 s25 h26;replace h10:=h10.sp s25;replace h11:=h11.sp s25;replace h12:=h12.sp s25;replace h13:=h13.sp s25;replace o21:=o21.spn s25;refine⟨_,h26,fun hb27=>?_,fun hb27=>?_⟩
 ·refine O rfl (St.not rfl (Nl (J21 rfl (W.skip (Rg (O rfl (J22 (vs:=[(.int .i64 a.op),(.slice a1 a.n.length c2),(.bool a.c.num.neg),(.slice a3 a.c.num.mag.length c4),(.bool a.c.den.neg),(.slice a5 a.c.den.mag.length c6),(str a.name),(.slice a7 a.args.length c8)]) o21 ag31 rfl rfl rfl (O rfl (J2y C24 cb50 rfl rfl (Jrj C24.bd (Jz a h9.lo h9.hi h9.name h10 h11 h12 h13) (of_decide_eq_true hb27).1 hok) ?_)))))))));intro v28 w29 C30 s31 h32;subst h32;exact Oa (Nl (W.ret (Je rfl (resV.t rfl) (Ret.intro (congrArg (Value.int _) (Jjw (of_decide_eq_true hb27))) C30.below))))
 exact O rfl (St.not rfl (Nl (J2z rfl (Rg (Oa (Nl (W.ret (Je rfl (resV.t rfl) (Ret.intro (congrArg (Value.int _) (q8 (of_decide_eq_false hb27))) C24.below)))))))))
theorem Jo6{X:Nat→Prop}{w:World}(hX:∀ b,X b→b < w.heap.size){n:Int}(h1:1≤n)(h2:n≤18):Calls Tryz.prog 81 #[(.int .i64 n)] w (Ret w fun v w'=>∃ v0 v1 v2 v3,v= .tuple #[v0,v1,v2,v3]∧(v0=(.int .i64 (cA n)))∧(v1=(.int .i64 (cB n)))∧(v2=(.int .i64 (cC n)))∧(v3=(.int .i64 (cD n)))):=by
 have C:=J25 hX;refine J24 (args:=[(.int .i64 n)]) Tryz.func81 rfl rfl (Nat.le_of_ble_eq_true rfl) (Rg (Oa (Oa (Oa (Oa (Nl (Rh (Om (Nl (W.block (Rh (O rfl (J3b rfl rfl (fun hc1=>?_) (fun hc1=>?_))))))))))))))
 ·refine Oa (Nl (J2z rfl (W.skip (J2z rfl (Rg (Oa (Oa (Oa (Oa (Nl (W.ret (Qf rfl (resV.t rfl) (resV.t rfl) (resV.t rfl) (resV.t rfl) (Ret.intro ?_ C.below)))))))))))));refine⟨_,_,_,_,rfl,?_,?_,?_,?_⟩
  ·skip
   exact congrArg (Value.int _) ((by unfold cA;(repeat' split) <;> omega))
  ·skip
   exact congrArg (Value.int _) ((by unfold cB;(repeat' split) <;> omega))
  ·skip
   exact congrArg (Value.int _) ((by unfold cC;(repeat' split) <;> omega))
  ·skip
   exact congrArg (Value.int _) ((by unfold cD;(repeat' split) <;> omega))
 refine Oa (Nl (J21 rfl (Rg (O rfl (J3b rfl rfl (fun hc2=>?_) (fun hc2=>?_))))))
 ·refine Oa (Nl (J2z rfl (W.skip (J2z rfl (Rg (Oa (Oa (Oa (Oa (Nl (W.ret (Qf rfl (resV.t rfl) (resV.t rfl) (resV.t rfl) (resV.t rfl) (Ret.intro ?_ C.below)))))))))))));refine⟨_,_,_,_,rfl,?_,?_,?_,?_⟩
  ·skip
   exact congrArg (Value.int _) ((by unfold cA;(repeat' split) <;> omega))
  ·skip
   exact congrArg (Value.int _) ((by unfold cB;(repeat' split) <;> omega))
  ·skip
   exact congrArg (Value.int _) ((by unfold cC;(repeat' split) <;> omega))
  ·skip
   exact congrArg (Value.int _) ((by unfold cD;(repeat' split) <;> omega))
 refine Oa (Nl (J21 rfl (Rg (O rfl (J3b rfl rfl (fun hc3=>?_) (fun hc3=>?_))))))
 ·refine Oa (Nl (J2z rfl (W.skip (J2z rfl (Rg (Oa (Oa (Oa (Oa (Nl (W.ret (Qf rfl (resV.t rfl) (resV.t rfl) (resV.t rfl) (resV.t rfl) (Ret.intro ?_ C.below)))))))))))));refine⟨_,_,_,_,rfl,?_,?_,?_,?_⟩
  ·skip
   exact congrArg (Value.int _) ((by unfold cA;(repeat' split) <;> omega))
  ·skip
   exact congrArg (Value.int _) ((by unfold cB;(repeat' split) <;> omega))
  ·skip
   exact congrArg (Value.int _) ((by unfold cC;(repeat' split) <;> omega))
  ·skip
   exact congrArg (Value.int _) ((by unfold cD;(repeat' split) <;> omega))
 refine Oa (Nl (J21 rfl (W.region (O rfl (J3b rfl rfl (fun hc4=>?_) (fun hc4=>?_))))))
 ·refine Oa (Nl (J2z rfl (Rg (Oa (Oa (Oa (Oa (Nl (W.ret (Qf rfl (resV.t rfl) (resV.t rfl) (resV.t rfl) (resV.t rfl) (Ret.intro ?_ C.below)))))))))));refine⟨_,_,_,_,rfl,?_,?_,?_,?_⟩
  ·skip
   exact congrArg (Value.int _) ((by unfold cA;(repeat' split) <;> omega))
  ·skip
   exact congrArg (Value.int _) ((by unfold cB;(repeat' split) <;> omega))
  ·skip
   exact congrArg (Value.int _) ((by unfold cC;(repeat' split) <;> omega))
  ·skip
   exact congrArg (Value.int _) ((by unfold cD;(repeat' split) <;> omega))
 refine Oa (Nl (J21 rfl (Rg (O rfl (J3b rfl rfl (fun hc5=>?_) (fun hc5=>?_))))))
 ·refine Oa (Nl (J2z rfl (Rg (Oa (Oa (Oa (Oa (Nl (W.ret (Qf rfl (resV.t rfl) (resV.t rfl) (resV.t rfl) (resV.t rfl) (Ret.intro ?_ C.below)))))))))));refine⟨_,_,_,_,rfl,?_,?_,?_,?_⟩
  ·skip
   exact congrArg (Value.int _) ((by unfold cA;(repeat' split) <;> omega))
  ·skip
   exact congrArg (Value.int _) ((by unfold cB;(repeat' split) <;> omega))
  ·skip
   exact congrArg (Value.int _) ((by unfold cC;(repeat' split) <;> omega))
  ·skip
   exact congrArg (Value.int _) ((by unfold cD;(repeat' split) <;> omega))
 refine Oa (Nl (J21 rfl (Rh (O rfl (J3b rfl rfl (fun hc6=>?_) (fun hc6=>?_))))))
 ·refine Oa (Nl (J2z rfl (W.skip (J2z rfl (Rg (Oa (Oa (Oa (Oa (Nl (W.ret (Qf rfl (resV.t rfl) (resV.t rfl) (resV.t rfl) (resV.t rfl) (Ret.intro ?_ C.below)))))))))))));refine⟨_,_,_,_,rfl,?_,?_,?_,?_⟩
  ·skip
   exact congrArg (Value.int _) ((by unfold cA;(repeat' split) <;> omega))
  ·skip
   exact congrArg (Value.int _) ((by unfold cB;(repeat' split) <;> omega))
  ·skip
   exact congrArg (Value.int _) ((by unfold cC;(repeat' split) <;> omega))
  ·skip
   exact congrArg (Value.int _) ((by unfold cD;(repeat' split) <;> omega))
 refine Oa (Nl (J21 rfl (W.region (O rfl (J3b rfl rfl (fun hc7=>?_) (fun hc7=>?_))))))
 ·refine Oa (Nl (J2z rfl (Rg (Oa (Oa (Oa (Oa (Nl (W.ret (Qf rfl (resV.t rfl) (resV.t rfl) (resV.t rfl) (resV.t rfl) (Ret.intro ?_ C.below)))))))))));refine⟨_,_,_,_,rfl,?_,?_,?_,?_⟩
  ·skip
   exact congrArg (Value.int _) ((by unfold cA;(repeat' split) <;> omega))
  ·skip
   exact congrArg (Value.int _) ((by unfold cB;(repeat' split) <;> omega))
  ·skip
   exact congrArg (Value.int _) ((by unfold cC;(repeat' split) <;> omega))
  ·skip
   exact congrArg (Value.int _) ((by unfold cD;(repeat' split) <;> omega))
 refine Oa (Nl (J21 rfl (Rg (O rfl (J3b rfl rfl (fun hc8=>?_) (fun hc8=>?_))))))
 ·refine Oa (Nl (J2z rfl (Rg (Oa (Oa (Oa (Oa (Nl (W.ret (Qf rfl (resV.t rfl) (resV.t rfl) (resV.t rfl) (resV.t rfl) (Ret.intro ?_ C.below)))))))))));refine⟨_,_,_,_,rfl,?_,?_,?_,?_⟩
  ·skip
   exact congrArg (Value.int _) ((by unfold cA;(repeat' split) <;> omega))
  ·skip
   exact congrArg (Value.int _) ((by unfold cB;(repeat' split) <;> omega))
  ·skip
   exact congrArg (Value.int _) ((by unfold cC;(repeat' split) <;> omega))
  ·skip
   exact congrArg (Value.int _) ((by unfold cD;(repeat' split) <;> omega))
 refine Oa (Nl (J21 rfl (Rg (O rfl (J3b rfl rfl (fun hc9=>?_) (fun hc9=>?_))))))
 ·refine Oa (Nl (J2z rfl (Rg (Oa (Oa (Oa (Oa (Nl (W.ret (Qf rfl (resV.t rfl) (resV.t rfl) (resV.t rfl) (resV.t rfl) (Ret.intro ?_ C.below)))))))))));refine⟨_,_,_,_,rfl,?_,?_,?_,?_⟩
  ·skip
   exact congrArg (Value.int _) ((by unfold cA;(repeat' split) <;> omega))
  ·skip
   exact congrArg (Value.int _) ((by unfold cB;(repeat' split) <;> omega))
  ·skip
   exact congrArg (Value.int _) ((by unfold cC;(repeat' split) <;> omega))
  ·skip
   exact congrArg (Value.int _) ((by unfold cD;(repeat' split) <;> omega))
 refine Oa (Nl (J21 rfl (Rh (O rfl (J3b rfl rfl (fun hc10=>?_) (fun hc10=>?_))))))
 ·refine Oa (Nl (J2z rfl (W.skip (J2z rfl (Rg (Oa (Oa (Oa (Oa (Nl (W.ret (Qf rfl (resV.t rfl) (resV.t rfl) (resV.t rfl) (resV.t rfl) (Ret.intro ?_ C.below)))))))))))));refine⟨_,_,_,_,rfl,?_,?_,?_,?_⟩
  ·skip
   exact congrArg (Value.int _) ((by unfold cA;(repeat' split) <;> omega))
  ·skip
   exact congrArg (Value.int _) ((by unfold cB;(repeat' split) <;> omega))
  ·skip
   exact congrArg (Value.int _) ((by unfold cC;(repeat' split) <;> omega))
  ·skip
   exact congrArg (Value.int _) ((by unfold cD;(repeat' split) <;> omega))
 refine Oa (Nl (J21 rfl (W.region (O rfl (J3b rfl rfl (fun hc11=>?_) (fun hc11=>?_))))))
 ·refine Oa (Nl (J2z rfl (Rg (Oa (Oa (Oa (Oa (Nl (W.ret (Qf rfl (resV.t rfl) (resV.t rfl) (resV.t rfl) (resV.t rfl) (Ret.intro ?_ C.below)))))))))));refine⟨_,_,_,_,rfl,?_,?_,?_,?_⟩
  ·skip
   exact congrArg (Value.int _) ((by unfold cA;(repeat' split) <;> omega))
  ·skip
   exact congrArg (Value.int _) ((by unfold cB;(repeat' split) <;> omega))
  ·skip
   exact congrArg (Value.int _) ((by unfold cC;(repeat' split) <;> omega))
  ·skip
   exact congrArg (Value.int _) ((by unfold cD;(repeat' split) <;> omega))
 refine Oa (Nl (J21 rfl (Rh (O rfl (J3b rfl rfl (fun hc12=>?_) (fun hc12=>?_))))))
 ·refine Oa (Nl (J2z rfl (W.skip (J2z rfl (Rg (Oa (Oa (Oa (Oa (Nl (W.ret (Qf rfl (resV.t rfl) (resV.t rfl) (resV.t rfl) (resV.t rfl) (Ret.intro ?_ C.below)))))))))))));refine⟨_,_,_,_,rfl,?_,?_,?_,?_⟩
  ·skip
   exact congrArg (Value.int _) ((by unfold cA;(repeat' split) <;> omega))
  ·skip
   exact congrArg (Value.int _) ((by unfold cB;(repeat' split) <;> omega))
  ·skip
   exact congrArg (Value.int _) ((by unfold cC;(repeat' split) <;> omega))
  ·skip
   exact congrArg (Value.int _) ((by unfold cD;(repeat' split) <;> omega))
 refine Oa (Nl (J21 rfl (Rg (O rfl (J3b rfl rfl (fun hc13=>?_) (fun hc13=>?_))))))
 ·refine Oa (Nl (J2z rfl (W.skip (J2z rfl (Rg (Oa (Oa (Oa (Oa (Nl (W.ret (Qf rfl (resV.t rfl) (resV.t rfl) (resV.t rfl) (resV.t rfl) (Ret.intro ?_ C.below)))))))))))));refine⟨_,_,_,_,rfl,?_,?_,?_,?_⟩
  ·skip
   exact congrArg (Value.int _) ((by unfold cA;(repeat' split) <;> omega))
  ·skip
   exact congrArg (Value.int _) ((by unfold cB;(repeat' split) <;> omega))
  ·skip
   exact congrArg (Value.int _) ((by unfold cC;(repeat' split) <;> omega))
  ·skip
   exact congrArg (Value.int _) ((by unfold cD;(repeat' split) <;> omega))
 refine Oa (Nl (J21 rfl (Rg (O rfl (J3b rfl rfl (fun hc14=>?_) (fun hc14=>?_))))))
 ·refine Oa (Nl (J2z rfl (W.skip (J2z rfl (Rg (Oa (Oa (Oa (Oa (Nl (W.ret (Qf rfl (resV.t rfl) (resV.t rfl) (resV.t rfl) (resV.t rfl) (Ret.intro ?_ C.below)))))))))))));refine⟨_,_,_,_,rfl,?_,?_,?_,?_⟩
  ·skip
   exact congrArg (Value.int _) ((by unfold cA;(repeat' split) <;> omega))
  ·skip
   exact congrArg (Value.int _) ((by unfold cB;(repeat' split) <;> omega))
  ·skip
   exact congrArg (Value.int _) ((by unfold cC;(repeat' split) <;> omega))
  ·skip
   exact congrArg (Value.int _) ((by unfold cD;(repeat' split) <;> omega))
 refine Oa (Nl (J21 rfl (Rg (O rfl (J3b rfl rfl (fun hc15=>?_) (fun hc15=>?_))))))
 ·refine Oa (Nl (J2z rfl (W.skip (J2z rfl (Rg (Oa (Oa (Oa (Oa (Nl (W.ret (Qf rfl (resV.t rfl) (resV.t rfl) (resV.t rfl) (resV.t rfl) (Ret.intro ?_ C.below)))))))))))));refine⟨_,_,_,_,rfl,?_,?_,?_,?_⟩
  ·skip
   exact congrArg (Value.int _) ((by unfold cA;(repeat' split) <;> omega))
  ·skip
   exact congrArg (Value.int _) ((by unfold cB;(repeat' split) <;> omega))
  ·skip
   exact congrArg (Value.int _) ((by unfold cC;(repeat' split) <;> omega))
  ·skip
   exact congrArg (Value.int _) ((by unfold cD;(repeat' split) <;> omega))
 refine Oa (Nl (J21 rfl (W.region (O rfl (J3b rfl rfl (fun hc16=>?_) (fun hc16=>?_))))))
 ·refine Oa (Nl (J2z rfl (Rg (Oa (Oa (Oa (Oa (Nl (W.ret (Qf rfl (resV.t rfl) (resV.t rfl) (resV.t rfl) (resV.t rfl) (Ret.intro ?_ C.below)))))))))));refine⟨_,_,_,_,rfl,?_,?_,?_,?_⟩
  ·skip
   exact congrArg (Value.int _) ((by unfold cA;(repeat' split) <;> omega))
  ·skip
   exact congrArg (Value.int _) ((by unfold cB;(repeat' split) <;> omega))
  ·skip
   exact congrArg (Value.int _) ((by unfold cC;(repeat' split) <;> omega))
  ·skip
   exact congrArg (Value.int _) ((by unfold cD;(repeat' split) <;> omega))
 refine Oa (Nl (J21 rfl (Rg (O rfl (J3b rfl rfl (fun hc17=>?_) (fun hc17=>?_))))))
 ·refine Oa (Nl (J2z rfl (Rg (Oa (Oa (Oa (Oa (Nl (W.ret (Qf rfl (resV.t rfl) (resV.t rfl) (resV.t rfl) (resV.t rfl) (Ret.intro ?_ C.below)))))))))));refine⟨_,_,_,_,rfl,?_,?_,?_,?_⟩
  ·skip
   exact congrArg (Value.int _) ((by unfold cA;(repeat' split) <;> omega))
  ·skip
   exact congrArg (Value.int _) ((by unfold cB;(repeat' split) <;> omega))
  ·skip
   exact congrArg (Value.int _) ((by unfold cC;(repeat' split) <;> omega))
  ·skip
   exact congrArg (Value.int _) ((by unfold cD;(repeat' split) <;> omega))
 refine Oa (Nl (J21 rfl (W.skip (Rg (Oa (Oa (Oa (Oa (Nl (W.ret (Qf rfl (resV.t rfl) (resV.t rfl) (resV.t rfl) (resV.t rfl) (Ret.intro ?_ C.below))))))))))));refine⟨_,_,_,_,rfl,?_,?_,?_,?_⟩
 ·skip
  exact congrArg (Value.int _) ((by unfold cA;(repeat' split) <;> omega))
 ·skip
  exact congrArg (Value.int _) ((by unfold cB;(repeat' split) <;> omega))
 ·skip
  exact congrArg (Value.int _) ((by unfold cC;(repeat' split) <;> omega))
 ·skip
  exact congrArg (Value.int _) ((by unfold cD;(repeat' split) <;> omega))
theorem Jo3{X:Nat→Prop}{w:World}(hX:∀ b,X b→b < w.heap.size){n:Int}  :Calls Tryz.prog 83 #[(.int .i64 n)] w (Ret w fun v w'=>∃ v0 v1,v= .tuple #[v0,v1]∧(v0=(.int .i64 (lA n)))∧(v1=(.int .i64 (lB n)))):=by
 have C:=J25 hX;refine J24 (args:=[(.int .i64 n)]) Tryz.func83 rfl rfl (Nat.le_of_ble_eq_true rfl) (Rg (Oa (Oa (Nl (Rh (Om (Nl (W.block (Rg (O rfl (J3b rfl rfl (fun hc1=>?_) (fun hc1=>?_))))))))))))
 ·refine Oa (Nl (J2z rfl (Rg (Oa (Oa (Nl (W.ret (Z4 rfl (resV.t rfl) (resV.t rfl) (Ret.intro ?_ C.below)))))))));refine⟨_,_,rfl,?_,?_⟩
  ·skip
   exact congrArg (Value.int _) ((by unfold lA;(repeat' split) <;> omega))
  ·skip
   exact congrArg (Value.int _) ((by unfold lB;(repeat' split) <;> omega))
 refine Oa (Nl (J21 rfl (Rh (O rfl (J3b rfl rfl (fun hc2=>?_) (fun hc2=>?_))))))
 ·refine Oa (Nl (J2z rfl (W.skip (J2z rfl (Rg (Oa (Oa (Nl (W.ret (Z4 rfl (resV.t rfl) (resV.t rfl) (Ret.intro ?_ C.below)))))))))));refine⟨_,_,rfl,?_,?_⟩
  ·skip
   exact congrArg (Value.int _) ((by unfold lA;(repeat' split) <;> omega))
  ·skip
   exact congrArg (Value.int _) ((by unfold lB;(repeat' split) <;> omega))
 refine Oa (Nl (J21 rfl (Rg (O rfl (J3b rfl rfl (fun hc3=>?_) (fun hc3=>?_))))))
 ·refine Oa (Nl (J2z rfl (W.skip (J2z rfl (Rg (Oa (Oa (Nl (W.ret (Z4 rfl (resV.t rfl) (resV.t rfl) (Ret.intro ?_ C.below)))))))))));refine⟨_,_,rfl,?_,?_⟩
  ·skip
   exact congrArg (Value.int _) ((by unfold lA;(repeat' split) <;> omega))
  ·skip
   exact congrArg (Value.int _) ((by unfold lB;(repeat' split) <;> omega))
 refine Oa (Nl (J21 rfl (W.region (O rfl (J3b rfl rfl (fun hc4=>?_) (fun hc4=>?_))))))
 ·refine Oa (Nl (J2z rfl (Rg (Oa (Oa (Nl (W.ret (Z4 rfl (resV.t rfl) (resV.t rfl) (Ret.intro ?_ C.below)))))))));refine⟨_,_,rfl,?_,?_⟩
  ·skip
   exact congrArg (Value.int _) ((by unfold lA;(repeat' split) <;> omega))
  ·skip
   exact congrArg (Value.int _) ((by unfold lB;(repeat' split) <;> omega))
 refine Oa (Nl (J21 rfl (Rg (O rfl (J3b rfl rfl (fun hc5=>?_) (fun hc5=>?_))))))
 ·refine Oa (Nl (J2z rfl (Rg (Oa (Oa (Nl (W.ret (Z4 rfl (resV.t rfl) (resV.t rfl) (Ret.intro ?_ C.below)))))))));refine⟨_,_,rfl,?_,?_⟩
  ·skip
   exact congrArg (Value.int _) ((by unfold lA;(repeat' split) <;> omega))
  ·skip
   exact congrArg (Value.int _) ((by unfold lB;(repeat' split) <;> omega))
 refine Oa (Nl (J21 rfl (Rg (O rfl (J3b rfl rfl (fun hc6=>?_) (fun hc6=>?_))))))
 ·refine Oa (Nl (J2z rfl (Rg (Oa (Oa (Nl (W.ret (Z4 rfl (resV.t rfl) (resV.t rfl) (Ret.intro ?_ C.below)))))))));refine⟨_,_,rfl,?_,?_⟩
  ·skip
   exact congrArg (Value.int _) ((by unfold lA;(repeat' split) <;> omega))
  ·skip
   exact congrArg (Value.int _) ((by unfold lB;(repeat' split) <;> omega))
 refine Oa (Nl (J21 rfl (W.skip (Rg (Oa (Oa (Nl (W.ret (Z4 rfl (resV.t rfl) (resV.t rfl) (Ret.intro ?_ C.below))))))))));refine⟨_,_,rfl,?_,?_⟩
 ·skip
  exact congrArg (Value.int _) ((by unfold lA;(repeat' split) <;> omega))
 ·skip
  exact congrArg (Value.int _) ((by unfold lB;(repeat' split) <;> omega))
theorem Jnk(N:Nat):∀ {X:Nat→Prop} {w:World} (hX:∀ b,X b→b < w.heap.size) {v0:Value} {a:GExpr} (r0:RV Jm X w v0 a) (h60:cntE a≤60) (hok:okE a) (hN:(SizeOf.sizeOf a) < N),Calls Tryz.prog 53 #[v0] w (Ret w fun v w'=>v=(.int .i64 (errE a))):=by
 induction N with
 | zero=>intro X w hX v0 a r0 h60 hok hN;exact absurd hN (Nat.not_lt_zero _)
 | succ N ih=>
  intro X w hX v0 a r0 h60 hok hN;obtain⟨a1,c2,a3,c4,a5,c6,a7,c8,rfl,h9⟩:=J3k r0;have h10:=h9.n;have h11:=h9.num;have h12:=h9.den;have h13:=h9.args;have C:=J25 hX;have hal:=r0.args_max;obtain⟨ok1,ok2,ok3,ok4⟩:=(Jf8 a).mp hok;have hce:=Xx a;have hac:=xz a;have hnl:=r0.n_max;refine J24 (args:=[(.agg #[(.int .i64 a.op),(.slice a1 a.n.length c2),(.bool a.c.num.neg),(.slice a3 a.c.num.mag.length c4),(.bool a.c.den.neg),(.slice a5 a.c.den.mag.length c6),(str a.name),(.slice a7 a.args.length c8)])]) Tryz.func53 rfl rfl (Nat.le_of_ble_eq_true rfl) (Rg (O rfl (J3a C rfl ?_)));intro g14 w15 x16 y17 lt18 C19 s20 o21;replace h10:=h10.sp s20;replace h11:=h11.sp s20;replace h12:=h12.sp s20;replace h13:=h13.sp s20;refine Oa (Nl (W.seq (J39 (fun f v=>∃ (x y:Nat→Prop),Cx X w x y v∧f 1=(.pointer (some ⟨g14,0,none⟩))∧RS Zq x v (.slice a1 a.n.length c2) a.n∧RS Jc x v (.slice a3 a.c.num.mag.length c4) a.c.num.mag∧RS Jc x v (.slice a5 a.c.den.mag.length c6) a.c.den.mag∧RS Jm x v (.slice a7 a.args.length c8) a.args∧Own w y v g14 [(.int .i64 a.op),(.slice a1 a.n.length c2),(.bool a.c.num.neg),(.slice a3 a.c.num.mag.length c4),(.bool a.c.den.neg),(.slice a5 a.c.den.mag.length c6),(str a.name),(.slice a7 a.args.length c8)] 31∧1≤a.op∧a.op≤18) ?_ ?_)))
  ·refine Rg (O rfl (St.fieldAddr Zh rfl (O rfl (J20 o21 pl3 rfl rfl (O rfl (J3c rfl rfl (fun hc22=>?_) (fun hc22=>?_)))))))
   ·exact Om (Ox rfl rfl rfl (Ox rfl rfl rfl (Ox rfl rfl rfl (OT (Nl (J2z rfl (Rg (Oa (Nl (W.ret (Je rfl (resV.t rfl) (Ret.intro (congrArg (Value.int _) (Km (Qe fun c=>by have:=c.o1;have:=c.o2;omega) (by decide))) C19.below))))))))))))
   refine Om (Og rfl rfl (St.fieldAddr Zh rfl (Og rfl rfl (J20 o21 pl3 rfl rfl (Og rfl rfl (J3m rfl rfl (fun hc23=>?_) (fun hc23=>?_)))))))
   ·exact OF (Nl (J2z rfl (Rg (Oa (Nl (W.ret (Je rfl (resV.t rfl) (Ret.intro (congrArg (Value.int _) (Km (Qe fun c=>by have:=c.o1;have:=c.o2;omega) (by decide))) C19.below))))))))
   refine OF (Nl (J21 rfl (W.skip (⟨_,_,C19,rfl,h10,h11,h12,h13,o21,(by omega),(by omega)⟩))))
  rintro f24 w25 ⟨x26,y27,C28,e29,h10,h11,h12,h13,o30,ho1,ho2⟩;obtain⟨f31,rfl⟩:=rebK (aC e29 aN);clear e29;refine Rg (O rfl (St.fieldAddr Zh rfl (O rfl (J20 o30 pl3 rfl rfl (O rfl (J2y C28 cb81 rfl rfl (Jo6 C28.bd ho1 ho2) ?_))))));intro v32 w33 C34 s35 h36;replace h10:=h10.sp s35;replace h11:=h11.sp s35;replace h12:=h12.sp s35;replace h13:=h13.sp s35;replace o30:=o30.spn s35;obtain⟨v37,v38,v39,v40,rfl,rfl,rfl,rfl,rfl⟩:=h36;refine Om (O rfl (St.extract rfl rfl (O rfl (St.extract rfl rfl (O rfl (St.extract rfl rfl (O rfl (St.extract rfl rfl (Oa (Oa (Oa (Oa (Nl (W.seq (J39 (fun f v=>∃ (x y:Nat→Prop),Cx X w x y v∧f 1=(.pointer (some ⟨g14,0,none⟩))∧RS Zq x v (.slice a1 a.n.length c2) a.n∧RS Jc x v (.slice a3 a.c.num.mag.length c4) a.c.num.mag∧RS Jc x v (.slice a5 a.c.den.mag.length c6) a.c.den.mag∧RS Jm x v (.slice a7 a.args.length c8) a.args∧Own w y v g14 [(.int .i64 a.op),(.slice a1 a.n.length c2),(.bool a.c.num.neg),(.slice a3 a.c.num.mag.length c4),(.bool a.c.den.neg),(.slice a5 a.c.den.mag.length c6),(str a.name),(.slice a7 a.args.length c8)] 31∧cntOk a) ?_ ?_)))))))))))))))
  ·refine Rg (O rfl (St.fieldAddr Kj rfl (O rfl (J20 o30 pl23 rfl rfl (O rfl (St.len sl23 rfl (Om (O rfl (J3c rfl rfl (fun hc45=>?_) (fun hc45=>?_))))))))))
   ·refine Om (Ox rfl rfl rfl (Ox rfl rfl rfl (Ox rfl rfl rfl (Ox rfl rfl rfl (Ox rfl rfl rfl (OT (Om (Ox rfl rfl rfl (Ox rfl rfl rfl (Ox rfl rfl rfl (Ox rfl rfl rfl (Ox rfl rfl rfl (OT (Om (Ox rfl rfl rfl (Ox rfl rfl rfl (Ox rfl rfl rfl (Ox rfl rfl rfl (Ox rfl rfl rfl ?_)))))))))))))))))));exact OT (Nl (J2z rfl (Rg (Oa (Nl (W.ret (Je rfl (resV.t rfl) (Ret.intro (congrArg (Value.int _) (Km (Qe fun c=>by have:=c.n1;have:=c.n2;have:=c.a1;have:=c.a2;omega) (by decide))) C34.below))))))))
   refine Om (Og rfl rfl (St.fieldAddr Kj rfl (Og rfl rfl (J20 o30 pl23 rfl rfl (Og rfl rfl (St.len sl23 rfl (Og rfl rfl (St.move (Og rfl rfl (J3m rfl rfl (fun hc46=>?_) (fun hc46=>?_)))))))))))
   ·refine OF (Om (Ox rfl rfl rfl (Ox rfl rfl rfl (Ox rfl rfl rfl (Ox rfl rfl rfl (Ox rfl rfl rfl (OT (Om (Ox rfl rfl rfl (Ox rfl rfl rfl (Ox rfl rfl rfl (Ox rfl rfl rfl (Ox rfl rfl rfl (OT (Nl (J2z rfl (Rg (Oa (Nl ?_)))))))))))))))))));exact W.ret (Je rfl (resV.t rfl) (Ret.intro (congrArg (Value.int _) (Km (Qe fun c=>by have:=c.n1;have:=c.n2;have:=c.a1;have:=c.a2;omega) (by decide))) C34.below))
   refine OF (Om (Og rfl rfl (St.fieldAddr Zl rfl (Og rfl rfl (J20 o30 pl29 rfl rfl (Og rfl rfl (St.len sl29 rfl (Og rfl rfl (St.move (Og rfl rfl (J3c rfl rfl (fun hc47=>?_) (fun hc47=>?_))))))))))))
   ·exact OF (Om (Ox rfl rfl rfl (Ox rfl rfl rfl (Ox rfl rfl rfl (Ox rfl rfl rfl (Ox rfl rfl rfl (OT (Nl (J2z rfl (Rg (Oa (Nl (W.ret (Je rfl (resV.t rfl) (Ret.intro (congrArg (Value.int _) (Km (Qe fun c=>by have:=c.n1;have:=c.n2;have:=c.a1;have:=c.a2;omega) (by decide))) C34.below)))))))))))))))
   refine OF (Om (Og rfl rfl (St.fieldAddr Zl rfl (Og rfl rfl (J20 o30 pl29 rfl rfl (Og rfl rfl (St.len sl29 rfl (Og rfl rfl (St.move (Og rfl rfl (J3m rfl rfl (fun hc48=>?_) (fun hc48=>?_))))))))))))
   ·exact OF (Nl (J2z rfl (Rg (Oa (Nl (W.ret (Je rfl (resV.t rfl) (Ret.intro (congrArg (Value.int _) (Km (Qe fun c=>by have:=c.n1;have:=c.n2;have:=c.a1;have:=c.a2;omega) (by decide))) C34.below))))))))
   refine OF (Nl (J21 rfl (W.skip (⟨_,_,C34,rfl,h10,h11,h12,h13,o30,⟨ho1,ho2,by omega,by omega,by omega,by omega⟩⟩))))
  rintro f49 w50 ⟨x51,y52,C53,e54,h10,h11,h12,h13,o55,hcn⟩;obtain⟨f56,rfl⟩:=rebK (aC e54 aN);clear e54;refine W.seq (J39 (fun f v=>∃ (x y:Nat→Prop),Cx X w x y v∧f 1=(.pointer (some ⟨g14,0,none⟩))∧RS Zq x v (.slice a1 a.n.length c2) a.n∧RS Jc x v (.slice a3 a.c.num.mag.length c4) a.c.num.mag∧RS Jc x v (.slice a5 a.c.den.mag.length c6) a.c.den.mag∧RS Jm x v (.slice a7 a.args.length c8) a.args∧Own w y v g14 [(.int .i64 a.op),(.slice a1 a.n.length c2),(.bool a.c.num.neg),(.slice a3 a.c.num.mag.length c4),(.bool a.c.den.neg),(.slice a5 a.c.den.mag.length c6),(str a.name),(.slice a7 a.args.length c8)] 31∧nameOk a) ?_ ?_)
  ·refine W.seq (J3e Za 6 [[],[0],[1],[],[3],[4]] C53 [fx (.pointer (some ⟨g14,0,none⟩)),fx (.int .i64 a.op),fx (.bool (decide (a.op=8))),fx (.pointer (some ⟨g14,6,none⟩)),fx (str a.name),fx (.bool (Kt a.name))] (by kernel_rfl) ⟨sx,sx,sx,sx,sx,sx,trivial⟩ fun f63 s64 w65 ⟨C68,S69⟩ k67=>?_)
   replace h10:=h10.sp S69;replace h11:=h11.sp S69;replace h12:=h12.sp S69;replace h13:=h13.sp S69;replace o55:=o55.spn S69;have k67:Keep [54,55,56,57,58,59] _ f63:=k67;refine⟨⟨fun _=>?_,fun⟨e71,_⟩=>?_,fun⟨e72,_⟩=>?_,fun _=>?_,fun⟨e73,_⟩=>?_,fun⟨e74,_⟩=>?_,trivial⟩,fun⟨e75,e76,e77,e78,e79,e80,_⟩=>?_⟩
   ·exact Ja k67 aN fun _=>OpSt.op (St.fieldAddr Zh rfl ⟨s64,RC.same C68,rfl⟩)
   ·exact Ja k67 (aC e71 aN) fun _=>OpSt.op (J20 o55 pl3 rfl rfl ⟨s64,RC.same C68,rfl⟩)
   ·exact Ja k67 (aC e72 aN) fun _=>OpSt.op (St.eql rfl rfl rfl ⟨s64,RC.same C68,rfl⟩)
   ·exact Ja k67 aN fun _=>OpSt.op (St.fieldAddr K0 rfl ⟨s64,RC.same C68,rfl⟩)
   ·exact Ja k67 (aC e73 aN) fun _=>OpSt.op (J20 o55 pl9 rfl rfl ⟨s64,RC.same C68,rfl⟩)
   ·refine Ja k67 (aC e74 aN) fun _=>OpSt.op (J2y C68 cb19 rfl rfl (Jgl C68.bd (by omega)) ?_);intro v82 w83 C84 s85 h86;exact⟨s64,⟨C84,s85⟩,h86⟩
   obtain⟨f87,rfl⟩:=mixK k67 (aC e75 (aC e76 (aC e77 (aC e78 (aC e79 (aC e80 aN))))));refine O rfl (St.bool (J37 un4 rfl rfl rfl ⟨_,rfl,fun hb88=>?_,fun hb88=>?_⟩))
   ·refine Om (Ox rfl rfl rfl (Ox rfl rfl rfl (Ox rfl rfl rfl (Ox rfl rfl rfl (Oy rfl rfl (Oy rfl rfl (Oy rfl rfl (Ox rfl rfl rfl (OT (Om (Ox rfl rfl rfl (Ox rfl rfl rfl (Ox rfl rfl rfl (Ox rfl rfl rfl (Oy rfl rfl (Oy rfl rfl (Oy rfl rfl (Oy rfl rfl (Ox rfl rfl rfl (OT (Nl ?_)))))))))))))))))))));exact J2z rfl (Rg (Oa (Nl (W.ret (Je rfl (resV.t rfl) (Ret.intro (congrArg (Value.int _) (Km (Yn fun c=>by have c1:=c.e;have c2:=c.s;have c3:=c.c;simp_all) (by decide))) C68.below))))))
   refine Om (Og rfl rfl (St.fieldAddr Zh rfl (Og rfl rfl (J20 o55 pl3 rfl rfl (Og rfl rfl (J3f rfl rfl (fun hc89=>?_) (fun hc89=>?_)))))))
   ·refine Og rfl rfl (St.move (Og rfl rfl (St.fieldAddr K0 rfl (Og rfl rfl (J20 o55 pl9 rfl rfl (Og rfl rfl (J38 rfl rfl (fun hc90=>?_) (fun hc90=>?_))))))))
    ·exact Og rfl rfl (St.pick (t:=true) rfl (OF (Om (Ox rfl rfl rfl (Ox rfl rfl rfl (Ox rfl rfl rfl (Ox rfl rfl rfl (Oy rfl rfl (Oy rfl rfl (Oy rfl rfl (Oy rfl rfl (Ox rfl rfl rfl (OT (Nl (J2z rfl (Rg (Oa (Nl (W.ret (Je rfl (resV.t rfl) (Ret.intro (congrArg (Value.int _) (Km (Yn fun c=>by have c1:=c.e;have c2:=c.s;have c3:=c.c;simp_all) (by decide))) C68.below)))))))))))))))))))))
    refine Og rfl rfl (St.pick (t:=true) rfl (OF (Om (Og rfl rfl (St.fieldAddr Zh rfl (Og rfl rfl (J20 o55 pl3 rfl rfl (Og rfl rfl (J3f rfl rfl (fun hc91=>?_) (fun hc91=>?_))))))))))
    ·refine Og rfl rfl (St.move (Og rfl rfl (St.fieldAddr Kg rfl (Og rfl rfl (J22 (vs:=[(.bool a.c.num.neg),(.slice a3 a.c.num.mag.length c4),(.bool a.c.den.neg),(.slice a5 a.c.den.mag.length c6)]) o55 ag28 rfl rfl rfl (Og rfl rfl (J2y C68 cb82 rfl rfl (Je0 C68.bd (a:=a.c) (Ze h11 h12) (by omega) (by omega)) ?_)))))));intro v92 w93 C94 s95 h96;replace h10:=h10.sp s95;replace h11:=h11.sp s95;replace h12:=h12.sp s95;replace h13:=h13.sp s95;replace o55:=o55.spn s95;subst h96;refine Og rfl rfl (J3f rfl rfl (fun hc97=>?_) (fun hc97=>?_))
     ·exact Og rfl rfl (St.pick (t:=true) rfl (OF (Nl (J2z rfl (Rg (Oa (Nl (W.ret (Je rfl (resV.t rfl) (Ret.intro (congrArg (Value.int _) (Km (Yn fun c=>by have c1:=c.e;have c2:=c.s;have c3:=c.c;simp_all) (by decide))) C94.below))))))))))
     refine Og rfl rfl (St.pick (t:=true) rfl (OF (Nl (J21 rfl (W.skip (⟨_,_,C94,rfl,h10,h11,h12,h13,o55,(by refine⟨?_,?_,?_⟩ <;> simp_all)⟩))))))
    refine Og rfl rfl (St.move (Ox rfl rfl rfl (Ox rfl rfl rfl (Ox rfl rfl rfl (Ox rfl rfl rfl (Og rfl rfl (St.pick (t:=false) rfl (OF (Nl (J21 rfl (W.skip (⟨_,_,C68,rfl,h10,h11,h12,h13,o55,(by refine⟨?_,?_,?_⟩ <;> simp_all)⟩))))))))))))
   refine Og rfl rfl (St.move (Ox rfl rfl rfl (Ox rfl rfl rfl (Ox rfl rfl rfl (Og rfl rfl (St.pick (t:=false) rfl (OF (Om (Og rfl rfl (St.fieldAddr Zh rfl (Og rfl rfl (J20 o55 pl3 rfl rfl (Og rfl rfl (J3f rfl rfl (fun hc98=>?_) (fun hc98=>?_)))))))))))))))
   ·refine Og rfl rfl (St.move (Og rfl rfl (St.fieldAddr Kg rfl (Og rfl rfl (J22 (vs:=[(.bool a.c.num.neg),(.slice a3 a.c.num.mag.length c4),(.bool a.c.den.neg),(.slice a5 a.c.den.mag.length c6)]) o55 ag28 rfl rfl rfl (Og rfl rfl (J2y C68 cb82 rfl rfl (Je0 C68.bd (a:=a.c) (Ze h11 h12) (by omega) (by omega)) ?_)))))));intro v99 w100 C101 s102 h103;replace h10:=h10.sp s102;replace h11:=h11.sp s102;replace h12:=h12.sp s102;replace h13:=h13.sp s102;replace o55:=o55.spn s102;subst h103;refine Og rfl rfl (J3f rfl rfl (fun hc104=>?_) (fun hc104=>?_))
    ·exact Og rfl rfl (St.pick (t:=true) rfl (OF (Nl (J2z rfl (Rg (Oa (Nl (W.ret (Je rfl (resV.t rfl) (Ret.intro (congrArg (Value.int _) (Km (Yn fun c=>by have c1:=c.e;have c2:=c.s;have c3:=c.c;simp_all) (by decide))) C101.below))))))))))
    refine Og rfl rfl (St.pick (t:=true) rfl (OF (Nl (J21 rfl (W.skip (⟨_,_,C101,rfl,h10,h11,h12,h13,o55,(by refine⟨?_,?_,?_⟩ <;> simp_all)⟩))))))
   refine Og rfl rfl (St.move (Ox rfl rfl rfl (Ox rfl rfl rfl (Ox rfl rfl rfl (Ox rfl rfl rfl (Og rfl rfl (St.pick (t:=false) rfl (OF (Nl (J21 rfl (W.skip (⟨_,_,C68,rfl,h10,h11,h12,h13,o55,(by refine⟨?_,?_,?_⟩ <;> simp_all)⟩))))))))))))
  rintro f105 w106 ⟨x107,y108,C109,e110,h10,h11,h12,h13,o111,hnm⟩;obtain⟨f112,rfl⟩:=rebK (aC e110 aN);clear e110;refine Rg (O rfl (St.fieldAddr Zh rfl (O rfl (J20 o111 pl3 rfl rfl (O rfl (J2y C109 cb83 rfl rfl (Jo3 C109.bd) ?_))))));intro v113 w114 C115 s116 h117;replace h10:=h10.sp s116;replace h11:=h11.sp s116;replace h12:=h12.sp s116;replace h13:=h13.sp s116;replace o111:=o111.spn s116;obtain⟨v118,v119,rfl,rfl,rfl⟩:=h117;refine Om (O rfl (St.extract rfl rfl (O rfl (St.extract rfl rfl (Oa (Oa (Nl (W.seq (J39 (fun f v=>∃ (x y:Nat→Prop),Cx X w x y v∧f 1=(.pointer (some ⟨g14,0,none⟩))∧RS Zq x v (.slice a1 a.n.length c2) a.n∧RS Jc x v (.slice a3 a.c.num.mag.length c4) a.c.num.mag∧RS Jc x v (.slice a5 a.c.den.mag.length c6) a.c.den.mag∧RS Jm x v (.slice a7 a.args.length c8) a.args∧Own w y v g14 [(.int .i64 a.op),(.slice a1 a.n.length c2),(.bool a.c.num.neg),(.slice a3 a.c.num.mag.length c4),(.bool a.c.den.neg),(.slice a5 a.c.den.mag.length c6),(str a.name),(.slice a7 a.args.length c8)] 31∧Qg a=0) ?_ ?_)))))))))
  ·refine Rg (Oa (Nl (W.block (J3g (fun μ f v=>∃ (x y:Nat→Prop) (i:Nat),Cx X w x y v∧f 1=(.pointer (some ⟨g14,0,none⟩))∧f 7=(.int .i64 (lA a.op))∧f 8=(.int .i64 (lB a.op))∧f 9=(.int .i64 ((i:Nat):Int))∧RS Zq x v (.slice a1 a.n.length c2) a.n∧RS Jc x v (.slice a3 a.c.num.mag.length c4) a.c.num.mag∧RS Jc x v (.slice a5 a.c.den.mag.length c6) a.c.den.mag∧RS Jm x v (.slice a7 a.args.length c8) a.args∧Own w y v g14 [(.int .i64 a.op),(.slice a1 a.n.length c2),(.bool a.c.num.neg),(.slice a3 a.c.num.mag.length c4),(.bool a.c.den.neg),(.slice a5 a.c.den.mag.length c6),(str a.name),(.slice a7 a.args.length c8)] 31∧i≤a.n.length∧(∀ j,j < i→lA a.op≤a.n.getD j 0∧a.n.getD j 0≤lB a.op)∧μ=(a.n.length - i)) _ ⟨_,_,0,C115,rfl,rfl,rfl,rfl,h10,h11,h12,h13,o111,(Nat.zero_le _),(fun _ h=>absurd h (Nat.not_lt_zero _)),rfl⟩ ?_))));rintro m133 f122 w123 ⟨x124,y125,i,C126,e127,e128,e129,e130,h10,h11,h12,h13,o131,hi,hall,hmu132⟩;obtain⟨f134,rfl⟩:=rebK (aC e127 (aC e128 (aC e129 (aC e130 aN))));clear e127 e128 e129 e130;refine Rh (Om (O rfl (St.fieldAddr Kj rfl (O rfl (J20 o131 pl23 rfl rfl (O rfl (St.len sl23 rfl (O rfl (J3c rfl rfl (fun hc135=>?_) (fun hc135=>?_))))))))))
   ·refine Nl (J2z rfl (W.skip (W.seq (W.block (Rg (O rfl (St.fieldAddr Kj rfl (O rfl (J20 o131 pl23 rfl rfl (Om (O rfl (J3d (j:=i) (u:=(a.n.getD i 0)) h10 sl23 io3 rfl rfl rfl (Jg (by omega)) ?_))))))))))));intro b136 o137 cs138 e139;obtain⟨rfl,bd140⟩:cs138=_∧_:=e139.rd;refine O rfl (J29 pl3 rfl (e139.cell 0 _ rfl) (Om (O rfl (J3c rfl rfl (fun hc141=>?_) (fun hc141=>?_)))))
    ·exact Om (Ox rfl rfl rfl (Ox rfl rfl rfl (Ox rfl rfl rfl (Ox rfl rfl rfl (Ox rfl rfl rfl (Ox rfl rfl rfl (Ox rfl rfl rfl (OT (Nl (J2z rfl (Rg (Oa (Nl (W.ret (Je rfl (resV.t rfl) (Ret.intro (congrArg (Value.int _) (Km (k7 hcn hnm (i:=i) (by omega) (by omega)) (by decide))) C126.below))))))))))))))))
    refine Om (Og rfl rfl (St.fieldAddr Kj rfl (Og rfl rfl (J20 o131 pl23 rfl rfl (Og rfl rfl (St.move (Og rfl rfl (J3d (j:=i) (u:=(a.n.getD i 0)) h10 sl23 io3 rfl rfl rfl (Jg (by omega)) ?_))))))));intro b142 o143 cs144 e145;obtain⟨rfl,bd146⟩:cs144=_∧_:=e145.rd;refine Og rfl rfl (J29 pl3 rfl (e145.cell 0 _ rfl) (Og rfl rfl (St.move (Og rfl rfl (J3m rfl rfl (fun hc147=>?_) (fun hc147=>?_))))))
    ·exact OF (Nl (J2z rfl (Rg (Oa (Nl (W.ret (Je rfl (resV.t rfl) (Ret.intro (congrArg (Value.int _) (Km (k7 hcn hnm (i:=i) (by omega) (by omega)) (by decide))) C126.below))))))))
    refine OF (Nl (J21 rfl (W.skip (W.region (Om (O rfl (St.add rfl rfl (Jd (a:=i) (b:=1) (by omega)) (Oa (Nl (⟨_,(by omega),_,_,(i+1),C126,rfl,rfl,rfl,rfl,h10,h11,h12,h13,o131,(by omega),(Ks hall ⟨by omega,by omega⟩),rfl⟩))))))))))
   refine Nl (J21 rfl (W.exit (⟨_,_,C126,rfl,h10,h11,h12,h13,o131,(Jrb hcn hnm (i:=i) (by omega) hall)⟩)))
  rintro f148 w149 ⟨x150,y151,C152,e153,h10,h11,h12,h13,o154,hz⟩;obtain⟨f155,rfl⟩:=rebK (aC e153 aN);clear e153;refine Rh (Oa (Nl (W.block (J3g (fun μ f v=>∃ (x y:Nat→Prop) (i:Nat),Cx X w x y v∧f 1=(.pointer (some ⟨g14,0,none⟩))∧f 10=(.int .i64 ((i:Nat):Int))∧RS Zq x v (.slice a1 a.n.length c2) a.n∧RS Jc x v (.slice a3 a.c.num.mag.length c4) a.c.num.mag∧RS Jc x v (.slice a5 a.c.den.mag.length c6) a.c.den.mag∧RS Jm x v (.slice a7 a.args.length c8) a.args∧Own w y v g14 [(.int .i64 a.op),(.slice a1 a.n.length c2),(.bool a.c.num.neg),(.slice a3 a.c.num.mag.length c4),(.bool a.c.den.neg),(.slice a5 a.c.den.mag.length c6),(str a.name),(.slice a7 a.args.length c8)] 31∧i≤a.args.length∧errL (a.args.drop i)=errL a.args∧μ=(a.args.length - i)) _ ⟨_,_,0,C152,rfl,rfl,h10,h11,h12,h13,o154,(Nat.zero_le _),rfl,rfl⟩ ?_))));rintro m165 f156 w157 ⟨x158,y159,i,C160,e161,e162,h10,h11,h12,h13,o163,hi,hv,hmu164⟩;obtain⟨f166,rfl⟩:=rebK (aC e161 (aC e162 aN));clear e161 e162;refine Rh (Om (O rfl (St.fieldAddr Zl rfl (O rfl (J20 o163 pl29 rfl rfl (O rfl (St.len sl29 rfl (O rfl (J3c rfl rfl (fun hc167=>?_) (fun hc167=>?_))))))))))
  ·refine Nl (J2z rfl (W.skip (W.seq (W.block (Rg (O rfl (St.fieldAddr Zl rfl (O rfl (J20 o163 pl29 rfl rfl (Om (O rfl (J3d (j:=i) (u:=(a.args.getD i default)) h13 sl29 io31 rfl rfl rfl (Jg (by omega)) ?_))))))))))));intro b168 o169 cs170 e171;obtain⟨a172,c173,a174,c175,a176,c177,a178,c179,rfl,h180⟩:=J1 e171.rd;have h181:=h180.n;have h182:=h180.num;have h183:=h180.den;have h184:=h180.args;refine O rfl (J3w (cs:=[(.int .i64 (a.args.getD i default).op),(.slice a172 (a.args.getD i default).n.length c173),(.bool (a.args.getD i default).c.num.neg),(.slice a174 (a.args.getD i default).c.num.mag.length c175),(.bool (a.args.getD i default).c.den.neg),(.slice a176 (a.args.getD i default).c.den.mag.length c177),(str (a.args.getD i default).name),(.slice a178 (a.args.getD i default).args.length c179)]) ag31 rfl rfl e171.cell ?_);refine O rfl (J2y C160 cb53 rfl rfl (ih C160.bd (Jz (a.args.getD i default) h180.lo h180.hi h180.name h181 h182 h183 h184) (by have h7:=Jgc (l:=a.args) (i:=i) (by omega);omega) (Jp4 hok (by omega)) (Nat.lt_of_lt_of_le (Qv (by omega)) (Nat.le_of_lt_succ hN))) ?_);intro v185 w186 C187 s188 h189;replace h10:=h10.sp s188;replace h11:=h11.sp s188;replace h12:=h12.sp s188;replace h13:=h13.sp s188;replace o163:=o163.spn s188;subst h189;refine Oa (Nl (Rg (Om (O rfl (J3f rfl rfl (fun hc190=>?_) (fun hc190=>?_))))))
   ·exact Nl (J2z rfl (Rg (Om (Oa (Nl (W.ret (Je rfl (resV.t rfl) (Ret.intro (congrArg (Value.int _) (Jla hz (by omega) hv hc190)) C187.below))))))))
   refine Nl (J21 rfl (W.skip (W.region (Om (O rfl (St.add rfl rfl (Jd (a:=i) (b:=1) (by omega)) (Oa (Nl (⟨_,(by omega),_,_,(i+1),C187,rfl,rfl,h10,h11,h12,h13,o163,(by omega),(Ji6 (by omega) hv hc190),rfl⟩)))))))))
  exact Nl (J21 rfl (W.exit (Rg (Oa (Nl (W.ret (Je rfl (resV.t rfl) (Ret.intro (congrArg (Value.int _) (Jp1 hz (by omega) hv)) C160.below))))))))
theorem Jxb{X:Nat→Prop}{w:World}(hX:∀ b,X b→b < w.heap.size){v0:Value}{a:GExpr}(r0:RV Jm X w v0 a)(h60:cntE a≤60)(hok:okE a):Calls Tryz.prog 53 #[v0] w (Ret w fun v w'=>v=(.int .i64 (errE a))):=Jnk ((SizeOf.sizeOf a)+1) hX r0 h60 hok (Nat.lt_succ_self _)
theorem Juo{X:Nat→Prop}{w:World}(hX:∀ b,X b→b < w.heap.size){v0:Value}{a:GExpr}(r0:RV Jm X w v0 a)(hm:cntE a≤10000)(hok:okE a):Calls Tryz.prog 21 #[v0] w (Ret w fun v w'=>v=(.int .i64 (zm a))):=by
 obtain⟨a1,c2,a3,c4,a5,c6,a7,c8,rfl,h9⟩:=J3k r0;have h10:=h9.n;have h11:=h9.num;have h12:=h9.den;have h13:=h9.args;have C:=J25 hX;refine J24 (args:=[(.agg #[(.int .i64 a.op),(.slice a1 a.n.length c2),(.bool a.c.num.neg),(.slice a3 a.c.num.mag.length c4),(.bool a.c.den.neg),(.slice a5 a.c.den.mag.length c6),(str a.name),(.slice a7 a.args.length c8)])]) Tryz.func21 rfl rfl (Nat.le_of_ble_eq_true rfl) (Rg (O rfl (J3a C rfl ?_)));intro g14 w15 x16 y17 lt18 C19 s20 o21;replace h10:=h10.sp s20;replace h11:=h11.sp s20;replace h12:=h12.sp s20;replace h13:=h13.sp s20;refine Oa (Nl (Rh (O rfl (J22 (vs:=[(.int .i64 a.op),(.slice a1 a.n.length c2),(.bool a.c.num.neg),(.slice a3 a.c.num.mag.length c4),(.bool a.c.den.neg),(.slice a5 a.c.den.mag.length c6),(str a.name),(.slice a7 a.args.length c8)]) o21 ag31 rfl rfl rfl (O rfl (J2y C19 cb51 rfl rfl (Jkh C19.bd (Jz a h9.lo h9.hi h9.name h10 h11 h12 h13) (m:=60) (by omega)) ?_))))));intro v22 w23 C24 s25 h26;replace h10:=h10.sp s25;replace h11:=h11.sp s25;replace h12:=h12.sp s25;replace h13:=h13.sp s25;replace o21:=o21.spn s25;subst h26;refine O rfl (J3m rfl rfl (fun hc27=>?_) (fun hc27=>?_))
 ·exact Om (Ox rfl rfl rfl (Ox rfl rfl rfl (Ox rfl rfl rfl (OT (Nl (J2z rfl (Rg (Oa (Nl (W.ret (Je rfl (resV.t rfl) (Ret.intro (congrArg (Value.int _) (q8 (by omega))) C24.below))))))))))))
 refine Om (Og rfl rfl (J22 (vs:=[(.int .i64 a.op),(.slice a1 a.n.length c2),(.bool a.c.num.neg),(.slice a3 a.c.num.mag.length c4),(.bool a.c.den.neg),(.slice a5 a.c.den.mag.length c6),(str a.name),(.slice a7 a.args.length c8)]) o21 ag31 rfl rfl rfl (Og rfl rfl (J2y C24 cb52 rfl rfl (x_lvl C24.bd (Jz a h9.lo h9.hi h9.name h10 h11 h12 h13) hm) ?_))));intro v28 w29 C30 s31 h32;replace h10:=h10.sp s31;replace h11:=h11.sp s31;replace h12:=h12.sp s31;replace h13:=h13.sp s31;replace o21:=o21.spn s31;subst h32;refine Og rfl rfl (J3m rfl rfl (fun hc33=>?_) (fun hc33=>?_))
 ·exact OF (Nl (J2z rfl (Rg (Oa (Nl (W.ret (Je rfl (resV.t rfl) (Ret.intro (congrArg (Value.int _) (q8 (by omega))) C30.below))))))))
 refine OF (Nl (J21 rfl (W.skip (Rg (O rfl (J22 (vs:=[(.int .i64 a.op),(.slice a1 a.n.length c2),(.bool a.c.num.neg),(.slice a3 a.c.num.mag.length c4),(.bool a.c.den.neg),(.slice a5 a.c.den.mag.length c6),(str a.name),(.slice a7 a.args.length c8)]) o21 ag31 rfl rfl rfl (O rfl (J2y C30 cb53 rfl rfl (Jxb C30.bd (Jz a h9.lo h9.hi h9.name h10 h11 h12 h13) (by omega) hok) ?_))))))));intro v34 w35 C36 s37 h38;subst h38;exact Oa (Nl (W.ret (Je rfl (resV.t rfl) (Ret.intro (congrArg (Value.int _) (Jjw (by omega))) C36.below))))
end Go.Wf
namespace Go.Wf
open Go Go.Proofs Go.RowKit
theorem Jms(N:Nat):∀ {X:Nat→Prop} {w:World} (hX:∀ b,X b→b < w.heap.size) {v0:Value} {a:GExpr} (r0:RV Jm X w v0 a) (hpl:Zo a=true) (hl:cntE a≤1000) (hN:(SizeOf.sizeOf a) < N),Calls Tryz.prog 15 #[v0] w (Ret w fun v w'=>RV Jm X w' v a):=by
 induction N with
 | zero=>intro X w hX v0 a r0 hpl hl hN;exact absurd hN (Nat.not_lt_zero _)
 | succ N ih=>
  intro X w hX v0 a r0 hpl hl hN;obtain⟨a1,c2,a3,c4,a5,c6,a7,c8,rfl,h9⟩:=J3k r0;have h10:=h9.n;have h11:=h9.num;have h12:=h9.den;have h13:=h9.args;have C:=J25 hX;have hal:=r0.args_max;have hce:=Xx a;have hac:=xz a;obtain⟨pa1,pa2,pa3,pa4,pa5⟩:=Yk.1 hpl;refine J24 (args:=[(.agg #[(.int .i64 a.op),(.slice a1 a.n.length c2),(.bool a.c.num.neg),(.slice a3 a.c.num.mag.length c4),(.bool a.c.den.neg),(.slice a5 a.c.den.mag.length c6),(str a.name),(.slice a7 a.args.length c8)])]) Tryz.func15 rfl rfl (Nat.le_of_ble_eq_true rfl) (Rg (O rfl (J3a C rfl ?_)));intro g14 w15 x16 y17 lt18 C19 s20 o21;replace h10:=h10.sp s20;replace h11:=h11.sp s20;replace h12:=h12.sp s20;refine O rfl (J26 C19 io31 rfl ?_);intro g22 w23 x24 y25 lt26 C27 s28 o29;replace h13:=(h13.sp s20).sp s28;replace o21:=o21.spn s28;refine Nl (W.seq (J3e Za 13 [[],[0],[],[],[3],[2,4],[],[6],[7],[],[9],[1,5,8,10],[]] C27 [fx (.pointer (some ⟨g14,0,none⟩)),fx (.int .i64 a.op),u0,fx (.pointer (some ⟨g14,1,none⟩)),fx (.slice a1 a.n.length c2),fs Zq a.n,fx (.pointer (some ⟨g14,2,none⟩)),fx (.agg #[(.bool a.c.num.neg),(.slice a3 a.c.num.mag.length c4),(.bool a.c.den.neg),(.slice a5 a.c.den.mag.length c6)]),fr Z7 a.c,fx (.pointer (some ⟨g14,6,none⟩)),fx (str a.name),fun(s:Gh) (v:Value) (w':World)=>∃ (a1':Option Addr) (c1':Nat) (a3':Option Addr) (c3':Nat) (a5':Option Addr) (c5':Nat),v= .agg #[(.int .i64 a.op),(.slice a1' a.n.length c1'),(.bool a.c.num.neg),(.slice a3' a.c.num.mag.length c3'),(.bool a.c.den.neg),(.slice a5' a.c.den.mag.length c5'),(str a.name),(.slice none 0 0)]∧RS Zq s.1 w' (.slice a1' a.n.length c1') a.n∧RS Jc s.1 w' (.slice a3' a.c.num.mag.length c3') a.c.num.mag∧RS Jc s.1 w' (.slice a5' a.c.den.mag.length c5') a.c.den.mag,fun(s:Gh) (v:Value) (w':World)=>∃ g':Nat,v= .pointer (some ⟨g',0,none⟩)∧Own w s.2 w' g' [(.int .i64 0),(.slice none 0 0),(.bool false),(.slice none 0 0),(.bool false),(.slice none 0 0),(str []),(.slice none 0 0)] 31∧w23.heap.size≤g'] (by kernel_rfl) ⟨sx,sx,(fun _ _ _ _ _ h _=>h),sx,sx,ss,sx,sx,sr,sx,sx,(fun _ _ _ _ _ ⟨a1,c1,a3,c3,a5,c5,e,h1,h3,h5⟩ r=>⟨a1,c1,a3,c3,a5,c5,e,h1.tr r.sp.tx,h3.tr r.sp.tx,h5.tr r.sp.tx⟩),(fun _ _ _ _ _ ⟨g,e,o,l⟩ r=>⟨g,e,o.spn r.sp,l⟩),trivial⟩ fun f64 s65 w66 ⟨C69,S70⟩ k68=>?_))
  have lt71:=o21.blk.lt;have lt72:=o29.blk.lt;have hszS70:=S70.tx.size;replace h10:=(h10.sp s28).sp S70;replace h11:=(h11.sp s28).sp S70;replace h12:=(h12.sp s28).sp S70;replace o21:=o21.spn S70;have k68:Keep [5,6,7,8,9,10,11,12,13,14,15,16,3] _ f64:=k68;refine⟨⟨fun _=>?_,fun⟨e73,_⟩=>?_,fun _=>?_,fun _=>?_,fun⟨e74,_⟩=>?_,fun⟨d75,e76,_⟩=>?_,fun _=>?_,fun⟨e77,_⟩=>?_,fun⟨e78,_⟩=>?_,fun _=>?_,fun⟨e79,_⟩=>?_,fun⟨e80,d81,d82,e83,_⟩=>?_,fun _=>?_,trivial⟩,fun⟨e84,e85,d86,e87,e88,d89,e90,e91,d92,e93,e94,d95,d96,_⟩=>?_⟩
  ·exact Ja k68 aN fun _=>OpSt.op (St.fieldAddr Zh rfl ⟨s65,RC.same C69,rfl⟩)
  ·exact Ja k68 (aC e73 aN) fun _=>OpSt.op (J20 o21 pl3 rfl rfl ⟨s65,RC.same C69,rfl⟩)
  ·refine Ja k68 aN fun _=>OpSt.op (J4w C69 sl23 io3 ?_);intro g98 w99 C100 s101;exact⟨s65,⟨C100,s101⟩,⟨_,rfl⟩⟩
  ·exact Ja k68 aN fun _=>OpSt.op (St.fieldAddr Kj rfl ⟨s65,RC.same C69,rfl⟩)
  ·exact Ja k68 (aC e74 aN) fun _=>OpSt.op (J20 o21 pl23 rfl rfl ⟨s65,RC.same C69,rfl⟩)
  ·obtain⟨g103,e102⟩:=d75;refine Ja k68 (aC e102 (aC e76 aN)) fun _=>OpSt.op (J4c (T:=Zq) C69 sl23 io3 rfl rfl h10 (Nat.le_trans pa1 (by decide)) (by omega) rfl ?_);intro v104 w105 C106 s107 h108;exact⟨s65,⟨C106,s107⟩,h108⟩
  ·exact Ja k68 aN fun _=>OpSt.op (St.fieldAddr Kg rfl ⟨s65,RC.same C69,rfl⟩)
  ·exact Ja k68 (aC e77 aN) fun _=>OpSt.op (J22 (vs:=[(.bool a.c.num.neg),(.slice a3 a.c.num.mag.length c4),(.bool a.c.den.neg),(.slice a5 a.c.den.mag.length c6)]) o21 ag28 rfl rfl rfl ⟨s65,RC.same C69,rfl⟩)
  ·refine Ja k68 (aC e78 aN) fun _=>OpSt.op (J2y C69 cb40 rfl rfl (x_cpR C69.bd (a:=a.c) (Ze h11 h12) (by omega) (by omega)) ?_);intro v109 w110 C111 s112 h113;exact⟨s65,⟨C111,s112⟩,h113⟩
  ·exact Ja k68 aN fun _=>OpSt.op (St.fieldAddr K0 rfl ⟨s65,RC.same C69,rfl⟩)
  ·exact Ja k68 (aC e79 aN) fun _=>OpSt.op (J20 o21 pl9 rfl rfl ⟨s65,RC.same C69,rfl⟩)
  ·obtain⟨a115,c116,e114,d81⟩:=J3u d81;obtain⟨a118,c119,a120,c121,e117,h122,h123⟩:=J3o d82;exact Ja k68 (aC e80 (aC e114 (aC e117 (aC e83 aN)))) fun _=>OpSt.op (St.build (cs:=[(.int .i64 a.op),(.slice a115 a.n.length c116),(.bool a.c.num.neg),(.slice a118 a.c.num.mag.length c119),(.bool a.c.den.neg),(.slice a120 a.c.den.mag.length c121),(str a.name),(.slice none 0 0)]) rfl (by kernel_rfl) (⟨s65,RC.same C69,⟨_,_,_,_,_,_,rfl,d81,h122,h123⟩⟩))
  ·refine Ja k68 aN fun _=>OpSt.op (J26 C69 io31 rfl ?_);intro g124 w125 x126 y127 lt128 C129 s130 o131;exact⟨(x126,y127),⟨C129,s130⟩,g124,rfl,o131,Nat.le_of_not_lt fun hh=>lt128 _ (Nat.lt_of_lt_of_le hh hszS70) rfl⟩
  obtain⟨g135,e134⟩:=d86;obtain⟨a137,c138,e136,d89⟩:=J3u d89;obtain⟨a140,c141,a142,c143,e139,h144,h145⟩:=J3o d92;obtain⟨a147,c148,a150,c151,a153,c154,e146,h149,h152,h155⟩:=d95;obtain⟨g157,e156,o158,l159⟩:=d96;have n160:g14≠g157:=Nat.ne_of_lt (Nat.lt_of_lt_of_le lt71 l159);have n161:g22≠g157:=Nat.ne_of_lt (Nat.lt_of_lt_of_le lt72 l159);obtain⟨f163,rfl⟩:=mixK k68 (aC e84 (aC e85 (aC e134 (aC e87 (aC e88 (aC e136 (aC e90 (aC e91 (aC e139 (aC e93 (aC e94 (aC e146 (aC e156 aN)))))))))))));refine On (J23 (cs':=[(.int .i64 a.op),(.slice a147 a.n.length c148),(.bool a.c.num.neg),(.slice a150 a.c.num.mag.length c151),(.bool a.c.den.neg),(.slice a153 a.c.den.mag.length c154),(str a.name),(.slice none 0 0)]) C69 o158 io31 rfl rfl rfl rfl rfl rfl ?_);intro w164 C165 s166 o167;replace h10:=h10.sp s166;replace h11:=h11.sp s166;replace h12:=h12.sp s166;replace h13:=(h13.sp S70).sp s166;replace h149:=h149.sp s166;replace h152:=h152.sp s166;replace h155:=h155.sp s166;replace o21:=o21.spo s166 n160;replace o29:=(o29.spn S70).spo s166 n161;refine Nl (Rh (Oa (Nl (W.block (J3g (fun μ f v=>∃ (x y:Nat→Prop) (i:Nat) (p:List GExpr) (pa:Option Addr) (pc:Nat),Cx X w x y v∧f 1=(.pointer (some ⟨g14,0,none⟩))∧f 2=(.pointer (some ⟨g22,0,none⟩))∧f 3=(.pointer (some ⟨g157,0,none⟩))∧f 4=(.int .i64 ((i:Nat):Int))∧RS Zq x v (.slice a1 a.n.length c2) a.n∧RS Jc x v (.slice a3 a.c.num.mag.length c4) a.c.num.mag∧RS Jc x v (.slice a5 a.c.den.mag.length c6) a.c.den.mag∧RS Jm x v (.slice a7 a.args.length c8) a.args∧RS Zq x v (.slice a147 a.n.length c148) a.n∧RS Jc x v (.slice a150 a.c.num.mag.length c151) a.c.num.mag∧RS Jc x v (.slice a153 a.c.den.mag.length c154) a.c.den.mag∧OS Jm 31 w x y v (.slice pa p.length pc) p∧Own w y v g14 [(.int .i64 a.op),(.slice a1 a.n.length c2),(.bool a.c.num.neg),(.slice a3 a.c.num.mag.length c4),(.bool a.c.den.neg),(.slice a5 a.c.den.mag.length c6),(str a.name),(.slice a7 a.args.length c8)] 31∧Own w y v g22 [(.int .i64 0),(.slice none 0 0),(.bool false),(.slice none 0 0),(.bool false),(.slice none 0 0),(str []),(.slice none 0 0)] 31∧Own w y v g157 [(.int .i64 a.op),(.slice a147 a.n.length c148),(.bool a.c.num.neg),(.slice a150 a.c.num.mag.length c151),(.bool a.c.den.neg),(.slice a153 a.c.den.mag.length c154),(str a.name),(.slice pa p.length pc)] 31∧i≤a.args.length∧p=a.args.take i∧μ=(a.args.length - i)) _ ⟨_,_,0,[],none,0,C165,rfl,rfl,rfl,rfl,h10,h11,h12,h13,h149,h152,h155,OS.nil,o21,o29,o167,(Nat.zero_le _),rfl,rfl⟩ ?_)))));rintro m181 f168 w169 ⟨x170,y171,i,p,pa,pc,C172,e173,e174,e175,e176,h10,h11,h12,h13,h149,h152,h155,hP,o177,o178,o179,hi,hp,hmu180⟩;obtain⟨f182,rfl⟩:=rebK (aC e173 (aC e174 (aC e175 (aC e176 aN))));clear e173 e174 e175 e176;refine Rh (Om (O rfl (St.fieldAddr Zl rfl (O rfl (J20 o177 pl29 rfl rfl (O rfl (St.len sl29 rfl (O rfl (J3c rfl rfl (fun hc183=>?_) (fun hc183=>?_))))))))))
  ·refine Nl (J2z rfl (W.skip (W.seq (W.block (J4n Za 9 [[],[0],[],[2],[],[3,4],[5],[6],[7]] C172 [fx (.pointer (some ⟨g157,7,none⟩)),fx (.slice pa p.length pc),fx (.pointer (some ⟨g14,7,none⟩)),fx (.slice a7 a.args.length c8),fx (.int .i64 ((i:Nat):Int)),uE x170 Jm (a.args.getD i default),ur x170 Jm (a.args.getD i default),ur x170 Jm (a.args.getD i default),us x170 Jm [(a.args.getD i default)]] (by kernel_rfl) ⟨sx,sx,sx,sx,sx,tE,tr,tr,ts,trivial⟩ fun f227 w229 C232 S233 k231=>?_)))))
   replace h10:=h10.sp S233;replace h11:=h11.sp S233;replace h12:=h12.sp S233;replace h13:=h13.sp S233;replace h149:=h149.sp S233;replace h152:=h152.sp S233;replace h155:=h155.sp S233;replace hP:=hP.sp S233 C232 (fun _ h=>h)
   replace o177:=o177.spn S233;replace o178:=o178.spn S233;replace o179:=o179.spn S233;have k231:Keep [24,25,26,27,28,29,30,31,32] _ f227:=k231;refine⟨⟨fun _=>?_,fun⟨e237,_⟩=>?_,fun _=>?_,fun⟨e238,_⟩=>?_,fun _=>?_,fun⟨e239,e240,_⟩=>?_,fun⟨d241,_⟩=>?_,fun⟨d242,_⟩=>?_,fun⟨d243,_⟩=>?_,trivial⟩,fun⟨e244,e245,e246,e247,e248,d249,d250,d251,d252,_⟩=>?_⟩
   ·exact Ja k231 aN fun _=>OpSt.op (St.fieldAddr Zl rfl (⟨(),⟨C232,Sp.refl⟩,rfl⟩))
   ·exact Ja k231 (aC e237 aN) fun _=>OpSt.op (J20 o179 pl29 rfl rfl (⟨(),⟨C232,Sp.refl⟩,rfl⟩))
   ·exact Ja k231 aN fun _=>OpSt.op (St.fieldAddr Zl rfl (⟨(),⟨C232,Sp.refl⟩,rfl⟩))
   ·exact Ja k231 (aC e238 aN) fun _=>OpSt.op (J20 o177 pl29 rfl rfl (⟨(),⟨C232,Sp.refl⟩,rfl⟩))
   ·exact Ja k231 aN fun _=>OpSt.op (St.move (⟨(),⟨C232,Sp.refl⟩,rfl⟩))
   ·refine Ja k231 (aC e239 (aC e240 aN)) fun _=>OpSt.op (J3d (j:=i) (u:=(a.args.getD i default)) h13 sl29 io31 rfl rfl rfl (Jg (by omega)) ?_);intro b254 o255 cs256 e257;obtain⟨a258,c259,a260,c261,a262,c263,a264,c265,rfl,h266⟩:=J1 e257.rd;have h267:=h266.n;have h268:=h266.num;have h269:=h266.den;have h270:=h266.args;exact⟨(),⟨C232,Sp.refl⟩,⟨_,_,_,rfl,e257⟩⟩
   ·obtain⟨b272,o273,cs274,e271,e275⟩:=d241;obtain⟨a276,c277,a278,c279,a280,c281,a282,c283,rfl,h284⟩:=J1 e275.rd;have h285:=h284.n;have h286:=h284.num;have h287:=h284.den;have h288:=h284.args;exact Ja k231 (aC e271 aN) fun _=>OpSt.op (J3w (cs:=[(.int .i64 (a.args.getD i default).op),(.slice a276 (a.args.getD i default).n.length c277),(.bool (a.args.getD i default).c.num.neg),(.slice a278 (a.args.getD i default).c.num.mag.length c279),(.bool (a.args.getD i default).c.den.neg),(.slice a280 (a.args.getD i default).c.den.mag.length c281),(str (a.args.getD i default).name),(.slice a282 (a.args.getD i default).args.length c283)]) ag31 rfl rfl e275.cell (⟨(),⟨C232,Sp.refl⟩,(Jz (a.args.getD i default) h284.lo h284.hi h284.name h285 h286 h287 h288)⟩))
   ·obtain⟨a290,c291,a292,c293,a294,c295,a296,c297,e289,h298⟩:=J3k d242;have h299:=h298.n;have h300:=h298.num;have h301:=h298.den;have h302:=h298.args;refine Ja k231 (aC e289 aN) fun _=>OpSt.op (J2y C232 cb15 rfl rfl (ih C232.bd (Jz (a.args.getD i default) h298.lo h298.hi h298.name h299 h300 h301 h302) (Xc hpl (by omega)) (by have h7:=Jgc (l:=a.args) (i:=i) (by omega);omega) (Nat.lt_of_lt_of_le (Qv (by omega)) (Nat.le_of_lt_succ hN))) ?_);intro v303 w304 C305 s306 h307;exact⟨(),⟨C305,s306⟩,h307⟩
   ·obtain⟨a309,c310,a311,c312,a313,c314,a315,c316,e308,h317⟩:=J3k d243;have h318:=h317.n;have h319:=h317.num;have h320:=h317.den;have h321:=h317.args;refine Ja k231 (aC e308 aN) fun _=>OpSt.op (J3q (T:=Jm) (css:=[[(.int .i64 (a.args.getD i default).op),(.slice a309 (a.args.getD i default).n.length c310),(.bool (a.args.getD i default).c.num.neg),(.slice a311 (a.args.getD i default).c.num.mag.length c312),(.bool (a.args.getD i default).c.den.neg),(.slice a313 (a.args.getD i default).c.den.mag.length c314),(str (a.args.getD i default).name),(.slice a315 (a.args.getD i default).args.length c316)]]) (l:=[(a.args.getD i default)]) C232 sl29 io31 (by decide) (by decide) rfl (by kernel_rfl) ⟨(Jox (a.args.getD i default) h317.lo h317.hi h317.name h318 h319 h320 h321),trivial⟩ ?_);intro g326 w322 C323 s324 h325;exact⟨(),⟨C323,s324⟩,h325⟩
   obtain⟨b330,o331,cs332,e329,e333⟩:=d249;obtain⟨a334,c335,a336,c337,a338,c339,a340,c341,rfl,h342⟩:=J1 e333.rd;have h343:=h342.n;have h344:=h342.num;have h345:=h342.den;have h346:=h342.args;obtain⟨a348,c349,a350,c351,a352,c353,a354,c355,e347,h356⟩:=J3k d250;have h357:=h356.n;have h358:=h356.num;have h359:=h356.den;have h360:=h356.args;obtain⟨a362,c363,a364,c365,a366,c367,a368,c369,e361,h370⟩:=J3k d251;have h371:=h370.n;have h372:=h370.num;have h373:=h370.den;have h374:=h370.args;obtain⟨a376,c377,e375,d252⟩:=J3u d252;obtain⟨f378,rfl⟩:=mixK k231 (aC e244 (aC e245 (aC e246 (aC e247 (aC e248 (aC e329 (aC e347 (aC e361 (aC e375 aN)))))))));refine O rfl (J3p (T:=Jm) (v:=(.slice pa p.length pc)) (u:=(.slice a376 [(a.args.getD i default)].length c377)) C232 sl29 io31 rfl rfl hP (Vr d252) (by rw [hp,List.length_take];simp [maxLen];omega) (by rw [hp,List.length_take];simp;omega) rfl ?_);intro v379 w380 x381 C382 s383 u384 h385;replace o179:=o179.ap s383 o179.mem;obtain⟨a386,c387,rfl,_,_⟩:=h385.len;refine O rfl (St.fieldAddr Zl rfl (On (J23 (cs':=[(.int .i64 a.op),(.slice a147 a.n.length c148),(.bool a.c.num.neg),(.slice a150 a.c.num.mag.length c151),(.bool a.c.den.neg),(.slice a153 a.c.den.mag.length c154),(str a.name),(.slice a386 (p++[(a.args.getD i default)]).length c387)]) C382 o179 io29 rfl rfl rfl rfl rfl rfl ?_)));intro w388 C389 s390 o391;replace h10:=(h10.tr s383.tx).sp s390;replace h11:=(h11.tr s383.tx).sp s390;replace h12:=(h12.tr s383.tx).sp s390;replace h13:=(h13.tr s383.tx).sp s390;replace h149:=(h149.tr s383.tx).sp s390;replace h152:=(h152.tr s383.tx).sp s390;replace h155:=(h155.tr s383.tx).sp s390;replace h385:=h385.sp s390 C389 (fun _ h=>h)
   replace o177:=(o177.ap s383 o177.mem).spo s390 n160;replace o178:=(o178.ap s383 o178.mem).spo s390 n161;refine Nl (W.region (Om (O rfl (St.add rfl rfl (Jd (a:=i) (b:=1) (by omega)) (Oa (Nl (⟨_,(by omega),_,_,(i+1),(p++[(a.args.getD i default)]),a386,c387,C389,rfl,rfl,rfl,rfl,h10,h11,h12,h13,h149,h152,h155,h385,o177,o178,o391,(by omega),(Jtp hp (by omega)),rfl⟩)))))))
  refine Nl (J21 rfl (W.exit (Rg (O rfl (J22 (vs:=[(.int .i64 a.op),(.slice a147 a.n.length c148),(.bool a.c.num.neg),(.slice a150 a.c.num.mag.length c151),(.bool a.c.den.neg),(.slice a153 a.c.den.mag.length c154),(str a.name),(.slice pa p.length pc)]) o179 ag31 rfl rfl rfl (On (J23 (cs':=[(.int .i64 a.op),(.slice a147 a.n.length c148),(.bool a.c.num.neg),(.slice a150 a.c.num.mag.length c151),(.bool a.c.den.neg),(.slice a153 a.c.den.mag.length c154),(str a.name),(.slice pa p.length pc)]) C172 o178 io31 rfl rfl rfl rfl rfl rfl ?_)))))));intro w392 C393 s394 o395;replace h149:=h149.sp s394;replace h152:=h152.sp s394;replace h155:=h155.sp s394;replace hP:=hP.sp s394 C393 (fun _ h=>h)
  refine Nl (W.ret (Je rfl (resV.c o395 rfl ag31 rfl) (Ret.intro ?_ C393.below)));exact J3h (a:=(GExpr.mk a.op a.n ⟨⟨a.c.num.neg,a.c.num.mag⟩,⟨a.c.den.neg,a.c.den.mag⟩⟩ a.name p)) (Jz (GExpr.mk a.op a.n ⟨⟨a.c.num.neg,a.c.num.mag⟩,⟨a.c.den.neg,a.c.den.mag⟩⟩ a.name p) h9.lo h9.hi h9.name ((h149:RS _ _ _ _ _).tr (Tr.weak C393.base)) ((h152:RS _ _ _ _ _).tr (Tr.weak C393.base)) ((h155:RS _ _ _ _ _).tr (Tr.weak C393.base)) (hP.toRS C393 hX)) (Jxx hp (by omega))
theorem Jju{X:Nat→Prop}{w:World}(hX:∀ b,X b→b < w.heap.size){v0:Value}{a:GExpr}(r0:RV Jm X w v0 a)(hpl:Zo a=true)(hl:cntE a≤1000):Calls Tryz.prog 15 #[v0] w (Ret w fun v w'=>RV Jm X w' v a):=Jms ((SizeOf.sizeOf a)+1) hX r0 hpl hl (Nat.lt_succ_self _)
end Go.Wf
namespace Go.Ev
open Go Go.Wf Go.RowKit
theorem ju(m j:Nat):tb m j=m.testBit j:=by
 show Nat.beq (Nat.land (Nat.shiftRight m j) 1) 1=_
 rw [zq]
 have:Nat.land (Nat.shiftRight m j) 1=(m >>> j) % 2:=Nat.and_two_pow_sub_one_eq_mod _ 1
 rw [this,Nat.testBit_eq_decide_div_mod_eq,Nat.shiftRight_eq_div_pow]
theorem zg(a b j:Nat):tb (Nat.lor a b) j=(tb a j || tb b j):=by
 rw [ju,ju,ju];exact Nat.testBit_or a b j
theorem Jbt(e j:Nat):tb (Nat.pow 2 e) j=decide (e=j):=by rw [ju];exact Nat.testBit_two_pow
theorem Jep(j:Nat):tb 0 j=false:=by rw [ju];exact Nat.zero_testBit j
theorem Jd5{α:Type}(l:List α)(x:α):snoc l x=l++[x]:=by
 induction l with
 | nil=>rfl
 | cons a l ih=>exact congrArg (a:: ·) ih
theorem Jz0{acc:List Nat}{j:Nat}:∀ (es:List Edge) (s:Nat),tb (edgM acc es s) j=true→tb s j=true∨∃ e ∈ es,Region.binds .any e=true∧(e.on=j∨tb (acc[e.on]?.getD 0) j=true):=by
 intro es
 induction es with
 | nil=>intro s h;exact .inl h
 | cons e es ih=>
  intro s h;have e0:edgM acc (e::es) s=Bool.rec (edgM acc es s) (fz (Nat.lor (Nat.lor (edgM acc es s) (Nat.pow 2 e.on)) ((nth acc e.on).getD 0)) fun x=>x) (Region.binds .any e):=rfl;rw [e0] at h;have rest:tb (edgM acc es s) j=true→tb s j=true∨∃ e' ∈ e::es,Region.binds .any e'=true∧(e'.on=j∨tb (acc[e'.on]?.getD 0) j=true):=by
   intro h
   rcases ih s h with h | ⟨e',he,hb,hj⟩
   ·exact .inl h
   ·exact .inr ⟨e',List.mem_cons_of_mem _ he,hb,hj⟩
  cases hb:Region.binds .any e with
  | false=>rw [hb] at h;exact rest h
  | true=>
   rw [hb] at h;simp only [Xr,zg,Jbt,jk,Bool.or_eq_true,decide_eq_true_eq] at h
   rcases h with (h | h) | h
   ·exact rest h
   ·exact .inr ⟨e,List.mem_cons_self,hb,.inl h⟩
   ·exact .inr ⟨e,List.mem_cons_self,hb,.inr h⟩
theorem Jp2:∀ (l:List Oper) (acc:List Nat),∃ r,ancM l acc=acc++r∧r.length=l.length∧∀ (k:Nat) (o:Oper),l[k]? =some o→r[k]? =some (edgM (acc++r.take k) o.after.toList 0):=by
 intro l
 induction l with
 | nil=>intro acc;exact⟨[],by simp [ancM],rfl,fun k o h=>by simp at h⟩
 | cons o l ih=>
  intro acc;have e0:ancM (o::l) acc=fz (edgM acc o.after.toList 0) fun m=>ancM l (snoc acc m):=rfl;rw [e0,Xr,Jd5];obtain⟨r,h1,h2,h3⟩:=ih (acc++[edgM acc o.after.toList 0]);refine⟨edgM acc o.after.toList 0::r,by rw [h1];simp,by simp [h2],?_⟩;intro k o' hk
  cases k with
  | zero=>simp at hk;subst hk;simp
  | succ k=>
   have:=h3 k o' (by simpa using hk)
   simpa using this
section
variable {ops:Array Oper}
def msk(ops:Array Oper)(k:Nat):Nat:=((ancM ops.toList [])[k]?).getD 0
theorem zd:(ancM ops.toList []).length=ops.size:=by
 obtain⟨r,h1,h2,_⟩:=Jp2 ops.toList [];rw [h1];simp [h2]
theorem Jdo{k:Nat}(hk:k < ops.size):(ancM ops.toList [])[k]? =some (msk ops k):=by
 unfold msk;rw [List.getElem?_eq_getElem (by rw [zd];exact hk)];rfl
theorem Jy4{k j:Nat}{o:Oper}(ho:ops[k]? =some o)(h:tb (msk ops k) j=true):∃ e ∈ o.after,Region.binds .any e=true∧(e.on=j∨(e.on < k∧tb (msk ops e.on) j=true)):=by
 obtain⟨r,h1,h2,h3⟩:=Jp2 ops.toList [];have hk:=h3 k o (by simpa using ho);simp only [List.nil_append] at h1 hk;unfold msk at h;rw [h1,hk] at h;simp only [Option.getD_some] at h
 rcases Jz0 _ _ h with h | ⟨e,he,hb,hj⟩
 ·rw [Jep] at h;cases h
 ·refine⟨e,by simpa using he,hb,?_⟩
  rcases hj with hj | hj
  ·exact .inl hj
  ·rw [List.getElem?_take] at hj
   split at hj
   ·rename_i hlt
    refine .inr ⟨hlt,?_⟩;unfold msk;rw [h1];exact hj
   ·simp only [Option.getD_none] at hj;rw [Jep] at hj;cases hj
theorem Jjz{L:Array Bool}(hs:L.size=ops.size)(hc:Y6 ops L):∀ (k:Nat) (o:Oper) (j:Nat),ops[k]? =some o→(∀ e ∈ o.after,Region.binds .any e=true→L.getD e.on false=true)→tb (msk ops k) j=true→L.getD j false=true:=by
 intro k
 induction k using Nat.strongRecOn with
 | _ k ih=>
  intro o j ho hp h;obtain⟨e,he,hb,hj⟩:=Jy4 ho h;have hl:=hp e he hb
  rcases hj with rfl | ⟨hlt,hj⟩
  ·exact hl
  ·have hsz:e.on < ops.size:=by
    have:=(Array.getElem?_eq_some_iff.1 ho).1;omega
   have hso:ops[e.on]? =some ops[e.on]:=by simp [hsz]
   refine ih e.on hlt ops[e.on] j hso ?_ hj;intro e' he' hb';refine hc e.on hsz ?_ _ hso e' he' hb'
   have:L[e.on]? =some L[e.on]:=by simp [hs,hsz]
   simp [Array.getD_eq_getD_getElem?,this] at hl ⊢;exact hl
theorem Jf9:∀ (k:Nat) (o:Oper) (j:Nat),ops[k]? =some o→(∀ (k:Nat) (o:Oper),ops[k]? =some o→∀ e ∈ o.after,Region.binds .any e=true→e.on < k)→tb (msk ops k) j=true→j < k:=by
 intro k
 induction k using Nat.strongRecOn with
 | _ k ih=>
  intro o j ho hb h;obtain⟨e,he,hbe,hj⟩:=Jy4 ho h;have hlt:=hb k o ho e he hbe
  rcases hj with rfl | ⟨_,hj⟩
  ·exact hlt
  ·have hsz:e.on < ops.size:=by
    have:=(Array.getElem?_eq_some_iff.1 ho).1;omega
   have:=ih e.on hlt ops[e.on] j (by simp [hsz]) hb hj
   omega
theorem Jjl{α:Type}{p:α→Bool}{l:List α}(h:allB p l=true):∀ x ∈ l,p x=true:=by
 induction l with
 | nil=>intro x hx;cases hx
 | cons a l ih=>
  have h:(Bool.rec false (allB p l) (p a):Bool)=true:=h
  cases hp:p a with
  | false=>rw [hp] at h;cases h
  | true=>
   rw [hp] at h;intro x hx
   cases hx with
   | head=>exact hp
   | tail _ hx=>exact ih h x hx
theorem Jzv:∀ (l:List Oper) (i k:Nat) (o:Oper) (d:Tmp),l[k]? =some o→o.dst=some d→(d,i+k) ∈ dsts l i:=by
 intro l
 induction l with
 | nil=>intro i k o d h;simp at h
 | cons x l ih=>
  intro i k o d h hd;have e0:dsts (x::l) i=Option.rec (dsts l (Nat.succ i)) (fun d=>(d,i)::dsts l (Nat.succ i)) x.dst:=rfl;rw [e0]
  cases k with
  | zero=>
   simp at h;subst h;rw [hd];exact List.mem_cons_self
  | succ k=>
   have:=ih (i+1) k o d (by simpa using h) hd
   rw [show i+(k+1)=i+1+k by omega]
   cases hx:x.dst with
   | none=>exact this
   | some d'=>exact List.mem_cons_of_mem _ this
theorem Jzt{n:Nat}:∀ (l:List (Nat × Nat)) (s:Nat),nodB n l s=true→(∀ p ∈ l,p.1 < n∧tb s p.1=false)∧l.Pairwise fun p q=>p.1≠q.1:=by
 intro l
 induction l with
 | nil=>intro s _;exact⟨(fun p hp=>by cases hp),List.Pairwise.nil⟩
 | cons p l ih=>
  intro s h;have h:(Bool.rec false (Bool.rec (nodB n l (Nat.lor s (Nat.pow 2 p.1))) false (tb s p.1)) (Nat.blt p.1 n):Bool)=true:=h
  cases h1:Nat.blt p.1 n with
  | false=>rw [h1] at h;cases h
  | true=>
   rw [h1] at h
   cases h2:tb s p.1 with
   | true=>rw [h2] at h;cases h
   | false=>
    rw [h2] at h;obtain⟨k1,k2⟩:=ih _ h;refine⟨?_,List.Pairwise.cons ?_ k2⟩
    ·intro q hq
     cases hq with
     | head=>exact⟨Yj h1,h2⟩
     | tail _ hq=>
      obtain⟨g1,g2⟩:=k1 q hq;rw [zg] at g2;exact⟨g1,(Bool.or_eq_false_iff.1 g2).1⟩
    ·intro q hq e
     have:=(k1 q hq).2
     rw [zg,Jbt] at this
     have:=(Bool.or_eq_false_iff.1 this).2
     exact of_decide_eq_false this e
theorem Jvs{l:List (Nat × Nat)}(h:l.Pairwise fun p q=>p.1≠q.1){d j k:Nat}(hj:(d,j) ∈ l)(hk:(d,k) ∈ l):j=k:=by
 induction l with
 | nil=>cases hj
 | cons p l ih=>
  cases h with
  | cons h1 h2=>
   cases hj with
   | head=>cases hk with
    | head=>rfl
    | tail _ hk=>exact absurd rfl (h1 (d,k) hk)
   | tail _ hj=>cases hk with
    | head=>exact absurd rfl (h1 (d,j) hj)
    | tail _ hk=>exact ih h2 hj hk
def isMv(P:Program)(ops:Array Oper)(k:Nat):Bool:=((ops[k]?).map fun o=>Y0 (kdOf P o.op)).getD false
theorem Jwp(P:Program):∀ (l:List Oper) (i k:Nat),tb (movM P l i) k=(decide (i≤k) && ((l[k - i]?).map fun o=>Y0 (kdOf P o.op)).getD false):=by
 intro l
 induction l with
 | nil=>intro i k;show tb 0 k=_;rw [Jep];simp
 | cons o l ih=>
  intro i k;have e0:movM P (o::l) i=Bool.rec (movM P l (Nat.succ i)) (Nat.lor (Nat.pow 2 i) (movM P l (Nat.succ i))) (Y0 (kdOf P o.op)):=rfl;rw [e0];have ih:=ih (Nat.succ i) k
  rcases Nat.lt_trichotomy k i with h | h | h
  ·have h1:decide (i≤k)=false:=decide_eq_false (by omega);have h2:decide (Nat.succ i≤k)=false:=decide_eq_false (by omega);rw [h2,Bool.false_and] at ih;rw [h1,Bool.false_and]
   cases Y0 (kdOf P o.op) with
   | false=>exact ih
   | true=>show tb (Nat.lor (Nat.pow 2 i) _) k=_;rw [zg,Jbt,ih,decide_eq_false (by omega)];rfl
  ·subst h;have h2:decide (Nat.succ k≤k)=false:=decide_eq_false (by omega);rw [h2,Bool.false_and] at ih;rw [Nat.sub_self];simp only [List.getElem?_cons_zero,Option.map_some,Option.getD_some,Nat.le_refl,decide_true,Bool.true_and]
   cases Y0 (kdOf P o.op) with
   | false=>exact ih
   | true=>show tb (Nat.lor (Nat.pow 2 k) _) k=_;rw [zg,Jbt,ih];simp
  ·have h1:decide (i≤k)=true:=decide_eq_true (by omega);have h2:decide (Nat.succ i≤k)=true:=decide_eq_true (by omega);have h3:k - i=(k - Nat.succ i)+1:=by omega
   rw [h2,Bool.true_and] at ih;rw [h1,Bool.true_and,h3];simp only [List.getElem?_cons_succ]
   cases Y0 (kdOf P o.op) with
   | false=>exact ih
   | true=>show tb (Nat.lor (Nat.pow 2 i) _) k=_;rw [zg,Jbt,ih,decide_eq_false (by omega)];rfl
theorem mvM(P:Program)(k:Nat):tb (movM P ops.toList 0) k=isMv P ops k:=by
 rw [Jwp];simp [isMv]
theorem Jod{a m k:Nat}(h:Nat.beq (Nat.land (Nat.land m (Nat.sub (Nat.pow 2 k) 1)) a) (Nat.land m (Nat.sub (Nat.pow 2 k) 1))=true){j:Nat}(hj:j < k)(hm:tb m j=true):tb a j=true:=by
 have e:=Nat.eq_of_beq_eq_true h;have e1:(Nat.land (Nat.land m (Nat.sub (Nat.pow 2 k) 1)) a).testBit j=(Nat.land m (Nat.sub (Nat.pow 2 k) 1)).testBit j:=by rw [e]
 have e2:(Nat.land m (Nat.sub (Nat.pow 2 k) 1)).testBit j=(m.testBit j && (2 ^ k - 1).testBit j):=Nat.testBit_and _ _ _;have e3:(Nat.land (Nat.land m (Nat.sub (Nat.pow 2 k) 1)) a).testBit j=((Nat.land m (Nat.sub (Nat.pow 2 k) 1)).testBit j && a.testBit j):=Nat.testBit_and _ _ _;rw [e3,e2,Nat.testBit_two_pow_sub_one] at e1;rw [ju] at hm ⊢;rw [hm] at e1;simpa [hj] using e1
theorem Jmu{mv:Nat}:∀ (l:List Nat) (i:Nat),Jca mv l i=true→∀ k a,l[k]? =some a→tb mv (i+k)=true→∀ j,j < i+k→tb mv j=true→tb a j=true:=by
 intro l
 induction l with
 | nil=>intro i _ k a h;simp at h
 | cons b l ih=>
  intro i h k a hk hm j hj hmj;have h:(Bool.rec (Jca mv l (Nat.succ i)) (Bool.rec false (Jca mv l (Nat.succ i)) (Nat.beq (Nat.land (Nat.land mv (Nat.sub (Nat.pow 2 i) 1)) b) (Nat.land mv (Nat.sub (Nat.pow 2 i) 1)))) (tb mv i):Bool)=true:=h
  cases k with
  | zero=>
   simp at hk;subst hk;rw [Nat.add_zero] at hm hj;rw [hm] at h
   cases hb:Nat.beq (Nat.land (Nat.land mv (Nat.sub (Nat.pow 2 i) 1)) b) (Nat.land mv (Nat.sub (Nat.pow 2 i) 1)) with
   | false=>rw [hb] at h;cases h
   | true=>exact Jod hb hj hmj
  | succ k=>
   have h2:Jca mv l (Nat.succ i)=true:=by
    revert h
    cases tb mv i <;> intro h
    ·exact h
    ·revert h
     cases Nat.beq (Nat.land (Nat.land mv (Nat.sub (Nat.pow 2 i) 1)) b) (Nat.land mv (Nat.sub (Nat.pow 2 i) 1)) <;> intro h
     ·cases h
     ·exact h
   exact ih (i+1) h2 k a (by simpa using hk) (by rw [show i+1+k=i+(k+1) by omega];exact hm) j (by omega) hmj
structure Lk (P:Program) (n:Nat) (ops:Array Oper):Prop where
 back:∀ (k:Nat) (o:Oper),ops[k]? =some o→∀ e ∈ o.after,Region.binds .any e=true→e.on < k
 read:∀ (k:Nat) (o:Oper) t (j:Nat) (o':Oper),ops[k]? =some o→t ∈ yr o.op.operands.toList→ops[j]? =some o'→o'.dst=some t→tb (msk ops k) j=true∨tb (msk ops j) k=true
 gd:∀ (k:Nat) (o:Oper) p,ops[k]? =some o→o.guard=some p→tb (msk ops k) p.1=true
 lt:∀ (k:Nat) (o:Oper) d,ops[k]? =some o→o.dst=some d→d < n
 uniq:∀ (j k:Nat) (o o':Oper) d,ops[j]? =some o→ops[k]? =some o'→o.dst=some d→o'.dst=some d→j=k
 chain:∀ j k,j < k→isMv P ops j=true→isMv P ops k=true→tb (msk ops k) j=true
theorem Jt8{all:List Nat}{ds:List (Nat × Nat)}:∀ (l:List Oper) (ms:List Nat) (i:Nat),Juh ops all ds l ms i=true→∀ (k:Nat) (o:Oper),l[k]? =some o→∃ a,ms[k]? =some a∧
  allB (Jgo all ds a (i+k)) (yr o.op.operands.toList)=true∧gdOk ops a o.guard=true∧allB (fun e=>Bool.rec true (Nat.blt e.on (i+k)) (Region.binds .any e)) o.after.toList=true:=by
 intro l
 induction l with
 | nil=>intro ms i _ k o h;simp at h
 | cons x l ih=>
  intro ms i h k o hk
  cases ms with
  | nil=>cases h
  | cons a ms=>
   have h:(Bool.rec false (Juh ops all ds l ms (Nat.succ i)) (allB (Jgo all ds a i) (yr x.op.operands.toList) && gdOk ops a x.guard && allB (fun e=>Bool.rec true (Nat.blt e.on i) (Region.binds .any e)) x.after.toList):Bool)=true:=h
   cases hb:(allB (Jgo all ds a i) (yr x.op.operands.toList) && gdOk ops a x.guard && allB (fun e=>Bool.rec true (Nat.blt e.on i) (Region.binds .any e)) x.after.toList) with
   | false=>rw [hb] at h;cases h
   | true=>
    rw [hb] at h;obtain⟨hb,h3⟩:=Zs hb;obtain⟨h1,h2⟩:=Zs hb
    cases k with
    | zero=>simp at hk;subst hk;exact⟨a,rfl,h1,h2,h3⟩
    | succ k=>
     obtain⟨a',g0,g1,g2,g3⟩:=ih ms (i+1) h k o (by simpa using hk);rw [show i+1+k=i+(k+1) by omega] at g1 g3;exact⟨a',by simpa using g0,g1,g2,g3⟩
theorem Juw{P:Program}{n:Nat}(h:Jpe P n ops (ancM ops.toList [])=true):Lk P n ops:=by
 unfold Jpe at h;obtain⟨h,h3⟩:=Zs h;obtain⟨h1,h2⟩:=Zs h;have hp:=Jt8 _ _ _ h1;obtain⟨n1,n2⟩:=Jzt _ _ h2;have hd:∀ (k:Nat) (o:Oper) d,ops[k]? =some o→o.dst=some d→(d,k) ∈ dsts ops.toList 0:=fun k o d hk hd=>by
  have:=Jzv ops.toList 0 k o d (by simpa using hk) hd
  rw [Nat.zero_add] at this;exact this
 refine⟨?_,?_,?_,?_,?_,?_⟩
 ·intro k o hk e he hb;obtain⟨a,_,_,_,g⟩:=hp k o (by simpa using hk)
  have:=Jjl g e (by simpa using he)
  rw [hb,Nat.zero_add] at this;exact Yj this
 ·intro k o t j o' hk ht hj hjd;obtain⟨a,ha,g,_,_⟩:=hp k o (by simpa using hk);have hks:=(Array.getElem?_eq_some_iff.1 hk).1;rw [Jdo hks] at ha
  cases ha
  have:=Jjl (Jjl g t ht) _ (hd j o' t hj hjd)
  simp only [Nat.zero_add] at this;rw [show Nat.beq t t=true from Nat.beq_refl t] at this;have this:(Bool.rec (tb ((nth (ancM ops.toList []) j).getD 0) k) true (tb (msk ops k) j):Bool)=true:=this
  cases hb:tb (msk ops k) j with
  | true=>exact .inl rfl
  | false=>
   rw [hb,jk] at this;exact .inr this
 ·intro k o p hk hg;obtain⟨a,ha,_,g,_⟩:=hp k o (by simpa using hk);have hks:=(Array.getElem?_eq_some_iff.1 hk).1;rw [Jdo hks] at ha
  cases ha
  rw [hg] at g;exact g
 ·intro k o d hk hkd
  exact(n1 _ (hd k o d hk hkd)).1
 ·intro j k o o' d hj hk hjd hkd;exact Jvs n2 (hd j o d hj hjd) (hd k o' d hk hkd)
 ·intro j k hjk hj hk;have hks:k < ops.size:=by
   unfold isMv at hk
   cases ho:ops[k]? with
   | none=>rw [ho] at hk;cases hk
   | some o=>exact(Array.getElem?_eq_some_iff.1 ho).1
  rw [← mvM] at hj hk;exact Jmu _ _ h3 k _ (Jdo hks) (by rw [Nat.zero_add];exact hk) j (by omega) hj
end
end Go.Ev
namespace Go.Ev
open Go Go.Wf Go.RowKit
def setd(d:Option Tmp)(v:AV)(f:Fr):Fr:=match d with
 | none=>f
 | some t=>setF t v f
section
variable (P:Program) (call:CallF) (n:Nat) (ops:Array Oper)
def One(i a:Nat)(o:Oper)(s:DS)(v:AV)(s1:DS):Prop:=∃ h',match kdOf P o.op with
 | .pure=>evOp P call o.op s.f s.h= .ok v h'∧s1=s
 | .read=>evOp P call o.op s.f ⟨Z8 s.qt a s.fl s.h.t,s.h.n⟩= .ok v h'∧s1=⟨s.f,s.h,s.fl,s.qt,s.hs,(i,s.f,v)::s.rs⟩
 | .quiet=>evOp P call o.op s.f s.h= .ok v h'∧s1=⟨s.f,⟨s.h.t,h'.n⟩,s.fl,(i,s.h.n,get5 s.h.n h'.t)::s.qt,s.hs,s.rs⟩
 | .move=>evOp P call o.op s.f ⟨Z8 s.qt a s.fl s.h.t,s.h.n⟩= .ok v h'∧s1=⟨s.f,h',Nat.lor s.fl a,s.qt,s.hs++[(h',Nat.lor s.fl a)],s.rs⟩
def Stp(i a:Nat)(o:Oper)(s s':DS):Prop:=lo n o.dst∧
 ((zt ops o.guard s.f=some true∧∃ v s1,One P call i a o s v s1∧s'=⟨setd o.dst v s.f,s1.h,s1.fl,s1.qt,s1.hs,s1.rs⟩)∨
  (zt ops o.guard s.f=some false∧s'=⟨setd o.dst (.tp []) s.f,s.h,s.fl,s.qt,if Y0 (kdOf P o.op) then s.hs++[(s.h,s.fl)] else s.hs,s.rs⟩))
end
section
variable {P:Program} {call:CallF} {n:Nat} {ops:Array Oper}
theorem Jqh{d:Option Tmp}{v:AV}{f:Fr}{k:Fr→Out}(e:okO (setO n d v f k)):setO n d v f k=k (setd d v f)∧lo n d:=by
 obtain⟨f',h1,h2,h3⟩:=Jj5 e;refine⟨?_,h2⟩;rw [h1]
 rcases h3 with ⟨rfl,rfl⟩ | ⟨t,rfl,_,rfl⟩ <;> rfl
theorem Jr2{i a:Nat}{o:Oper}{s:DS}{k:AV→DS→Out}(e:okO (Jic P call i a o s k)):∃ v s1,One P call i a o s v s1∧Jic P call i a o s k=k v s1:=by
 rw [Jor] at e ⊢;unfold Jjp at e ⊢;unfold One
 cases hk:kdOf P o.op with
 | pure=>
  rw [hk] at e;simp only at e ⊢;obtain⟨v,h',h1,h2⟩:=Jmg e;exact⟨v,s,⟨h',h1,rfl⟩,h2⟩
 | read=>
  rw [hk] at e;simp only at e ⊢;obtain⟨v,h',h1,h2⟩:=Jmg e;exact⟨v,_,⟨h',h1,rfl⟩,h2⟩
 | quiet=>
  rw [hk] at e;simp only at e ⊢;obtain⟨v,h',h1,h2⟩:=Jmg e;exact⟨v,_,⟨h',h1,rfl⟩,h2⟩
 | move=>
  rw [hk] at e;simp only at e ⊢;obtain⟨v,h',h1,h2⟩:=Jmg e;refine⟨v,_,⟨h',h1,rfl⟩,?_⟩;rw [h2,Xr,Jd5]
theorem Ju2:∀ (l:List Oper) (i:Nat) (ms:List Nat) (s:DS) (k:DS→Out),okO (Jcj P call n ops l i ms s k)→
  ∃ S:Nat→DS,S i=s∧Jcj P call n ops l i ms s k=k (S (i+l.length))∧∀ (j:Nat) (o:Oper),l[j]? =some o→∃ a,ms[j]? =some a∧Stp P call n ops (i+j) a o (S (i+j)) (S (i+j+1)):=by
 intro l
 induction l with
 | nil=>intro i ms s k _;exact⟨fun _=>s,rfl,rfl,fun j o h=>by simp at h⟩
 | cons o l ih=>
  intro i ms s k e
  cases ms with
  | nil=>exact e.elim
  | cons a ms=>
   have e0:Jcj P call n ops (o::l) i (a::ms) s k=xy ops o.guard s.f
     (Jic P call i a o s fun v s'=>setO n o.dst v s'.f fun f'=>Jcj P call n ops l (Nat.succ i) ms ⟨f',s'.h,s'.fl,s'.qt,s'.hs,s'.rs⟩ k)
     (setO n o.dst (.tp []) s.f fun f'=>Jcj P call n ops l (Nat.succ i) ms ⟨f',s.h,s.fl,s.qt,Bool.rec s.hs (snoc s.hs (s.h,s.fl)) (Y0 (kdOf P o.op)),s.rs⟩ k) (.no 42):=rfl
   rw [e0,zy] at e;rw [e0,zy];have fin:∀ s',Stp P call n ops i a o s s'→okO (Jcj P call n ops l (Nat.succ i) ms s' k)→∃ S:Nat→DS,S i=s∧Jcj P call n ops l (Nat.succ i) ms s' k=k (S (i+(o::l).length))∧
     ∀ (j:Nat) (o':Oper),(o::l)[j]? =some o'→∃ a',(a::ms)[j]? =some a'∧Stp P call n ops (i+j) a' o' (S (i+j)) (S (i+j+1)):=by
    intro s' hs' he;obtain⟨S,h1,h2,h3⟩:=ih (Nat.succ i) ms s' k he;refine⟨fun m=>if m=i then s else S m,if_pos rfl,?_,?_⟩
    ·rw [h2]
     have:¬ (i+(o::l).length=i):=by simp
     show k (S (Nat.succ i+l.length))=k (if i+(o::l).length=i then s else S (i+(o::l).length))
     rw [if_neg this]
     congr 2
     simp only [List.length_cons];omega
    ·intro j o' hj
     cases j with
     | zero=>
      simp at hj;subst hj;refine⟨a,rfl,?_⟩
      show Stp P call n ops (i+0) a o (if i+0=i then s else S (i+0)) (if i+0+1=i then s else S (i+0+1))
      rw [Nat.add_zero,if_pos rfl,if_neg (by omega),show i+1=Nat.succ i from rfl,h1];exact hs'
     | succ j=>
      obtain⟨a',g1,g2⟩:=h3 j o' (by simpa using hj);refine⟨a',by simpa using g1,?_⟩
      show Stp P call n ops (i+(j+1)) a' o' (if i+(j+1)=i then s else S (i+(j+1))) (if i+(j+1)+1=i then s else S (i+(j+1)+1))
      rw [if_neg (by omega),if_neg (by omega),show i+(j+1)=Nat.succ i+j by omega];exact g2
   cases hw:zt ops o.guard s.f with
   | none=>rw [hw] at e;exact e.elim
   | some b=>
    rw [hw] at e
    cases b with
    | true=>
     simp only at e ⊢;obtain⟨v,s1,h1,h2⟩:=Jr2 e;rw [h2] at e ⊢;have hf1:s1.f=s.f:=by
      obtain⟨h',h1⟩:=h1
      cases hk:kdOf P o.op <;> rw [hk] at h1 <;> simp only at h1 <;> rw [h1.2]
     obtain⟨h3,h4⟩:=Jqh e;rw [h3] at e ⊢;rw [hf1] at e ⊢;exact fin _ ⟨h4,.inl ⟨hw,v,s1,h1,rfl⟩⟩ e
    | false=>
     simp only at e ⊢;obtain⟨h3,h4⟩:=Jqh e;rw [h3] at e ⊢;have hh:(Bool.rec s.hs (snoc s.hs (s.h,s.fl)) (Y0 (kdOf P o.op)):List (Hp × Nat))=if Y0 (kdOf P o.op) then s.hs++[(s.h,s.fl)] else s.hs:=by
      rw [zs,Jd5]
     rw [hh] at e ⊢;exact fin _ ⟨h4,.inr ⟨hw,rfl⟩⟩ e
structure Run (P:Program) (call:CallF) (n:Nat) (ops:Array Oper) (f:Fr) (h:Hp) (S:Nat→DS):Prop where
 s0:S 0=⟨f,h,0,[],[(h,0)],[]⟩
 st:∀ (k:Nat) (o:Oper),ops[k]? =some o→Stp P call n ops k (msk ops k) o (S k) (S (k+1))
 cs:CallS P call
 n256:n≤4096
 lim:h.n≤big5
def mcn(P:Program)(ops:Array Oper)(i:Nat):Nat:=(List.range i).countP (isMv P ops)
theorem Jm3(i:Nat):mcn P ops (i+1)=mcn P ops i+if isMv P ops i then 1 else 0:=by
 unfold mcn;rw [List.range_succ,List.countP_append,List.countP_singleton]
theorem V4{k:Nat}{o:Oper}(ho:ops[k]? =some o):isMv P ops k=Y0 (kdOf P o.op):=by unfold isMv;rw [ho];rfl
theorem zr{id:Nat}{a fl:Nat}{t:T5 (Option Blk)}(hid:id < big5):∀ (qt:QT),(∀ e ∈ qt,e.2.1 < big5)→
  (get5 id (Z8 qt a fl t)=get5 id t∧∀ e ∈ qt,e.2.1=id→tb a e.1=true→tb fl e.1=false→False)∨∃ e ∈ qt,e.2.1=id∧tb a e.1=true∧tb fl e.1=false∧get5 id (Z8 qt a fl t)=e.2.2:=by
 intro qt
 induction qt with
 | nil=>intro _;exact .inl ⟨rfl,fun e he=>by cases he⟩
 | cons p qt ih=>
  intro hq;have e0:Z8 (p::qt) a fl t=Bool.rec (Z8 qt a fl t) (Bool.rec (set5 p.2.1 p.2.2 (Z8 qt a fl t)) (Z8 qt a fl t) (tb fl p.1)) (tb a p.1):=rfl;have ih:=ih fun e he=>hq e (List.mem_cons_of_mem _ he);have rest:(tb a p.1=true→tb fl p.1=false→p.2.1≠id)→Z8 (p::qt) a fl t=Z8 qt a fl t∨get5 id (Z8 (p::qt) a fl t)=get5 id (Z8 qt a fl t)→(get5 id (Z8 (p::qt) a fl t)=get5 id t∧∀ e ∈ p::qt,e.2.1=id→tb a e.1=true→tb fl e.1=false→False)∨∃ e ∈ p::qt,e.2.1=id∧tb a e.1=true∧tb fl e.1=false∧get5 id (Z8 (p::qt) a fl t)=e.2.2:=by
   intro hne he;have he:get5 id (Z8 (p::qt) a fl t)=get5 id (Z8 qt a fl t):=he.elim (fun h=>by rw [h]) fun h=>h
   rw [he]
   rcases ih with ⟨h1,h2⟩ | ⟨e,h1,h2⟩
   ·refine .inl ⟨h1,fun e hm=>?_⟩
    cases hm with
    | head=>intro x y z;exact hne y z x
    | tail _ hm=>exact h2 e hm
   ·exact .inr ⟨e,List.mem_cons_of_mem _ h1,h2⟩
  cases ha:tb a p.1 with
  | false=>exact rest (fun h=>by rw [ha] at h;cases h) (.inl (by rw [e0,ha]))
  | true=>
   cases hf:tb fl p.1 with
   | true=>exact rest (fun _ h=>by rw [hf] at h;cases h) (.inl (by rw [e0,ha,hf]))
   | false=>
    have e1:Z8 (p::qt) a fl t=set5 p.2.1 p.2.2 (Z8 qt a fl t):=by rw [e0,ha,hf]
    by_cases hx:p.2.1=id
    ·refine .inr ⟨p,List.mem_cons_self,hx,ha,hf,?_⟩;rw [e1,Zr _ _ _ _ hid (hq p List.mem_cons_self),if_pos hx.symm]
    ·refine rest (fun _ _=>hx) (.inr ?_);rw [e1,Zr _ _ _ _ hid (hq p List.mem_cons_self),if_neg (fun h=>hx h.symm)]
section
variable {f:Fr} {h:Hp} {S:Nat→DS} (R:Run P call n ops f h S)
include R
theorem Run.grow{k:Nat}{o:Oper}(ho:ops[k]? =some o)(hl:(S k).h.n≤big5):(S k).h.n≤(S (k+1)).h.n∧(S (k+1)).h.n≤big5:=by
 obtain⟨_,⟨_,v,s1,⟨h',h1⟩,h2⟩ | ⟨_,h2⟩⟩:=R.st k o ho
 ·rw [h2]
  cases hk:kdOf P o.op with
  | pure=>rw [hk] at h1;simp only at h1;rw [h1.2];exact⟨Nat.le_refl _,hl⟩
  | read=>rw [hk] at h1;simp only at h1;rw [h1.2];exact⟨Nat.le_refl _,hl⟩
  | quiet=>
   rw [hk] at h1;simp only at h1;obtain⟨b,hb,hh,_⟩:=Xt hk h1.1;rw [h1.2,hh];exact⟨Nat.le_succ _,hb⟩
  | move=>
   rw [hk] at h1;simp only at h1;have g:=(Jdc R.cs h1.1).1 hl;rw [h1.2];exact⟨g.le,g.lim hl⟩
 ·rw [h2];exact⟨Nat.le_refl _,hl⟩
theorem Run.lims:∀ i,i≤ops.size→(S i).h.n≤big5∧h.n≤(S i).h.n:=by
 intro i
 induction i with
 | zero=>intro _;rw [R.s0];exact⟨R.lim,Nat.le_refl _⟩
 | succ i ih=>
  intro hi;obtain⟨h1,h2⟩:=ih (by omega);have ho:ops[i]? =some ops[i]:=by simp [show i < ops.size by omega]
  obtain⟨g1,g2⟩:=R.grow ho h1;exact⟨g2,Nat.le_trans h2 g1⟩
theorem Run.mono:∀ i j,i≤j→j≤ops.size→(S i).h.n≤(S j).h.n:=by
 intro i j hij
 induction hij with
 | refl=>intro _;exact Nat.le_refl _
 | step hij ih=>
  rename_i j
  intro hj;have hj:j+1≤ops.size:=hj;have ho:ops[j]? =some ops[j]:=by simp [show j < ops.size by omega]
  exact Nat.le_trans (ih (by omega)) (R.grow ho (R.lims j (by omega)).1).1
theorem Run.hs:∀ i,i≤ops.size→(S i).hs.length=mcn P ops i+1∧∃ hl,(S i).hs[mcn P ops i]? =some (hl,(S i).fl)∧(S i).h.t=hl.t∧hl.n≤(S i).h.n:=by
 intro i
 induction i with
 | zero=>intro _;rw [R.s0];exact⟨rfl,h,rfl,rfl,Nat.le_refl _⟩
 | succ i ih=>
  intro hi;obtain⟨h1,hl,h2,h3,h4⟩:=ih (by omega);have ho:ops[i]? =some ops[i]:=by simp [show i < ops.size by omega]
  rw [Jm3,V4 (P:=P) ho];have hlast:∀ x,((S i).hs++[x])[mcn P ops i+1]? =some x:=fun x=>by
   rw [List.getElem?_append_right (by omega),h1,Nat.sub_self];rfl
  obtain⟨_,⟨_,v,s1,⟨h',g1⟩,g2⟩ | ⟨_,g2⟩⟩:=R.st i _ ho
  ·cases hk:kdOf P ops[i].op with
   | pure=>rw [hk] at g1;simp only at g1;rw [g2,g1.2];exact⟨h1,hl,h2,h3,h4⟩
   | read=>rw [hk] at g1;simp only at g1;rw [g2,g1.2];exact⟨h1,hl,h2,h3,h4⟩
   | quiet=>
    rw [hk] at g1;simp only at g1;obtain⟨b,hb,hh,_⟩:=Xt hk g1.1;rw [g2,g1.2];refine⟨h1,hl,h2,h3,?_⟩
    show hl.n≤h'.n
    rw [hh];exact Nat.le_succ_of_le h4
   | move=>
    rw [hk] at g1;simp only at g1;rw [g2,g1.2];refine⟨by simp [h1,Y0],h',hlast _,rfl,Nat.le_refl _⟩
  ·rw [g2]
   cases hk:Y0 (kdOf P ops[i].op) with
   | false=>exact⟨h1,hl,h2,h3,h4⟩
   | true=>exact⟨by simp [h1],(S i).h,hlast _,rfl,Nat.le_refl _⟩
theorem Run.hs_step{k:Nat}{o:Oper}(ho:ops[k]? =some o):(∃ l,(S (k+1)).hs=(S k).hs++l)∧(∃ l,(S (k+1)).qt=l++(S k).qt):=by
 obtain⟨_,⟨_,v,s1,⟨h',g1⟩,g2⟩ | ⟨_,g2⟩⟩:=R.st k o ho
 ·cases hk:kdOf P o.op with
  | pure=>rw [hk] at g1;simp only at g1;rw [g2,g1.2];exact⟨⟨[],by simp⟩,⟨[],rfl⟩⟩
  | read=>rw [hk] at g1;simp only at g1;rw [g2,g1.2];exact⟨⟨[],by simp⟩,⟨[],rfl⟩⟩
  | quiet=>rw [hk] at g1;simp only at g1;rw [g2,g1.2];exact⟨⟨[],by simp⟩,⟨[_],rfl⟩⟩
  | move=>rw [hk] at g1;simp only at g1;rw [g2,g1.2];exact⟨⟨_,rfl⟩,⟨[],rfl⟩⟩
 ·rw [g2]
  cases hk:Y0 (kdOf P o.op) with
  | false=>exact⟨⟨[],by simp⟩,⟨[],rfl⟩⟩
  | true=>exact⟨⟨_,rfl⟩,⟨[],rfl⟩⟩
theorem Run.hs_pre:∀ i j,i≤j→j≤ops.size→(∀ (p:Nat) x,(S i).hs[p]? =some x→(S j).hs[p]? =some x)∧∀ e ∈ (S i).qt,e ∈ (S j).qt:=by
 intro i j hij
 induction hij with
 | refl=>intro _;exact⟨fun _ _ h=>h,fun _ h=>h⟩
 | step hij ih=>
  rename_i j
  intro hj;have hj:j+1≤ops.size:=hj;have ho:ops[j]? =some ops[j]:=by simp [show j < ops.size by omega]
  obtain⟨i1,i2⟩:=ih (by omega);obtain⟨⟨l,hl⟩,⟨m,hm⟩⟩:=R.hs_step ho;refine⟨fun p x hx=>?_,fun e he=>?_⟩
  ·have:=i1 p x hx
   show(S (j+1)).hs[p]? =some x
   rw [hl,List.getElem?_append_left (List.getElem?_eq_some_iff.1 this).1];exact this
  ·show e ∈ (S (j+1)).qt
   rw [hm];exact List.mem_append_right _ (i2 e he)
theorem Run.qt:∀ i,i≤ops.size→∀ e ∈ (S i).qt,e.1 < i∧∃ o v b,ops[e.1]? =some o∧kdOf P o.op= .quiet∧zt ops o.guard (S e.1).f=some true∧
  evOp P call o.op (S e.1).f (S e.1).h= .ok v ⟨set5 (S e.1).h.n (some b) (S e.1).h.t,(S e.1).h.n+1⟩∧e.2.1=(S e.1).h.n∧e.2.2=some b∧(S (e.1+1)).h.n=(S e.1).h.n+1∧(S e.1).h.n < big5:=by
 intro i
 induction i with
 | zero=>intro _ e he;rw [R.s0] at he;cases he
 | succ i ih=>
  intro hi e he;have ho:ops[i]? =some ops[i]:=by simp [show i < ops.size by omega]
  have old:e ∈ (S i).qt→e.1 < i+1∧∃ o v b,ops[e.1]? =some o∧kdOf P o.op= .quiet∧zt ops o.guard (S e.1).f=some true∧
    evOp P call o.op (S e.1).f (S e.1).h= .ok v ⟨set5 (S e.1).h.n (some b) (S e.1).h.t,(S e.1).h.n+1⟩∧e.2.1=(S e.1).h.n∧e.2.2=some b∧(S (e.1+1)).h.n=(S e.1).h.n+1∧(S e.1).h.n < big5:=by
   intro he;obtain⟨h1,h2⟩:=ih (by omega) e he;exact⟨by omega,h2⟩
  have hst:=R.st i _ ho;obtain⟨_,⟨hw,v,s1,⟨h',g1⟩,g2⟩ | ⟨_,g2⟩⟩:=hst
  ·cases hk:kdOf P ops[i].op with
   | pure=>rw [hk] at g1;simp only at g1;rw [g2,g1.2] at he;exact old he
   | read=>rw [hk] at g1;simp only at g1;rw [g2,g1.2] at he;exact old he
   | move=>rw [hk] at g1;simp only at g1;rw [g2,g1.2] at he;exact old he
   | quiet=>
    rw [hk] at g1;simp only at g1;obtain⟨b,hb,hh,_⟩:=Xt hk g1.1;have he':e ∈ (i,(S i).h.n,get5 (S i).h.n h'.t)::(S i).qt:=by rw [g2,g1.2] at he;exact he
    cases he' with
    | tail _ he=>exact old he
    | head=>
     refine⟨Nat.lt_succ_self i,ops[i],v,b,ho,hk,hw,by rw [← hh];exact g1.1,rfl,?_,?_,hb⟩
     ·rw [hh]
      show get5 (S i).h.n (set5 (S i).h.n (some b) (S i).h.t)=some b
      rw [Zr _ _ _ _ hb hb,if_pos rfl]
     ·rw [g2,g1.2,hh]
  ·rw [g2] at he;exact old he
theorem Run.apart{q i:Nat}{id:Nat}(hq:q < ops.size)(hi:i < ops.size)(hqi:q≠i)(h1:(S q).h.n≤id)(h2:id < (S (q+1)).h.n):¬ ((S i).h.n≤id∧id < (S (i+1)).h.n):=by
 intro ⟨h3,h4⟩
 rcases Nat.lt_or_ge q i with hl | hl
 ·have:=R.mono (q+1) i hl (by omega);omega
 ·have:=R.mono (i+1) q (by omega) (by omega);omega
theorem Run.frame{k:Nat}{o:Oper}(ho:ops[k]? =some o){t:Nat}(ht:t < 4096)(hne:o.dst≠some t):getF t (S (k+1)).f=getF t (S k).f:=by
 have key:∀ v,getF t (setd o.dst v (S k).f)=getF t (S k).f:=by
  intro v;have hlo:=(R.st k o ho).1
  cases hd:o.dst with
  | none=>rfl
  | some d=>
   rw [hd] at hlo hne;have hlo:d < n:=hlo
   show getF t (setF d v (S k).f)=_
   rw [Xn _ _ _ _ ht (Nat.lt_of_lt_of_le hlo R.n256),if_neg (fun e=>hne (by rw [e]))]
 obtain⟨_,⟨_,v,s1,_,g2⟩ | ⟨_,g2⟩⟩:=R.st k o ho
 ·rw [g2];exact key v
 ·rw [g2];exact key (.tp [])
theorem Run.frames{t:Nat}(ht:t < 4096):∀ i j,i≤j→j≤ops.size→(∀ (k:Nat) (o:Oper),i≤k→k < j→ops[k]? =some o→o.dst≠some t)→getF t (S j).f=getF t (S i).f:=by
 intro i j hij
 induction hij with
 | refl=>intro _ _;rfl
 | step hij ih=>
  rename_i j
  intro hj hh;have hj:j+1≤ops.size:=hj;have hij:i≤j:=hij;have ho:ops[j]? =some ops[j]:=by simp [show j < ops.size by omega]
  have e1:getF t (S (j+1)).f=getF t (S j).f:=R.frame ho ht (hh j _ hij (Nat.lt_succ_self j) ho)
  show getF t (S (j+1)).f=_
  rw [e1];exact ih (by omega) fun k o h1 h2=>hh k o h1 (Nat.lt_succ_of_lt h2)
theorem Run.qt_id{i:Nat}(hi:i≤ops.size):∀ e ∈ (S i).qt,e.2.1 < (S i).h.n∧e.2.1 < big5∧h.n≤e.2.1:=by
 intro e he;obtain⟨h1,o,v,b,_,_,_,_,h2,_,h3,h4⟩:=R.qt i hi e he
 have:=R.mono (e.1+1) i h1 hi
 have h5:=(R.lims e.1 (by omega)).2;refine⟨by omega,by omega,by omega⟩
theorem Run.one{i:Nat}(hi:i≤ops.size){e e':Nat × Nat × Option Blk}(he:e ∈ (S i).qt)(he':e' ∈ (S i).qt)(hid:e.2.1=e'.2.1):e.1=e'.1:=by
 obtain⟨h1,o,v,b,_,_,_,_,h2,_,h3,h4⟩:=R.qt i hi e he;obtain⟨h1',o',v',b',_,_,_,_,h2',_,h3',h4'⟩:=R.qt i hi e' he';refine Classical.byContradiction fun hne=>?_
 exact R.apart (q:=e.1) (i:=e'.1) (id:=e.2.1) (by omega) (by omega) hne (by omega) (by omega) ⟨by omega,by omega⟩
theorem Run.none_(hfin:∀ id,h.n≤id→id < big5→get5 id h.t=none):∀ i,i≤ops.size→∀ (p:Nat) x,(S i).hs[p]? =some x→(∀ e ∈ (S ops.size).qt,tb x.2 e.1=false→get5 e.2.1 x.1.t=none)∧∀ id,id < h.n→get5 id h.t=none→get5 id x.1.t=none:=by
 intro i
 induction i with
 | zero=>
  intro _ p x hx;rw [R.s0] at hx
  cases p with
  | zero=>
   simp at hx;subst hx;refine⟨fun e he _=>?_,fun id _ hn=>hn⟩
   obtain⟨_,h2,h3⟩:=R.qt_id (Nat.le_refl _) e he;exact hfin _ h3 h2
  | succ p=>simp at hx
 | succ i ih=>
  intro hi p x hx;have hi':i < ops.size:=by omega
  have ho:ops[i]? =some ops[i]:=by simp [hi']
  have ihh:=ih (by omega);obtain⟨hlen,hl,hlast,hlt,hln⟩:=R.hs i (by omega);have hlim:=(R.lims i (by omega));obtain⟨k1,k2⟩:=ihh _ _ hlast;have old:(S i).hs[p]? =some x→_:=fun hx=>ihh p x hx;have new_:∀ y,((S i).hs++[y])[p]? =some x→(S i).hs[p]? =some x∨x=y:=by
   intro y hy;rw [List.getElem?_append] at hy
   split at hy
   ·exact .inl hy
   ·refine .inr ?_
    have:=(List.getElem?_eq_some_iff.1 hy).1
    have e0:p - (S i).hs.length=0:=by simp at this;omega
    rw [e0] at hy;simp at hy;exact hy.symm
  obtain⟨_,⟨_,v,s1,⟨h',g1⟩,g2⟩ | ⟨_,g2⟩⟩:=R.st i _ ho
  ·cases hk:kdOf P ops[i].op with
   | pure=>rw [hk] at g1;simp only at g1;rw [g2,g1.2] at hx;exact old hx
   | read=>rw [hk] at g1;simp only at g1;rw [g2,g1.2] at hx;exact old hx
   | quiet=>rw [hk] at g1;simp only at g1;rw [g2,g1.2] at hx;exact old hx
   | move=>
    rw [hk] at g1;simp only at g1;have hn1:(S (i+1)).h=h':=by rw [g2,g1.2]
    rw [g2,g1.2] at hx
    rcases new_ _ hx with hx | rfl
    ·exact old hx
    ·have g:=(Jdc R.cs g1.1).1 hlim.1;have hqb:∀ e ∈ (S i).qt,e.2.1 < big5:=fun e he=>(R.qt_id (by omega) e he).2.1
     constructor
     ·intro e he htb;simp only at htb ⊢;rw [zg] at htb;obtain⟨t1,t2⟩:=Bool.or_eq_false_iff.1 htb;obtain⟨he0,oq,vq,bq,hoq,hkq,_,_,hidq,_,hnq,hbq⟩:=R.qt _ (Nat.le_refl _) e he;have hne:e.1≠i:=by
       intro e1;rw [e1,ho] at hoq;cases hoq;rw [hk] at hkq;cases hkq
      have hap:=R.apart (q:=e.1) (i:=i) (id:=e.2.1) he0 hi' hne (by omega) (by omega);rw [hn1] at hap;refine g.none_ e.2.1 (by omega) hap ?_
      show get5 e.2.1 (Z8 (S i).qt (msk ops i) (S i).fl (S i).h.t)=none
      rcases zr (a:=msk ops i) (fl:=(S i).fl) (t:=(S i).h.t) (id:=e.2.1) (by omega) (S i).qt hqb with ⟨q1,_⟩ | ⟨e',q1,q2,q3,q4,_⟩
      ·rw [q1,hlt];exact k1 e he t1
      ·have:=R.one (Nat.le_refl _) ((R.hs_pre i ops.size (by omega) (Nat.le_refl _)).2 e' q1) he q2
       rw [this] at q3;rw [q3] at t2;cases t2
     ·intro id hid hn;simp only;have hsz:id < big5:=by have:=R.lim;omega
      refine g.none_ id hsz (fun hh=>by have hh1:(S i).h.n≤id:=hh.1;omega) ?_
      show get5 id (Z8 (S i).qt (msk ops i) (S i).fl (S i).h.t)=none
      rcases zr (a:=msk ops i) (fl:=(S i).fl) (t:=(S i).h.t) (id:=id) hsz (S i).qt hqb with ⟨q1,_⟩ | ⟨e',q1,q2,_⟩
      ·rw [q1,hlt];exact k2 id hid hn
      ·have:=(R.qt_id (by omega) e' q1).2.2
       omega
  ·rw [g2] at hx
   cases hk:Y0 (kdOf P ops[i].op) with
   | false=>rw [hk] at hx;exact old hx
   | true=>
    rw [hk] at hx
    rcases new_ _ hx with hx | rfl
    ·exact old hx
    ·constructor
     ·intro e he htb
      show get5 e.2.1 (S i).h.t=none
      rw [hlt];exact k1 e he htb
     ·intro id hid hn
      show get5 id (S i).h.t=none
      rw [hlt];exact k2 id hid hn
theorem Run.none2:∀ i,i≤ops.size→∀ (p:Nat) x,(S i).hs[p]? =some x→∀ id,id < big5→¬ (h.n≤id∧id < (S ops.size).h.n)→get5 id h.t=none→get5 id x.1.t=none:=by
 intro i
 induction i with
 | zero=>
  intro _ p x hx;rw [R.s0] at hx
  cases p with
  | zero=>simp at hx;subst hx;exact fun id _ _ hn=>hn
  | succ p=>simp at hx
 | succ i ih=>
  intro hi p x hx;have hi':i < ops.size:=by omega
  have ho:ops[i]? =some ops[i]:=by simp [hi']
  have ihh:=ih (by omega);obtain⟨hlen,hl,hlast,hlt,hln⟩:=R.hs i (by omega);have hlim:=(R.lims i (by omega));have k2:=ihh _ _ hlast;have hmN:=R.mono (i+1) ops.size (by omega) (Nat.le_refl _);have hm1:=R.mono i (i+1) (by omega) (by omega);have old:(S i).hs[p]? =some x→_:=fun hx=>ihh p x hx;have new_:∀ y,((S i).hs++[y])[p]? =some x→(S i).hs[p]? =some x∨x=y:=by
   intro y hy;rw [List.getElem?_append] at hy
   split at hy
   ·exact .inl hy
   ·refine .inr ?_
    have:=(List.getElem?_eq_some_iff.1 hy).1
    have e0:p - (S i).hs.length=0:=by simp at this;omega
    rw [e0] at hy;simp at hy;exact hy.symm
  obtain⟨_,⟨_,v,s1,⟨h',g1⟩,g2⟩ | ⟨_,g2⟩⟩:=R.st i _ ho
  ·cases hk:kdOf P ops[i].op with
   | pure=>
        rw [hk] at g1;simp only at g1;have e9:(S (i+1)).hs=(S i).hs:=by rw [g2,g1.2]
        rw [e9] at hx;exact old hx
   | read=>
        rw [hk] at g1;simp only at g1;have e9:(S (i+1)).hs=(S i).hs:=by rw [g2,g1.2]
        rw [e9] at hx;exact old hx
   | quiet=>
         rw [hk] at g1;simp only at g1;have e9:(S (i+1)).hs=(S i).hs:=by rw [g2,g1.2]
         rw [e9] at hx;exact old hx
   | move=>
    rw [hk] at g1;simp only at g1;have hn1:(S (i+1)).h=h':=by rw [g2,g1.2]
    have e9:(S (i+1)).hs=(S i).hs++[(h',Nat.lor (S i).fl (msk ops i))]:=by rw [g2,g1.2]
    rw [e9] at hx
    rcases new_ _ hx with hx | rfl
    ·exact old hx
    ·have g:=(Jdc R.cs g1.1).1 hlim.1;have hqb:∀ e ∈ (S i).qt,e.2.1 < big5:=fun e he=>(R.qt_id (by omega) e he).2.1;intro id hsz hid hn;simp only;refine g.none_ id hsz (fun hh=>hid ⟨Nat.le_trans hlim.2 hh.1,by have h9:id < h'.n:=hh.2;rw [← hn1] at h9;omega⟩) ?_
     show get5 id (Z8 (S i).qt (msk ops i) (S i).fl (S i).h.t)=none
     rcases zr (a:=msk ops i) (fl:=(S i).fl) (t:=(S i).h.t) (id:=id) hsz (S i).qt hqb with ⟨q1,_⟩ | ⟨e',q1,q2,_⟩
     ·rw [q1,hlt];exact k2 id hsz hid hn
     ·have q9:=R.qt_id (by omega) e' q1;exact absurd ⟨by omega,by omega⟩ hid
  ·have e9:(S (i+1)).hs=if Y0 (kdOf P ops[i].op) then(S i).hs++[((S i).h,(S i).fl)] else(S i).hs:=by rw [g2]
   rw [e9] at hx
   split at hx
   ·rcases new_ _ hx with hx | rfl
    ·exact old hx
    ·intro id hsz hid hn
     show get5 id (S i).h.t=none
     rw [hlt];exact k2 id hsz hid hn
   ·exact old hx
end
end
end Go.Ev
namespace Go.Ev
open Go Go.Wf Go.RowKit
theorem Jvr{a b:Option Nat}(h:Jte a b=true):a=b:=by
 unfold Jte at h
 split at h
 ·rfl
 ·rw [Nat.eq_of_beq_eq_true h]
 ·cases h
theorem Jqr{a b:AV}(h:avEq a b=true):a=b:=by
 unfold avEq at h
 split at h
 ·rw [eq_of_beq h]
 ·obtain⟨h1,h2⟩:=Zs h;rw [Jfz] at h2;rw [Ko h1,of_decide_eq_true h2]
 ·rw [Jdt] at h;rw [of_decide_eq_true h]
 ·rfl
 ·obtain⟨h1,h2⟩:=Zs h;rw [Nat.eq_of_beq_eq_true h1,Nat.eq_of_beq_eq_true h2]
 ·rfl
 ·obtain⟨h,h5⟩:=Zs h;obtain⟨h,h4⟩:=Zs h;obtain⟨h,h3⟩:=Zs h;obtain⟨h1,h2⟩:=Zs h;rw [Nat.eq_of_beq_eq_true h1,Nat.eq_of_beq_eq_true h2,Nat.eq_of_beq_eq_true h3,Nat.eq_of_beq_eq_true h4,Jvr h5]
 ·rfl
 ·rfl
 ·cases h
theorem Jvv:∀ (a b:List AV),Jrz a b=true→a=b:=by
 intro a
 induction a with
 | nil=>intro b h;cases b with
  | nil=>rfl
  | cons y b=>cases h
 | cons x a ih=>
  intro b h
  cases b with
  | nil=>cases h
  | cons y b=>
   have h:(Bool.rec false (Jrz a b) (avEq x y):Bool)=true:=h
   cases hb:avEq x y with
   | false=>rw [hb] at h;cases h
   | true=>rw [hb] at h;rw [Jqr hb,ih b h]
theorem Jse{a b:AV}(h:Jlg a b=true):a=b:=by
 unfold Jlg at h
 split at h
 ·rw [Jvv _ _ h]
 ·exact Jqr h
def resF(l:List Nat)(f:Fr):Fr:=l.foldr (fun t acc=>setF t (getF t f) acc) (Jpm AV.u)
theorem Jf5{l:List Nat}{f:Fr}(hl:∀ x ∈ l,x < 4096){t:Nat}(ht:t < 4096):getF t (resF l f)=if t ∈ l then getF t f else AV.u:=by
 induction l with
 | nil=>exact Jdh t AV.u
 | cons x l ih=>
  have ih:=ih fun y hy=>hl y (by simp [hy])
  show getF t (setF x (getF x f) (resF l f))=_
  rw [Xn _ _ _ _ ht (hl x (by simp)),ih]
  by_cases h1:t=x
  ·subst h1;simp
  ·rw [if_neg h1];simp [h1]
section
variable {P:Program} {call:CallF} {n:Nat} {ops:Array Oper} {f:Fr} {h:Hp} {S:Nat→DS}
theorem Jgd {Φ:Phi} {τ:Tau} {H:Hp} {w:World} {qt:QT} {a fl m:Nat} (r:Rel Φ τ H w) (h1:H.n≤m) (h2:m≤big5) (hq:∀ e ∈ qt,e.2.1 < m)
  (hb:∀ e ∈ qt,tb a e.1=true→tb fl e.1=false→∀ b,e.2.2=some b→Kk Φ τ w e.2.1 b):Rel Φ τ ⟨Z8 qt a fl H.t,m⟩ w:=by
 have hq5:∀ e ∈ qt,e.2.1 < big5:=fun e he=>by have:=hq e he;omega
 refine⟨h2,?_,?_⟩
 ·intro id b hid hg;have hid:id < m:=hid;have hg:get5 id (Z8 qt a fl H.t)=some b:=hg
  rcases zr (a:=a) (fl:=fl) (t:=H.t) (id:=id) (by omega) qt hq5 with ⟨q1,_⟩ | ⟨e,q1,q2,q3,q4,q5⟩
  ·rw [q1] at hg
   rcases Nat.lt_or_ge id H.n with hl | hl
   ·exact r.blk id b hl hg
   ·rw [r.fin id hl (by omega)] at hg;cases hg
  ·rw [q5] at hg;rw [← q2];exact hb e q1 q3 q4 b hg
 ·intro id hid h5;have hid:m≤id:=hid
  show get5 id (Z8 qt a fl H.t)=none
  rcases zr (a:=a) (fl:=fl) (t:=H.t) (id:=id) h5 qt hq5 with ⟨q1,_⟩ | ⟨e,q1,q2,_⟩
  ·rw [q1];exact r.fin id (by omega) h5
  ·have:=hq e q1;omega
def cnt(P:Program)(ops:Array Oper)(L:Array Bool):Nat:=(List.range ops.size).countP fun i=>L.getD i false && isMv P ops i
structure IvS (P:Program) (ops:Array Oper) (f:Fr) (h:Hp) (S:Nat→DS) (Φ0:Phi) (τ0:Tau) (w0:World) (L:Array Bool) (F:Wf.Fr) (w:World) (Φ:Phi) (τ:Tau):Prop where
 tw:Tw Φ0 τ0 h w0 Φ τ (S ops.size).h.n w
 fre:∀ i,i < ops.size→L.getD i false=false→Fre Φ (S i).h.n (S (i+1)).h.n
 fw:∀ t,t < 4096→∀ (j:Nat) (o:Oper),ops[j]? =some o→o.dst=some t→L.getD j false=true→Rv Φ (getF t (S (j+1)).f) (F t)
 f0:∀ t,t < 4096→(∀ (j:Nat) (o:Oper),ops[j]? =some o→o.dst=some t→L.getD j false=false)→Rv Φ (getF t f) (F t)
 rel:∀ x,(S ops.size).hs[cnt P ops L]? =some x→Rel Φ τ x.1 w
 qs:∀ x,(S ops.size).hs[cnt P ops L]? =some x→∀ e ∈ (S ops.size).qt,L.getD e.1 false=true→tb x.2 e.1=false→∀ b,e.2.2=some b→Kk Φ τ w e.2.1 b
theorem Jaq{L:Array Bool}{i:Nat}(hi:i < L.size)(j:Nat):(L.setIfInBounds i true).getD j false=if j=i then true else L.getD j false:=by
 rw [Array.getD_eq_getD_getElem?,Array.getElem?_setIfInBounds]
 by_cases e:i=j
 ·subst e;simp [hi]
 ·rw [if_neg e,if_neg (fun h=>e h.symm),← Array.getD_eq_getD_getElem?]
theorem Jrw{L:Array Bool}{i:Nat}(hi:i < ops.size)(hs:L.size=ops.size)(hf:L.getD i false=false):cnt P ops (L.setIfInBounds i true)=cnt P ops L+if isMv P ops i then 1 else 0:=by
 cases hm:isMv P ops i with
 | true=>
  simp only [if_true];refine xd _ List.nodup_range _ _ i (by simpa using hi) ?_ ?_ ?_
  ·show((L.setIfInBounds i true).getD i false && isMv P ops i)=true;rw [Jaq (by omega),if_pos rfl,hm];rfl
  ·show(L.getD i false && isMv P ops i)=false;rw [hf];rfl
  ·intro j hj
   show _=((L.setIfInBounds i true).getD j false && isMv P ops j)
   rw [Jaq (by omega),if_neg hj]
 | false=>
  simp only [Bool.false_eq_true,if_false,Nat.add_zero];unfold cnt
  apply List.countP_congr
  intro j _;rw [Jaq (by omega)]
  by_cases e:j=i
  ·subst e;rw [hm];simp
  ·rw [if_neg e]
theorem qe(p:Nat→Bool):∀ (N i:Nat),i≤N→(List.range N).countP (fun j=>decide (j < i) && p j)=(List.range i).countP p:=by
 intro N
 induction N with
 | zero=>
      intro i hi;have:i=0:=by omega
      subst this;rfl
 | succ N ih=>
  intro i hi;rw [List.range_succ,List.countP_append,List.countP_singleton]
  by_cases e:i=N+1
  ·subst e;rw [List.range_succ,List.countP_append,List.countP_singleton];have h1:(List.range N).countP (fun j=>decide (j < N+1) && p j)=(List.range N).countP p:=by
    apply List.countP_congr
    intro j hj
    have:j < N:=by simpa using hj
    simp [show j < N+1 by omega]
   rw [h1];simp
  ·rw [ih i (by omega)]
   have:decide (N < i)=false:=decide_eq_false (by omega)
   rw [this];simp
section
variable (R:Run P call n ops f h S) (K:Lk P n ops)
include K
omit K in
theorem notL{L:Array Bool}(hs:L.size=ops.size)(hc:Y6 ops L){i j:Nat}(hj:j < ops.size)(hi:L.getD i false=false)(ha:tb (msk ops j) i=true):L.getD j false=false:=by
 cases hb:L.getD j false with
 | false=>rfl
 | true=>
  have ho:ops[j]? =some ops[j]:=by simp [hj]
  have hjj:L.getD j true=true:=by
   have:L[j]? =some L[j]:=by simp [hs,hj]
   simp [Array.getD_eq_getD_getElem?,this] at hb ⊢;exact hb
  have:=Jjz hs hc j _ i ho (fun e he hbe=>hc j hj hjj _ ho e he hbe) ha
  rw [hi] at this;cases this
theorem kd{L:Array Bool}(hs:L.size=ops.size)(hc:Y6 ops L){i:Nat}{o:Oper}(ho:ops[i]? =some o)(hi:L.getD i false=false)(hp:∀ e ∈ o.after,Region.binds .any e=true→L.getD e.on false=true)(hm:isMv P ops i=true):cnt P ops L=mcn P ops i:=by
 have hiN:=(Array.getElem?_eq_some_iff.1 ho).1;unfold cnt mcn;rw [← qe (isMv P ops) ops.size i (by omega)]
 apply List.countP_congr
 intro j hj;have hj:j < ops.size:=by simpa using hj
 cases hmj:isMv P ops j with
 | false=>simp
 | true=>
  simp only [Bool.and_true]
  rcases Nat.lt_trichotomy j i with h1 | h1 | h1
  ·rw [decide_eq_true h1,Jjz hs hc i o j ho hp (K.chain j i h1 hmj hm)]
  ·subst h1;rw [hi];simp
  ·rw [decide_eq_false (by omega),notL hs hc hj hi (K.chain i j h1 hm hmj)]
include R
theorem frm {L:Array Bool} {F:Wf.Fr} {w w0:World} {Φ Φ0:Phi} {τ τ0:Tau} (I:IvS P ops f h S Φ0 τ0 w0 L F w Φ τ) (hs:L.size=ops.size) (hc:Y6 ops L) {i:Nat} {o:Oper} (ho:ops[i]? =some o) (hi:L.getD i false=false)
  (hp:∀ e ∈ o.after,Region.binds .any e=true→L.getD e.on false=true) {t:Nat} (ht:t < 4096)
  (hw:∀ (j:Nat) (o':Oper),ops[j]? =some o'→o'.dst=some t→tb (msk ops i) j=true∨tb (msk ops j) i=true):Rv Φ (getF t (S i).f) (F t):=by
 have hiN:=(Array.getElem?_eq_some_iff.1 ho).1
 by_cases hex:∃ (j:Nat) (o':Oper),ops[j]? =some o'∧o'.dst=some t∧L.getD j false=true
 ·obtain⟨j,o',hj,hd,hl⟩:=hex;have hjN:=(Array.getElem?_eq_some_iff.1 hj).1
  rcases hw j o' hj hd with h1 | h1
  ·have hlt:=Jf9 i o j ho K.back h1;have e1:getF t (S i).f=getF t (S (j+1)).f:=R.frames ht (j+1) i hlt (by omega) fun k ok h2 h3 hk hd2=>by
    have:=K.uniq j k o' ok t hj hk hd hd2
    omega
   rw [e1];exact I.fw t ht j o' hj hd hl
  ·have:=notL hs hc hjN hi h1
   rw [hl] at this;cases this
 ·have hall:∀ (j:Nat) (o':Oper),ops[j]? =some o'→o'.dst=some t→L.getD j false=false:=by
   intro j o' hj hd
   cases hb:L.getD j false with
   | false=>rfl
   | true=>exact absurd ⟨j,o',hj,hd,hb⟩ hex
  have e1:getF t (S i).f=getF t (S 0).f:=R.frames ht 0 i (Nat.zero_le _) (by omega) fun k ok _ h3 hk hd=>by
   rcases hw k ok hk hd with h1 | h1
   ·have:=Jjz hs hc i o k ho hp h1
    rw [hall k ok hk hd] at this;cases this
   ·have:=Jf9 k ok i hk K.back h1
    omega
  rw [e1,R.s0];exact I.f0 t ht hall
theorem frmOp {L:Array Bool} {F:Wf.Fr} {w w0:World} {Φ Φ0:Phi} {τ τ0:Tau} (I:IvS P ops f h S Φ0 τ0 w0 L F w Φ τ) (hs:L.size=ops.size) (hc:Y6 ops L) {i:Nat} {o:Oper} (ho:ops[i]? =some o) (hi:L.getD i false=false)
  (hp:∀ e ∈ o.after,Region.binds .any e=true→L.getD e.on false=true):∃ g,FR Φ g F∧∀ H,evOp P call o.op (S i).f H=evOp P call o.op g H:=by
 refine⟨resF ((yr o.op.operands.toList).filter (fun t=>decide (t < 4096))) (S i).f,?_,fun H=>Jou ?_⟩
 ·intro t ht;rw [Jf5 (fun x hx=>by simpa using (List.mem_filter.1 hx).2) ht]
  split
  ·rename_i hm
   have hm:=(List.mem_filter.1 hm).1;exact frm R K I hs hc ho hi hp ht fun j o' hj hd=>K.read i o t j o' ho hm hj hd
  ·simp only [Rv]
 ·intro t hm ht;rw [Jf5 (fun x hx=>by simpa using (List.mem_filter.1 hx).2) ht,if_pos];exact List.mem_filter.2 ⟨Jhm hm,by simpa using ht⟩
theorem Jja {L:Array Bool} {F:Wf.Fr} {w w0:World} {Φ Φ0:Phi} {τ τ0:Tau} (I:IvS P ops f h S Φ0 τ0 w0 L F w Φ τ) (hs:L.size=ops.size) (hc:Y6 ops L) {i:Nat} {o:Oper} (ho:ops[i]? =some o) (hi:L.getD i false=false)
  (hp:∀ e ∈ o.after,Region.binds .any e=true→L.getD e.on false=true) {b:Bool} (hw:zt ops o.guard (S i).f=some b):Region.wanted o (Z1 ops F)=b:=by
 refine Jbj (Φ:=Φ) hw fun p d hg hd=>?_
 show Rv Φ (Bool.rec AV.u (getF d (S i).f) (Nat.ble (Nat.succ d) 4096)) (F d)
 cases hb:Nat.ble (Nat.succ d) 4096 with
 | false=>simp only [Rv]
 | true=>
  have hd5:d < 4096:=Nat.le_of_ble_eq_true hb;rw [Option.bind_eq_some_iff] at hd;obtain⟨og,hog,hd⟩:=hd;refine frm R K I hs hc ho hi hp hd5 fun j o' hj hdj=>?_
  have:=K.uniq p.1 j og o' d hog hj hd hdj
  subst this;exact .inl (K.gd i o p ho hg)
end
end
end Go.Ev
namespace Go.Ev
open Go Go.Wf Go.RowKit
section
variable {P:Program} {call:CallF} {n:Nat} {ops:Array Oper} {f:Fr} {h:Hp} {S:Nat→DS}
theorem Je9{F:Wf.Fr}{d t:Nat}{v:Value}:Wf.updO F (some d) v t=if t=d then v else F t:=rfl
theorem IvS.upd {Φ0 Φ Φ':Phi} {τ0 τ τ':Tau} {w0 w w':World} {L:Array Bool} {F:Wf.Fr} {i:Nat} {o:Oper} {v:Value} (R:Run P call n ops f h S) (K:Lk P n ops) (I:IvS P ops f h S Φ0 τ0 w0 L F w Φ τ) (hs:L.size=ops.size)
  (ho:ops[i]? =some o) (hi:L.getD i false=false) (tw:Tw Φ0 τ0 h w0 Φ' τ' (S ops.size).h.n w') (sub:Sub Φ Φ')
  (fre:∀ j,j < ops.size→j≠i→L.getD j false=false→Fre Φ' (S j).h.n (S (j+1)).h.n) (val:∀ t,t < 4096→o.dst=some t→Rv Φ' (getF t (S (i+1)).f) v)
  (rel:∀ x,(S ops.size).hs[cnt P ops L+if isMv P ops i then 1 else 0]? =some x→Rel Φ' τ' x.1 w')
  (qs:∀ x,(S ops.size).hs[cnt P ops L+if isMv P ops i then 1 else 0]? =some x→∀ e ∈ (S ops.size).qt,(e.1=i∨L.getD e.1 false=true)→tb x.2 e.1=false→∀ b,e.2.2=some b→Kk Φ' τ' w' e.2.1 b):
  IvS P ops f h S Φ0 τ0 w0 (L.setIfInBounds i true) (updO F o.dst v) w' Φ' τ':=by
 have hiN:=(Array.getElem?_eq_some_iff.1 ho).1;have hg:=fun j=>Jaq (L:=L) (i:=i) (by omega) j;have hc:=Jrw (P:=P) hiN hs hi;refine⟨tw,?_,?_,?_,?_,?_⟩
 ·intro j hj hl;rw [hg] at hl
  split at hl
  ·cases hl
  ·rename_i hne;exact fre j hj hne hl
 ·intro t ht j o' hj hd hl;rw [hg] at hl
  by_cases e:j=i
  ·subst e;rw [ho] at hj;cases hj
   have:=val t ht hd
   rw [hd,Je9,if_pos rfl];exact this
  ·rw [if_neg e] at hl;have hne:o.dst≠some t:=fun hd2=>e (K.uniq j i o' o t hj ho hd hd2)
   have:=(I.fw t ht j o' hj hd hl).mono sub
   cases hod:o.dst with
   | none=>exact this
   | some d=>
    rw [Je9,if_neg (fun e=>hne (by rw [hod,e]))];exact this
 ·intro t ht hall;have hne:o.dst≠some t:=by
   intro hd
   have:=hall i o ho hd
   rw [hg,if_pos rfl] at this;cases this
  have:=(I.f0 t ht fun j o' hj hd=>by
   have:=hall j o' hj hd
   rw [hg] at this
   split at this
   ·cases this
   ·exact this).mono sub
  cases hod:o.dst with
  | none=>exact this
  | some d=>
   rw [Je9,if_neg (fun e=>hne (by rw [hod,e]))];exact this
 ·intro x hx;rw [hc] at hx;exact rel x hx
 ·intro x hx e he hl hb;rw [hc] at hx;rw [hg] at hl;refine qs x hx e he ?_ hb
  split at hl
  ·exact .inl (by assumption)
  ·exact .inr hl
theorem Jv1{m a:Nat}{qt:QT}{g:Fr}{o:Oper}{v:AV}{k:Out}:∀ (l:List (Hp × Nat)),okO (winK P call m qt a g o v l k)→winK P call m qt a g o v l k=k∧∀ x ∈ l,∃ h',evOp P call o.op g ⟨Z8 qt a x.2 x.1.t,m⟩= .ok v h':=by
 intro l
 induction l with
 | nil=>intro _;exact⟨rfl,fun x hx=>by cases hx⟩
 | cons y l ih=>
  intro e;have e0:winK P call m qt a g o v (y::l) k=Res.rec (fun v' _=>Bool.rec (.no 61) (winK P call m qt a g o v l k) (Jlg v v')) Out.no (fun _ _=> .no 60) (evOp P call o.op g ⟨Z8 qt a y.2 y.1.t,m⟩):=rfl;rw [e0] at e ⊢;obtain⟨v',h',h1,h2⟩:=Jmg e;rw [h2] at e ⊢
  cases hb:Jlg v v' with
  | false=>rw [hb] at e;exact e.elim
  | true=>
   rw [hb] at e;obtain⟨h3,h4⟩:=ih e;refine⟨h3,fun x hx=>?_⟩
   cases hx with
   | head=>rw [Jse hb];exact⟨h',h1⟩
   | tail _ hx=>exact h4 x hx
theorem Jtr{m:Nat}{qt:QT}{rs:List (Nat × Fr × AV)}{hs:List (Hp × Nat)}{k:Out}:∀ (l:List (Nat × Oper × Nat × Nat × Nat)),okO (Jhh P call m qt rs hs k l)→Jhh P call m qt rs hs k l=k∧
  ∀ p ∈ l,∀ r,Jc8 rs p.1=some r→∀ x ∈ tk (dr hs p.2.2.2.1) (Nat.succ (Nat.sub p.2.2.2.2 p.2.2.2.1)),∃ h',evOp P call p.2.1.op r.1 ⟨Z8 qt p.2.2.1 x.2 x.1.t,m⟩= .ok r.2 h':=by
 intro l
 induction l with
 | nil=>intro _;exact⟨rfl,fun p hp=>by cases hp⟩
 | cons q l ih=>
  intro e;have e0:Jhh P call m qt rs hs k (q::l)=Option.rec (Jhh P call m qt rs hs k l) (fun r=>winK P call m qt q.2.2.1 r.1 q.2.1 r.2 (tk (dr hs q.2.2.2.1) (Nat.succ (Nat.sub q.2.2.2.2 q.2.2.2.1))) (Jhh P call m qt rs hs k l)) (Jc8 rs q.1):=rfl;rw [e0] at e ⊢
  cases hf:Jc8 rs q.1 with
  | none=>
   rw [hf] at e;obtain⟨h1,h2⟩:=ih e;refine⟨h1,fun p hp=>?_⟩
   cases hp with
   | head=>intro r hr;rw [hf] at hr;cases hr
   | tail _ hp=>exact h2 p hp
  | some r=>
   rw [hf] at e;simp only at e ⊢;obtain⟨h1,h2⟩:=Jv1 _ e;rw [h1] at e ⊢;obtain⟨h3,h4⟩:=ih e;refine⟨h3,fun p hp=>?_⟩
   cases hp with
   | head=>intro r' hr;rw [hf] at hr;cases hr;exact h2
   | tail _ hp=>exact h4 p hp
theorem Jy7(mv a:Nat):∀ (l:List Nat) (i:Nat),loM mv a l i=(List.range l.length).countP fun j=>tb (Nat.land mv a) (i+j):=by
 intro l
 induction l with
 | nil=>intro i;rfl
 | cons b l ih=>
  intro i;have e0:loM mv a (b::l) i=Bool.rec (loM mv a l (Nat.succ i)) (Nat.succ (loM mv a l (Nat.succ i))) (tb (Nat.land mv a) i):=rfl;rw [e0,ih,List.length_cons,List.range_succ_eq_map,List.countP_cons,List.countP_map];have e1:(List.range l.length).countP ((fun j=>tb (Nat.land mv a) (i+j)) ∘ Nat.succ)=(List.range l.length).countP fun j=>tb (Nat.land mv a) (Nat.succ i+j):=by
   apply List.countP_congr
   intro j _;simp only [Function.comp];rw [show i+Nat.succ j=Nat.succ i+j by omega]
  rw [e1,Nat.add_zero]
  cases tb (Nat.land mv a) i <;> rfl
theorem Jxq(p r:Bool)(G:Nat):(Bool.rec G (Bool.rec (Nat.succ G) G r) p:Nat)=G+if p && !r then 1 else 0:=by cases p <;> cases r <;> rfl
theorem Jzn(mv q:Nat):∀ (l:List Nat) (i:Nat),hiM mv q l i=(List.range l.length).countP fun j=>tb mv (i+j) && !tb ((l[j]?).getD 0) q:=by
 intro l
 induction l with
 | nil=>intro i;rfl
 | cons b l ih=>
  intro i;have e0:hiM mv q (b::l) i=Bool.rec (hiM mv q l (Nat.succ i)) (Bool.rec (Nat.succ (hiM mv q l (Nat.succ i))) (hiM mv q l (Nat.succ i)) (tb b q)) (tb mv i):=rfl;rw [e0,ih,List.length_cons,List.range_succ_eq_map,List.countP_cons,List.countP_map];have e1:(List.range l.length).countP ((fun j=>tb mv (i+j) && !tb (((b::l)[j]?).getD 0) q) ∘ Nat.succ)=(List.range l.length).countP fun j=>tb mv (Nat.succ i+j) && !tb ((l[j]?).getD 0) q:=by
   apply List.countP_congr
   intro j _;simp only [Function.comp,List.getElem?_cons_succ];rw [show i+Nat.succ j=Nat.succ i+j by omega]
  rw [e1,Nat.add_zero];simp only [List.getElem?_cons_zero,Option.getD_some];exact Jxq _ _ _
theorem Jwk{P:Program}{mv:Nat}{ms:List Nat}:∀ (l:List Oper) (m:List Nat) (i j:Nat) (o:Oper) (a:Nat),l[j]? =some o→m[j]? =some a→Jfp (kdOf P o.op)=true→loM mv a ms 0≠hiM mv (i+j) ms 0→
  m.length=l.length→(i+j,o,a,loM mv a ms 0,hiM mv (i+j) ms 0) ∈ winM P mv ms l m i:=by
 intro l
 induction l with
 | nil=>intro m i j o a h;simp at h
 | cons x l ih=>
  intro m i j o a hj hm hr hne hlen
  cases m with
  | nil=>simp at hm
  | cons b m=>
   have e0:winM P mv ms (x::l) (b::m) i=Bool.rec (winM P mv ms l m (Nat.succ i)) (Bool.rec ((i,x,b,loM mv b ms 0,hiM mv i ms 0)::winM P mv ms l m (Nat.succ i)) (winM P mv ms l m (Nat.succ i)) (Nat.beq (loM mv b ms 0) (hiM mv i ms 0))) (Jfp (kdOf P x.op)):=rfl;rw [e0]
   cases j with
   | zero=>
    simp at hj hm;subst hj;subst hm;rw [Nat.add_zero] at hne ⊢;have hb:Nat.beq (loM mv b ms 0) (hiM mv i ms 0)=false:=by rw [zq];exact decide_eq_false hne
    rw [hr,hb];exact List.mem_cons_self
   | succ j=>
    have:=ih m (Nat.succ i) j o a (by simpa using hj) (by simpa using hm) hr (by rw [show Nat.succ i+j=i+(j+1) by omega];exact hne) (by simpa using hlen)
    rw [show Nat.succ i+j=i+(j+1) by omega] at this
    cases Jfp (kdOf P x.op) with
    | false=>exact this
    | true=>
     cases Nat.beq (loM mv b ms 0) (hiM mv i ms 0) with
     | true=>exact this
     | false=>exact List.mem_cons_of_mem _ this
section
variable (R:Run P call n ops f h S) (K:Lk P n ops)
include R
theorem Run.rs{k:Nat}{o:Oper}(ho:ops[k]? =some o)(hr:kdOf P o.op= .read)(hw:zt ops o.guard (S k).f=some true):
  ∃ v h',evOp P call o.op (S k).f ⟨Z8 (S k).qt (msk ops k) (S k).fl (S k).h.t,(S k).h.n⟩= .ok v h'∧(∀ t,o.dst=some t→t < 4096→getF t (S (k+1)).f=v)∧∀ j,k+1≤j→j≤ops.size→Jc8 (S j).rs k=some ((S k).f,v):=by
 have hkN:=(Array.getElem?_eq_some_iff.1 ho).1;obtain⟨hlo,⟨_,v,s1,⟨h',g1⟩,g2⟩ | ⟨hw2,g2⟩⟩:=R.st k o ho
 ·rw [hr] at g1;simp only at g1;refine⟨v,h',g1.1,?_,?_⟩
  ·intro t hd ht;rw [g2,hd]
   show getF t (setF t v (S k).f)=v
   rw [Xn _ _ _ _ ht ht,if_pos rfl]
  ·intro j hj
   induction hj with
   | refl=>
    intro _;rw [g2,g1.2]
    show(Bool.rec (Jc8 (S k).rs k) (some ((S k).f,v)) (Nat.beq k k):Option (Fr × AV))=_
    rw [show Nat.beq k k=true from Nat.beq_refl k]
   | step hj ih=>
    rename_i j
    intro hjN;have hjN:j+1≤ops.size:=hjN;have hj:k+1≤j:=hj;have hoj:ops[j]? =some ops[j]:=by simp [show j < ops.size by omega]
    have ih:=ih (by omega);obtain⟨_,⟨_,v2,s2,⟨h2,q1⟩,q2⟩ | ⟨_,q2⟩⟩:=R.st j _ hoj
    ·cases hk:kdOf P ops[j].op with
     | pure=>rw [hk] at q1;simp only at q1;rw [q2,q1.2];exact ih
     | quiet=>rw [hk] at q1;simp only at q1;rw [q2,q1.2];exact ih
     | move=>rw [hk] at q1;simp only at q1;rw [q2,q1.2];exact ih
     | read=>
      rw [hk] at q1;simp only at q1;rw [q2,q1.2]
      show(Bool.rec (Jc8 (S j).rs k) (some ((S j).f,v2)) (Nat.beq j k):Option (Fr × AV))=_
      have:Nat.beq j k=false:=by rw [zq];exact decide_eq_false (by omega)
      rw [this];exact ih
    ·rw [q2];exact ih
 ·rw [hw] at hw2;cases hw2
include K
theorem stepI (hfin:∀ id,h.n≤id→id < big5→get5 id h.t=none) (hwin:∀ p ∈ winM P (movM P ops.toList 0) (ancM ops.toList []) ops.toList (ancM ops.toList []) 0,∀ r,Jc8 (S ops.size).rs p.1=some r→∀ x ∈ tk (dr (S ops.size).hs p.2.2.2.1) (Nat.succ (Nat.sub p.2.2.2.2 p.2.2.2.1)),
   ∃ h',evOp P call p.2.1.op r.1 ⟨Z8 (S ops.size).qt p.2.2.1 x.2 x.1.t,(S ops.size).h.n⟩= .ok r.2 h')
  {Φ0 Φ:Phi} {τ0 τ:Tau} {w0 w:World} {L:Array Bool} {F:Wf.Fr} (I:IvS P ops f h S Φ0 τ0 w0 L F w Φ τ) (hs:L.size=ops.size) (hc:Y6 ops L) {i:Nat} {o:Oper} (ho:ops[i]? =some o) (hi:L.getD i false=false)
  (hp:∀ e ∈ o.after,Region.binds .any e=true→L.getD e.on false=true):
  lo n o.dst∧OpSt P ops F o w (fun v w'=>∃ Φ' τ',IvS P ops f h S Φ0 τ0 w0 (L.setIfInBounds i true) (updO F o.dst v) w' Φ' τ') (fun _ _=>False):=by
 have hiN:=(Array.getElem?_eq_some_iff.1 ho).1;have hmono1:=R.mono i (i+1) (by omega) (by omega);have hmonoN:=R.mono (i+1) ops.size (by omega) (Nat.le_refl _);have hlimN:=(R.lims ops.size (Nat.le_refl _));have hlimi:=R.lims i (by omega);obtain⟨hhl,hlx,hlat,hlt,hln⟩:=R.hs i (by omega);have hlatN:=(R.hs_pre i ops.size (by omega) (Nat.le_refl _)).1 _ _ hlat;have hqN:=(R.hs_pre i ops.size (by omega) (Nat.le_refl _)).2;have setv:∀ {t:Nat} {v:AV} {g:Fr},t < 4096→o.dst=some t→getF t (setd o.dst v g)=v:=by
  intro t v g ht hd;rw [hd]
  show getF t (setF t v g)=v
  rw [Xn _ _ _ _ ht ht,if_pos rfl]
 have relAt:∀ {x:Hp × Nat},(S ops.size).hs[cnt P ops L]? =some x→∀ {qt:QT} {m:Nat},(∀ e ∈ qt,e ∈ (S ops.size).qt∧e.2.1 < m)→x.1.n≤m→m≤big5→Rel Φ τ ⟨Z8 qt (msk ops i) x.2 x.1.t,m⟩ w:=by
  intro x hx qt m hq h1 h2;refine Jgd (I.rel x hx) h1 h2 (fun e he=>(hq e he).2) fun e he ha hf b hb=>?_
  exact I.qs x hx e (hq e he).1 (Jjz hs hc i o e.1 ho hp ha) hf b hb
 obtain⟨hlo,hst⟩:=R.st i o ho;refine⟨hlo,?_⟩;obtain⟨g,hF,hev⟩:=frmOp R K I hs hc ho hi hp
 rcases hst with ⟨hw,v,s1,⟨h',g1⟩,g2⟩ | ⟨hw,g2⟩
 ·have hwant:=Jja R K I hs hc ho hi hp hw;unfold OpSt;rw [if_pos hwant]
  cases hk:kdOf P o.op with
  | pure=>
   have hmv:isMv P ops i=false:=by rw [V4 ho,hk];rfl
   rw [hk] at g1;simp only at g1;obtain⟨g1,rfl⟩:=g1;rw [hev] at g1;obtain⟨_,pu⟩:=Jb9 hk g1;obtain⟨dst,op,ty,pos,after,gd⟩:=o
   refine(pu Φ F w dst ty pos after gd hF).mono ?_ fun _ _ h=>h
   rintro x w' ⟨rfl,hv⟩;refine⟨Φ,τ,I.upd R K hs ho hi I.tw (Sub.refl _) (fun j hj hne hl=>I.fre j hj hl) (fun t ht hd=>?_) ?_ ?_⟩
   ·rw [g2];simp only;rw [setv ht hd];exact hv
   ·rw [hmv];exact I.rel
   ·rw [hmv];intro x hx e he hl
    rcases hl with hl | hl
    ·obtain⟨_,o',_,_,ho',hk',_⟩:=R.qt _ (Nat.le_refl _) e he;rw [hl,ho] at ho';cases ho';rw [hk] at hk';cases hk'
    ·exact I.qs x hx e he hl
  | read=>
   have hmv:isMv P ops i=false:=by rw [V4 ho,hk];rfl
   obtain⟨vr,hr',e1,e2,e3⟩:=R.rs ho hk hw;have e3:=e3 ops.size (by omega) (Nat.le_refl _);have hlo1:loM (movM P ops.toList 0) (msk ops i) (ancM ops.toList []) 0≤cnt P ops L:=by
    rw [Jy7,zd];unfold cnt
    apply List.countP_mono_left
    intro j hj hb;rw [Nat.zero_add] at hb;have e5:tb (Nat.land (movM P ops.toList 0) (msk ops i)) j=(tb (movM P ops.toList 0) j && tb (msk ops i) j):=by rw [ju,ju,ju];exact Nat.testBit_and _ _ _
    rw [e5,mvM] at hb;obtain⟨b1,b2⟩:=Zs hb;rw [Jjz hs hc i o j ho hp b2,b1];rfl
   have hhi1:cnt P ops L≤hiM (movM P ops.toList 0) i (ancM ops.toList []) 0:=by
    rw [Jzn,zd];unfold cnt
    apply List.countP_mono_left
    intro j hj hb;have hj:j < ops.size:=by simpa using hj
    obtain⟨b1,b2⟩:=Zs hb;rw [Nat.zero_add,mvM,b2]
    cases hd:tb (((ancM ops.toList [])[j]?).getD 0) i with
    | false=>rfl
    | true=>
     have:=notL hs hc hj hi hd
     rw [b1] at this;cases this
   have hlo2:loM (movM P ops.toList 0) (msk ops i) (ancM ops.toList []) 0≤mcn P ops i:=by
    rw [Jy7,zd];unfold mcn;rw [← qe (isMv P ops) ops.size i (by omega)]
    apply List.countP_mono_left
    intro j hj hb;rw [Nat.zero_add] at hb;have e5:tb (Nat.land (movM P ops.toList 0) (msk ops i)) j=(tb (movM P ops.toList 0) j && tb (msk ops i) j):=by rw [ju,ju,ju];exact Nat.testBit_and _ _ _
    rw [e5,mvM] at hb;obtain⟨b1,b2⟩:=Zs hb;rw [b1,decide_eq_true (Jf9 i o j ho K.back b2)];rfl
   have hhi2:mcn P ops i≤hiM (movM P ops.toList 0) i (ancM ops.toList []) 0:=by
    rw [Jzn,zd];unfold mcn;rw [← qe (isMv P ops) ops.size i (by omega)]
    apply List.countP_mono_left
    intro j hj hb;have hj:j < ops.size:=by simpa using hj
    obtain⟨b1,b2⟩:=Zs hb;have b1:j < i:=of_decide_eq_true b1;rw [Nat.zero_add,mvM,b2]
    cases hd:tb (((ancM ops.toList [])[j]?).getD 0) i with
    | false=>rfl
    | true=>
     have:=Jf9 j ops[j] i (by simp [hj]) K.back hd
     omega
   have hlenN:=(R.hs ops.size (Nat.le_refl _)).1;have hcN:cnt P ops L≤mcn P ops ops.size:=by
    unfold cnt mcn
    apply List.countP_mono_left
    intro j _ hb
    exact(Zs hb).2
   obtain⟨x,hx⟩:∃ x,(S ops.size).hs[cnt P ops L]? =some x:=⟨_,List.getElem?_eq_getElem (by omega)⟩;have rd:∃ hq,evOp P call o.op (S i).f hq= .ok vr hr'∨(∃ h2,evOp P call o.op (S i).f hq= .ok vr h2)∧True:=⟨_,.inl e1⟩;have core:∃ H h2,evOp P call o.op (S i).f H= .ok vr h2∧Rel Φ τ H w:=by
    by_cases hne:loM (movM P ops.toList 0) (msk ops i) (ancM ops.toList []) 0=hiM (movM P ops.toList 0) i (ancM ops.toList []) 0
    ·have hcc:cnt P ops L=mcn P ops i:=by omega
     rw [← hcc] at hlatN;refine⟨_,_,e1,?_⟩
     have:=relAt hlatN (qt:=(S i).qt) (m:=(S i).h.n) (fun e he=>⟨hqN e he,(R.qt_id (by omega) e he).1⟩) hln hlimi.1
     rw [hlt];exact this
    ·have hmem:=Jwk (P:=P) (mv:=movM P ops.toList 0) (ms:=ancM ops.toList []) ops.toList (ancM ops.toList []) 0 i o (msk ops i) (by simpa using ho) (Jdo hiN) (by rw [hk];rfl) (by rw [Nat.zero_add];exact hne) (by rw [zd];simp);rw [Nat.zero_add] at hmem;have hxm:x ∈ tk (dr (S ops.size).hs (loM (movM P ops.toList 0) (msk ops i) (ancM ops.toList []) 0)) (Nat.succ (Nat.sub (hiM (movM P ops.toList 0) i (ancM ops.toList []) 0) (loM (movM P ops.toList 0) (msk ops i) (ancM ops.toList []) 0))):=by
      rw [Jvw,Jad]
      apply List.mem_of_getElem? (i:=cnt P ops L - loM (movM P ops.toList 0) (msk ops i) (ancM ops.toList []) 0)
      rw [List.getElem?_take,if_pos,List.getElem?_drop]
      ·rw [← hx];congr 1;omega
      ·show _ < (hiM (movM P ops.toList 0) i (ancM ops.toList []) 0 - loM (movM P ops.toList 0) (msk ops i) (ancM ops.toList []) 0)+1
       omega
     obtain⟨h2,hh2⟩:=hwin _ hmem _ e3 x hxm;refine⟨_,h2,hh2,?_⟩;have hxn:x.1.n≤(S ops.size).h.n:=by
      have key:∀ j,j≤ops.size→∀ (p:Nat) y,(S j).hs[p]? =some y→y.1.n≤(S j).h.n:=by
       intro j
       induction j with
       | zero=>
        intro _ p y hy;rw [R.s0] at hy ⊢
        cases p with
        | zero=>simp at hy;subst hy;exact Nat.le_refl _
        | succ p=>simp at hy
       | succ j ih=>
        intro hj p y hy;have hoj:ops[j]? =some ops[j]:=by simp [show j < ops.size by omega]
        have hm:=R.mono j (j+1) (by omega) hj;have old:(S j).hs[p]? =some y→y.1.n≤(S (j+1)).h.n:=fun hy=>Nat.le_trans (ih (by omega) p y hy) hm;have new_:∀ z:Hp × Nat,z.1.n≤(S (j+1)).h.n→((S j).hs++[z])[p]? =some y→y.1.n≤(S (j+1)).h.n:=by
         intro z hz hy;rw [List.getElem?_append] at hy
         split at hy
         ·exact old hy
         ·have:=(List.getElem?_eq_some_iff.1 hy).1
          have e0:p - (S j).hs.length=0:=by simp at this;omega
          rw [e0] at hy;simp at hy;subst hy;exact hz
        obtain⟨_,⟨_,v2,s2,⟨h2,q1⟩,q2⟩ | ⟨_,q2⟩⟩:=R.st j _ hoj
        ·cases hkj:kdOf P ops[j].op with
         | pure=>
              rw [hkj] at q1;simp only at q1;have e9:(S (j+1)).hs=(S j).hs:=by rw [q2,q1.2]
              rw [e9] at hy;exact old hy
         | read=>
              rw [hkj] at q1;simp only at q1;have e9:(S (j+1)).hs=(S j).hs:=by rw [q2,q1.2]
              rw [e9] at hy;exact old hy
         | quiet=>
               rw [hkj] at q1;simp only at q1;have e9:(S (j+1)).hs=(S j).hs:=by rw [q2,q1.2]
               rw [e9] at hy;exact old hy
         | move=>
          rw [hkj] at q1;simp only at q1;have e9:(S (j+1)).hs=(S j).hs++[(h2,Nat.lor (S j).fl (msk ops j))]:=by rw [q2,q1.2]
          rw [e9] at hy;exact new_ _ (by rw [q2,q1.2];exact Nat.le_refl _) hy
        ·have e9:(S (j+1)).hs=if Y0 (kdOf P ops[j].op) then(S j).hs++[((S j).h,(S j).fl)] else(S j).hs:=by rw [q2]
         rw [e9] at hy
         split at hy
         ·exact new_ _ hm hy
         ·exact old hy
      exact key ops.size (Nat.le_refl _) _ x hx
     exact relAt hx (fun e he=>⟨he,(R.qt_id (Nat.le_refl _) e he).1⟩) hxn hlimN.1
   obtain⟨H,h2,hev2,hrel⟩:=core;rw [hev] at hev2;obtain⟨_,rdd⟩:=Jc4 hk hev2;obtain⟨dst,op,ty,pos,after,gd⟩:=o
   refine(rdd Φ τ F w dst ty pos after gd hF hrel).mono ?_ fun _ _ h=>h
   rintro y w' ⟨rfl,hv⟩;refine⟨Φ,τ,I.upd R K hs ho hi I.tw (Sub.refl _) (fun j hj hne hl=>I.fre j hj hl) (fun t ht hd=>?_) ?_ ?_⟩
   ·rw [e2 t hd ht];exact hv
   ·rw [hmv];exact I.rel
   ·rw [hmv];intro x hx e he hl
    rcases hl with hl | hl
    ·obtain⟨_,o',_,_,ho',hk',_⟩:=R.qt _ (Nat.le_refl _) e he;rw [hl,ho] at ho';cases ho';rw [hk] at hk';cases hk'
    ·exact I.qs x hx e he hl
  | quiet=>
   have hmv:isMv P ops i=false:=by rw [V4 ho,hk];rfl
   rw [hk] at g1;simp only at g1;obtain⟨g1,hs1⟩:=g1;have g1':=g1;rw [hev] at g1;obtain⟨b,hb,hh,qt⟩:=Xt hk g1;have hni:(S (i+1)).h.n=(S i).h.n+1:=by rw [g2,hs1,hh]
   have hfr:Φ (S i).h.n=none:=I.fre i hiN hi _ (Nat.le_refl _) (by omega);obtain⟨dst,op,ty,pos,after,gd⟩:=o
   refine(qt Φ F w dst ty pos after gd hF hfr).mono ?_ fun _ _ h=>h
   rintro y w' ⟨kk,O,wn,hv,nb⟩;have hsub:Sub Φ (ext Φ (S i).h.n ⟨w.heap.size,0,kk⟩):=Sub.ext hfr;have hkeep:∀ g,g < w.heap.size→w'.heap[g]? =w.heap[g]? ∧(if g=w.heap.size then(if b.ro then Lab.ro else Lab.own (S i).h.n) else τ g)=τ g:=fun g hg=>⟨wn.old g hg,if_neg (by omega)⟩;refine⟨_,fun g=>if g=w.heap.size then(if b.ro then Lab.ro else Lab.own (S i).h.n) else τ g,I.upd R K hs ho hi ?_ hsub ?_ ?_ ?_ ?_⟩
   ·refine⟨wn.os.trans I.tw.os,wn.tape.trans I.tw.tape,wn.output.trans I.tw.output,by rw [wn.size];have:=I.tw.size;omega,I.tw.sub.trans hsub,?_,?_⟩
    ·intro id hid;rw [← I.tw.same id hid];unfold ext;rw [if_neg (by omega)]
    ·intro g hg hkp;obtain⟨k1,k2⟩:=I.tw.keep g hg hkp;obtain⟨k3,k4⟩:=hkeep g (Nat.lt_of_lt_of_le hg I.tw.size);exact⟨k3.trans k1,k4.trans k2⟩
   ·intro j hj hne hl id h1 h2
    have:=I.fre j hj hl id h1 h2
    unfold ext;rw [if_neg]
    ·exact this
    ·rintro rfl;exact R.apart hiN hj (fun e=>hne e.symm) (Nat.le_refl _) (by omega) ⟨h1,h2⟩
   ·intro t ht hd;rw [g2];simp only;rw [setv ht hd];exact hv
   ·rw [hmv];intro x hx
    exact(I.rel x hx).kept hsub hkeep
   ·rw [hmv];intro x hx e he hl htb b' hb'
    rcases hl with hl | hl
    ·
     obtain⟨he0,oq,vq,bq,hoq,hkq,hwq,hevq,hidq,hbq,_,_⟩:=R.qt _ (Nat.le_refl _) e he;rw [hl,ho] at hoq;cases hoq;rw [hl] at hevq hidq;rw [g1'] at hevq;have h9:=(Jx hevq).2;rw [hh] at h9;have h10:=congrArg Hp.t h9;have h11:get5 (S i).h.n (set5 (S i).h.n (some b) (S i).h.t)=get5 (S i).h.n (set5 (S i).h.n (some bq) (S i).h.t):=by
      have:set5 (S i).h.n (some b) (S i).h.t=set5 (S i).h.n (some bq) (S i).h.t:=h10
      rw [this]
     rw [Zr _ _ _ _ hb hb,Zr _ _ _ _ hb hb,if_pos rfl,if_pos rfl] at h11
     cases h11
     rw [hbq] at hb'
     cases hb'
     rw [hidq];exact nb _ _ _ hsub (Vo _ _ _) wn.new_ (if_pos rfl)
    ·obtain⟨en,_,hlt,_,k⟩:=(I.qs x hx e he hl htb b' hb').at_;exact k hsub (hkeep _ hlt).1 (hkeep _ hlt).2
  | move=>
   have hmv:isMv P ops i=true:=by rw [V4 ho,hk];rfl
   have hcc:=kd K hs hc ho hi hp hmv;rw [hk] at g1;simp only at g1;obtain⟨g1,hs1⟩:=g1;rw [hev] at g1;obtain⟨gw,sop⟩:=Jdc R.cs g1;have gw:=gw hlimi.1;have hn1:(S (i+1)).h=h':=by rw [g2,hs1]
   have hlatC:(S ops.size).hs[cnt P ops L]? =some (hlx,(S i).fl):=by rw [hcc];exact hlatN
   have hrelE:Rel Φ τ ⟨Z8 (S i).qt (msk ops i) (S i).fl (S i).h.t,(S i).h.n⟩ w:=by
    have:=relAt hlatC (qt:=(S i).qt) (m:=(S i).h.n) (fun e he=>⟨hqN e he,(R.qt_id (by omega) e he).1⟩) hln hlimi.1
    rw [hlt];exact this
   have hqb:∀ e ∈ (S i).qt,e.2.1 < big5:=fun e he=>(R.qt_id (by omega) e he).2.1;have hnone:=R.none_ hfin ops.size (Nat.le_refl _) _ _ hlatN;obtain⟨dst,op,ty,pos,after,gd⟩:=o
   refine(sop Φ τ F w dst ty pos after gd hF hrelE (by rw [← hn1];exact I.fre i hiN hi)).mono ?_ fun _ _ h=>h
   rintro y w' ⟨Φ',τ',hv,hrel',tw'⟩;have hnew:(S ops.size).hs[cnt P ops L+1]? =some (h',Nat.lor (S i).fl (msk ops i)):=by
    refine(R.hs_pre (i+1) ops.size (by omega) (Nat.le_refl _)).1 _ _ ?_
    have e9:(S (i+1)).hs=(S i).hs++[(h',Nat.lor (S i).fl (msk ops i))]:=by rw [g2,hs1]
    rw [e9,hcc,List.getElem?_append_right (by omega),hhl,Nat.sub_self];rfl
   have hnN:h'.n≤(S ops.size).h.n:=by rw [← hn1];exact hmonoN
   refine⟨Φ',τ',I.upd R K hs ho hi ?_ tw'.sub ?_ ?_ ?_ ?_⟩
   ·refine⟨tw'.os.trans I.tw.os,tw'.tape.trans I.tw.tape,tw'.output.trans I.tw.output,Nat.le_trans I.tw.size tw'.size,I.tw.sub.trans tw'.sub,?_,?_⟩
    ·intro id hid;rw [tw'.same id (fun hh=>hid ⟨Nat.le_trans hlimi.2 hh.1,Nat.lt_of_lt_of_le hh.2 hnN⟩),I.tw.same id hid]
    ·intro g hg hkp;obtain⟨k1,k2⟩:=I.tw.keep g hg hkp;obtain⟨k3,k4⟩:=tw'.keep g (Nat.lt_of_lt_of_le hg I.tw.size) (fun id e=>by
      rw [k2] at e;obtain⟨z1,z2⟩:=hkp id e;refine⟨fun hid=>?_,fun hh=>z2 ⟨Nat.le_trans hlimi.2 hh.1,Nat.lt_of_lt_of_le hh.2 hnN⟩⟩;have hid:id < (S i).h.n:=hid;have hidh:id < h.n:=by
       rcases Nat.lt_or_ge id h.n with hl | hl
       ·exact hl
       ·exact absurd ⟨hl,by omega⟩ z2
      show get5 id (Z8 (S i).qt (msk ops i) (S i).fl (S i).h.t)=none
      rcases zr (a:=msk ops i) (fl:=(S i).fl) (t:=(S i).h.t) (id:=id) (by have:=R.lim;omega) (S i).qt hqb with ⟨q1,_⟩ | ⟨e',q1,q2,_⟩
      ·rw [q1,hlt];exact hnone.2 id hidh (z1 hidh)
      ·have:=(R.qt_id (by omega) e' q1).2.2
       omega)
     exact⟨k3.trans k1,k4.trans k2⟩
   ·intro j hj hne hl id h1 h2;rw [tw'.same id (fun hh=>R.apart hj hiN hne h1 h2 ⟨hh.1,by rw [hn1];exact hh.2⟩)];exact I.fre j hj hl id h1 h2
   ·intro t ht hd;rw [g2];simp only;rw [setv ht hd];exact hv
   ·rw [hmv];intro x hx;simp only [if_true] at hx;rw [hnew] at hx;cases hx;exact hrel'
   ·rw [hmv];intro x hx e he hl htb b' hb';simp only [if_true] at hx;rw [hnew] at hx;cases hx;simp only at htb;rw [zg] at htb;obtain⟨t1,t2⟩:=Bool.or_eq_false_iff.1 htb;obtain⟨he0,oq,vq,bq,hoq,hkq,_,_,hidq,_,hnq,hbq⟩:=R.qt _ (Nat.le_refl _) e he;have hne:e.1≠i:=by
     intro e1;rw [e1,ho] at hoq;cases hoq;rw [hk] at hkq;cases hkq
    have hl:L.getD e.1 false=true:=hl.resolve_left hne;have hnoq:=hnone.1 e he t1;obtain⟨en,_,hlt2,hlab,kk⟩:=(I.qs _ hlatC e he hl t1 b' hb').at_;have hkp:=tw'.keep en.g hlt2 (fun id e9=>by
     rw [hlab] at e9
     split at e9
     ·cases e9
     ·cases e9
      refine⟨fun _=>?_,fun hh=>R.apart he0 hiN hne (by omega) (by omega) ⟨hh.1,by rw [hn1];exact hh.2⟩⟩
      show get5 e.2.1 (Z8 (S i).qt (msk ops i) (S i).fl (S i).h.t)=none
      rcases zr (a:=msk ops i) (fl:=(S i).fl) (t:=(S i).h.t) (id:=e.2.1) (by omega) (S i).qt hqb with ⟨q1,_⟩ | ⟨e',q1,q2,q3,q4,_⟩
      ·rw [q1,hlt];exact hnoq
      ·have:=R.one (Nat.le_refl _) (hqN e' q1) he q2
       rw [this] at q3;rw [q3] at t2;cases t2)
    exact kk tw'.sub hkp.1 hkp.2
 ·
  have hwant:=Jja R K I hs hc ho hi hp hw;unfold OpSt;rw [if_neg (by rw [hwant];simp)];refine⟨Φ,τ,I.upd R K hs ho hi I.tw (Sub.refl _) (fun j hj hne hl=>I.fre j hj hl) (fun t ht hd=>?_) ?_ ?_⟩
  ·rw [g2];simp only;rw [setv ht hd];simp only [Rv,RvL];exact⟨[],rfl,rfl⟩
  ·cases hmv:isMv P ops i with
   | false=>exact I.rel
   | true=>
    have hcc:=kd K hs hc ho hi hp hmv;have hnew:(S ops.size).hs[cnt P ops L+1]? =some ((S i).h,(S i).fl):=by
     refine(R.hs_pre (i+1) ops.size (by omega) (Nat.le_refl _)).1 _ _ ?_
     have hm2:Y0 (kdOf P o.op)=true:=by rw [← V4 (P:=P) ho];exact hmv
     have e9:(S (i+1)).hs=(S i).hs++[((S i).h,(S i).fl)]:=by rw [g2];simp only;rw [if_pos hm2]
     rw [e9,hcc,List.getElem?_append_right (by omega),hhl,Nat.sub_self];rfl
    intro x hx;simp only [if_true] at hx;rw [hnew] at hx;cases hx;have r0:=I.rel (hlx,(S i).fl) (by rw [hcc];exact hlatN);refine⟨hlimi.1,fun id b hid hb=>?_,fun id hid h5=>?_⟩
    ·have hid:id < (S i).h.n:=hid;have hb:get5 id (S i).h.t=some b:=hb;rw [hlt] at hb
     rcases Nat.lt_or_ge id hlx.n with hl | hl
     ·exact r0.blk id b hl hb
     ·rw [r0.fin id hl (by omega)] at hb;cases hb
    ·show get5 id (S i).h.t=none
     rw [hlt];exact r0.fin id (Nat.le_trans hln hid) h5
  ·intro x hx e he hl htb b' hb';have hq:e.1=i→False:=by
    intro e1;obtain⟨_,o',_,_,ho',_,hwq,_⟩:=R.qt _ (Nat.le_refl _) e he;rw [e1,ho] at ho';cases ho';rw [e1,hw] at hwq;cases hwq
   have hl:L.getD e.1 false=true:=hl.resolve_left hq
   cases hmv:isMv P ops i with
   | false=>rw [hmv] at hx;exact I.qs x hx e he hl htb b' hb'
   | true=>
    rw [hmv] at hx;have hcc:=kd K hs hc ho hi hp hmv;have hnew:(S ops.size).hs[cnt P ops L+1]? =some ((S i).h,(S i).fl):=by
     refine(R.hs_pre (i+1) ops.size (by omega) (Nat.le_refl _)).1 _ _ ?_
     have hm2:Y0 (kdOf P o.op)=true:=by rw [← V4 (P:=P) ho];exact hmv
     have e9:(S (i+1)).hs=(S i).hs++[((S i).h,(S i).fl)]:=by rw [g2];simp only;rw [if_pos hm2]
     rw [e9,hcc,List.getElem?_append_right (by omega),hhl,Nat.sub_self];rfl
    simp only [if_true] at hx;rw [hnew] at hx;cases hx;exact I.qs (hlx,(S i).fl) (by rw [hcc];exact hlatN) e he hl htb b' hb'
end
end
end Go.Ev
