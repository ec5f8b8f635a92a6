/- Part 5 of the texts for the claim. -/
import Derived.Test.YtjiojpmoleilgaaGreatDoorForms4
namespace Go.Wf
open Go Go.Proofs Go.RowKit
set_option maxRecDepth 100000
set_option linter.unusedVariables false
set_option linter.unusedSimpArgs false
set_option maxHeartbeats 4000000 in
theorem Ja3 {X:Nat→Prop}{w:World}(hX:∀ b,X b→b < w.heap.size){v0:Value}{a:GInt}(r0:RV Jv X w v0 a){v1:Value}{b:GInt}(r1:RV Jv X w v1 b)(hla:a.mag.length≤536870912)(hlb:b.mag.length≤536870912)(hb0:val b.mag≠0):Calls Tryz.prog 169 #[v0,v1] w(Ret w fun v w'=>∃ v0 v1,v= .tuple #[v0,v1]∧(RV Jv X w' v0(ofZ(a.toZ / b.toZ)))∧(RV Jv X w' v1(ofZ(a.toZ % b.toZ)))):=by
 obtain⟨a1,c2,rfl,h3⟩:=RV.int r0;obtain⟨a4,c5,rfl,h6⟩:=RV.int r1;have C:=J26 hX;have sa:=r0.int_small;have sb:=r1.int_small;have hN:=J1 sa;have hD:=J1 sb;have hbz:=Jxw hb0;have hrl:=Jot(m:=val(ofZ a.toZ).mag)hbz;have hql:=Juc(a:=(ofZ a.toZ).mag)(b:=(ofZ b.toZ).mag)(Kc _);have hr3:(ofZ(Jl false(val(digs(val(ofZ a.toZ).mag % val(ofZ b.toZ).mag))))).mag.length=0↔(val(ofZ a.toZ).mag % val(ofZ b.toZ).mag)=0:=by rw [Jt];exact Jly
 have hr4:(ofZ(Jl false(val(digs(val(ofZ a.toZ).mag % val(ofZ b.toZ).mag))))).mag.length≤(ofZ b.toZ).mag.length:=by rw [Jt,Yb,Q1,Int.natAbs_natCast];exact hrl
 have hba:=qh b.toZ;refine J25(args:=[(.agg #[(.bool a.neg),(.slice a1 a.mag.length c2)]),(.agg #[(.bool b.neg),(.slice a4 b.mag.length c5)])])Tryz.func169 rfl rfl(Nat.le_of_ble_eq_true rfl)(Rg(O rfl(J3b C rfl ?_)));intro g7 w8 x9 y10 lt11 C12 s13 o14;replace h3:=h3.sp s13;replace h6:=h6.sp s13;refine O rfl(J3b C12 rfl ?_);intro g15 w16 x17 y18 lt19 C20 s21 o22;replace o14:=o14.spn s21;refine O rfl(J27 C20 io26 rfl ?_);intro g24 w25 x26 y27 lt28 C29 s30 o31;replace h3:=(h3.sp s21).sp s30;replace h6:=(h6.sp s21).sp s30;refine O rfl(J27 C29 io26 rfl ?_);intro g34 w35 x36 y37 lt38 C39 s40 o41;have n44:=lt38 _ o31.blk.lt;replace o14:=(o14.spn s30).spn s40;replace o22:=(o22.spn s30).spn s40;replace o31:=o31.spn s40;refine Nl(W.seq(J4b J9 6 [[],[0],[],[2],[],[]]((x36,y37),Jik)(RL X w) [fx(.agg #[(.bool a.neg),(.slice a1 a.mag.length c2)]),fun(s:GhL)(v:Value)(w':World)=>RV Jv s.1.1 w' v(ofZ a.toZ),fx(.agg #[(.bool b.neg),(.slice a4 b.mag.length c5)]),fun(s:GhL)(v:Value)(w':World)=>RV Jv s.1.1 w' v(ofZ b.toZ),fun(s:GhL)(v:Value)(w':World)=>∃ g':Nat,v= .pointer(some⟨g',0,none⟩)∧Own w s.1.2 w' g' [(.bool false),(.slice none 0 0)] 26∧w35.heap.size≤g'∧s.2 g'=some 4,fun(s:GhL)(v:Value)(w':World)=>∃ g':Nat,v= .pointer(some⟨g',0,none⟩)∧Own w s.1.2 w' g' [(.bool false),(.slice none 0 0)] 26∧w35.heap.size≤g'∧s.2 g'=some 5](by kernel_rfl)(J4k C39)RL.trans⟨sx,(fun _ _ _ _ _ h r=>RV.tr h r.rc.sp.tx),sx,(fun _ _ _ _ _ h r=>RV.tr h r.rc.sp.tx),(fun _ _ _ _ _⟨g,e,o,l,q⟩r=>⟨g,e,o.spn r.rc.sp,l,r.ext _ _ q⟩),(fun _ _ _ _ _⟨g,e,o,l,q⟩r=>⟨g,e,o.spn r.rc.sp,l,r.ext _ _ q⟩),trivial⟩fun f87 s88 w89 r90 k91=>?_))
 have C92:=r90.rc.cx;have S93:=r90.rc.sp;have lt94:=o14.blk.lt;have lt95:=o22.blk.lt;have lt96:=o31.blk.lt;have lt97:=o41.blk.lt;have hszS93:=S93.tx.size;replace h3:=(h3.sp s40).sp S93;replace h6:=(h6.sp s40).sp S93;replace o14:=o14.spn S93;replace o22:=o22.spn S93;replace o31:=o31.spn S93;replace o41:=o41.spn S93;have k91:Keep [11,12,13,14,6,7] _ f87:=k91;refine⟨⟨fun _=>?_,fun⟨e98,_⟩=>?_,fun _=>?_,fun⟨e99,_⟩=>?_,fun _=>?_,fun _=>?_,trivial⟩,fun⟨e100,d101,e102,d103,d104,d105,_⟩=>?_⟩
 ·exact Ja k91 aN fun _=>OpSt.op(J23(vs:=[(.bool a.neg),(.slice a1 a.mag.length c2)])o14 ag26 rfl rfl rfl⟨s88,RL.same C92,rfl⟩)
 ·refine Ja k91(aC e98 aN)fun _=>OpSt.op(J2z C92 ku rfl rfl(Vp C92.bd(a:=a)(Jk h3)(by omega))?_);intro v106 w107 C108 s109 h110;exact⟨s88,J38⟨C108,s109⟩,h110⟩
 ·exact Ja k91 aN fun _=>OpSt.op(J23(vs:=[(.bool b.neg),(.slice a4 b.mag.length c5)])o22 ag26 rfl rfl rfl⟨s88,RL.same C92,rfl⟩)
 ·refine Ja k91(aC e99 aN)fun _=>OpSt.op(J2z C92 ku rfl rfl(Vp C92.bd(a:=b)(Jk h6)(by omega))?_);intro v111 w112 C113 s114 h115;exact⟨s88,J38⟨C113,s114⟩,h115⟩
 ·refine Ja k91 aN fun _=>OpSt.op(J27 C92 io26 rfl ?_);intro g116 w117 x118 y119 lt120 C121 s122 o123;exact⟨((x118,y119),lab s88.2 g116 4),RL.new(r90.bd fun _ _ h=>by cases h)⟨C121,s122⟩(Nat.le_of_not_lt fun hh=>lt120 _ hh rfl)o123.blk.lt,g116,rfl,o123,Nat.le_of_not_lt fun hh=>lt120 _(Nat.lt_of_lt_of_le hh hszS93)rfl,Qz _ _ _⟩
 ·refine Ja k91 aN fun _=>OpSt.op(J27 C92 io26 rfl ?_);intro g128 w129 x130 y131 lt132 C133 s134 o135;exact⟨((x130,y131),lab s88.2 g128 5),RL.new(r90.bd fun _ _ h=>by cases h)⟨C133,s134⟩(Nat.le_of_not_lt fun hh=>lt132 _ hh rfl)o135.blk.lt,g128,rfl,o135,Nat.le_of_not_lt fun hh=>lt132 _(Nat.lt_of_lt_of_le hh hszS93)rfl,Qz _ _ _⟩
 obtain⟨a141,c142,e140,h143⟩:=RV.int d101;obtain⟨a145,c146,e144,h147⟩:=RV.int d103;obtain⟨g149,e148,o150,l151,q152⟩:=d104;have n153:g7≠g149:=Nat.ne_of_lt(Nat.lt_of_lt_of_le lt94 l151);have n154:g15≠g149:=Nat.ne_of_lt(Nat.lt_of_lt_of_le lt95 l151);have n155:g24≠g149:=Nat.ne_of_lt(Nat.lt_of_lt_of_le lt96 l151);have n156:g34≠g149:=Nat.ne_of_lt(Nat.lt_of_lt_of_le lt97 l151);obtain⟨g159,e158,o160,l161,q162⟩:=d105;have n163:g7≠g159:=Nat.ne_of_lt(Nat.lt_of_lt_of_le lt94 l161);have n164:g15≠g159:=Nat.ne_of_lt(Nat.lt_of_lt_of_le lt95 l161);have n165:g24≠g159:=Nat.ne_of_lt(Nat.lt_of_lt_of_le lt96 l161);have n166:g34≠g159:=Nat.ne_of_lt(Nat.lt_of_lt_of_le lt97 l161);have n167:g149≠g159:=Jg6 q152 q162 rfl;obtain⟨f169,rfl⟩:=mixK k91(aC e100(aC e140(aC e102(aC e144(aC e148(aC e158 aN))))));refine On(J24(cs':=[(.bool(ofZ a.toZ).neg),(.slice a141(ofZ a.toZ).mag.length c142)])C92 o150 io26 rfl rfl rfl rfl rfl rfl ?_);intro w170 C171 s172 o173;replace o160:=o160.spo s172(Ne.symm n167);refine On(J24(cs':=[(.bool(ofZ b.toZ).neg),(.slice a145(ofZ b.toZ).mag.length c146)])C171 o160 io26 rfl rfl rfl rfl rfl rfl ?_);intro w174 C175 s176 o177;replace h143:=(h143.sp s172).sp s176;replace h147:=(h147.sp s172).sp s176;replace o31:=(o31.spo s172 n155).spo s176 n165;replace o41:=(o41.spo s172 n156).spo s176 n166;replace o173:=o173.spo s176 n167;refine Nl(Rg(O rfl(St.fieldAddr J4 rfl(O rfl(J21 o173 pl24 rfl rfl(O rfl(St.fieldAddr J4 rfl(O rfl(J21 o177 pl24 rfl rfl(O rfl(J2z C175 cb215 rfl rfl(Jjv C175.bd h143 h147(Ve _)(Ve _)(Jro hbz)(by omega)(by omega))?_)))))))))));intro v178 w179 C180 s181 h182;replace h147:=h147.sp s181;obtain⟨v183,v184,rfl,h185,h186⟩:=h182;obtain⟨a187,c188,rfl,_,_⟩:=h185.len;obtain⟨a189,c190,rfl,_,_⟩:=h186.len;refine Om(O rfl(St.extract rfl rfl(O rfl(St.extract rfl rfl(Oa(Oa(Nl(Rg(Om(O rfl(J2z C180 jx rfl rfl(Yz C180.bd h186(by omega))?_)))))))))));intro v191 w192 C193 s194 h195;replace o31:=(o31.spn s181).spn s194;replace o41:=(o41.spn s181).spn s194;replace o173:=(o173.spn s181).spn s194;replace o177:=(o177.spn s181).spn s194;obtain⟨a196,c197,rfl,h198⟩:=RV.int h195;refine O rfl(J27 C193 io26 rfl ?_);intro g199 w200 x201 y202 lt203 C204 s205 o206;have n209:=lt203 _ o31.blk.lt;have n210:=lt203 _ o41.blk.lt;have n211:=lt203 _ o173.blk.lt;have n212:=lt203 _ o177.blk.lt;replace h147:=(h147.sp s194).sp s205;replace h185:=(h185.sp s194).sp s205;replace o41:=o41.spn s205;replace o177:=o177.spn s205;refine On(J24(cs':=[(.bool(ofZ(Jl false(val(digs(val(ofZ a.toZ).mag % val(ofZ b.toZ).mag))))).neg),(.slice a196(ofZ(Jl false(val(digs(val(ofZ a.toZ).mag % val(ofZ b.toZ).mag))))).mag.length c197)])C204 o206 io26 rfl rfl rfl rfl rfl rfl ?_);intro w213 C214 s215 o216;replace h198:=(h198.sp s205).sp s215;replace o31:=(o31.spn s205).spo s215 n209;replace o173:=(o173.spn s205).spo s215 n211;refine Nl(Rh(O rfl(St.fieldAddr Zj rfl(O rfl(St.bool(J21 o173 pl4 rfl rfl⟨_,rfl,fun hb217=>?_,fun hb217=>?_⟩))))))
 ·refine Om(Og rfl rfl(St.fieldAddr J4 rfl(Og rfl rfl(J21 o216 pl24 rfl rfl(Og rfl rfl(St.len sl24 rfl(Og rfl rfl(J3n rfl rfl(fun hc218=>?_)(fun hc218=>?_)))))))))
  ·refine OT(Nl(J20 rfl(W.seq(J3f J9 10 [[],[0],[1],[],[],[3,4],[2,5],[],[7],[]] C214 [fx(.pointer(some⟨g159,0,none⟩)),fx(.bool(ofZ b.toZ).neg),fx(.bool(!(ofZ b.toZ).neg)),fx(.slice a187(dvQ(ofZ a.toZ).mag(ofZ b.toZ).mag).length c188),fs Jc [1],fs Jc(Js(max(dvQ(ofZ a.toZ).mag(ofZ b.toZ).mag).length [1].length+1)(val(dvQ(ofZ a.toZ).mag(ofZ b.toZ).mag)+val [1])),fr Jv(ofZ(Jl(!(ofZ b.toZ).neg)(val(Js(max(dvQ(ofZ a.toZ).mag(ofZ b.toZ).mag).length [1].length+1)(val(dvQ(ofZ a.toZ).mag(ofZ b.toZ).mag)+val [1]))))),fx(.agg #[(.bool(ofZ b.toZ).neg),(.slice a145(ofZ b.toZ).mag.length c146)]),fr Jv(ofZ(b.toZ.natAbs:Int)),fx(.agg #[(.bool(ofZ(Jl false(val(digs(val(ofZ a.toZ).mag % val(ofZ b.toZ).mag))))).neg),(.slice a196(ofZ(Jl false(val(digs(val(ofZ a.toZ).mag % val(ofZ b.toZ).mag))))).mag.length c197)])](by kernel_rfl)⟨sx,sx,sx,sx,ss,ss,sr,sx,sr,sx,trivial⟩fun f250 s251 w252⟨C255,S256⟩k254=>?_))))
   replace h147:=(h147.sp s215).sp S256;replace h185:=(h185.sp s215).sp S256;replace h198:=h198.sp S256;replace o41:=(o41.spo s215 n210).spn S256;replace o177:=(o177.spo s215 n212).spn S256;replace o216:=o216.spn S256;have k254:Keep [33,34,35,36,37,38,39,40,41,42] _ f250:=k254;refine⟨⟨fun _=>?_,fun⟨e264,_⟩=>?_,fun⟨e265,_⟩=>?_,fun _=>?_,fun _=>?_,fun⟨e266,d267,_⟩=>?_,fun⟨e268,d269,_⟩=>?_,fun _=>?_,fun⟨e270,_⟩=>?_,fun _=>?_,trivial⟩,fun⟨e271,e272,e273,e274,d275,d276,d277,e278,d279,e280,_⟩=>?_⟩
   ·exact Ja k254 aN fun _=>OpSt.op(St.fieldAddr Zj rfl⟨s251,RC.same C255,rfl⟩)
   ·exact Ja k254(aC e264 aN)fun _=>OpSt.op(J21 o177 pl4 rfl rfl⟨s251,RC.same C255,rfl⟩)
   ·exact Ja k254(aC e265 aN)fun _=>OpSt.op(St.not rfl⟨s251,RC.same C255,rfl⟩)
   ·exact Ja k254 aN fun _=>OpSt.op(St.move⟨s251,RC.same C255,rfl⟩)
   ·refine Ja k254 aN fun _=>OpSt.op(J3r(T:=Jc)(css:=[[(.int .u32 1)]])(l:=[1])C255 sl24 Ji(by decide)(by decide)rfl(by kernel_rfl)⟨⟨rfl,(by omega)⟩,trivial⟩ ?_);intro g285 w281 C282 s283 h284;exact⟨s251,⟨C282,s283⟩,h284⟩
   ·obtain⟨a289,c290,e288,d267⟩:=J3v d267;refine Ja k254(aC e266(aC e288 aN))fun _=>OpSt.op(J2z C255 Jxv rfl rfl(Jpr C255.bd h185 d267(by omega)(by simp))?_);intro v291 w292 C293 s294 h295;exact⟨s251,⟨C293,s294⟩,h295⟩
   ·obtain⟨a297,c298,e296,d269⟩:=J3v d269;refine Ja k254(aC e268(aC e296 aN))fun _=>OpSt.op(J2z C255 jx rfl rfl(Yz C255.bd d269(by rw [Jj];simp only [List.length_cons,List.length_nil];omega))?_);intro v299 w300 C301 s302 h303;exact⟨s251,⟨C301,s302⟩,h303⟩
   ·exact Ja k254 aN fun _=>OpSt.op(J23(vs:=[(.bool(ofZ b.toZ).neg),(.slice a145(ofZ b.toZ).mag.length c146)])o177 ag26 rfl rfl rfl⟨s251,RC.same C255,rfl⟩)
   ·refine Ja k254(aC e270 aN)fun _=>OpSt.op(J2z C255 Jtd rfl rfl(Jtv C255.bd(a:=(ofZ b.toZ))(Jk h147)(by omega))?_);intro v304 w305 C306 s307 h308;simp only [Jq,Y0] at h308;exact⟨s251,⟨C306,s307⟩,h308⟩
   ·exact Ja k254 aN fun _=>OpSt.op(J23(vs:=[(.bool(ofZ(Jl false(val(digs(val(ofZ a.toZ).mag % val(ofZ b.toZ).mag))))).neg),(.slice a196(ofZ(Jl false(val(digs(val(ofZ a.toZ).mag % val(ofZ b.toZ).mag))))).mag.length c197)])o216 ag26 rfl rfl rfl⟨s251,RC.same C255,rfl⟩)
   obtain⟨a310,c311,e309,d275⟩:=J3v d275;obtain⟨a313,c314,e312,d276⟩:=J3v d276;obtain⟨a316,c317,e315,h318⟩:=RV.int d277;obtain⟨a320,c321,e319,h322⟩:=RV.int d279;obtain⟨f323,rfl⟩:=mixK k254(aC e271(aC e272(aC e273(aC e274(aC e309(aC e312(aC e315(aC e278(aC e319(aC e280 aN))))))))));refine O rfl(J2z C255 cb217 rfl rfl(x_sub C255.bd(a:=(ofZ(b.toZ.natAbs:Int)))(Jk h322)(b:=(ofZ(Jl false(val(digs(val(ofZ a.toZ).mag % val(ofZ b.toZ).mag))))))(Jk h198)(by rw [hba];omega)(by omega))?_);intro v324 w325 C326 s327 h328;replace h318:=h318.sp s327;replace o31:=(o31.spn S256).spn s327;simp only [Jq,Y0] at h328;obtain⟨a329,c330,rfl,h331⟩:=RV.int h328;refine On(J24(cs':=[(.bool(ofZ(Jl(!(ofZ b.toZ).neg)(val(Js(max(dvQ(ofZ a.toZ).mag(ofZ b.toZ).mag).length [1].length+1)(val(dvQ(ofZ a.toZ).mag(ofZ b.toZ).mag)+val [1]))))).neg),(.slice a316(ofZ(Jl(!(ofZ b.toZ).neg)(val(Js(max(dvQ(ofZ a.toZ).mag(ofZ b.toZ).mag).length [1].length+1)(val(dvQ(ofZ a.toZ).mag(ofZ b.toZ).mag)+val [1]))))).mag.length c317)])C326 o31 io26 rfl rfl rfl rfl rfl rfl ?_);intro w332 C333 s334 o335;replace o41:=(o41.spn s327).spo s334(Ne.symm n44);refine On(J24(cs':=[(.bool(ofZ((b.toZ.natAbs:Int) - (Jl false(val(digs(val(ofZ a.toZ).mag % val(ofZ b.toZ).mag)))))).neg),(.slice a329(ofZ((b.toZ.natAbs:Int) - (Jl false(val(digs(val(ofZ a.toZ).mag % val(ofZ b.toZ).mag)))))).mag.length c330)])C333 o41 io26 rfl rfl rfl rfl rfl rfl ?_);intro w336 C337 s338 o339;replace h318:=(h318.sp s334).sp s338;replace h331:=(h331.sp s334).sp s338;replace o335:=o335.spo s338 n44;refine Nl(W.ret(Z2 rfl(resV.c o335 rfl ag26 rfl)(resV.c o339 rfl ag26 rfl)(Ret.intro ?_ C337.below)));refine⟨_,_,rfl,?_,?_⟩
   ·skip
    exact J3i(a:=(ofZ(Jl(!(ofZ b.toZ).neg)(val(Js(max(dvQ(ofZ a.toZ).mag(ofZ b.toZ).mag).length [1].length+1)(val(dvQ(ofZ a.toZ).mag(ofZ b.toZ).mag)+val [1]))))))((Jk h318).tr(Tr.weak C337.base))(congrArg ofZ(by rw [Za _ _(Jav Jke Jjx),Jej(Km hbz),show val [1]=1 from rfl];exact(Jq2 hbz hb217(fun e=>by have:=hr3.2 e;omega)).1))
   ·skip
    exact J3i(a:=(ofZ((b.toZ.natAbs:Int) - (Jl false(val(digs(val(ofZ a.toZ).mag % val(ofZ b.toZ).mag)))))))((Jk h331).tr(Tr.weak C337.base))(congrArg ofZ(by rw [Jt,Yb];exact(Jq2 hbz hb217(fun e=>by have:=hr3.2 e;omega)).2))
  refine OT(Nl(J22 rfl(W.skip(W.seq ?_))));have ow349:=o31;have hp350:∀ (s:Gh)(u:World)(s2:Gh)(u2:World),Sp s.1 s.2 u s2.1 s2.2 u2 Zp→(fun(s:Gh)(w':World)=>∃ (a1':Option Addr)(c1':Nat),Own w s.2 w' g24 [(.bool(ofZ(Jl((ofZ a.toZ).neg != (ofZ b.toZ).neg)(val(dvQ(ofZ a.toZ).mag(ofZ b.toZ).mag)))).neg),(.slice a1'(ofZ(Jl((ofZ a.toZ).neg != (ofZ b.toZ).neg)(val(dvQ(ofZ a.toZ).mag(ofZ b.toZ).mag)))).mag.length c1')] 26∧RS Jc s.1 w'(.slice a1'(ofZ(Jl((ofZ a.toZ).neg != (ofZ b.toZ).neg)(val(dvQ(ofZ a.toZ).mag(ofZ b.toZ).mag)))).mag.length c1')((ofZ(Jl((ofZ a.toZ).neg != (ofZ b.toZ).neg)(val(dvQ(ofZ a.toZ).mag(ofZ b.toZ).mag)))).mag))s u→(fun(s:Gh)(w':World)=>∃ (a1':Option Addr)(c1':Nat),Own w s.2 w' g24 [(.bool(ofZ(Jl((ofZ a.toZ).neg != (ofZ b.toZ).neg)(val(dvQ(ofZ a.toZ).mag(ofZ b.toZ).mag)))).neg),(.slice a1'(ofZ(Jl((ofZ a.toZ).neg != (ofZ b.toZ).neg)(val(dvQ(ofZ a.toZ).mag(ofZ b.toZ).mag)))).mag.length c1')] 26∧RS Jc s.1 w'(.slice a1'(ofZ(Jl((ofZ a.toZ).neg != (ofZ b.toZ).neg)(val(dvQ(ofZ a.toZ).mag(ofZ b.toZ).mag)))).mag.length c1')((ofZ(Jl((ofZ a.toZ).neg != (ofZ b.toZ).neg)(val(dvQ(ofZ a.toZ).mag(ofZ b.toZ).mag)))).mag))s2 u2:=fun _ _ _ _ p⟨a1',c1',o,r0⟩=>⟨a1',c1',o.spn p,r0.sp p⟩;refine J4r J9 9 8 [[],[0],[],[2],[1,3],[],[4,5],[],[6]](x201,y202)(RW X w g24(fun(s:Gh)(w':World)=>∃ (a1':Option Addr)(c1':Nat),Own w s.2 w' g24 [(.bool(ofZ(Jl((ofZ a.toZ).neg != (ofZ b.toZ).neg)(val(dvQ(ofZ a.toZ).mag(ofZ b.toZ).mag)))).neg),(.slice a1'(ofZ(Jl((ofZ a.toZ).neg != (ofZ b.toZ).neg)(val(dvQ(ofZ a.toZ).mag(ofZ b.toZ).mag)))).mag.length c1')] 26∧RS Jc s.1 w'(.slice a1'(ofZ(Jl((ofZ a.toZ).neg != (ofZ b.toZ).neg)(val(dvQ(ofZ a.toZ).mag(ofZ b.toZ).mag)))).mag.length c1')((ofZ(Jl((ofZ a.toZ).neg != (ofZ b.toZ).neg)(val(dvQ(ofZ a.toZ).mag(ofZ b.toZ).mag)))).mag))) [fx(.pointer(some⟨g149,0,none⟩)),fx(.bool(ofZ a.toZ).neg),fx(.pointer(some⟨g159,0,none⟩)),fx(.bool(ofZ b.toZ).neg),fx(.bool((ofZ a.toZ).neg != (ofZ b.toZ).neg)),fx(.slice a187(dvQ(ofZ a.toZ).mag(ofZ b.toZ).mag).length c188),fr Jv(ofZ(Jl((ofZ a.toZ).neg != (ofZ b.toZ).neg)(val(dvQ(ofZ a.toZ).mag(ofZ b.toZ).mag)))),fx(.agg #[(.bool(ofZ(Jl false(val(digs(val(ofZ a.toZ).mag % val(ofZ b.toZ).mag))))).neg),(.slice a196(ofZ(Jl false(val(digs(val(ofZ a.toZ).mag % val(ofZ b.toZ).mag))))).mag.length c197)]),fun(s:Gh)(_:Value)(w':World)=>∃ (a1':Option Addr)(c1':Nat),Own w s.2 w' g24 [(.bool(ofZ(Jl((ofZ a.toZ).neg != (ofZ b.toZ).neg)(val(dvQ(ofZ a.toZ).mag(ofZ b.toZ).mag)))).neg),(.slice a1'(ofZ(Jl((ofZ a.toZ).neg != (ofZ b.toZ).neg)(val(dvQ(ofZ a.toZ).mag(ofZ b.toZ).mag)))).mag.length c1')] 26∧RS Jc s.1 w'(.slice a1'(ofZ(Jl((ofZ a.toZ).neg != (ofZ b.toZ).neg)(val(dvQ(ofZ a.toZ).mag(ofZ b.toZ).mag)))).mag.length c1')((ofZ(Jl((ofZ a.toZ).neg != (ofZ b.toZ).neg)(val(dvQ(ofZ a.toZ).mag(ofZ b.toZ).mag)))).mag)](by kernel_rfl)(J3y hp350(J4c C214))RW.trans⟨sx,sx,sx,sx,sx,sx,(fun _ _ _ _ _ h r=>RV.tr h r.sp.tx),sx,(fun _ _ _ _ _ h r=>r.tn h),trivial⟩(fun _ _ _ _ h=>h)fun f351 s352 w353 r354 k355=>?_
  have C356:=r354.cx;have S357:=r354.sp;replace h185:=(h185.sp s215).sp S357;replace o41:=(o41.spo s215 n210).spo S357(Ne.symm n44);replace o173:=o173.spo S357(Ne.symm n155);replace o177:=(o177.spo s215 n212).spo S357(Ne.symm n165);replace o216:=o216.spo S357(Ne.symm n209);have k355:Keep [44,45,46,47,48,49,50,51] _ f351:=k355;refine⟨⟨fun _=>?_,fun⟨e365,_⟩=>?_,fun _=>?_,fun⟨e366,_⟩=>?_,fun⟨e367,e368,_⟩=>?_,fun _=>?_,fun⟨e369,e370,_⟩=>?_,fun _=>?_,fun⟨d371,_⟩=>?_,trivial⟩,fun⟨e372,e373,e374,e375,e376,e377,d378,e379,d380,_⟩=>?_⟩
  ·exact Ja k355 aN fun _=>OpSt.op(St.fieldAddr Zj rfl⟨s352,J3y hp350(RC.same C356),rfl⟩)
  ·exact Ja k355(aC e365 aN)fun _=>OpSt.op(J21 o173 pl4 rfl rfl⟨s352,J3y hp350(RC.same C356),rfl⟩)
  ·exact Ja k355 aN fun _=>OpSt.op(St.fieldAddr Zj rfl⟨s352,J3y hp350(RC.same C356),rfl⟩)
  ·exact Ja k355(aC e366 aN)fun _=>OpSt.op(J21 o177 pl4 rfl rfl⟨s352,J3y hp350(RC.same C356),rfl⟩)
  ·exact Ja k355(aC e367(aC e368 aN))fun _=>OpSt.op(J36 un4 rfl rfl rfl⟨s352,J3y hp350(RC.same C356),rfl⟩)
  ·exact Ja k355 aN fun _=>OpSt.op(St.move⟨s352,J3y hp350(RC.same C356),rfl⟩)
  ·refine Ja k355(aC e369(aC e370 aN))fun _=>OpSt.op(J2z C356 jx rfl rfl(Yz C356.bd h185(by omega))?_);intro v381 w382 C383 s384 h385;exact⟨s352,J3y hp350⟨C383,s384⟩,h385⟩
  ·exact Ja k355 aN fun _=>OpSt.op(J23(vs:=[(.bool(ofZ(Jl false(val(digs(val(ofZ a.toZ).mag % val(ofZ b.toZ).mag))))).neg),(.slice a196(ofZ(Jl false(val(digs(val(ofZ a.toZ).mag % val(ofZ b.toZ).mag))))).mag.length c197)])o216 ag26 rfl rfl rfl⟨s352,J3y hp350(RC.same C356),rfl⟩)
  ·obtain⟨a387,c388,e386,h389⟩:=RV.int d371;obtain⟨cs390,hl391,o392⟩:=r354.ow _ _ ow349;refine Ja k355(aC e386 aN)fun _=>OpSt.op(J4e(vs:=[(.bool(ofZ(Jl((ofZ a.toZ).neg != (ofZ b.toZ).neg)(val(dvQ(ofZ a.toZ).mag(ofZ b.toZ).mag)))).neg),(.slice a387(ofZ(Jl((ofZ a.toZ).neg != (ofZ b.toZ).neg)(val(dvQ(ofZ a.toZ).mag(ofZ b.toZ).mag)))).mag.length c388)])C356 o392 io26 rfl rfl rfl(by rw [hl391];rfl)rfl ?_);intro w393 C394 s395 o396;have hq:(fun(s:Gh)(w':World)=>∃ (a1':Option Addr)(c1':Nat),Own w s.2 w' g24 [(.bool(ofZ(Jl((ofZ a.toZ).neg != (ofZ b.toZ).neg)(val(dvQ(ofZ a.toZ).mag(ofZ b.toZ).mag)))).neg),(.slice a1'(ofZ(Jl((ofZ a.toZ).neg != (ofZ b.toZ).neg)(val(dvQ(ofZ a.toZ).mag(ofZ b.toZ).mag)))).mag.length c1')] 26∧RS Jc s.1 w'(.slice a1'(ofZ(Jl((ofZ a.toZ).neg != (ofZ b.toZ).neg)(val(dvQ(ofZ a.toZ).mag(ofZ b.toZ).mag)))).mag.length c1')((ofZ(Jl((ofZ a.toZ).neg != (ofZ b.toZ).neg)(val(dvQ(ofZ a.toZ).mag(ofZ b.toZ).mag)))).mag))s352 w393:=⟨a387,c388,o396,h389.sp s395⟩;exact⟨s352,RW.turn C394 s395 o392 o396(by rw [hl391];rfl)hq,hq⟩
  obtain⟨a398,c399,e397,h400⟩:=RV.int d378;obtain⟨a402,c403,o401,h404⟩:=d380;obtain⟨f405,rfl⟩:=mixK k355(aC e372(aC e373(aC e374(aC e375(aC e376(aC e377(aC e397(aC e379 aN))))))));refine On(J24(cs':=[(.bool(ofZ(Jl false(val(digs(val(ofZ a.toZ).mag % val(ofZ b.toZ).mag))))).neg),(.slice a196(ofZ(Jl false(val(digs(val(ofZ a.toZ).mag % val(ofZ b.toZ).mag))))).mag.length c197)])C356 o41 io26 rfl rfl rfl rfl rfl rfl ?_);intro w406 C407 s408 o409;replace h198:=(h198.sp S357).sp s408;replace h404:=h404.sp s408;replace o401:=o401.spo s408 n44;refine Nl(W.ret(Z2 rfl(resV.c o401 rfl ag26 rfl)(resV.c o409 rfl ag26 rfl)(Ret.intro ?_ C407.below)));refine⟨_,_,rfl,?_,?_⟩
  ·skip
   exact J3i(a:=(ofZ(Jl((ofZ a.toZ).neg != (ofZ b.toZ).neg)(val(dvQ(ofZ a.toZ).mag(ofZ b.toZ).mag)))))((Jk h404).tr(Tr.weak C407.base))(congrArg ofZ(by rw [Jej(Km hbz)];exact(Jfr hbz(.inr(hr3.1(by omega)))).1))
  ·skip
   exact J3i(a:=(ofZ(Jl false(val(digs(val(ofZ a.toZ).mag % val(ofZ b.toZ).mag))))))((Jk h198).tr(Tr.weak C407.base))(congrArg ofZ(by rw [Jt,Yb];exact(Jfr hbz(.inr(hr3.1(by omega)))).2))
 refine Om(Ox rfl rfl rfl(Ox rfl rfl rfl(Ox rfl rfl rfl(Ox rfl rfl rfl(OF(Nl(J22 rfl(W.skip(W.seq ?_)))))))));have ow419:=o31;have hp420:∀ (s:Gh)(u:World)(s2:Gh)(u2:World),Sp s.1 s.2 u s2.1 s2.2 u2 Zp→(fun(s:Gh)(w':World)=>∃ (a1':Option Addr)(c1':Nat),Own w s.2 w' g24 [(.bool(ofZ(Jl((ofZ a.toZ).neg != (ofZ b.toZ).neg)(val(dvQ(ofZ a.toZ).mag(ofZ b.toZ).mag)))).neg),(.slice a1'(ofZ(Jl((ofZ a.toZ).neg != (ofZ b.toZ).neg)(val(dvQ(ofZ a.toZ).mag(ofZ b.toZ).mag)))).mag.length c1')] 26∧RS Jc s.1 w'(.slice a1'(ofZ(Jl((ofZ a.toZ).neg != (ofZ b.toZ).neg)(val(dvQ(ofZ a.toZ).mag(ofZ b.toZ).mag)))).mag.length c1')((ofZ(Jl((ofZ a.toZ).neg != (ofZ b.toZ).neg)(val(dvQ(ofZ a.toZ).mag(ofZ b.toZ).mag)))).mag))s u→(fun(s:Gh)(w':World)=>∃ (a1':Option Addr)(c1':Nat),Own w s.2 w' g24 [(.bool(ofZ(Jl((ofZ a.toZ).neg != (ofZ b.toZ).neg)(val(dvQ(ofZ a.toZ).mag(ofZ b.toZ).mag)))).neg),(.slice a1'(ofZ(Jl((ofZ a.toZ).neg != (ofZ b.toZ).neg)(val(dvQ(ofZ a.toZ).mag(ofZ b.toZ).mag)))).mag.length c1')] 26∧RS Jc s.1 w'(.slice a1'(ofZ(Jl((ofZ a.toZ).neg != (ofZ b.toZ).neg)(val(dvQ(ofZ a.toZ).mag(ofZ b.toZ).mag)))).mag.length c1')((ofZ(Jl((ofZ a.toZ).neg != (ofZ b.toZ).neg)(val(dvQ(ofZ a.toZ).mag(ofZ b.toZ).mag)))).mag))s2 u2:=fun _ _ _ _ p⟨a1',c1',o,r0⟩=>⟨a1',c1',o.spn p,r0.sp p⟩;refine J4r J9 9 8 [[],[0],[],[2],[1,3],[],[4,5],[],[6]](x201,y202)(RW X w g24(fun(s:Gh)(w':World)=>∃ (a1':Option Addr)(c1':Nat),Own w s.2 w' g24 [(.bool(ofZ(Jl((ofZ a.toZ).neg != (ofZ b.toZ).neg)(val(dvQ(ofZ a.toZ).mag(ofZ b.toZ).mag)))).neg),(.slice a1'(ofZ(Jl((ofZ a.toZ).neg != (ofZ b.toZ).neg)(val(dvQ(ofZ a.toZ).mag(ofZ b.toZ).mag)))).mag.length c1')] 26∧RS Jc s.1 w'(.slice a1'(ofZ(Jl((ofZ a.toZ).neg != (ofZ b.toZ).neg)(val(dvQ(ofZ a.toZ).mag(ofZ b.toZ).mag)))).mag.length c1')((ofZ(Jl((ofZ a.toZ).neg != (ofZ b.toZ).neg)(val(dvQ(ofZ a.toZ).mag(ofZ b.toZ).mag)))).mag))) [fx(.pointer(some⟨g149,0,none⟩)),fx(.bool(ofZ a.toZ).neg),fx(.pointer(some⟨g159,0,none⟩)),fx(.bool(ofZ b.toZ).neg),fx(.bool((ofZ a.toZ).neg != (ofZ b.toZ).neg)),fx(.slice a187(dvQ(ofZ a.toZ).mag(ofZ b.toZ).mag).length c188),fr Jv(ofZ(Jl((ofZ a.toZ).neg != (ofZ b.toZ).neg)(val(dvQ(ofZ a.toZ).mag(ofZ b.toZ).mag)))),fx(.agg #[(.bool(ofZ(Jl false(val(digs(val(ofZ a.toZ).mag % val(ofZ b.toZ).mag))))).neg),(.slice a196(ofZ(Jl false(val(digs(val(ofZ a.toZ).mag % val(ofZ b.toZ).mag))))).mag.length c197)]),fun(s:Gh)(_:Value)(w':World)=>∃ (a1':Option Addr)(c1':Nat),Own w s.2 w' g24 [(.bool(ofZ(Jl((ofZ a.toZ).neg != (ofZ b.toZ).neg)(val(dvQ(ofZ a.toZ).mag(ofZ b.toZ).mag)))).neg),(.slice a1'(ofZ(Jl((ofZ a.toZ).neg != (ofZ b.toZ).neg)(val(dvQ(ofZ a.toZ).mag(ofZ b.toZ).mag)))).mag.length c1')] 26∧RS Jc s.1 w'(.slice a1'(ofZ(Jl((ofZ a.toZ).neg != (ofZ b.toZ).neg)(val(dvQ(ofZ a.toZ).mag(ofZ b.toZ).mag)))).mag.length c1')((ofZ(Jl((ofZ a.toZ).neg != (ofZ b.toZ).neg)(val(dvQ(ofZ a.toZ).mag(ofZ b.toZ).mag)))).mag)](by kernel_rfl)(J3y hp420(J4c C214))RW.trans⟨sx,sx,sx,sx,sx,sx,(fun _ _ _ _ _ h r=>RV.tr h r.sp.tx),sx,(fun _ _ _ _ _ h r=>r.tn h),trivial⟩(fun _ _ _ _ h=>h)fun f421 s422 w423 r424 k425=>?_
 have C426:=r424.cx;have S427:=r424.sp;replace h185:=(h185.sp s215).sp S427;replace o41:=(o41.spo s215 n210).spo S427(Ne.symm n44);replace o173:=o173.spo S427(Ne.symm n155);replace o177:=(o177.spo s215 n212).spo S427(Ne.symm n165);replace o216:=o216.spo S427(Ne.symm n209);have k425:Keep [44,45,46,47,48,49,50,51] _ f421:=k425;refine⟨⟨fun _=>?_,fun⟨e435,_⟩=>?_,fun _=>?_,fun⟨e436,_⟩=>?_,fun⟨e437,e438,_⟩=>?_,fun _=>?_,fun⟨e439,e440,_⟩=>?_,fun _=>?_,fun⟨d441,_⟩=>?_,trivial⟩,fun⟨e442,e443,e444,e445,e446,e447,d448,e449,d450,_⟩=>?_⟩
 ·exact Ja k425 aN fun _=>OpSt.op(St.fieldAddr Zj rfl⟨s422,J3y hp420(RC.same C426),rfl⟩)
 ·exact Ja k425(aC e435 aN)fun _=>OpSt.op(J21 o173 pl4 rfl rfl⟨s422,J3y hp420(RC.same C426),rfl⟩)
 ·exact Ja k425 aN fun _=>OpSt.op(St.fieldAddr Zj rfl⟨s422,J3y hp420(RC.same C426),rfl⟩)
 ·exact Ja k425(aC e436 aN)fun _=>OpSt.op(J21 o177 pl4 rfl rfl⟨s422,J3y hp420(RC.same C426),rfl⟩)
 ·exact Ja k425(aC e437(aC e438 aN))fun _=>OpSt.op(J36 un4 rfl rfl rfl⟨s422,J3y hp420(RC.same C426),rfl⟩)
 ·exact Ja k425 aN fun _=>OpSt.op(St.move⟨s422,J3y hp420(RC.same C426),rfl⟩)
 ·refine Ja k425(aC e439(aC e440 aN))fun _=>OpSt.op(J2z C426 jx rfl rfl(Yz C426.bd h185(by omega))?_);intro v451 w452 C453 s454 h455;exact⟨s422,J3y hp420⟨C453,s454⟩,h455⟩
 ·exact Ja k425 aN fun _=>OpSt.op(J23(vs:=[(.bool(ofZ(Jl false(val(digs(val(ofZ a.toZ).mag % val(ofZ b.toZ).mag))))).neg),(.slice a196(ofZ(Jl false(val(digs(val(ofZ a.toZ).mag % val(ofZ b.toZ).mag))))).mag.length c197)])o216 ag26 rfl rfl rfl⟨s422,J3y hp420(RC.same C426),rfl⟩)
 ·obtain⟨a457,c458,e456,h459⟩:=RV.int d441;obtain⟨cs460,hl461,o462⟩:=r424.ow _ _ ow419;refine Ja k425(aC e456 aN)fun _=>OpSt.op(J4e(vs:=[(.bool(ofZ(Jl((ofZ a.toZ).neg != (ofZ b.toZ).neg)(val(dvQ(ofZ a.toZ).mag(ofZ b.toZ).mag)))).neg),(.slice a457(ofZ(Jl((ofZ a.toZ).neg != (ofZ b.toZ).neg)(val(dvQ(ofZ a.toZ).mag(ofZ b.toZ).mag)))).mag.length c458)])C426 o462 io26 rfl rfl rfl(by rw [hl461];rfl)rfl ?_);intro w463 C464 s465 o466;have hq:(fun(s:Gh)(w':World)=>∃ (a1':Option Addr)(c1':Nat),Own w s.2 w' g24 [(.bool(ofZ(Jl((ofZ a.toZ).neg != (ofZ b.toZ).neg)(val(dvQ(ofZ a.toZ).mag(ofZ b.toZ).mag)))).neg),(.slice a1'(ofZ(Jl((ofZ a.toZ).neg != (ofZ b.toZ).neg)(val(dvQ(ofZ a.toZ).mag(ofZ b.toZ).mag)))).mag.length c1')] 26∧RS Jc s.1 w'(.slice a1'(ofZ(Jl((ofZ a.toZ).neg != (ofZ b.toZ).neg)(val(dvQ(ofZ a.toZ).mag(ofZ b.toZ).mag)))).mag.length c1')((ofZ(Jl((ofZ a.toZ).neg != (ofZ b.toZ).neg)(val(dvQ(ofZ a.toZ).mag(ofZ b.toZ).mag)))).mag))s422 w463:=⟨a457,c458,o466,h459.sp s465⟩;exact⟨s422,RW.turn C464 s465 o462 o466(by rw [hl461];rfl)hq,hq⟩
 obtain⟨a468,c469,e467,h470⟩:=RV.int d448;obtain⟨a472,c473,o471,h474⟩:=d450;obtain⟨f475,rfl⟩:=mixK k425(aC e442(aC e443(aC e444(aC e445(aC e446(aC e447(aC e467(aC e449 aN))))))));refine On(J24(cs':=[(.bool(ofZ(Jl false(val(digs(val(ofZ a.toZ).mag % val(ofZ b.toZ).mag))))).neg),(.slice a196(ofZ(Jl false(val(digs(val(ofZ a.toZ).mag % val(ofZ b.toZ).mag))))).mag.length c197)])C426 o41 io26 rfl rfl rfl rfl rfl rfl ?_);intro w476 C477 s478 o479;replace h198:=(h198.sp S427).sp s478;replace h474:=h474.sp s478;replace o471:=o471.spo s478 n44;refine Nl(W.ret(Z2 rfl(resV.c o471 rfl ag26 rfl)(resV.c o479 rfl ag26 rfl)(Ret.intro ?_ C477.below)));refine⟨_,_,rfl,?_,?_⟩
 ·skip
  exact J3i(a:=(ofZ(Jl((ofZ a.toZ).neg != (ofZ b.toZ).neg)(val(dvQ(ofZ a.toZ).mag(ofZ b.toZ).mag)))))((Jk h474).tr(Tr.weak C477.base))(congrArg ofZ(by rw [Jej(Km hbz)];exact(Jfr hbz(.inl hb217)).1))
 ·skip
  exact J3i(a:=(ofZ(Jl false(val(digs(val(ofZ a.toZ).mag % val(ofZ b.toZ).mag))))))((Jk h198).tr(Tr.weak C477.base))(congrArg ofZ(by rw [Jt,Yb];exact(Jfr hbz(.inl hb217)).2))
set_option maxHeartbeats 1000000 in
theorem Va {X:Nat→Prop}{w:World}(hX:∀ b,X b→b < w.heap.size){v0:Value}{a:GInt}(r0:RV Jv X w v0 a){v1:Value}{b:GInt}(r1:RV Jv X w v1 b)(hla:a.mag.length≤536870912)(hlb:b.mag.length≤536870912)(hb0:val b.mag≠0):Calls Tryz.prog 119 #[v0,v1] w(Ret w fun v w'=>RV Jv X w' v(ofZ(a.toZ / b.toZ))):=by
 obtain⟨a1,c2,rfl,h3⟩:=RV.int r0;obtain⟨a4,c5,rfl,h6⟩:=RV.int r1;have C:=J26 hX;refine J25(args:=[(.agg #[(.bool a.neg),(.slice a1 a.mag.length c2)]),(.agg #[(.bool b.neg),(.slice a4 b.mag.length c5)])])Tryz.func119 rfl rfl(Nat.le_of_ble_eq_true rfl)(Rg(O rfl(J3b C rfl ?_)));intro g7 w8 x9 y10 lt11 C12 s13 o14;replace h3:=h3.sp s13;replace h6:=h6.sp s13;refine O rfl(J3b C12 rfl ?_);intro g15 w16 x17 y18 lt19 C20 s21 o22;refine O rfl(J27 C20 io26 rfl ?_);intro g24 w25 x26 y27 lt28 C29 s30 o31;replace h3:=(h3.sp s21).sp s30;replace h6:=(h6.sp s21).sp s30;replace o14:=(o14.spn s21).spn s30;replace o22:=o22.spn s30;refine Nl(Rg(O rfl(J23(vs:=[(.bool a.neg),(.slice a1 a.mag.length c2)])o14 ag26 rfl rfl rfl(O rfl(J23(vs:=[(.bool b.neg),(.slice a4 b.mag.length c5)])o22 ag26 rfl rfl rfl(O rfl(J2z C29 Jr2 rfl rfl(Ja3 C29.bd(a:=a)(Jk h3)(b:=b)(Jk h6)hla hlb hb0)?_)))))));intro v34 w35 C36 s37 h38;replace o31:=o31.spn s37;obtain⟨v39,v40,rfl,h41,h42⟩:=h38;obtain⟨a43,c44,rfl,h45⟩:=RV.int h41;obtain⟨a46,c47,rfl,h48⟩:=RV.int h42;refine Om(O rfl(St.extract rfl rfl(O rfl(St.extract rfl rfl(O rfl(J27 C36 io26 rfl ?_))))));intro g49 w50 x51 y52 lt53 C54 s55 o56;have n59:=lt53 _ o31.blk.lt;replace h45:=h45.sp s55;replace o31:=o31.spn s55;refine O rfl(J27 C54 io26 rfl ?_);intro g60 w61 x62 y63 lt64 C65 s66 o67;have n70:=lt64 _ o31.blk.lt;have n71:=lt64 _ o56.blk.lt;replace o31:=o31.spn s66;replace o56:=o56.spn s66;refine On(J24(cs':=[(.bool(ofZ(a.toZ / b.toZ)).neg),(.slice a43(ofZ(a.toZ / b.toZ)).mag.length c44)])C65 o56 io26 rfl rfl rfl rfl rfl rfl ?_);intro w72 C73 s74 o75;replace h45:=(h45.sp s66).sp s74;replace o67:=o67.spo s74(Ne.symm n71);refine On(J24(cs':=[(.bool(ofZ(a.toZ % b.toZ)).neg),(.slice a46(ofZ(a.toZ % b.toZ)).mag.length c47)])C73 o67 io26 rfl rfl rfl rfl rfl rfl ?_);intro w76 C77 s78 o79;replace o31:=(o31.spo s74 n59).spo s78 n70;replace o75:=o75.spo s78 n71;refine Nl(Rg(O rfl(J23(vs:=[(.bool(ofZ(a.toZ / b.toZ)).neg),(.slice a43(ofZ(a.toZ / b.toZ)).mag.length c44)])o75 ag26 rfl rfl rfl(On(J24(cs':=[(.bool(ofZ(a.toZ / b.toZ)).neg),(.slice a43(ofZ(a.toZ / b.toZ)).mag.length c44)])C77 o31 io26 rfl rfl rfl rfl rfl rfl ?_)))));intro w80 C81 s82 o83;replace h45:=(h45.sp s78).sp s82;refine Nl(W.ret(Je rfl(resV.c o83 rfl ag26 rfl)(Ret.intro ?_ C81.below)));exact J3i(a:=(ofZ(a.toZ / b.toZ)))((Jk h45).tr(Tr.weak C81.base))rfl
end Go.Wf
namespace Go.Wf
open Go Go.Proofs Go.RowKit
set_option maxRecDepth 100000
set_option linter.unusedVariables false
set_option linter.unusedSimpArgs false
set_option maxHeartbeats 4000000 in
theorem x_gcd {X:Nat→Prop}{w:World}(hX:∀ b,X b→b < w.heap.size){v0:Value}{a:GInt}(r0:RV Jv X w v0 a){v1:Value}{b:GInt}(r1:RV Jv X w v1 b)(hla:a.mag.length≤536870912)(hlb:b.mag.length≤536870912):Calls Tryz.prog 114 #[v0,v1] w(Ret w fun v w'=>RV Jv X w' v(ofZ((Int.gcd a.toZ b.toZ:Nat):Int))):=by
 obtain⟨a1,c2,rfl,h3⟩:=RV.int r0;obtain⟨a4,c5,rfl,h6⟩:=RV.int r1;have C:=J26 hX;have sa:=r0.int_small;have sb:=r1.int_small;have hN:=J1 sa;have hD:=J1 sb;refine J25(args:=[(.agg #[(.bool a.neg),(.slice a1 a.mag.length c2)]),(.agg #[(.bool b.neg),(.slice a4 b.mag.length c5)])])Tryz.func114 rfl rfl(Nat.le_of_ble_eq_true rfl)(Rg(O rfl(J3b C rfl ?_)));intro g7 w8 x9 y10 lt11 C12 s13 o14;refine O rfl(J3b C12 rfl ?_);intro g15 w16 x17 y18 lt19 C20 s21 o22;replace h3:=(h3.sp s13).sp s21;replace h6:=(h6.sp s13).sp s21;refine O rfl(J27 C20 io26 rfl ?_);intro g24 w25 x26 y27 lt28 C29 s30 o31;replace o14:=(o14.spn s21).spn s30;replace o22:=o22.spn s30;refine Nl(W.seq(J4b J9 6 [[],[0],[],[2],[],[]]((x26,y27),Jik)(RL X w) [fx(.agg #[(.bool a.neg),(.slice a1 a.mag.length c2)]),fun(s:GhL)(v:Value)(w':World)=>RV Jv s.1.1 w' v(ofZ(a.toZ.natAbs:Int)),fx(.agg #[(.bool b.neg),(.slice a4 b.mag.length c5)]),fun(s:GhL)(v:Value)(w':World)=>RV Jv s.1.1 w' v(ofZ(b.toZ.natAbs:Int)),fun(s:GhL)(v:Value)(w':World)=>∃ g':Nat,v= .pointer(some⟨g',0,none⟩)∧Own w s.1.2 w' g' [(.bool false),(.slice none 0 0)] 26∧w25.heap.size≤g'∧s.2 g'=some 4,fun(s:GhL)(v:Value)(w':World)=>∃ g':Nat,v= .pointer(some⟨g',0,none⟩)∧Own w s.1.2 w' g' [(.bool false),(.slice none 0 0)] 26∧w25.heap.size≤g'∧s.2 g'=some 5](by kernel_rfl)(J4k C29)RL.trans⟨sx,(fun _ _ _ _ _ h r=>RV.tr h r.rc.sp.tx),sx,(fun _ _ _ _ _ h r=>RV.tr h r.rc.sp.tx),(fun _ _ _ _ _⟨g,e,o,l,q⟩r=>⟨g,e,o.spn r.rc.sp,l,r.ext _ _ q⟩),(fun _ _ _ _ _⟨g,e,o,l,q⟩r=>⟨g,e,o.spn r.rc.sp,l,r.ext _ _ q⟩),trivial⟩fun f74 s75 w76 r77 k78=>?_))
 have C79:=r77.rc.cx;have S80:=r77.rc.sp;have lt81:=o14.blk.lt;have lt82:=o22.blk.lt;have lt83:=o31.blk.lt;have hszS80:=S80.tx.size;replace h3:=(h3.sp s30).sp S80;replace h6:=(h6.sp s30).sp S80;replace o14:=o14.spn S80;replace o22:=o22.spn S80;replace o31:=o31.spn S80;have k78:Keep [11,12,13,14,5,6] _ f74:=k78;refine⟨⟨fun _=>?_,fun⟨e84,_⟩=>?_,fun _=>?_,fun⟨e85,_⟩=>?_,fun _=>?_,fun _=>?_,trivial⟩,fun⟨e86,d87,e88,d89,d90,d91,_⟩=>?_⟩
 ·exact Ja k78 aN fun _=>OpSt.op(J23(vs:=[(.bool a.neg),(.slice a1 a.mag.length c2)])o14 ag26 rfl rfl rfl⟨s75,RL.same C79,rfl⟩)
 ·refine Ja k78(aC e84 aN)fun _=>OpSt.op(J2z C79 Jtd rfl rfl(Jtv C79.bd(a:=a)(Jk h3)(by omega))?_);intro v92 w93 C94 s95 h96;exact⟨s75,J38⟨C94,s95⟩,h96⟩
 ·exact Ja k78 aN fun _=>OpSt.op(J23(vs:=[(.bool b.neg),(.slice a4 b.mag.length c5)])o22 ag26 rfl rfl rfl⟨s75,RL.same C79,rfl⟩)
 ·refine Ja k78(aC e85 aN)fun _=>OpSt.op(J2z C79 Jtd rfl rfl(Jtv C79.bd(a:=b)(Jk h6)(by omega))?_);intro v97 w98 C99 s100 h101;exact⟨s75,J38⟨C99,s100⟩,h101⟩
 ·refine Ja k78 aN fun _=>OpSt.op(J27 C79 io26 rfl ?_);intro g102 w103 x104 y105 lt106 C107 s108 o109;exact⟨((x104,y105),lab s75.2 g102 4),RL.new(r77.bd fun _ _ h=>by cases h)⟨C107,s108⟩(Nat.le_of_not_lt fun hh=>lt106 _ hh rfl)o109.blk.lt,g102,rfl,o109,Nat.le_of_not_lt fun hh=>lt106 _(Nat.lt_of_lt_of_le hh hszS80)rfl,Qz _ _ _⟩
 ·refine Ja k78 aN fun _=>OpSt.op(J27 C79 io26 rfl ?_);intro g113 w114 x115 y116 lt117 C118 s119 o120;exact⟨((x115,y116),lab s75.2 g113 5),RL.new(r77.bd fun _ _ h=>by cases h)⟨C118,s119⟩(Nat.le_of_not_lt fun hh=>lt117 _ hh rfl)o120.blk.lt,g113,rfl,o120,Nat.le_of_not_lt fun hh=>lt117 _(Nat.lt_of_lt_of_le hh hszS80)rfl,Qz _ _ _⟩
 obtain⟨a125,c126,e124,h127⟩:=RV.int d87;obtain⟨a129,c130,e128,h131⟩:=RV.int d89;obtain⟨g133,e132,o134,l135,q136⟩:=d90;have n137:g7≠g133:=Nat.ne_of_lt(Nat.lt_of_lt_of_le lt81 l135);have n138:g15≠g133:=Nat.ne_of_lt(Nat.lt_of_lt_of_le lt82 l135);have n139:g24≠g133:=Nat.ne_of_lt(Nat.lt_of_lt_of_le lt83 l135);obtain⟨g142,e141,o143,l144,q145⟩:=d91;have n146:g7≠g142:=Nat.ne_of_lt(Nat.lt_of_lt_of_le lt81 l144);have n147:g15≠g142:=Nat.ne_of_lt(Nat.lt_of_lt_of_le lt82 l144);have n148:g24≠g142:=Nat.ne_of_lt(Nat.lt_of_lt_of_le lt83 l144);have n149:g133≠g142:=Jg6 q136 q145 rfl;obtain⟨f151,rfl⟩:=mixK k78(aC e86(aC e124(aC e88(aC e128(aC e132(aC e141 aN))))));refine On(J24(cs':=[(.bool(ofZ(a.toZ.natAbs:Int)).neg),(.slice a125(ofZ(a.toZ.natAbs:Int)).mag.length c126)])C79 o134 io26 rfl rfl rfl rfl rfl rfl ?_);intro w152 C153 s154 o155;replace o143:=o143.spo s154(Ne.symm n149);refine On(J24(cs':=[(.bool(ofZ(b.toZ.natAbs:Int)).neg),(.slice a129(ofZ(b.toZ.natAbs:Int)).mag.length c130)])C153 o143 io26 rfl rfl rfl rfl rfl rfl ?_);intro w156 C157 s158 o159;replace h3:=(h3.sp s154).sp s158;replace h6:=(h6.sp s154).sp s158;replace h127:=(h127.sp s154).sp s158;replace h131:=(h131.sp s154).sp s158;replace o14:=(o14.spo s154 n137).spo s158 n146;replace o22:=(o22.spo s154 n138).spo s158 n147;replace o31:=(o31.spo s154 n139).spo s158 n148;replace o155:=o155.spo s158 n149;refine Nl(Rh(O rfl(St.fieldAddr J4 rfl(O rfl(J21 o155 pl24 rfl rfl(O rfl(St.len sl24 rfl(O rfl(J35 rfl rfl(fun hc160=>?_)(fun hc160=>?_))))))))))
 ·refine Om(Og rfl rfl(St.fieldAddr J4 rfl(Og rfl rfl(J21 o159 pl24 rfl rfl(Og rfl rfl(St.len sl24 rfl(Og rfl rfl(J35 rfl rfl(fun hc161=>?_)(fun hc161=>?_)))))))))
  ·refine OT(Nl(J20 rfl(W.seq(J3f J9 5 [[],[0],[1],[],[3]] C157 [fx(.pointer(some⟨g133,1,none⟩)),fx(.slice a125(ofZ(a.toZ.natAbs:Int)).mag.length c126),fx(.int .u64(((val(ofZ(a.toZ.natAbs:Int)).mag):Nat):Int)),fx(.pointer(some⟨g142,1,none⟩)),fx(.slice a129(ofZ(b.toZ.natAbs:Int)).mag.length c130)](by kernel_rfl)⟨sx,sx,sx,sx,sx,trivial⟩fun f168 s169 w170⟨C173,S174⟩k172=>?_))))
   replace h127:=h127.sp S174;replace h131:=h131.sp S174;replace o155:=o155.spn S174;replace o159:=o159.spn S174;have k172:Keep [25,26,27,28,29] _ f168:=k172;refine⟨⟨fun _=>?_,fun⟨e180,_⟩=>?_,fun⟨e181,_⟩=>?_,fun _=>?_,fun⟨e182,_⟩=>?_,trivial⟩,fun⟨e183,e184,e185,e186,e187,_⟩=>?_⟩
   ·exact Ja k172 aN fun _=>OpSt.op(St.fieldAddr J4 rfl⟨s169,RC.same C173,rfl⟩)
   ·exact Ja k172(aC e180 aN)fun _=>OpSt.op(J21 o155 pl24 rfl rfl⟨s169,RC.same C173,rfl⟩)
   ·refine Ja k172(aC e181 aN)fun _=>OpSt.op(J2z C173 Jil rfl rfl(xg C173.bd h127(by omega))?_);intro v188 w189 C190 s191 h192;exact⟨s169,⟨C190,s191⟩,h192⟩
   ·exact Ja k172 aN fun _=>OpSt.op(St.fieldAddr J4 rfl⟨s169,RC.same C173,rfl⟩)
   ·exact Ja k172(aC e182 aN)fun _=>OpSt.op(J21 o159 pl24 rfl rfl⟨s169,RC.same C173,rfl⟩)
   obtain⟨f193,rfl⟩:=mixK k172(aC e183(aC e184(aC e185(aC e186(aC e187 aN)))));refine O rfl(J2z C173 Jil rfl rfl(xg C173.bd h131(by omega))?_);intro v194 w195 C196 s197 h198;replace h3:=(h3.sp S174).sp s197;replace h6:=(h6.sp S174).sp s197;replace h127:=h127.sp s197;replace h131:=h131.sp s197;replace o14:=(o14.spn S174).spn s197;replace o22:=(o22.spn S174).spn s197;replace o31:=(o31.spn S174).spn s197;replace o155:=o155.spn s197;replace o159:=o159.spn s197;subst h198;refine Oa(Oa(Nl(W.seq(W.block(J3g(fun μ f v=>∃ (x y:Nat→Prop)(xx:Nat)(yy:Nat),Cx X w x y v∧f 4=(.pointer(some⟨g24,0,none⟩))∧f 5=(.pointer(some⟨g133,0,none⟩))∧f 6=(.pointer(some⟨g142,0,none⟩))∧f 26=(.slice a125(ofZ(a.toZ.natAbs:Int)).mag.length c126)∧f 7=(.int .u64((xx:Nat):Int))∧f 8=(.int .u64((yy:Nat):Int))∧RS Jc x v(.slice a1 a.mag.length c2)a.mag∧RS Jc x v(.slice a4 b.mag.length c5)b.mag∧RS Jc x v(.slice a125(ofZ(a.toZ.natAbs:Int)).mag.length c126)(ofZ(a.toZ.natAbs:Int)).mag∧RS Jc x v(.slice a129(ofZ(b.toZ.natAbs:Int)).mag.length c130)(ofZ(b.toZ.natAbs:Int)).mag∧Own w y v g7 [(.bool a.neg),(.slice a1 a.mag.length c2)] 26∧Own w y v g15 [(.bool b.neg),(.slice a4 b.mag.length c5)] 26∧Own w y v g24 [(.bool false),(.slice none 0 0)] 26∧Own w y v g133 [(.bool(ofZ(a.toZ.natAbs:Int)).neg),(.slice a125(ofZ(a.toZ.natAbs:Int)).mag.length c126)] 26∧Own w y v g142 [(.bool(ofZ(b.toZ.natAbs:Int)).neg),(.slice a129(ofZ(b.toZ.natAbs:Int)).mag.length c130)] 26∧xx < 18446744073709551616∧yy < 18446744073709551616∧Nat.gcd xx yy=Int.gcd a.toZ b.toZ∧μ=yy)_⟨_,_,(val(ofZ(a.toZ.natAbs:Int)).mag),(val(ofZ(b.toZ.natAbs:Int)).mag),C196,rfl,rfl,rfl,rfl,rfl,rfl,h3,h6,h127,h131,o14,o22,o31,o155,o159,(Kb(Kc _)(by omega)),(Kb(Kc _)(by omega)),(by rw [Kg,Kg,Int.natAbs_natCast,Int.natAbs_natCast];rfl),rfl⟩ ?_)))));rintro m216 f199 w200⟨x201,y202,xx,yy,C203,e204,e205,e206,e207,e208,e209,h3,h6,h127,h131,o210,o211,o212,o213,o214,hx,hy,hxy,hmu215⟩;obtain⟨f217,rfl⟩:=rebK(aC e204(aC e205(aC e206(aC e207(aC e208(aC e209 aN))))));clear e204 e205 e206 e207 e208 e209;refine Rh(Om(O rfl(J3n rfl rfl(fun hc218=>?_)(fun hc218=>?_))))
   ·refine Nl(J20 rfl(W.skip(W.block(Go.Ev.W.swapRem J9 rfl rfl(by kernel_rfl)(by kernel_rfl)rfl rfl(by omega)(X4 xx yy)?_))));intro f219 hK220 hp221 hq222;have R223:=J4c C203;have C224:=R223.cx;have S225:=R223.sp;replace h3:=h3.sp S225;replace h6:=h6.sp S225;replace h127:=h127.sp S225;replace h131:=h131.sp S225;replace o210:=o210.spn S225;replace o211:=o211.spn S225;replace o212:=o212.spn S225;replace o213:=o213.spn S225;replace o214:=o214.spn S225;have hK220:Keep [33,34,35,36,7,8] _ f219:=hK220;obtain⟨f226,rfl⟩:=mixK hK220(aC hp221(aC hq222 aN));refine⟨_,(by have:=Nat.mod_lt xx(show 0 < yy by omega);omega),_,_,yy,xx % yy,C224,rfl,rfl,rfl,rfl,rfl,rfl,h3,h6,h127,h131,o210,o211,o212,o213,o214,hy,(by have:=Nat.mod_lt xx(show 0 < yy by omega);omega),(by rw [z7,hxy]),rfl⟩
   refine Nl(J22 rfl(W.exit(Rg(Om(O rfl(J2z C203 Jvs rfl rfl(Jem C203.bd(n:=xx)hx)?_))))));intro v228 w229 C230 s231 h232;obtain⟨a233,c234,rfl,_,_⟩:=h232.len;refine O rfl(J2z C230 jx rfl rfl(Yz C230.bd h232(by have h7:(digs xx).length≤2:=Jy(by omega);omega))?_);intro v235 w236 C237 s238 h239;replace o212:=(o212.spn s231).spn s238;obtain⟨a240,c241,rfl,h242⟩:=RV.int h239;refine On(J24(cs':=[(.bool(ofZ(Jl false(val(digs xx)))).neg),(.slice a240(ofZ(Jl false(val(digs xx)))).mag.length c241)])C237 o212 io26 rfl rfl rfl rfl rfl rfl ?_);intro w243 C244 s245 o246;replace h242:=h242.sp s245;refine Nl(W.ret(Je rfl(resV.c o246 rfl ag26 rfl)(Ret.intro ?_ C244.below)));exact J3i(a:=(ofZ(Jl false(val(digs xx)))))((Jk h242).tr(Tr.weak C244.base))(congrArg ofZ(by rw [Jt,Yb,← hxy,show yy=0 by omega,Nat.gcd_zero_right]))
  refine OT(Nl(J22 rfl(W.skip(W.seq(W.block(J3g(fun μ f v=>∃ (x y:Nat→Prop)(xx:Int)(yy:Int)(p:Option Addr)(pc:Nat)(q:Option Addr)(qc:Nat),Cx X w x y v∧f 4=(.pointer(some⟨g24,0,none⟩))∧f 5=(.pointer(some⟨g133,0,none⟩))∧f 6=(.pointer(some⟨g142,0,none⟩))∧RS Jc x v(.slice a1 a.mag.length c2)a.mag∧RS Jc x v(.slice a4 b.mag.length c5)b.mag∧RS Jc x v(.slice p(ofZ xx).mag.length pc)(ofZ xx).mag∧RS Jc x v(.slice q(ofZ yy).mag.length qc)(ofZ yy).mag∧Own w y v g7 [(.bool a.neg),(.slice a1 a.mag.length c2)] 26∧Own w y v g15 [(.bool b.neg),(.slice a4 b.mag.length c5)] 26∧Own w y v g24 [(.bool false),(.slice none 0 0)] 26∧Own w y v g133 [(.bool(ofZ xx).neg),(.slice p(ofZ xx).mag.length pc)] 26∧Own w y v g142 [(.bool(ofZ yy).neg),(.slice q(ofZ yy).mag.length qc)] 26∧0≤xx∧0≤yy∧Int.gcd xx yy=Int.gcd a.toZ b.toZ∧(ofZ xx).mag.length≤536870912∧(ofZ yy).mag.length≤536870912∧μ=yy.natAbs)_⟨_,_,((a.toZ.natAbs:Nat):Int),((b.toZ.natAbs:Nat):Int),a125,c126,a129,c130,C157,rfl,rfl,rfl,h3,h6,h127,h131,o14,o22,o31,o155,o159,(Int.natCast_nonneg _),(Int.natCast_nonneg _),(Jkc _ _),(by rw [qh];omega),(by rw [qh];omega),rfl⟩ ?_))))));rintro m261 f247 w248⟨x249,y250,xx,yy,p,pc,q,qc,C251,e252,e253,e254,h3,h6,hA,hB,o255,o256,o257,o258,o259,hx0,hy0,hgg,hlx,hly,hmu260⟩;obtain⟨f262,rfl⟩:=rebK(aC e252(aC e253(aC e254 aN)));clear e252 e253 e254;refine Rh(O rfl(St.fieldAddr J4 rfl(O rfl(J21 o259 pl24 rfl rfl(O rfl(St.len sl24 rfl(O rfl(J3n rfl rfl(fun hc263=>?_)(fun hc263=>?_)))))))))
  ·refine Nl(J20 rfl(W.skip(W.block(Rg(O rfl(J23(vs:=[(.bool(ofZ xx).neg),(.slice p(ofZ xx).mag.length pc)])o258 ag26 rfl rfl rfl(O rfl(J23(vs:=[(.bool(ofZ yy).neg),(.slice q(ofZ yy).mag.length qc)])o259 ag26 rfl rfl rfl(O rfl(J2z C251 Jr2 rfl rfl(Ja3 C251.bd(a:=(ofZ xx))(Jk hA)(b:=(ofZ yy))(Jk hB)hlx hly(Jjo(by omega)))?_))))))))));intro v264 w265 C266 s267 h268;replace h3:=h3.sp s267;replace h6:=h6.sp s267;replace hB:=hB.sp s267;replace o255:=o255.spn s267;replace o256:=o256.spn s267;replace o257:=o257.spn s267;replace o258:=o258.spn s267;replace o259:=o259.spn s267;simp only [Jq,Y0] at h268;obtain⟨v269,v270,rfl,h271,h272⟩:=h268;obtain⟨a273,c274,rfl,h275⟩:=RV.int h271;obtain⟨a276,c277,rfl,h278⟩:=RV.int h272;refine Om(O rfl(St.extract rfl rfl(O rfl(St.extract rfl rfl(O rfl(J27 C266 io26 rfl ?_))))));intro g279 w280 x281 y282 lt283 C284 s285 o286;have n287:=lt283 _ o255.blk.lt;have n288:=lt283 _ o256.blk.lt;have n289:=lt283 _ o257.blk.lt;have n290:=lt283 _ o258.blk.lt;have n291:=lt283 _ o259.blk.lt;replace o255:=o255.spn s285;replace o256:=o256.spn s285;replace o257:=o257.spn s285;replace o258:=o258.spn s285;replace o259:=o259.spn s285;refine O rfl(J27 C284 io26 rfl ?_);intro g292 w293 x294 y295 lt296 C297 s298 o299;have n300:=lt296 _ o255.blk.lt;have n301:=lt296 _ o256.blk.lt;have n302:=lt296 _ o257.blk.lt;have n303:=lt296 _ o258.blk.lt;have n304:=lt296 _ o259.blk.lt;have n305:=lt296 _ o286.blk.lt;replace h3:=(h3.sp s285).sp s298;replace h6:=(h6.sp s285).sp s298;replace hB:=(hB.sp s285).sp s298;replace h278:=(h278.sp s285).sp s298;replace o255:=o255.spn s298;replace o256:=o256.spn s298;replace o257:=o257.spn s298;replace o258:=o258.spn s298;replace o259:=o259.spn s298;replace o286:=o286.spn s298;refine On(J24(cs':=[(.bool(ofZ(xx / yy)).neg),(.slice a273(ofZ(xx / yy)).mag.length c274)])C297 o286 io26 rfl rfl rfl rfl rfl rfl ?_);intro w306 C307 s308 o309;replace o299:=o299.spo s308(Ne.symm n305);refine On(J24(cs':=[(.bool(ofZ(xx % yy)).neg),(.slice a276(ofZ(xx % yy)).mag.length c277)])C307 o299 io26 rfl rfl rfl rfl rfl rfl ?_);intro w310 C311 s312 o313;replace h3:=(h3.sp s308).sp s312;replace h6:=(h6.sp s308).sp s312;replace hB:=(hB.sp s308).sp s312;replace h278:=(h278.sp s308).sp s312;replace o255:=(o255.spo s308 n287).spo s312 n300;replace o256:=(o256.spo s308 n288).spo s312 n301;replace o257:=(o257.spo s308 n289).spo s312 n302;replace o258:=(o258.spo s308 n290).spo s312 n303;replace o259:=(o259.spo s308 n291).spo s312 n304;refine Nl(Rg(O rfl(J23(vs:=[(.bool(ofZ yy).neg),(.slice q(ofZ yy).mag.length qc)])o259 ag26 rfl rfl rfl(On(J24(cs':=[(.bool(ofZ yy).neg),(.slice q(ofZ yy).mag.length qc)])C311 o258 io26 rfl rfl rfl rfl rfl rfl ?_)))));intro w314 C315 s316 o317;replace o259:=o259.spo s316(Ne.symm n149);replace o313:=o313.spo s316(Ne.symm n303);refine Nl(W.region(O rfl(J23(vs:=[(.bool(ofZ(xx % yy)).neg),(.slice a276(ofZ(xx % yy)).mag.length c277)])o313 ag26 rfl rfl rfl(On(J24(cs':=[(.bool(ofZ(xx % yy)).neg),(.slice a276(ofZ(xx % yy)).mag.length c277)])C315 o259 io26 rfl rfl rfl rfl rfl rfl ?_)))))
   intro w318 C319 s320 o321;replace h3:=(h3.sp s316).sp s320;replace h6:=(h6.sp s316).sp s320;replace hB:=(hB.sp s316).sp s320;replace h278:=(h278.sp s316).sp s320;replace o255:=(o255.spo s316 n137).spo s320 n146;replace o256:=(o256.spo s316 n138).spo s320 n147;replace o257:=(o257.spo s316 n139).spo s320 n148;replace o317:=o317.spo s320 n149;refine Nl(⟨_,(by have h7:=ki(x:=xx)hy0(by omega);omega),_,_,yy,(xx % yy),q,qc,a276,c277,C319,rfl,rfl,rfl,h3,h6,hB,h278,o255,o256,o257,o317,o321,hy0,(Jp7(by omega)),(by rw [Jda hx0 hy0,hgg]),hly,(Nat.le_trans(Jcf(by omega))hly),rfl⟩)
  refine Nl(J22 rfl(W.exit(Rg(O rfl(J23(vs:=[(.bool(ofZ xx).neg),(.slice p(ofZ xx).mag.length pc)])o258 ag26 rfl rfl rfl(On(J24(cs':=[(.bool(ofZ xx).neg),(.slice p(ofZ xx).mag.length pc)])C251 o257 io26 rfl rfl rfl rfl rfl rfl ?_)))))));intro w322 C323 s324 o325;replace hA:=hA.sp s324;refine Nl(W.ret(Je rfl(resV.c o325 rfl ag26 rfl)(Ret.intro ?_ C323.below)));exact J3i(a:=(ofZ xx))((Jk hA).tr(Tr.weak C323.base))(congrArg ofZ(Jg3 hx0 hgg(by omega)))
 refine Om(Ox rfl rfl rfl(Ox rfl rfl rfl(Ox rfl rfl rfl(Ox rfl rfl rfl(OF(Nl(J22 rfl(W.skip(W.seq(W.block(J3g(fun μ f v=>∃ (x y:Nat→Prop)(xx:Int)(yy:Int)(p:Option Addr)(pc:Nat)(q:Option Addr)(qc:Nat),Cx X w x y v∧f 4=(.pointer(some⟨g24,0,none⟩))∧f 5=(.pointer(some⟨g133,0,none⟩))∧f 6=(.pointer(some⟨g142,0,none⟩))∧RS Jc x v(.slice a1 a.mag.length c2)a.mag∧RS Jc x v(.slice a4 b.mag.length c5)b.mag∧RS Jc x v(.slice p(ofZ xx).mag.length pc)(ofZ xx).mag∧RS Jc x v(.slice q(ofZ yy).mag.length qc)(ofZ yy).mag∧Own w y v g7 [(.bool a.neg),(.slice a1 a.mag.length c2)] 26∧Own w y v g15 [(.bool b.neg),(.slice a4 b.mag.length c5)] 26∧Own w y v g24 [(.bool false),(.slice none 0 0)] 26∧Own w y v g133 [(.bool(ofZ xx).neg),(.slice p(ofZ xx).mag.length pc)] 26∧Own w y v g142 [(.bool(ofZ yy).neg),(.slice q(ofZ yy).mag.length qc)] 26∧0≤xx∧0≤yy∧Int.gcd xx yy=Int.gcd a.toZ b.toZ∧(ofZ xx).mag.length≤536870912∧(ofZ yy).mag.length≤536870912∧μ=yy.natAbs)_⟨_,_,((a.toZ.natAbs:Nat):Int),((b.toZ.natAbs:Nat):Int),a125,c126,a129,c130,C157,rfl,rfl,rfl,h3,h6,h127,h131,o14,o22,o31,o155,o159,(Int.natCast_nonneg _),(Int.natCast_nonneg _),(Jkc _ _),(by rw [qh];omega),(by rw [qh];omega),rfl⟩ ?_)))))))))));rintro m340 f326 w327⟨x328,y329,xx,yy,p,pc,q,qc,C330,e331,e332,e333,h3,h6,hA,hB,o334,o335,o336,o337,o338,hx0,hy0,hgg,hlx,hly,hmu339⟩;obtain⟨f341,rfl⟩:=rebK(aC e331(aC e332(aC e333 aN)));clear e331 e332 e333;refine Rh(O rfl(St.fieldAddr J4 rfl(O rfl(J21 o338 pl24 rfl rfl(O rfl(St.len sl24 rfl(O rfl(J3n rfl rfl(fun hc342=>?_)(fun hc342=>?_)))))))))
 ·refine Nl(J20 rfl(W.skip(W.block(Rg(O rfl(J23(vs:=[(.bool(ofZ xx).neg),(.slice p(ofZ xx).mag.length pc)])o337 ag26 rfl rfl rfl(O rfl(J23(vs:=[(.bool(ofZ yy).neg),(.slice q(ofZ yy).mag.length qc)])o338 ag26 rfl rfl rfl(O rfl(J2z C330 Jr2 rfl rfl(Ja3 C330.bd(a:=(ofZ xx))(Jk hA)(b:=(ofZ yy))(Jk hB)hlx hly(Jjo(by omega)))?_))))))))));intro v343 w344 C345 s346 h347;replace h3:=h3.sp s346;replace h6:=h6.sp s346;replace hB:=hB.sp s346;replace o334:=o334.spn s346;replace o335:=o335.spn s346;replace o336:=o336.spn s346;replace o337:=o337.spn s346;replace o338:=o338.spn s346;simp only [Jq,Y0] at h347;obtain⟨v348,v349,rfl,h350,h351⟩:=h347;obtain⟨a352,c353,rfl,h354⟩:=RV.int h350;obtain⟨a355,c356,rfl,h357⟩:=RV.int h351;refine Om(O rfl(St.extract rfl rfl(O rfl(St.extract rfl rfl(O rfl(J27 C345 io26 rfl ?_))))));intro g358 w359 x360 y361 lt362 C363 s364 o365;have n366:=lt362 _ o334.blk.lt;have n367:=lt362 _ o335.blk.lt;have n368:=lt362 _ o336.blk.lt;have n369:=lt362 _ o337.blk.lt;have n370:=lt362 _ o338.blk.lt;replace o334:=o334.spn s364;replace o335:=o335.spn s364;replace o336:=o336.spn s364;replace o337:=o337.spn s364;replace o338:=o338.spn s364;refine O rfl(J27 C363 io26 rfl ?_);intro g371 w372 x373 y374 lt375 C376 s377 o378;have n379:=lt375 _ o334.blk.lt;have n380:=lt375 _ o335.blk.lt;have n381:=lt375 _ o336.blk.lt;have n382:=lt375 _ o337.blk.lt;have n383:=lt375 _ o338.blk.lt;have n384:=lt375 _ o365.blk.lt;replace h3:=(h3.sp s364).sp s377;replace h6:=(h6.sp s364).sp s377;replace hB:=(hB.sp s364).sp s377;replace h357:=(h357.sp s364).sp s377;replace o334:=o334.spn s377;replace o335:=o335.spn s377;replace o336:=o336.spn s377;replace o337:=o337.spn s377;replace o338:=o338.spn s377;replace o365:=o365.spn s377;refine On(J24(cs':=[(.bool(ofZ(xx / yy)).neg),(.slice a352(ofZ(xx / yy)).mag.length c353)])C376 o365 io26 rfl rfl rfl rfl rfl rfl ?_);intro w385 C386 s387 o388;replace o378:=o378.spo s387(Ne.symm n384);refine On(J24(cs':=[(.bool(ofZ(xx % yy)).neg),(.slice a355(ofZ(xx % yy)).mag.length c356)])C386 o378 io26 rfl rfl rfl rfl rfl rfl ?_);intro w389 C390 s391 o392;replace h3:=(h3.sp s387).sp s391;replace h6:=(h6.sp s387).sp s391;replace hB:=(hB.sp s387).sp s391;replace h357:=(h357.sp s387).sp s391;replace o334:=(o334.spo s387 n366).spo s391 n379;replace o335:=(o335.spo s387 n367).spo s391 n380;replace o336:=(o336.spo s387 n368).spo s391 n381;replace o337:=(o337.spo s387 n369).spo s391 n382;replace o338:=(o338.spo s387 n370).spo s391 n383;refine Nl(Rg(O rfl(J23(vs:=[(.bool(ofZ yy).neg),(.slice q(ofZ yy).mag.length qc)])o338 ag26 rfl rfl rfl(On(J24(cs':=[(.bool(ofZ yy).neg),(.slice q(ofZ yy).mag.length qc)])C390 o337 io26 rfl rfl rfl rfl rfl rfl ?_)))));intro w393 C394 s395 o396;replace o338:=o338.spo s395(Ne.symm n149);replace o392:=o392.spo s395(Ne.symm n382);refine Nl(W.region(O rfl(J23(vs:=[(.bool(ofZ(xx % yy)).neg),(.slice a355(ofZ(xx % yy)).mag.length c356)])o392 ag26 rfl rfl rfl(On(J24(cs':=[(.bool(ofZ(xx % yy)).neg),(.slice a355(ofZ(xx % yy)).mag.length c356)])C394 o338 io26 rfl rfl rfl rfl rfl rfl ?_)))))
  intro w397 C398 s399 o400;replace h3:=(h3.sp s395).sp s399;replace h6:=(h6.sp s395).sp s399;replace hB:=(hB.sp s395).sp s399;replace h357:=(h357.sp s395).sp s399;replace o334:=(o334.spo s395 n137).spo s399 n146;replace o335:=(o335.spo s395 n138).spo s399 n147;replace o336:=(o336.spo s395 n139).spo s399 n148;replace o396:=o396.spo s399 n149;refine Nl(⟨_,(by have h7:=ki(x:=xx)hy0(by omega);omega),_,_,yy,(xx % yy),q,qc,a355,c356,C398,rfl,rfl,rfl,h3,h6,hB,h357,o334,o335,o336,o396,o400,hy0,(Jp7(by omega)),(by rw [Jda hx0 hy0,hgg]),hly,(Nat.le_trans(Jcf(by omega))hly),rfl⟩)
 refine Nl(J22 rfl(W.exit(Rg(O rfl(J23(vs:=[(.bool(ofZ xx).neg),(.slice p(ofZ xx).mag.length pc)])o337 ag26 rfl rfl rfl(On(J24(cs':=[(.bool(ofZ xx).neg),(.slice p(ofZ xx).mag.length pc)])C330 o336 io26 rfl rfl rfl rfl rfl rfl ?_)))))));intro w401 C402 s403 o404;replace hA:=hA.sp s403;refine Nl(W.ret(Je rfl(resV.c o404 rfl ag26 rfl)(Ret.intro ?_ C402.below)));exact J3i(a:=(ofZ xx))((Jk hA).tr(Tr.weak C402.base))(congrArg ofZ(Jg3 hx0 hgg(by omega)))
set_option maxHeartbeats 1000000 in
theorem x_of {X:Nat→Prop}{w:World}(hX:∀ b,X b→b < w.heap.size){n:Int}(hlo: -9223372036854775808≤n)(hhi:n≤9223372036854775807):Calls Tryz.prog 117 #[(.int .i64 n)] w(Ret w fun v w'=>RV Jv X w' v(ofZ n)):=by
 have C:=J26 hX;refine J25(args:=[(.int .i64 n)])Tryz.func117 rfl rfl(Nat.le_of_ble_eq_true rfl)(Rg(O rfl(J27 C io26 rfl ?_)));intro g1 w2 x3 y4 lt5 C6 s7 o8;refine Nl(Rg(Om(O rfl(J28(z:=(n % 18446744073709551616))us3 Z5 rfl(by rw [IntKind.wrap_u64])(Oa(Nl(Rh(Om(O rfl(J3d rfl rfl(fun hc9=>?_)(fun hc9=>?_)))))))))))
 ·refine Nl(J20 rfl(W.region(Om(O rfl(St.neg(z:=((n.natAbs:Nat):Int))rfl(by rw [IntKind.wrap_u64];omega)(Oa(Nl(Rg(Om(O rfl(St.lss rfl rfl rfl(Om(O rfl(J28(z:=((n.natAbs % 4294967296:Nat):Int))Ym Yn rfl(Jn _)(Om(O rfl(St.shr rfl rfl(by decide)(Yp(d:=4294967296)_(by decide))?_)))))))))))))))));refine O rfl(J28(z:=(((n.natAbs / 4294967296) % 4294967296:Nat):Int))Ym Yn rfl(Jn _)(O rfl(J3r(T:=Jc)(css:=[[(.int .u32((n.natAbs % 4294967296:Nat):Int))],[(.int .u32(((n.natAbs / 4294967296) % 4294967296:Nat):Int))]])(l:=[n.natAbs % 4294967296,(n.natAbs / 4294967296) % 4294967296])C6 sl24 Ji(by decide)(by decide)rfl(by kernel_rfl)⟨⟨rfl,(Nat.mod_lt _(by decide))⟩,⟨rfl,(Nat.mod_lt _(by decide))⟩,trivial⟩ ?_)));intro g14 w10 C11 s12 h13;refine O rfl(J2z C11 jx rfl rfl(Yz C11.bd h13(by simp))?_);intro v17 w18 C19 s20 h21;replace o8:=(o8.spn s12).spn s20;obtain⟨a22,c23,rfl,h24⟩:=RV.int h21;refine On(J24(cs':=[(.bool(ofZ(Jl(decide(n < 0))(val [n.natAbs % 4294967296,(n.natAbs / 4294967296) % 4294967296]))).neg),(.slice a22(ofZ(Jl(decide(n < 0))(val [n.natAbs % 4294967296,(n.natAbs / 4294967296) % 4294967296]))).mag.length c23)])C19 o8 io26 rfl rfl rfl rfl rfl rfl ?_);intro w25 C26 s27 o28;replace h24:=h24.sp s27;refine Nl(W.ret(Je rfl(resV.c o28 rfl ag26 rfl)(Ret.intro ?_ C26.below)));exact J3i(a:=(ofZ(Jl(decide(n < 0))(val [n.natAbs % 4294967296,(n.natAbs / 4294967296) % 4294967296]))))((Jk h24).tr(Tr.weak C26.base))(congrArg ofZ(by rw [xi(by omega)];unfold Jl;split <;> simp_all <;> omega))
 refine Nl(J22 rfl(W.skip(W.seq ?_)));rw [show n % 18446744073709551616=((n.natAbs:Nat):Int)by omega];refine W.region(Om(O rfl(St.lss rfl rfl rfl(Om(O rfl(J28(z:=((n.natAbs % 4294967296:Nat):Int))Ym Yn rfl(Jn _)(Om(O rfl(St.shr rfl rfl(by decide)(Yp(d:=4294967296)_(by decide))(O rfl(J28(z:=(((n.natAbs / 4294967296) % 4294967296:Nat):Int))Ym Yn rfl(Jn _)?_)))))))))));refine O rfl(J3r(T:=Jc)(css:=[[(.int .u32((n.natAbs % 4294967296:Nat):Int))],[(.int .u32(((n.natAbs / 4294967296) % 4294967296:Nat):Int))]])(l:=[n.natAbs % 4294967296,(n.natAbs / 4294967296) % 4294967296])C6 sl24 Ji(by decide)(by decide)rfl(by kernel_rfl)⟨⟨rfl,(Nat.mod_lt _(by decide))⟩,⟨rfl,(Nat.mod_lt _(by decide))⟩,trivial⟩ ?_);intro g33 w29 C30 s31 h32;refine O rfl(J2z C30 jx rfl rfl(Yz C30.bd h32(by simp))?_);intro v36 w37 C38 s39 h40;replace o8:=(o8.spn s31).spn s39;obtain⟨a41,c42,rfl,h43⟩:=RV.int h40;refine On(J24(cs':=[(.bool(ofZ(Jl(decide(n < 0))(val [n.natAbs % 4294967296,(n.natAbs / 4294967296) % 4294967296]))).neg),(.slice a41(ofZ(Jl(decide(n < 0))(val [n.natAbs % 4294967296,(n.natAbs / 4294967296) % 4294967296]))).mag.length c42)])C38 o8 io26 rfl rfl rfl rfl rfl rfl ?_);intro w44 C45 s46 o47;replace h43:=h43.sp s46;refine Nl(W.ret(Je rfl(resV.c o47 rfl ag26 rfl)(Ret.intro ?_ C45.below)));exact J3i(a:=(ofZ(Jl(decide(n < 0))(val [n.natAbs % 4294967296,(n.natAbs / 4294967296) % 4294967296]))))((Jk h43).tr(Tr.weak C45.base))(congrArg ofZ(by rw [xi(by omega)];unfold Jl;split <;> simp_all <;> omega))
set_option maxHeartbeats 1000000 in
theorem Jpu {X:Nat→Prop}{w:World}(hX:∀ b,X b→b < w.heap.size){v0:Value}{a:GInt}(r0:RV Jv X w v0 a){v1:Value}{b:GInt}(r1:RV Jv X w v1 b)(hla:a.mag.length≤1099511627776)(hlb:b.mag.length≤1099511627776):Calls Tryz.prog 116 #[v0,v1] w(Ret w fun v w'=>v=(.bool(decide(a=b)))):=by
 obtain⟨a1,c2,rfl,h3⟩:=RV.int r0;obtain⟨a4,c5,rfl,h6⟩:=RV.int r1;have C:=J26 hX;refine J25(args:=[(.agg #[(.bool a.neg),(.slice a1 a.mag.length c2)]),(.agg #[(.bool b.neg),(.slice a4 b.mag.length c5)])])Tryz.func116 rfl rfl(Nat.le_of_ble_eq_true rfl)(Rg(O rfl(J3b C rfl ?_)));intro g7 w8 x9 y10 lt11 C12 s13 o14;refine O rfl(J3b C12 rfl ?_);intro g15 w16 x17 y18 lt19 C20 s21 o22;replace h3:=(h3.sp s13).sp s21;replace h6:=(h6.sp s13).sp s21;replace o14:=o14.spn s21;refine Oa(Nl(Rh(O rfl(St.fieldAddr Zj rfl(O rfl(J21 o14 pl4 rfl rfl(O rfl(St.fieldAddr Zj rfl(O rfl(J21 o22 pl4 rfl rfl(O rfl(St.bool(J36 un4 rfl rfl rfl⟨_,rfl,fun hb24=>?_,fun hb24=>?_⟩)))))))))))))
 ·exact Om(Ox rfl rfl rfl(Ox rfl rfl rfl(Ox rfl rfl rfl(Ox rfl rfl rfl(Ox rfl rfl rfl(Ox rfl rfl rfl(Ox rfl rfl rfl(OT(Nl(J20 rfl(Rg(Oa(Nl(W.ret(Je rfl(resV.t rfl)(Ret.intro(congrArg(Value.bool)(Jng hb24))C20.below))))))))))))))))
 refine Om(Og rfl rfl(St.fieldAddr J4 rfl(Og rfl rfl(J21 o14 pl24 rfl rfl(Og rfl rfl(St.len sl24 rfl(Og rfl rfl(St.fieldAddr J4 rfl(Og rfl rfl(J21 o22 pl24 rfl rfl(Og rfl rfl(St.len sl24 rfl(Og rfl rfl(J3h rfl rfl(fun hc25=>?_)(fun hc25=>?_)))))))))))))))
 ·exact OF(Nl(J20 rfl(Rg(Oa(Nl(W.ret(Je rfl(resV.t rfl)(Ret.intro(congrArg(Value.bool)(Joa hc25))C20.below))))))))
 refine OF(Nl(J22 rfl(W.skip(Rh(Oa(Nl(W.block(J3g(fun μ f v=>∃ (x y:Nat→Prop)(i:Nat),Cx X w x y v∧f 2=(.pointer(some⟨g7,0,none⟩))∧f 3=(.pointer(some⟨g15,0,none⟩))∧f 5=(.int .i64((i:Nat):Int))∧RS Jc x v(.slice a1 a.mag.length c2)a.mag∧RS Jc x v(.slice a4 b.mag.length c5)b.mag∧Own w y v g7 [(.bool a.neg),(.slice a1 a.mag.length c2)] 26∧Own w y v g15 [(.bool b.neg),(.slice a4 b.mag.length c5)] 26∧i≤a.mag.length∧a.mag.take i=b.mag.take i∧μ=(a.mag.length - i))_⟨_,_,0,C20,rfl,rfl,rfl,h3,h6,o14,o22,(Nat.zero_le _),rfl,rfl⟩ ?_))))))));rintro m37 f26 w27⟨x28,y29,i,C30,e31,e32,e33,h3,h6,o34,o35,hi,he,hmu36⟩;obtain⟨f38,rfl⟩:=rebK(aC e31(aC e32(aC e33 aN)));clear e31 e32 e33;refine Rh(Om(O rfl(St.fieldAddr J4 rfl(O rfl(J21 o34 pl24 rfl rfl(O rfl(St.len sl24 rfl(O rfl(J3d rfl rfl(fun hc39=>?_)(fun hc39=>?_))))))))))
 ·refine Nl(J20 rfl(W.skip(W.seq(W.block(W.seq(J3f J9 10 [[],[0],[],[1,2],[3],[],[5],[],[6,7],[8]] C30 [fx(.pointer(some⟨g7,1,none⟩)),fx(.slice a1 a.mag.length c2),fx(.int .i64((i:Nat):Int)),fE Jc(a.mag.getD i 0),fx(.int .u32(((a.mag.getD i 0):Nat):Int)),fx(.pointer(some⟨g15,1,none⟩)),fx(.slice a4 b.mag.length c5),fx(.int .i64((i:Nat):Int)),fE Jc(b.mag.getD i 0),fx(.int .u32(((b.mag.getD i 0):Nat):Int))](by kernel_rfl)⟨sx,sx,sx,sE,sx,sx,sx,sx,sE,sx,trivial⟩fun f51 s52 w53⟨C56,S57⟩k55=>?_))))))
  replace h3:=h3.sp S57;replace h6:=h6.sp S57;replace o34:=o34.spn S57;replace o35:=o35.spn S57;have k55:Keep [27,28,29,30,31,32,33,34,35,36] _ f51:=k55;refine⟨⟨fun _=>?_,fun⟨e60,_⟩=>?_,fun _=>?_,fun⟨e61,e62,_⟩=>?_,fun⟨d63,_⟩=>?_,fun _=>?_,fun⟨e64,_⟩=>?_,fun _=>?_,fun⟨e65,e66,_⟩=>?_,fun⟨d67,_⟩=>?_,trivial⟩,fun⟨e68,e69,e70,d71,e72,e73,e74,e75,d76,e77,_⟩=>?_⟩
  ·exact Ja k55 aN fun _=>OpSt.op(St.fieldAddr J4 rfl⟨s52,RC.same C56,rfl⟩)
  ·exact Ja k55(aC e60 aN)fun _=>OpSt.op(J21 o34 pl24 rfl rfl⟨s52,RC.same C56,rfl⟩)
  ·exact Ja k55 aN fun _=>OpSt.op(St.move⟨s52,RC.same C56,rfl⟩)
  ·refine Ja k55(aC e61(aC e62 aN))fun _=>OpSt.op(J3e(j:=i)(u:=(a.mag.getD i 0))h3 sl24 Ji rfl rfl rfl(Jg(by omega))?_);intro b78 o79 cs80 e81;obtain⟨rfl,bd82⟩:cs80=_∧_:=e81.rd;exact⟨s52,RC.same C56,⟨_,_,_,rfl,e81⟩⟩
  ·obtain⟨b84,o85,cs86,e83,e87⟩:=d63;obtain⟨rfl,bd88⟩:cs86=_∧_:=e87.rd;exact Ja k55(aC e83 aN)fun _=>OpSt.op(J3a Zb rfl(e87.cell 0 _ rfl)⟨s52,RC.same C56,rfl⟩)
  ·exact Ja k55 aN fun _=>OpSt.op(St.fieldAddr J4 rfl⟨s52,RC.same C56,rfl⟩)
  ·exact Ja k55(aC e64 aN)fun _=>OpSt.op(J21 o35 pl24 rfl rfl⟨s52,RC.same C56,rfl⟩)
  ·exact Ja k55 aN fun _=>OpSt.op(St.move⟨s52,RC.same C56,rfl⟩)
  ·refine Ja k55(aC e65(aC e66 aN))fun _=>OpSt.op(J3e(j:=i)(u:=(b.mag.getD i 0))h6 sl24 Ji rfl rfl rfl(Jg(by omega))?_);intro b89 o90 cs91 e92;obtain⟨rfl,bd93⟩:cs91=_∧_:=e92.rd;exact⟨s52,RC.same C56,⟨_,_,_,rfl,e92⟩⟩
  ·obtain⟨b95,o96,cs97,e94,e98⟩:=d67;obtain⟨rfl,bd99⟩:cs97=_∧_:=e98.rd;exact Ja k55(aC e94 aN)fun _=>OpSt.op(J3a Zb rfl(e98.cell 0 _ rfl)⟨s52,RC.same C56,rfl⟩)
  obtain⟨b101,o102,cs103,e100,e104⟩:=d71;obtain⟨rfl,bd105⟩:cs103=_∧_:=e104.rd;obtain⟨b107,o108,cs109,e106,e110⟩:=d76;obtain⟨rfl,bd111⟩:cs109=_∧_:=e110.rd;obtain⟨f112,rfl⟩:=mixK k55(aC e68(aC e69(aC e70(aC e100(aC e72(aC e73(aC e74(aC e75(aC e106(aC e77 aN))))))))));refine O rfl(J3h rfl rfl(fun hc113=>?_)(fun hc113=>?_))
  ·exact Nl(J20 rfl(Rg(Oa(Nl(W.ret(Je rfl(resV.t rfl)(Ret.intro(congrArg(Value.bool)(Jok hc113))C56.below)))))))
  refine Nl(J22 rfl(W.skip(W.region(Om(O rfl(St.add rfl rfl(Jd(a:=i)(b:=1)(by omega))(Oa(Nl(⟨_,(by omega),_,_,(i+1),C56,rfl,rfl,rfl,h3,h6,o34,o35,(by omega),(Jun(d:=0)(by omega)(by omega)he(by omega)),rfl⟩)))))))))
 exact Nl(J22 rfl(W.exit(Rg(Oa(Nl(W.ret(Je rfl(resV.t rfl)(Ret.intro(congrArg(Value.bool)(Jn6 hb24 hc25 hc39 he))C30.below))))))))
end Go.Wf
namespace Go.Wf
open Go Go.Proofs Go.RowKit
set_option maxRecDepth 100000
set_option linter.unusedVariables false
set_option linter.unusedSimpArgs false
theorem Jcs(q:Rat):ofZ(ofQ q).num.toZ=(ofQ q).num:=by unfold ofQ;rw [Jq]
theorem Jdj(q:Rat):ofZ(ofQ q).den.toZ=(ofQ q).den:=by unfold ofQ;rw [Jq]
set_option maxHeartbeats 1000000 in
theorem x_rof {X:Nat→Prop}{w:World}(hX:∀ b,X b→b < w.heap.size){n:Int}(hlo: -9223372036854775808≤n)(hhi:n≤9223372036854775807):Calls Tryz.prog 113 #[(.int .i64 n)] w(Ret w fun v w'=>RV Z8 X w' v(ofQ(Rat.divInt n 1))):=by
 have C:=J26 hX;refine J25(args:=[(.int .i64 n)])Tryz.func113 rfl rfl(Nat.le_of_ble_eq_true rfl)(Rg(O rfl(J27 C io28 rfl ?_)));intro g1 w2 x3 y4 lt5 C6 s7 o8;refine Nl(Rg(Om(O rfl(J2z C6 Jo8 rfl rfl(x_of C6.bd hlo hhi)?_))));intro v9 w10 C11 s12 h13;obtain⟨a14,c15,rfl,h16⟩:=RV.int h13;refine O rfl(J2z C11 Jo8 rfl rfl(x_of C11.bd(by decide)(by decide))?_);intro v17 w18 C19 s20 h21;replace o8:=(o8.spn s12).spn s20;obtain⟨a22,c23,rfl,h24⟩:=RV.int h21;refine O rfl(St.build(cs:=[(.bool(ofZ n).neg),(.slice a14(ofZ n).mag.length c15),(.bool(ofZ 1).neg),(.slice a22(ofZ 1).mag.length c23)])rfl(by kernel_rfl)(On(J24(cs':=[(.bool(ofZ n).neg),(.slice a14(ofZ n).mag.length c15),(.bool(ofZ 1).neg),(.slice a22(ofZ 1).mag.length c23)])C19 o8 io28 rfl rfl rfl rfl rfl rfl ?_)));intro w25 C26 s27 o28;replace h16:=(h16.sp s20).sp s27;replace h24:=h24.sp s27;refine Nl(W.ret(Je rfl(resV.c o28 rfl ag28 rfl)(Ret.intro ?_ C26.below)));exact J3i(a:=(⟨⟨(ofZ n).neg,(ofZ n).mag⟩,⟨(ofZ 1).neg,(ofZ 1).mag⟩⟩:GRat))((Ze h16 h24).tr(Tr.weak C26.base))(Q8 rfl)
set_option maxHeartbeats 2000000 in
theorem Jk7 {X:Nat→Prop}{w:World}(hX:∀ b,X b→b < w.heap.size){v0:Value}{n:GInt}(r0:RV Jv X w v0 n){v1:Value}{d:GInt}(r1:RV Jv X w v1 d)(hln:n.mag.length≤536870912)(hld:d.mag.length≤536870912):Calls Tryz.prog 77 #[v0,v1] w(Ret w fun v w'=>RV Z8 X w' v(ofQ(Rat.divInt n.toZ d.toZ))):=by
 obtain⟨a1,c2,rfl,h3⟩:=RV.int r0;obtain⟨a4,c5,rfl,h6⟩:=RV.int r1;have C:=J26 hX;have sn:=r0.int_small;have sd:=r1.int_small;have hN:=J1 sn;have hD:=J1 sd;refine J25(args:=[(.agg #[(.bool n.neg),(.slice a1 n.mag.length c2)]),(.agg #[(.bool d.neg),(.slice a4 d.mag.length c5)])])Tryz.func77 rfl rfl(Nat.le_of_ble_eq_true rfl)(Rg(O rfl(J3b C rfl ?_)));intro g7 w8 x9 y10 lt11 C12 s13 o14;replace h6:=h6.sp s13;refine O rfl(J3b C12 rfl ?_);intro g15 w16 x17 y18 lt19 C20 s21 o22;replace h3:=(h3.sp s13).sp s21;replace o14:=o14.spn s21;refine O rfl(J27 C20 io28 rfl ?_);intro g24 w25 x26 y27 lt28 C29 s30 o31;replace h6:=(h6.sp s21).sp s30;replace o22:=o22.spn s30;refine Nl(Rh(O rfl(J23(vs:=[(.bool d.neg),(.slice a4 d.mag.length c5)])o22 ag26 rfl rfl rfl(O rfl(J2z C29 Jo7 rfl rfl(Jf9 C29.bd(a:=d)(Jk h6)(by omega))?_)))));intro v34 w35 C36 s37 h38;replace h3:=(h3.sp s30).sp s37;replace h6:=h6.sp s37;replace o14:=(o14.spn s30).spn s37;replace o22:=o22.spn s37;subst h38;refine O rfl(J3c rfl rfl(fun hc39=>?_)(fun hc39=>?_))
 ·refine Nl(J20 rfl(Rg(O rfl(J2z C36 cb113 rfl rfl(x_rof C36.bd(by decide)(by decide))?_))));intro v40 w41 C42 s43 h44;replace o31:=(o31.spn s37).spn s43;obtain⟨a45,c46,a47,c48,rfl,h49,h50⟩:=J3p h44;refine On(J24(cs':=[(.bool(ofQ(Rat.divInt 0 1)).num.neg),(.slice a45(ofQ(Rat.divInt 0 1)).num.mag.length c46),(.bool(ofQ(Rat.divInt 0 1)).den.neg),(.slice a47(ofQ(Rat.divInt 0 1)).den.mag.length c48)])C42 o31 io28 rfl rfl rfl rfl rfl rfl ?_);intro w51 C52 s53 o54;replace h49:=h49.sp s53;replace h50:=h50.sp s53;refine Nl(W.ret(Je rfl(resV.c o54 rfl ag28 rfl)(Ret.intro ?_ C52.below)));exact J3i(a:=(ofQ(Rat.divInt 0 1)))((Ze h49 h50).tr(Tr.weak C52.base))(Jrq hc39)
 refine Nl(J22 rfl(W.skip(W.seq ?_)));have hne:=xo_ne(n:=n.toZ)hc39;have hgl:=Jw8(n:=n.toZ)hc39;refine W.region(O rfl(J23(vs:=[(.bool n.neg),(.slice a1 n.mag.length c2)])o14 ag26 rfl rfl rfl(O rfl(J23(vs:=[(.bool d.neg),(.slice a4 d.mag.length c5)])o22 ag26 rfl rfl rfl(O rfl(J2z C36 cb114 rfl rfl(x_gcd C36.bd(a:=n)(Jk h3)(b:=d)(Jk h6)(by omega)(by omega))?_))))));intro v55 w56 C57 s58 h59;replace h3:=h3.sp s58;replace h6:=h6.sp s58;replace o14:=o14.spn s58;replace o22:=o22.spn s58;replace o31:=(o31.spn s37).spn s58;obtain⟨a60,c61,rfl,h62⟩:=RV.int h59;refine O rfl(J27 C57 io26 rfl ?_);intro g63 w64 x65 y66 lt67 C68 s69 o70;have n71:=lt67 _ o14.blk.lt;have n72:=lt67 _ o22.blk.lt;have n73:=lt67 _ o31.blk.lt;replace h62:=h62.sp s69;replace o31:=o31.spn s69;refine On(J24(cs':=[(.bool(ofZ((Int.gcd n.toZ d.toZ:Nat):Int)).neg),(.slice a60(ofZ((Int.gcd n.toZ d.toZ:Nat):Int)).mag.length c61)])C68 o70 io26 rfl rfl rfl rfl rfl rfl ?_);intro w74 C75 s76 o77;replace h3:=(h3.sp s69).sp s76;replace h6:=(h6.sp s69).sp s76;replace o14:=(o14.spn s69).spo s76 n71;replace o22:=(o22.spn s69).spo s76 n72;refine Nl(Rh(O rfl(J23(vs:=[(.bool d.neg),(.slice a4 d.mag.length c5)])o22 ag26 rfl rfl rfl(O rfl(J2z C75 Jo7 rfl rfl(Jf9 C75.bd(a:=d)(Jk h6)(by omega))?_)))));intro v78 w79 C80 s81 h82;replace h62:=(h62.sp s76).sp s81;replace o31:=(o31.spo s76 n73).spn s81;replace o77:=o77.spn s81;subst h82;refine O rfl(J3d rfl rfl(fun hc83=>?_)(fun hc83=>?_))
 ·refine Nl(J20 rfl(W.region(O rfl(J23(vs:=[(.bool(ofZ((Int.gcd n.toZ d.toZ:Nat):Int)).neg),(.slice a60(ofZ((Int.gcd n.toZ d.toZ:Nat):Int)).mag.length c61)])o77 ag26 rfl rfl rfl(O rfl(J2z C80 Jsh rfl rfl(Js6 C80.bd(a:=(ofZ((Int.gcd n.toZ d.toZ:Nat):Int)))(Jk h62)(by omega))?_))))));intro v84 w85 C86 s87 h88;replace h3:=(h3.sp s81).sp s87;replace h6:=(h6.sp s81).sp s87;replace o14:=(o14.spn s81).spn s87;replace o22:=(o22.spn s81).spn s87;replace o77:=o77.spn s87;simp only [Jq,Y0] at h88;obtain⟨a89,c90,rfl,h91⟩:=RV.int h88;refine On(J24(cs':=[(.bool(ofZ(-((Int.gcd n.toZ d.toZ:Nat):Int))).neg),(.slice a89(ofZ(-((Int.gcd n.toZ d.toZ:Nat):Int))).mag.length c90)])C86 o77 io26 rfl rfl rfl rfl rfl rfl ?_);intro w92 C93 s94 o95;replace o31:=(o31.spn s87).spo s94 n73;refine Nl(W.seq(W.seq(J3f J9 2 [[],[]] C93 [fx(.agg #[(.bool(ofZ(-((Int.gcd n.toZ d.toZ:Nat):Int))).neg),(.slice a89(ofZ(-((Int.gcd n.toZ d.toZ:Nat):Int))).mag.length c90)]),fr Jv(ofZ 1)](by kernel_rfl)⟨sx,sr,trivial⟩fun f105 s106 w107⟨C110,S111⟩k109=>?_)))
  replace h3:=(h3.sp s94).sp S111;replace h6:=(h6.sp s94).sp S111;replace h91:=(h91.sp s94).sp S111;replace o14:=(o14.spo s94 n71).spn S111;replace o22:=(o22.spo s94 n72).spn S111;replace o95:=o95.spn S111;have k109:Keep [18,19] _ f105:=k109;refine⟨⟨fun _=>?_,fun _=>?_,trivial⟩,fun⟨e116,d117,_⟩=>?_⟩
  ·exact Ja k109 aN fun _=>OpSt.op(J23(vs:=[(.bool(ofZ(-((Int.gcd n.toZ d.toZ:Nat):Int))).neg),(.slice a89(ofZ(-((Int.gcd n.toZ d.toZ:Nat):Int))).mag.length c90)])o95 ag26 rfl rfl rfl⟨s106,RC.same C110,rfl⟩)
  ·refine Ja k109 aN fun _=>OpSt.op(J2z C110 Jo8 rfl rfl(x_of C110.bd(by decide)(by decide))?_);intro v118 w119 C120 s121 h122;exact⟨s106,⟨C120,s121⟩,h122⟩
  obtain⟨a124,c125,e123,h126⟩:=RV.int d117;obtain⟨f127,rfl⟩:=mixK k109(aC e116(aC e123 aN));refine O rfl(St.bool(J2z C110 Jzp rfl rfl(Jpu C110.bd(a:=(ofZ(-((Int.gcd n.toZ d.toZ:Nat):Int))))(Jk h91)(b:=(ofZ 1))(Jk h126)(by first | omega | (rw [Zx];omega))(by decide))?_));intro v128 w129 C130 s131 h132;replace o31:=(o31.spn S111).spn s131;refine⟨_,h132,fun hb133=>?_,fun hb133=>?_⟩
  ·refine Nl(J20 rfl(W.seq(J3f J9 3 [[],[0],[]] C130 [fx(.agg #[(.bool n.neg),(.slice a1 n.mag.length c2)]),fr Jv(ofZ n.toZ),fx(.agg #[(.bool d.neg),(.slice a4 d.mag.length c5)])](by kernel_rfl)⟨sx,sr,sx,trivial⟩fun f143 s144 w145⟨C148,S149⟩k147=>?_)))
   replace h3:=(h3.sp s131).sp S149;replace h6:=(h6.sp s131).sp S149;replace o14:=(o14.spn s131).spn S149;replace o22:=(o22.spn s131).spn S149;have k147:Keep [21,22,23] _ f143:=k147;refine⟨⟨fun _=>?_,fun⟨e154,_⟩=>?_,fun _=>?_,trivial⟩,fun⟨e155,d156,e157,_⟩=>?_⟩
   ·exact Ja k147 aN fun _=>OpSt.op(J23(vs:=[(.bool n.neg),(.slice a1 n.mag.length c2)])o14 ag26 rfl rfl rfl⟨s144,RC.same C148,rfl⟩)
   ·refine Ja k147(aC e154 aN)fun _=>OpSt.op(J2z C148 ku rfl rfl(Vp C148.bd(a:=n)(Jk h3)(by omega))?_);intro v158 w159 C160 s161 h162;exact⟨s144,⟨C160,s161⟩,h162⟩
   ·exact Ja k147 aN fun _=>OpSt.op(J23(vs:=[(.bool d.neg),(.slice a4 d.mag.length c5)])o22 ag26 rfl rfl rfl⟨s144,RC.same C148,rfl⟩)
   obtain⟨a164,c165,e163,h166⟩:=RV.int d156;obtain⟨f167,rfl⟩:=mixK k147(aC e155(aC e163(aC e157 aN)));refine O rfl(J2z C148 ku rfl rfl(Vp C148.bd(a:=d)(Jk h6)(by omega))?_);intro v168 w169 C170 s171 h172;replace o31:=(o31.spn S149).spn s171;obtain⟨a173,c174,rfl,h175⟩:=RV.int h172;refine O rfl(St.build(cs:=[(.bool(ofZ n.toZ).neg),(.slice a164(ofZ n.toZ).mag.length c165),(.bool(ofZ d.toZ).neg),(.slice a173(ofZ d.toZ).mag.length c174)])rfl(by kernel_rfl)(On(J24(cs':=[(.bool(ofZ n.toZ).neg),(.slice a164(ofZ n.toZ).mag.length c165),(.bool(ofZ d.toZ).neg),(.slice a173(ofZ d.toZ).mag.length c174)])C170 o31 io28 rfl rfl rfl rfl rfl rfl ?_)));intro w176 C177 s178 o179;replace h166:=(h166.sp s171).sp s178;replace h175:=h175.sp s178;refine Nl(W.ret(Je rfl(resV.c o179 rfl ag28 rfl)(Ret.intro ?_ C177.below)));exact J3i(a:=(⟨⟨(ofZ n.toZ).neg,(ofZ n.toZ).mag⟩,⟨(ofZ d.toZ).neg,(ofZ d.toZ).mag⟩⟩:GRat))((Ze h166 h175).tr(Tr.weak C177.base))((Jyt(of_decide_eq_true hb133)).elim)
  refine Nl(J22 rfl(W.skip(W.seq(J3f J9 5 [[],[],[0,1],[],[]] C130 [fx(.agg #[(.bool n.neg),(.slice a1 n.mag.length c2)]),fx(.agg #[(.bool(ofZ(-((Int.gcd n.toZ d.toZ:Nat):Int))).neg),(.slice a89(ofZ(-((Int.gcd n.toZ d.toZ:Nat):Int))).mag.length c90)]),fr Jv(ofZ(n.toZ / (-((Int.gcd n.toZ d.toZ:Nat):Int)))),fx(.agg #[(.bool d.neg),(.slice a4 d.mag.length c5)]),fx(.agg #[(.bool(ofZ(-((Int.gcd n.toZ d.toZ:Nat):Int))).neg),(.slice a89(ofZ(-((Int.gcd n.toZ d.toZ:Nat):Int))).mag.length c90)])](by kernel_rfl)⟨sx,sx,sr,sx,sx,trivial⟩fun f189 s190 w191⟨C194,S195⟩k193=>?_))))
  replace h3:=(h3.sp s131).sp S195;replace h6:=(h6.sp s131).sp S195;replace h91:=(h91.sp s131).sp S195;replace o14:=(o14.spn s131).spn S195;replace o22:=(o22.spn s131).spn S195;replace o95:=(o95.spn s131).spn S195;have k193:Keep [26,27,28,29,30] _ f189:=k193;refine⟨⟨fun _=>?_,fun _=>?_,fun⟨e200,e201,_⟩=>?_,fun _=>?_,fun _=>?_,trivial⟩,fun⟨e202,e203,d204,e205,e206,_⟩=>?_⟩
  ·exact Ja k193 aN fun _=>OpSt.op(J23(vs:=[(.bool n.neg),(.slice a1 n.mag.length c2)])o14 ag26 rfl rfl rfl⟨s190,RC.same C194,rfl⟩)
  ·exact Ja k193 aN fun _=>OpSt.op(J23(vs:=[(.bool(ofZ(-((Int.gcd n.toZ d.toZ:Nat):Int))).neg),(.slice a89(ofZ(-((Int.gcd n.toZ d.toZ:Nat):Int))).mag.length c90)])o95 ag26 rfl rfl rfl⟨s190,RC.same C194,rfl⟩)
  ·refine Ja k193(aC e200(aC e201 aN))fun _=>OpSt.op(J2z C194 Jov rfl rfl(Va C194.bd(a:=n)(Jk h3)(b:=(ofZ(-((Int.gcd n.toZ d.toZ:Nat):Int))))(Jk h91)(by omega)(by first | omega | (rw [Zx];omega))(by rw [Kg];have h7:=hne;omega))?_);intro v207 w208 C209 s210 h211;simp only [Jq,Y0] at h211;exact⟨s190,⟨C209,s210⟩,h211⟩
  ·exact Ja k193 aN fun _=>OpSt.op(J23(vs:=[(.bool d.neg),(.slice a4 d.mag.length c5)])o22 ag26 rfl rfl rfl⟨s190,RC.same C194,rfl⟩)
  ·exact Ja k193 aN fun _=>OpSt.op(J23(vs:=[(.bool(ofZ(-((Int.gcd n.toZ d.toZ:Nat):Int))).neg),(.slice a89(ofZ(-((Int.gcd n.toZ d.toZ:Nat):Int))).mag.length c90)])o95 ag26 rfl rfl rfl⟨s190,RC.same C194,rfl⟩)
  obtain⟨a213,c214,e212,h215⟩:=RV.int d204;obtain⟨f216,rfl⟩:=mixK k193(aC e202(aC e203(aC e212(aC e205(aC e206 aN)))));refine O rfl(J2z C194 Jov rfl rfl(Va C194.bd(a:=d)(Jk h6)(b:=(ofZ(-((Int.gcd n.toZ d.toZ:Nat):Int))))(Jk h91)(by omega)(by first | omega | (rw [Zx];omega))(by rw [Kg];have h7:=hne;omega))?_);intro v217 w218 C219 s220 h221;replace o31:=(o31.spn S195).spn s220;simp only [Jq,Y0] at h221;obtain⟨a222,c223,rfl,h224⟩:=RV.int h221;refine O rfl(St.build(cs:=[(.bool(ofZ(n.toZ / (-((Int.gcd n.toZ d.toZ:Nat):Int)))).neg),(.slice a213(ofZ(n.toZ / (-((Int.gcd n.toZ d.toZ:Nat):Int)))).mag.length c214),(.bool(ofZ(d.toZ / (-((Int.gcd n.toZ d.toZ:Nat):Int)))).neg),(.slice a222(ofZ(d.toZ / (-((Int.gcd n.toZ d.toZ:Nat):Int)))).mag.length c223)])rfl(by kernel_rfl)(On(J24(cs':=[(.bool(ofZ(n.toZ / (-((Int.gcd n.toZ d.toZ:Nat):Int)))).neg),(.slice a213(ofZ(n.toZ / (-((Int.gcd n.toZ d.toZ:Nat):Int)))).mag.length c214),(.bool(ofZ(d.toZ / (-((Int.gcd n.toZ d.toZ:Nat):Int)))).neg),(.slice a222(ofZ(d.toZ / (-((Int.gcd n.toZ d.toZ:Nat):Int)))).mag.length c223)])C219 o31 io28 rfl rfl rfl rfl rfl rfl ?_)));intro w225 C226 s227 o228;replace h215:=(h215.sp s220).sp s227;replace h224:=h224.sp s227;refine Nl(W.ret(Je rfl(resV.c o228 rfl ag28 rfl)(Ret.intro ?_ C226.below)));exact J3i(a:=(⟨⟨(ofZ(n.toZ / (-((Int.gcd n.toZ d.toZ:Nat):Int)))).neg,(ofZ(n.toZ / (-((Int.gcd n.toZ d.toZ:Nat):Int)))).mag⟩,⟨(ofZ(d.toZ / (-((Int.gcd n.toZ d.toZ:Nat):Int)))).neg,(ofZ(d.toZ / (-((Int.gcd n.toZ d.toZ:Nat):Int)))).mag⟩⟩:GRat))((Ze h215 h224).tr(Tr.weak C226.base))(Jv3 hc83)
 refine Nl(J22 rfl(W.skip(W.seq(W.seq(J3f J9 2 [[],[]] C80 [fx(.agg #[(.bool(ofZ((Int.gcd n.toZ d.toZ:Nat):Int)).neg),(.slice a60(ofZ((Int.gcd n.toZ d.toZ:Nat):Int)).mag.length c61)]),fr Jv(ofZ 1)](by kernel_rfl)⟨sx,sr,trivial⟩fun f238 s239 w240⟨C243,S244⟩k242=>?_)))))
 replace h3:=(h3.sp s81).sp S244;replace h6:=(h6.sp s81).sp S244;replace h62:=h62.sp S244;replace o14:=(o14.spn s81).spn S244;replace o22:=(o22.spn s81).spn S244;replace o77:=o77.spn S244;have k242:Keep [18,19] _ f238:=k242;refine⟨⟨fun _=>?_,fun _=>?_,trivial⟩,fun⟨e249,d250,_⟩=>?_⟩
 ·exact Ja k242 aN fun _=>OpSt.op(J23(vs:=[(.bool(ofZ((Int.gcd n.toZ d.toZ:Nat):Int)).neg),(.slice a60(ofZ((Int.gcd n.toZ d.toZ:Nat):Int)).mag.length c61)])o77 ag26 rfl rfl rfl⟨s239,RC.same C243,rfl⟩)
 ·refine Ja k242 aN fun _=>OpSt.op(J2z C243 Jo8 rfl rfl(x_of C243.bd(by decide)(by decide))?_);intro v251 w252 C253 s254 h255;exact⟨s239,⟨C253,s254⟩,h255⟩
 obtain⟨a257,c258,e256,h259⟩:=RV.int d250;obtain⟨f260,rfl⟩:=mixK k242(aC e249(aC e256 aN));refine O rfl(St.bool(J2z C243 Jzp rfl rfl(Jpu C243.bd(a:=(ofZ((Int.gcd n.toZ d.toZ:Nat):Int)))(Jk h62)(b:=(ofZ 1))(Jk h259)(by first | omega | (rw [Zx];omega))(by decide))?_));intro v261 w262 C263 s264 h265;replace o31:=(o31.spn S244).spn s264;refine⟨_,h265,fun hb266=>?_,fun hb266=>?_⟩
 ·refine Nl(J20 rfl(W.seq(J3f J9 3 [[],[0],[]] C263 [fx(.agg #[(.bool n.neg),(.slice a1 n.mag.length c2)]),fr Jv(ofZ n.toZ),fx(.agg #[(.bool d.neg),(.slice a4 d.mag.length c5)])](by kernel_rfl)⟨sx,sr,sx,trivial⟩fun f276 s277 w278⟨C281,S282⟩k280=>?_)))
  replace h3:=(h3.sp s264).sp S282;replace h6:=(h6.sp s264).sp S282;replace o14:=(o14.spn s264).spn S282;replace o22:=(o22.spn s264).spn S282;have k280:Keep [21,22,23] _ f276:=k280;refine⟨⟨fun _=>?_,fun⟨e287,_⟩=>?_,fun _=>?_,trivial⟩,fun⟨e288,d289,e290,_⟩=>?_⟩
  ·exact Ja k280 aN fun _=>OpSt.op(J23(vs:=[(.bool n.neg),(.slice a1 n.mag.length c2)])o14 ag26 rfl rfl rfl⟨s277,RC.same C281,rfl⟩)
  ·refine Ja k280(aC e287 aN)fun _=>OpSt.op(J2z C281 ku rfl rfl(Vp C281.bd(a:=n)(Jk h3)(by omega))?_);intro v291 w292 C293 s294 h295;exact⟨s277,⟨C293,s294⟩,h295⟩
  ·exact Ja k280 aN fun _=>OpSt.op(J23(vs:=[(.bool d.neg),(.slice a4 d.mag.length c5)])o22 ag26 rfl rfl rfl⟨s277,RC.same C281,rfl⟩)
  obtain⟨a297,c298,e296,h299⟩:=RV.int d289;obtain⟨f300,rfl⟩:=mixK k280(aC e288(aC e296(aC e290 aN)));refine O rfl(J2z C281 ku rfl rfl(Vp C281.bd(a:=d)(Jk h6)(by omega))?_);intro v301 w302 C303 s304 h305;replace o31:=(o31.spn S282).spn s304;obtain⟨a306,c307,rfl,h308⟩:=RV.int h305;refine O rfl(St.build(cs:=[(.bool(ofZ n.toZ).neg),(.slice a297(ofZ n.toZ).mag.length c298),(.bool(ofZ d.toZ).neg),(.slice a306(ofZ d.toZ).mag.length c307)])rfl(by kernel_rfl)(On(J24(cs':=[(.bool(ofZ n.toZ).neg),(.slice a297(ofZ n.toZ).mag.length c298),(.bool(ofZ d.toZ).neg),(.slice a306(ofZ d.toZ).mag.length c307)])C303 o31 io28 rfl rfl rfl rfl rfl rfl ?_)));intro w309 C310 s311 o312;replace h299:=(h299.sp s304).sp s311;replace h308:=h308.sp s311;refine Nl(W.ret(Je rfl(resV.c o312 rfl ag28 rfl)(Ret.intro ?_ C310.below)));exact J3i(a:=(⟨⟨(ofZ n.toZ).neg,(ofZ n.toZ).mag⟩,⟨(ofZ d.toZ).neg,(ofZ d.toZ).mag⟩⟩:GRat))((Ze h299 h308).tr(Tr.weak C310.base))(jo(Jq3(n:=n.toZ)hc39 hc83)(Yy.1(of_decide_eq_true hb266)))
 refine Nl(J22 rfl(W.skip(W.seq(J3f J9 5 [[],[],[0,1],[],[]] C263 [fx(.agg #[(.bool n.neg),(.slice a1 n.mag.length c2)]),fx(.agg #[(.bool(ofZ((Int.gcd n.toZ d.toZ:Nat):Int)).neg),(.slice a60(ofZ((Int.gcd n.toZ d.toZ:Nat):Int)).mag.length c61)]),fr Jv(ofZ(n.toZ / ((Int.gcd n.toZ d.toZ:Nat):Int))),fx(.agg #[(.bool d.neg),(.slice a4 d.mag.length c5)]),fx(.agg #[(.bool(ofZ((Int.gcd n.toZ d.toZ:Nat):Int)).neg),(.slice a60(ofZ((Int.gcd n.toZ d.toZ:Nat):Int)).mag.length c61)])](by kernel_rfl)⟨sx,sx,sr,sx,sx,trivial⟩fun f322 s323 w324⟨C327,S328⟩k326=>?_))))
 replace h3:=(h3.sp s264).sp S328;replace h6:=(h6.sp s264).sp S328;replace h62:=(h62.sp s264).sp S328;replace o14:=(o14.spn s264).spn S328;replace o22:=(o22.spn s264).spn S328;replace o77:=(o77.spn s264).spn S328;have k326:Keep [26,27,28,29,30] _ f322:=k326;refine⟨⟨fun _=>?_,fun _=>?_,fun⟨e333,e334,_⟩=>?_,fun _=>?_,fun _=>?_,trivial⟩,fun⟨e335,e336,d337,e338,e339,_⟩=>?_⟩
 ·exact Ja k326 aN fun _=>OpSt.op(J23(vs:=[(.bool n.neg),(.slice a1 n.mag.length c2)])o14 ag26 rfl rfl rfl⟨s323,RC.same C327,rfl⟩)
 ·exact Ja k326 aN fun _=>OpSt.op(J23(vs:=[(.bool(ofZ((Int.gcd n.toZ d.toZ:Nat):Int)).neg),(.slice a60(ofZ((Int.gcd n.toZ d.toZ:Nat):Int)).mag.length c61)])o77 ag26 rfl rfl rfl⟨s323,RC.same C327,rfl⟩)
 ·refine Ja k326(aC e333(aC e334 aN))fun _=>OpSt.op(J2z C327 Jov rfl rfl(Va C327.bd(a:=n)(Jk h3)(b:=(ofZ((Int.gcd n.toZ d.toZ:Nat):Int)))(Jk h62)(by omega)(by first | omega | (rw [Zx];omega))(by rw [Kg];have h7:=hne;omega))?_);intro v340 w341 C342 s343 h344;simp only [Jq,Y0] at h344;exact⟨s323,⟨C342,s343⟩,h344⟩
 ·exact Ja k326 aN fun _=>OpSt.op(J23(vs:=[(.bool d.neg),(.slice a4 d.mag.length c5)])o22 ag26 rfl rfl rfl⟨s323,RC.same C327,rfl⟩)
 ·exact Ja k326 aN fun _=>OpSt.op(J23(vs:=[(.bool(ofZ((Int.gcd n.toZ d.toZ:Nat):Int)).neg),(.slice a60(ofZ((Int.gcd n.toZ d.toZ:Nat):Int)).mag.length c61)])o77 ag26 rfl rfl rfl⟨s323,RC.same C327,rfl⟩)
 obtain⟨a346,c347,e345,h348⟩:=RV.int d337;obtain⟨f349,rfl⟩:=mixK k326(aC e335(aC e336(aC e345(aC e338(aC e339 aN)))));refine O rfl(J2z C327 Jov rfl rfl(Va C327.bd(a:=d)(Jk h6)(b:=(ofZ((Int.gcd n.toZ d.toZ:Nat):Int)))(Jk h62)(by omega)(by first | omega | (rw [Zx];omega))(by rw [Kg];have h7:=hne;omega))?_);intro v350 w351 C352 s353 h354;replace o31:=(o31.spn S328).spn s353;simp only [Jq,Y0] at h354;obtain⟨a355,c356,rfl,h357⟩:=RV.int h354;refine O rfl(St.build(cs:=[(.bool(ofZ(n.toZ / ((Int.gcd n.toZ d.toZ:Nat):Int))).neg),(.slice a346(ofZ(n.toZ / ((Int.gcd n.toZ d.toZ:Nat):Int))).mag.length c347),(.bool(ofZ(d.toZ / ((Int.gcd n.toZ d.toZ:Nat):Int))).neg),(.slice a355(ofZ(d.toZ / ((Int.gcd n.toZ d.toZ:Nat):Int))).mag.length c356)])rfl(by kernel_rfl)(On(J24(cs':=[(.bool(ofZ(n.toZ / ((Int.gcd n.toZ d.toZ:Nat):Int))).neg),(.slice a346(ofZ(n.toZ / ((Int.gcd n.toZ d.toZ:Nat):Int))).mag.length c347),(.bool(ofZ(d.toZ / ((Int.gcd n.toZ d.toZ:Nat):Int))).neg),(.slice a355(ofZ(d.toZ / ((Int.gcd n.toZ d.toZ:Nat):Int))).mag.length c356)])C352 o31 io28 rfl rfl rfl rfl rfl rfl ?_)));intro w358 C359 s360 o361;replace h348:=(h348.sp s353).sp s360;replace h357:=h357.sp s360;refine Nl(W.ret(Je rfl(resV.c o361 rfl ag28 rfl)(Ret.intro ?_ C359.below)));exact J3i(a:=(⟨⟨(ofZ(n.toZ / ((Int.gcd n.toZ d.toZ:Nat):Int))).neg,(ofZ(n.toZ / ((Int.gcd n.toZ d.toZ:Nat):Int))).mag⟩,⟨(ofZ(d.toZ / ((Int.gcd n.toZ d.toZ:Nat):Int))).neg,(ofZ(d.toZ / ((Int.gcd n.toZ d.toZ:Nat):Int))).mag⟩⟩:GRat))((Ze h348 h357).tr(Tr.weak C359.base))(z4(Jq3(n:=n.toZ)hc39 hc83))
set_option maxHeartbeats 1000000 in
theorem Jdt {X:Nat→Prop}{w:World}(hX:∀ b,X b→b < w.heap.size){v0:Value}{a:GRat}(r0:RV Z8 X w v0 a)(hln:a.num.mag.length≤536870912)(hld:a.den.mag.length≤536870912):Calls Tryz.prog 42 #[v0] w(Ret w fun v w'=>RV Z8 X w' v(ofQ a.q)):=by
 obtain⟨a1,c2,a3,c4,rfl,h5,h6⟩:=J3p r0;have C:=J26 hX;have sn:=r0.rat_small.1;have sd:=r0.rat_small.2;refine J25(args:=[(.agg #[(.bool a.num.neg),(.slice a1 a.num.mag.length c2),(.bool a.den.neg),(.slice a3 a.den.mag.length c4)])])Tryz.func42 rfl rfl(Nat.le_of_ble_eq_true rfl)(Rg(O rfl(J3b C rfl ?_)));intro g7 w8 x9 y10 lt11 C12 s13 o14;refine O rfl(J27 C12 io28 rfl ?_);intro g15 w16 x17 y18 lt19 C20 s21 o22;replace h5:=(h5.sp s13).sp s21;replace h6:=(h6.sp s13).sp s21;replace o14:=o14.spn s21;refine Nl(Rg(O rfl(St.fieldAddr Kx rfl(O rfl(J23(vs:=[(.bool a.num.neg),(.slice a1 a.num.mag.length c2)])o14 ag26 rfl rfl rfl(O rfl(St.fieldAddr Yh rfl(O rfl(J23(vs:=[(.bool a.den.neg),(.slice a3 a.den.mag.length c4)])o14 ag26 rfl rfl rfl(O rfl(J2z C20 cb77 rfl rfl(Jk7 C20.bd(n:=a.num)(Jk h5)(d:=a.den)(Jk h6)(by omega)(by omega))?_)))))))))));intro v24 w25 C26 s27 h28;replace o22:=o22.spn s27;obtain⟨a29,c30,a31,c32,rfl,h33,h34⟩:=J3p h28;refine On(J24(cs':=[(.bool(ofQ(Rat.divInt a.num.toZ a.den.toZ)).num.neg),(.slice a29(ofQ(Rat.divInt a.num.toZ a.den.toZ)).num.mag.length c30),(.bool(ofQ(Rat.divInt a.num.toZ a.den.toZ)).den.neg),(.slice a31(ofQ(Rat.divInt a.num.toZ a.den.toZ)).den.mag.length c32)])C26 o22 io28 rfl rfl rfl rfl rfl rfl ?_);intro w35 C36 s37 o38;replace h33:=h33.sp s37;replace h34:=h34.sp s37;refine Nl(W.ret(Je rfl(resV.c o38 rfl ag28 rfl)(Ret.intro ?_ C36.below)));exact J3i(a:=(ofQ(Rat.divInt a.num.toZ a.den.toZ)))((Ze h33 h34).tr(Tr.weak C36.base))rfl
set_option maxHeartbeats 1000000 in
theorem Jxj {X:Nat→Prop}{w:World}(hX:∀ b,X b→b < w.heap.size){v0:Value}{a:GRat}(r0:RV Z8 X w v0 a)(hln:a.num.mag.length≤536870912)(hld:a.den.mag.length≤536870912):Calls Tryz.prog 102 #[v0] w(Ret w fun v w'=>RV Z8 X w' v(ofQ(-a.q))):=by
 obtain⟨a1,c2,a3,c4,rfl,h5,h6⟩:=J3p r0;have C:=J26 hX;have sn:=r0.rat_small.1;have sd:=r0.rat_small.2;have hN:=J1 sn;refine J25(args:=[(.agg #[(.bool a.num.neg),(.slice a1 a.num.mag.length c2),(.bool a.den.neg),(.slice a3 a.den.mag.length c4)])])Tryz.func102 rfl rfl(Nat.le_of_ble_eq_true rfl)(Rg(O rfl(J3b C rfl ?_)));intro g7 w8 x9 y10 lt11 C12 s13 o14;replace h5:=h5.sp s13;replace h6:=h6.sp s13;refine O rfl(J27 C12 io28 rfl ?_);intro g15 w16 x17 y18 lt19 C20 s21 o22;refine Nl(W.seq(J3f J9 5 [[],[0],[1],[],[3]] C20 [fx(.pointer(some⟨g7,0,none⟩)),fx(.agg #[(.bool a.num.neg),(.slice a1 a.num.mag.length c2)]),fr Jv(ofZ(-a.num.toZ)),fx(.pointer(some⟨g7,2,none⟩)),fx(.agg #[(.bool a.den.neg),(.slice a3 a.den.mag.length c4)])](by kernel_rfl)⟨sx,sx,sr,sx,sx,trivial⟩fun f33 s34 w35⟨C38,S39⟩k37=>?_))
 replace h5:=(h5.sp s21).sp S39;replace h6:=(h6.sp s21).sp S39;replace o14:=(o14.spn s21).spn S39;have k37:Keep [3,4,5,6,7] _ f33:=k37;refine⟨⟨fun _=>?_,fun⟨e42,_⟩=>?_,fun⟨e43,_⟩=>?_,fun _=>?_,fun⟨e44,_⟩=>?_,trivial⟩,fun⟨e45,e46,d47,e48,e49,_⟩=>?_⟩
 ·exact Ja k37 aN fun _=>OpSt.op(St.fieldAddr Kx rfl⟨s34,RC.same C38,rfl⟩)
 ·exact Ja k37(aC e42 aN)fun _=>OpSt.op(J23(vs:=[(.bool a.num.neg),(.slice a1 a.num.mag.length c2)])o14 ag26 rfl rfl rfl⟨s34,RC.same C38,rfl⟩)
 ·refine Ja k37(aC e43 aN)fun _=>OpSt.op(J2z C38 Jsh rfl rfl(Js6 C38.bd(a:=a.num)(Jk h5)(by omega))?_);intro v50 w51 C52 s53 h54;exact⟨s34,⟨C52,s53⟩,h54⟩
 ·exact Ja k37 aN fun _=>OpSt.op(St.fieldAddr Yh rfl⟨s34,RC.same C38,rfl⟩)
 ·exact Ja k37(aC e44 aN)fun _=>OpSt.op(J23(vs:=[(.bool a.den.neg),(.slice a3 a.den.mag.length c4)])o14 ag26 rfl rfl rfl⟨s34,RC.same C38,rfl⟩)
 obtain⟨a56,c57,e55,h58⟩:=RV.int d47;obtain⟨f59,rfl⟩:=mixK k37(aC e45(aC e46(aC e55(aC e48(aC e49 aN)))));refine O rfl(J2z C38 cb77 rfl rfl(Jk7 C38.bd(n:=(ofZ(-a.num.toZ)))(Jk h58)(d:=a.den)(Jk h6)(by rw [Zx];omega)(by omega))?_);intro v60 w61 C62 s63 h64;replace o22:=(o22.spn S39).spn s63;simp only [Jq,Y0] at h64;obtain⟨a65,c66,a67,c68,rfl,h69,h70⟩:=J3p h64;refine On(J24(cs':=[(.bool(ofQ(Rat.divInt(-a.num.toZ)a.den.toZ)).num.neg),(.slice a65(ofQ(Rat.divInt(-a.num.toZ)a.den.toZ)).num.mag.length c66),(.bool(ofQ(Rat.divInt(-a.num.toZ)a.den.toZ)).den.neg),(.slice a67(ofQ(Rat.divInt(-a.num.toZ)a.den.toZ)).den.mag.length c68)])C62 o22 io28 rfl rfl rfl rfl rfl rfl ?_);intro w71 C72 s73 o74;replace h69:=h69.sp s73;replace h70:=h70.sp s73;refine Nl(W.ret(Je rfl(resV.c o74 rfl ag28 rfl)(Ret.intro ?_ C72.below)));exact J3i(a:=(ofQ(Rat.divInt(-a.num.toZ)a.den.toZ)))((Ze h69 h70).tr(Tr.weak C72.base))(congrArg ofQ(Jzd a))
set_option maxHeartbeats 1000000 in
theorem Jep {X:Nat→Prop}{w:World}(hX:∀ b,X b→b < w.heap.size){v0:Value}{a:GRat}(r0:RV Z8 X w v0 a)(hln:a.num.mag.length≤1099511627776)(hld:a.den.mag.length≤1099511627776):Calls Tryz.prog 82 #[v0] w(Ret w fun v w'=>v=(.int .i64(Jby a.q))):=by
 obtain⟨a1,c2,a3,c4,rfl,h5,h6⟩:=J3p r0;have C:=J26 hX;have sn:=r0.rat_small.1;have sd:=r0.rat_small.2;have hb1:=kd a.num.toZ a.den.toZ;refine J25(args:=[(.agg #[(.bool a.num.neg),(.slice a1 a.num.mag.length c2),(.bool a.den.neg),(.slice a3 a.den.mag.length c4)])])Tryz.func82 rfl rfl(Nat.le_of_ble_eq_true rfl)(Rg(O rfl(J3b C rfl ?_)));intro g7 w8 x9 y10 lt11 C12 s13 o14;refine Oa(Nl(W.seq(J3f J9 5 [[],[0],[1],[],[3]] C12 [fx(.pointer(some⟨g7,0,none⟩)),fx(.agg #[(.bool a.num.neg),(.slice a1 a.num.mag.length c2)]),fx(.int .i64 a.num.toZ.sign),fx(.pointer(some⟨g7,2,none⟩)),fx(.agg #[(.bool a.den.neg),(.slice a3 a.den.mag.length c4)])](by kernel_rfl)⟨sx,sx,sx,sx,sx,trivial⟩fun f21 s22 w23⟨C26,S27⟩k25=>?_)))
 replace h5:=(h5.sp s13).sp S27;replace h6:=(h6.sp s13).sp S27;replace o14:=o14.spn S27;have k25:Keep [3,4,5,6,7] _ f21:=k25;refine⟨⟨fun _=>?_,fun⟨e29,_⟩=>?_,fun⟨e30,_⟩=>?_,fun _=>?_,fun⟨e31,_⟩=>?_,trivial⟩,fun⟨e32,e33,e34,e35,e36,_⟩=>?_⟩
 ·exact Ja k25 aN fun _=>OpSt.op(St.fieldAddr Kx rfl⟨s22,RC.same C26,rfl⟩)
 ·exact Ja k25(aC e29 aN)fun _=>OpSt.op(J23(vs:=[(.bool a.num.neg),(.slice a1 a.num.mag.length c2)])o14 ag26 rfl rfl rfl⟨s22,RC.same C26,rfl⟩)
 ·refine Ja k25(aC e30 aN)fun _=>OpSt.op(J2z C26 Jo7 rfl rfl(Jf9 C26.bd(a:=a.num)(Jk h5)(by omega))?_);intro v37 w38 C39 s40 h41;exact⟨s22,⟨C39,s40⟩,h41⟩
 ·exact Ja k25 aN fun _=>OpSt.op(St.fieldAddr Yh rfl⟨s22,RC.same C26,rfl⟩)
 ·exact Ja k25(aC e31 aN)fun _=>OpSt.op(J23(vs:=[(.bool a.den.neg),(.slice a3 a.den.mag.length c4)])o14 ag26 rfl rfl rfl⟨s22,RC.same C26,rfl⟩)
 obtain⟨f42,rfl⟩:=mixK k25(aC e32(aC e33(aC e34(aC e35(aC e36 aN)))));refine O rfl(J2z C26 Jo7 rfl rfl(Jf9 C26.bd(a:=a.den)(Jk h6)(by omega))?_);intro v43 w44 C45 s46 h47;subst h47;exact O rfl(St.mul(z:=(a.num.toZ.sign * a.den.toZ.sign))rfl rfl(IntWalk.i64_in _(by omega))(Oa(Nl(W.ret(Je rfl(resV.t rfl)(Ret.intro(congrArg(Value.int _)(Jqg a))C45.below))))))
set_option maxHeartbeats 2000000 in
theorem Jxf {X:Nat→Prop}{w:World}(hX:∀ b,X b→b < w.heap.size){v0:Value}{a:GRat}(r0:RV Z8 X w v0 a){v1:Value}{b:GRat}(r1:RV Z8 X w v1 b)(hln:a.num.mag.length≤100000000)(hld:a.den.mag.length≤100000000)(hlm:b.num.mag.length≤100000000)(hle:b.den.mag.length≤100000000):Calls Tryz.prog 125 #[v0,v1] w(Ret w fun v w'=>RV Z8 X w' v(ofQ(a.q+b.q))):=by
 obtain⟨a1,c2,a3,c4,rfl,h5,h6⟩:=J3p r0;obtain⟨a7,c8,a9,c10,rfl,h11,h12⟩:=J3p r1;have C:=J26 hX;have sn:=r0.rat_small.1;have sd:=r0.rat_small.2;have sm:=r1.rat_small.1;have se:=r1.rat_small.2;have hN:=Ku sn;have hD:=Kw sd;have hM:=Ku sm;have hE:=Kw se;have m1:=Xv(x:=(ofQ a.q).num.toZ)(y:=(ofQ b.q).den.toZ);have m2:=Xv(x:=(ofQ b.q).num.toZ)(y:=(ofQ a.q).den.toZ);have m3:=Xv(x:=(ofQ a.q).den.toZ)(y:=(ofQ b.q).den.toZ);have m4:=Jci(x:=(ofQ a.q).num.toZ * (ofQ b.q).den.toZ)(y:=(ofQ b.q).num.toZ * (ofQ a.q).den.toZ);simp only [Jcs,Jdj] at m1 m2 m3;refine J25(args:=[(.agg #[(.bool a.num.neg),(.slice a1 a.num.mag.length c2),(.bool a.den.neg),(.slice a3 a.den.mag.length c4)]),(.agg #[(.bool b.num.neg),(.slice a7 b.num.mag.length c8),(.bool b.den.neg),(.slice a9 b.den.mag.length c10)])])Tryz.func125 rfl rfl(Nat.le_of_ble_eq_true rfl)(Rg(O rfl(J3b C rfl ?_)));intro g13 w14 x15 y16 lt17 C18 s19 o20;refine O rfl(J3b C18 rfl ?_);intro g21 w22 x23 y24 lt25 C26 s27 o28;replace h5:=(h5.sp s19).sp s27;replace h6:=(h6.sp s19).sp s27;replace h11:=(h11.sp s19).sp s27;replace h12:=(h12.sp s19).sp s27;refine O rfl(J27 C26 io28 rfl ?_);intro g30 w31 x32 y33 lt34 C35 s36 o37;replace o20:=(o20.spn s27).spn s36;replace o28:=o28.spn s36;refine Nl(W.seq(J4b J9 6 [[],[0],[],[2],[],[]]((x32,y33),Jik)(RL X w) [fx(.agg #[(.bool a.num.neg),(.slice a1 a.num.mag.length c2),(.bool a.den.neg),(.slice a3 a.den.mag.length c4)]),fun(s:GhL)(v:Value)(w':World)=>RV Z8 s.1.1 w' v(ofQ a.q),fx(.agg #[(.bool b.num.neg),(.slice a7 b.num.mag.length c8),(.bool b.den.neg),(.slice a9 b.den.mag.length c10)]),fun(s:GhL)(v:Value)(w':World)=>RV Z8 s.1.1 w' v(ofQ b.q),fun(s:GhL)(v:Value)(w':World)=>∃ g':Nat,v= .pointer(some⟨g',0,none⟩)∧Own w s.1.2 w' g' [(.bool false),(.slice none 0 0),(.bool false),(.slice none 0 0)] 28∧w31.heap.size≤g'∧s.2 g'=some 4,fun(s:GhL)(v:Value)(w':World)=>∃ g':Nat,v= .pointer(some⟨g',0,none⟩)∧Own w s.1.2 w' g' [(.bool false),(.slice none 0 0),(.bool false),(.slice none 0 0)] 28∧w31.heap.size≤g'∧s.2 g'=some 5](by kernel_rfl)(J4k C35)RL.trans⟨sx,(fun _ _ _ _ _ h r=>RV.tr h r.rc.sp.tx),sx,(fun _ _ _ _ _ h r=>RV.tr h r.rc.sp.tx),(fun _ _ _ _ _⟨g,e,o,l,q⟩r=>⟨g,e,o.spn r.rc.sp,l,r.ext _ _ q⟩),(fun _ _ _ _ _⟨g,e,o,l,q⟩r=>⟨g,e,o.spn r.rc.sp,l,r.ext _ _ q⟩),trivial⟩fun f86 s87 w88 r89 k90=>?_))
 have C91:=r89.rc.cx;have S92:=r89.rc.sp;have lt93:=o20.blk.lt;have lt94:=o28.blk.lt;have lt95:=o37.blk.lt;have hszS92:=S92.tx.size;replace h5:=(h5.sp s36).sp S92;replace h6:=(h6.sp s36).sp S92;replace h11:=(h11.sp s36).sp S92;replace h12:=(h12.sp s36).sp S92;replace o20:=o20.spn S92;replace o28:=o28.spn S92;have k90:Keep [7,8,9,10,5,6] _ f86:=k90;refine⟨⟨fun _=>?_,fun⟨e96,_⟩=>?_,fun _=>?_,fun⟨e97,_⟩=>?_,fun _=>?_,fun _=>?_,trivial⟩,fun⟨e98,d99,e100,d101,d102,d103,_⟩=>?_⟩
 ·exact Ja k90 aN fun _=>OpSt.op(J23(vs:=[(.bool a.num.neg),(.slice a1 a.num.mag.length c2),(.bool a.den.neg),(.slice a3 a.den.mag.length c4)])o20 ag28 rfl rfl rfl⟨s87,RL.same C91,rfl⟩)
 ·refine Ja k90(aC e96 aN)fun _=>OpSt.op(J2z C91 cb42 rfl rfl(Jdt C91.bd(a:=a)(Ze h5 h6)(by omega)(by omega))?_);intro v104 w105 C106 s107 h108;exact⟨s87,J38⟨C106,s107⟩,h108⟩
 ·exact Ja k90 aN fun _=>OpSt.op(J23(vs:=[(.bool b.num.neg),(.slice a7 b.num.mag.length c8),(.bool b.den.neg),(.slice a9 b.den.mag.length c10)])o28 ag28 rfl rfl rfl⟨s87,RL.same C91,rfl⟩)
 ·refine Ja k90(aC e97 aN)fun _=>OpSt.op(J2z C91 cb42 rfl rfl(Jdt C91.bd(a:=b)(Ze h11 h12)(by omega)(by omega))?_);intro v109 w110 C111 s112 h113;exact⟨s87,J38⟨C111,s112⟩,h113⟩
 ·refine Ja k90 aN fun _=>OpSt.op(J27 C91 io28 rfl ?_);intro g114 w115 x116 y117 lt118 C119 s120 o121;exact⟨((x116,y117),lab s87.2 g114 4),RL.new(r89.bd fun _ _ h=>by cases h)⟨C119,s120⟩(Nat.le_of_not_lt fun hh=>lt118 _ hh rfl)o121.blk.lt,g114,rfl,o121,Nat.le_of_not_lt fun hh=>lt118 _(Nat.lt_of_lt_of_le hh hszS92)rfl,Qz _ _ _⟩
 ·refine Ja k90 aN fun _=>OpSt.op(J27 C91 io28 rfl ?_);intro g125 w126 x127 y128 lt129 C130 s131 o132;exact⟨((x127,y128),lab s87.2 g125 5),RL.new(r89.bd fun _ _ h=>by cases h)⟨C130,s131⟩(Nat.le_of_not_lt fun hh=>lt129 _ hh rfl)o132.blk.lt,g125,rfl,o132,Nat.le_of_not_lt fun hh=>lt129 _(Nat.lt_of_lt_of_le hh hszS92)rfl,Qz _ _ _⟩
 obtain⟨a137,c138,a139,c140,e136,h141,h142⟩:=J3p d99;obtain⟨a144,c145,a146,c147,e143,h148,h149⟩:=J3p d101;obtain⟨g151,e150,o152,l153,q154⟩:=d102;have n155:g13≠g151:=Nat.ne_of_lt(Nat.lt_of_lt_of_le lt93 l153);have n156:g21≠g151:=Nat.ne_of_lt(Nat.lt_of_lt_of_le lt94 l153);have n157:g30≠g151:=Nat.ne_of_lt(Nat.lt_of_lt_of_le lt95 l153);obtain⟨g160,e159,o161,l162,q163⟩:=d103;have n164:g13≠g160:=Nat.ne_of_lt(Nat.lt_of_lt_of_le lt93 l162);have n165:g21≠g160:=Nat.ne_of_lt(Nat.lt_of_lt_of_le lt94 l162);have n166:g30≠g160:=Nat.ne_of_lt(Nat.lt_of_lt_of_le lt95 l162);have n167:g151≠g160:=Jg6 q154 q163 rfl;obtain⟨f169,rfl⟩:=mixK k90(aC e98(aC e136(aC e100(aC e143(aC e150(aC e159 aN))))));refine On(J24(cs':=[(.bool(ofQ a.q).num.neg),(.slice a137(ofQ a.q).num.mag.length c138),(.bool(ofQ a.q).den.neg),(.slice a139(ofQ a.q).den.mag.length c140)])C91 o152 io28 rfl rfl rfl rfl rfl rfl ?_);intro w170 C171 s172 o173;replace h141:=h141.sp s172;replace h142:=h142.sp s172;replace h148:=h148.sp s172;replace h149:=h149.sp s172;replace o37:=(o37.spn S92).spo s172 n157;replace o161:=o161.spo s172(Ne.symm n167);refine On(J24(cs':=[(.bool(ofQ b.q).num.neg),(.slice a144(ofQ b.q).num.mag.length c145),(.bool(ofQ b.q).den.neg),(.slice a146(ofQ b.q).den.mag.length c147)])C171 o161 io28 rfl rfl rfl rfl rfl rfl ?_);intro w174 C175 s176 o177;refine Nl(W.seq(J3f J9 15 [[],[0],[],[2],[1,3],[],[5],[],[7],[6,8],[4,9],[],[11],[],[13]] C175 [fx(.pointer(some⟨g151,0,none⟩)),fx(.agg #[(.bool(ofQ a.q).num.neg),(.slice a137(ofQ a.q).num.mag.length c138)]),fx(.pointer(some⟨g160,2,none⟩)),fx(.agg #[(.bool(ofQ b.q).den.neg),(.slice a146(ofQ b.q).den.mag.length c147)]),fr Jv(ofZ((ofQ a.q).num.toZ * (ofQ b.q).den.toZ)),fx(.pointer(some⟨g160,0,none⟩)),fx(.agg #[(.bool(ofQ b.q).num.neg),(.slice a144(ofQ b.q).num.mag.length c145)]),fx(.pointer(some⟨g151,2,none⟩)),fx(.agg #[(.bool(ofQ a.q).den.neg),(.slice a139(ofQ a.q).den.mag.length c140)]),fr Jv(ofZ((ofQ b.q).num.toZ * (ofQ a.q).den.toZ)),fr Jv(ofZ(((ofQ a.q).num.toZ * (ofQ b.q).den.toZ)+((ofQ b.q).num.toZ * (ofQ a.q).den.toZ))),fx(.pointer(some⟨g151,2,none⟩)),fx(.agg #[(.bool(ofQ a.q).den.neg),(.slice a139(ofQ a.q).den.mag.length c140)]),fx(.pointer(some⟨g160,2,none⟩)),fx(.agg #[(.bool(ofQ b.q).den.neg),(.slice a146(ofQ b.q).den.mag.length c147)])](by kernel_rfl)⟨sx,sx,sx,sx,sr,sx,sx,sx,sx,sr,sr,sx,sx,sx,sx,trivial⟩fun f203 s204 w205⟨C208,S209⟩k207=>?_))
 replace h141:=(h141.sp s176).sp S209;replace h142:=(h142.sp s176).sp S209;replace h148:=(h148.sp s176).sp S209;replace h149:=(h149.sp s176).sp S209;replace o37:=(o37.spo s176 n166).spn S209;replace o173:=(o173.spo s176 n167).spn S209;replace o177:=o177.spn S209;have k207:Keep [11,12,13,14,15,16,17,18,19,20,21,22,23,24,25] _ f203:=k207;refine⟨⟨fun _=>?_,fun⟨e215,_⟩=>?_,fun _=>?_,fun⟨e216,_⟩=>?_,fun⟨e217,e218,_⟩=>?_,fun _=>?_,fun⟨e219,_⟩=>?_,fun _=>?_,fun⟨e220,_⟩=>?_,fun⟨e221,e222,_⟩=>?_,fun⟨d223,d224,_⟩=>?_,fun _=>?_,fun⟨e225,_⟩=>?_,fun _=>?_,fun⟨e226,_⟩=>?_,trivial⟩,fun⟨e227,e228,e229,e230,d231,e232,e233,e234,e235,d236,d237,e238,e239,e240,e241,_⟩=>?_⟩
 ·exact Ja k207 aN fun _=>OpSt.op(St.fieldAddr Kx rfl⟨s204,RC.same C208,rfl⟩)
 ·exact Ja k207(aC e215 aN)fun _=>OpSt.op(J23(vs:=[(.bool(ofQ a.q).num.neg),(.slice a137(ofQ a.q).num.mag.length c138)])o173 ag26 rfl rfl rfl⟨s204,RC.same C208,rfl⟩)
 ·exact Ja k207 aN fun _=>OpSt.op(St.fieldAddr Yh rfl⟨s204,RC.same C208,rfl⟩)
 ·exact Ja k207(aC e216 aN)fun _=>OpSt.op(J23(vs:=[(.bool(ofQ b.q).den.neg),(.slice a146(ofQ b.q).den.mag.length c147)])o177 ag26 rfl rfl rfl⟨s204,RC.same C208,rfl⟩)
 ·refine Ja k207(aC e217(aC e218 aN))fun _=>OpSt.op(J2z C208 Jtt rfl rfl(Juk C208.bd(a:=(ofQ a.q).num)(Jk h141)(b:=(ofQ b.q).den)(Jk h149)(by omega)(by omega))?_);intro v242 w243 C244 s245 h246;exact⟨s204,⟨C244,s245⟩,h246⟩
 ·exact Ja k207 aN fun _=>OpSt.op(St.fieldAddr Kx rfl⟨s204,RC.same C208,rfl⟩)
 ·exact Ja k207(aC e219 aN)fun _=>OpSt.op(J23(vs:=[(.bool(ofQ b.q).num.neg),(.slice a144(ofQ b.q).num.mag.length c145)])o177 ag26 rfl rfl rfl⟨s204,RC.same C208,rfl⟩)
 ·exact Ja k207 aN fun _=>OpSt.op(St.fieldAddr Yh rfl⟨s204,RC.same C208,rfl⟩)
 ·exact Ja k207(aC e220 aN)fun _=>OpSt.op(J23(vs:=[(.bool(ofQ a.q).den.neg),(.slice a139(ofQ a.q).den.mag.length c140)])o173 ag26 rfl rfl rfl⟨s204,RC.same C208,rfl⟩)
 ·refine Ja k207(aC e221(aC e222 aN))fun _=>OpSt.op(J2z C208 Jtt rfl rfl(Juk C208.bd(a:=(ofQ b.q).num)(Jk h148)(b:=(ofQ a.q).den)(Jk h142)(by omega)(by omega))?_);intro v247 w248 C249 s250 h251;exact⟨s204,⟨C249,s250⟩,h251⟩
 ·obtain⟨a253,c254,e252,h255⟩:=RV.int d223;obtain⟨a257,c258,e256,h259⟩:=RV.int d224;refine Ja k207(aC e252(aC e256 aN))fun _=>OpSt.op(J2z C208 Jxd rfl rfl(Jwv C208.bd(a:=(ofZ((ofQ a.q).num.toZ * (ofQ b.q).den.toZ)))(Jk h255)(b:=(ofZ((ofQ b.q).num.toZ * (ofQ a.q).den.toZ)))(Jk h259)(by omega)(by omega))?_);intro v260 w261 C262 s263 h264;simp only [Jq,Y0] at h264;exact⟨s204,⟨C262,s263⟩,h264⟩
 ·exact Ja k207 aN fun _=>OpSt.op(St.fieldAddr Yh rfl⟨s204,RC.same C208,rfl⟩)
 ·exact Ja k207(aC e225 aN)fun _=>OpSt.op(J23(vs:=[(.bool(ofQ a.q).den.neg),(.slice a139(ofQ a.q).den.mag.length c140)])o173 ag26 rfl rfl rfl⟨s204,RC.same C208,rfl⟩)
 ·exact Ja k207 aN fun _=>OpSt.op(St.fieldAddr Yh rfl⟨s204,RC.same C208,rfl⟩)
 ·exact Ja k207(aC e226 aN)fun _=>OpSt.op(J23(vs:=[(.bool(ofQ b.q).den.neg),(.slice a146(ofQ b.q).den.mag.length c147)])o177 ag26 rfl rfl rfl⟨s204,RC.same C208,rfl⟩)
 obtain⟨a266,c267,e265,h268⟩:=RV.int d231;obtain⟨a270,c271,e269,h272⟩:=RV.int d236;obtain⟨a274,c275,e273,h276⟩:=RV.int d237;obtain⟨f277,rfl⟩:=mixK k207(aC e227(aC e228(aC e229(aC e230(aC e265(aC e232(aC e233(aC e234(aC e235(aC e269(aC e273(aC e238(aC e239(aC e240(aC e241 aN)))))))))))))));refine O rfl(J2z C208 Jtt rfl rfl(Juk C208.bd(a:=(ofQ a.q).den)(Jk h142)(b:=(ofQ b.q).den)(Jk h149)(by omega)(by omega))?_);intro v278 w279 C280 s281 h282;replace h276:=h276.sp s281;obtain⟨a283,c284,rfl,h285⟩:=RV.int h282;refine O rfl(J2z C280 cb77 rfl rfl(Jk7 C280.bd(n:=(ofZ(((ofQ a.q).num.toZ * (ofQ b.q).den.toZ)+((ofQ b.q).num.toZ * (ofQ a.q).den.toZ))))(Jk h276)(d:=(ofZ((ofQ a.q).den.toZ * (ofQ b.q).den.toZ)))(Jk h285)(by omega)(by omega))?_);intro v286 w287 C288 s289 h290;replace o37:=(o37.spn s281).spn s289;simp only [Jq,Y0] at h290;obtain⟨a291,c292,a293,c294,rfl,h295,h296⟩:=J3p h290;refine On(J24(cs':=[(.bool(ofQ(Rat.divInt(((ofQ a.q).num.toZ * (ofQ b.q).den.toZ)+((ofQ b.q).num.toZ * (ofQ a.q).den.toZ))((ofQ a.q).den.toZ * (ofQ b.q).den.toZ))).num.neg),(.slice a291(ofQ(Rat.divInt(((ofQ a.q).num.toZ * (ofQ b.q).den.toZ)+((ofQ b.q).num.toZ * (ofQ a.q).den.toZ))((ofQ a.q).den.toZ * (ofQ b.q).den.toZ))).num.mag.length c292),(.bool(ofQ(Rat.divInt(((ofQ a.q).num.toZ * (ofQ b.q).den.toZ)+((ofQ b.q).num.toZ * (ofQ a.q).den.toZ))((ofQ a.q).den.toZ * (ofQ b.q).den.toZ))).den.neg),(.slice a293(ofQ(Rat.divInt(((ofQ a.q).num.toZ * (ofQ b.q).den.toZ)+((ofQ b.q).num.toZ * (ofQ a.q).den.toZ))((ofQ a.q).den.toZ * (ofQ b.q).den.toZ))).den.mag.length c294)])C288 o37 io28 rfl rfl rfl rfl rfl rfl ?_);intro w297 C298 s299 o300;replace h295:=h295.sp s299;replace h296:=h296.sp s299;refine Nl(W.ret(Je rfl(resV.c o300 rfl ag28 rfl)(Ret.intro ?_ C298.below)));exact J3i(a:=(ofQ(Rat.divInt(((ofQ a.q).num.toZ * (ofQ b.q).den.toZ)+((ofQ b.q).num.toZ * (ofQ a.q).den.toZ))((ofQ a.q).den.toZ * (ofQ b.q).den.toZ))))((Ze h295 h296).tr(Tr.weak C298.base))(Jxt _ _)
set_option maxHeartbeats 1000000 in
theorem Jw2 {X:Nat→Prop}{w:World}(hX:∀ b,X b→b < w.heap.size){v0:Value}{a:GRat}(r0:RV Z8 X w v0 a){v1:Value}{b:GRat}(r1:RV Z8 X w v1 b)(hln:a.num.mag.length≤50000000)(hld:a.den.mag.length≤50000000)(hlm:b.num.mag.length≤50000000)(hle:b.den.mag.length≤50000000):Calls Tryz.prog 88 #[v0,v1] w(Ret w fun v w'=>RV Z8 X w' v(ofQ(a.q - b.q))):=by
 obtain⟨a1,c2,a3,c4,rfl,h5,h6⟩:=J3p r0;obtain⟨a7,c8,a9,c10,rfl,h11,h12⟩:=J3p r1;have C:=J26 hX;have sn:=r0.rat_small.1;have sd:=r0.rat_small.2;have sm:=r1.rat_small.1;have se:=r1.rat_small.2;have q1:=Ku sm;have q2:=Kw se;rw [← X7] at q1;rw [← X5] at q2;refine J25(args:=[(.agg #[(.bool a.num.neg),(.slice a1 a.num.mag.length c2),(.bool a.den.neg),(.slice a3 a.den.mag.length c4)]),(.agg #[(.bool b.num.neg),(.slice a7 b.num.mag.length c8),(.bool b.den.neg),(.slice a9 b.den.mag.length c10)])])Tryz.func88 rfl rfl(Nat.le_of_ble_eq_true rfl)(Rg(O rfl(J3b C rfl ?_)));intro g13 w14 x15 y16 lt17 C18 s19 o20;refine O rfl(J3b C18 rfl ?_);intro g21 w22 x23 y24 lt25 C26 s27 o28;replace h5:=(h5.sp s19).sp s27;replace h6:=(h6.sp s19).sp s27;replace h11:=(h11.sp s19).sp s27;replace h12:=(h12.sp s19).sp s27;replace o20:=o20.spn s27;refine O rfl(J27 C26 io28 rfl ?_);intro g30 w31 x32 y33 lt34 C35 s36 o37;refine Nl(W.seq(J3f J9 3 [[],[],[1]] C35 [fx(.agg #[(.bool a.num.neg),(.slice a1 a.num.mag.length c2),(.bool a.den.neg),(.slice a3 a.den.mag.length c4)]),fx(.agg #[(.bool b.num.neg),(.slice a7 b.num.mag.length c8),(.bool b.den.neg),(.slice a9 b.den.mag.length c10)]),fr Z8(ofQ(-b.q))](by kernel_rfl)⟨sx,sx,sr,trivial⟩fun f52 s53 w54⟨C57,S58⟩k56=>?_))
 replace h5:=(h5.sp s36).sp S58;replace h6:=(h6.sp s36).sp S58;replace h11:=(h11.sp s36).sp S58;replace h12:=(h12.sp s36).sp S58;replace o20:=(o20.spn s36).spn S58;replace o28:=(o28.spn s36).spn S58;have k56:Keep [5,6,7] _ f52:=k56;refine⟨⟨fun _=>?_,fun _=>?_,fun⟨e62,_⟩=>?_,trivial⟩,fun⟨e63,e64,d65,_⟩=>?_⟩
 ·exact Ja k56 aN fun _=>OpSt.op(J23(vs:=[(.bool a.num.neg),(.slice a1 a.num.mag.length c2),(.bool a.den.neg),(.slice a3 a.den.mag.length c4)])o20 ag28 rfl rfl rfl⟨s53,RC.same C57,rfl⟩)
 ·exact Ja k56 aN fun _=>OpSt.op(J23(vs:=[(.bool b.num.neg),(.slice a7 b.num.mag.length c8),(.bool b.den.neg),(.slice a9 b.den.mag.length c10)])o28 ag28 rfl rfl rfl⟨s53,RC.same C57,rfl⟩)
 ·refine Ja k56(aC e62 aN)fun _=>OpSt.op(J2z C57 cb102 rfl rfl(Jxj C57.bd(a:=b)(Ze h11 h12)(by omega)(by omega))?_);intro v66 w67 C68 s69 h70;exact⟨s53,⟨C68,s69⟩,h70⟩
 obtain⟨a72,c73,a74,c75,e71,h76,h77⟩:=J3p d65;obtain⟨f78,rfl⟩:=mixK k56(aC e63(aC e64(aC e71 aN)));refine O rfl(J2z C57 cb125 rfl rfl(Jxf C57.bd(a:=a)(Ze h5 h6)(b:=(ofQ(-b.q)))(Ze h76 h77)(by omega)(by omega)(by omega)(by omega))?_);intro v79 w80 C81 s82 h83;replace o37:=(o37.spn S58).spn s82;simp only [Jq,Y0] at h83;obtain⟨a84,c85,a86,c87,rfl,h88,h89⟩:=J3p h83;refine On(J24(cs':=[(.bool(ofQ(a.q+(-b.q))).num.neg),(.slice a84(ofQ(a.q+(-b.q))).num.mag.length c85),(.bool(ofQ(a.q+(-b.q))).den.neg),(.slice a86(ofQ(a.q+(-b.q))).den.mag.length c87)])C81 o37 io28 rfl rfl rfl rfl rfl rfl ?_);intro w90 C91 s92 o93;replace h88:=h88.sp s92;replace h89:=h89.sp s92;refine Nl(W.ret(Je rfl(resV.c o93 rfl ag28 rfl)(Ret.intro ?_ C91.below)));exact J3i(a:=(ofQ(a.q+(-b.q))))((Ze h88 h89).tr(Tr.weak C91.base))((by rw [Rat.sub_eq_add_neg]))
set_option maxHeartbeats 1000000 in
theorem Jwu {X:Nat→Prop}{w:World}(hX:∀ b,X b→b < w.heap.size){v0:Value}{a:GRat}(r0:RV Z8 X w v0 a){v1:Value}{b:GRat}(r1:RV Z8 X w v1 b)(hln:a.num.mag.length≤10000000)(hld:a.den.mag.length≤10000000)(hlm:b.num.mag.length≤10000000)(hle:b.den.mag.length≤10000000):Calls Tryz.prog 57 #[v0,v1] w(Ret w fun v w'=>v=(.int .i64(qcmp a.q b.q))):=by
 obtain⟨a1,c2,a3,c4,rfl,h5,h6⟩:=J3p r0;obtain⟨a7,c8,a9,c10,rfl,h11,h12⟩:=J3p r1;have C:=J26 hX;have sn:=r0.rat_small.1;have sd:=r0.rat_small.2;have sm:=r1.rat_small.1;have se:=r1.rat_small.2;have q1:=Ku sm;have q2:=Kw se;rw [← X7] at q1;rw [← X5] at q2;have q3:=Ku sn;have q4:=Kw sd;have q5:=yw a.q(-b.q);have q6:=qw a.q(-b.q);rw [← Rat.sub_eq_add_neg] at q5 q6;refine J25(args:=[(.agg #[(.bool a.num.neg),(.slice a1 a.num.mag.length c2),(.bool a.den.neg),(.slice a3 a.den.mag.length c4)]),(.agg #[(.bool b.num.neg),(.slice a7 b.num.mag.length c8),(.bool b.den.neg),(.slice a9 b.den.mag.length c10)])])Tryz.func57 rfl rfl(Nat.le_of_ble_eq_true rfl)(Rg(O rfl(J3b C rfl ?_)));intro g13 w14 x15 y16 lt17 C18 s19 o20;refine O rfl(J3b C18 rfl ?_);intro g21 w22 x23 y24 lt25 C26 s27 o28;replace h5:=(h5.sp s19).sp s27;replace h6:=(h6.sp s19).sp s27;replace h11:=(h11.sp s19).sp s27;replace h12:=(h12.sp s19).sp s27;replace o20:=o20.spn s27;refine Oa(Nl(Rg(O rfl(J23(vs:=[(.bool a.num.neg),(.slice a1 a.num.mag.length c2),(.bool a.den.neg),(.slice a3 a.den.mag.length c4)])o20 ag28 rfl rfl rfl(O rfl(J23(vs:=[(.bool b.num.neg),(.slice a7 b.num.mag.length c8),(.bool b.den.neg),(.slice a9 b.den.mag.length c10)])o28 ag28 rfl rfl rfl(O rfl(J2z C26 cb88 rfl rfl(Jw2 C26.bd(a:=a)(Ze h5 h6)(b:=b)(Ze h11 h12)(by omega)(by omega)(by omega)(by omega))?_))))))));intro v30 w31 C32 s33 h34;obtain⟨a35,c36,a37,c38,rfl,h39,h40⟩:=J3p h34;refine O rfl(J2z C32 cb82 rfl rfl(Jep C32.bd(a:=(ofQ(a.q - b.q)))(Ze h39 h40)(by omega)(by omega))?_);intro v41 w42 C43 s44 h45;simp only [Jq,Y0] at h45;subst h45;refine Oa(Nl(W.ret(Je rfl(resV.t rfl)(Ret.intro ?_ C43.below))))
 rfl
end Go.Wf
namespace Go.Wf
set_option linter.unusedVariables false
set_option linter.unusedSimpArgs false
open Go
def sgnB(b:Bool):Int:=if b=true then -1 else 1
theorem sgn_t {b:Bool}(h:b=true):(-1:Int)=sgnB b:=by rw [h];rfl
theorem sgn_f {b:Bool}(h:b=false):(1:Int)=sgnB b:=by rw [h];rfl
theorem Jqu {a b:Int}(h:a < b):(-1:Int)=cmpI a b:=by unfold cmpI;rw [if_pos h]
theorem Jp2 {a b:Int}(h:¬ a < b)(h2:b < a):(1:Int)=cmpI a b:=by unfold cmpI;rw [if_neg h,if_neg(by omega)]
theorem Jzk {a b:Int}(h:¬ a < b)(h2:¬ b < a):(0:Int)=cmpI a b:=by unfold cmpI;rw [if_neg h,if_pos(by omega)]
theorem Vv {a b:Int}(h:a=b):cmpI a b=0:=by unfold cmpI;rw [if_neg(by omega),if_pos h]
theorem qd {a b:Int}(h:cmpI a b=0):a=b:=by unfold cmpI at h;split at h <;> (try split at h) <;> omega
theorem Ja1 {a b:Int}(h:¬ a=b):sgnB(decide(a < b))=cmpI a b:=by
 unfold cmpI sgnB
 by_cases h2:a < b
 ·simp [h2]
 ·simp [h2,h]
section
variable {α:Type}{f:α→α→Int}{a b:List α}{d:α}{i:Nat}
theorem Jct(ha:i < a.length)(hb:i < b.length):cmpL f(a.drop i)(b.drop i)=ocmp(f(a.getD i d)(b.getD i d))(cmpL f(a.drop(i+1))(b.drop(i+1))):=by
 rw [List.drop_eq_getElem_cons ha,List.drop_eq_getElem_cons hb,cmpL];rw [List.getD_eq_getElem?_getD,List.getD_eq_getElem?_getD,List.getElem?_eq_getElem ha,List.getElem?_eq_getElem hb];rfl
theorem jq(hv:cmpL f a b=cmpL f(a.drop i)(b.drop i))(ha:i < a.length)(hb:i < b.length)(h:f(a.getD i d)(b.getD i d)=0):cmpL f a b=cmpL f(a.drop(i+1))(b.drop(i+1)):=by
 rw [hv,Jct(d:=d)ha hb,h,ocmp,if_pos rfl]
theorem V8(hv:cmpL f a b=cmpL f(a.drop i)(b.drop i))(ha:i < a.length)(hb:i < b.length)(h:¬ f(a.getD i d)(b.getD i d)=0):f(a.getD i d)(b.getD i d)=cmpL f a b:=by
 rw [hv,Jct(d:=d)ha hb,ocmp,if_neg h]
theorem Jef(hv:cmpL f a b=cmpL f(a.drop i)(b.drop i))(ha:a.length≤i)(hb:i < b.length):(-1:Int)=cmpL f a b:=by
 rw [hv,List.drop_of_length_le ha,List.drop_eq_getElem_cons hb];rfl
theorem Jey(hv:cmpL f a b=cmpL f(a.drop i)(b.drop i))(ha:i < a.length)(hb:b.length≤i):(1:Int)=cmpL f a b:=by
 rw [hv,List.drop_of_length_le hb,List.drop_eq_getElem_cons ha];rfl
theorem Xl(hv:cmpL f a b=cmpL f(a.drop i)(b.drop i))(ha:a.length≤i)(hb:b.length≤i):(0:Int)=cmpL f a b:=by
 rw [hv,List.drop_of_length_le hb,List.drop_of_length_le ha];rfl
theorem zz(hv:cmpL f a b=cmpL f(a.drop i)(b.drop i))(ha:i≤a.length)(hb:i≤b.length)(h:¬ (i < a.length∧i < b.length))(hn:¬ a.length=b.length):sgnB(decide((a.length:Int) < (b.length:Int)))=cmpL f a b:=by
 unfold sgnB
 by_cases h2:a.length < b.length
 ·rw [if_pos(decide_eq_true(by omega))];exact Jef hv(by omega)(by omega)
 ·rw [if_neg(by simp;omega)];exact Jey hv(by omega)(by omega)
end
theorem Jgy:∀ a b:List GExpr,Jdi a b=cmpL cmpE a b
 | [],[]=>by rw [Jdi];rfl
 | [],_::_=>by rw [Jdi];rfl
 | _::_,[]=>by rw [Jdi];rfl
 | a::l,b::m=>by rw [Jdi,Jgy l m];rfl
theorem kw(a b:UInt8)(l m:List UInt8):Op.bytesLess(a::l)(b::m)=(decide(a < b) || (decide(a=b) && Op.bytesLess l m)):=by
 rw [Op.bytesLess]
 by_cases h:a < b
 ·simp [h]
 ·by_cases h2:a=b
  ·simp [h2]
  ·simp [h,h2]
theorem Jbd:∀ {a b:List UInt8},¬ a=b→sgnB(Op.bytesLess a b)=cmpL cmpB a b
 | [],[],h=>absurd rfl h
 | [],_::_,_=>rfl
 | _::_,[],_=>rfl
 | a::l,b::m,h=>by
  rw [kw,cmpL,ocmp]
  by_cases h1:a=b
  ·subst h1;have h2:cmpB a a=0:=Vv rfl;rw [if_pos h2,← Jbd(show ¬ l=m from fun e=>h(by rw [e]))];simp
  ·have h3:¬ ((a.toNat:Nat):Int)=((b.toNat:Nat):Int):=fun e=>h1(UInt8.toNat_inj.1(by omega));have h2:¬ cmpB a b=0:=fun e=>h3(qd e);rw [if_neg h2];unfold cmpB;rw [← Ja1 h3]
   congr 1
   simp [h1,UInt8.lt_iff_toNat_lt]
theorem Qo {a b:List UInt8}(h:a=b):cmpL cmpB a b=0:=by
 subst h
 induction a with
 | nil=>rfl
 | cons x l ih=>rw [cmpL,ih,ocmp,if_pos(show cmpB x x=0 from Vv rfl)]
mutual
def Zm:GExpr→Bool
 | .mk _ n c s l=>decide(n.length≤80) && decide(c.num.mag.length≤8) && decide(c.den.mag.length≤8) && decide(s.length≤100) && qr l
def qr:List GExpr→Bool
 | []=>true
 | a::l=>Zm a && qr l
end
theorem qy:∀ {l:List GExpr},qr l=true↔∀ i,i < l.length→Zm(l.getD i default)=true
 | []=>by simp [qr]
 | a::l=>by
  rw [qr,Bool.and_eq_true,qy(l:=l)]
  constructor
  ·rintro⟨h1,h2⟩i hi
   cases i with
   | zero=>exact h1
   | succ i=>exact h2 i(by simp at hi;omega)
  ·intro h;exact⟨h 0(by simp),fun i hi=>h(i+1)(by simp;omega)⟩
theorem Yk {a:GExpr}:Zm a=true↔a.n.length≤80∧a.c.num.mag.length≤8∧a.c.den.mag.length≤8∧a.name.length≤100∧∀ i,i < a.args.length→Zm(a.args.getD i default)=true:=by
 cases a
 rw [Zm,← qy];simp only [Bool.and_eq_true,decide_eq_true_eq,GExpr.n,GExpr.c,GExpr.name,GExpr.args,and_assoc]
theorem Xa {a:GExpr}{i:Nat}(h:Zm a=true)(hi:i < a.args.length):Zm(a.args.getD i default)=true:=(Yk.1 h).2.2.2.2 i hi
theorem Qq {a:GExpr}{i:Nat}(hi:i < a.args.length):SizeOf.sizeOf(a.args.getD i default) < SizeOf.sizeOf a:=by
 have h1:a.args.getD i default ∈ a.args:=by
  rw [List.getD_eq_getElem?_getD,List.getElem?_eq_getElem hi];exact List.getElem_mem hi
 have h2:=List.sizeOf_lt_of_mem h1;refine Nat.lt_trans h2 ?_
 cases a
 simp only [GExpr.args];simp;omega
theorem z5 {a:GExpr}(h:(80:Int) < (a.n.length:Nat)∨(8:Int) < (a.c.num.mag.length:Nat)∨(8:Int) < (a.c.den.mag.length:Nat)∨(100:Int) < (a.name.length:Nat)):false=Zm a:=by
 refine(Bool.eq_false_iff.2 fun hp=>?_).symm
 have:=Yk.1 hp
 omega
theorem Jfg {a:GExpr}{i:Nat}(hi:i < a.args.length)(h:Zm(a.args.getD i default)=false):false=Zm a:=by
 refine(Bool.eq_false_iff.2 fun hp=>?_).symm
 rw [Xa hp hi] at h;cases h
theorem Jli {a:GExpr}{i:Nat}(h1:¬ (80:Int) < (a.n.length:Nat))(h2:¬ (8:Int) < (a.c.num.mag.length:Nat))(h3:¬ (8:Int) < (a.c.den.mag.length:Nat))(h4:¬ (100:Int) < (a.name.length:Nat))(hi:¬ (i:Int) < (a.args.length:Nat))
  (h:∀ j,j < i→Zm(a.args.getD j default)=true):true=Zm a:=
 (Yk.2⟨by omega,by omega,by omega,by omega,fun j hj=>h j(by omega)⟩).symm
theorem Ks {p:Nat→Prop}{i:Nat}(h:∀ j,j < i→p j)(hi:p i):∀ j,j < i+1→p j:=fun j hj=>by
 rcases Nat.lt_or_ge j i with h2 | h2
 ·exact h j h2
 ·rw [show j=i by omega];exact hi
section
variable {a b:GExpr}
theorem Jjl(h:¬ a.op=b.op):cmpI a.op b.op=cmpE a b:=by
 rw [qk,ocmp,if_neg fun e=>h(qd e)]
theorem Jzl(h:a.op=b.op)(h2:¬ cmpL cmpI a.n b.n=0):cmpL cmpI a.n b.n=cmpE a b:=by
 rw [qk,ocmp,if_pos(Vv h),ocmp,if_neg h2]
theorem Jxk(h:a.op=b.op)(h2:cmpL cmpI a.n b.n=0)(h3:¬ qcmp a.c.q b.c.q=0):qcmp a.c.q b.c.q=cmpE a b:=by
 rw [qk,ocmp,if_pos(Vv h),ocmp,if_pos h2,ocmp,if_neg h3]
theorem Jz9(h:a.op=b.op)(h2:cmpL cmpI a.n b.n=0)(h3:qcmp a.c.q b.c.q=0)(h4:¬ cmpL cmpB a.name b.name=0):cmpL cmpB a.name b.name=cmpE a b:=by
 rw [qk,ocmp,if_pos(Vv h),ocmp,if_pos h2,ocmp,if_pos h3,ocmp,if_neg h4]
theorem Jhz(h:a.op=b.op)(h2:cmpL cmpI a.n b.n=0)(h3:qcmp a.c.q b.c.q=0)(h4:cmpL cmpB a.name b.name=0):cmpL cmpE a.args b.args=cmpE a b:=by
 rw [qk,ocmp,if_pos(Vv h),ocmp,if_pos h2,ocmp,if_pos h3,ocmp,if_pos h4,Jgy]
theorem Jrw {s t:List UInt8}(h:¬ s=t):¬ cmpL cmpB s t=0:=by
 rw [← Jbd h];unfold sgnB;split <;> omega
end
end Go.Wf
namespace Go.Wf
open Go Go.Proofs Go.RowKit
set_option maxRecDepth 100000
set_option linter.unusedVariables false
set_option linter.unusedSimpArgs false
set_option maxHeartbeats 1000000 in
theorem Jeb {X:Nat→Prop}{w:World}(hX:∀ b,X b→b < w.heap.size){b:Bool}  :Calls Tryz.prog 55 #[(.bool b)] w(Ret w fun v w'=>v=(.int .i64(sgnB b))):=by
 have C:=J26 hX;refine J25(args:=[(.bool b)])Tryz.func55 rfl rfl(Nat.le_of_ble_eq_true rfl)(Rg(Oa(Nl(Rh(Om(Nl(W.cond rfl(fun hb1=>?_)(fun hb1=>?_))))))))
 ·exact Rg(Oa(Nl(W.ret(Je rfl(resV.t rfl)(Ret.intro(congrArg(Value.int _)(sgn_t hb1))C.below)))))
 exact W.skip(Rg(Oa(Nl(W.ret(Je rfl(resV.t rfl)(Ret.intro(congrArg(Value.int _)(sgn_f hb1))C.below))))))
set_option maxHeartbeats 1000000 in
theorem Jul {X:Nat→Prop}{w:World}(hX:∀ b,X b→b < w.heap.size){v0:Value}{a:List Int}(r0:RS Zq X w v0 a){v1:Value}{b:List Int}(r1:RS Zq X w v1 b)  :Calls Tryz.prog 56 #[v0,v1] w(Ret w fun v w'=>v=(.int .i64(cmpL cmpI a b))):=by
 obtain⟨a1,c2,rfl,_,_⟩:=r0.len;obtain⟨a3,c4,rfl,_,_⟩:=r1.len;have C:=J26 hX;have hml:maxLen=9223372036854775807:=rfl;refine J25(args:=[(.slice a1 a.length c2),(.slice a3 b.length c4)])Tryz.func56 rfl rfl(Nat.le_of_ble_eq_true rfl)(Rg(Oa(Nl(Rh(Oa(Nl(W.block(J3g(fun μ f v=>∃ (x y:Nat→Prop)(i:Nat),Cx X w x y v∧f 0=(.slice a1 a.length c2)∧f 1=(.slice a3 b.length c4)∧f 5=(.int .i64((i:Nat):Int))∧RS Zq x v(.slice a1 a.length c2)a∧RS Zq x v(.slice a3 b.length c4)b∧i≤a.length∧i≤b.length∧cmpL cmpI a b=cmpL cmpI(a.drop i)(b.drop i)∧μ=(a.length - i))_⟨_,_,0,C,rfl,rfl,rfl,r0,r1,(Nat.zero_le _),(Nat.zero_le _),rfl,rfl⟩ ?_))))))));rintro m14 f5 w6⟨x7,y8,i,C9,e10,e11,e12,r0,r1,hi,hib,hv,hmu13⟩;obtain⟨f15,rfl⟩:=rebK(aC e10(aC e11(aC e12 aN)));clear e10 e11 e12;refine Rh(Om(Om(O rfl(St.len sl23 rfl(O rfl(J3d rfl rfl(fun hc16=>?_)(fun hc16=>?_)))))))
 ·refine Om(Og rfl rfl(St.move(Og rfl rfl(St.move(Og rfl rfl(St.len sl23 rfl(Og rfl rfl(J3d rfl rfl(fun hc17=>?_)(fun hc17=>?_)))))))))
  ·refine OT(Nl(J20 rfl(W.skip(W.seq(W.block(W.seq(J3f J9 8 [[],[],[0,1],[2],[],[],[4,5],[6]] C9 [fx(.slice a1 a.length c2),fx(.int .i64((i:Nat):Int)),fE Zq(a.getD i 0),fx(.int .i64(a.getD i 0)),fx(.slice a3 b.length c4),fx(.int .i64((i:Nat):Int)),fE Zq(b.getD i 0),fx(.int .i64(b.getD i 0))](by kernel_rfl)⟨sx,sx,sE,sx,sx,sx,sE,sx,trivial⟩fun f29 s30 w31⟨C34,S35⟩k33=>?_)))))))
   replace r0:=r0.sp S35;replace r1:=r1.sp S35;have k33:Keep [18,19,20,21,22,23,24,25] _ f29:=k33;refine⟨⟨fun _=>?_,fun _=>?_,fun⟨e36,e37,_⟩=>?_,fun⟨d38,_⟩=>?_,fun _=>?_,fun _=>?_,fun⟨e39,e40,_⟩=>?_,fun⟨d41,_⟩=>?_,trivial⟩,fun⟨e42,e43,d44,e45,e46,e47,d48,e49,_⟩=>?_⟩
   ·exact Ja k33 aN fun _=>OpSt.op(St.move⟨s30,RC.same C34,rfl⟩)
   ·exact Ja k33 aN fun _=>OpSt.op(St.move⟨s30,RC.same C34,rfl⟩)
   ·refine Ja k33(aC e36(aC e37 aN))fun _=>OpSt.op(J3e(j:=i)(u:=(a.getD i 0))r0 sl23 io3 rfl rfl rfl(Jg(by omega))?_);intro b50 o51 cs52 e53;obtain⟨rfl,bd54⟩:cs52=_∧_:=e53.rd;exact⟨s30,RC.same C34,⟨_,_,_,rfl,e53⟩⟩
   ·obtain⟨b56,o57,cs58,e55,e59⟩:=d38;obtain⟨rfl,bd60⟩:cs58=_∧_:=e59.rd;exact Ja k33(aC e55 aN)fun _=>OpSt.op(J3a pl3 rfl(e59.cell 0 _ rfl)⟨s30,RC.same C34,rfl⟩)
   ·exact Ja k33 aN fun _=>OpSt.op(St.move⟨s30,RC.same C34,rfl⟩)
   ·exact Ja k33 aN fun _=>OpSt.op(St.move⟨s30,RC.same C34,rfl⟩)
   ·refine Ja k33(aC e39(aC e40 aN))fun _=>OpSt.op(J3e(j:=i)(u:=(b.getD i 0))r1 sl23 io3 rfl rfl rfl(Jg(by omega))?_);intro b61 o62 cs63 e64;obtain⟨rfl,bd65⟩:cs63=_∧_:=e64.rd;exact⟨s30,RC.same C34,⟨_,_,_,rfl,e64⟩⟩
   ·obtain⟨b67,o68,cs69,e66,e70⟩:=d41;obtain⟨rfl,bd71⟩:cs69=_∧_:=e70.rd;exact Ja k33(aC e66 aN)fun _=>OpSt.op(J3a pl3 rfl(e70.cell 0 _ rfl)⟨s30,RC.same C34,rfl⟩)
   obtain⟨b73,o74,cs75,e72,e76⟩:=d44;obtain⟨rfl,bd77⟩:cs75=_∧_:=e76.rd;obtain⟨b79,o80,cs81,e78,e82⟩:=d48;obtain⟨rfl,bd83⟩:cs81=_∧_:=e82.rd;obtain⟨f84,rfl⟩:=mixK k33(aC e42(aC e43(aC e72(aC e45(aC e46(aC e47(aC e78(aC e49 aN))))))));refine O rfl(J3h rfl rfl(fun hc85=>?_)(fun hc85=>?_))
   ·refine Nl(J20 rfl(W.seq(J3f J9 8 [[],[],[0,1],[2],[],[],[4,5],[6]] C34 [fx(.slice a1 a.length c2),fx(.int .i64((i:Nat):Int)),fE Zq(a.getD i 0),fx(.int .i64(a.getD i 0)),fx(.slice a3 b.length c4),fx(.int .i64((i:Nat):Int)),fE Zq(b.getD i 0),fx(.int .i64(b.getD i 0))](by kernel_rfl)⟨sx,sx,sE,sx,sx,sx,sE,sx,trivial⟩fun f97 s98 w99⟨C102,S103⟩k101=>?_)))
    replace r0:=r0.sp S103;replace r1:=r1.sp S103;have k101:Keep [27,28,29,30,31,32,33,34] _ f97:=k101;refine⟨⟨fun _=>?_,fun _=>?_,fun⟨e104,e105,_⟩=>?_,fun⟨d106,_⟩=>?_,fun _=>?_,fun _=>?_,fun⟨e107,e108,_⟩=>?_,fun⟨d109,_⟩=>?_,trivial⟩,fun⟨e110,e111,d112,e113,e114,e115,d116,e117,_⟩=>?_⟩
    ·exact Ja k101 aN fun _=>OpSt.op(St.move⟨s98,RC.same C102,rfl⟩)
    ·exact Ja k101 aN fun _=>OpSt.op(St.move⟨s98,RC.same C102,rfl⟩)
    ·refine Ja k101(aC e104(aC e105 aN))fun _=>OpSt.op(J3e(j:=i)(u:=(a.getD i 0))r0 sl23 io3 rfl rfl rfl(Jg(by omega))?_);intro b118 o119 cs120 e121;obtain⟨rfl,bd122⟩:cs120=_∧_:=e121.rd;exact⟨s98,RC.same C102,⟨_,_,_,rfl,e121⟩⟩
    ·obtain⟨b124,o125,cs126,e123,e127⟩:=d106;obtain⟨rfl,bd128⟩:cs126=_∧_:=e127.rd;exact Ja k101(aC e123 aN)fun _=>OpSt.op(J3a pl3 rfl(e127.cell 0 _ rfl)⟨s98,RC.same C102,rfl⟩)
    ·exact Ja k101 aN fun _=>OpSt.op(St.move⟨s98,RC.same C102,rfl⟩)
    ·exact Ja k101 aN fun _=>OpSt.op(St.move⟨s98,RC.same C102,rfl⟩)
    ·refine Ja k101(aC e107(aC e108 aN))fun _=>OpSt.op(J3e(j:=i)(u:=(b.getD i 0))r1 sl23 io3 rfl rfl rfl(Jg(by omega))?_);intro b129 o130 cs131 e132;obtain⟨rfl,bd133⟩:cs131=_∧_:=e132.rd;exact⟨s98,RC.same C102,⟨_,_,_,rfl,e132⟩⟩
    ·obtain⟨b135,o136,cs137,e134,e138⟩:=d109;obtain⟨rfl,bd139⟩:cs137=_∧_:=e138.rd;exact Ja k101(aC e134 aN)fun _=>OpSt.op(J3a pl3 rfl(e138.cell 0 _ rfl)⟨s98,RC.same C102,rfl⟩)
    obtain⟨b141,o142,cs143,e140,e144⟩:=d112;obtain⟨rfl,bd145⟩:cs143=_∧_:=e144.rd;obtain⟨b147,o148,cs149,e146,e150⟩:=d116;obtain⟨rfl,bd151⟩:cs149=_∧_:=e150.rd;obtain⟨f152,rfl⟩:=mixK k101(aC e110(aC e111(aC e140(aC e113(aC e114(aC e115(aC e146(aC e117 aN))))))));refine O rfl(St.lss rfl rfl rfl(O rfl(J2z C102 cb55 rfl rfl(Jeb C102.bd)?_)));intro v153 w154 C155 s156 h157;subst h157;exact Oa(Nl(W.ret(Je rfl(resV.t rfl)(Ret.intro(congrArg(Value.int _)(Eq.trans(Ja1 hc85)(V8(d:=0)hv(by omega)(by omega)fun e=>hc85(qd e))))C155.below))))
   refine Nl(J22 rfl(W.skip(W.region(Om(O rfl(St.add rfl rfl(Jd(a:=i)(b:=1)(by omega))(Oa(Nl(⟨_,(by omega),_,_,(i+1),C34,rfl,rfl,rfl,r0,r1,(by omega),(by omega),(jq(d:=0)hv(by omega)(by omega)(Vv hc85)),rfl⟩)))))))))
  refine OT(Nl(J22 rfl(W.exit(Rh(Om(O rfl(St.len sl23 rfl(Om(O rfl(St.len sl23 rfl(O rfl(J3h rfl rfl(fun hc158=>?_)(fun hc158=>?_)))))))))))))
  ·refine Nl(J20 rfl(Rg(Om(O rfl(St.len sl23 rfl(Om(O rfl(St.len sl23 rfl(O rfl(St.lss rfl rfl rfl(O rfl(J2z C9 cb55 rfl rfl(Jeb C9.bd)?_))))))))))));intro v159 w160 C161 s162 h163;subst h163;exact Oa(Nl(W.ret(Je rfl(resV.t rfl)(Ret.intro(congrArg(Value.int _)(zz hv hi hib(by omega)(by omega)))C161.below))))
  exact Nl(J22 rfl(W.skip(Rg(Oa(Nl(W.ret(Je rfl(resV.t rfl)(Ret.intro(congrArg(Value.int _)(Xl hv(by omega)(by omega)))C9.below))))))))
 refine Om(Ox rfl rfl rfl(Ox rfl rfl rfl(Ox rfl rfl rfl(Ox rfl rfl rfl(OF(Nl(J22 rfl(W.exit(Rh(Om(O rfl(St.len sl23 rfl(Om(O rfl(St.len sl23 rfl(O rfl(J3h rfl rfl(fun hc164=>?_)(fun hc164=>?_))))))))))))))))))
 ·refine Nl(J20 rfl(Rg(Om(O rfl(St.len sl23 rfl(Om(O rfl(St.len sl23 rfl(O rfl(St.lss rfl rfl rfl(O rfl(J2z C9 cb55 rfl rfl(Jeb C9.bd)?_))))))))))));intro v165 w166 C167 s168 h169;subst h169;exact Oa(Nl(W.ret(Je rfl(resV.t rfl)(Ret.intro(congrArg(Value.int _)(zz hv hi hib(by omega)(by omega)))C167.below))))
 exact Nl(J22 rfl(W.skip(Rg(Oa(Nl(W.ret(Je rfl(resV.t rfl)(Ret.intro(congrArg(Value.int _)(Xl hv(by omega)(by omega)))C9.below))))))))
set_option maxHeartbeats 4000000 in
theorem Jmv(N:Nat):∀ {X:Nat→Prop}{w:World}(hX:∀ b,X b→b < w.heap.size){v0:Value}{a:GExpr}(r0:RV Jm X w v0 a){v1:Value}{b:GExpr}(r1:RV Jm X w v1 b)(pa:Zm a=true)(pb:Zm b=true)(hN:(SizeOf.sizeOf a) < N),Calls Tryz.prog 24 #[v0,v1] w(Ret w fun v w'=>v=(.int .i64(cmpE a b))):=by
 induction N with
 | zero=>intro X w hX v0 a r0 v1 b r1 pa pb hN;exact absurd hN(Nat.not_lt_zero _)
 | succ N ih=>
  intro X w hX v0 a r0 v1 b r1 pa pb hN;obtain⟨a1,c2,a3,c4,a5,c6,a7,c8,rfl,h9⟩:=J3l r0;have h10:=h9.n;have h11:=h9.num;have h12:=h9.den;have h13:=h9.args;obtain⟨a14,c15,a16,c17,a18,c19,a20,c21,rfl,h22⟩:=J3l r1;have h23:=h22.n;have h24:=h22.num;have h25:=h22.den;have h26:=h22.args;have C:=J26 hX;have hal:=r0.args_max;obtain⟨pa1,pa2,pa3,pa4,pa5⟩:=Yk.1 pa;obtain⟨pb1,pb2,pb3,pb4,pb5⟩:=Yk.1 pb;refine J25(args:=[(.agg #[(.int .i64 a.op),(.slice a1 a.n.length c2),(.bool a.c.num.neg),(.slice a3 a.c.num.mag.length c4),(.bool a.c.den.neg),(.slice a5 a.c.den.mag.length c6),(str a.name),(.slice a7 a.args.length c8)]),(.agg #[(.int .i64 b.op),(.slice a14 b.n.length c15),(.bool b.c.num.neg),(.slice a16 b.c.num.mag.length c17),(.bool b.c.den.neg),(.slice a18 b.c.den.mag.length c19),(str b.name),(.slice a20 b.args.length c21)])])Tryz.func24 rfl rfl(Nat.le_of_ble_eq_true rfl)?_;refine Rg(O rfl(J3b C rfl ?_));intro g27 w28 x29 y30 lt31 C32 s33 o34;replace h11:=h11.sp s33;replace h12:=h12.sp s33;replace h24:=h24.sp s33;replace h25:=h25.sp s33;refine O rfl(J3b C32 rfl ?_);intro g35 w36 x37 y38 lt39 C40 s41 o42;replace h10:=(h10.sp s33).sp s41;replace h13:=(h13.sp s33).sp s41;replace h23:=(h23.sp s33).sp s41;replace h26:=(h26.sp s33).sp s41;replace o34:=o34.spn s41;refine Oa(Nl(Rh(O rfl(St.fieldAddr Zh rfl(O rfl(J21 o34 pl3 rfl rfl(O rfl(St.fieldAddr Zh rfl(O rfl(J21 o42 pl3 rfl rfl(O rfl(J3h rfl rfl(fun hc44=>?_)(fun hc44=>?_)))))))))))))
  ·refine Nl(J20 rfl(Rg(O rfl(St.fieldAddr Zh rfl(O rfl(J21 o34 pl3 rfl rfl(O rfl(St.fieldAddr Zh rfl(O rfl(J21 o42 pl3 rfl rfl(O rfl(St.lss rfl rfl rfl(O rfl(J2z C40 cb55 rfl rfl(Jeb C40.bd)?_))))))))))))));intro v45 w46 C47 s48 h49;subst h49;exact Oa(Nl(W.ret(Je rfl(resV.t rfl)(Ret.intro(congrArg(Value.int _)(Eq.trans(Ja1 hc44)(Jjl hc44)))C47.below))))
  refine Nl(J22 rfl(W.skip(Rh(O rfl(St.fieldAddr Kk rfl(O rfl(J21 o34 pl23 rfl rfl(O rfl(St.fieldAddr Kk rfl(O rfl(J21 o42 pl23 rfl rfl(O rfl(J2z C40 cb56 rfl rfl(Jul C40.bd h10 h23)?_)))))))))))));intro v50 w51 C52 s53 h54;replace h11:=(h11.sp s41).sp s53;replace h12:=(h12.sp s41).sp s53;replace h24:=(h24.sp s41).sp s53;replace h25:=(h25.sp s41).sp s53;replace o34:=o34.spn s53;replace o42:=o42.spn s53;subst h54;refine Oa(Nl(Rg(Om(O rfl(J3h rfl rfl(fun hc55=>?_)(fun hc55=>?_))))))
  ·exact Nl(J20 rfl(Rg(Om(Oa(Nl(W.ret(Je rfl(resV.t rfl)(Ret.intro(congrArg(Value.int _)(Jzl(by omega)hc55))C52.below))))))))
  refine Nl(J22 rfl(W.skip(Rh(O rfl(St.fieldAddr Ke rfl(O rfl(J23(vs:=[(.bool a.c.num.neg),(.slice a3 a.c.num.mag.length c4),(.bool a.c.den.neg),(.slice a5 a.c.den.mag.length c6)])o34 ag28 rfl rfl rfl(O rfl(St.fieldAddr Ke rfl(O rfl(J23(vs:=[(.bool b.c.num.neg),(.slice a16 b.c.num.mag.length c17),(.bool b.c.den.neg),(.slice a18 b.c.den.mag.length c19)])o42 ag28 rfl rfl rfl ?_)))))))))));refine O rfl(J2z C52 cb57 rfl rfl(Jwu C52.bd(a:=a.c)(Ze h11 h12)(b:=b.c)(Ze h24 h25)(by omega)(by omega)(by omega)(by omega))?_);intro v56 w57 C58 s59 h60;replace h10:=(h10.sp s53).sp s59;replace h11:=h11.sp s59;replace h12:=h12.sp s59;replace h13:=(h13.sp s53).sp s59;replace h23:=(h23.sp s53).sp s59;replace h24:=h24.sp s59;replace h25:=h25.sp s59;replace h26:=(h26.sp s53).sp s59;replace o34:=o34.spn s59;replace o42:=o42.spn s59;subst h60;refine Oa(Nl(Rg(Om(O rfl(J3h rfl rfl(fun hc61=>?_)(fun hc61=>?_))))))
  ·exact Nl(J20 rfl(Rg(Om(Oa(Nl(W.ret(Je rfl(resV.t rfl)(Ret.intro(congrArg(Value.int _)(Jxk(by omega)(by omega)hc61))C58.below))))))))
  refine Nl(J22 rfl(W.skip(Rh(O rfl(St.fieldAddr K1 rfl(O rfl(J21 o34 pl9 rfl rfl(O rfl(St.fieldAddr K1 rfl(O rfl(J21 o42 pl9 rfl rfl(O rfl(J39 rfl rfl(fun hc62=>?_)(fun hc62=>?_))))))))))))))
  ·refine Nl(J20 rfl(Rg(O rfl(St.fieldAddr K1 rfl(O rfl(J21 o34 pl9 rfl rfl(O rfl(St.fieldAddr K1 rfl(O rfl(J21 o42 pl9 rfl rfl(O rfl(J41 rfl rfl rfl(O rfl(J2z C58 cb55 rfl rfl(Jeb C58.bd)?_))))))))))))));intro v63 w64 C65 s66 h67;subst h67;exact Oa(Nl(W.ret(Je rfl(resV.t rfl)(Ret.intro(congrArg(Value.int _)(Eq.trans(Jbd hc62)(Jz9(by omega)(by omega)(by omega)(Jrw hc62))))C65.below))))
  refine Nl(J22 rfl(W.skip(Rh(Oa(Nl(W.block(J3g(fun μ f v=>∃ (x y:Nat→Prop)(i:Nat),Cx X w x y v∧f 2=(.pointer(some⟨g27,0,none⟩))∧f 3=(.pointer(some⟨g35,0,none⟩))∧f 7=(.int .i64((i:Nat):Int))∧RS Zq x v(.slice a1 a.n.length c2)a.n∧RS Jc x v(.slice a3 a.c.num.mag.length c4)a.c.num.mag∧RS Jc x v(.slice a5 a.c.den.mag.length c6)a.c.den.mag∧RS Jm x v(.slice a7 a.args.length c8)a.args∧RS Zq x v(.slice a14 b.n.length c15)b.n∧RS Jc x v(.slice a16 b.c.num.mag.length c17)b.c.num.mag∧RS Jc x v(.slice a18 b.c.den.mag.length c19)b.c.den.mag∧RS Jm x v(.slice a20 b.args.length c21)b.args∧Own w y v g27 [(.int .i64 a.op),(.slice a1 a.n.length c2),(.bool a.c.num.neg),(.slice a3 a.c.num.mag.length c4),(.bool a.c.den.neg),(.slice a5 a.c.den.mag.length c6),(str a.name),(.slice a7 a.args.length c8)] 31∧Own w y v g35 [(.int .i64 b.op),(.slice a14 b.n.length c15),(.bool b.c.num.neg),(.slice a16 b.c.num.mag.length c17),(.bool b.c.den.neg),(.slice a18 b.c.den.mag.length c19),(str b.name),(.slice a20 b.args.length c21)] 31∧i≤a.args.length∧i≤b.args.length∧cmpL cmpE a.args b.args=cmpL cmpE(a.args.drop i)(b.args.drop i)∧μ=(a.args.length - i))_⟨_,_,0,C58,rfl,rfl,rfl,h10,h11,h12,h13,h23,h24,h25,h26,o34,o42,(Nat.zero_le _),(Nat.zero_le _),rfl,rfl⟩ ?_)))))));rintro m79 f68 w69⟨x70,y71,i,C72,e73,e74,e75,h10,h11,h12,h13,h23,h24,h25,h26,o76,o77,hi,hib,hv,hmu78⟩;obtain⟨f80,rfl⟩:=rebK(aC e73(aC e74(aC e75 aN)));clear e73 e74 e75;refine Rh(Om(O rfl(St.fieldAddr Zl rfl(O rfl(J21 o76 pl29 rfl rfl(O rfl(St.len sl29 rfl(O rfl(J3d rfl rfl(fun hc81=>?_)(fun hc81=>?_))))))))))
  ·refine Om(Og rfl rfl(St.move(Og rfl rfl(St.fieldAddr Zl rfl(Og rfl rfl(J21 o77 pl29 rfl rfl(Og rfl rfl(St.len sl29 rfl(Og rfl rfl(J3d rfl rfl(fun hc82=>?_)(fun hc82=>?_)))))))))))
   ·refine OT(Nl(J20 rfl(W.skip(W.seq(W.block(W.seq(J3f J9 10 [[],[0],[],[1,2],[3],[],[5],[],[6,7],[8]] C72 [fx(.pointer(some⟨g27,7,none⟩)),fx(.slice a7 a.args.length c8),fx(.int .i64((i:Nat):Int)),fE Jm(a.args.getD i default),fr Jm(a.args.getD i default),fx(.pointer(some⟨g35,7,none⟩)),fx(.slice a20 b.args.length c21),fx(.int .i64((i:Nat):Int)),fE Jm(b.args.getD i default),fr Jm(b.args.getD i default)](by kernel_rfl)⟨sx,sx,sx,sE,sr,sx,sx,sx,sE,sr,trivial⟩fun f118 s119 w120⟨C123,S124⟩k122=>?_)))))))
    replace h13:=h13.sp S124;replace h26:=h26.sp S124;replace o76:=o76.spn S124;replace o77:=o77.spn S124;have k122:Keep [61,62,63,64,65,66,67,68,69,70] _ f118:=k122;refine⟨⟨fun _=>?_,fun⟨e127,_⟩=>?_,fun _=>?_,fun⟨e128,e129,_⟩=>?_,fun⟨d130,_⟩=>?_,fun _=>?_,fun⟨e131,_⟩=>?_,fun _=>?_,fun⟨e132,e133,_⟩=>?_,fun⟨d134,_⟩=>?_,trivial⟩,fun⟨e135,e136,e137,d138,d139,e140,e141,e142,d143,d144,_⟩=>?_⟩
    ·exact Ja k122 aN fun _=>OpSt.op(St.fieldAddr Zl rfl⟨s119,RC.same C123,rfl⟩)
    ·exact Ja k122(aC e127 aN)fun _=>OpSt.op(J21 o76 pl29 rfl rfl⟨s119,RC.same C123,rfl⟩)
    ·exact Ja k122 aN fun _=>OpSt.op(St.move⟨s119,RC.same C123,rfl⟩)
    ·refine Ja k122(aC e128(aC e129 aN))fun _=>OpSt.op(J3e(j:=i)(u:=(a.args.getD i default))h13 sl29 io31 rfl rfl rfl(Jg(by omega))?_);intro b145 o146 cs147 e148;obtain⟨a149,c150,a151,c152,a153,c154,a155,c156,rfl,h157⟩:=J2 e148.rd;have h158:=h157.n;have h159:=h157.num;have h160:=h157.den;have h161:=h157.args;exact⟨s119,RC.same C123,⟨_,_,_,rfl,e148⟩⟩
    ·obtain⟨b163,o164,cs165,e162,e166⟩:=d130;obtain⟨a167,c168,a169,c170,a171,c172,a173,c174,rfl,h175⟩:=J2 e166.rd;have h176:=h175.n;have h177:=h175.num;have h178:=h175.den;have h179:=h175.args;exact Ja k122(aC e162 aN)fun _=>OpSt.op(J3x(cs:=[(.int .i64(a.args.getD i default).op),(.slice a167(a.args.getD i default).n.length c168),(.bool(a.args.getD i default).c.num.neg),(.slice a169(a.args.getD i default).c.num.mag.length c170),(.bool(a.args.getD i default).c.den.neg),(.slice a171(a.args.getD i default).c.den.mag.length c172),(str(a.args.getD i default).name),(.slice a173(a.args.getD i default).args.length c174)])ag31 rfl rfl e166.cell⟨s119,RC.same C123,(Jz(a.args.getD i default)h175.lo h175.hi h175.name h176 h177 h178 h179)⟩)
    ·exact Ja k122 aN fun _=>OpSt.op(St.fieldAddr Zl rfl⟨s119,RC.same C123,rfl⟩)
    ·exact Ja k122(aC e131 aN)fun _=>OpSt.op(J21 o77 pl29 rfl rfl⟨s119,RC.same C123,rfl⟩)
    ·exact Ja k122 aN fun _=>OpSt.op(St.move⟨s119,RC.same C123,rfl⟩)
    ·refine Ja k122(aC e132(aC e133 aN))fun _=>OpSt.op(J3e(j:=i)(u:=(b.args.getD i default))h26 sl29 io31 rfl rfl rfl(Jg(by omega))?_);intro b180 o181 cs182 e183;obtain⟨a184,c185,a186,c187,a188,c189,a190,c191,rfl,h192⟩:=J2 e183.rd;have h193:=h192.n;have h194:=h192.num;have h195:=h192.den;have h196:=h192.args;exact⟨s119,RC.same C123,⟨_,_,_,rfl,e183⟩⟩
    ·obtain⟨b198,o199,cs200,e197,e201⟩:=d134;obtain⟨a202,c203,a204,c205,a206,c207,a208,c209,rfl,h210⟩:=J2 e201.rd;have h211:=h210.n;have h212:=h210.num;have h213:=h210.den;have h214:=h210.args;exact Ja k122(aC e197 aN)fun _=>OpSt.op(J3x(cs:=[(.int .i64(b.args.getD i default).op),(.slice a202(b.args.getD i default).n.length c203),(.bool(b.args.getD i default).c.num.neg),(.slice a204(b.args.getD i default).c.num.mag.length c205),(.bool(b.args.getD i default).c.den.neg),(.slice a206(b.args.getD i default).c.den.mag.length c207),(str(b.args.getD i default).name),(.slice a208(b.args.getD i default).args.length c209)])ag31 rfl rfl e201.cell⟨s119,RC.same C123,(Jz(b.args.getD i default)h210.lo h210.hi h210.name h211 h212 h213 h214)⟩)
    obtain⟨b216,o217,cs218,e215,e219⟩:=d138;obtain⟨a220,c221,a222,c223,a224,c225,a226,c227,rfl,h228⟩:=J2 e219.rd;have h229:=h228.n;have h230:=h228.num;have h231:=h228.den;have h232:=h228.args;obtain⟨a234,c235,a236,c237,a238,c239,a240,c241,e233,h242⟩:=J3l d139;have h243:=h242.n;have h244:=h242.num;have h245:=h242.den;have h246:=h242.args;obtain⟨b248,o249,cs250,e247,e251⟩:=d143;obtain⟨a252,c253,a254,c255,a256,c257,a258,c259,rfl,h260⟩:=J2 e251.rd;have h261:=h260.n;have h262:=h260.num;have h263:=h260.den;have h264:=h260.args;obtain⟨a266,c267,a268,c269,a270,c271,a272,c273,e265,h274⟩:=J3l d144;have h275:=h274.n;have h276:=h274.num;have h277:=h274.den;have h278:=h274.args;obtain⟨f279,rfl⟩:=mixK k122(aC e135(aC e136(aC e137(aC e215(aC e233(aC e140(aC e141(aC e142(aC e247(aC e265 aN))))))))));refine O rfl(J2z C123 cb24 rfl rfl(ih C123.bd(Jz(a.args.getD i default)h242.lo h242.hi h242.name h243 h244 h245 h246)(Jz(b.args.getD i default)h274.lo h274.hi h274.name h275 h276 h277 h278)(Xa pa(by omega))(Xa pb(by omega))(Nat.lt_of_lt_of_le(Qq(by omega))(Nat.le_of_lt_succ hN)))?_);intro v280 w281 C282 s283 h284;replace h10:=(h10.sp S124).sp s283;replace h11:=(h11.sp S124).sp s283;replace h12:=(h12.sp S124).sp s283;replace h13:=h13.sp s283;replace h23:=(h23.sp S124).sp s283;replace h24:=(h24.sp S124).sp s283;replace h25:=(h25.sp S124).sp s283;replace h26:=h26.sp s283;replace o76:=o76.spn s283;replace o77:=o77.spn s283;subst h284;refine Oa(Nl(Rg(Om(O rfl(J3h rfl rfl(fun hc285=>?_)(fun hc285=>?_))))))
    ·exact Nl(J20 rfl(Rg(Om(Oa(Nl(W.ret(Je rfl(resV.t rfl)(Ret.intro(congrArg(Value.int _)(Eq.trans(V8(d:=default)hv(by omega)(by omega)hc285)(Jhz(by omega)(by omega)(by omega)(Qo hc62))))C282.below))))))))
    refine Nl(J22 rfl(W.skip(W.region(Om(O rfl(St.add rfl rfl(Jd(a:=i)(b:=1)(by omega))(Oa(Nl(⟨_,(by omega),_,_,(i+1),C282,rfl,rfl,rfl,h10,h11,h12,h13,h23,h24,h25,h26,o76,o77,(by omega),(by omega),(jq(d:=default)hv(by omega)(by omega)hc285),rfl⟩)))))))))
   refine OT(Nl(J22 rfl(W.exit(Rh(O rfl(St.fieldAddr Zl rfl(O rfl(J21 o76 pl29 rfl rfl(O rfl(St.len sl29 rfl(O rfl(St.fieldAddr Zl rfl(O rfl(J21 o77 pl29 rfl rfl(O rfl(St.len sl29 rfl(O rfl(J3h rfl rfl(fun hc286=>?_)(fun hc286=>?_)))))))))))))))))))
   ·refine Nl(J20 rfl(Rg(O rfl(St.fieldAddr Zl rfl(O rfl(J21 o76 pl29 rfl rfl(O rfl(St.len sl29 rfl(O rfl(St.fieldAddr Zl rfl(O rfl(J21 o77 pl29 rfl rfl(O rfl(St.len sl29 rfl(O rfl(St.lss rfl rfl rfl(O rfl(J2z C72 cb55 rfl rfl(Jeb C72.bd)?_))))))))))))))))));intro v287 w288 C289 s290 h291;subst h291;exact Oa(Nl(W.ret(Je rfl(resV.t rfl)(Ret.intro(congrArg(Value.int _)(Eq.trans(zz hv hi hib(by omega)(by omega))(Jhz(by omega)(by omega)(by omega)(Qo hc62))))C289.below))))
   exact Nl(J22 rfl(W.skip(Rg(Oa(Nl(W.ret(Je rfl(resV.t rfl)(Ret.intro(congrArg(Value.int _)(Eq.trans(Xl hv(by omega)(by omega))(Jhz(by omega)(by omega)(by omega)(Qo hc62))))C72.below))))))))
  refine Om(Ox rfl rfl rfl(Ox rfl rfl rfl(Ox rfl rfl rfl(Ox rfl rfl rfl(Ox rfl rfl rfl(OF(Nl(J22 rfl(W.exit(Rh(O rfl(St.fieldAddr Zl rfl(O rfl(J21 o76 pl29 rfl rfl(O rfl(St.len sl29 rfl(O rfl(St.fieldAddr Zl rfl(O rfl(J21 o77 pl29 rfl rfl(O rfl(St.len sl29 rfl ?_))))))))))))))))))))));refine O rfl(J3h rfl rfl(fun hc292=>?_)(fun hc292=>?_))
  ·refine Nl(J20 rfl(Rg(O rfl(St.fieldAddr Zl rfl(O rfl(J21 o76 pl29 rfl rfl(O rfl(St.len sl29 rfl(O rfl(St.fieldAddr Zl rfl(O rfl(J21 o77 pl29 rfl rfl(O rfl(St.len sl29 rfl(O rfl(St.lss rfl rfl rfl(O rfl(J2z C72 cb55 rfl rfl(Jeb C72.bd)?_))))))))))))))))));intro v293 w294 C295 s296 h297;subst h297;exact Oa(Nl(W.ret(Je rfl(resV.t rfl)(Ret.intro(congrArg(Value.int _)(Eq.trans(zz hv hi hib(by omega)(by omega))(Jhz(by omega)(by omega)(by omega)(Qo hc62))))C295.below))))
  exact Nl(J22 rfl(W.skip(Rg(Oa(Nl(W.ret(Je rfl(resV.t rfl)(Ret.intro(congrArg(Value.int _)(Eq.trans(Xl hv(by omega)(by omega))(Jhz(by omega)(by omega)(by omega)(Qo hc62))))C72.below))))))))
theorem Jzv {X:Nat→Prop}{w:World}(hX:∀ b,X b→b < w.heap.size){v0:Value}{a:GExpr}(r0:RV Jm X w v0 a){v1:Value}{b:GExpr}(r1:RV Jm X w v1 b)(pa:Zm a=true)(pb:Zm b=true):Calls Tryz.prog 24 #[v0,v1] w(Ret w fun v w'=>v=(.int .i64(cmpE a b))):=Jmv((SizeOf.sizeOf a)+1)hX r0 r1 pa pb(Nat.lt_succ_self _)
set_option maxHeartbeats 1000000 in
theorem Jrl {X:Nat→Prop}{w:World}(hX:∀ b,X b→b < w.heap.size){v0:Value}{a:GExpr}(r0:RV Jm X w v0 a){v1:Value}{b:GExpr}(r1:RV Jm X w v1 b)(pa:Zm a=true)(pb:Zm b=true):Calls Tryz.prog 23 #[v0,v1] w(Ret w fun v w'=>v=(.bool(decide(cmpE a b < 0)))):=by
 obtain⟨a1,c2,a3,c4,a5,c6,a7,c8,rfl,h9⟩:=J3l r0;have h10:=h9.n;have h11:=h9.num;have h12:=h9.den;have h13:=h9.args;obtain⟨a14,c15,a16,c17,a18,c19,a20,c21,rfl,h22⟩:=J3l r1;have h23:=h22.n;have h24:=h22.num;have h25:=h22.den;have h26:=h22.args;have C:=J26 hX;refine J25(args:=[(.agg #[(.int .i64 a.op),(.slice a1 a.n.length c2),(.bool a.c.num.neg),(.slice a3 a.c.num.mag.length c4),(.bool a.c.den.neg),(.slice a5 a.c.den.mag.length c6),(str a.name),(.slice a7 a.args.length c8)]),(.agg #[(.int .i64 b.op),(.slice a14 b.n.length c15),(.bool b.c.num.neg),(.slice a16 b.c.num.mag.length c17),(.bool b.c.den.neg),(.slice a18 b.c.den.mag.length c19),(str b.name),(.slice a20 b.args.length c21)])])Tryz.func23 rfl rfl(Nat.le_of_ble_eq_true rfl)?_;refine Rg(O rfl(J3b C rfl ?_));intro g27 w28 x29 y30 lt31 C32 s33 o34;refine O rfl(J3b C32 rfl ?_);intro g35 w36 x37 y38 lt39 C40 s41 o42;replace h10:=(h10.sp s33).sp s41;replace h11:=(h11.sp s33).sp s41;replace h12:=(h12.sp s33).sp s41;replace h13:=(h13.sp s33).sp s41;replace h23:=(h23.sp s33).sp s41;replace h24:=(h24.sp s33).sp s41;replace h25:=(h25.sp s33).sp s41;replace h26:=(h26.sp s33).sp s41;replace o34:=o34.spn s41;refine Oa(Nl(Rg(O rfl(J23(vs:=[(.int .i64 a.op),(.slice a1 a.n.length c2),(.bool a.c.num.neg),(.slice a3 a.c.num.mag.length c4),(.bool a.c.den.neg),(.slice a5 a.c.den.mag.length c6),(str a.name),(.slice a7 a.args.length c8)])o34 ag31 rfl rfl rfl(O rfl(J23(vs:=[(.int .i64 b.op),(.slice a14 b.n.length c15),(.bool b.c.num.neg),(.slice a16 b.c.num.mag.length c17),(.bool b.c.den.neg),(.slice a18 b.c.den.mag.length c19),(str b.name),(.slice a20 b.args.length c21)])o42 ag31 rfl rfl rfl ?_))))));refine O rfl(J2z C40 cb24 rfl rfl(Jzv C40.bd(Jz a h9.lo h9.hi h9.name h10 h11 h12 h13)(Jz b h22.lo h22.hi h22.name h23 h24 h25 h26)pa pb)?_);intro v44 w45 C46 s47 h48;subst h48;refine O rfl(St.lss rfl rfl rfl(Oa(Nl(W.ret(Je rfl(resV.t rfl)(Ret.intro ?_ C46.below))))))
 rfl
end Go.Wf
namespace Go.Wf
open Go Go.Proofs Go.RowKit
set_option maxRecDepth 100000
set_option linter.unusedVariables false
set_option linter.unusedSimpArgs false
def CmpOk(a b:List GExpr):Prop:=∀ i,i < a.length→i < b.length→∀ {X:Nat→Prop}{w:World}(hX:∀ b,X b→b < w.heap.size){v0 v1:Value},RV Jm X w v0(a.getD i default)→RV Jm X w v1(b.getD i default)→
 Calls Tryz.prog 54 #[v0,v1] w(Ret w fun v w'=>v= .int .i64(cmpE(a.getD i default)(b.getD i default)))
set_option maxHeartbeats 1000000 in
theorem Jq7 {X:Nat→Prop}{w:World}(hX:∀ b,X b→b < w.heap.size){n:Int}  :Calls Tryz.prog 172 #[(.int .i64 n)] w(Ret w fun v w'=>v=(.bool false)):=by
 have C:=J26 hX;exact J25(args:=[(.int .i64 n)])Tryz.func172 rfl rfl(Nat.le_of_ble_eq_true rfl)(Rg(Oa(Nl(Rg(Om(Om(O rfl(St.neq rfl rfl rfl(Oa(Nl(W.ret(Je rfl(resV.t rfl)(Ret.intro(congrArg(Value.bool)((by simp)))C.below)))))))))))))
set_option maxHeartbeats 1000000 in
theorem Jx1 {X:Nat→Prop}{w:World}(hX:∀ b,X b→b < w.heap.size){a:Int}{b:Int}  :Calls Tryz.prog 122 #[(.int .i64 a),(.int .i64 b)] w(Ret w fun v w'=>v=(.int .i64(cmpI a b))):=by
 have C:=J26 hX;refine J25(args:=[(.int .i64 a),(.int .i64 b)])Tryz.func122 rfl rfl(Nat.le_of_ble_eq_true rfl)(Rg(Oa(Nl(Rg(Om(O rfl(J2z C Jwb rfl rfl(Jq7 C.bd)?_)))))));intro v1 w2 C3 s4 h5;subst h5;refine Oa(Nl(Rg(Om(O rfl(J2z C3 Jwb rfl rfl(Jq7 C3.bd)?_)))));intro v6 w7 C8 s9 h10;subst h10;refine Oa(Nl(Rh(Om(Nl(J22 rfl(W.skip(Rh(Om(Nl(J22 rfl(W.skip(Rh(Om(Om(O rfl(J3d rfl rfl(fun hc11=>?_)(fun hc11=>?_)))))))))))))))))
 ·exact Nl(J20 rfl(Rg(Oa(Nl(W.ret(Je rfl(resV.t rfl)(Ret.intro(congrArg(Value.int _)(Jqu hc11))C8.below)))))))
 refine Nl(J22 rfl(W.skip(Rh(Om(Om(O rfl(J3n rfl rfl(fun hc12=>?_)(fun hc12=>?_))))))))
 ·exact Nl(J20 rfl(Rg(Oa(Nl(W.ret(Je rfl(resV.t rfl)(Ret.intro(congrArg(Value.int _)(Jp2 hc11 hc12))C8.below)))))))
 exact Nl(J22 rfl(W.skip(Rg(Oa(Nl(W.ret(Je rfl(resV.t rfl)(Ret.intro(congrArg(Value.int _)(Jzk hc11 hc12))C8.below))))))))
set_option maxHeartbeats 1000000 in
theorem Js9 {X:Nat→Prop}{w:World}(hX:∀ b,X b→b < w.heap.size){v0:Value}{a:List Int}(r0:RS Zq X w v0 a){v1:Value}{b:List Int}(r1:RS Zq X w v1 b)  :Calls Tryz.prog 84 #[v0,v1] w(Ret w fun v w'=>v=(.int .i64(cmpL cmpI a b))):=by
 obtain⟨a1,c2,rfl,_,_⟩:=r0.len;obtain⟨a3,c4,rfl,_,_⟩:=r1.len;have C:=J26 hX;have hml:maxLen=9223372036854775807:=rfl;refine J25(args:=[(.slice a1 a.length c2),(.slice a3 b.length c4)])Tryz.func84 rfl rfl(Nat.le_of_ble_eq_true rfl)(Rg(Oa(Nl(Rh(Om(O rfl(St.len sl23 rfl(Om(Nl(W.block(J3g(fun μ f v=>∃ (x y:Nat→Prop)(i:Nat),Cx X w x y v∧f 0=(.slice a1 a.length c2)∧f 1=(.slice a3 b.length c4)∧f 9=(.slice a1 a.length c2)∧f 10=(.int .i64((a.length:Nat):Int))∧f 11=(.int .i64((i:Nat):Int))∧RS Zq x v(.slice a1 a.length c2)a∧RS Zq x v(.slice a3 b.length c4)b∧i≤a.length∧i≤b.length∧cmpL cmpI a b=cmpL cmpI(a.drop i)(b.drop i)∧μ=(a.length - i))_⟨_,_,0,C,rfl,rfl,rfl,rfl,rfl,r0,r1,(Nat.zero_le _),(Nat.zero_le _),rfl,rfl⟩ ?_)))))))))));rintro m16 f5 w6⟨x7,y8,i,C9,e10,e11,e12,e13,e14,r0,r1,hi,hib,hv,hmu15⟩;obtain⟨f17,rfl⟩:=rebK(aC e10(aC e11(aC e12(aC e13(aC e14 aN)))));clear e10 e11 e12 e13 e14;refine Rg(O rfl(J3d rfl rfl(fun hc18=>?_)(fun hc18=>?_)))
 ·refine Nl(W.seq(J20 rfl(W.skip(W.seq(W.block(Rg(Om(O rfl(J3e(j:=i)(u:=(a.getD i 0))r0 sl23 io3 rfl rfl rfl(Jg(by omega))?_)))))))));intro b19 o20 cs21 e22;obtain⟨rfl,bd23⟩:cs21=_∧_:=e22.rd;refine O rfl(J3a pl3 rfl(e22.cell 0 _ rfl)(Oa(Oa(Nl(Rh(Om(Om(O rfl(St.len sl23 rfl(O rfl(J3s rfl rfl(fun hc24=>?_)(fun hc24=>?_))))))))))))
  ·exact Nl(J20 rfl(Rg(Oa(Nl(W.ret(Je rfl(resV.t rfl)(Ret.intro(congrArg(Value.int _)(Jey hv(by omega)(by omega)))C9.below)))))))
  refine Nl(J22 rfl(W.skip(Rg(Om(Om(O rfl(J3e(j:=i)(u:=(b.getD i 0))r1 sl23 io3 rfl rfl rfl(Jg(by omega))?_)))))));intro b25 o26 cs27 e28;obtain⟨rfl,bd29⟩:cs27=_∧_:=e28.rd;refine O rfl(J3a pl3 rfl(e28.cell 0 _ rfl)(Oa(Nl(Rg(Om(Om(O rfl(J2z C9 cb122 rfl rfl(Jx1 C9.bd)?_))))))));intro v30 w31 C32 s33 h34;replace r0:=r0.sp s33;replace r1:=r1.sp s33;subst h34;refine Oa(Nl(Rg(Om(O rfl(J3h rfl rfl(fun hc35=>?_)(fun hc35=>?_))))))
  ·exact Nl(J20 rfl(Rg(Om(Oa(Nl(W.ret(Je rfl(resV.t rfl)(Ret.intro(congrArg(Value.int _)(V8(d:=0)hv(by omega)(by omega)hc35))C32.below))))))))
  refine Nl(J22 rfl(W.skip(W.region(O rfl(St.add rfl rfl(Jd(a:=i)(b:=1)(by omega))(Om(Nl(⟨_,(by omega),_,_,(i+1),C32,rfl,rfl,rfl,rfl,rfl,r0,r1,(by omega),(by omega),(jq(d:=0)hv(by omega)(by omega)hc35),rfl⟩))))))))
 refine Nl(W.seq(J22 rfl(W.exit(Rh(Om(O rfl(St.len sl23 rfl(Om(O rfl(St.len sl23 rfl(O rfl(J3d rfl rfl(fun hc36=>?_)(fun hc36=>?_)))))))))))))
 ·exact Nl(J20 rfl(Rg(Oa(Nl(W.ret(Je rfl(resV.t rfl)(Ret.intro(congrArg(Value.int _)(Jef hv(by omega)(by omega)))C9.below)))))))
 exact Nl(J22 rfl(W.skip(Rg(Oa(Nl(W.ret(Je rfl(resV.t rfl)(Ret.intro(congrArg(Value.int _)(Xl hv(by omega)(by omega)))C9.below))))))))
set_option maxHeartbeats 1000000 in
theorem Jrh {X:Nat→Prop}{w:World}(hX:∀ b,X b→b < w.heap.size){a:List UInt8}{b:List UInt8}  :Calls Tryz.prog 124 #[(str a),(str b)] w(Ret w fun v w'=>v=(.int .i64(cmpL cmpB a b))):=by
 have C:=J26 hX;refine J25(args:=[(str a),(str b)])Tryz.func124 rfl rfl(Nat.le_of_ble_eq_true rfl)(Rg(Oa(Nl(Rg(Om(Om(O rfl(J45 rfl rfl(Oa(Nl(W.ret(Je rfl(resV.t rfl)(Ret.intro ?_ C.below)))))))))))))
 rfl
set_option maxHeartbeats 1000000 in
theorem Jwd {X:Nat→Prop}{w:World}(hX:∀ b,X b→b < w.heap.size){a:List UInt8}{b:List UInt8}  :Calls Tryz.prog 86 #[(str a),(str b)] w(Ret w fun v w'=>v=(.int .i64(cmpL cmpB a b))):=by
 have C:=J26 hX;refine J25(args:=[(str a),(str b)])Tryz.func86 rfl rfl(Nat.le_of_ble_eq_true rfl)(Rg(Oa(Nl(Rg(Om(Om(O rfl(J2z C cb124 rfl rfl(Jrh C.bd)?_))))))));intro v1 w2 C3 s4 h5;subst h5;refine Oa(Nl(W.ret(Je rfl(resV.t rfl)(Ret.intro ?_ C3.below))))
 rfl
set_option maxHeartbeats 4000000 in
theorem Jwq {X:Nat→Prop}{w:World}(hX:∀ b,X b→b < w.heap.size){v0:Value}{a:List GExpr}(r0:RS Jm X w v0 a){v1:Value}{b:List GExpr}(r1:RS Jm X w v1 b)(hC:CmpOk a b):Calls Tryz.prog 87 #[v0,v1,(.func(.func 54) #[] #[])] w(Ret w fun v w'=>v=(.int .i64(cmpL cmpE a b))):=by
 obtain⟨a1,c2,rfl,_,_⟩:=r0.len;obtain⟨a3,c4,rfl,_,_⟩:=r1.len;have C:=J26 hX;have hml:maxLen=9223372036854775807:=rfl;refine J25(args:=[(.slice a1 a.length c2),(.slice a3 b.length c4),(.func(.func 54) #[] #[])])Tryz.func87 rfl rfl(Nat.le_of_ble_eq_true rfl)(Rg(Oa(Nl(Rh(Om(O rfl(St.len sl29 rfl(Om(Nl(W.block(J3g(fun μ f v=>∃ (x y:Nat→Prop)(i:Nat),Cx X w x y v∧f 0=(.slice a1 a.length c2)∧f 1=(.slice a3 b.length c4)∧f 2=(.func(.func 54) #[] #[])∧f 11=(.slice a1 a.length c2)∧f 12=(.int .i64((a.length:Nat):Int))∧f 13=(.int .i64((i:Nat):Int))∧RS Jm x v(.slice a1 a.length c2)a∧RS Jm x v(.slice a3 b.length c4)b∧i≤a.length∧i≤b.length∧cmpL cmpE a b=cmpL cmpE(a.drop i)(b.drop i)∧μ=(a.length - i))_⟨_,_,0,C,rfl,rfl,rfl,rfl,rfl,rfl,r0,r1,(Nat.zero_le _),(Nat.zero_le _),rfl,rfl⟩ ?_)))))))))));rintro m17 f5 w6⟨x7,y8,i,C9,e10,e11,e12,e13,e14,e15,r0,r1,hi,hib,hv,hmu16⟩;obtain⟨f18,rfl⟩:=rebK(aC e10(aC e11(aC e12(aC e13(aC e14(aC e15 aN))))));clear e10 e11 e12 e13 e14 e15;refine Rg(O rfl(J3d rfl rfl(fun hc19=>?_)(fun hc19=>?_)))
 ·refine Nl(W.seq(J20 rfl(W.skip(W.seq(W.block(Rg(Om(O rfl(J3e(j:=i)(u:=(a.getD i default))r0 sl29 io31 rfl rfl rfl(Jg(by omega))?_)))))))));intro b20 o21 cs22 e23;obtain⟨a24,c25,a26,c27,a28,c29,a30,c31,rfl,h32⟩:=J2 e23.rd;have h33:=h32.n;have h34:=h32.num;have h35:=h32.den;have h36:=h32.args;refine O rfl(J3x(cs:=[(.int .i64(a.getD i default).op),(.slice a24(a.getD i default).n.length c25),(.bool(a.getD i default).c.num.neg),(.slice a26(a.getD i default).c.num.mag.length c27),(.bool(a.getD i default).c.den.neg),(.slice a28(a.getD i default).c.den.mag.length c29),(str(a.getD i default).name),(.slice a30(a.getD i default).args.length c31)])ag31 rfl rfl e23.cell ?_);refine O rfl(J27 C9 io31 rfl ?_);intro g37 w38 x39 y40 lt41 C42 s43 o44;replace r0:=r0.sp s43;refine Oa(On(J24(cs':=[(.int .i64(a.getD i default).op),(.slice a24(a.getD i default).n.length c25),(.bool(a.getD i default).c.num.neg),(.slice a26(a.getD i default).c.num.mag.length c27),(.bool(a.getD i default).c.den.neg),(.slice a28(a.getD i default).c.den.mag.length c29),(str(a.getD i default).name),(.slice a30(a.getD i default).args.length c31)])C42 o44 io31 rfl rfl rfl rfl rfl rfl ?_));intro w45 C46 s47 o48;replace r1:=(r1.sp s43).sp s47;replace h33:=(h33.sp s43).sp s47;replace h34:=(h34.sp s43).sp s47;replace h35:=(h35.sp s43).sp s47;replace h36:=(h36.sp s43).sp s47;refine Nl(Rh(Om(Om(O rfl(St.len sl29 rfl(O rfl(J3s rfl rfl(fun hc49=>?_)(fun hc49=>?_))))))))
  ·exact Nl(J20 rfl(Rg(Oa(Nl(W.ret(Je rfl(resV.t rfl)(Ret.intro(congrArg(Value.int _)(Jey hv(by omega)(by omega)))C46.below)))))))
  refine Nl(J22 rfl(W.skip(Rg(Om(Om(O rfl(J3e(j:=i)(u:=(b.getD i default))r1 sl29 io31 rfl rfl rfl(Jg(by omega))?_)))))));intro b50 o51 cs52 e53;obtain⟨a54,c55,a56,c57,a58,c59,a60,c61,rfl,h62⟩:=J2 e53.rd;have h63:=h62.n;have h64:=h62.num;have h65:=h62.den;have h66:=h62.args;refine O rfl(J3x(cs:=[(.int .i64(b.getD i default).op),(.slice a54(b.getD i default).n.length c55),(.bool(b.getD i default).c.num.neg),(.slice a56(b.getD i default).c.num.mag.length c57),(.bool(b.getD i default).c.den.neg),(.slice a58(b.getD i default).c.den.mag.length c59),(str(b.getD i default).name),(.slice a60(b.getD i default).args.length c61)])ag31 rfl rfl e53.cell ?_);refine O rfl(J27 C46 io31 rfl ?_);intro g67 w68 x69 y70 lt71 C72 s73 o74;have n75:=lt71 _ o48.blk.lt;replace r0:=(r0.sp s47).sp s73;replace r1:=r1.sp s73;refine On(J24(cs':=[(.int .i64(b.getD i default).op),(.slice a54(b.getD i default).n.length c55),(.bool(b.getD i default).c.num.neg),(.slice a56(b.getD i default).c.num.mag.length c57),(.bool(b.getD i default).c.den.neg),(.slice a58(b.getD i default).c.den.mag.length c59),(str(b.getD i default).name),(.slice a60(b.getD i default).args.length c61)])C72 o74 io31 rfl rfl rfl rfl rfl rfl ?_);intro w76 C77 s78 o79;replace h33:=(h33.sp s73).sp s78;replace h34:=(h34.sp s73).sp s78;replace h35:=(h35.sp s73).sp s78;replace h36:=(h36.sp s73).sp s78;replace h63:=(h63.sp s73).sp s78;replace h64:=(h64.sp s73).sp s78;replace h65:=(h65.sp s73).sp s78;replace h66:=(h66.sp s73).sp s78;replace o48:=(o48.spn s73).spo s78 n75;refine Nl(Rg(Om(O rfl(J23(vs:=[(.int .i64(a.getD i default).op),(.slice a24(a.getD i default).n.length c25),(.bool(a.getD i default).c.num.neg),(.slice a26(a.getD i default).c.num.mag.length c27),(.bool(a.getD i default).c.den.neg),(.slice a28(a.getD i default).c.den.mag.length c29),(str(a.getD i default).name),(.slice a30(a.getD i default).args.length c31)])o48 ag31 rfl rfl rfl ?_))));refine O rfl(J23(vs:=[(.int .i64(b.getD i default).op),(.slice a54(b.getD i default).n.length c55),(.bool(b.getD i default).c.num.neg),(.slice a56(b.getD i default).c.num.mag.length c57),(.bool(b.getD i default).c.den.neg),(.slice a58(b.getD i default).c.den.mag.length c59),(str(b.getD i default).name),(.slice a60(b.getD i default).args.length c61)])o79 ag31 rfl rfl rfl ?_);refine O rfl(J46 C77 cb54 rfl rfl(hC i(by omega)(by omega)C77.bd(Jz(a.getD i default)h32.lo h32.hi h32.name h33 h34 h35 h36)(Jz(b.getD i default)h62.lo h62.hi h62.name h63 h64 h65 h66))?_);intro v80 w81 C82 s83 h84;replace r0:=(r0.sp s78).sp s83;replace r1:=(r1.sp s78).sp s83;subst h84;refine Oa(Nl(Rg(Om(O rfl(J3h rfl rfl(fun hc85=>?_)(fun hc85=>?_))))))
  ·exact Nl(J20 rfl(Rg(Om(Oa(Nl(W.ret(Je rfl(resV.t rfl)(Ret.intro(congrArg(Value.int _)(V8(d:=default)hv(by omega)(by omega)hc85))C82.below))))))))
  refine Nl(J22 rfl(W.skip(W.region(O rfl(St.add rfl rfl(Jd(a:=i)(b:=1)(by omega))(Om(Nl(⟨_,(by omega),_,_,(i+1),C82,rfl,rfl,rfl,rfl,rfl,rfl,r0,r1,(by omega),(by omega),(jq(d:=default)hv(by omega)(by omega)hc85),rfl⟩))))))))
 refine Nl(W.seq(J22 rfl(W.exit(Rh(Om(O rfl(St.len sl29 rfl(Om(O rfl(St.len sl29 rfl(O rfl(J3d rfl rfl(fun hc86=>?_)(fun hc86=>?_)))))))))))))
 ·exact Nl(J20 rfl(Rg(Oa(Nl(W.ret(Je rfl(resV.t rfl)(Ret.intro(congrArg(Value.int _)(Jef hv(by omega)(by omega)))C9.below)))))))
 exact Nl(J22 rfl(W.skip(Rg(Oa(Nl(W.ret(Je rfl(resV.t rfl)(Ret.intro(congrArg(Value.int _)(Xl hv(by omega)(by omega)))C9.below))))))))
set_option maxHeartbeats 4000000 in
theorem Jpm(N:Nat):∀ {X:Nat→Prop}{w:World}(hX:∀ b,X b→b < w.heap.size){v0:Value}{a:GExpr}(r0:RV Jm X w v0 a){v1:Value}{b:GExpr}(r1:RV Jm X w v1 b)(pa:Zm a=true)(pb:Zm b=true)(hN:(SizeOf.sizeOf a) < N),Calls Tryz.prog 54 #[v0,v1] w(Ret w fun v w'=>v=(.int .i64(cmpE a b))):=by
 induction N with
 | zero=>intro X w hX v0 a r0 v1 b r1 pa pb hN;exact absurd hN(Nat.not_lt_zero _)
 | succ N ih=>
  intro X w hX v0 a r0 v1 b r1 pa pb hN;obtain⟨a1,c2,a3,c4,a5,c6,a7,c8,rfl,h9⟩:=J3l r0;have h10:=h9.n;have h11:=h9.num;have h12:=h9.den;have h13:=h9.args;obtain⟨a14,c15,a16,c17,a18,c19,a20,c21,rfl,h22⟩:=J3l r1;have h23:=h22.n;have h24:=h22.num;have h25:=h22.den;have h26:=h22.args;have C:=J26 hX;have hal:=r0.args_max;obtain⟨pa1,pa2,pa3,pa4,pa5⟩:=Yk.1 pa;obtain⟨pb1,pb2,pb3,pb4,pb5⟩:=Yk.1 pb;refine J25(args:=[(.agg #[(.int .i64 a.op),(.slice a1 a.n.length c2),(.bool a.c.num.neg),(.slice a3 a.c.num.mag.length c4),(.bool a.c.den.neg),(.slice a5 a.c.den.mag.length c6),(str a.name),(.slice a7 a.args.length c8)]),(.agg #[(.int .i64 b.op),(.slice a14 b.n.length c15),(.bool b.c.num.neg),(.slice a16 b.c.num.mag.length c17),(.bool b.c.den.neg),(.slice a18 b.c.den.mag.length c19),(str b.name),(.slice a20 b.args.length c21)])])Tryz.func54 rfl rfl(Nat.le_of_ble_eq_true rfl)?_;refine Rg(O rfl(J3b C rfl ?_));intro g27 w28 x29 y30 lt31 C32 s33 o34;replace h11:=h11.sp s33;replace h12:=h12.sp s33;replace h13:=h13.sp s33;replace h24:=h24.sp s33;replace h25:=h25.sp s33;replace h26:=h26.sp s33;refine O rfl(J3b C32 rfl ?_);intro g35 w36 x37 y38 lt39 C40 s41 o42;replace h10:=(h10.sp s33).sp s41;replace h23:=(h23.sp s33).sp s41;replace o34:=o34.spn s41;refine Oa(Nl(Rh(O rfl(St.fieldAddr Zh rfl(O rfl(J21 o34 pl3 rfl rfl(O rfl(St.fieldAddr Zh rfl(O rfl(J21 o42 pl3 rfl rfl(O rfl(J3h rfl rfl(fun hc44=>?_)(fun hc44=>?_)))))))))))))
  ·refine Nl(J20 rfl(Rh(O rfl(St.fieldAddr Zh rfl(O rfl(J21 o34 pl3 rfl rfl(O rfl(St.fieldAddr Zh rfl(O rfl(J21 o42 pl3 rfl rfl(O rfl(J3d rfl rfl(fun hc45=>?_)(fun hc45=>?_)))))))))))))
   ·exact Nl(J20 rfl(Rg(Oa(Nl(W.ret(Je rfl(resV.t rfl)(Ret.intro(congrArg(Value.int _)(Eq.trans(Jqu hc45)(Jjl hc44)))C40.below)))))))
   exact Nl(J22 rfl(W.skip(Rg(Oa(Nl(W.ret(Je rfl(resV.t rfl)(Ret.intro(congrArg(Value.int _)(Eq.trans(Jp2 hc45(by omega))(Jjl hc44)))C40.below))))))))
  refine Nl(J22 rfl(W.skip(Rh(O rfl(St.fieldAddr Kk rfl(O rfl(J21 o34 pl23 rfl rfl(O rfl(St.fieldAddr Kk rfl(O rfl(J21 o42 pl23 rfl rfl(O rfl(J2z C40 cb84 rfl rfl(Js9 C40.bd h10 h23)?_)))))))))))));intro v46 w47 C48 s49 h50;replace h11:=(h11.sp s41).sp s49;replace h12:=(h12.sp s41).sp s49;replace h13:=(h13.sp s41).sp s49;replace h24:=(h24.sp s41).sp s49;replace h25:=(h25.sp s41).sp s49;replace h26:=(h26.sp s41).sp s49;replace o34:=o34.spn s49;replace o42:=o42.spn s49;subst h50;refine Oa(Nl(Rg(Om(O rfl(J3h rfl rfl(fun hc51=>?_)(fun hc51=>?_))))))
  ·exact Nl(J20 rfl(Rg(Om(Oa(Nl(W.ret(Je rfl(resV.t rfl)(Ret.intro(congrArg(Value.int _)(Jzl(by omega)hc51))C48.below))))))))
  refine Nl(J22 rfl(W.skip(Rh(O rfl(St.fieldAddr Ke rfl(O rfl(J23(vs:=[(.bool a.c.num.neg),(.slice a3 a.c.num.mag.length c4),(.bool a.c.den.neg),(.slice a5 a.c.den.mag.length c6)])o34 ag28 rfl rfl rfl(O rfl(St.fieldAddr Ke rfl(O rfl(J23(vs:=[(.bool b.c.num.neg),(.slice a16 b.c.num.mag.length c17),(.bool b.c.den.neg),(.slice a18 b.c.den.mag.length c19)])o42 ag28 rfl rfl rfl ?_)))))))))));refine O rfl(J2z C48 cb85 rfl rfl(Jx0 C48.bd(a:=a.c)(Ze h11 h12)(b:=b.c)(Ze h24 h25)(by omega)(by omega)(by omega)(by omega))?_);intro v52 w53 C54 s55 h56;replace o34:=o34.spn s55;replace o42:=o42.spn s55;subst h56;refine Oa(Nl(Rg(Om(O rfl(J3h rfl rfl(fun hc57=>?_)(fun hc57=>?_))))))
  ·exact Nl(J20 rfl(Rg(Om(Oa(Nl(W.ret(Je rfl(resV.t rfl)(Ret.intro(congrArg(Value.int _)(Jxk(by omega)(by omega)hc57))C54.below))))))))
  refine Nl(J22 rfl(W.skip(Rh(O rfl(St.fieldAddr K1 rfl(O rfl(J21 o34 pl9 rfl rfl(O rfl(St.fieldAddr K1 rfl(O rfl(J21 o42 pl9 rfl rfl(O rfl(J2z C54 cb86 rfl rfl(Jwd C54.bd)?_)))))))))))));intro v58 w59 C60 s61 h62;replace h13:=(h13.sp s55).sp s61;replace h26:=(h26.sp s55).sp s61;replace o34:=o34.spn s61;replace o42:=o42.spn s61;subst h62;refine Oa(Nl(Rg(Om(O rfl(J3h rfl rfl(fun hc63=>?_)(fun hc63=>?_))))))
  ·exact Nl(J20 rfl(Rg(Om(Oa(Nl(W.ret(Je rfl(resV.t rfl)(Ret.intro(congrArg(Value.int _)(Jz9(by omega)(by omega)(by omega)hc63))C60.below))))))))
  refine Nl(J22 rfl(W.skip(Rg(O rfl(St.fieldAddr Zl rfl(O rfl(J21 o34 pl29 rfl rfl(O rfl(St.fieldAddr Zl rfl(O rfl(J21 o42 pl29 rfl rfl(O rfl(J2z C60 cb87 rfl rfl(Jwq C60.bd h13 h26(fun i h1 h2 {_ _} hX {_ _} q0 q1=>ih hX q0 q1(Xa pa h1)(Xa pb h2)(Nat.lt_of_lt_of_le(Qq h1)(Nat.le_of_lt_succ hN))))?_)))))))))))));intro v64 w65 C66 s67 h68;subst h68;exact Oa(Nl(W.ret(Je rfl(resV.t rfl)(Ret.intro(congrArg(Value.int _)(Jhz(by omega)(by omega)(by omega)(by omega)))C66.below))))
theorem Jz6 {X:Nat→Prop}{w:World}(hX:∀ b,X b→b < w.heap.size){v0:Value}{a:GExpr}(r0:RV Jm X w v0 a){v1:Value}{b:GExpr}(r1:RV Jm X w v1 b)(pa:Zm a=true)(pb:Zm b=true):Calls Tryz.prog 54 #[v0,v1] w(Ret w fun v w'=>v=(.int .i64(cmpE a b))):=Jpm((SizeOf.sizeOf a)+1)hX r0 r1 pa pb(Nat.lt_succ_self _)
set_option maxHeartbeats 1000000 in
theorem Jtn {X:Nat→Prop}{w:World}(hX:∀ b,X b→b < w.heap.size){v0:Value}{a:GExpr}(r0:RV Jm X w v0 a){v1:Value}{b:GExpr}(r1:RV Jm X w v1 b)(pa:Zm a=true)(pb:Zm b=true):Calls Tryz.prog 22 #[v0,v1] w(Ret w fun v w'=>v=(.bool(decide(cmpE a b < 0)))):=by
 obtain⟨a1,c2,a3,c4,a5,c6,a7,c8,rfl,h9⟩:=J3l r0;have h10:=h9.n;have h11:=h9.num;have h12:=h9.den;have h13:=h9.args;obtain⟨a14,c15,a16,c17,a18,c19,a20,c21,rfl,h22⟩:=J3l r1;have h23:=h22.n;have h24:=h22.num;have h25:=h22.den;have h26:=h22.args;have C:=J26 hX;refine J25(args:=[(.agg #[(.int .i64 a.op),(.slice a1 a.n.length c2),(.bool a.c.num.neg),(.slice a3 a.c.num.mag.length c4),(.bool a.c.den.neg),(.slice a5 a.c.den.mag.length c6),(str a.name),(.slice a7 a.args.length c8)]),(.agg #[(.int .i64 b.op),(.slice a14 b.n.length c15),(.bool b.c.num.neg),(.slice a16 b.c.num.mag.length c17),(.bool b.c.den.neg),(.slice a18 b.c.den.mag.length c19),(str b.name),(.slice a20 b.args.length c21)])])Tryz.func22 rfl rfl(Nat.le_of_ble_eq_true rfl)?_;refine Rg(O rfl(J3b C rfl ?_));intro g27 w28 x29 y30 lt31 C32 s33 o34;refine O rfl(J3b C32 rfl ?_);intro g35 w36 x37 y38 lt39 C40 s41 o42;replace h10:=(h10.sp s33).sp s41;replace h11:=(h11.sp s33).sp s41;replace h12:=(h12.sp s33).sp s41;replace h13:=(h13.sp s33).sp s41;replace h23:=(h23.sp s33).sp s41;replace h24:=(h24.sp s33).sp s41;replace h25:=(h25.sp s33).sp s41;replace h26:=(h26.sp s33).sp s41;replace o34:=o34.spn s41;refine Oa(Nl(Rg(O rfl(J23(vs:=[(.int .i64 a.op),(.slice a1 a.n.length c2),(.bool a.c.num.neg),(.slice a3 a.c.num.mag.length c4),(.bool a.c.den.neg),(.slice a5 a.c.den.mag.length c6),(str a.name),(.slice a7 a.args.length c8)])o34 ag31 rfl rfl rfl(O rfl(J23(vs:=[(.int .i64 b.op),(.slice a14 b.n.length c15),(.bool b.c.num.neg),(.slice a16 b.c.num.mag.length c17),(.bool b.c.den.neg),(.slice a18 b.c.den.mag.length c19),(str b.name),(.slice a20 b.args.length c21)])o42 ag31 rfl rfl rfl ?_))))));refine O rfl(J2z C40 cb54 rfl rfl(Jz6 C40.bd(Jz a h9.lo h9.hi h9.name h10 h11 h12 h13)(Jz b h22.lo h22.hi h22.name h23 h24 h25 h26)pa pb)?_);intro v44 w45 C46 s47 h48;subst h48;refine O rfl(St.lss rfl rfl rfl(Oa(Nl(W.ret(Je rfl(resV.t rfl)(Ret.intro ?_ C46.below))))))
 rfl
end Go.Wf
namespace Go.Wf
open Go Go.Proofs Go.RowKit
set_option maxRecDepth 100000
set_option linter.unusedVariables false
set_option linter.unusedSimpArgs false
set_option maxHeartbeats 2000000 in
theorem Jmg(N:Nat):∀ {X:Nat→Prop}{w:World}(hX:∀ b,X b→b < w.heap.size){v0:Value}{a:GExpr}(r0:RV Jm X w v0 a)  (hN:(SizeOf.sizeOf a) < N),Calls Tryz.prog 37 #[v0] w(Ret w fun v w'=>v=(.bool(Zm a))):=by
 induction N with
 | zero=>intro X w hX v0 a r0 hN;exact absurd hN(Nat.not_lt_zero _)
 | succ N ih=>
  intro X w hX v0 a r0 hN;obtain⟨a1,c2,a3,c4,a5,c6,a7,c8,rfl,h9⟩:=J3l r0;have h10:=h9.n;have h11:=h9.num;have h12:=h9.den;have h13:=h9.args;have C:=J26 hX;have hal:=r0.args_max;refine J25(args:=[(.agg #[(.int .i64 a.op),(.slice a1 a.n.length c2),(.bool a.c.num.neg),(.slice a3 a.c.num.mag.length c4),(.bool a.c.den.neg),(.slice a5 a.c.den.mag.length c6),(str a.name),(.slice a7 a.args.length c8)])])Tryz.func37 rfl rfl(Nat.le_of_ble_eq_true rfl)(Rg(O rfl(J3b C rfl ?_)));intro g14 w15 x16 y17 lt18 C19 s20 o21;replace h10:=h10.sp s20;replace h11:=h11.sp s20;replace h12:=h12.sp s20;replace h13:=h13.sp s20;refine Oa(Nl(Rh(O rfl(St.fieldAddr Kk rfl(O rfl(J21 o21 pl23 rfl rfl(O rfl(St.len sl23 rfl(O rfl(J3n rfl rfl(fun hc22=>?_)(fun hc22=>?_)))))))))))
  ·refine Om(Ox rfl rfl rfl(Ox rfl rfl rfl(Ox rfl rfl rfl(Ox rfl rfl rfl(Ox rfl rfl rfl(Ox rfl rfl rfl(OT(Om(Ox rfl rfl rfl(Ox rfl rfl rfl(Ox rfl rfl rfl(Ox rfl rfl rfl(Ox rfl rfl rfl(Ox rfl rfl rfl(OT(Om(Ox rfl rfl rfl(Ox rfl rfl rfl(Ox rfl rfl rfl ?_)))))))))))))))))));exact Ox rfl rfl rfl(OT(Nl(J20 rfl(Rg(Oa(Nl(W.ret(Je rfl(resV.t rfl)(Ret.intro(congrArg(Value.bool)(z5(by omega)))C19.below)))))))))
  refine Om(Og rfl rfl(St.fieldAddr Ke rfl(Og rfl rfl(St.fieldAddr Kx rfl(Og rfl rfl(St.fieldAddr J4 rfl(Og rfl rfl(J21 o21 pl24 rfl rfl(Og rfl rfl(St.len sl24 rfl(Og rfl rfl(J3n rfl rfl(fun hc23=>?_)(fun hc23=>?_)))))))))))))
  ·refine OF(Om(Ox rfl rfl rfl(Ox rfl rfl rfl(Ox rfl rfl rfl(Ox rfl rfl rfl(Ox rfl rfl rfl(Ox rfl rfl rfl(OT(Om(Ox rfl rfl rfl(Ox rfl rfl rfl(Ox rfl rfl rfl(Ox rfl rfl rfl(OT(Nl(J20 rfl(Rg(Oa(Nl ?_)))))))))))))))))));exact W.ret(Je rfl(resV.t rfl)(Ret.intro(congrArg(Value.bool)(z5(by omega)))C19.below))
  refine OF(Om(Og rfl rfl(St.fieldAddr Ke rfl(Og rfl rfl(St.fieldAddr Yh rfl(Og rfl rfl(St.fieldAddr J4 rfl(Og rfl rfl(J21 o21 pl24 rfl rfl(Og rfl rfl(St.len sl24 rfl(Og rfl rfl(J3n rfl rfl(fun hc24=>?_)(fun hc24=>?_))))))))))))))
  ·exact OF(Om(Ox rfl rfl rfl(Ox rfl rfl rfl(Ox rfl rfl rfl(Ox rfl rfl rfl(OT(Nl(J20 rfl(Rg(Oa(Nl(W.ret(Je rfl(resV.t rfl)(Ret.intro(congrArg(Value.bool)(z5(by omega)))C19.below))))))))))))))
  refine OF(Om(Og rfl rfl(St.fieldAddr K1 rfl(Og rfl rfl(J21 o21 pl9 rfl rfl(Og rfl rfl(J37 un9 rfl(Og rfl rfl(J3n rfl rfl(fun hc25=>?_)(fun hc25=>?_))))))))))
  ·exact OF(Nl(J20 rfl(Rg(Oa(Nl(W.ret(Je rfl(resV.t rfl)(Ret.intro(congrArg(Value.bool)(z5(by omega)))C19.below))))))))
  refine OF(Nl(J22 rfl(W.skip(Rh(Oa(Nl(W.block(J3g(fun μ f v=>∃ (x y:Nat→Prop)(i:Nat),Cx X w x y v∧f 1=(.pointer(some⟨g14,0,none⟩))∧f 3=(.int .i64((i:Nat):Int))∧RS Zq x v(.slice a1 a.n.length c2)a.n∧RS Jc x v(.slice a3 a.c.num.mag.length c4)a.c.num.mag∧RS Jc x v(.slice a5 a.c.den.mag.length c6)a.c.den.mag∧RS Jm x v(.slice a7 a.args.length c8)a.args∧Own w y v g14 [(.int .i64 a.op),(.slice a1 a.n.length c2),(.bool a.c.num.neg),(.slice a3 a.c.num.mag.length c4),(.bool a.c.den.neg),(.slice a5 a.c.den.mag.length c6),(str a.name),(.slice a7 a.args.length c8)] 31∧i≤a.args.length∧(∀ j,j < i→Zm(a.args.getD j default)=true)∧μ=(a.args.length - i))_⟨_,_,0,C19,rfl,rfl,h10,h11,h12,h13,o21,(Nat.zero_le _),(fun _ h=>absurd h(Nat.not_lt_zero _)),rfl⟩ ?_))))))));rintro m35 f26 w27⟨x28,y29,i,C30,e31,e32,h10,h11,h12,h13,o33,hi,hall,hmu34⟩;obtain⟨f36,rfl⟩:=rebK(aC e31(aC e32 aN));clear e31 e32;refine Rh(Om(O rfl(St.fieldAddr Zl rfl(O rfl(J21 o33 pl29 rfl rfl(O rfl(St.len sl29 rfl(O rfl(J3d rfl rfl(fun hc37=>?_)(fun hc37=>?_))))))))))
  ·refine Nl(J20 rfl(W.skip(W.seq(W.block(Rg(O rfl(St.fieldAddr Zl rfl(O rfl(J21 o33 pl29 rfl rfl(Om(O rfl(J3e(j:=i)(u:=(a.args.getD i default))h13 sl29 io31 rfl rfl rfl(Jg(by omega))?_))))))))))));intro b38 o39 cs40 e41;obtain⟨a42,c43,a44,c45,a46,c47,a48,c49,rfl,h50⟩:=J2 e41.rd;have h51:=h50.n;have h52:=h50.num;have h53:=h50.den;have h54:=h50.args;refine O rfl(J3x(cs:=[(.int .i64(a.args.getD i default).op),(.slice a42(a.args.getD i default).n.length c43),(.bool(a.args.getD i default).c.num.neg),(.slice a44(a.args.getD i default).c.num.mag.length c45),(.bool(a.args.getD i default).c.den.neg),(.slice a46(a.args.getD i default).c.den.mag.length c47),(str(a.args.getD i default).name),(.slice a48(a.args.getD i default).args.length c49)])ag31 rfl rfl e41.cell ?_);refine O rfl(St.bool(J2z C30 cb37 rfl rfl(ih C30.bd(Jz(a.args.getD i default)h50.lo h50.hi h50.name h51 h52 h53 h54)(Nat.lt_of_lt_of_le(Qq(by omega))(Nat.le_of_lt_succ hN)))?_));intro v55 w56 C57 s58 h59;replace h10:=h10.sp s58;replace h11:=h11.sp s58;replace h12:=h12.sp s58;replace h13:=h13.sp s58;replace o33:=o33.spn s58;refine⟨_,h59,fun hb60=>?_,fun hb60=>?_⟩
   ·refine O rfl(St.not rfl(Nl(J22 rfl(W.skip(W.region(Om(O rfl(St.add rfl rfl(Jd(a:=i)(b:=1)(by omega))(Oa(Nl(⟨_,(by omega),_,_,(i+1),C57,rfl,rfl,h10,h11,h12,h13,o33,(by omega),(Ks hall hb60),rfl⟩)))))))))))
   exact O rfl(St.not rfl(Nl(J20 rfl(Rg(Oa(Nl(W.ret(Je rfl(resV.t rfl)(Ret.intro(congrArg(Value.bool)(Jfg(i:=i)(by omega)hb60))C57.below)))))))))
  exact Nl(J22 rfl(W.exit(Rg(Oa(Nl(W.ret(Je rfl(resV.t rfl)(Ret.intro(congrArg(Value.bool)(Jli hc22 hc23 hc24 hc25(by omega)hall))C30.below))))))))
theorem Ju4 {X:Nat→Prop}{w:World}(hX:∀ b,X b→b < w.heap.size){v0:Value}{a:GExpr}(r0:RV Jm X w v0 a)  :Calls Tryz.prog 37 #[v0] w(Ret w fun v w'=>v=(.bool(Zm a))):=Jmg((SizeOf.sizeOf a)+1)hX r0(Nat.lt_succ_self _)
set_option maxHeartbeats 2000000 in
theorem Jiy(N:Nat):∀ {X:Nat→Prop}{w:World}(hX:∀ b,X b→b < w.heap.size){v0:Value}{a:GExpr}(r0:RV Jm X w v0 a){m:Int}(pa:Zm a=true)(hN:(SizeOf.sizeOf a) < N),Calls Tryz.prog 38 #[v0,(.int .i64 m)] w(Ret w fun v w'=>∃ n:Int,v= .int .i64 n):=by
 induction N with
 | zero=>intro X w hX v0 a r0 m pa hN;exact absurd hN(Nat.not_lt_zero _)
 | succ N ih=>
  intro X w hX v0 a r0 m pa hN;obtain⟨a1,c2,a3,c4,a5,c6,a7,c8,rfl,h9⟩:=J3l r0;have h10:=h9.n;have h11:=h9.num;have h12:=h9.den;have h13:=h9.args;have C:=J26 hX;have hal:=r0.args_max;obtain⟨pa1,pa2,pa3,pa4,pa5⟩:=Yk.1 pa;refine J25(args:=[(.agg #[(.int .i64 a.op),(.slice a1 a.n.length c2),(.bool a.c.num.neg),(.slice a3 a.c.num.mag.length c4),(.bool a.c.den.neg),(.slice a5 a.c.den.mag.length c6),(str a.name),(.slice a7 a.args.length c8)]),(.int .i64 m)])Tryz.func38 rfl rfl(Nat.le_of_ble_eq_true rfl)(Rg(O rfl(J3b C rfl ?_)));intro g14 w15 x16 y17 lt18 C19 s20 o21;replace h10:=h10.sp s20;replace h11:=h11.sp s20;replace h12:=h12.sp s20;replace h13:=h13.sp s20;refine Oa(Nl(Rg(Oa(Nl(W.seq(J4a(fun f v=>∃ (x y:Nat→Prop)(z:Int),Cx X w x y v∧f 1=(.int .i64 m)∧f 2=(.pointer(some⟨g14,0,none⟩))∧f 4=(.int .i64 0)∧f 5=(.int .i64 z)∧RS Zq x v(.slice a1 a.n.length c2)a.n∧RS Jc x v(.slice a3 a.c.num.mag.length c4)a.c.num.mag∧RS Jc x v(.slice a5 a.c.den.mag.length c6)a.c.den.mag∧RS Jm x v(.slice a7 a.args.length c8)a.args∧Own w y v g14 [(.int .i64 a.op),(.slice a1 a.n.length c2),(.bool a.c.num.neg),(.slice a3 a.c.num.mag.length c4),(.bool a.c.den.neg),(.slice a5 a.c.den.mag.length c6),(str a.name),(.slice a7 a.args.length c8)] 31)?_ ?_))))))
  ·refine Rg(O rfl(St.fieldAddr Zh rfl(O rfl(J21 o21 pl3 rfl rfl(O rfl(J3c rfl rfl(fun hc22=>?_)(fun hc22=>?_)))))))
   ·refine Nl(J20 rfl(W.region(O rfl(St.fieldAddr Ke rfl(O rfl(St.fieldAddr Kx rfl(O rfl(St.fieldAddr J4 rfl(O rfl(J21 o21 pl24 rfl rfl(O rfl(St.len sl24 rfl(O rfl(St.fieldAddr Ke rfl(O rfl(St.fieldAddr Yh rfl(O rfl(St.fieldAddr J4 rfl(O rfl(J21 o21 pl24 rfl rfl(O rfl(St.len sl24 rfl(O rfl(St.add rfl rfl(Jd(a:=a.c.num.mag.length)(b:=a.c.den.mag.length)(by omega))?_))))))))))))))))))))))));refine O rfl(St.mul rfl rfl(ql(a:=32)(b:=a.c.num.mag.length+a.c.den.mag.length)(by omega))(Om(O rfl(St.mul(z:=(IntKind.i64.wrap(((32 * (a.c.num.mag.length+a.c.den.mag.length):Nat):Int) * m)))rfl rfl rfl(O rfl(St.quo rfl rfl(by decide)rfl(Oa(Nl(⟨_,_,(IntKind.i64.wrap(Int.tdiv(IntKind.i64.wrap(((32 * (a.c.num.mag.length+a.c.den.mag.length):Nat):Int) * m)) 4)),C19,rfl,rfl,rfl,rfl,h10,h11,h12,h13,o21⟩)))))))))
   refine Nl(J22 rfl(W.skip(⟨_,_,0,C19,rfl,rfl,rfl,rfl,h10,h11,h12,h13,o21⟩)))
  rintro f23 w24⟨x25,y26,z,C27,e28,e29,e30,e31,h10,h11,h12,h13,o32⟩;obtain⟨f33,rfl⟩:=rebK(aC e28(aC e29(aC e30(aC e31 aN))));clear e28 e29 e30 e31;refine W.seq(J4a(fun f v=>∃ (x y:Nat→Prop)(t:Int),Cx X w x y v∧f 2=(.pointer(some⟨g14,0,none⟩))∧f 4=(.int .i64 0)∧f 5=(.int .i64 z)∧f 1=(.int .i64 t)∧RS Zq x v(.slice a1 a.n.length c2)a.n∧RS Jc x v(.slice a3 a.c.num.mag.length c4)a.c.num.mag∧RS Jc x v(.slice a5 a.c.den.mag.length c6)a.c.den.mag∧RS Jm x v(.slice a7 a.args.length c8)a.args∧Own w y v g14 [(.int .i64 a.op),(.slice a1 a.n.length c2),(.bool a.c.num.neg),(.slice a3 a.c.num.mag.length c4),(.bool a.c.den.neg),(.slice a5 a.c.den.mag.length c6),(str a.name),(.slice a7 a.args.length c8)] 31)?_ ?_)
  ·refine Rg(O rfl(St.fieldAddr Zh rfl(O rfl(J21 o32 pl3 rfl rfl(O rfl(J3c rfl rfl(fun hc34=>?_)(fun hc34=>?_)))))))
   ·refine Om(Og rfl rfl(St.fieldAddr Kk rfl(Og rfl rfl(J21 o32 pl23 rfl rfl(Og rfl rfl(St.len sl23 rfl(Og rfl rfl(J3n rfl rfl(fun hc35=>?_)(fun hc35=>?_)))))))))
    ·refine OT(Nl(J20 rfl(J3f J9 14 [[],[],[1],[2],[3],[4],[],[6],[7],[8],[9],[10],[11],[5,12]] C27 [fx(.int .i64 m),fx(.pointer(some⟨g14,1,none⟩)),fx(.slice a1 a.n.length c2),fE Zq(a.n.getD 0 0),fx(.int .i64(a.n.getD 0 0)),fx(.int .i64(if 1000 < (a.n.getD 0 0)then 1000 else(a.n.getD 0 0))),fx(.pointer(some⟨g14,1,none⟩)),fx(.slice a1 a.n.length c2),fE Zq(a.n.getD 0 0),fx(.int .i64(a.n.getD 0 0)),fx(.int .i64(if(-1000) > (a.n.getD 0 0)then(-1000)else(a.n.getD 0 0))),fx(.int .i64(IntKind.i64.wrap(0 - (if(-1000) > (a.n.getD 0 0)then(-1000)else(a.n.getD 0 0))))),fx(.int .i64(if 1000 < (IntKind.i64.wrap(0 - (if(-1000) > (a.n.getD 0 0)then(-1000)else(a.n.getD 0 0))))then 1000 else(IntKind.i64.wrap(0 - (if(-1000) > (a.n.getD 0 0)then(-1000)else(a.n.getD 0 0)))))),fx(.int .i64(if(if 1000 < (IntKind.i64.wrap(0 - (if(-1000) > (a.n.getD 0 0)then(-1000)else(a.n.getD 0 0))))then 1000 else(IntKind.i64.wrap(0 - (if(-1000) > (a.n.getD 0 0)then(-1000)else(a.n.getD 0 0))))) > (if(if 1000 < (a.n.getD 0 0)then 1000 else(a.n.getD 0 0)) > 1 then(if 1000 < (a.n.getD 0 0)then 1000 else(a.n.getD 0 0))else 1)then(if 1000 < (IntKind.i64.wrap(0 - (if(-1000) > (a.n.getD 0 0)then(-1000)else(a.n.getD 0 0))))then 1000 else(IntKind.i64.wrap(0 - (if(-1000) > (a.n.getD 0 0)then(-1000)else(a.n.getD 0 0)))))else(if(if 1000 < (a.n.getD 0 0)then 1000 else(a.n.getD 0 0)) > 1 then(if 1000 < (a.n.getD 0 0)then 1000 else(a.n.getD 0 0))else 1)))](by kernel_rfl)⟨sx,sx,sx,sE,sx,sx,sx,sx,sE,sx,sx,sx,sx,sx,trivial⟩fun f47 s48 w49⟨C52,S53⟩k51=>?_)))
     replace h10:=h10.sp S53;replace h11:=h11.sp S53;replace h12:=h12.sp S53;replace h13:=h13.sp S53;replace o32:=o32.spn S53;have k51:Keep [34,35,36,37,38,39,40,41,42,43,44,45,46,47] _ f47:=k51;refine⟨⟨fun _=>?_,fun _=>?_,fun⟨e55,_⟩=>?_,fun⟨e56,_⟩=>?_,fun⟨d57,_⟩=>?_,fun⟨e58,_⟩=>?_,fun _=>?_,fun⟨e59,_⟩=>?_,fun⟨e60,_⟩=>?_,fun⟨d61,_⟩=>?_,fun⟨e62,_⟩=>?_,fun⟨e63,_⟩=>?_,fun⟨e64,_⟩=>?_,fun⟨e65,e66,_⟩=>?_,trivial⟩,fun⟨e67,e68,e69,d70,e71,e72,e73,e74,d75,e76,e77,e78,e79,e80,_⟩=>?_⟩
     ·exact Ja k51 aN fun _=>OpSt.op(St.move⟨s48,RC.same C52,rfl⟩)
     ·exact Ja k51 aN fun _=>OpSt.op(St.fieldAddr Kk rfl⟨s48,RC.same C52,rfl⟩)
     ·exact Ja k51(aC e55 aN)fun _=>OpSt.op(J21 o32 pl23 rfl rfl⟨s48,RC.same C52,rfl⟩)
     ·refine Ja k51(aC e56 aN)fun _=>OpSt.op(J3e(j:=0)(u:=(a.n.getD 0 0))h10 sl23 io3 rfl rfl rfl(Jg(by omega))?_);intro b81 o82 cs83 e84;obtain⟨rfl,bd85⟩:cs83=_∧_:=e84.rd;exact⟨s48,RC.same C52,⟨_,_,_,rfl,e84⟩⟩
     ·obtain⟨b87,o88,cs89,e86,e90⟩:=d57;obtain⟨rfl,bd91⟩:cs89=_∧_:=e90.rd;exact Ja k51(aC e86 aN)fun _=>OpSt.op(J3a pl3 rfl(e90.cell 0 _ rfl)⟨s48,RC.same C52,rfl⟩)
     ·exact Ja k51(aC e58 aN)fun _=>OpSt.op(St.min rfl rfl rfl⟨s48,RC.same C52,rfl⟩)
     ·exact Ja k51 aN fun _=>OpSt.op(St.fieldAddr Kk rfl⟨s48,RC.same C52,rfl⟩)
     ·exact Ja k51(aC e59 aN)fun _=>OpSt.op(J21 o32 pl23 rfl rfl⟨s48,RC.same C52,rfl⟩)
     ·refine Ja k51(aC e60 aN)fun _=>OpSt.op(J3e(j:=0)(u:=(a.n.getD 0 0))h10 sl23 io3 rfl rfl rfl(Jg(by omega))?_);intro b92 o93 cs94 e95;obtain⟨rfl,bd96⟩:cs94=_∧_:=e95.rd;exact⟨s48,RC.same C52,⟨_,_,_,rfl,e95⟩⟩
     ·obtain⟨b98,o99,cs100,e97,e101⟩:=d61;obtain⟨rfl,bd102⟩:cs100=_∧_:=e101.rd;exact Ja k51(aC e97 aN)fun _=>OpSt.op(J3a pl3 rfl(e101.cell 0 _ rfl)⟨s48,RC.same C52,rfl⟩)
     ·exact Ja k51(aC e62 aN)fun _=>OpSt.op(St.max rfl rfl rfl⟨s48,RC.same C52,rfl⟩)
     ·exact Ja k51(aC e63 aN)fun _=>OpSt.op(St.neg(z:=(IntKind.i64.wrap(0 - (if(-1000) > (a.n.getD 0 0)then(-1000)else(a.n.getD 0 0)))))rfl rfl⟨s48,RC.same C52,rfl⟩)
     ·exact Ja k51(aC e64 aN)fun _=>OpSt.op(St.min rfl rfl rfl⟨s48,RC.same C52,rfl⟩)
     ·exact Ja k51(aC e65(aC e66 aN))fun _=>OpSt.op(J5b rfl rfl rfl rfl⟨s48,RC.same C52,rfl⟩)
     obtain⟨b104,o105,cs106,e103,e107⟩:=d70;obtain⟨rfl,bd108⟩:cs106=_∧_:=e107.rd;obtain⟨b110,o111,cs112,e109,e113⟩:=d75;obtain⟨rfl,bd114⟩:cs112=_∧_:=e113.rd;obtain⟨f115,rfl⟩:=mixK k51(aC e67(aC e68(aC e69(aC e103(aC e71(aC e72(aC e73(aC e74(aC e109(aC e76(aC e77(aC e78(aC e79(aC e80 aN))))))))))))));refine O rfl(St.mul(z:=(IntKind.i64.wrap(m * (if(if 1000 < (IntKind.i64.wrap(0 - (if(-1000) > (a.n.getD 0 0)then(-1000)else(a.n.getD 0 0))))then 1000 else(IntKind.i64.wrap(0 - (if(-1000) > (a.n.getD 0 0)then(-1000)else(a.n.getD 0 0))))) > (if(if 1000 < (a.n.getD 0 0)then 1000 else(a.n.getD 0 0)) > 1 then(if 1000 < (a.n.getD 0 0)then 1000 else(a.n.getD 0 0))else 1)then(if 1000 < (IntKind.i64.wrap(0 - (if(-1000) > (a.n.getD 0 0)then(-1000)else(a.n.getD 0 0))))then 1000 else(IntKind.i64.wrap(0 - (if(-1000) > (a.n.getD 0 0)then(-1000)else(a.n.getD 0 0)))))else(if(if 1000 < (a.n.getD 0 0)then 1000 else(a.n.getD 0 0)) > 1 then(if 1000 < (a.n.getD 0 0)then 1000 else(a.n.getD 0 0))else 1)))))rfl rfl rfl ?_);refine O rfl(St.min rfl rfl rfl(Oa(Nl(⟨_,_,(if 100000 < (IntKind.i64.wrap(m * (if(if 1000 < (IntKind.i64.wrap(0 - (if(-1000) > (a.n.getD 0 0)then(-1000)else(a.n.getD 0 0))))then 1000 else(IntKind.i64.wrap(0 - (if(-1000) > (a.n.getD 0 0)then(-1000)else(a.n.getD 0 0))))) > (if(if 1000 < (a.n.getD 0 0)then 1000 else(a.n.getD 0 0)) > 1 then(if 1000 < (a.n.getD 0 0)then 1000 else(a.n.getD 0 0))else 1)then(if 1000 < (IntKind.i64.wrap(0 - (if(-1000) > (a.n.getD 0 0)then(-1000)else(a.n.getD 0 0))))then 1000 else(IntKind.i64.wrap(0 - (if(-1000) > (a.n.getD 0 0)then(-1000)else(a.n.getD 0 0)))))else(if(if 1000 < (a.n.getD 0 0)then 1000 else(a.n.getD 0 0)) > 1 then(if 1000 < (a.n.getD 0 0)then 1000 else(a.n.getD 0 0))else 1))))then 100000 else(IntKind.i64.wrap(m * (if(if 1000 < (IntKind.i64.wrap(0 - (if(-1000) > (a.n.getD 0 0)then(-1000)else(a.n.getD 0 0))))then 1000 else(IntKind.i64.wrap(0 - (if(-1000) > (a.n.getD 0 0)then(-1000)else(a.n.getD 0 0))))) > (if(if 1000 < (a.n.getD 0 0)then 1000 else(a.n.getD 0 0)) > 1 then(if 1000 < (a.n.getD 0 0)then 1000 else(a.n.getD 0 0))else 1)then(if 1000 < (IntKind.i64.wrap(0 - (if(-1000) > (a.n.getD 0 0)then(-1000)else(a.n.getD 0 0))))then 1000 else(IntKind.i64.wrap(0 - (if(-1000) > (a.n.getD 0 0)then(-1000)else(a.n.getD 0 0)))))else(if(if 1000 < (a.n.getD 0 0)then 1000 else(a.n.getD 0 0)) > 1 then(if 1000 < (a.n.getD 0 0)then 1000 else(a.n.getD 0 0))else 1))))),C52,rfl,rfl,rfl,rfl,h10,h11,h12,h13,o32⟩))))
    refine OT(Nl(J22 rfl(W.skip(⟨_,_,m,C27,rfl,rfl,rfl,rfl,h10,h11,h12,h13,o32⟩))))
   refine Om(Ox rfl rfl rfl(Ox rfl rfl rfl(Ox rfl rfl rfl(Ox rfl rfl rfl(OF(Nl(J22 rfl(W.skip(⟨_,_,m,C27,rfl,rfl,rfl,rfl,h10,h11,h12,h13,o32⟩)))))))))
  rintro f116 w117⟨x118,y119,t,C120,e121,e122,e123,e124,h10,h11,h12,h13,o125⟩;obtain⟨f126,rfl⟩:=rebK(aC e121(aC e122(aC e123(aC e124 aN))));clear e121 e122 e123 e124;refine Rh(Oa(Nl(W.block(J3g(fun μ f v=>∃ (x y:Nat→Prop)(i:Nat)(z2:Int),Cx X w x y v∧f 1=(.int .i64 t)∧f 2=(.pointer(some⟨g14,0,none⟩))∧f 4=(.int .i64 0)∧f 6=(.int .i64((i:Nat):Int))∧f 5=(.int .i64 z2)∧RS Zq x v(.slice a1 a.n.length c2)a.n∧RS Jc x v(.slice a3 a.c.num.mag.length c4)a.c.num.mag∧RS Jc x v(.slice a5 a.c.den.mag.length c6)a.c.den.mag∧RS Jm x v(.slice a7 a.args.length c8)a.args∧Own w y v g14 [(.int .i64 a.op),(.slice a1 a.n.length c2),(.bool a.c.num.neg),(.slice a3 a.c.num.mag.length c4),(.bool a.c.den.neg),(.slice a5 a.c.den.mag.length c6),(str a.name),(.slice a7 a.args.length c8)] 31∧i≤a.args.length∧μ=(a.args.length - i))_⟨_,_,0,z,C120,rfl,rfl,rfl,rfl,rfl,h10,h11,h12,h13,o125,(Nat.zero_le _),rfl⟩ ?_))));rintro m139 f127 w128⟨x129,y130,i,z2,C131,e132,e133,e134,e135,e136,h10,h11,h12,h13,o137,hi,hmu138⟩;obtain⟨f140,rfl⟩:=rebK(aC e132(aC e133(aC e134(aC e135(aC e136 aN)))));clear e132 e133 e134 e135 e136;refine Rh(Om(O rfl(St.fieldAddr Zl rfl(O rfl(J21 o137 pl29 rfl rfl(O rfl(St.len sl29 rfl(O rfl(J3d rfl rfl(fun hc141=>?_)(fun hc141=>?_))))))))))
  ·refine Nl(J20 rfl(W.skip(W.seq(W.block(W.region(Om(O rfl(St.fieldAddr Zl rfl(O rfl(J21 o137 pl29 rfl rfl(Om(O rfl(J3e(j:=i)(u:=(a.args.getD i default))h13 sl29 io31 rfl rfl rfl(Jg(by omega))?_)))))))))))));intro b142 o143 cs144 e145;obtain⟨a146,c147,a148,c149,a150,c151,a152,c153,rfl,h154⟩:=J2 e145.rd;have h155:=h154.n;have h156:=h154.num;have h157:=h154.den;have h158:=h154.args;refine O rfl(J3x(cs:=[(.int .i64(a.args.getD i default).op),(.slice a146(a.args.getD i default).n.length c147),(.bool(a.args.getD i default).c.num.neg),(.slice a148(a.args.getD i default).c.num.mag.length c149),(.bool(a.args.getD i default).c.den.neg),(.slice a150(a.args.getD i default).c.den.mag.length c151),(str(a.args.getD i default).name),(.slice a152(a.args.getD i default).args.length c153)])ag31 rfl rfl e145.cell ?_);refine Om(O rfl(J2z C131 cb38 rfl rfl(ih C131.bd(Jz(a.args.getD i default)h154.lo h154.hi h154.name h155 h156 h157 h158)(Xa pa(by omega))(Nat.lt_of_lt_of_le(Qq(by omega))(Nat.le_of_lt_succ hN)))?_));intro v159 w160 C161 s162 h163;replace h10:=h10.sp s162;replace h11:=h11.sp s162;replace h12:=h12.sp s162;replace h13:=h13.sp s162;replace o137:=o137.spn s162;obtain⟨z164,rfl⟩:=h163;refine O rfl(St.add(z:=(IntKind.i64.wrap(z2+z164)))rfl rfl rfl(O rfl(St.min rfl rfl rfl(Oa(Nl(W.region(Om(O rfl(St.add rfl rfl(Jd(a:=i)(b:=1)(by omega))(Oa(Nl(⟨_,(by omega),_,_,(i+1),(if 100000 < (IntKind.i64.wrap(z2+z164))then 100000 else(IntKind.i64.wrap(z2+z164))),C161,rfl,rfl,rfl,rfl,rfl,h10,h11,h12,h13,o137,(by omega),rfl⟩))))))))))))
  exact Nl(J22 rfl(W.exit(Rg(Om(Oa(Nl(W.ret(Je rfl(resV.t rfl)(Ret.intro⟨_,rfl⟩C131.below)))))))))
theorem Juo {X:Nat→Prop}{w:World}(hX:∀ b,X b→b < w.heap.size){v0:Value}{a:GExpr}(r0:RV Jm X w v0 a){m:Int}(pa:Zm a=true):Calls Tryz.prog 38 #[v0,(.int .i64 m)] w(Ret w fun v w'=>∃ n:Int,v= .int .i64 n):=Jiy((SizeOf.sizeOf a)+1)hX r0 pa(Nat.lt_succ_self _)
end Go.Wf
namespace Go.Wf
set_option linter.unusedVariables false
set_option linter.unusedSimpArgs false
open Go
def Q4(n:Nat):Bool:=decide((97≤n∧n≤122)∨(65≤n∧n≤90))
def Qk(n:Nat):Bool:=decide(48≤n∧n≤57)
theorem Ji3 {n:Nat}(h:(97≤n∧n≤122)∨(65≤n∧n≤90)):true=Q4 n:=(decide_eq_true h).symm
theorem Jbn {n:Nat}(h:¬ ((97≤n∧n≤122)∨(65≤n∧n≤90))):false=Q4 n:=(decide_eq_false h).symm
theorem vt {n:Nat}{p:Prop}[Decidable p](h:p↔((97≤n∧n≤122)∨(65≤n∧n≤90))):decide p=Q4 n:=decide_eq_decide.2 h
theorem Ji2 {n:Nat}(h:¬ (48≤n∧n≤57)):false=Qk n:=(decide_eq_false h).symm
theorem Jiu {n:Nat}{p:Prop}[Decidable p](h:p↔(48≤n∧n≤57)):decide p=Qk n:=decide_eq_decide.2 h
def okB(c:UInt8):Bool:=Q4 c.toNat || Qk c.toNat
def digB(c:UInt8):Bool:=Qk c.toNat
def Xi:List(List UInt8):=[[71],[101,116,97],[116,104,101,116,97],[68,101,108,116,97],[106],[110,101,119,102,111,114,109],[86],[85],[84],[116,119,105,115,116],[115,101,114,114,101],[98,114,97,99,107,101,116]]
def Yw(s:List UInt8):Bool:=decide(1 < s.length) && decide(s.getD 0 0=69) && (s.drop 1).all digB
def Yi(s:List UInt8):Bool:=decide(s ∈ Xi) || Yw s
def Ky(s:List UInt8):Bool:=decide(1≤s.length) && decide(s.length≤20) && Q4(s.getD 0 0).toNat && !Yi s && s.all okB
theorem jp {p:UInt8→Bool}{s:List UInt8}:s.all p=true↔∀ j,j < s.length→p(s.getD j 0)=true:=by
 rw [List.all_eq_true]
 constructor
 ·intro h j hj;rw [List.getD_eq_getElem?_getD,List.getElem?_eq_getElem hj];exact h _(List.getElem_mem hj)
 ·intro h c hc;obtain⟨j,hj,rfl⟩:=List.mem_iff_getElem.1 hc
  have:=h j hj
  rwa [List.getD_eq_getElem?_getD,List.getElem?_eq_getElem hj] at this
theorem Jl7 {p:UInt8→Bool}{s:List UInt8}{j:Nat}(hj:j < s.length)(h:p(s.getD j 0)=false):s.all p=false:=
 Bool.eq_false_iff.2 fun ha=>by rw [jp.1 ha j hj] at h;cases h
theorem xv(s:List UInt8)(j:Nat):(s.drop 1).getD j 0=s.getD(j+1) 0:=by
 rw [List.getD_eq_getElem?_getD,List.getD_eq_getElem?_getD,List.getElem?_drop,Nat.add_comm]
theorem xh {n:Nat}(h:128≤n):Q4 n=false:=decide_eq_false(by omega)
theorem j1 {n:Nat}(h:128≤n):Qk n=false:=decide_eq_false(by omega)
theorem Jwk {n:Nat}{C:Prop}(h:128≤n)(h2:Q4 n=true):C:=by rw [xh h] at h2;cases h2
theorem Jqj {n:Nat}{C:Prop}(h:128≤n)(h2:Qk n=true):C:=by rw [j1 h] at h2;cases h2
theorem Jqb {c:UInt8}(h:Q4 c.toNat=true):okB c=true:=by unfold okB;rw [h];rfl
theorem Jqc {c:UInt8}(h:Qk c.toNat=true):okB c=true:=by unfold okB;rw [h,Bool.or_true]
theorem Jrz {c:UInt8}(h:Q4 c.toNat=false)(h2:Qk c.toNat=false):okB c=false:=by unfold okB;rw [h,h2];rfl
theorem Jyz {c:UInt8}(h:128≤c.toNat):okB c=false:=Jrz(xh h)(j1 h)
section
variable {s:List UInt8}
theorem Jo6(h:((s.length:Nat):Int) < 1):false=Ky s:=by unfold Ky;rw [decide_eq_false(by omega)];rfl
theorem Jln(h:(20:Int) < ((s.length:Nat):Int)):false=Ky s:=by unfold Ky;rw [decide_eq_false(show ¬ s.length≤20 by omega)];simp
theorem Jzf(h:s=[]):false=Ky s:=by rw [h];rfl
theorem Jhb(h:Q4(s.getD 0 0).toNat=false):false=Ky s:=by unfold Ky;rw [h];simp
theorem Jix {i:Nat}(h:Q4(s.getD i 0).toNat=false)(h0:((i:Nat):Int)=0):false=Ky s:=by
 have e:i=0:=by omega
 subst e;exact Jhb h
theorem Jgm {j:Nat}(hj:j < s.length)(h:okB(s.getD j 0)=false):false=Ky s:=by unfold Ky;rw [Jl7 hj h];simp
theorem Jq6(h:Yi s=true):false=Ky s:=by unfold Ky;rw [h];simp
theorem Kz(h:s ∈ Xi):false=Ky s:=Jq6(by unfold Yi;rw [decide_eq_true h];rfl)
theorem Jqm(h1:¬ ((s.length:Nat):Int) < 1)(h2:¬ (20:Int) < ((s.length:Nat):Int))(h3:Q4(s.getD 0 0).toNat=true)(h4:Yi s=false)(h5:∀ j,j < s.length→okB(s.getD j 0)=true):true=Ky s:=by
 unfold Ky;rw [decide_eq_true(show 1≤s.length by omega),decide_eq_true(show s.length≤20 by omega),h3,h4,jp.2 h5];rfl
theorem wt_no {j:Nat}(h1:1≤j)(hj:j < s.length)(h:Qk(s.getD j 0).toNat=false):false=Yw s:=by
 unfold Yw;rw [Jl7(p:=digB)(j:=j - 1)(by rw [List.length_drop];omega)(by rw [xv,show j - 1+1=j by omega];exact h)];simp
theorem Jzb {j:Nat}(h:∀ i,1≤i→i < j→Qk(s.getD i 0).toNat=true)(hj:s.length≤j):(s.drop 1).all digB=true:=
 jp.2 fun i hi=>by rw [xv];exact h _(by omega)(by rw [List.length_drop] at hi;omega)
theorem Jz4(h:¬ (1:Int) < ((s.length:Nat):Int)):false=Yw s:=by unfold Yw;rw [decide_eq_false(by omega)];rfl
theorem Jyc {j:Nat}(h0:(1:Int) < ((s.length:Nat):Int))(h:∀ i,1≤i→i < j→Qk(s.getD i 0).toNat=true)(hj:¬ (j:Int) < ((s.length:Nat):Int)):decide((((s.getD 0 0).toNat:Nat):Int)=69)=Yw s:=by
 unfold Yw;rw [decide_eq_true(show 1 < s.length by omega),Jzb h(by omega),Bool.true_and,Bool.and_true];refine decide_eq_decide.2⟨fun e=>?_,fun e=>by rw [e];rfl⟩;exact UInt8.toNat_inj.1(by have:(69:UInt8).toNat=69:=rfl;omega)
theorem Js0 {i:Nat}(h:∀ j,j < i→¬ Xi.getD j []=s)(hi:¬ (i:Int) < 12):Yw s=Yi s:=by
 unfold Yi;rw [decide_eq_false,Bool.false_or];intro hm;obtain⟨j,hj,e⟩:=List.mem_iff_getElem.1 hm;refine h j ?_ ?_
 ·have:Xi.length=12:=rfl
  omega
 ·rw [List.getD_eq_getElem?_getD,List.getElem?_eq_getElem hj];exact e
theorem Juu {i:Nat}(hi:i < 12)(h:Xi.getD i []=s):true=Yi s:=by
 unfold Yi;rw [decide_eq_true,Bool.true_or];rw [← h,List.getD_eq_getElem?_getD,List.getElem?_eq_getElem(show i < Xi.length from hi)];exact List.getElem_mem _
theorem Jx2 {j:Nat}(hj:j < s.length)(h:Qk(s.getD j 0).toNat=false):false=(s.all digB && decide(¬ s=[])):=by rw [Jl7(p:=digB)hj h];rfl
theorem dg_hi {j:Nat}(hj:j < s.length)(h:128≤(s.getD j 0).toNat):false=(s.all digB && decide(¬ s=[])):=Jx2 hj(j1 h)
theorem Jqp {j:Nat}(h:∀ i,i < j→Qk(s.getD i 0).toNat=true)(hj:s.length≤j){b:Bool}(hb:b=decide(¬ s=[])):b=(s.all digB && decide(¬ s=[])):=by
 rw [jp.2 fun i hi=>h i(by omega),Bool.true_and];exact hb
theorem nm_E(h0:¬ s=[])(hw:s ∉ Xi)(h2:¬ (20:Int) < ((s.length:Nat):Int))(h3:Q4(s.getD 0 0).toNat=true)(h5:∀ j,j < s.length→okB(s.getD j 0)=true)(h:¬ (((s.getD 0 0).toNat:Nat):Int)=69):true=Ky s:=by
 have hp:=List.length_pos_iff.2 h0;refine Jqm(by omega)h2 h3 ?_ h5;unfold Yi Yw;rw [decide_eq_false hw,decide_eq_false(show ¬ s.getD 0 0=69 from fun e=>h(by rw [e];rfl))];simp
theorem nm_D(h0:¬ s=[])(hw:s ∉ Xi)(h2:¬ (20:Int) < ((s.length:Nat):Int))(h3:Q4(s.getD 0 0).toNat=true)(h5:∀ j,j < s.length→okB(s.getD j 0)=true)(h:(((s.getD 0 0).toNat:Nat):Int)=69):
  (!((s.drop 1).all digB && decide(¬ s.drop 1=[])))=Ky s:=by
 have hp:=List.length_pos_iff.2 h0;have he:s.getD 0 0=69:=UInt8.toNat_inj.1(by have:(69:UInt8).toNat=69:=rfl;omega);have hd:decide(¬ s.drop 1=[])=decide(1 < s.length):=decide_eq_decide.2(by
  have h1:¬ s.drop 1=[]↔0 < (s.drop 1).length:=(List.length_pos_iff(l:=s.drop 1)).symm;rw [h1,List.length_drop];omega)
 have hr:Yi s=((s.drop 1).all digB && decide(1 < s.length)):=by
  unfold Yi Yw;rw [decide_eq_false hw,he];simp [Bool.and_comm]
 unfold Ky;rw [decide_eq_true(show 1≤s.length by omega),decide_eq_true(show s.length≤20 by omega),h3,jp.2 h5,hr,hd];simp
end
end Go.Wf
namespace Go.Wf
open Go Go.Proofs Go.RowKit
set_option linter.unusedVariables false
set_option linter.unusedSimpArgs false
def ItB(w:World)(g:Nat)(s:List UInt8)(pos:Nat):Prop:=w.heap[g]? =some(.stringIter⟨s.toArray⟩pos)
theorem ItB.lt {w:World}{g:Nat}{s:List UInt8}{pos:Nat}(h:ItB w g s pos):g < w.heap.size:=(Array.getElem?_eq_some_iff.1 h).1
structure Itr(w0:Bs)(y:Nat→Prop)(w:World)(g:Nat)(s:List UInt8)(pos:Nat):Prop where
 mem:y g
 ge:w0.heap.size≤g∨w0.M g
 blk:ItB w g s pos
section
variable {w0:Bs}{X0 x y x' y':Nat→Prop}{w w':World}{g g':Nat}{s:List UInt8}{pos:Nat}
theorem Itr.sp {ch:Nat→Prop}(h:Itr w0 y w g s pos)(p:Sp x y w x' y' w' ch)(hn:¬ ch g):Itr w0 y' w' g s pos:=⟨p.up _ h.mem,h.ge,(p.same g h.blk.lt hn).trans h.blk⟩
theorem Itr.spn(h:Itr w0 y w g s pos)(p:Sp x y w x' y' w' Zp):Itr w0 y' w' g s pos:=h.sp p id
theorem Itr.spo(h:Itr w0 y w g s pos)(p:Sp x y w x' y' w'(· =g'))(hn:g≠g'):Itr w0 y' w' g s pos:=h.sp p hn
theorem Cx.iter(C:Cx X0 w0 x y w)(s:List UInt8):
  Cx X0 w0(fun b=>x b∨b=w.heap.size)(fun b=>y b∨b=w.heap.size)(w.alloc(.stringIter⟨s.toArray⟩ 0))∧
  Sp x y w(fun b=>x b∨b=w.heap.size)(fun b=>y b∨b=w.heap.size)(w.alloc(.stringIter⟨s.toArray⟩ 0))Zp∧
  Itr w0(fun b=>y b∨b=w.heap.size)(w.alloc(.stringIter⟨s.toArray⟩ 0))w.heap.size s 0:=by
 have hle:=C.below.size;refine⟨⟨C.below.trans((Y6 w _).mono hle),fun b h=> .inl(C.base b h),?_,?_⟩,⟨?_,?_,fun _ h=> .inl h,fun b hb _=>Yd hb⟩,⟨.inr rfl,.inl hle,heap_alloc_new _ _⟩⟩
 ·rintro b(h | rfl)
  ·have:=C.bd b h;simp;omega
  ·simp
 ·rintro b(h | rfl)
  ·exact .inl(C.yx b h)
  ·exact .inr rfl
 ·refine⟨?_,fun b hb _=>Yd hb,by simp⟩;rintro b hb(h | rfl)
  ·exact h
  ·omega
 ·refine⟨?_,fun b hb _=>Yd hb,by simp⟩;rintro b hb(h | rfl)
  ·exact h
  ·omega
def V7(w:World)(g:Nat)(s:List UInt8)(pos:Nat):World:={w with heap:=w.heap.setIfInBounds g(.stringIter⟨s.toArray⟩pos)}
theorem Cx.itSet(C:Cx X0 w0 x y w)(I:Itr w0 y w g s pos)(q:Nat):Cx X0 w0 x y(V7 w g s q)∧Sp x y w x y(V7 w g s q)(· =g)∧Itr w0 y(V7 w g s q)g s q:=by
 have hs:(Wf.itSet w g s q).heap.size=w.heap.size:=by simp [Wf.itSet]
 have ho:∀ b,b≠g→(Wf.itSet w g s q).heap[b]? =w.heap[b]? :=fun b hb=>by simp [Wf.itSet,Array.getElem?_setIfInBounds,Ne.symm hb]
 have hb:Bel⟨w,(· =g)⟩(Wf.itSet w g s q):=⟨rfl,rfl,rfl,by rw [hs];exact Nat.le_refl _,fun k hk hm=>ho k hm⟩;refine⟨⟨C.below.turn hb I.ge,C.base,fun b h=>by rw [hs];exact C.bd b h,C.yx⟩,⟨⟨fun _ _ h=>h,fun b hb hx=>ho b fun e=>hx(e ▸ C.yx _ I.mem),by rw [hs];exact Nat.le_refl _⟩,⟨fun _ _ h=>h,fun b hb hx=>ho b fun e=>hx(e ▸ I.mem),by rw [hs];exact Nat.le_refl _⟩,fun _ h=>h,fun b hb hn=>ho b hn⟩,⟨I.mem,I.ge,?_⟩⟩;simp [ItB,Wf.itSet,Array.getElem?_setIfInBounds,I.blk.lt]
end
section
variable {P:Program}{ρ:Operand→Value}{w:World}{K:Value→World→Prop}{Kp:List PanicEntry→World→Prop}{dst:Option Tmp}{ty:TypeId}{pos:String}{after:Array Edge}{gd:Option(Nat × Bool)}{X0 x y:Nat→Prop}{w0:Bs}
theorem J4n {t:TypeId}{a:Operand}{s:List UInt8}(C:Cx X0 w0 x y w)(ht:P.underlying t=some .string)(hx:ρ a=str s)
  (h:∀ g w' x' y',(∀ b,b < w.heap.size→b≠g)→Cx X0 w0 x' y' w'→Sp x y w x' y' w' Zp→Itr w0 y' w' g s 0→K(.pointer(some⟨g,0,none⟩))w'):
  St P ρ⟨dst,.range t a,ty,pos,after,gd⟩w K Kp:=by
 obtain⟨c,p,i⟩:=C.iter s;refine J29(v:= .pointer(some⟨w.heap.size,0,none⟩))(w':=w.alloc(.stringIter⟨s.toArray⟩ 0))?_(h _ _ _ _(fun b hb=>by omega)c p i);simp only [execOp,hx,str]
 have:=run_range_string(P:=P)w t⟨s.toArray⟩ht
 simp [this,World.iter]
theorem Jpl {w:World}{g:Nat}{s:List UInt8}{q:Nat}{ty:TypeId}(h:ItB w g s q)(hq:s.length≤q):(Instr.next(.pointer(some⟨g,0,none⟩))true ty).run P w= .ok(.tuple #[.bool false])w:=by
 have hn:¬ q < (⟨s.toArray⟩:ByteArray).size:=by simp [ByteArray.size];omega
 simp [Instr.next,getObj,Sem.run,show w.heap[g]? =_ from h,hn]
theorem Jnn {w:World}{g:Nat}{s:List UInt8}{q:Nat}{ty:TypeId}(h:ItB w g s q)(hq:q < s.length):
  (Instr.next(.pointer(some⟨g,0,none⟩))true ty).run P w= .ok(.tuple #[.bool true,.int .i64 q,.int .i32(Utf8.decode⟨s.toArray⟩q).1])(V7 w g s(q+(Utf8.decode⟨s.toArray⟩q).2)):=by
 have hn:q < (⟨s.toArray⟩:ByteArray).size:=by simp [ByteArray.size];omega
 simp [Instr.next,getObj,setObj,Sem.run,show w.heap[g]? =_ from h,hn,V7,goInt]
theorem J4s {it:Operand}{g:Nat}{s:List UInt8}{q:Nat}(C:Cx X0 w0 x y w)(I:Itr w0 y w g s q)(hx:ρ it= .pointer(some⟨g,0,none⟩))
  (he:s.length≤q→K(.tuple #[.bool false])w)
  (ha:∀ w',q < s.length→(s.getD q 0).toNat < 128→Cx X0 w0 x y w'→Sp x y w x y w'(· =g)→Itr w0 y w' g s(q+1)→K(.tuple #[.bool true,.int .i64 q,.int .i32(((s.getD q 0).toNat:Nat):Int)])w')
  (hh:∀ w' r p,q < s.length→128≤(s.getD q 0).toNat→128≤r→Cx X0 w0 x y w'→Sp x y w x y w'(· =g)→Itr w0 y w' g s p→K(.tuple #[.bool true,.int .i64 q,.int .i32((r:Nat):Int)])w'):
  St P ρ⟨dst,.next it true,ty,pos,after,gd⟩w K Kp:=by
 rcases Nat.lt_or_ge q s.length with hq | hq
 ·obtain⟨c,p,i⟩:=C.itSet I(q+(Utf8.decode⟨s.toArray⟩q).2);refine J29(v:= .tuple #[.bool true,.int .i64 q,.int .i32(Utf8.decode⟨s.toArray⟩q).1])(w':=Wf.itSet w g s(q+(Utf8.decode⟨s.toArray⟩q).2))?_ ?_
  ·simp [execOp,hx,Jnn I.blk hq]
  ·have hn:q < (⟨s.toArray⟩:ByteArray).size:=by simp [ByteArray.size];omega
   have hb:((⟨s.toArray⟩:ByteArray)[q]'hn)=s.getD q 0:=by
    rw [List.getD_eq_getElem?_getD,List.getElem?_eq_getElem hq];rfl
   rcases Nat.lt_or_ge(s.getD q 0).toNat 128 with h1 | h1
   ·have hd:=decode_ascii⟨s.toArray⟩q hn(by rw [hb];exact h1);rw [hb] at hd;rw [hd] at c p i ⊢;exact ha _ hq h1 c p i
   ·have hd:=decode_high⟨s.toArray⟩q hn(by rw [hb];exact h1);exact hh _ _ _ hq h1 hd.1 c p i
 ·refine J29(v:= .tuple #[.bool false])(w':=w)?_(he hq);simp [execOp,hx,Jpl I.blk hq]
end
section
variable {P:Program}{ρ:Operand→Value}{w:World}{K:Value→World→Prop}{Kp:List PanicEntry→World→Prop}{dst:Option Tmp}{ty:TypeId}{pos:String}{after:Array Edge}{gd:Option(Nat × Bool)}{X0 x y:Nat→Prop}{w0:Bs}
theorem J4d {α:Type}{T:Ty α}{E t:TypeId}{z u:Value}{by_ g:Nat}{m:List α}{a b:Operand}(C:Cx X0 w0 x y w)(ht:P.underlying t=some(.slice E))(hi:Zf P E=some(z,T.sz,by_))(hx:ρ a= .slice(some⟨g,0,none⟩) 0 0)(hy:ρ b=u)
  (hs:RS T x w u m)(h63:m.length≤maxLen)(hby:m.length * by_≤140737488355328)(hz:z.cells.size=T.sz)
  (h:∀ v' w',Cx X0 w0 x y w'→Sp x y w x y w' Zp→RS T x w' v' m→K v' w'):
  St P ρ⟨dst,.call {callee:= .builtin .append,args:= #[a,b],argTypes:= #[t,t]},ty,pos,after,gd⟩w K Kp:=by
 obtain⟨inf,hi',hz',hsz,hbyt⟩:=Jr hi;obtain⟨css',k1,k2,ad,c,rfl,k3⟩:=V6 hs;have hal':=Q6 k1 k2
 by_cases hml:m=[]
 ·subst hml;have hrun:(Builtin.append_ #[t,t] ty #[.slice(some⟨g,0,none⟩) 0 0,.slice ad([]:List α).length c]).run P w= .ok(.slice(some⟨g,0,none⟩) 0 0)w:=by
   cases ad <;> simp [Builtin.append_,run_underlying ht,sizeOf,typeInfo,hi',Builtin.lenOf,Builtin.firstCells,loadCells,loadCellsFrom,storeCells]
  refine J29(v:= .slice(some⟨g,0,none⟩) 0 0)(w':=w)(by simp only [List.length_nil] at hrun hy;simp [execOp,resolve,invoke,builtin,hx,hy,hrun])(h _ _ C Sp.refl⟨_,0,rfl,Nat.le_refl _,by unfold maxLen;omega,.inl rfl⟩)
 ·rcases k3 with k3 | ⟨bb,oo,rfl,hcell⟩
  ·exact absurd k3 hml
  have hmpos:0 < m.length:=List.length_pos_iff.2 hml;have hnl:css'.flatten.length=m.length * T.sz:=by
   have:∀ (css:List(List Value)),(∀ cs ∈ css,cs.length=T.sz)→css.flatten.length=css.length * T.sz:=by
    intro css
    induction css with
    | nil=>intro _;simp
    | cons c css ih=>intro hh;rw [List.flatten_cons,List.length_append,hh c(by simp),ih fun cs h=>hh cs(by simp [h]),List.length_cons,Nat.succ_mul];omega
   rw [this css' hal',k1]
  have hnews:∀ j u,css'.flatten[j]? =some u→w.cell? ((⟨bb,oo,none⟩:Addr).add j)=some u:=fun j u hj=>by rw [Addr.add_lit];exact hcell j u hj
  have hr:=run_append_grow(P:=P)w t ty E inf z ht hi' hz'⟨g,0,none⟩ 0 0 [](by simp)(fun j v hj=>by simp at hj)⟨bb,oo,none⟩m.length c css'.flatten(by rw [hnl,hsz])hnews(by omega)(by simp only [maxLen] at h63;omega)
   (by rw [hbyt];exact growslice_fits(by omega)(by rw [Nat.zero_add];exact hby))
  simp only [Nat.zero_add,List.nil_append] at hr;refine J29(v:= .slice(some⟨w.heap.size,0,none⟩)m.length(grownCap w m.length 0 E))(w':=w.drew.alloc(.cells(#[]++css'.flatten.toArray++Builtin.zeroCells z.cells(grownCap w m.length 0 E - m.length))E))(by
   simp [execOp,resolve,invoke,builtin,hx,hy,hr])?_
  have hB:Below w.heap.size w(w.drew.alloc(.cells(#[]++css'.flatten.toArray++Builtin.zeroCells z.cells(grownCap w m.length 0 E - m.length))E)):=((Below.refl _ _).drew).alloc(Nat.le_refl _)_;obtain⟨C',S'⟩:=C.next hB;have ho:OS T E w0(fun b=>x b∨b=w.heap.size)y(w.drew.alloc(.cells(#[]++css'.flatten.toArray++Builtin.zeroCells z.cells(grownCap w m.length 0 E - m.length))E))(.slice(some⟨w.heap.size,0,none⟩)m.length(grownCap w m.length 0 E))m:=by
   refine⟨⟨css',k1,fun i cs u h1 h2=>T.tr(k2 i cs u h1 h2)⟨?_,S'.tx.blk,S'.tx.size⟩,by rw [hnl],.inr⟨w.heap.size,_,_,rfl,C.below.size,heap_alloc_new w.drew _,grownCap_ge w _ _ E,grownCap_le_maxLen w _ _ E(by simpa using h63),?_,?_⟩⟩,fun k hk=>?_⟩
   ·rintro b hb(h | rfl)
    ·exact h
    ·exact absurd hb(Nat.lt_irrefl _)
   ·have hge:=grownCap_ge w m.length 0 E;simp only [Array.size_append,List.size_toArray,size_zeroCells,hz,hnl,Array.size_empty,List.length_nil,Nat.zero_add,← Nat.add_mul]
    congr 1;omega
   ·simp only [Array.toList_append,Array.toList_empty,List.nil_append,← hnl];exact List.take_left
   ·simp [Value.ownBlock] at hk;subst hk;exact⟨.inr rfl,fun hy=>by have:=C.bd _(C.yx _ hy);omega⟩
  exact h _ _ C' S'(ho.pub(fun _ h=> .inl h)fun k hk=>by
   simp [Value.ownBlock] at hk;subst hk;exact fun hx=>by have:=C.bd _ hx;omega)
end
section
variable {P:Program}{ρ:Operand→Value}{w:World}{K:Value→World→Prop}{Kp:List PanicEntry→World→Prop}{dst:Option Tmp}{ty:TypeId}{pos:String}{after:Array Edge}{gd:Option(Nat × Bool)}{X0 x y:Nat→Prop}{w0:Bs}
theorem J42 {t E:TypeId}{z:Value}{by_:Nat}(C:Cx X0 w0 x y w)(ht:P.underlying t=some(.slice E))(hi:Zf P E=some(z,1,by_))
  (h:∀ g w',Cx X0 w0 x y w'→Sp x y w x y w' Zp→K(.slice(some⟨g,0,none⟩) 0 0)w'):
  St P ρ⟨dst,.buildSlice t 0 #[],ty,pos,after,gd⟩w K Kp:=by
 refine J4t(T:=Jc)C ht hi fun g w' x' C' S' up ho=>h g w'⟨C'.below,C.base,fun b hb=>Nat.lt_of_lt_of_le(C.bd b hb)S'.tx.size,C.yx⟩⟨⟨fun _ _ h=>h,S'.tx.blk,S'.tx.size⟩,S'.ty,fun _ h=>h,S'.same⟩
def RU(X0:Nat→Prop)(b0:Bs)(x y:Nat→Prop):Unit→World→Unit→World→Prop:=fun _ w _ w'=>Cx X0 b0 x y w'∧Sp x y w x y w' Zp
def ur {α:Type}(x:Nat→Prop)(T:Ty α)(m:α):Unit→Value→World→Prop:=fun _ v w=>RV T x w v m
def us {α:Type}(x:Nat→Prop)(T:Ty α)(m:List α):Unit→Value→World→Prop:=fun _ v w=>RS T x w v m
def uE {α:Type}(x:Nat→Prop)(T:Ty α)(m:α):Unit→Value→World→Prop:=fun _ v w=>∃ (b o:Nat)(cs:List Value),v= .pointer(some⟨b,o,none⟩)∧ElAt T x w b o cs m
def u0 {τ:Type}:τ→Value→World→Prop:=fun _ v _=>∃ g,v= .slice(some⟨g,0,none⟩) 0 0
theorem tr {b0:Bs}{α:Type}{T:Ty α}{m:α}:∀ v s w s' w',ur x T m s v w→RU X0 b0 x y s w s' w'→ur x T m s' v w':=fun _ _ _ _ _ h r=>RV.tr h r.2.tx
theorem ts {b0:Bs}{α:Type}{T:Ty α}{m:List α}:∀ v s w s' w',us x T m s v w→RU X0 b0 x y s w s' w'→us x T m s' v w':=fun _ _ _ _ _ h r=>RS.tr h r.2.tx
theorem tE {b0:Bs}{α:Type}{T:Ty α}{m:α}:∀ v s w s' w',uE x T m s v w→RU X0 b0 x y s w s' w'→uE x T m s' v w':=fun _ _ _ _ _⟨b,o,cs,e,h⟩r=>⟨b,o,cs,e,h.tr r.2.tx⟩
end
section
variable {fc:Fence}[Fw fc]{P:Program}{ops:Array Oper}{n:Nat}{D:List Deferred}{Q:Post}{f0:Fr}{w0:World}
theorem J4p {id:Nat}(hm:P.follows .mixedOrders=true)(m:Nat)(dl:List(List Nat)){X0 x y:Nat→Prop}{b0:Bs}(C:Cx X0 b0 x y w0)(Gl:List(Unit→Value→World→Prop))
  (chk:xl ops m n dl=true)(hG:Xn(RU X0 b0 x y)Gl)
  (h:∀ f w,Cx X0 b0 x y w→Sp x y w0 x y w Zp→Keep(Zo ops m)f0 f→xa P ops Q(RU X0 b0 x y)Gl f()w ops.toList dl 0∧(Deps ops Gl f()w(List.range m)→Sq P ops n Q(ops.toList.drop m)f w)):
  W fc P(Code.region id ops true)n D Q f0 w0:=
 J4b hm m dl()(RU X0 b0 x y)Gl chk(by obtain⟨c,s⟩:=C.next(Below.refl _ _).drew;exact⟨c,s⟩)(fun _ _ _ _ _ _ h k=>⟨k.1,h.2.trans k.2⟩)hG fun f s w r k=>h f w r.1 r.2 k
end
end Go.Wf
namespace Go.Wf
open Go Go.Proofs Go.RowKit
set_option maxRecDepth 100000
set_option linter.unusedVariables false
set_option linter.unusedSimpArgs false
set_option maxHeartbeats 1000000 in
theorem Jqe {X:Nat→Prop}{w:World}(hX:∀ b,X b→b < w.heap.size){n:Nat}  :Calls Tryz.prog 43 #[(.int .i32((n:Nat):Int))] w(Ret w fun v w'=>v=(.bool(Q4 n))):=by
 have C:=J26 hX;refine J25(args:=[(.int .i32((n:Nat):Int))])Tryz.func43 rfl rfl(Nat.le_of_ble_eq_true rfl)(Rg(Oa(Nl(Rg(Om(O rfl(J3s rfl rfl(fun hc1=>?_)(fun hc1=>?_))))))))
 ·refine Om(Og rfl rfl(St.move(Og rfl rfl(J35 rfl rfl(fun hc2=>?_)(fun hc2=>?_)))))
  ·exact OT(Om(Ox rfl rfl rfl(Ox rfl rfl rfl(Ox rfl rfl rfl(Oy rfl rfl(Oy rfl rfl(Ox rfl rfl rfl(OT(Oa(Nl(W.ret(Je rfl(resV.t rfl)(Ret.intro(congrArg(Value.bool)(Ji3(by omega)))C.below)))))))))))))
  refine OT(Om(Og rfl rfl(St.move(Og rfl rfl(J3s rfl rfl(fun hc3=>?_)(fun hc3=>?_))))))
  ·exact Og rfl rfl(St.move(Og rfl rfl(St.move(Og rfl rfl(St.leq rfl rfl rfl(Og rfl rfl(St.pick(t:=true)rfl(OF(Oa(Nl(W.ret(Je rfl(resV.t rfl)(Ret.intro(congrArg(Value.bool)(vt(by omega)))C.below)))))))))))))
  exact Og rfl rfl(St.move(Ox rfl rfl rfl(Ox rfl rfl rfl(Og rfl rfl(St.pick(t:=false)rfl(OF(Oa(Nl(W.ret(Je rfl(resV.t rfl)(Ret.intro(congrArg(Value.bool)(Jbn(by omega)))C.below)))))))))))
 refine Om(Ox rfl rfl rfl(Ox rfl rfl rfl(OF(Om(Og rfl rfl(St.move(Og rfl rfl(J3s rfl rfl(fun hc4=>?_)(fun hc4=>?_)))))))))
 ·exact Og rfl rfl(St.move(Og rfl rfl(St.move(Og rfl rfl(St.leq rfl rfl rfl(Og rfl rfl(St.pick(t:=true)rfl(OF(Oa(Nl(W.ret(Je rfl(resV.t rfl)(Ret.intro(congrArg(Value.bool)(vt(by omega)))C.below)))))))))))))
 exact Og rfl rfl(St.move(Ox rfl rfl rfl(Ox rfl rfl rfl(Og rfl rfl(St.pick(t:=false)rfl(OF(Oa(Nl(W.ret(Je rfl(resV.t rfl)(Ret.intro(congrArg(Value.bool)(Jbn(by omega)))C.below)))))))))))
set_option maxHeartbeats 1000000 in
theorem Jf0 {X:Nat→Prop}{w:World}(hX:∀ b,X b→b < w.heap.size){n:Nat}  :Calls Tryz.prog 44 #[(.int .i32((n:Nat):Int))] w(Ret w fun v w'=>v=(.bool(Qk n))):=by
 have C:=J26 hX;refine J25(args:=[(.int .i32((n:Nat):Int))])Tryz.func44 rfl rfl(Nat.le_of_ble_eq_true rfl)(Rg(Oa(Nl(Rg(Om(O rfl(J3s rfl rfl(fun hc1=>?_)(fun hc1=>?_))))))))
 ·exact Om(Og rfl rfl(St.move(Og rfl rfl(St.leq rfl rfl rfl(OT(Oa(Nl(W.ret(Je rfl(resV.t rfl)(Ret.intro(congrArg(Value.bool)(Jiu(by omega)))C.below))))))))))
 exact Om(Ox rfl rfl rfl(Ox rfl rfl rfl(OF(Oa(Nl(W.ret(Je rfl(resV.t rfl)(Ret.intro(congrArg(Value.bool)(Ji2(by omega)))C.below))))))))
set_option maxHeartbeats 1000000 in
theorem Jzu {X:Nat→Prop}{w:World}(hX:∀ b,X b→b < w.heap.size){n:Nat}  :Calls Tryz.prog 46 #[(.int .u8((n:Nat):Int))] w(Ret w fun v w'=>v=(.bool(Q4 n))):=by
 have C:=J26 hX;refine J25(args:=[(.int .u8((n:Nat):Int))])Tryz.func46 rfl rfl(Nat.le_of_ble_eq_true rfl)(Rg(Oa(Nl(Rg(Om(O rfl(J3s rfl rfl(fun hc1=>?_)(fun hc1=>?_))))))))
 ·refine Om(Og rfl rfl(St.move(Og rfl rfl(J35 rfl rfl(fun hc2=>?_)(fun hc2=>?_)))))
  ·exact OT(Om(Ox rfl rfl rfl(Ox rfl rfl rfl(Ox rfl rfl rfl(Oy rfl rfl(Oy rfl rfl(Ox rfl rfl rfl(OT(Oa(Nl(W.ret(Je rfl(resV.t rfl)(Ret.intro(congrArg(Value.bool)(Ji3(by omega)))C.below)))))))))))))
  refine OT(Om(Og rfl rfl(St.move(Og rfl rfl(J3s rfl rfl(fun hc3=>?_)(fun hc3=>?_))))))
  ·exact Og rfl rfl(St.move(Og rfl rfl(St.move(Og rfl rfl(St.leq rfl rfl rfl(Og rfl rfl(St.pick(t:=true)rfl(OF(Oa(Nl(W.ret(Je rfl(resV.t rfl)(Ret.intro(congrArg(Value.bool)(vt(by omega)))C.below)))))))))))))
  exact Og rfl rfl(St.move(Ox rfl rfl rfl(Ox rfl rfl rfl(Og rfl rfl(St.pick(t:=false)rfl(OF(Oa(Nl(W.ret(Je rfl(resV.t rfl)(Ret.intro(congrArg(Value.bool)(Jbn(by omega)))C.below)))))))))))
 refine Om(Ox rfl rfl rfl(Ox rfl rfl rfl(OF(Om(Og rfl rfl(St.move(Og rfl rfl(J3s rfl rfl(fun hc4=>?_)(fun hc4=>?_)))))))))
 ·exact Og rfl rfl(St.move(Og rfl rfl(St.move(Og rfl rfl(St.leq rfl rfl rfl(Og rfl rfl(St.pick(t:=true)rfl(OF(Oa(Nl(W.ret(Je rfl(resV.t rfl)(Ret.intro(congrArg(Value.bool)(vt(by omega)))C.below)))))))))))))
 exact Og rfl rfl(St.move(Ox rfl rfl rfl(Ox rfl rfl rfl(Og rfl rfl(St.pick(t:=false)rfl(OF(Oa(Nl(W.ret(Je rfl(resV.t rfl)(Ret.intro(congrArg(Value.bool)(Jbn(by omega)))C.below)))))))))))
set_option maxHeartbeats 1000000 in
theorem Jyl {X:Nat→Prop}{w:World}(hX:∀ b,X b→b < w.heap.size){n:Nat}  :Calls Tryz.prog 48 #[(.int .u8((n:Nat):Int))] w(Ret w fun v w'=>v=(.bool(Qk n))):=by
 have C:=J26 hX;refine J25(args:=[(.int .u8((n:Nat):Int))])Tryz.func48 rfl rfl(Nat.le_of_ble_eq_true rfl)(Rg(Oa(Nl(Rg(Om(O rfl(J3s rfl rfl(fun hc1=>?_)(fun hc1=>?_))))))))
 ·exact Om(Og rfl rfl(St.move(Og rfl rfl(St.leq rfl rfl rfl(OT(Oa(Nl(W.ret(Je rfl(resV.t rfl)(Ret.intro(congrArg(Value.bool)(Jiu(by omega)))C.below))))))))))
 exact Om(Ox rfl rfl rfl(Ox rfl rfl rfl(OF(Oa(Nl(W.ret(Je rfl(resV.t rfl)(Ret.intro(congrArg(Value.bool)(Ji2(by omega)))C.below))))))))
set_option maxHeartbeats 1000000 in
theorem Jnr {X:Nat→Prop}{w:World}(hX:∀ b,X b→b < w.heap.size){s:List UInt8}  :Calls Tryz.prog 45 #[(str s)] w(Ret w fun v w'=>v=(.bool(s.all digB && decide(¬ s=[])))):=by
 have C:=J26 hX;refine J25(args:=[(str s)])Tryz.func45 rfl rfl(Nat.le_of_ble_eq_true rfl)(Rg(Oa(Nl(Rh(Om(O rfl(J4n C un9 rfl ?_)))))));intro g1 w2 x3 y4 lt5 C6 s7 o8;refine Nl(W.block(J3g(fun μ f v=>∃ (x y:Nat→Prop)(i:Nat),Cx X w x y v∧f 0=(str s)∧f 6=(.pointer(some⟨g1,0,none⟩))∧Itr w y v g1 s i∧i≤s.length∧(∀ j,j < i→Qk(s.getD j 0).toNat=true)∧μ=(s.length - i))_⟨_,_,0,C6,rfl,rfl,o8,(Nat.zero_le _),(fun _ h=>absurd h(Nat.not_lt_zero _)),rfl⟩ ?_));rintro m18 f9 w10⟨x11,y12,i,C13,e14,e15,o16,hi,hall,hmu17⟩;obtain⟨f19,rfl⟩:=rebK(aC e14(aC e15 aN));clear e14 e15;refine Rg(O rfl(J4s C13 o16 rfl(fun hq20=>?_)(fun w21 hq22 h26 C23 s24 o25=>?_)(fun w27 r32 p33 hq28 h34 h35 C29 s30 o31=>?_)))
 ·refine O rfl(St.extract rfl rfl(Nl(W.seq(J22 rfl(W.exit(Rg(Om(O rfl(J39 rfl rfl(fun hc36=>?_)(fun hc36=>?_))))))))))
  ·exact Oa(Nl(W.ret(Je rfl(resV.t rfl)(Ret.intro(congrArg(Value.bool)(Jqp hall hq20(by simp [hc36])))C13.below))))
  exact Oa(Nl(W.ret(Je rfl(resV.t rfl)(Ret.intro(congrArg(Value.bool)(Jqp hall hq20(by simp [hc36])))C13.below))))
 ·refine O rfl(St.extract rfl rfl(Nl(W.seq(J20 rfl(W.skip(W.block(Rg(O rfl(St.extract rfl rfl(Oa(Nl(Rg(Om(O rfl(St.bool(J2z C23 cb44 rfl rfl(Jf0 C23.bd(n:=((s).getD i 0).toNat))?_))))))))))))))));intro v37 w38 C39 s40 h41;replace o25:=o25.spn s40;refine⟨_,h41,fun hb42=>?_,fun hb42=>?_⟩
  ·refine O rfl(St.not rfl(Nl(J22 rfl(W.skip(⟨_,(by omega),_,_,(i+1),C39,rfl,rfl,o25,(by omega),(Ks hall hb42),rfl⟩)))))
  exact O rfl(St.not rfl(Nl(J20 rfl(Rg(Oa(Nl(W.ret(Je rfl(resV.t rfl)(Ret.intro(congrArg(Value.bool)(Jx2 hq22 hb42))C39.below)))))))))
 refine O rfl(St.extract rfl rfl(Nl(W.seq(J20 rfl(W.skip(W.block(Rg(O rfl(St.extract rfl rfl(Oa(Nl(Rg(Om(O rfl(St.bool(J2z C29 cb44 rfl rfl(Jf0 C29.bd(n:=r32))?_))))))))))))))));intro v43 w44 C45 s46 h47;refine⟨_,h47,fun hb48=>?_,fun hb48=>?_⟩
 ·exact O rfl(St.not rfl(Nl(J22 rfl(W.skip(Jqj h35 hb48)))))
 exact O rfl(St.not rfl(Nl(J20 rfl(Rg(Oa(Nl(W.ret(Je rfl(resV.t rfl)(Ret.intro(congrArg(Value.bool)(dg_hi hq28 h34))C45.below)))))))))
set_option maxHeartbeats 4000000 in
theorem vi {X:Nat→Prop}{w:World}(hX:∀ b,X b→b < w.heap.size){s:List UInt8}  :Calls Tryz.prog 18 #[(str s)] w(Ret w fun v w'=>v=(.bool(Ky s))):=by
 have C:=J26 hX;refine J25(args:=[(str s)])Tryz.func18 rfl rfl(Nat.le_of_ble_eq_true rfl)(Rg(Oa(Nl(Rh(Om(O rfl(J37 un9 rfl(O rfl(J3n rfl rfl(fun hc1=>?_)(fun hc1=>?_))))))))))
 ·exact Nl(J20 rfl(Rg(Oa(Nl(W.ret(Je rfl(resV.t rfl)(Ret.intro(congrArg(Value.bool)(Jln hc1))C.below)))))))
 refine Nl(J22 rfl(W.skip(Rh(Om(O rfl(J4n C un9 rfl ?_))))));intro g2 w3 x4 y5 lt6 C7 s8 o9;refine Nl(W.block(J3g(fun μ f v=>∃ (x y:Nat→Prop)(i:Nat),Cx X w x y v∧f 0=(str s)∧f 9=(.pointer(some⟨g2,0,none⟩))∧Itr w y v g2 s i∧i≤s.length∧(0 < i→Q4(s.getD 0 0).toNat=true)∧(∀ j,j < i→okB(s.getD j 0)=true)∧μ=(s.length - i))_⟨_,_,0,C7,rfl,rfl,o9,(Nat.zero_le _),(fun h=>absurd h(Nat.not_lt_zero _)),(fun _ h=>absurd h(Nat.not_lt_zero _)),rfl⟩ ?_));rintro m19 f10 w11⟨x12,y13,i,C14,e15,e16,o17,hi,hfst,hall,hmu18⟩;obtain⟨f20,rfl⟩:=rebK(aC e15(aC e16 aN));clear e15 e16;refine Rg(O rfl(J4s C14 o17 rfl(fun hq21=>?_)(fun w22 hq23 h27 C24 s25 o26=>?_)(fun w28 r33 p34 hq29 h35 h36 C30 s31 o32=>?_)))
 ·refine O rfl(St.extract rfl rfl(Nl(W.seq(J22 rfl(W.exit(Rh(Om(Nl(W.block(Rh(O rfl(J32 rfl rfl(fun hc37=>?_)(fun hc37=>?_)))))))))))))
  ·exact Oa(Nl(J20 rfl(W.skip(J20 rfl(Rg(Oa(Nl(W.ret(Je rfl(resV.t rfl)(Ret.intro(congrArg(Value.bool)(Jzf hc37))C14.below))))))))))
  refine Oa(Nl(J22 rfl(Rg(O rfl(J32 rfl rfl(fun hc38=>?_)(fun hc38=>?_))))))
  ·exact Oa(Nl(J20 rfl(W.skip(J20 rfl(Rg(Oa(Nl(W.ret(Je rfl(resV.t rfl)(Ret.intro(congrArg(Value.bool)(Kz(by rw [hc38];decide)))C14.below))))))))))
  refine Oa(Nl(J22 rfl(Rg(O rfl(J32 rfl rfl(fun hc39=>?_)(fun hc39=>?_))))))
  ·exact Oa(Nl(J20 rfl(W.skip(J20 rfl(Rg(Oa(Nl(W.ret(Je rfl(resV.t rfl)(Ret.intro(congrArg(Value.bool)(Kz(by rw [hc39];decide)))C14.below))))))))))
  refine Oa(Nl(J22 rfl(Rg(O rfl(J32 rfl rfl(fun hc40=>?_)(fun hc40=>?_))))))
  ·exact Oa(Nl(J20 rfl(W.skip(J20 rfl(Rg(Oa(Nl(W.ret(Je rfl(resV.t rfl)(Ret.intro(congrArg(Value.bool)(Kz(by rw [hc40];decide)))C14.below))))))))))
  refine Oa(Nl(J22 rfl(Rg(O rfl(J32 rfl rfl(fun hc41=>?_)(fun hc41=>?_))))))
  ·exact Oa(Nl(J20 rfl(W.skip(J20 rfl(Rg(Oa(Nl(W.ret(Je rfl(resV.t rfl)(Ret.intro(congrArg(Value.bool)(Kz(by rw [hc41];decide)))C14.below))))))))))
  refine Oa(Nl(J22 rfl(Rg(O rfl(J32 rfl rfl(fun hc42=>?_)(fun hc42=>?_))))))
  ·exact Oa(Nl(J20 rfl(W.skip(J20 rfl(Rg(Oa(Nl(W.ret(Je rfl(resV.t rfl)(Ret.intro(congrArg(Value.bool)(Kz(by rw [hc42];decide)))C14.below))))))))))
  refine Oa(Nl(J22 rfl(Rg(O rfl(J32 rfl rfl(fun hc43=>?_)(fun hc43=>?_))))))
  ·exact Oa(Nl(J20 rfl(W.skip(J20 rfl(Rg(Oa(Nl(W.ret(Je rfl(resV.t rfl)(Ret.intro(congrArg(Value.bool)(Kz(by rw [hc43];decide)))C14.below))))))))))
  refine Oa(Nl(J22 rfl(Rg(O rfl(J32 rfl rfl(fun hc44=>?_)(fun hc44=>?_))))))
  ·exact Oa(Nl(J20 rfl(W.skip(J20 rfl(Rg(Oa(Nl(W.ret(Je rfl(resV.t rfl)(Ret.intro(congrArg(Value.bool)(Kz(by rw [hc44];decide)))C14.below))))))))))
  refine Oa(Nl(J22 rfl(Rg(O rfl(J32 rfl rfl(fun hc45=>?_)(fun hc45=>?_))))))
  ·exact Oa(Nl(J20 rfl(W.skip(J20 rfl(Rg(Oa(Nl(W.ret(Je rfl(resV.t rfl)(Ret.intro(congrArg(Value.bool)(Kz(by rw [hc45];decide)))C14.below))))))))))
  refine Oa(Nl(J22 rfl(Rg(O rfl(J32 rfl rfl(fun hc46=>?_)(fun hc46=>?_))))))
  ·exact Oa(Nl(J20 rfl(W.skip(J20 rfl(Rg(Oa(Nl(W.ret(Je rfl(resV.t rfl)(Ret.intro(congrArg(Value.bool)(Kz(by rw [hc46];decide)))C14.below))))))))))
  refine Oa(Nl(J22 rfl(Rg(O rfl(J32 rfl rfl(fun hc47=>?_)(fun hc47=>?_))))))
  ·exact Oa(Nl(J20 rfl(W.skip(J20 rfl(Rg(Oa(Nl(W.ret(Je rfl(resV.t rfl)(Ret.intro(congrArg(Value.bool)(Kz(by rw [hc47];decide)))C14.below))))))))))
  refine Oa(Nl(J22 rfl(Rg(O rfl(J32 rfl rfl(fun hc48=>?_)(fun hc48=>?_))))))
  ·exact Oa(Nl(J20 rfl(W.skip(J20 rfl(Rg(Oa(Nl(W.ret(Je rfl(resV.t rfl)(Ret.intro(congrArg(Value.bool)(Kz(by rw [hc48];decide)))C14.below))))))))))
  refine Oa(Nl(J22 rfl(W.region(O rfl(J32 rfl rfl(fun hc49=>?_)(fun hc49=>?_))))))
  ·exact Oa(Nl(J20 rfl(Rg(Oa(Nl(W.ret(Je rfl(resV.t rfl)(Ret.intro(congrArg(Value.bool)(Kz(by rw [hc49];decide)))C14.below))))))))
  refine Oa(Nl(J22 rfl(W.skip(Rg(Om(O rfl(J3z(j:=0)(c:=(s.getD 0 0))un9 rfl rfl rfl(Jg(List.length_pos_iff.2 hc37))(O rfl(J3h rfl rfl(fun hc50=>?_)(fun hc50=>?_))))))))))
  ·exact Om(Ox rfl rfl rfl(Ox rfl rfl rfl(Ox rfl rfl rfl(Ox rfl rfl rfl(OT(Oa(Nl(W.ret(Je rfl(resV.t rfl)(Ret.intro(congrArg(Value.bool)(nm_E hc37(by unfold Xi;simp only [List.mem_cons,List.not_mem_nil,or_false,not_or];exact⟨hc38,hc39,hc40,hc41,hc42,hc43,hc44,hc45,hc46,hc47,hc48,hc49⟩)hc1(hfst(by have:=List.length_pos_iff.2 hc37;omega))(fun j hj=>hall j(by omega))hc50))C14.below))))))))))
  refine Om(Og rfl rfl(St.move(Og rfl rfl(J4u(i:=1)un9 rfl rfl rfl(List.length_pos_iff.2 hc37)(Og rfl rfl(J2z C14 cb45 rfl rfl(Jnr C14.bd)?_))))));intro v51 w52 C53 s54 h55;subst h55;exact Og rfl rfl(St.not rfl(OF(Oa(Nl(W.ret(Je rfl(resV.t rfl)(Ret.intro(congrArg(Value.bool)(nm_D hc37(by unfold Xi;simp only [List.mem_cons,List.not_mem_nil,or_false,not_or];exact⟨hc38,hc39,hc40,hc41,hc42,hc43,hc44,hc45,hc46,hc47,hc48,hc49⟩)hc1(hfst(by have:=List.length_pos_iff.2 hc37;omega))(fun j hj=>hall j(by omega))hc50))C53.below)))))))
 ·refine O rfl(St.extract rfl rfl(Nl(W.seq(J20 rfl(W.skip(W.block(Rg(O rfl(St.extract rfl rfl(O rfl(St.extract rfl rfl(Oa(Oa(Nl(Rg(Om(O rfl(St.bool(J2z C24 cb43 rfl rfl(Jqe C24.bd(n:=((s).getD i 0).toNat))?_)))))))))))))))))));intro v56 w57 C58 s59 h60;replace o26:=o26.spn s59;refine⟨_,h60,fun hb61=>?_,fun hb61=>?_⟩
  ·refine O rfl(St.not rfl(Om(Ox rfl rfl rfl(Ox rfl rfl rfl(Ox rfl rfl rfl(Oy rfl rfl(Oy rfl rfl(Oy rfl rfl(Ox rfl rfl rfl(OF(Nl(J22 rfl(W.skip(⟨_,(by omega),_,_,(i+1),C58,rfl,rfl,o26,(by omega),(fun _=>(Nat.eq_zero_or_pos i).elim(fun e=>by rw [e] at hb61;exact hb61)hfst),(Ks hall(Jqb hb61)),rfl⟩))))))))))))))
  refine O rfl(St.not rfl(Om(Og rfl rfl(St.move(Og rfl rfl(J3c rfl rfl(fun hc62=>?_)(fun hc62=>?_)))))))
  ·exact Og rfl rfl(St.move(Ox rfl rfl rfl(Ox rfl rfl rfl(Ox rfl rfl rfl(Og rfl rfl(St.pick(t:=true)rfl(OT(Nl(J20 rfl(Rg(Oa(Nl(W.ret(Je rfl(resV.t rfl)(Ret.intro(congrArg(Value.bool)(Jix hb61 hc62))C58.below)))))))))))))))
  refine Og rfl rfl(St.move(Og rfl rfl(St.move(Og rfl rfl(St.bool(J2z C58 cb44 rfl rfl(Jf0 C58.bd(n:=((s).getD i 0).toNat))?_))))));intro v63 w64 C65 s66 h67;replace o26:=o26.spn s66;refine⟨_,h67,fun hb68=>?_,fun hb68=>?_⟩
  ·refine Og rfl rfl(St.not rfl(Og rfl rfl(St.pick(t:=false)rfl(OT(Nl(J22 rfl(W.skip(⟨_,(by omega),_,_,(i+1),C65,rfl,rfl,o26,(by omega),(fun _=>hfst(by omega)),(Ks hall(Jqc hb68)),rfl⟩))))))))
  exact Og rfl rfl(St.not rfl(Og rfl rfl(St.pick(t:=false)rfl(OT(Nl(J20 rfl(Rg(Oa(Nl(W.ret(Je rfl(resV.t rfl)(Ret.intro(congrArg(Value.bool)(Jgm hq23(Jrz hb61 hb68)))C65.below))))))))))))
 refine O rfl(St.extract rfl rfl(Nl(W.seq(J20 rfl(W.skip(W.block(Rg(O rfl(St.extract rfl rfl(O rfl(St.extract rfl rfl(Oa(Oa(Nl(Rg(Om(O rfl(St.bool(J2z C30 cb43 rfl rfl(Jqe C30.bd(n:=r33))?_)))))))))))))))))));intro v69 w70 C71 s72 h73;refine⟨_,h73,fun hb74=>?_,fun hb74=>?_⟩
 ·exact O rfl(St.not rfl(Om(Ox rfl rfl rfl(Ox rfl rfl rfl(Ox rfl rfl rfl(Oy rfl rfl(Oy rfl rfl(Oy rfl rfl(Ox rfl rfl rfl(OF(Nl(J22 rfl(W.skip(Jwk h36 hb74))))))))))))))
 refine O rfl(St.not rfl(Om(Og rfl rfl(St.move(Og rfl rfl(J3c rfl rfl(fun hc75=>?_)(fun hc75=>?_)))))))
 ·exact Og rfl rfl(St.move(Ox rfl rfl rfl(Ox rfl rfl rfl(Ox rfl rfl rfl(Og rfl rfl(St.pick(t:=true)rfl(OT(Nl(J20 rfl(Rg(Oa(Nl(W.ret(Je rfl(resV.t rfl)(Ret.intro(congrArg(Value.bool)(Jgm hq29(Jyz h35)))C71.below)))))))))))))))
 refine Og rfl rfl(St.move(Og rfl rfl(St.move(Og rfl rfl(St.bool(J2z C71 cb44 rfl rfl(Jf0 C71.bd(n:=r33))?_))))));intro v76 w77 C78 s79 h80;refine⟨_,h80,fun hb81=>?_,fun hb81=>?_⟩
 ·exact Og rfl rfl(St.not rfl(Og rfl rfl(St.pick(t:=false)rfl(OT(Nl(J22 rfl(W.skip(Jqj h36 hb81))))))))
 exact Og rfl rfl(St.not rfl(Og rfl rfl(St.pick(t:=false)rfl(OT(Nl(J20 rfl(Rg(Oa(Nl(W.ret(Je rfl(resV.t rfl)(Ret.intro(congrArg(Value.bool)(Jgm hq29(Jyz h35)))C78.below))))))))))))
set_option maxHeartbeats 1000000 in
theorem x_wt {X:Nat→Prop}{w:World}(hX:∀ b,X b→b < w.heap.size){s:List UInt8}(hl:s.length≤1000):Calls Tryz.prog 78 #[(str s)] w(Ret w fun v w'=>v=(.bool(Yw s))):=by
 have C:=J26 hX;refine J25(args:=[(str s)])Tryz.func78 rfl rfl(Nat.le_of_ble_eq_true rfl)(Rg(Oa(Nl(Rh(Oa(Nl(W.block(J3g(fun μ f v=>∃ (x y:Nat→Prop)(i:Nat),Cx X w x y v∧f 0=(str s)∧f 3=(.int .i64((i:Nat):Int))∧1≤i∧(∀ j,1≤j→j < i→Qk(s.getD j 0).toNat=true)∧μ=(s.length - i))_⟨_,_,1,C,rfl,rfl,(Nat.le_refl _),(fun j h h2=>absurd h2(Nat.not_lt.2 h)),rfl⟩ ?_))))))));rintro m9 f1 w2⟨x3,y4,i,C5,e6,e7,h1,hall,hmu8⟩;obtain⟨f10,rfl⟩:=rebK(aC e6(aC e7 aN));clear e6 e7;refine Rh(Om(Om(O rfl(J37 un9 rfl(O rfl(J3d rfl rfl(fun hc11=>?_)(fun hc11=>?_)))))))
 ·refine Nl(J20 rfl(W.skip(W.seq(W.block(Rg(Om(Om(O rfl(J3z(j:=i)(c:=(s.getD i 0))un9 rfl rfl rfl(Jg(by omega))(O rfl(St.bool(J2z C5 cb48 rfl rfl(Jyl C5.bd(n:=(s.getD i 0).toNat))?_))))))))))));intro v12 w13 C14 s15 h16;refine⟨_,h16,fun hb17=>?_,fun hb17=>?_⟩
  ·refine O rfl(St.not rfl(Nl(J22 rfl(W.skip(W.region(Om(O rfl(St.add rfl rfl(Jd(a:=i)(b:=1)(by omega))(Oa(Nl(⟨_,(by omega),_,_,(i+1),C14,rfl,rfl,(by omega),(fun j h h2=>by rcases Nat.lt_or_ge j i with h3 | h3;exact hall j h h3;rw [show j=i by omega];exact hb17),rfl⟩)))))))))))
  exact O rfl(St.not rfl(Nl(J20 rfl(Rg(Oa(Nl(W.ret(Je rfl(resV.t rfl)(Ret.intro(congrArg(Value.bool)(wt_no h1(by omega)hb17))C14.below)))))))))
 refine Nl(J22 rfl(W.exit(Rg(Om(O rfl(J37 un9 rfl(O rfl(J3n rfl rfl(fun hc18=>?_)(fun hc18=>?_)))))))))
 ·exact Om(Og rfl rfl(St.move(Og rfl rfl(J3z(j:=0)(c:=(s.getD 0 0))un9 rfl rfl rfl(Jg(by omega))(Og rfl rfl(St.eql rfl rfl rfl(OT(Oa(Nl(W.ret(Je rfl(resV.t rfl)(Ret.intro(congrArg(Value.bool)(Jyc hc18 hall(by omega)))C5.below))))))))))))
 exact Om(Ox rfl rfl rfl(Ox rfl rfl rfl(Ox rfl rfl rfl(OF(Oa(Nl(W.ret(Je rfl(resV.t rfl)(Ret.intro(congrArg(Value.bool)(Jz4 hc18))C5.below)))))))))
set_option maxHeartbeats 1000000 in
theorem x_res {X:Nat→Prop}{w:World}(hX:∀ b,X b→b < w.heap.size){s:List UInt8}(hl:s.length≤1000):Calls Tryz.prog 47 #[(str s)] w(Ret w fun v w'=>v=(.bool(Yi s))):=by
 have C:=J26 hX;refine J25(args:=[(str s)])Tryz.func47 rfl rfl(Nat.le_of_ble_eq_true rfl)(Rg(Oa(Nl(Rg(O rfl(J3r(T:=Jsm)(css:=[[(str [71])],[(str [101,116,97])],[(str [116,104,101,116,97])],[(str [68,101,108,116,97])],[(str [106])],[(str [110,101,119,102,111,114,109])],[(str [86])],[(str [85])],[(str [84])],[(str [116,119,105,115,116])],[(str [115,101,114,114,101])],[(str [98,114,97,99,107,101,116])]])(l:=[[71],[101,116,97],[116,104,101,116,97],[68,101,108,116,97],[106],[110,101,119,102,111,114,109],[86],[85],[84],[116,119,105,115,116],[115,101,114,114,101],[98,114,97,99,107,101,116]])C sl50 io9(by decide)(by decide)rfl(by kernel_rfl)⟨⟨rfl,(by unfold maxLen;simp)⟩,⟨rfl,(by unfold maxLen;simp)⟩,⟨rfl,(by unfold maxLen;simp)⟩,⟨rfl,(by unfold maxLen;simp)⟩,⟨rfl,(by unfold maxLen;simp)⟩,⟨rfl,(by unfold maxLen;simp)⟩,⟨rfl,(by unfold maxLen;simp)⟩,⟨rfl,(by unfold maxLen;simp)⟩,⟨rfl,(by unfold maxLen;simp)⟩,⟨rfl,(by unfold maxLen;simp)⟩,⟨rfl,(by unfold maxLen;simp)⟩,⟨rfl,(by unfold maxLen;simp)⟩,trivial⟩ ?_))))));intro g5 w1 C2 s3 h4;replace h4:RS Jsm X w1(.slice(some⟨g5,0,none⟩) 12 12)Xi:=h4;refine Oa(Nl(Rh(Oa(Nl(W.block(J3g(fun μ f v=>∃ (x y:Nat→Prop)(i:Nat),Cx X w x y v∧f 0=(str s)∧f 3=(.slice(some⟨g5,0,none⟩) 12 12)∧f 4=(.int .i64((i:Nat):Int))∧RS Jsm x v(.slice(some⟨g5,0,none⟩) 12 12)Xi∧i≤12∧(∀ j,j < i→¬ Xi.getD j []=s)∧μ=(12 - i))_⟨_,_,0,C2,rfl,rfl,rfl,h4,(Nat.zero_le _),(fun _ h=>absurd h(Nat.not_lt_zero _)),rfl⟩ ?_))))));rintro m17 f8 w9⟨x10,y11,i,C12,e13,e14,e15,h4,hi,hall,hmu16⟩;obtain⟨f18,rfl⟩:=rebK(aC e13(aC e14(aC e15 aN)));clear e13 e14 e15;refine Rh(Om(Om(O rfl(St.len sl50 rfl(O rfl(J3d rfl rfl(fun hc19=>?_)(fun hc19=>?_)))))))
 ·refine Nl(J20 rfl(W.skip(W.seq(W.block(Rg(Om(Om(O rfl(J3e(j:=i)(u:=(Xi.getD i []))h4 sl50 io9 rfl rfl rfl(Jg(show i < 12 by omega))?_)))))))));intro b20 o21 cs22 e23;obtain⟨rfl,bd24⟩:cs22=_∧_:=e23.rd;refine O rfl(J3a pl9 rfl(e23.cell 0 _ rfl)(Om(O rfl(J32 rfl rfl(fun hc25=>?_)(fun hc25=>?_)))))
  ·exact Nl(J20 rfl(Rg(Oa(Nl(W.ret(Je rfl(resV.t rfl)(Ret.intro(congrArg(Value.bool)(Juu(by omega)hc25))C12.below)))))))
  refine Nl(J22 rfl(W.skip(W.region(Om(O rfl(St.add rfl rfl(Jd(a:=i)(b:=1)(by omega))(Oa(Nl(⟨_,(by omega),_,_,(i+1),C12,rfl,rfl,rfl,h4,(by omega),(Ks hall hc25),rfl⟩)))))))))
 refine Nl(J22 rfl(W.exit(Rg(Om(O rfl(J2z C12 cb78 rfl rfl(x_wt C12.bd hl)?_))))));intro v26 w27 C28 s29 h30;subst h30;exact Oa(Nl(W.ret(Je rfl(resV.t rfl)(Ret.intro(congrArg(Value.bool)(Js0 hall(by omega)))C28.below))))
set_option maxHeartbeats 1000000 in
theorem Jgb {X:Nat→Prop}{w:World}(hX:∀ b,X b→b < w.heap.size){s:List UInt8}(hl:s.length≤1000):Calls Tryz.prog 19 #[(str s)] w(Ret w fun v w'=>v=(.bool(Ky s))):=by
 have C:=J26 hX;refine J25(args:=[(str s)])Tryz.func19 rfl rfl(Nat.le_of_ble_eq_true rfl)(Rg(Oa(Nl(Rh(Om(O rfl(J37 un9 rfl(O rfl(J3d rfl rfl(fun hc1=>?_)(fun hc1=>?_))))))))))
 ·refine Om(Ox rfl rfl rfl(Ox rfl rfl rfl(Ox rfl rfl rfl(OT(Om(Ox rfl rfl rfl(Ox rfl rfl rfl(Ox rfl rfl rfl(Ox rfl rfl rfl(OT(Om(Ox rfl rfl rfl(Ox rfl rfl rfl(OT(Nl(J20 rfl(Rg(Oa(Nl ?_)))))))))))))))))));exact W.ret(Je rfl(resV.t rfl)(Ret.intro(congrArg(Value.bool)(Jo6 hc1))C.below))
 refine Om(Og rfl rfl(St.move(Og rfl rfl(J37 un9 rfl(Og rfl rfl(J3n rfl rfl(fun hc2=>?_)(fun hc2=>?_)))))))
 ·exact OF(Om(Ox rfl rfl rfl(Ox rfl rfl rfl(Ox rfl rfl rfl(Ox rfl rfl rfl(OT(Om(Ox rfl rfl rfl(Ox rfl rfl rfl(OT(Nl(J20 rfl(Rg(Oa(Nl(W.ret(Je rfl(resV.t rfl)(Ret.intro(congrArg(Value.bool)(Jln hc2))C.below))))))))))))))))))
 refine OF(Om(Og rfl rfl(St.move(Og rfl rfl(J3z(j:=0)(c:=(s.getD 0 0))un9 rfl rfl rfl(Jg(by omega))(Og rfl rfl(St.bool(J2z C cb46 rfl rfl(Jzu C.bd(n:=(s.getD 0 0).toNat))?_))))))));intro v3 w4 C5 s6 h7;refine⟨_,h7,fun hb8=>?_,fun hb8=>?_⟩
 ·refine Og rfl rfl(St.not rfl(OF(Om(Og rfl rfl(St.move(Og rfl rfl(St.bool(J2z C5 cb47 rfl rfl(x_res C5.bd hl)?_))))))));intro v9 w10 C11 s12 h13;refine⟨_,h13,fun hb14=>?_,fun hb14=>?_⟩
  ·exact OF(Nl(J20 rfl(Rg(Oa(Nl(W.ret(Je rfl(resV.t rfl)(Ret.intro(congrArg(Value.bool)(Jq6 hb14))C11.below))))))))
  refine OF(Nl(J22 rfl(W.skip(Rh(Oa(Nl(W.block(J3g(fun μ f v=>∃ (x y:Nat→Prop)(i:Nat),Cx X w x y v∧f 0=(str s)∧f 3=(.int .i64((i:Nat):Int))∧i≤s.length∧(∀ j,j < i→okB(s.getD j 0)=true)∧μ=(s.length - i))_⟨_,_,0,C11,rfl,rfl,(Nat.zero_le _),(fun _ h=>absurd h(Nat.not_lt_zero _)),rfl⟩ ?_))))))));rintro m23 f15 w16⟨x17,y18,i,C19,e20,e21,hi,hall,hmu22⟩;obtain⟨f24,rfl⟩:=rebK(aC e20(aC e21 aN));clear e20 e21;refine Rh(Om(Om(O rfl(J37 un9 rfl(O rfl(J3d rfl rfl(fun hc25=>?_)(fun hc25=>?_)))))))
  ·refine Nl(J20 rfl(W.skip(W.seq(W.block(Rg(Om(Om(O rfl(J3z(j:=i)(c:=(s.getD i 0))un9 rfl rfl rfl(Jg(by omega))(O rfl(St.bool(J2z C19 cb46 rfl rfl(Jzu C19.bd(n:=(s.getD i 0).toNat))?_))))))))))));intro v26 w27 C28 s29 h30;refine⟨_,h30,fun hb31=>?_,fun hb31=>?_⟩
   ·refine O rfl(St.not rfl(Om(Ox rfl rfl rfl(Ox rfl rfl rfl(Ox rfl rfl rfl(Ox rfl rfl rfl(Ox rfl rfl rfl(OF(Nl(J22 rfl(W.skip(W.region(Om(O rfl(St.add rfl rfl(Jd(a:=i)(b:=1)(by omega))(Oa(Nl(⟨_,(by omega),_,_,(i+1),C28,rfl,rfl,(by omega),(Ks hall(Jqb hb31)),rfl⟩))))))))))))))))))
   refine O rfl(St.not rfl(Om(Og rfl rfl(St.move(Og rfl rfl(St.move(Og rfl rfl(J3z(j:=i)(c:=(s.getD i 0))un9 rfl rfl rfl(Jg(by omega))(Og rfl rfl(St.bool(J2z C28 cb48 rfl rfl(Jyl C28.bd(n:=(s.getD i 0).toNat))?_)))))))))));intro v32 w33 C34 s35 h36;refine⟨_,h36,fun hb37=>?_,fun hb37=>?_⟩
   ·refine Og rfl rfl(St.not rfl(OT(Nl(J22 rfl(W.skip(W.region(Om(O rfl(St.add rfl rfl(Jd(a:=i)(b:=1)(by omega))(Oa(Nl(⟨_,(by omega),_,_,(i+1),C34,rfl,rfl,(by omega),(Ks hall(Jqc hb37)),rfl⟩))))))))))))
   exact Og rfl rfl(St.not rfl(OT(Nl(J20 rfl(Rg(Oa(Nl(W.ret(Je rfl(resV.t rfl)(Ret.intro(congrArg(Value.bool)(Jgm(by omega)(Jrz hb31 hb37)))C34.below))))))))))
  exact Nl(J22 rfl(W.exit(Rg(Oa(Nl(W.ret(Je rfl(resV.t rfl)(Ret.intro(congrArg(Value.bool)(Jqm hc1 hc2 hb8 hb14(fun j hj=>hall j(by omega))))C19.below))))))))
 exact Og rfl rfl(St.not rfl(OF(Om(Ox rfl rfl rfl(Ox rfl rfl rfl(OT(Nl(J20 rfl(Rg(Oa(Nl(W.ret(Je rfl(resV.t rfl)(Ret.intro(congrArg(Value.bool)(Jhb hb8))C5.below))))))))))))))
end Go.Wf
namespace Go.Wf
set_option linter.unusedVariables false
set_option linter.unusedSimpArgs false
open Go
mutual
def cntE:GExpr→Nat
 | .mk _ _ _ _ l=>1+cntL l
def cntL:List GExpr→Nat
 | []=>0
 | a::l=>cntE a+cntL l
end
mutual
def lvlE:GExpr→Nat
 | .mk _ _ _ _ l=>lvlL l+1
def lvlL:List GExpr→Nat
 | []=>0
 | a::l=>max(lvlE a)(lvlL l)
end
theorem X2(a:GExpr):cntE a=1+cntL a.args:=by cases a;rw [cntE];rfl
theorem Jeh(a:GExpr):lvlE a=lvlL a.args+1:=by cases a;rw [lvlE];rfl
theorem Vr:∀ l m:List GExpr,cntL(l++m)=cntL l+cntL m
 | [],m=>by simp [cntL]
 | a::l,m=>by rw [List.cons_append,cntL,cntL,Vr l m];omega
theorem qb:∀ l m:List GExpr,lvlL(l++m)=max(lvlL l)(lvlL m)
 | [],m=>by simp [lvlL]
 | a::l,m=>by rw [List.cons_append,lvlL,lvlL,qb l m];omega
theorem j8 {l:List GExpr}{i:Nat}(h:i < l.length):l.take(i+1)=l.take i++[l.getD i default]:=by
 rw [List.take_succ_eq_append_getElem h,List.getD_eq_getElem?_getD,List.getElem?_eq_getElem h];rfl
theorem Joe {l:List GExpr}{i:Nat}(h:i < l.length):cntL(l.take(i+1))=cntL(l.take i)+cntE(l.getD i default):=by
 rw [j8 h,Vr,cntL,cntL];omega
theorem Jmq {l:List GExpr}{i:Nat}(h:i < l.length):lvlL(l.take(i+1))=max(lvlL(l.take i))(lvlE(l.getD i default)):=by
 rw [j8 h,qb,lvlL,lvlL];omega
theorem Jdp(l:List GExpr)(i:Nat):cntL l=cntL(l.take i)+cntL(l.drop i):=by
 rw [← Vr,List.take_append_drop]
theorem Xo {l:List GExpr}{i:Nat}(h:i < l.length):l.drop i=l.getD i default::l.drop(i+1):=by
 rw [List.drop_eq_getElem_cons h,List.getD_eq_getElem?_getD,List.getElem?_eq_getElem h];rfl
theorem Jgx {l:List GExpr}{i:Nat}(h:i < l.length):cntE(l.getD i default)≤cntL l:=by
 rw [Jdp l i,Xo h,cntL];omega
theorem Jn0(a:GExpr):1≤cntE a:=by rw [X2];omega
theorem Jk9:∀ l:List GExpr,l.length≤cntL l
 | []=>Nat.zero_le _
 | a::l=>by rw [List.length_cons,cntL];have:=Jk9 l;have:=Jn0 a;omega
theorem Jsu:∀ n:Nat,(∀ a:GExpr,SizeOf.sizeOf a < n→lvlE a≤cntE a)∧∀ l:List GExpr,SizeOf.sizeOf l < n→lvlL l≤cntL l:=by
 intro n
 induction n with
 | zero=>exact⟨fun _ h=>absurd h(Nat.not_lt_zero _),fun _ h=>absurd h(Nat.not_lt_zero _)⟩
 | succ n ih=>
  refine⟨fun a h=>?_,fun l h=>?_⟩
  ·cases a with
   | mk o q c s l=>
    rw [lvlE,cntE]
    have:=ih.2 l(by simp at h;omega)
    omega
  ·cases l with
   | nil=>exact Nat.le_refl _
   | cons a l=>
    rw [lvlL,cntL];simp at h
    have:=ih.1 a(by omega)
    have:=ih.2 l(by omega)
    omega
theorem Jyh(a:GExpr):lvlE a≤cntE a:=(Jsu _).1 a(Nat.lt_succ_self _)
theorem yu {l:List GExpr}{i:Nat}(h:l.length≤i):l.take i=l:=List.take_of_length_le h
theorem Jsw {a:GExpr}{i m z:Nat}(h:i < a.args.length)(hz:z=min(1+cntL(a.args.take i))(m+1))(hm:z≤m):
  z+min(cntE(a.args.getD i default))(m - z+1)=min(1+cntL(a.args.take(i+1)))(m+1):=by
 rw [Joe h];omega
theorem Jvv {a:GExpr}{i m z:Nat}(h:a.args.length≤i)(hz:z=min(1+cntL(a.args.take i))(m+1)):z=min(cntE a)(m+1):=by
 rw [hz,yu h,X2]
theorem Jre {a:GExpr}{i m z:Nat}(hm:m < z)(hz:z=min(1+cntL(a.args.take i))(m+1)):z=min(cntE a)(m+1):=by
 have:=Jdp a.args i
 rw [X2];omega
theorem Jta {a:GExpr}{i z:Nat}(h:i < a.args.length)(hz:z=lvlL(a.args.take i)):max z(lvlE(a.args.getD i default))=lvlL(a.args.take(i+1)):=by rw [Jmq h,hz]
theorem Jqs {a:GExpr}{i z:Nat}(h:a.args.length≤i)(hz:z=lvlL(a.args.take i)):z+1=lvlE a:=by rw [hz,yu h,Jeh]
mutual
def pszE:GExpr→Nat→Nat→Nat × Bool
 | .mk _ _ _ _ l,k,v=>if 60 < k+1∨12 < v then(k+1,false)else pszL l(k+1)(v+1)
def pszL:List GExpr→Nat→Nat→Nat × Bool
 | [],k,_=>(k,true)
 | a::l,k,v=>if(pszE a k v).2=true then pszL l(pszE a k v).1 v else(pszE a k v)
end
theorem Jba(a:GExpr)(k v:Nat):pszE a k v=if 60 < k+1∨12 < v then(k+1,false)else pszL a.args(k+1)(v+1):=by cases a;rw [pszE];rfl
theorem Jnf {l:List GExpr}{i k v:Nat}{R:Nat × Bool}(h:i < l.length)(hR:pszL(l.drop i)k v=R)(hb:(pszE(l.getD i default)k v).2=true):pszL(l.drop(i+1))(pszE(l.getD i default)k v).1 v=R:=by
 rw [← hR,Xo h,pszL,if_pos hb]
theorem Jmr {l:List GExpr}{i k v:Nat}{R:Nat × Bool}(h:i < l.length)(hR:pszL(l.drop i)k v=R)(hb:(pszE(l.getD i default)k v).2=false):pszE(l.getD i default)k v=R:=by
 rw [← hR,Xo h,pszL,if_neg(by rw [hb];simp)]
theorem Jvx {l:List GExpr}{i k v:Nat}{R:Nat × Bool}(h:l.length≤i)(hR:pszL(l.drop i)k v=R):(k,true)=R:=by
 rw [← hR,List.drop_of_length_le h,pszL]
theorem Jg4:∀ n:Nat,(∀ a:GExpr,SizeOf.sizeOf a < n→∀ k v,k≤60→(pszE a k v).2=decide(k+cntE a≤60∧v+lvlE a≤13)∧((pszE a k v).2=true→(pszE a k v).1=k+cntE a))∧
  ∀ l:List GExpr,SizeOf.sizeOf l < n→∀ k v,k≤60→v≤13→(pszL l k v).2=decide(k+cntL l≤60∧v+lvlL l≤13)∧((pszL l k v).2=true→(pszL l k v).1=k+cntL l):=by
 intro n
 induction n with
 | zero=>exact⟨fun _ h=>absurd h(Nat.not_lt_zero _),fun _ h=>absurd h(Nat.not_lt_zero _)⟩
 | succ n ih=>
  refine⟨fun a h k v hk=>?_,fun l h k v hk hv=>?_⟩
  ·rw [Jba,X2,Jeh]
   split
   ·rename_i hc
    refine⟨(decide_eq_false(by omega)).symm,fun h=>by cases h⟩
   ·rename_i hc
    obtain⟨h1,h2⟩:=ih.2 a.args(by cases a;simp [GExpr.args] at h ⊢;omega)(k+1)(v+1)(by omega)(by omega);refine⟨?_,fun hb=>by rw [h2 hb];omega⟩;rw [h1];exact decide_eq_decide.2(by omega)
  ·cases l with
   | nil=>
    rw [pszL,cntL,lvlL];exact⟨(decide_eq_true(by omega)).symm,fun _=>rfl⟩
   | cons a l=>
    simp at h;obtain⟨h1,h2⟩:=ih.1 a(by omega)k v hk;rw [pszL,cntL,lvlL]
    by_cases hb:(pszE a k v).2=true
    ·rw [if_pos hb];have hb':=hb;rw [h1] at hb';have hd:=of_decide_eq_true hb';obtain⟨h3,h4⟩:=ih.2 l(by omega)(pszE a k v).1 v(by rw [h2 hb];omega)hv;refine⟨?_,fun hc=>by rw [h4 hc,h2 hb];omega⟩;rw [h3,h2 hb];exact decide_eq_decide.2(by omega)
    ·rw [if_neg hb];refine⟨?_,fun hc=>absurd hc hb⟩;rw [h1] at hb ⊢;have hd:¬ (k+cntE a≤60∧v+lvlE a≤13):=fun e=>hb(decide_eq_true e);rw [decide_eq_false hd]
     exact(decide_eq_false(by omega)).symm
theorem Jhm(a:GExpr):(pszE a 0 1).2=decide(cntE a≤60∧lvlE a≤12):=by
 rw [((Jg4 _).1 a(Nat.lt_succ_self _) 0 1(by omega)).1];exact decide_eq_decide.2(by omega)
def cA(n:Int):Int:=if n=1∨n=6∨n=7∨n=8 then 0 else if n=2 then 1 else if n=3∨n=9 then 4 else if n=4 then 2 else if n=5 then 2 else if n=10∨n=11 then 0 else if n=12∨n=13∨n=14∨n=15∨n=16 then 1 else if n=17 then 0 else 1
def cB(n:Int):Int:=if n=1∨n=6∨n=7∨n=8 then 0 else if n=2 then 1 else if n=3∨n=9 then 4 else if n=4 then 41 else if n=5 then 65 else if n=10∨n=11 then 0 else if n=12∨n=13∨n=14∨n=15∨n=16 then 1 else if n=17 then 0 else 1
def cC(n:Int):Int:=if 1≤n∧n≤9 then 0 else if n=10∨n=11 then 2 else if 12≤n∧n≤17 then 1 else 2
def cD(n:Int):Int:=if 1≤n∧n≤9 then 0 else if n=10∨n=11 then 60 else if 12≤n∧n≤17 then 1 else 2
def lA(n:Int):Int:=if n=12 then -200 else if n=13∨n=14∨n=15 then 1 else if n=18 then 0 else if n=2 then 0 else -1000000
def lB(n:Int):Int:=if n=12 then 200 else if n=13∨n=14∨n=15 then 1000 else if n=18 then 6 else 1000000
def sA(n:Int):Int:=if 1≤n∧n≤18 then cA n else 0
def sB(n:Int):Int:=if 1≤n∧n≤18 then cB n else 0
def sC(n:Int):Int:=if n=10∨n=11 then -1 else if 1≤n∧n≤18 then cC n else 0
def okOp(n:Int):Bool:=decide(1≤n∧n≤18)
theorem Kf {a b c a' b' c':Int}(h1:a=a')(h2:b=b')(h3:c=c'):(Value.agg #[.int .i64 a,.int .i64 b,.int .i64 c])= .agg #[.int .i64 a',.int .i64 b',.int .i64 c']:=by rw [h1,h2,h3]
end Go.Wf
namespace Go.Wf
set_option linter.unusedVariables false
set_option linter.unusedSimpArgs false
open Go
structure cntOk(a:GExpr):Prop where
 o1:1≤a.op
 o2:a.op≤18
 n1:cA a.op≤((a.n.length:Nat):Int)
 n2:((a.n.length:Nat):Int)≤cB a.op
 a1:cC a.op≤((a.args.length:Nat):Int)
 a2:((a.args.length:Nat):Int)≤cD a.op
structure nameOk(a:GExpr):Prop where
 e:decide(a.op=8)=Ky a.name
 s:a.op=8∨a.name=[]
 c:a.op=1∨Jby a.c.q=0
def Jwz(a:GExpr):Prop:=∀ i,i < a.n.length→lA a.op≤a.n.getD i 0∧a.n.getD i 0≤lB a.op
open Classical in
noncomputable def Qf(a:GExpr):Int:=if cntOk a∧nameOk a then if Jwz a then 0 else 2 else 3
mutual
noncomputable def errE:GExpr→Int
 | .mk o n c s l=>if Qf(.mk o n c s l)=0 then errL l else Qf(.mk o n c s l)
noncomputable def errL:List GExpr→Int
 | []=>0
 | a::l=>if errE a=0 then errL l else errE a
end
theorem Je4(a:GExpr):errE a=if Qf a=0 then errL a.args else Qf a:=by cases a;rw [errE];rfl
section
variable {a:GExpr}
theorem Qe(h:¬ cntOk a):3=Qf a:=by unfold Qf;rw [if_neg fun e=>h e.1]
theorem Yo(h:¬ nameOk a):3=Qf a:=by unfold Qf;rw [if_neg fun e=>h e.2]
theorem k5(h1:cntOk a)(h2:nameOk a){i:Nat}(hi:i < a.n.length)(h:a.n.getD i 0 < lA a.op∨lB a.op < a.n.getD i 0):2=Qf a:=by
 unfold Qf;rw [if_pos⟨h1,h2⟩,if_neg fun e=>by have:=e i hi;omega]
theorem Jub(h1:cntOk a)(h2:nameOk a){i:Nat}(hi:a.n.length≤i)(h:∀ j,j < i→lA a.op≤a.n.getD j 0∧a.n.getD j 0≤lB a.op):0=Qf a:=by
 unfold Qf;rw [if_pos⟨h1,h2⟩,if_pos(show Jwz a from fun j hj=>h j(by omega))]
theorem Jts(h1:cntOk a)(h2:nameOk a){i:Nat}(hi:a.n.length≤i)(h:∀ j,j < i→lA a.op≤a.n.getD j 0∧a.n.getD j 0≤lB a.op):Qf a=0:=(Jub h1 h2 hi h).symm
theorem Kq {e:Int}(h:e=Qf a)(h0:¬ e=0):e=errE a:=by rw [Je4,if_neg(by rw [← h];exact h0)];exact h
theorem Jjg {i:Nat}(hi:i < a.args.length)(hv:errL(a.args.drop i)=errL a.args)(h:errE(a.args.getD i default)=0):errL(a.args.drop(i+1))=errL a.args:=by
 rw [← hv,Xo hi,errL,if_pos h]
theorem Jl4 {i:Nat}(h0:Qf a=0)(hi:i < a.args.length)(hv:errL(a.args.drop i)=errL a.args)(h:¬ errE(a.args.getD i default)=0):errE(a.args.getD i default)=errE a:=by
 rw [Je4 a,if_pos h0,← hv,Xo hi,errL,if_neg h]
theorem Jqx {i:Nat}(h0:Qf a=0)(hi:a.args.length≤i)(hv:errL(a.args.drop i)=errL a.args):0=errE a:=by
 rw [Je4 a,if_pos h0,← hv,List.drop_of_length_le hi,errL]
end
theorem Jw0 {n:Int}(h:okOp n=true):sA n=cA n:=if_pos(of_decide_eq_true h)
theorem Jfq {a:GExpr}(h:okOp a.op=true)(h1:¬ ((a.n.length:Nat):Int) < sA a.op)(h2:¬ sB a.op < ((a.n.length:Nat):Int))(h3:0≤sC a.op→((a.args.length:Nat):Int)=sC a.op)(h4:sC a.op < 0→¬ ((a.args.length:Nat):Int) < 2)(h5:a.args.length≤60):cntOk a:=by
 have hr:=of_decide_eq_true h;have hb:sB a.op=cB a.op:=if_pos hr;rw [Jw0 h] at h1;rw [hb] at h2;refine⟨hr.1,hr.2,by omega,by omega,?_,?_⟩
 ·unfold sC at h3 h4;unfold cC
  (repeat' split at h3) <;> (repeat' split) <;> first | omega | (unfold cC at h3;(repeat' split at h3) <;> omega)
 ·unfold sC at h3 h4;unfold cD
  (repeat' split at h3) <;> (repeat' split) <;> first | omega | (unfold cC at h3;(repeat' split at h3) <;> omega)
theorem xn {a:GExpr}(h:okOp a.op=false∨((a.n.length:Nat):Int) < sA a.op∨sB a.op < ((a.n.length:Nat):Int)∨(0≤sC a.op∧¬ ((a.args.length:Nat):Int)=sC a.op)∨(sC a.op < 0∧((a.args.length:Nat):Int) < 2)):¬ cntOk a:=by
 intro c;have hr:okOp a.op=true:=decide_eq_true⟨c.o1,c.o2⟩;have hp:=of_decide_eq_true hr;have hb:sB a.op=cB a.op:=if_pos hp;rw [Jw0 hr,hb,hr] at h;have c1:=c.n1;have c2:=c.n2;have c3:=c.a1;have c4:=c.a2
 rcases h with h | h | h | h | h
 ·cases h
 ·omega
 ·omega
 ·unfold sC at h;unfold cC at c3 h;unfold cD at c4
  (repeat' split at h) <;> (repeat' split at c3) <;> (repeat' split at c4) <;> omega
 ·unfold sC at h;unfold cC at c3 h;unfold cD at c4
  (repeat' split at h) <;> (repeat' split at c3) <;> (repeat' split at c4) <;> omega
theorem Vj {a:GExpr}(h1:(a.op=8∧Ky a.name=true)∨(¬ a.op=8∧a.name=[]))(h2:a.op=1∨Jby a.c.q=0):nameOk a:=by
 rcases h1 with⟨h,h3⟩ | ⟨h,h3⟩
 ·exact⟨by rw [decide_eq_true h,h3],.inl h,h2⟩
 ·exact⟨by rw [decide_eq_false h,h3];rfl,.inr h3,h2⟩
theorem ji {a:GExpr}(h:(a.op=8∧Ky a.name=false)∨(¬ a.op=8∧¬ a.name=[])∨(¬ a.op=1∧¬ Jby a.c.q=0)):¬ nameOk a:=by
 intro c
 rcases h with⟨h,h3⟩ | ⟨h,h3⟩ | ⟨h,h3⟩
 ·have:=c.e;rw [decide_eq_true h,h3] at this;cases this
 ·exact c.s.elim h h3
 ·exact c.c.elim h h3
noncomputable def zk(a:GExpr):Int:=if cntE a≤60∧lvlE a≤12 then errE a else 7
theorem Jf7 {a:GExpr}{k v:Nat}(h:60 < k+1∨12 < v):(k+1,false)=pszE a k v:=by rw [Jba,if_pos h]
theorem Jlw {a:GExpr}{k v i kk:Nat}(h:¬ (60 < k+1∨12 < v))(hi:i < a.args.length)(hR:pszL(a.args.drop i)kk(v+1)=pszL a.args(k+1)(v+1))(hb:(pszE(a.args.getD i default)kk(v+1)).2=false):pszE(a.args.getD i default)kk(v+1)=pszE a k v:=by
 rw [Jba a,if_neg h];exact Jmr hi hR hb
theorem Jqo {a:GExpr}{k v i kk:Nat}(h:¬ (60 < k+1∨12 < v))(hi:a.args.length≤i)(hR:pszL(a.args.drop i)kk(v+1)=pszL a.args(k+1)(v+1)):(kk,true)=pszE a k v:=by
 rw [Jba a,if_neg h];exact Jvx hi hR
theorem pr_le {a:GExpr}{k v:Nat}(hk:k≤60)(hb:(pszE a k v).2=true):(pszE a k v).1≤60:=by
 obtain⟨h1,h2⟩:=(Jg4 _).1 a(Nat.lt_succ_self _)k v hk;rw [h2 hb];rw [h1] at hb
 have:=of_decide_eq_true hb
 omega
end Go.Wf
namespace Go.Wf
open Go Go.Proofs
set_option maxRecDepth 100000
theorem Xg:Zf Tryz.prog 125=some(.agg #[.int .i64 0,.int .i64 0,.int .i64 0],3,24):=by kernel_rfl
theorem Qb:je Tryz.prog 125 3=true:=by kernel_rfl
theorem Jvd:Zn Tryz.prog 125 0=some 0:=by kernel_rfl
theorem Jtk:Zn Tryz.prog 125 1=some 1:=by kernel_rfl
theorem Jay:Zn Tryz.prog 125 2=some 2:=by kernel_rfl
end Go.Wf
