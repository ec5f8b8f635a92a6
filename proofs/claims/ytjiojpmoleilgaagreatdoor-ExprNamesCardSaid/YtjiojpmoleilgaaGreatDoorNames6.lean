/- Part 6 of the texts for the claim. -/
import Derived.Test.YtjiojpmoleilgaaGreatDoorNames5
set_option linter.unusedVariables false
set_option linter.unusedSimpArgs false
set_option maxRecDepth 100000
set_option maxHeartbeats 4000000
noncomputable section
namespace Go.Wf
open Go Go.Proofs Go.RowKit
theorem Jnp(N:Nat):∀ {X:Nat→Prop} {w:World} (hX:XB X w) {v0:Value} {a:GExpr} (r0:RV Jf X w v0 a) (hpl:Zl a=true) (hl:cntE a≤1000) (hN:(SizeOf.sizeOf a) < N),Calls Tryz.prog 15 #[v0] w (Ret w fun v w'=>RV Jf X w' v a):=by
 induction N with
 | zero=>intro X w hX v0 a r0 hpl hl hN;exact absurd hN (Nat.not_lt_zero _)
 | succ N ih=>
  intro X w hX v0 a r0 hpl hl hN;obtain⟨a1,c2,a3,c4,a5,c6,a7,c8,rfl,h9⟩:=J3f r0;have C:=Cx.start hX;have hal:=r0.args_max;have hce:=Yb a;have hac:=K6 a;obtain⟨pa1,pa2,pa3,pa4,pa5⟩:=Yq.1 hpl;refine Cgo (args:=[(ea a a1 c2 a3 c4 a5 c6 a7 c8)]) Tryz.func15 rfl rfl rfl (Rg (Ol (J3g C rfl ?_)));intro g10 w11 x12 y13 lt14 C15 s16 o17;replace h9:=h9.sp s16;refine Ol (J3b C15 io31 rfl ?_);intro g18 w19 x20 y21 lt22 C23 s24 o25;replace o17:=o17.spn s24;refine Nl (W.seq (J3m J5 13 [[],[0],[],[],[3],[2,4],[],[6],[7],[],[9],[1,5,8,10],[]] C23 [fx (.pointer (some ⟨g10,0,none⟩)),fx (.int .i64 a.op),u0,fx (.pointer (some ⟨g10,1,none⟩)),fx (.slice a1 a.n.length c2),fs Y1 a.n,fx (.pointer (some ⟨g10,2,none⟩)),fx (.agg #[(.bool a.c.num.neg),(.slice a3 a.c.num.mag.length c4),(.bool a.c.den.neg),(.slice a5 a.c.den.mag.length c6)]),fr Xk a.c,fx (.pointer (some ⟨g10,6,none⟩)),fx (str a.name),fun(s:Gh) (v:Value) (w':World)=>∃ (a1':Option Addr) (c1':Nat) (a3':Option Addr) (c3':Nat) (a5':Option Addr) (c5':Nat),v= .agg #[(.int .i64 a.op),(.slice a1' a.n.length c1'),(.bool a.c.num.neg),(.slice a3' a.c.num.mag.length c3'),(.bool a.c.den.neg),(.slice a5' a.c.den.mag.length c5'),(str a.name),(.slice none 0 0)]∧RS Y1 s.1 w' (.slice a1' a.n.length c1') a.n∧RS Je s.1 w' (.slice a3' a.c.num.mag.length c3') a.c.num.mag∧RS Je s.1 w' (.slice a5' a.c.den.mag.length c5') a.c.den.mag,fun(s:Gh) (v:Value) (w':World)=>∃ g':Nat,v= .pointer (some ⟨g',0,none⟩)∧Own w s.2 w' g' [(.int .i64 0),(.slice none 0 0),(.bool false),(.slice none 0 0),(.bool false),(.slice none 0 0),(str []),(.slice none 0 0)] 31∧w19.heap.size≤g'] (by kernel_rfl) ⟨sx,sx,(fun _ _ _ _ _ h _=>h),sx,sx,ss,sx,sx,sr,sx,sx,(fun _ _ _ _ _ ⟨a1,c1,a3,c3,a5,c5,e,h1,h3,h5⟩ r=>⟨a1,c1,a3,c3,a5,c5,e,h1.tr r.sp.tx,h3.tr r.sp.tx,h5.tr r.sp.tx⟩),(fun _ _ _ _ _ ⟨g,e,o,l⟩ r=>⟨g,e,o.spn r.sp,l⟩),trivial⟩ fun f60 s61 w62 ⟨C65,S66⟩ k64=>?_))
  have lt67:=o17.blk.lt;have lt68:=o25.blk.lt;have hszS66:=S66.tx.size;replace h9:=(h9.sp s24).sp S66;replace o17:=o17.spn S66;have k64:Keep [5,6,7,8,9,10,11,12,13,14,15,16,3] _ f60:=k64;refine⟨⟨fun _=>?_,fun⟨e69,_⟩=>?_,fun _=>?_,fun _=>?_,fun⟨e70,_⟩=>?_,fun⟨d71,e72,_⟩=>?_,fun _=>?_,fun⟨e73,_⟩=>?_,fun⟨e74,_⟩=>?_,fun _=>?_,fun⟨e75,_⟩=>?_,fun⟨e76,d77,d78,e79,_⟩=>?_,fun _=>?_,trivial⟩,fun⟨e80,e81,d82,e83,e84,d85,e86,e87,d88,e89,e90,d91,d92,_⟩=>?_⟩
  ·exact Ja k64 aN fun _=>OpSt.op (St.fieldAddr Zz rfl ⟨s61,RC.same C65,rfl⟩)
  ·exact Ja k64 (aC e69 aN) fun _=>OpSt.op (J27 o17 pl3 rfl rfl ⟨s61,RC.same C65,rfl⟩)
  ·refine Ja k64 aN fun _=>OpSt.op (J4n C65 sl23 io3 ?_);intro g94 w95 C96 s97;exact⟨s61,⟨C96,s97⟩,⟨_,rfl⟩⟩
  ·exact Ja k64 aN fun _=>OpSt.op (St.fieldAddr K0 rfl ⟨s61,RC.same C65,rfl⟩)
  ·exact Ja k64 (aC e70 aN) fun _=>OpSt.op (J27 o17 pl23 rfl rfl ⟨s61,RC.same C65,rfl⟩)
  ·obtain⟨g99,e98⟩:=d71;refine Ja k64 (aC e98 (aC e72 aN)) fun _=>OpSt.op (J36 (T:=Y1) C65 sl23 io3 rfl rfl h9.n (Nat.le_trans pa1 (by decide)) (by omega) rfl ?_);intro v100 w101 C102 s103 h104;exact⟨s61,⟨C102,s103⟩,h104⟩
  ·exact Ja k64 aN fun _=>OpSt.op (St.fieldAddr Ky rfl ⟨s61,RC.same C65,rfl⟩)
  ·exact Ja k64 (aC e73 aN) fun _=>OpSt.op (J29 (vs:=[(.bool a.c.num.neg),(.slice a3 a.c.num.mag.length c4),(.bool a.c.den.neg),(.slice a5 a.c.den.mag.length c6)]) o17 ag28 rfl rfl rfl ⟨s61,RC.same C65,rfl⟩)
  ·refine Ja k64 (aC e74 aN) fun _=>OpSt.op (J25 C65 cb40 rfl rfl (x_cpR C65.bd (a:=a.c) (Ke h9.num h9.den) (by omega) (by omega)) ?_);intro v105 w106 C107 s108 h109;exact⟨s61,⟨C107,s108⟩,h109⟩
  ·exact Ja k64 aN fun _=>OpSt.op (St.fieldAddr Km rfl ⟨s61,RC.same C65,rfl⟩)
  ·exact Ja k64 (aC e75 aN) fun _=>OpSt.op (J27 o17 pl9 rfl rfl ⟨s61,RC.same C65,rfl⟩)
  ·obtain⟨a111,c112,e110,d77⟩:=RS.opn d77;obtain⟨a114,c115,a116,c117,e113,h118,h119⟩:=J34 d78;exact Ja k64 (aC e76 (aC e110 (aC e113 (aC e79 aN)))) fun _=>OpSt.op (St.build (cs:=[(.int .i64 a.op),(.slice a111 a.n.length c112),(.bool a.c.num.neg),(.slice a114 a.c.num.mag.length c115),(.bool a.c.den.neg),(.slice a116 a.c.den.mag.length c117),(str a.name),(.slice none 0 0)]) rfl (by kernel_rfl) (⟨s61,RC.same C65,⟨_,_,_,_,_,_,rfl,d77,h118,h119⟩⟩))
  ·refine Ja k64 aN fun _=>OpSt.op (J3b C65 io31 rfl ?_);intro g120 w121 x122 y123 lt124 C125 s126 o127;exact⟨(x122,y123),⟨C125,s126⟩,g120,rfl,o127,Nat.le_of_not_lt fun hh=>lt124 _ (Nat.lt_of_lt_of_le hh hszS66) rfl⟩
  obtain⟨g131,e130⟩:=d82;obtain⟨a133,c134,e132,d85⟩:=RS.opn d85;obtain⟨a136,c137,a138,c139,e135,h140,h141⟩:=J34 d88;obtain⟨a143,c144,a146,c147,a149,c150,e142,h145,h148,h151⟩:=d91;obtain⟨g153,e152,o154,l155⟩:=d92;have n156:g10≠g153:=Nat.ne_of_lt (Nat.lt_of_lt_of_le lt67 l155);have n157:g18≠g153:=Nat.ne_of_lt (Nat.lt_of_lt_of_le lt68 l155);obtain⟨f159,rfl⟩:=mixK k64 (aC e80 (aC e81 (aC e130 (aC e83 (aC e84 (aC e132 (aC e86 (aC e87 (aC e135 (aC e89 (aC e90 (aC e142 (aC e152 aN)))))))))))));refine On (J3a (cs':=[(.int .i64 a.op),(.slice a143 a.n.length c144),(.bool a.c.num.neg),(.slice a146 a.c.num.mag.length c147),(.bool a.c.den.neg),(.slice a149 a.c.den.mag.length c150),(str a.name),(.slice none 0 0)]) C65 o154 io31 rfl rfl rfl rfl rfl rfl ?_);intro w160 C161 s162 o163;replace h9:=h9.sp s162;replace h145:=h145.sp s162;replace h148:=h148.sp s162;replace h151:=h151.sp s162;replace o17:=o17.spo s162 n156;replace o25:=(o25.spn S66).spo s162 n157;refine Nl (Rh (Oa (Nl (W.block (J3j (fun μ f v=>∃ (x y:Nat→Prop) (i:Nat) (p:List GExpr) (pa:Option Addr) (pc:Nat),Cx X w x y v∧f 1=(.pointer (some ⟨g10,0,none⟩))∧f 2=(.pointer (some ⟨g18,0,none⟩))∧f 3=(.pointer (some ⟨g153,0,none⟩))∧f 4=(.int .i64 ((i:Nat):Int))∧ExprParts x v a a1 c2 a3 c4 a5 c6 a7 c8∧RS Y1 x v (.slice a143 a.n.length c144) a.n∧RS Je x v (.slice a146 a.c.num.mag.length c147) a.c.num.mag∧RS Je x v (.slice a149 a.c.den.mag.length c150) a.c.den.mag∧OS Jf 31 w x y v (.slice pa p.length pc) p∧Own w y v g10 (ec a a1 c2 a3 c4 a5 c6 a7 c8) 31∧Own w y v g18 [(.int .i64 0),(.slice none 0 0),(.bool false),(.slice none 0 0),(.bool false),(.slice none 0 0),(str []),(.slice none 0 0)] 31∧Own w y v g153 [(.int .i64 a.op),(.slice a143 a.n.length c144),(.bool a.c.num.neg),(.slice a146 a.c.num.mag.length c147),(.bool a.c.den.neg),(.slice a149 a.c.den.mag.length c150),(str a.name),(.slice pa p.length pc)] 31∧i≤a.args.length∧p=a.args.take i∧μ=(a.args.length - i)) _ ⟨_,_,0,[],none,0,C161,rfl,rfl,rfl,rfl,h9,h145,h148,h151,OS.nil,o17,o25,o163,(Nat.zero_le _),rfl,rfl⟩ ?_)))));rintro m177 f164 w165 ⟨x166,y167,i,p,pa,pc,C168,e169,e170,e171,e172,h9,h145,h148,h151,hP,o173,o174,o175,hi,hp,hmu176⟩;obtain⟨f178,rfl⟩:=rebK (aC e169 (aC e170 (aC e171 (aC e172 aN))));clear e169 e170 e171 e172;refine Rh (Om (Ol (St.fieldAddr J3 rfl (Ol (J27 o173 pl29 rfl rfl (Ol (St.len sl29 rfl (Ol (J3i rfl rfl (fun hc179=>?_) (fun hc179=>?_))))))))))
  ·refine Nl (J26 rfl (W.skip (W.seq (W.block (J35 J5 9 [[],[0],[],[2],[],[3,4],[5],[6],[7]] C168 [fx (.pointer (some ⟨g153,7,none⟩)),fx (.slice pa p.length pc),fx (.pointer (some ⟨g10,7,none⟩)),fx (.slice a7 a.args.length c8),fx (.int .i64 ((i:Nat):Int)),uE x166 Jf (a.args.getD i default),ur x166 Jf (a.args.getD i default),ur x166 Jf (a.args.getD i default),us x166 Jf [(a.args.getD i default)]] (by kernel_rfl) ⟨sx,sx,sx,sx,sx,tE,tr,tr,ts,trivial⟩ fun f215 w217 C220 S221 k219=>?_)))))
   replace h9:=h9.sp S221;replace h145:=h145.sp S221;replace h148:=h148.sp S221;replace h151:=h151.sp S221;replace hP:=hP.sp S221 C220 (fun _ h=>h)
   replace o173:=o173.spn S221;replace o174:=o174.spn S221;replace o175:=o175.spn S221;have k219:Keep [24,25,26,27,28,29,30,31,32] _ f215:=k219;refine⟨⟨fun _=>?_,fun⟨e225,_⟩=>?_,fun _=>?_,fun⟨e226,_⟩=>?_,fun _=>?_,fun⟨e227,e228,_⟩=>?_,fun⟨d229,_⟩=>?_,fun⟨d230,_⟩=>?_,fun⟨d231,_⟩=>?_,trivial⟩,fun⟨e232,e233,e234,e235,e236,d237,d238,d239,d240,_⟩=>?_⟩
   ·exact Ja k219 aN fun _=>OpSt.op (St.fieldAddr J3 rfl (⟨(),⟨C220,Sp.refl⟩,rfl⟩))
   ·exact Ja k219 (aC e225 aN) fun _=>OpSt.op (J27 o175 pl29 rfl rfl (⟨(),⟨C220,Sp.refl⟩,rfl⟩))
   ·exact Ja k219 aN fun _=>OpSt.op (St.fieldAddr J3 rfl (⟨(),⟨C220,Sp.refl⟩,rfl⟩))
   ·exact Ja k219 (aC e226 aN) fun _=>OpSt.op (J27 o173 pl29 rfl rfl (⟨(),⟨C220,Sp.refl⟩,rfl⟩))
   ·exact Ja k219 aN fun _=>OpSt.op (St.move (⟨(),⟨C220,Sp.refl⟩,rfl⟩))
   ·refine Ja k219 (aC e227 (aC e228 aN)) fun _=>OpSt.op (J3k (j:=i) (u:=(a.args.getD i default)) h9.args sl29 io31 rfl rfl rfl (Jg (by omega)) ?_);intro b242 o243 cs244 e245;obtain⟨a246,c247,a248,c249,a250,c251,a252,c253,rfl,h254⟩:=Jq e245.rd;exact⟨(),⟨C220,Sp.refl⟩,⟨_,_,_,rfl,e245⟩⟩
   ·obtain⟨b256,o257,cs258,e255,e259⟩:=d229;obtain⟨a260,c261,a262,c263,a264,c265,a266,c267,rfl,h268⟩:=Jq e259.rd;exact Ja k219 (aC e255 aN) fun _=>OpSt.op (J3v (cs:=(ec (a.args.getD i default) a260 c261 a262 c263 a264 c265 a266 c267)) ag31 rfl rfl e259.cell (⟨(),⟨C220,Sp.refl⟩,(Jh (a.args.getD i default) h268.lo h268.hi h268.name h268.n h268.num h268.den h268.args)⟩))
   ·obtain⟨a270,c271,a272,c273,a274,c275,a276,c277,e269,h278⟩:=J3f d230;refine Ja k219 (aC e269 aN) fun _=>OpSt.op (J25 C220 cb15 rfl rfl (ih C220.bd (Jh (a.args.getD i default) h278.lo h278.hi h278.name h278.n h278.num h278.den h278.args) (Qu hpl (by omega)) (by have h7:=zo (l:=a.args) (i:=i) (by omega);omega) (Nat.lt_of_lt_of_le (Kn (by omega)) (Nat.le_of_lt_succ hN))) ?_);intro v279 w280 C281 s282 h283;exact⟨(),⟨C281,s282⟩,h283⟩
   ·obtain⟨a285,c286,a287,c288,a289,c290,a291,c292,e284,h293⟩:=J3f d231;refine Ja k219 (aC e284 aN) fun _=>OpSt.op (J3t (T:=Jf) (css:=[(ec (a.args.getD i default) a285 c286 a287 c288 a289 c290 a291 c292)]) (l:=[(a.args.getD i default)]) C220 sl29 io31 (by decide) (by decide) rfl (by kernel_rfl) ⟨(jm (a.args.getD i default) h293.lo h293.hi h293.name h293.n h293.num h293.den h293.args),trivial⟩ ?_);intro g298 w294 C295 s296 h297;exact⟨(),⟨C295,s296⟩,h297⟩
   obtain⟨b302,o303,cs304,e301,e305⟩:=d237;obtain⟨a306,c307,a308,c309,a310,c311,a312,c313,rfl,h314⟩:=Jq e305.rd;obtain⟨a316,c317,a318,c319,a320,c321,a322,c323,e315,h324⟩:=J3f d238;obtain⟨a326,c327,a328,c329,a330,c331,a332,c333,e325,h334⟩:=J3f d239;obtain⟨a336,c337,e335,d240⟩:=RS.opn d240;obtain⟨f338,rfl⟩:=mixK k219 (aC e232 (aC e233 (aC e234 (aC e235 (aC e236 (aC e301 (aC e315 (aC e325 (aC e335 aN)))))))));refine Ol (J3o (T:=Jf) (v:=(.slice pa p.length pc)) (u:=(.slice a336 [(a.args.getD i default)].length c337)) C220 sl29 io31 rfl rfl hP (Xh d240) (by rw [hp,List.length_take];simp [maxLen];omega) (by rw [hp,List.length_take];simp;omega) rfl ?_);intro v339 w340 x341 C342 s343 u344 h345;replace o175:=o175.ap s343 o175.mem;obtain⟨a346,c347,rfl,_,_⟩:=h345.len;refine Ol (St.fieldAddr J3 rfl (On (J3a (cs':=[(.int .i64 a.op),(.slice a143 a.n.length c144),(.bool a.c.num.neg),(.slice a146 a.c.num.mag.length c147),(.bool a.c.den.neg),(.slice a149 a.c.den.mag.length c150),(str a.name),(.slice a346 (p++[(a.args.getD i default)]).length c347)]) C342 o175 io29 rfl rfl rfl rfl rfl rfl ?_)));intro w348 C349 s350 o351;replace h9:=(h9.tr s343.tx).sp s350;replace h145:=(h145.tr s343.tx).sp s350;replace h148:=(h148.tr s343.tx).sp s350;replace h151:=(h151.tr s343.tx).sp s350;replace h345:=h345.sp s350 C349 (fun _ h=>h)
   replace o173:=(o173.ap s343 o173.mem).spo s350 n156;replace o174:=(o174.ap s343 o174.mem).spo s350 n157;refine Nl (W.region (Om (Ol (St.add rfl rfl (Jc (a:=i) (b:=1) (by omega)) (Oa (Nl (⟨_,(by omega),_,_,(i+1),(p++[(a.args.getD i default)]),a346,c347,C349,rfl,rfl,rfl,rfl,h9,h145,h148,h151,h345,o173,o174,o351,(by omega),(Jun hp (by omega)),rfl⟩)))))))
  refine Nl (J28 rfl (W.exit (Rg (Ol (J29 (vs:=[(.int .i64 a.op),(.slice a143 a.n.length c144),(.bool a.c.num.neg),(.slice a146 a.c.num.mag.length c147),(.bool a.c.den.neg),(.slice a149 a.c.den.mag.length c150),(str a.name),(.slice pa p.length pc)]) o175 ag31 rfl rfl rfl (On (J3a (cs':=[(.int .i64 a.op),(.slice a143 a.n.length c144),(.bool a.c.num.neg),(.slice a146 a.c.num.mag.length c147),(.bool a.c.den.neg),(.slice a149 a.c.den.mag.length c150),(str a.name),(.slice pa p.length pc)]) C168 o174 io31 rfl rfl rfl rfl rfl rfl ?_)))))));intro w352 C353 s354 o355;replace h9:=h9.sp s354;replace h145:=h145.sp s354;replace h148:=h148.sp s354;replace h151:=h151.sp s354;replace hP:=hP.sp s354 C353 (fun _ h=>h)
  refine Nl (W.ret (J7 rfl (resV.c o355 rfl ag31 rfl) (Ret.intro ?_ C353.below)));exact J3l (a:=(GExpr.mk a.op a.n ⟨⟨a.c.num.neg,a.c.num.mag⟩,⟨a.c.den.neg,a.c.den.mag⟩⟩ a.name p)) (Jh (GExpr.mk a.op a.n ⟨⟨a.c.num.neg,a.c.num.mag⟩,⟨a.c.den.neg,a.c.den.mag⟩⟩ a.name p) h9.lo h9.hi h9.name ((h145:RS _ _ _ _ _).tr (Tr.weak C353.base)) ((h148:RS _ _ _ _ _).tr (Tr.weak C353.base)) ((h151:RS _ _ _ _ _).tr (Tr.weak C353.base)) (hP.toRS C353 hX)) (Jz5 hp (by omega))
theorem Jj8{X:Nat→Prop}{w:World}(hX:XB X w){v0:Value}{a:GExpr}(r0:RV Jf X w v0 a)(hpl:Zl a=true)(hl:cntE a≤1000):Calls Tryz.prog 15 #[v0] w (Ret w fun v w'=>RV Jf X w' v a):=Jnp ((SizeOf.sizeOf a)+1) hX r0 hpl hl (Nat.lt_succ_self _)
end Go.Wf
namespace Go.Wf
open Go
def Xj:GRat:=⟨⟨false,[]⟩,⟨false,[]⟩⟩
def Jcj:GExpr:= .mk 0 [] Xj [] []
def lowC(o:Int)(c:GRat):GRat:=if o=1 then ofQ c.q else Xj
mutual
def lowE:GExpr→GExpr
 | .mk o n c s l=> .mk o n (lowC o c) s (lowL l)
def lowL:List GExpr→List GExpr
 | []=>[]
 | a::l=>lowE a::lowL l
end
mutual
def repE(nm:List UInt8)(y:GExpr):GExpr→GExpr
 | .mk o n c s l=>if o=8∧s=nm then y else .mk o n c s (repL nm y l)
def repL(nm:List UInt8)(y:GExpr):List GExpr→List GExpr
 | []=>[]
 | a::l=>repE nm y a::repL nm y l
end
theorem vz(a:GExpr):lowE a= .mk a.op a.n (lowC a.op a.c) a.name (lowL a.args):=by cases a;rw [lowE];rfl
theorem q7(nm:List UInt8)(y a:GExpr):repE nm y a=if a.op=8∧a.name=nm then y else .mk a.op a.n a.c a.name (repL nm y a.args):=by cases a;rw [repE];rfl
theorem Yv:∀ l:List GExpr,lowL l=l.map lowE
 | []=>rfl
 | a::l=>by rw [lowL,Yv l];rfl
theorem Yu(nm:List UInt8)(y:GExpr):∀ l:List GExpr,repL nm y l=l.map (repE nm y)
 | []=>rfl
 | a::l=>by rw [repL,Yu nm y l];rfl
theorem Jfl{f:GExpr→GExpr}{l:List GExpr}{i:Nat}(h:i < l.length):(l.map f).getD i default=f (l.getD i default):=by
 rw [List.getD_eq_getElem?_getD,List.getD_eq_getElem?_getD,List.getElem?_map,List.getElem?_eq_getElem h];rfl
section
variable {a y:GExpr} {nm:List UInt8} {p:List GExpr} {i:Nat}
theorem Jgf(hp:p=lowL (a.args.take i))(hi:i < a.args.length):p++[lowE (a.args.getD i default)]=lowL (a.args.take (i+1)):=by
 rw [hp,Xz hi,Yv,Yv,List.map_append];rfl
theorem Jge(hp:p=repL nm y (a.args.take i))(hi:i < a.args.length):p++[repE nm y (a.args.getD i default)]=repL nm y (a.args.take (i+1)):=by
 rw [hp,Xz hi,Yu,Yu,List.map_append];rfl
theorem Jjc(hp:p=lowL (a.args.take i))(hi:a.args.length≤i):GExpr.mk a.op a.n ⟨⟨(lowC a.op a.c).num.neg,(lowC a.op a.c).num.mag⟩,⟨(lowC a.op a.c).den.neg,(lowC a.op a.c).den.mag⟩⟩ a.name p=lowE a:=by
 rw [vz,hp,Qz hi]
theorem Jjt(h1:a.op=8)(h2:a.name=nm):y=repE nm y a:=by rw [q7,if_pos ⟨h1,h2⟩]
theorem Jmc(h:¬ (a.op=8∧a.name=nm))(hp:p=repL nm y (a.args.take i))(hi:a.args.length≤i):GExpr.mk a.op a.n ⟨⟨a.c.num.neg,a.c.num.mag⟩,⟨a.c.den.neg,a.c.den.mag⟩⟩ a.name p=repE nm y a:=by
 rw [q7,if_neg h,hp,Qz hi]
end
theorem Jq8{α:Type}{T:Ty α}{x:Nat→Prop}{w:World}{v:Value}{l:List α}(h:RS T x w v l):l.length≤9223372036854775807:=by
 obtain⟨_,_,_,h1,h2⟩:=h.len
 have:maxLen=9223372036854775807:=rfl
 omega
theorem Jyh{x:Nat→Prop}{w:World}{v:Value}{a:GInt}(h:RV Jx x w v a):a.mag.length≤9223372036854775807:=by
 obtain⟨_,_,_,h1⟩:=RV.int h;exact Jq8 h1
theorem Jay{p:GExpr→Prop}(h:∀ a,(∀ i,i < a.args.length→p (a.args.getD i default))→p a):∀ a,p a:=by
 have:∀ n:Nat,∀ a:GExpr,SizeOf.sizeOf a < n→p a:=by
  intro n
  induction n with
  | zero=>intro _ h;exact absurd h (Nat.not_lt_zero _)
  | succ n ih=>intro a ha;exact h a fun i hi=>ih _ (by have:=Kn hi;omega)
 exact fun a=>this _ a (Nat.lt_succ_self _)
theorem Jex{f:GExpr→GExpr}{k:Nat}:∀ l:List GExpr,(∀ i,i < l.length→cntE (f (l.getD i default))≤cntE (l.getD i default) * k)→cntL (l.map f)≤cntL l * k
 | [],_=>by simp [cntL]
 | a::l,h=>by
  have h0:=h 0 (by simp);have h1:=Jex l fun i hi=>h (i+1) (by simp;omega);rw [List.map_cons,cntL,cntL,Nat.add_mul];simp only [List.getD_cons_zero] at h0;omega
theorem Ja0:∀ a:GExpr,cntE (lowE a)≤cntE a * 1:=Jay fun a ih=>by
 rw [vz,cntE,Yv,Yb a]
 have:=Jex (f:=lowE) (k:=1) a.args ih
 omega
theorem Js9(nm:List UInt8)(y:GExpr):∀ a:GExpr,cntE (repE nm y a)≤cntE a * cntE y:=Jay fun a ih=>by
 have hy:=Jag y;rw [q7]
 split
 ·exact Nat.le_mul_of_pos_left _ (Jag a)
 ·rw [cntE,Yu,Yb a]
  have:=Jex (f:=repE nm y) (k:=cntE y) a.args ih
  rw [Nat.add_mul];omega
theorem V5:∀ {l:List GExpr},errL l=0↔∀ i,i < l.length→errE (l.getD i default)=0
 | []=>⟨fun _ i h=>absurd h (Nat.not_lt_zero _),fun _=>by rw [errL]⟩
 | a::l=>by
  rw [errL]
  constructor
  ·intro h i hi
   by_cases h0:errE a=0
   ·rw [if_pos h0] at h
    cases i with
    | zero=>exact h0
    | succ i=>exact V5.1 h i (by simp at hi;omega)
   ·rw [if_neg h0] at h;exact absurd h h0
  ·intro h;rw [if_pos (show errE a=0 from h 0 (by simp))];exact V5.2 fun i hi=>h (i+1) (by simp;omega)
theorem V7{a:GExpr}:errE a=0↔Xb a=0∧∀ i,i < a.args.length→errE (a.args.getD i default)=0:=by
 rw [Ja8]
 constructor
 ·intro h
  by_cases h0:Xb a=0
  ·rw [if_pos h0] at h;exact⟨h0,V5.1 h⟩
  ·rw [if_neg h0] at h;exact absurd h h0
 ·rintro⟨h1,h2⟩
  rw [if_pos h1];exact V5.2 h2
theorem jt{a:GExpr}:Xb a=0↔(cntOk a∧nameOk a)∧Jpz a:=by
 unfold Xb
 constructor
 ·intro h
  by_cases h1:cntOk a∧nameOk a
  ·rw [if_pos h1] at h
   by_cases h2:Jpz a
   ·exact⟨h1,h2⟩
   ·rw [if_neg h2] at h;cases h
  ·rw [if_neg h1] at h;cases h
 ·rintro⟨h1,h2⟩
  rw [if_pos h1,if_pos h2]
theorem Jb4{a:GExpr}{c:GRat}{l:List GExpr}(h:Xb a=0)(hc:a.op=1∨qm c.q=0)(hl:l.length=a.args.length):Xb (.mk a.op a.n c a.name l)=0:=by
 obtain⟨⟨h1,h2⟩,h3⟩:=jt.1 h;refine jt.2 ⟨⟨⟨h1.o1,h1.o2,h1.n1,h1.n2,?_,?_⟩,⟨h2.e,h2.s,hc⟩⟩,h3⟩
 ·show cC a.op≤((l.length:Nat):Int)
  rw [hl];exact h1.a1
 ·show((l.length:Nat):Int)≤cD a.op
  rw [hl];exact h1.a2
theorem Jh7:qm Xj.q=0:=by
 unfold Xj GRat.q;simp [qm,GInt.toZ,val,Jk]
theorem Jkz:∀ a:GExpr,errE a=0→errE (lowE a)=0:=Jay fun a ih h=>by
 obtain⟨h1,h2⟩:=V7.1 h;rw [vz];refine V7.2 ⟨Jb4 h1 ?_ (by rw [Yv,List.length_map]),?_⟩
 ·rcases Classical.em (a.op=1) with h3 | h3
  ·exact .inl h3
  ·exact .inr (by rw [lowC,if_neg h3];exact Jh7)
 ·intro i hi;have hi':i < a.args.length:=by simpa [GExpr.args,Yv] using hi
  show errE ((lowL a.args).getD i default)=0
  rw [Yv,Jfl hi'];exact ih i hi' (h2 i hi')
theorem Jto{nm:List UInt8}{y:GExpr}(hy:errE y=0):∀ a:GExpr,errE a=0→errE (repE nm y a)=0:=Jay fun a ih h=>by
 obtain⟨h1,h2⟩:=V7.1 h;rw [q7]
 split
 ·exact hy
 ·refine V7.2 ⟨Jb4 h1 (jt.1 h1).1.2.c (by rw [Yu,List.length_map]),?_⟩;intro i hi;have hi':i < a.args.length:=by simpa [GExpr.args,Yu] using hi
  show errE ((repL nm y a.args).getD i default)=0
  rw [Yu,Jfl hi'];exact ih i hi' (h2 i hi')
def smE(a:GExpr):Prop:=∃ (X:Nat→Prop) (w:World) (v:Value),RV Jf X w v a
theorem Jzi{nm:List UInt8}{y:GExpr}(hy:okE y):∀ a:GExpr,okE a→okE (repE nm y a):=Jay fun a ih h=>by
 rw [q7]
 split
 ·exact hy
 ·rw [xp] at h ⊢;refine⟨h.1,h.2.1,h.2.2.1,xe.2 fun i hi=>?_⟩
  have hi':i < a.args.length:=by simpa [GExpr.args,Yu] using hi
  show okE ((repL nm y a.args).getD i default)
  rw [Yu,Jfl hi'];exact ih i hi' (xe.1 h.2.2.2 i hi')
theorem Jxh{a:GExpr}{i:Nat}(h:smE a)(hi:i < a.args.length):smE (a.args.getD i default):=by
 obtain⟨X,w,v,h⟩:=h;obtain⟨a1,c1,a2,c2,a3,c3,a4,c4,_,h'⟩:=J3f h;obtain⟨a5,c5,e,g1,g2,g3⟩:=h'.args
 rcases g3 with g3 | ⟨b,o,e2,hx,g3⟩
 ·rw [g3] at hi;exact absurd hi (Nat.not_lt_zero _)
 ·obtain⟨cs,hr,_⟩:=g3 i (a.args.getD i default) (Jg hi);exact⟨X,w,.agg cs.toArray,cs,rfl,hr⟩
theorem Jp5:∀ a:GExpr,Zl a=true→smE a→okE (lowE a):=Jay fun a ih h hs=>by
 obtain⟨_,h2,h3,h4,h5⟩:=Yq.1 h;rw [vz,xp];have hk:(lowC a.op a.c).num.mag.length≤1000∧(lowC a.op a.c).den.mag.length≤1000:=by
  unfold lowC
  split
  ·obtain⟨X,w,v,hv⟩:=hs;obtain⟨a1,c1,a2,c2,a3,c3,a4,c4,_,h'⟩:=J3f hv;have e1:=Jke (a:=a.c) h'.num.u32_small;have e2:=Jmm (a:=a.c) h'.den.u32_small;omega
  ·exact⟨Nat.zero_le _,Nat.zero_le _⟩
 refine⟨hk.1,hk.2,by show a.name.length≤1000;omega,xe.2 fun i hi=>?_⟩
 have hi':i < a.args.length:=by simpa [GExpr.args,Yv] using hi
 show okE ((lowL a.args).getD i default)
 rw [Yv,Jfl hi'];exact ih i hi' (h5 i hi') (Jxh hs hi')
end Go.Wf
namespace Go.Wf
open Go Go.RowKit
structure OW {α:Type} (T:Ty α) (E:TypeId) (x:Nat→Prop) (w:World) (v:Value) (l:List α):Prop where
 ex:∃ css:List (List Value),css.length=l.length∧(∀ (i:Nat) (cs:List Value) (u:α),css[i]? =some cs→l[i]? =some u→T.rd x w cs u)∧w.ownsRow 0 E T.sz v l.length css.flatten
def RetO(w:World)(o:Option Nat)(Φ:Value→World→Prop):Ending→World→Prop
 | .returned v,w'=>Φ v w'∧Bel ⟨w,fun k=>o=some k⟩ w'
 | _,_=>False
def OWr{α:Type}(T:Ty α)(E:TypeId)(X:Nat→Prop)(w:World)(o:Option Nat)(v:Value)(w':World)(l:List α):Prop:=
 OW T E (fun b=>X b∨v.ownBlock=some b) w' v l∧∀ k,v.ownBlock=some k→o=some k∨w.heap.size≤k
section
variable {α:Type} {T:Ty α} {E:TypeId} {X X0 x y:Nat→Prop} {w w':World} {w0:Bs} {v:Value} {l:List α}
theorem OW.opn(h:OW T E X w v l):∃ a c,v= .slice a l.length c∧l.length≤c∧c≤maxLen:=by
 obtain⟨⟨css,h1,h2,h3⟩⟩:=h
 rcases h3.2 with ⟨rfl,h⟩ | ⟨g,cap,cur,rfl,_,_,h4,h5,_⟩
 ·exact⟨none,0,by rw [h],by omega,by unfold maxLen;omega⟩
 ·exact⟨_,cap,rfl,h4,h5⟩
theorem OW.start(h:OW T E X w v l)(hX:∀ b,X b→b < w.heap.size)(hm:∀ k,v.ownBlock=some k→X k):
  ∃ M:Nat→Prop,Cx X ⟨w,M⟩ X Zf w∧OS T E ⟨w,M⟩ X Zf w v l∧∀ k,M k→v.ownBlock=some k:=
 ⟨fun k=>v.ownBlock=some k,⟨Bel.refl _,fun _ h=>h,hX,fun _ h=>h.elim⟩,⟨h.ex,fun k hk=>⟨⟨hm k hk,id⟩,.inr hk⟩⟩,fun _ h=>h⟩
theorem RetO.fin{M:Nat→Prop}{o:Option Nat}{l':List α}(C:Cx X ⟨w,M⟩ x y w')(hM:∀ k,M k→o=some k)(h:OS T E ⟨w,M⟩ x y w' v l)(e:l=l'):RetO w o (fun v w'=>OWr T E X w o v w' l') (.returned v) w':=by
 subst e;refine⟨⟨?_,fun k hk=>?_⟩,⟨C.below.os,C.below.tape,C.below.output,C.below.size,fun k hk hm=>C.below.block k hk fun hmk=>hm (hM k hmk)⟩⟩
 ·obtain⟨⟨css,h1,h2,h3⟩,hm⟩:=h;refine⟨css,h1,fun i cs u hi hu=>T.tr (h2 i cs u hi hu) (Tr.weak ?_),h3⟩;rintro b (hb | hb)
  ·exact C.base b hb
  ·exact(hm b hb).1.1
 ·rcases(h.mem k hk).2 with h1 | h1
  ·exact .inr h1
  ·exact .inl (hM k h1)
theorem Cx.backO{v2:Value}{l2:List α}(C:Cx X0 w0 x y w)(ho:∀ k,v.ownBlock=some k→(x k∧¬ y k)∧(w0.heap.size≤k∨w0.M k))(b:Bel ⟨w,fun k=>v.ownBlock=some k⟩ w')(h:OWr T E x w v.ownBlock v2 w' l2):
  Cx X0 w0 (fun b=>x b∨v2.ownBlock=some b) y w'∧Ap x w (fun b=>x b∨v2.ownBlock=some b) y w'∧OS T E w0 (fun b=>x b∨v2.ownBlock=some b) y w' v2 l2:=by
 obtain⟨⟨css,h1,h2,h3⟩,hn⟩:=h;have hsz:w.heap.size≤w'.heap.size:=b.size;have hlt:∀ k,v2.ownBlock=some k→k < w'.heap.size:=fun k hk=>(h3.lt k hk).2;refine⟨⟨⟨b.os.trans C.below.os,b.tape.trans C.below.tape,b.output.trans C.below.output,Nat.le_trans C.below.size hsz,fun k hk hm=>?_⟩,fun k hk=> .inl (C.base k hk),?_,fun k hk=> .inl (C.yx k hk)⟩,⟨⟨?_,fun k hk hx=>b.block k hk fun e=>hx (ho k e).1.1,hsz⟩,fun k hk hy=>b.block k hk fun e=>(ho k e).1.2 hy⟩,⟨⟨css,h1,h2,h3⟩,fun k hk=>?_⟩⟩
 ·refine(b.block k (Nat.lt_of_lt_of_le hk C.below.size) fun e=>?_).trans (C.below.block k hk hm)
  rcases(ho k e).2 with h4 | h4
  ·omega
  ·exact hm h4
 ·rintro k (hk | hk)
  ·exact Nat.lt_of_lt_of_le (C.bd k hk) hsz
  ·exact hlt k hk
 ·rintro k hk (h4 | h4)
  ·exact h4
  ·rcases hn k h4 with h5 | h5
   ·exact(ho k h5).1.1
   ·omega
 ·rcases hn k hk with h5 | h5
  ·exact⟨⟨.inr hk,(ho k h5).1.2⟩,(ho k h5).2⟩
  ·exact⟨⟨.inr hk,fun hy=>by have:=C.bd k (C.yx k hy);omega⟩,.inl (Nat.le_trans C.below.size h5)⟩
theorem OS.ow(h:OS T E w0 x y w v l):OW T E x w v l:=⟨h.ex⟩
theorem OS.take{a:Option Addr}{n c j:Nat}(h:OS T E w0 x y w (.slice a n c) l)(hj:j≤l.length):OS T E w0 x y w (.slice a j c) (l.take j):=by
 obtain⟨⟨css,h1,h2,h3⟩,hm⟩:=h;have hall:=Yp h1 h2;have hfl:∀ (css:List (List Value)) (j:Nat),(∀ cs ∈ css,cs.length=T.sz)→j≤css.length→(css.take j).flatten=css.flatten.take (j * T.sz)∧(css.take j).flatten.length=j * T.sz:=by
  intro css
  induction css with
  | nil=>intro j _ hj;simp at hj;subst hj;simp
  | cons cs css ih=>
   intro j hh hj
   cases j with
   | zero=>simp
   | succ j=>
    obtain⟨e1,e2⟩:=ih j (fun q hq=>hh q (by simp [hq])) (by simpa using hj);have h0:=hh cs (by simp);rw [List.take_succ_cons,List.flatten_cons,List.flatten_cons,List.take_append,e1,Nat.succ_mul,h0];refine⟨?_,?_⟩
    ·rw [show cs.take (j * T.sz+T.sz)=cs from List.take_of_length_le (by omega),show j * T.sz+T.sz - T.sz=j * T.sz by omega]
    ·rw [List.length_append,← e1,e2,h0];omega
 obtain⟨e1,e2⟩:=hfl css j hall (by omega);refine⟨⟨css.take j,by rw [List.length_take,List.length_take];omega,fun i cs u hi hu=>?_,?_⟩,fun k hk=>hm k (by cases a <;> simp [Value.ownBlock] at hk ⊢ <;> exact hk)⟩
 ·rw [List.getElem?_take] at hi hu
  split at hi
  ·rename_i hlt
   rw [if_pos hlt] at hu;exact h2 i cs u hi hu
  ·cases hi
 ·have hjl:(l.take j).length=j:=by rw [List.length_take];omega
  rw [hjl];refine⟨e2,?_⟩
  rcases h3.2 with ⟨e,h⟩ | ⟨g,cap,cur,e,hb,hg,h4,h5,h6,h7⟩
  ·cases e
   left
   refine⟨by rw [show j=0 by omega],by omega⟩
  ·injection e with e3 e4 e5
   subst e3;subst e5
   right
   refine⟨g,c,cur,rfl,hb,hg,by omega,h5,h6,?_⟩;rw [e1,← h7,List.take_take,Nat.min_eq_left (Nat.mul_le_mul_right _ hj)]
theorem Jrc{a:Option Addr}{n c i:Nat}(h:OS T E w0 x y w (.slice a n c) l)(hi:i≤l.length):Src T x w (.slice (if c=i then a else a.map (·.add (i * T.sz))) (l.length - i) (c - i)) (l.drop i):=by
 obtain⟨⟨css,h1,h2,h3⟩,hm⟩:=h;have hall:=Yp h1 h2;have hfl:∀ (css:List (List Value)) (j:Nat),(∀ cs ∈ css,cs.length=T.sz)→j≤css.length→(css.drop j).flatten=css.flatten.drop (j * T.sz):=by
  intro css
  induction css with
  | nil=>intro j _ hj;simp
  | cons cs css ih=>
   intro j hh hj
   cases j with
   | zero=>simp
   | succ j=>
    have h0:=hh cs (by simp);rw [List.drop_succ_cons,List.flatten_cons,ih j (fun q hq=>hh q (by simp [hq])) (by simpa using hj),Nat.succ_mul,List.drop_append,h0,show cs.drop (j * T.sz+T.sz)=[] from List.drop_of_length_le (by omega),List.nil_append,show j * T.sz+T.sz - T.sz=j * T.sz by omega]
 have hdl:(l.drop i).length=l.length - i:=List.length_drop;refine⟨css.drop i,by rw [List.length_drop,List.length_drop,h1],fun k cs u hk hu=>?_,_,c - i,by rw [hdl],?_⟩
 ·rw [List.getElem?_drop] at hk hu;exact h2 _ cs u hk hu
 ·by_cases hli:i=l.length
  ·left;rw [hli,List.drop_length]
  ·rcases h3.2 with ⟨e,h⟩ | ⟨g,cap,cur,e,hb,hg,h4,h5,h6,h7⟩
   ·cases e;omega
   ·cases e
    right
    refine⟨g,i * T.sz,?_,?_⟩
    ·rw [if_neg (by omega)];simp [Addr.add];try omega
    ·intro j u hj;rw [hfl css i hall (by omega),List.getElem?_drop] at hj
     have:=h3.cells (g:=g) rfl _ u hj
     rw [Addr.add_lit] at this;rw [show i * T.sz+j=0+(i * T.sz+j) by omega];exact this
end
section
variable {P:Program} {ρ:Operand→Value} {w:World} {K:Value→World→Prop} {Kp:List PanicEntry→World→Prop} {dst:Option Tmp} {ty:TypeId} {pos:String} {after:Array Edge} {gd:Option (Nat × Bool)} {X0 x y:Nat→Prop} {w0:Bs} {α:Type} {T:Ty α} {E:TypeId}
theorem J4c {k:FuncId} {args:Array Operand} {ts:Array TypeId} {vs:List Value} {v1:Value} {l l2:List α} (C:Cx X0 w0 x y w) (ho:OS T E w0 x y w v1 l) (hk:Jb P k=true)
  (ha:args.toList.map ρ=vs) (he:ρ (.func k)= .func (.func k) #[] #[]) (hc:Calls P k vs.toArray w (RetO w v1.ownBlock fun v w'=>OWr T E x w v1.ownBlock v w' l2))
  (h:∀ v w' x',Cx X0 w0 x' y w'→Ap x w x' y w'→(∀ b,x b→x' b)→OS T E w0 x' y w' v l2→K v w'):
  St P ρ ⟨dst,.call {callee:= .value (.func k),args:=args,argTypes:=ts},ty,pos,after,gd⟩ w K Kp:=by
 unfold Jb at hk
 split at hk
 ·rename_i fn hf
  simp only [Bool.and_eq_true,Bool.not_eq_true'] at hk;refine St.call hf hk.1 hk.2 ha (Calls.mono hc ?_) he;intro e w' hr
  cases e with
  | returned v=>obtain⟨h1,h2⟩:=hr;obtain⟨c,a,o⟩:=C.backO ho.mem h2 h1;exact h v w' _ c a (fun _ h=> .inl h) o
  | panicked ch=>exact hr.elim
  | outgrown=>exact hr.elim
 ·cases hk
theorem J46 {k:FuncId} {args:Array Operand} {ts:Array TypeId} {vs:List Value} {v1:Value} {l l2:List α} (C:Cx X0 w0 x y w) (ho:OS T E w0 x y w v1 l) (hk:Jb P k=true)
  (ha:args.toList.map ρ=vs) (he:ρ (.func k)= .func (.func k) #[] #[]) (hc:Calls P k vs.toArray w (RetO w v1.ownBlock fun _ w'=>OWr T E x w v1.ownBlock v1 w' l2))
  (h:∀ v w' x',Cx X0 w0 x' y w'→Ap x w x' y w'→(∀ b,x b→x' b)→OS T E w0 x' y w' v1 l2→K v w'):
  St P ρ ⟨dst,.call {callee:= .value (.func k),args:=args,argTypes:=ts},ty,pos,after,gd⟩ w K Kp:=by
 unfold Jb at hk
 split at hk
 ·rename_i fn hf
  simp only [Bool.and_eq_true,Bool.not_eq_true'] at hk;refine St.call hf hk.1 hk.2 ha (Calls.mono hc ?_) he;intro e w' hr
  cases e with
  | returned v=>obtain⟨h1,h2⟩:=hr;obtain⟨c,a,o⟩:=C.backO ho.mem h2 h1;exact h v w' _ c a (fun _ h=> .inl h) o
  | panicked ch=>exact hr.elim
  | outgrown=>exact hr.elim
 ·cases hk
theorem J5e {a r:Operand} {t e:TypeId} {z:Value} {by_:Nat} {ad:Option Addr} {n c:Nat} {l:List α} {k:IntKind} {m:Int} {j:Nat} (ho:OS T E w0 x y w (.slice ad n c) l) (ht:P.underlying t=some (.slice e)) (hi:J9 P e=some (z,T.sz,by_))
  (hx:ρ a= .slice ad n c) (hy:ρ r= .int k m) (hm:m=j) (hj:j≤l.length)
  (h:K (.slice ad j c) w):St P ρ ⟨dst,.slice t a none (some r) none,ty,pos,after,gd⟩ w K Kp:=by
 subst hm;obtain⟨inf,hi',_,hs,_⟩:=Jl hi;obtain⟨a',c',e',hle,hc⟩:=ho.len
 cases e'
 have hjc:j≤c:=by omega
 refine J3c (v:= .slice ad j c) ?_ h;have hz:(if c=0 then ad else Option.map (fun x=>Addr.add x 0) ad)=ad:=by
  have:∀ p:Addr,p.add 0=p:=fun p=>Addr.add_zero' p
  split <;> cases ad <;> simp [this]
 simp [execOp,hx,hy,Instr.sliceAt,Instr.slice,run_underlying ht,Instr.sliceBounds,Instr.sliceBound,asIntOf,hjc,sizeOf,typeInfo,hi',Addr.add]
theorem J5a {a lo:Operand} {t e:TypeId} {z:Value} {by_:Nat} {ad:Option Addr} {n c:Nat} {l:List α} {k:IntKind} {m:Int} {i:Nat} (ho:OS T E w0 x y w (.slice ad n c) l) (ht:P.underlying t=some (.slice e)) (hi:J9 P e=some (z,T.sz,by_))
  (hx:ρ a= .slice ad n c) (hy:ρ lo= .int k m) (hm:m=i) (hj:i≤l.length)
  (h:K (.slice (if c=i then ad else ad.map (·.add (i * T.sz))) (l.length - i) (c - i)) w):St P ρ ⟨dst,.slice t a (some lo) none none,ty,pos,after,gd⟩ w K Kp:=by
 subst hm;obtain⟨inf,hi',_,hs,_⟩:=Jl hi;obtain⟨a',c',e',hle,hc⟩:=ho.len
 cases e'
 refine J3c (v:= .slice (if c=i then ad else ad.map (·.add (i * T.sz))) (l.length - i) (c - i)) ?_ h;simp [execOp,hx,hy,Instr.sliceAt,Instr.slice,run_underlying ht,Instr.sliceBounds,Instr.sliceBound,asIntOf,hj,sizeOf,typeInfo,hi',hs]
theorem J4x {a i:Operand} {t e:TypeId} {z:Value} {by_:Nat} {ad:Option Addr} {n c:Nat} {l:List α} {k:IntKind} {m:Int} {j:Nat} (ho:OS T E w0 x y w (.slice ad n c) l) (ht:P.underlying t=some (.slice e)) (hi:J9 P e=some (z,T.sz,by_))
  (hx:ρ a= .slice ad n c) (hy:ρ i= .int k m) (hm:m=j) (hj:j < l.length)
  (h:K (.pointer (ad.map (·.add (j * T.sz)))) w):St P ρ ⟨dst,.indexAddr t a i,ty,pos,after,gd⟩ w K Kp:=by
 obtain⟨inf,hi',_,hs,_⟩:=Jl hi;obtain⟨⟨css,h1,h2,h3⟩,hmm⟩:=ho
 rcases h3.2 with ⟨e1,h4⟩ | ⟨g,cap,cur,e1,hb,hg,h4,h5,_⟩
 ·omega
 ·cases e1
  refine St.indexAddr ht hi' hs hx hy hm hj ?_;have h8:(Value.pointer (Option.map (fun x=>x.add (j * T.sz)) (some (⟨g,0,none⟩:Addr))))= .pointer (some ⟨g,0+j * T.sz,none⟩):=by simp [Addr.add];intro h;exact h.symm
  rw [h8] at h;exact h
end
section
variable {P:Program} {ρ:Operand→Value} {w:World} {K:Value→World→Prop} {Kp:List PanicEntry→World→Prop} {dst:Option Tmp} {ty:TypeId} {pos:String} {after:Array Edge} {gd:Option (Nat × Bool)} {X0 x y:Nat→Prop} {w0:Bs}
theorem J5f {e:TypeId} {o:Operand} {vs:List Value} (C:Cx X0 w0 x y w) (hx:(ρ o).cells=vs.toArray)
  (h:∀ g w' x' y',(∀ b,b < w.heap.size→b≠g)→Cx X0 w0 x' y' w'→Sp x y w x' y' w' Zf→Own w0 y' w' g vs e→(∀ b,x b→x' b)→K (.pointer (some ⟨g,0,none⟩)) w'):
  St P ρ ⟨dst,.box e o,ty,pos,after,gd⟩ w K Kp:=
 St.box hx (h _ _ _ _ (fun b hb=>by omega) (C.box vs e).1 (C.box vs e).2.1 (C.box vs e).2.2 fun _ h=> .inl h)
theorem J4h {e:TypeId} {z:Value} {sz by_:Nat} {vs:List Value} (C:Cx X0 w0 x y w) (hi:J9 P e=some (z,sz,by_)) (hv:z.cells=vs.toArray)
  (h:∀ g w' x' y',(∀ b,b < w.heap.size→b≠g)→Cx X0 w0 x' y' w'→Sp x y w x' y' w' Zf→Own w0 y' w' g vs e→(∀ b,x b→x' b)→K (.pointer (some ⟨g,0,none⟩)) w'):
  St P ρ ⟨dst,.alloc e,ty,pos,after,gd⟩ w K Kp:=by
 obtain⟨i,hi',hz,_,_⟩:=Jl hi;exact St.alloc hi' hz hv (h _ _ _ _ (fun b hb=>by omega) (C.box vs e).1 (C.box vs e).2.1 (C.box vs e).2.2 fun _ h=> .inl h)
theorem OS.strCell{E:TypeId}{ad:Option Addr}{n c j:Nat}{l:List (List UInt8)}(h:OS Zm E w0 x y w (.slice ad n c) l)(hj:j < l.length):∃ g,ad=some ⟨g,0,none⟩∧w.cell? ⟨g,j,none⟩=some (str (l.getD j [])):=by
 obtain⟨⟨css,h1,h2,h3⟩,hm⟩:=h
 rcases h3.2 with ⟨e,h⟩ | ⟨g,cap,cur,e,hb,hg,h4,h5,_⟩
 ·omega
 ·cases e
  refine⟨g,rfl,?_⟩;have hci:css[j]? =some css[j]:=by simp [h1,hj]
  have hr:=h2 j _ (l.getD j []) hci (Jg hj);have hall:=Yp h1 h2;obtain⟨e1,e2⟩:css[j]=[str (l.getD j [])]∧_:=hr
  have:=X2 css hall j 0 _ hci (by rw [e1];exact Nat.one_pos)
  rw [e1] at this;have h8:=h3.cells (g:=g) rfl _ _ (by rw [this];rfl);rw [Addr.add_lit] at h8;have hz:0+(j * Zm.sz+0)=j:=by show 0+(j * 1+0)=j;omega
  rw [hz] at h8;exact h8
end
section
variable {P:Program} {ρ:Operand→Value} {w:World} {K:Value→World→Prop} {Kp:List PanicEntry→World→Prop} {dst:Option Tmp} {ty:TypeId} {pos:String} {after:Array Edge} {gd:Option (Nat × Bool)} {X0 x y:Nat→Prop} {w0:Bs}
theorem J4p{o:Operand}{t E:TypeId}{ad:Option Addr}{n c j:Nat}{l:List (List UInt8)}(ho:OS Zm E w0 x y w (.slice ad n c) l)(ht:Yg P t=true)(hx:ρ o= .pointer (ad.map (·.add (j * 1))))(hj:j < l.length)(h:K (str (l.getD j [])) w):
  St P ρ ⟨dst,.load t o,ty,pos,after,gd⟩ w K Kp:=by
 obtain⟨g,rfl,hc⟩:=ho.strCell hj;have h8:(Value.pointer (Option.map (fun x=>x.add (j * 1)) (some (⟨g,0,none⟩:Addr))))= .pointer (some ⟨g,j,none⟩):=by simp [Addr.add];intro h;exact h.symm
 rw [h8] at hx;exact J3e ht hx hc h
theorem J4i {α:Type} {T:Ty α} {E t:TypeId} {z u:Value} {by_ g n:Nat} {l m:List α} {a b:Operand} (C:Cx X0 w0 x y w) (ht:P.underlying t=some (.slice E)) (hi:J9 P E=some (z,T.sz,by_)) (hx:ρ a= .slice (some ⟨g,0,none⟩) n n) (hy:ρ b=u)
  (hv:RS T x w (.slice (some ⟨g,0,none⟩) n n) l) (hs:Src T x w u m) (h63:l.length+m.length≤maxLen) (hby:(l.length+m.length) * by_≤140737488355328) (hz:z.cells.size=T.sz)
  (h:∀ v' w',Cx X0 w0 x y w'→Sp x y w x y w' Zf→RS T x w' v' (l++m)→K v' w'):
  St P ρ ⟨dst,.call {callee:= .builtin .append,args:= #[a,b],argTypes:= #[t,t]},ty,pos,after,gd⟩ w K Kp:=by
 obtain⟨inf,hi',hz',hsz,hbyt⟩:=Jl hi;obtain⟨css',k1,k2,ad,c,rfl,k3⟩:=hs;have hal':=Yp k1 k2;obtain⟨_,_,e0,hn0,hc0⟩:=hv.len;obtain⟨rfl⟩:n=l.length:=by injection e0
 have hfl:∀ (css:List (List Value)),(∀ cs ∈ css,cs.length=T.sz)→css.flatten.length=css.length * T.sz:=by
  intro css
  induction css with
  | nil=>intro _;simp
  | cons c css ih=>intro hh;rw [List.flatten_cons,List.length_append,hh c (by simp),ih fun cs h=>hh cs (by simp [h]),List.length_cons,Nat.succ_mul];omega
 by_cases hml:m=[]
 ·subst hml;have hcss':css'=[]:=List.eq_nil_of_length_eq_zero (by simpa using k1);subst hcss';have hrun:(Builtin.append_ #[t,t] ty #[.slice (some ⟨g,0,none⟩) l.length l.length,.slice ad ([]:List α).length c]).run P w= .ok (.slice (some ⟨g,0,none⟩) l.length l.length) w:=by
   cases ad <;> simp [Builtin.append_,run_underlying ht,sizeOf,typeInfo,hi',Builtin.lenOf,Builtin.firstCells,loadCells,loadCellsFrom,storeCells]
  refine J3c (v:= .slice (some ⟨g,0,none⟩) l.length l.length) (w':=w) (by simp only [List.length_nil] at hrun hy;simp [execOp,resolve,invoke,builtin,hx,hy,hrun]) (h _ _ C Sp.refl (by rw [List.append_nil];exact hv))
 ·rcases k3 with k3 | ⟨bb,oo,rfl,hcell⟩
  ·exact absurd k3 hml
  have hmpos:0 < m.length:=List.length_pos_iff.2 hml;have hnl:css'.flatten.length=m.length * T.sz:=by rw [hfl css' hal',k1]
  have hnews:∀ j u,css'.flatten[j]? =some u→w.cell? ((⟨bb,oo,none⟩:Addr).add j)=some u:=fun j u hj=>by rw [Addr.add_lit];exact hcell j u hj
  obtain⟨⟨css,h1,h2,ad2,c2,e2,h3⟩⟩:=Xh hv;have hal:=Yp h1 h2;have hcl:css.flatten.length=l.length * T.sz:=by rw [hfl css hal,h1]
  have holds:∀ j u,css.flatten[j]? =some u→w.cell? ((⟨g,0,none⟩:Addr).add j)=some u:=by
   intro j u hj
   rcases h3 with h3 | ⟨b3,o3,e3,h3⟩
   ·subst h3
    have:css=[]:=List.eq_nil_of_length_eq_zero (by simpa using h1)
    subst this;simp at hj
   ·injection e2 with e4 _ _
    rw [e3] at e4
    injection e4 with e4
    injection e4 with e5 e6 _
    subst e5;subst e6;rw [Addr.add_lit];exact h3 j u hj
  have hr:=run_append_grow (P:=P) w t ty E inf z ht hi' hz' ⟨g,0,none⟩ l.length l.length css.flatten (by rw [hcl,hsz]) holds ⟨bb,oo,none⟩ m.length c css'.flatten (by rw [hnl,hsz]) hnews (by omega) (by simp only [maxLen] at h63;omega) (by rw [hbyt];exact growslice_fits (by omega) hby);have hlen:(css.flatten++css'.flatten).length=(l.length+m.length) * T.sz:=by rw [List.length_append,hnl,hcl,Nat.add_mul]
  have hB:=((Below.refl w.heap.size w).drew).alloc (Nat.le_refl _) (.cells (css.flatten.toArray++css'.flatten.toArray++Builtin.zeroCells z.cells (grownCap w (l.length+m.length) l.length E - (l.length+m.length))) E);obtain⟨C',S'⟩:=C.next hB;have ho:OS T E w0 (fun b=>x b∨b=w.heap.size) y (w.drew.alloc (.cells (css.flatten.toArray++css'.flatten.toArray++Builtin.zeroCells z.cells (grownCap w (l.length+m.length) l.length E - (l.length+m.length))) E)) (.slice (some ⟨w.heap.size,0,none⟩) (l++m).length (grownCap w (l.length+m.length) l.length E)) (l++m):=by
   have hT:Tr x w (fun b=>x b∨b=w.heap.size) (w.drew.alloc (.cells (css.flatten.toArray++css'.flatten.toArray++Builtin.zeroCells z.cells (grownCap w (l.length+m.length) l.length E - (l.length+m.length))) E)):=⟨by
    rintro b hb (h | rfl)
    ·exact h
    ·exact absurd hb (Nat.lt_irrefl _),S'.tx.blk,S'.tx.size⟩
   refine⟨⟨css++css',by simp [h1,k1],?_,by rw [List.flatten_append,hlen,List.length_append],.inr ⟨w.heap.size,_,_,by rw [List.length_append],Nat.zero_le _,heap_alloc_new w.drew _,by rw [List.length_append];exact grownCap_ge w _ _ E,grownCap_le_maxLen w _ _ E h63,?_,?_⟩⟩,fun k hk=>?_⟩
   ·intro i cs u hic hiu;rw [List.getElem?_append] at hic hiu
    by_cases hil:i < l.length
    ·rw [if_pos (by omega)] at hic;rw [if_pos hil] at hiu;exact T.tr (h2 i cs u hic hiu) hT
    ·rw [if_neg (by omega)] at hic;rw [if_neg hil] at hiu;rw [h1] at hic;exact T.tr (k2 _ cs u hic hiu) hT
   ·have hge:=grownCap_ge w (l.length+m.length) l.length E;simp only [Array.size_append,List.size_toArray,size_zeroCells,hz,hnl,hcl,← Nat.add_mul]
    congr 1;omega
   ·simp only [Array.toList_append,List.append_assoc,List.flatten_append];rw [← List.append_assoc,List.length_append,← hlen];exact List.take_left
   ·simp [Value.ownBlock] at hk;subst hk;exact⟨⟨.inr rfl,fun hy=>by have:=C.bd _ (C.yx _ hy);omega⟩,.inl C.below.size⟩
  refine J3c (v:= .slice (some ⟨w.heap.size,0,none⟩) (l++m).length (grownCap w (l.length+m.length) l.length E)) (w':=_) (by
   rw [List.length_append];simp [execOp,resolve,invoke,builtin,hx,hy,hr]) (h _ _ C' S' (ho.pub (fun _ h=> .inl h) fun k hk=>by
   simp [Value.ownBlock] at hk;subst hk;exact fun hx=>by have:=C.bd _ hx;omega))
end
end Go.Wf
namespace Go.Wf
open Go Go.Proofs Go.RowKit
theorem Jyf{X:Nat→Prop}{w:World}(hX:XB X w){v0:Value}{a:List Int}(r0:RS Y1 X w v0 a){v1:Value}{b:List Int}(r1:RS Y1 X w v1 b)(hab:a=b):Calls Tryz.prog 34 #[v0,v1] w (Ret w fun v w'=>v=(.bool true)):=by
 obtain⟨a1,c2,rfl,_,_⟩:=r0.len;obtain⟨a3,c4,rfl,_,_⟩:=r1.len;have C:=Cx.start hX;have hlen:a.length=b.length:=by rw [hab]
 have hml:=Jq8 r0;refine Cgo (args:=[(.slice a1 a.length c2),(.slice a3 b.length c4)]) Tryz.func34 rfl rfl rfl (Rg (Oa (Nl (Rh (Om (Ol (St.len sl23 rfl (Om (Ol (St.len sl23 rfl (Ol (St.neq (t:=false) rfl rfl (by rw [decide_eq_true (by omega)];rfl) (Nl (J28 rfl ?_))))))))))))));refine W.skip (Rh (Oa (Nl (W.block (J3j (fun μ f v=>∃ (x y:Nat→Prop) (i:Nat),Cx X w x y v∧f 0=(.slice a1 a.length c2)∧f 1=(.slice a3 b.length c4)∧f 5=(.int .i64 ((i:Nat):Int))∧RS Y1 x v (.slice a1 a.length c2) a∧RS Y1 x v (.slice a3 b.length c4) b∧i≤a.length∧μ=(a.length - i)) _ ⟨_,_,0,C,rfl,rfl,rfl,r0,r1,(Nat.zero_le _),rfl⟩ ?_)))));rintro m14 f5 w6 ⟨x7,y8,i,C9,e10,e11,e12,r0,r1,hi,hmu13⟩;obtain⟨f15,rfl⟩:=rebK (aC e10 (aC e11 (aC e12 aN)));clear e10 e11 e12;refine Rh (Om (Om (Ol (St.len sl23 rfl (Ol (J3i rfl rfl (fun hc16=>?_) (fun hc16=>?_)))))))
 ·refine Nl (J26 rfl (W.skip (W.seq (W.block (W.seq (J3m J5 8 [[],[],[0,1],[2],[],[],[4,5],[6]] C9 [fx (.slice a1 a.length c2),fx (.int .i64 ((i:Nat):Int)),fE Y1 (a.getD i 0),fx (.int .i64 (a.getD i 0)),fx (.slice a3 b.length c4),fx (.int .i64 ((i:Nat):Int)),fE Y1 (b.getD i 0),fx (.int .i64 (b.getD i 0))] (by kernel_rfl) ⟨sx,sx,sE,sx,sx,sx,sE,sx,trivial⟩ fun f28 s29 w30 ⟨C33,S34⟩ k32=>?_))))))
  replace r0:=r0.sp S34;replace r1:=r1.sp S34;have k32:Keep [17,18,19,20,21,22,23,24] _ f28:=k32;refine⟨⟨fun _=>?_,fun _=>?_,fun⟨e35,e36,_⟩=>?_,fun⟨d37,_⟩=>?_,fun _=>?_,fun _=>?_,fun⟨e38,e39,_⟩=>?_,fun⟨d40,_⟩=>?_,trivial⟩,fun⟨e41,e42,d43,e44,e45,e46,d47,e48,_⟩=>?_⟩
  ·exact Ja k32 aN fun _=>OpSt.op (St.move ⟨s29,RC.same C33,rfl⟩)
  ·exact Ja k32 aN fun _=>OpSt.op (St.move ⟨s29,RC.same C33,rfl⟩)
  ·refine Ja k32 (aC e35 (aC e36 aN)) fun _=>OpSt.op (J3k (j:=i) (u:=(a.getD i 0)) r0 sl23 io3 rfl rfl rfl (Jg (by omega)) ?_);intro b50 o51 cs52 e53;obtain⟨rfl,bd54⟩:cs52=_∧_:=e53.rd;exact⟨s29,RC.same C33,⟨_,_,_,rfl,e53⟩⟩
  ·obtain⟨b56,o57,cs58,e55,e59⟩:=d37;obtain⟨rfl,bd60⟩:cs58=_∧_:=e59.rd;exact Ja k32 (aC e55 aN) fun _=>OpSt.op (J3e pl3 rfl (e59.cell 0 _ rfl) ⟨s29,RC.same C33,rfl⟩)
  ·exact Ja k32 aN fun _=>OpSt.op (St.move ⟨s29,RC.same C33,rfl⟩)
  ·exact Ja k32 aN fun _=>OpSt.op (St.move ⟨s29,RC.same C33,rfl⟩)
  ·refine Ja k32 (aC e38 (aC e39 aN)) fun _=>OpSt.op (J3k (j:=i) (u:=(b.getD i 0)) r1 sl23 io3 rfl rfl rfl (Jg (by omega)) ?_);intro b61 o62 cs63 e64;obtain⟨rfl,bd65⟩:cs63=_∧_:=e64.rd;exact⟨s29,RC.same C33,⟨_,_,_,rfl,e64⟩⟩
  ·obtain⟨b67,o68,cs69,e66,e70⟩:=d40;obtain⟨rfl,bd71⟩:cs69=_∧_:=e70.rd;exact Ja k32 (aC e66 aN) fun _=>OpSt.op (J3e pl3 rfl (e70.cell 0 _ rfl) ⟨s29,RC.same C33,rfl⟩)
  obtain⟨b73,o74,cs75,e72,e76⟩:=d43;obtain⟨rfl,bd77⟩:cs75=_∧_:=e76.rd;obtain⟨b79,o80,cs81,e78,e82⟩:=d47;obtain⟨rfl,bd83⟩:cs81=_∧_:=e82.rd;obtain⟨f84,rfl⟩:=mixK k32 (aC e41 (aC e42 (aC e72 (aC e44 (aC e45 (aC e46 (aC e78 (aC e48 aN))))))));refine Ol (St.neq (t:=false) rfl rfl (by rw [decide_eq_true (by rw [hab])];rfl) (Nl (J28 rfl (W.skip (W.region (Om (Ol (St.add rfl rfl (Jc (a:=i) (b:=1) (by omega)) (Oa (Nl (⟨_,(by omega),_,_,(i+1),C33,rfl,rfl,rfl,r0,r1,(by omega),rfl⟩)))))))))))
 refine Nl (J28 rfl (W.exit (Rg (Oa (Nl (W.ret (J7 rfl (resV.t rfl) (Ret.intro ?_ C9.below))))))))
 rfl
theorem Jlb{X:Nat→Prop}{w:World}(hX:XB X w){v0:Value}{a:GInt}(r0:RV Jx X w v0 a){v1:Value}{b:GInt}(r1:RV Jx X w v1 b)(hab:a=b):Calls Tryz.prog 72 #[v0,v1] w (Ret w fun v w'=>v=(.bool true)):=by
 obtain⟨a1,c2,rfl,h3⟩:=RV.int r0;obtain⟨a4,c5,rfl,h6⟩:=RV.int r1;have C:=Cx.start hX;have hlen:a.mag.length=b.mag.length:=by rw [hab]
 have hml:=Jyh r0;refine Cgo (args:=[(.agg #[(.bool a.neg),(.slice a1 a.mag.length c2)]),(.agg #[(.bool b.neg),(.slice a4 b.mag.length c5)])]) Tryz.func72 rfl rfl rfl (Rg (Ol (J3g C rfl ?_)));intro g7 w8 x9 y10 lt11 C12 s13 o14;refine Ol (J3g C12 rfl ?_);intro g15 w16 x17 y18 lt19 C20 s21 o22;replace h3:=(h3.sp s13).sp s21;replace h6:=(h6.sp s13).sp s21;replace o14:=o14.spn s21;refine Oa (Nl (Rh (Ol (St.fieldAddr Zv rfl (Ol (J27 o14 pl4 rfl rfl (Ol (St.fieldAddr Zv rfl (Ol (J27 o22 pl4 rfl rfl (Ol (J4b (u:=false) un4 rfl rfl (by rw [hab];exact bne_self_eq_false _) (Om (Og rfl rfl (St.fieldAddr Jz rfl (Og rfl rfl (J27 o14 pl24 rfl rfl ?_)))))))))))))))));refine Og rfl rfl (St.len sl24 rfl (Og rfl rfl (St.fieldAddr Jz rfl (Og rfl rfl (J27 o22 pl24 rfl rfl (Og rfl rfl (St.len sl24 rfl (Og rfl rfl (St.neq (t:=false) rfl rfl (by rw [decide_eq_true (by omega)];rfl) (OF (Nl (J28 rfl (W.skip (Rh (Oa (Nl (W.block (J3j (fun μ f v=>∃ (x y:Nat→Prop) (i:Nat),Cx X w x y v∧f 2=(.pointer (some ⟨g7,0,none⟩))∧f 3=(.pointer (some ⟨g15,0,none⟩))∧f 5=(.int .i64 ((i:Nat):Int))∧RS Je x v (.slice a1 a.mag.length c2) a.mag∧RS Je x v (.slice a4 b.mag.length c5) b.mag∧Own w y v g7 [(.bool a.neg),(.slice a1 a.mag.length c2)] 26∧Own w y v g15 [(.bool b.neg),(.slice a4 b.mag.length c5)] 26∧i≤a.mag.length∧μ=(a.mag.length - i)) _ ⟨_,_,0,C20,rfl,rfl,rfl,h3,h6,o14,o22,(Nat.zero_le _),rfl⟩ ?_))))))))))))))))));rintro m35 f24 w25 ⟨x26,y27,i,C28,e29,e30,e31,h3,h6,o32,o33,hi,hmu34⟩;obtain⟨f36,rfl⟩:=rebK (aC e29 (aC e30 (aC e31 aN)));clear e29 e30 e31;refine Rh (Om (Ol (St.fieldAddr Jz rfl (Ol (J27 o32 pl24 rfl rfl (Ol (St.len sl24 rfl (Ol (J3i rfl rfl (fun hc37=>?_) (fun hc37=>?_))))))))))
 ·refine Nl (J26 rfl (W.skip (W.seq (W.block (W.seq (J3m J5 10 [[],[0],[],[1,2],[3],[],[5],[],[6,7],[8]] C28 [fx (.pointer (some ⟨g7,1,none⟩)),fx (.slice a1 a.mag.length c2),fx (.int .i64 ((i:Nat):Int)),fE Je (a.mag.getD i 0),fx (.int .u32 (((a.mag.getD i 0):Nat):Int)),fx (.pointer (some ⟨g15,1,none⟩)),fx (.slice a4 b.mag.length c5),fx (.int .i64 ((i:Nat):Int)),fE Je (b.mag.getD i 0),fx (.int .u32 (((b.mag.getD i 0):Nat):Int))] (by kernel_rfl) ⟨sx,sx,sx,sE,sx,sx,sx,sx,sE,sx,trivial⟩ fun f49 s50 w51 ⟨C54,S55⟩ k53=>?_))))))
  replace h3:=h3.sp S55;replace h6:=h6.sp S55;replace o32:=o32.spn S55;replace o33:=o33.spn S55;have k53:Keep [27,28,29,30,31,32,33,34,35,36] _ f49:=k53;refine⟨⟨fun _=>?_,fun⟨e58,_⟩=>?_,fun _=>?_,fun⟨e59,e60,_⟩=>?_,fun⟨d61,_⟩=>?_,fun _=>?_,fun⟨e62,_⟩=>?_,fun _=>?_,fun⟨e63,e64,_⟩=>?_,fun⟨d65,_⟩=>?_,trivial⟩,fun⟨e66,e67,e68,d69,e70,e71,e72,e73,d74,e75,_⟩=>?_⟩
  ·exact Ja k53 aN fun _=>OpSt.op (St.fieldAddr Jz rfl ⟨s50,RC.same C54,rfl⟩)
  ·exact Ja k53 (aC e58 aN) fun _=>OpSt.op (J27 o32 pl24 rfl rfl ⟨s50,RC.same C54,rfl⟩)
  ·exact Ja k53 aN fun _=>OpSt.op (St.move ⟨s50,RC.same C54,rfl⟩)
  ·refine Ja k53 (aC e59 (aC e60 aN)) fun _=>OpSt.op (J3k (j:=i) (u:=(a.mag.getD i 0)) h3 sl24 Ji rfl rfl rfl (Jg (by omega)) ?_);intro b77 o78 cs79 e80;obtain⟨rfl,bd81⟩:cs79=_∧_:=e80.rd;exact⟨s50,RC.same C54,⟨_,_,_,rfl,e80⟩⟩
  ·obtain⟨b83,o84,cs85,e82,e86⟩:=d61;obtain⟨rfl,bd87⟩:cs85=_∧_:=e86.rd;exact Ja k53 (aC e82 aN) fun _=>OpSt.op (J3e Ze rfl (e86.cell 0 _ rfl) ⟨s50,RC.same C54,rfl⟩)
  ·exact Ja k53 aN fun _=>OpSt.op (St.fieldAddr Jz rfl ⟨s50,RC.same C54,rfl⟩)
  ·exact Ja k53 (aC e62 aN) fun _=>OpSt.op (J27 o33 pl24 rfl rfl ⟨s50,RC.same C54,rfl⟩)
  ·exact Ja k53 aN fun _=>OpSt.op (St.move ⟨s50,RC.same C54,rfl⟩)
  ·refine Ja k53 (aC e63 (aC e64 aN)) fun _=>OpSt.op (J3k (j:=i) (u:=(b.mag.getD i 0)) h6 sl24 Ji rfl rfl rfl (Jg (by omega)) ?_);intro b88 o89 cs90 e91;obtain⟨rfl,bd92⟩:cs90=_∧_:=e91.rd;exact⟨s50,RC.same C54,⟨_,_,_,rfl,e91⟩⟩
  ·obtain⟨b94,o95,cs96,e93,e97⟩:=d65;obtain⟨rfl,bd98⟩:cs96=_∧_:=e97.rd;exact Ja k53 (aC e93 aN) fun _=>OpSt.op (J3e Ze rfl (e97.cell 0 _ rfl) ⟨s50,RC.same C54,rfl⟩)
  obtain⟨b100,o101,cs102,e99,e103⟩:=d69;obtain⟨rfl,bd104⟩:cs102=_∧_:=e103.rd;obtain⟨b106,o107,cs108,e105,e109⟩:=d74;obtain⟨rfl,bd110⟩:cs108=_∧_:=e109.rd;obtain⟨f111,rfl⟩:=mixK k53 (aC e66 (aC e67 (aC e68 (aC e99 (aC e70 (aC e71 (aC e72 (aC e73 (aC e105 (aC e75 aN))))))))));refine Ol (St.neq (t:=false) rfl rfl (by rw [decide_eq_true (by rw [hab])];rfl) (Nl (J28 rfl (W.skip (W.region (Om (Ol (St.add rfl rfl (Jc (a:=i) (b:=1) (by omega)) (Oa (Nl (⟨_,(by omega),_,_,(i+1),C54,rfl,rfl,rfl,h3,h6,o32,o33,(by omega),rfl⟩)))))))))))
 refine Nl (J28 rfl (W.exit (Rg (Oa (Nl (W.ret (J7 rfl (resV.t rfl) (Ret.intro ?_ C28.below))))))))
 rfl
theorem Ju3{X:Nat→Prop}{w:World}(hX:XB X w){v0:Value}{a:GRat}(r0:RV Xk X w v0 a){v1:Value}{b:GRat}(r1:RV Xk X w v1 b)(hab:a=b):Calls Tryz.prog 35 #[v0,v1] w (Ret w fun v w'=>v=(.bool true)):=by
 obtain⟨a1,c2,a3,c4,rfl,h5,h6⟩:=J34 r0;obtain⟨a7,c8,a9,c10,rfl,h11,h12⟩:=J34 r1;have C:=Cx.start hX;refine Cgo (args:=[(.agg #[(.bool a.num.neg),(.slice a1 a.num.mag.length c2),(.bool a.den.neg),(.slice a3 a.den.mag.length c4)]),(.agg #[(.bool b.num.neg),(.slice a7 b.num.mag.length c8),(.bool b.den.neg),(.slice a9 b.den.mag.length c10)])]) Tryz.func35 rfl rfl rfl (Rg (Ol (J3g C rfl ?_)));intro g13 w14 x15 y16 lt17 C18 s19 o20;replace h6:=h6.sp s19;replace h12:=h12.sp s19;refine Ol (J3g C18 rfl ?_);intro g21 w22 x23 y24 lt25 C26 s27 o28;replace h5:=(h5.sp s19).sp s27;replace h11:=(h11.sp s19).sp s27;replace o20:=o20.spn s27;refine Oa (Nl (Rg (Ol (St.fieldAddr Qk rfl (Ol (J29 (vs:=[(.bool a.num.neg),(.slice a1 a.num.mag.length c2)]) o20 ag26 rfl rfl rfl (Ol (St.fieldAddr Qk rfl (Ol (J29 (vs:=[(.bool b.num.neg),(.slice a7 b.num.mag.length c8)]) o28 ag26 rfl rfl rfl (Ol (J25 C26 cb72 rfl rfl (Jlb C26.bd (a:=a.num) (Jo h5) (b:=b.num) (Jo h11) (by rw [hab])) ?_))))))))))));intro v30 w31 C32 s33 h34;replace h6:=(h6.sp s27).sp s33;replace h12:=(h12.sp s27).sp s33;replace o20:=o20.spn s33;replace o28:=o28.spn s33;subst h34;refine Om (Og rfl rfl (St.fieldAddr Qr rfl (Og rfl rfl (J29 (vs:=[(.bool a.den.neg),(.slice a3 a.den.mag.length c4)]) o20 ag26 rfl rfl rfl (Og rfl rfl (St.fieldAddr Qr rfl (Og rfl rfl (J29 (vs:=[(.bool b.den.neg),(.slice a9 b.den.mag.length c10)]) o28 ag26 rfl rfl rfl (Og rfl rfl (J25 C32 cb72 rfl rfl (Jlb C32.bd (a:=a.den) (Jo h6) (b:=b.den) (Jo h12) (by rw [hab])) ?_))))))))));intro v35 w36 C37 s38 h39;subst h39;refine OT (Oa (Nl (W.ret (J7 rfl (resV.t rfl) (Ret.intro ?_ C37.below)))))
 rfl
theorem Jjy(N:Nat):∀ {X:Nat→Prop} {w:World} (hX:XB X w) {v0:Value} {a:GExpr} (r0:RV Jf X w v0 a) {v1:Value} {b:GExpr} (r1:RV Jf X w v1 b) (hab:a=b) (hN:(SizeOf.sizeOf a) < N),Calls Tryz.prog 12 #[v0,v1] w (Ret w fun v w'=>v=(.bool true)):=by
 induction N with
 | zero=>intro X w hX v0 a r0 v1 b r1 hab hN;exact absurd hN (Nat.not_lt_zero _)
 | succ N ih=>
  intro X w hX v0 a r0 v1 b r1 hab hN;obtain⟨a1,c2,a3,c4,a5,c6,a7,c8,rfl,h9⟩:=J3f r0;obtain⟨a10,c11,a12,c13,a14,c15,a16,c17,rfl,h18⟩:=J3f r1;have C:=Cx.start hX;have hal:=r0.args_max;have hlen:a.args.length=b.args.length:=by rw [hab]
  refine Cgo (args:=[(ea a a1 c2 a3 c4 a5 c6 a7 c8),(ea b a10 c11 a12 c13 a14 c15 a16 c17)]) Tryz.func12 rfl rfl rfl (Rg (Ol (J3g C rfl ?_)));intro g19 w20 x21 y22 lt23 C24 s25 o26;refine Ol (J3g C24 rfl ?_);intro g27 w28 x29 y30 lt31 C32 s33 o34;replace h9:=(h9.sp s25).sp s33;replace h18:=(h18.sp s25).sp s33;replace o26:=o26.spn s33;refine Oa (Nl (Rh (Ol (St.fieldAddr Zz rfl (Ol (J27 o26 pl3 rfl rfl (Ol (St.fieldAddr Zz rfl (Ol (J27 o34 pl3 rfl rfl (Ol (St.neq (t:=false) rfl rfl (by rw [decide_eq_true (by rw [hab])];rfl) (Om (Og rfl rfl (St.fieldAddr K0 rfl (Og rfl rfl (J27 o26 pl23 rfl rfl ?_)))))))))))))))));refine Og rfl rfl (St.fieldAddr K0 rfl (Og rfl rfl (J27 o34 pl23 rfl rfl (Og rfl rfl (J25 C32 cb34 rfl rfl (Jyf C32.bd h9.n h18.n (by rw [hab])) ?_)))));intro v36 w37 C38 s39 h40;replace h9:=h9.sp s39;replace h18:=h18.sp s39;replace o26:=o26.spn s39;replace o34:=o34.spn s39;subst h40;refine Og rfl rfl (St.not rfl (OF (Om (Og rfl rfl (St.fieldAddr Ky rfl (Og rfl rfl (J29 (vs:=[(.bool a.c.num.neg),(.slice a3 a.c.num.mag.length c4),(.bool a.c.den.neg),(.slice a5 a.c.den.mag.length c6)]) o26 ag28 rfl rfl rfl (Og rfl rfl (St.fieldAddr Ky rfl (Og rfl rfl (J29 (vs:=[(.bool b.c.num.neg),(.slice a12 b.c.num.mag.length c13),(.bool b.c.den.neg),(.slice a14 b.c.den.mag.length c15)]) o34 ag28 rfl rfl rfl ?_)))))))))));refine Og rfl rfl (J25 C38 cb35 rfl rfl (Ju3 C38.bd (a:=a.c) (Ke h9.num h9.den) (b:=b.c) (Ke h18.num h18.den) (by rw [hab])) ?_);intro v41 w42 C43 s44 h45;replace h9:=h9.sp s44;replace h18:=h18.sp s44;replace o26:=o26.spn s44;replace o34:=o34.spn s44;subst h45;refine Og rfl rfl (St.not rfl (OF (Om (Og rfl rfl (St.fieldAddr Km rfl (Og rfl rfl (J27 o26 pl9 rfl rfl (Og rfl rfl (St.fieldAddr Km rfl (Og rfl rfl (J27 o34 pl9 rfl rfl (Og rfl rfl (J4f rfl rfl (fun hc46=>absurd (by rw [hab]) hc46) (fun hc46=>(OF (Om ?_))))))))))))))));refine Og rfl rfl (St.fieldAddr J3 rfl (Og rfl rfl (J27 o26 pl29 rfl rfl (Og rfl rfl (St.len sl29 rfl (Og rfl rfl (St.fieldAddr J3 rfl (Og rfl rfl (J27 o34 pl29 rfl rfl (Og rfl rfl (St.len sl29 rfl (Og rfl rfl (St.neq (t:=false) rfl rfl (by rw [decide_eq_true (by omega)];rfl) (OF (Nl (J28 rfl (W.skip ?_)))))))))))))))));refine Rh (Oa (Nl (W.block (J3j (fun μ f v=>∃ (x y:Nat→Prop) (i:Nat),Cx X w x y v∧f 2=(.pointer (some ⟨g19,0,none⟩))∧f 3=(.pointer (some ⟨g27,0,none⟩))∧f 5=(.int .i64 ((i:Nat):Int))∧ExprParts x v a a1 c2 a3 c4 a5 c6 a7 c8∧ExprParts x v b a10 c11 a12 c13 a14 c15 a16 c17∧Own w y v g19 (ec a a1 c2 a3 c4 a5 c6 a7 c8) 31∧Own w y v g27 (ec b a10 c11 a12 c13 a14 c15 a16 c17) 31∧i≤a.args.length∧μ=(a.args.length - i)) _ ⟨_,_,0,C43,rfl,rfl,rfl,h9,h18,o26,o34,(Nat.zero_le _),rfl⟩ ?_))));rintro m58 f47 w48 ⟨x49,y50,i,C51,e52,e53,e54,h9,h18,o55,o56,hi,hmu57⟩;obtain⟨f59,rfl⟩:=rebK (aC e52 (aC e53 (aC e54 aN)));clear e52 e53 e54;refine Rh (Om (Ol (St.fieldAddr J3 rfl (Ol (J27 o55 pl29 rfl rfl (Ol (St.len sl29 rfl (Ol (J3i rfl rfl (fun hc60=>?_) (fun hc60=>?_))))))))))
  ·refine Nl (J26 rfl (W.skip (W.seq (W.block (W.seq (J3m J5 10 [[],[0],[],[1,2],[3],[],[5],[],[6,7],[8]] C51 [fx (.pointer (some ⟨g19,7,none⟩)),fx (.slice a7 a.args.length c8),fx (.int .i64 ((i:Nat):Int)),fE Jf (a.args.getD i default),fr Jf (a.args.getD i default),fx (.pointer (some ⟨g27,7,none⟩)),fx (.slice a16 b.args.length c17),fx (.int .i64 ((i:Nat):Int)),fE Jf (b.args.getD i default),fr Jf (b.args.getD i default)] (by kernel_rfl) ⟨sx,sx,sx,sE,sr,sx,sx,sx,sE,sr,trivial⟩ fun f88 s89 w90 ⟨C93,S94⟩ k92=>?_))))))
   replace h9:=h9.sp S94;replace h18:=h18.sp S94;replace o55:=o55.spn S94;replace o56:=o56.spn S94;have k92:Keep [50,51,52,53,54,55,56,57,58,59] _ f88:=k92;refine⟨⟨fun _=>?_,fun⟨e97,_⟩=>?_,fun _=>?_,fun⟨e98,e99,_⟩=>?_,fun⟨d100,_⟩=>?_,fun _=>?_,fun⟨e101,_⟩=>?_,fun _=>?_,fun⟨e102,e103,_⟩=>?_,fun⟨d104,_⟩=>?_,trivial⟩,fun⟨e105,e106,e107,d108,d109,e110,e111,e112,d113,d114,_⟩=>?_⟩
   ·exact Ja k92 aN fun _=>OpSt.op (St.fieldAddr J3 rfl ⟨s89,RC.same C93,rfl⟩)
   ·exact Ja k92 (aC e97 aN) fun _=>OpSt.op (J27 o55 pl29 rfl rfl ⟨s89,RC.same C93,rfl⟩)
   ·exact Ja k92 aN fun _=>OpSt.op (St.move ⟨s89,RC.same C93,rfl⟩)
   ·refine Ja k92 (aC e98 (aC e99 aN)) fun _=>OpSt.op (J3k (j:=i) (u:=(a.args.getD i default)) h9.args sl29 io31 rfl rfl rfl (Jg (by omega)) ?_);intro b116 o117 cs118 e119;obtain⟨a120,c121,a122,c123,a124,c125,a126,c127,rfl,h128⟩:=Jq e119.rd;exact⟨s89,RC.same C93,⟨_,_,_,rfl,e119⟩⟩
   ·obtain⟨b130,o131,cs132,e129,e133⟩:=d100;obtain⟨a134,c135,a136,c137,a138,c139,a140,c141,rfl,h142⟩:=Jq e133.rd;exact Ja k92 (aC e129 aN) fun _=>OpSt.op (J3v (cs:=(ec (a.args.getD i default) a134 c135 a136 c137 a138 c139 a140 c141)) ag31 rfl rfl e133.cell ⟨s89,RC.same C93,(Jh (a.args.getD i default) h142.lo h142.hi h142.name h142.n h142.num h142.den h142.args)⟩)
   ·exact Ja k92 aN fun _=>OpSt.op (St.fieldAddr J3 rfl ⟨s89,RC.same C93,rfl⟩)
   ·exact Ja k92 (aC e101 aN) fun _=>OpSt.op (J27 o56 pl29 rfl rfl ⟨s89,RC.same C93,rfl⟩)
   ·exact Ja k92 aN fun _=>OpSt.op (St.move ⟨s89,RC.same C93,rfl⟩)
   ·refine Ja k92 (aC e102 (aC e103 aN)) fun _=>OpSt.op (J3k (j:=i) (u:=(b.args.getD i default)) h18.args sl29 io31 rfl rfl rfl (Jg (by omega)) ?_);intro b143 o144 cs145 e146;obtain⟨a147,c148,a149,c150,a151,c152,a153,c154,rfl,h155⟩:=Jq e146.rd;exact⟨s89,RC.same C93,⟨_,_,_,rfl,e146⟩⟩
   ·obtain⟨b157,o158,cs159,e156,e160⟩:=d104;obtain⟨a161,c162,a163,c164,a165,c166,a167,c168,rfl,h169⟩:=Jq e160.rd;exact Ja k92 (aC e156 aN) fun _=>OpSt.op (J3v (cs:=(ec (b.args.getD i default) a161 c162 a163 c164 a165 c166 a167 c168)) ag31 rfl rfl e160.cell ⟨s89,RC.same C93,(Jh (b.args.getD i default) h169.lo h169.hi h169.name h169.n h169.num h169.den h169.args)⟩)
   obtain⟨b171,o172,cs173,e170,e174⟩:=d108;obtain⟨a175,c176,a177,c178,a179,c180,a181,c182,rfl,h183⟩:=Jq e174.rd;obtain⟨a185,c186,a187,c188,a189,c190,a191,c192,e184,h193⟩:=J3f d109;obtain⟨b195,o196,cs197,e194,e198⟩:=d113;obtain⟨a199,c200,a201,c202,a203,c204,a205,c206,rfl,h207⟩:=Jq e198.rd;obtain⟨a209,c210,a211,c212,a213,c214,a215,c216,e208,h217⟩:=J3f d114;obtain⟨f218,rfl⟩:=mixK k92 (aC e105 (aC e106 (aC e107 (aC e170 (aC e184 (aC e110 (aC e111 (aC e112 (aC e194 (aC e208 aN))))))))));refine Ol (J25 C93 cb12 rfl rfl (ih C93.bd (Jh (a.args.getD i default) h193.lo h193.hi h193.name h193.n h193.num h193.den h193.args) (Jh (b.args.getD i default) h217.lo h217.hi h217.name h217.n h217.num h217.den h217.args) (by rw [hab]) (Nat.lt_of_lt_of_le (Kn (by omega)) (Nat.le_of_lt_succ hN))) ?_);intro v219 w220 C221 s222 h223;replace h9:=h9.sp s222;replace h18:=h18.sp s222;replace o55:=o55.spn s222;replace o56:=o56.spn s222;subst h223;refine Ol (St.not rfl (Nl (J28 rfl (W.skip (W.region (Om (Ol (St.add rfl rfl (Jc (a:=i) (b:=1) (by omega)) (Oa (Nl (⟨_,(by omega),_,_,(i+1),C221,rfl,rfl,rfl,h9,h18,o55,o56,(by omega),rfl⟩)))))))))))
  refine Nl (J28 rfl (W.exit (Rg (Oa (Nl (W.ret (J7 rfl (resV.t rfl) (Ret.intro ?_ C51.below))))))))
  rfl
theorem Jvy{X:Nat→Prop}{w:World}(hX:XB X w){v0:Value}{a:GExpr}(r0:RV Jf X w v0 a){v1:Value}{b:GExpr}(r1:RV Jf X w v1 b)(hab:a=b):Calls Tryz.prog 12 #[v0,v1] w (Ret w fun v w'=>v=(.bool true)):=Jjy ((SizeOf.sizeOf a)+1) hX r0 r1 hab (Nat.lt_succ_self _)
theorem Jom{X:Nat→Prop}{w:World}(hX:XB X w){v0:Value}{m:List Int}(r0:RS Y1 X w v0 m)(hm:m.length≤1000):Calls Tryz.prog 91 #[v0] w (Ret w fun v w'=>RS Y1 X w' v m):=by
 obtain⟨a1,c2,rfl,_,_⟩:=r0.len;have C:=Cx.start hX;refine Cgo (args:=[(.slice a1 m.length c2)]) Tryz.func91 rfl rfl rfl (Rg (Oa (Nl (Rh (Om (Ol (J4t sl23 r0 rfl rfl (fun hc3=>?_) ?_)))))))
 ·exact Nl (J26 rfl (Rg (Oa (Nl (W.ret (Wq rfl rfl C (J3s ((RS.nil:RS _ _ _ _ _).tr (Tr.weak C.base)) (hc3.symm))))))))
 refine Nl (J28 rfl (W.skip (Rg (Ol (J4n C sl23 io3 ?_)))));intro g4 w5 C6 s7;replace r0:=r0.sp s7;refine Om (Ol (J36 (T:=Y1) C6 sl23 io3 rfl rfl r0 (Nat.le_trans hm (by decide)) (by omega) rfl ?_));intro v8 w9 C10 s11 h12;obtain⟨a13,c14,rfl,_,_⟩:=h12.len;exact Oa (Nl (W.ret (Wq rfl rfl C10 (J3s ((h12:RS _ _ _ _ _).tr (Tr.weak C10.base)) (rfl)))))
theorem Jo5(N:Nat):∀ {X:Nat→Prop} {w:World} (hX:XB X w) {v0:Value} {a:GExpr} (r0:RV Jf X w v0 a) (hpl:Zl a=true) (hl:cntE a≤10000) (hN:(SizeOf.sizeOf a) < N),Calls Tryz.prog 63 #[v0] w (Ret w fun v w'=>RV Jf X w' v (lowE a)):=by
 induction N with
 | zero=>intro X w hX v0 a r0 hpl hl hN;exact absurd hN (Nat.not_lt_zero _)
 | succ N ih=>
  intro X w hX v0 a r0 hpl hl hN;obtain⟨a1,c2,a3,c4,a5,c6,a7,c8,rfl,h9⟩:=J3f r0;have C:=Cx.start hX;have hal:=r0.args_max;have hce:=Yb a;have hac:=K6 a;obtain⟨pa1,pa2,pa3,pa4,pa5⟩:=Yq.1 hpl;refine Cgo (args:=[(ea a a1 c2 a3 c4 a5 c6 a7 c8)]) Tryz.func63 rfl rfl rfl (Rg (Ol (J3g C rfl ?_)));intro g10 w11 x12 y13 lt14 C15 s16 o17;replace h9:=h9.sp s16;refine Ol (J3b C15 io31 rfl ?_);intro g18 w19 x20 y21 lt22 C23 s24 o25;replace o17:=o17.spn s24;refine Nl (W.seq (J3m J5 9 [[],[0],[],[2],[3],[],[5],[1,4,6],[]] C23 [fx (.pointer (some ⟨g10,0,none⟩)),fx (.int .i64 a.op),fx (.pointer (some ⟨g10,1,none⟩)),fx (.slice a1 a.n.length c2),fs Y1 a.n,fx (.pointer (some ⟨g10,6,none⟩)),fx (str a.name),fun(s:Gh) (v:Value) (w':World)=>∃ (a1':Option Addr) (c1':Nat),v= .agg #[(.int .i64 a.op),(.slice a1' a.n.length c1'),(.bool false),(.slice none 0 0),(.bool false),(.slice none 0 0),(str a.name),(.slice none 0 0)]∧RS Y1 s.1 w' (.slice a1' a.n.length c1') a.n,fun(s:Gh) (v:Value) (w':World)=>∃ g':Nat,v= .pointer (some ⟨g',0,none⟩)∧Own w s.2 w' g' [(.int .i64 0),(.slice none 0 0),(.bool false),(.slice none 0 0),(.bool false),(.slice none 0 0),(str []),(.slice none 0 0)] 31∧w19.heap.size≤g'] (by kernel_rfl) ⟨sx,sx,sx,sx,ss,sx,sx,(fun _ _ _ _ _ ⟨a1,c1,e,h1⟩ r=>⟨a1,c1,e,h1.tr r.sp.tx⟩),(fun _ _ _ _ _ ⟨g,e,o,l⟩ r=>⟨g,e,o.spn r.sp,l⟩),trivial⟩ fun f45 s46 w47 ⟨C50,S51⟩ k49=>?_))
  have lt52:=o17.blk.lt;have lt53:=o25.blk.lt;have hszS51:=S51.tx.size;replace h9:=(h9.sp s24).sp S51;replace o17:=o17.spn S51;have k49:Keep [6,7,8,9,10,11,12,13,3] _ f45:=k49;refine⟨⟨fun _=>?_,fun⟨e54,_⟩=>?_,fun _=>?_,fun⟨e55,_⟩=>?_,fun⟨e56,_⟩=>?_,fun _=>?_,fun⟨e57,_⟩=>?_,fun⟨e58,d59,e60,_⟩=>?_,fun _=>?_,trivial⟩,fun⟨e61,e62,e63,e64,d65,e66,e67,d68,d69,_⟩=>?_⟩
  ·exact Ja k49 aN fun _=>OpSt.op (St.fieldAddr Zz rfl ⟨s46,RC.same C50,rfl⟩)
  ·exact Ja k49 (aC e54 aN) fun _=>OpSt.op (J27 o17 pl3 rfl rfl ⟨s46,RC.same C50,rfl⟩)
  ·exact Ja k49 aN fun _=>OpSt.op (St.fieldAddr K0 rfl ⟨s46,RC.same C50,rfl⟩)
  ·exact Ja k49 (aC e55 aN) fun _=>OpSt.op (J27 o17 pl23 rfl rfl ⟨s46,RC.same C50,rfl⟩)
  ·refine Ja k49 (aC e56 aN) fun _=>OpSt.op (J25 C50 cb91 rfl rfl (Jom C50.bd h9.n (by omega)) ?_);intro v71 w72 C73 s74 h75;exact⟨s46,⟨C73,s74⟩,h75⟩
  ·exact Ja k49 aN fun _=>OpSt.op (St.fieldAddr Km rfl ⟨s46,RC.same C50,rfl⟩)
  ·exact Ja k49 (aC e57 aN) fun _=>OpSt.op (J27 o17 pl9 rfl rfl ⟨s46,RC.same C50,rfl⟩)
  ·obtain⟨a77,c78,e76,d59⟩:=RS.opn d59;exact Ja k49 (aC e58 (aC e76 (aC e60 aN))) fun _=>OpSt.op (St.build (cs:=[(.int .i64 a.op),(.slice a77 a.n.length c78),(.bool false),(.slice none 0 0),(.bool false),(.slice none 0 0),(str a.name),(.slice none 0 0)]) rfl (by kernel_rfl) (⟨s46,RC.same C50,⟨_,_,rfl,d59⟩⟩))
  ·refine Ja k49 aN fun _=>OpSt.op (J3b C50 io31 rfl ?_);intro g79 w80 x81 y82 lt83 C84 s85 o86;exact⟨(x81,y82),⟨C84,s85⟩,g79,rfl,o86,Nat.le_of_not_lt fun hh=>lt83 _ (Nat.lt_of_lt_of_le hh hszS51) rfl⟩
  obtain⟨a90,c91,e89,d65⟩:=RS.opn d65;obtain⟨a93,c94,e92,h95⟩:=d68;obtain⟨g97,e96,o98,l99⟩:=d69;have n100:g10≠g97:=Nat.ne_of_lt (Nat.lt_of_lt_of_le lt52 l99);have n101:g18≠g97:=Nat.ne_of_lt (Nat.lt_of_lt_of_le lt53 l99);obtain⟨f103,rfl⟩:=mixK k49 (aC e61 (aC e62 (aC e63 (aC e64 (aC e89 (aC e66 (aC e67 (aC e92 (aC e96 aN)))))))));refine On (J3a (cs':=[(.int .i64 a.op),(.slice a93 a.n.length c94),(.bool false),(.slice none 0 0),(.bool false),(.slice none 0 0),(str a.name),(.slice none 0 0)]) C50 o98 io31 rfl rfl rfl rfl rfl rfl ?_);intro w104 C105 s106 o107;replace h9:=h9.sp s106;replace h95:=h95.sp s106;replace o17:=o17.spo s106 n100;replace o25:=(o25.spn S51).spo s106 n101;refine Nl (W.seq (J4d (fun f v=>∃ (x y:Nat→Prop) (qa1:Option Addr) (qc1:Nat) (qa2:Option Addr) (qc2:Nat),Cx X w x y v∧f 1=(.pointer (some ⟨g10,0,none⟩))∧f 2=(.pointer (some ⟨g18,0,none⟩))∧f 3=(.pointer (some ⟨g97,0,none⟩))∧ExprParts x v a a1 c2 a3 c4 a5 c6 a7 c8∧RS Y1 x v (.slice a93 a.n.length c94) a.n∧RS Je x v (.slice qa1 (lowC a.op a.c).num.mag.length qc1) (lowC a.op a.c).num.mag∧RS Je x v (.slice qa2 (lowC a.op a.c).den.mag.length qc2) (lowC a.op a.c).den.mag∧Own w y v g10 (ec a a1 c2 a3 c4 a5 c6 a7 c8) 31∧Own w y v g18 [(.int .i64 0),(.slice none 0 0),(.bool false),(.slice none 0 0),(.bool false),(.slice none 0 0),(str []),(.slice none 0 0)] 31∧Own w y v g97 [(.int .i64 a.op),(.slice a93 a.n.length c94),(.bool (lowC a.op a.c).num.neg),(.slice qa1 (lowC a.op a.c).num.mag.length qc1),(.bool (lowC a.op a.c).den.neg),(.slice qa2 (lowC a.op a.c).den.mag.length qc2),(str a.name),(.slice none 0 0)] 31) ?_ ?_))
  ·refine Rg (Ol (St.fieldAddr Zz rfl (Ol (J27 o17 pl3 rfl rfl (Ol (J3h rfl rfl (fun hc108=>?_) (fun hc108=>?_)))))))
   ·refine Nl (J26 rfl (W.region (Ol (St.fieldAddr Ky rfl (Ol (J29 (vs:=[(.bool a.c.num.neg),(.slice a3 a.c.num.mag.length c4),(.bool a.c.den.neg),(.slice a5 a.c.den.mag.length c6)]) o17 ag28 rfl rfl rfl (Ol (J25 C105 cb92 rfl rfl (Jld C105.bd (a:=a.c) (Ke h9.num h9.den) (by omega) (by omega)) ?_))))))));intro v109 w110 C111 s112 h113;replace o107:=o107.spn s112;obtain⟨a114,c115,a116,c117,rfl,h118,h119⟩:=J34 h113;refine Ol (St.fieldAddr Ky rfl (On (J3a (cs':=[(.int .i64 a.op),(.slice a93 a.n.length c94),(.bool (ofQ a.c.q).num.neg),(.slice a114 (ofQ a.c.q).num.mag.length c115),(.bool (ofQ a.c.q).den.neg),(.slice a116 (ofQ a.c.q).den.mag.length c117),(str a.name),(.slice none 0 0)]) C111 o107 io28 rfl rfl rfl rfl rfl rfl ?_)));intro w120 C121 s122 o123;replace h9:=(h9.sp s112).sp s122;replace h95:=(h95.sp s112).sp s122;replace h118:=h118.sp s122;replace h119:=h119.sp s122;replace o17:=(o17.spn s112).spo s122 n100;replace o25:=(o25.spn s112).spo s122 n101;refine Nl ?_;have e124:ofQ a.c.q=lowC a.op a.c:=(if_pos hc108).symm;rw [e124] at o123 h118 h119;refine⟨_,_,a114,c115,a116,c117,C121,rfl,rfl,rfl,h9,h95,h118,h119,o17,o25,o123⟩
   refine Nl (J28 rfl (W.skip ?_));have e125:Xj=lowC a.op a.c:=(if_neg hc108).symm;have o126:Own w s46.2 w104 g97 [(.int .i64 a.op),(.slice a93 a.n.length c94),.bool Xj.num.neg,.slice none Xj.num.mag.length 0,.bool Xj.den.neg,.slice none Xj.den.mag.length 0,(str a.name),(.slice none 0 0)] 31:=o107;have h127:RS Je s46.1 w104 (.slice none Xj.num.mag.length 0) Xj.num.mag:=RS.nil;have h128:RS Je s46.1 w104 (.slice none Xj.den.mag.length 0) Xj.den.mag:=RS.nil;rw [e125] at o126 h127 h128;refine⟨_,_,none,0,none,0,C105,rfl,rfl,rfl,h9,h95,h127,h128,o17,o25,o126⟩
  rintro f129 w130 ⟨x131,y132,qa1,qc1,qa2,qc2,C133,e134,e135,e136,h9,h95,hq1,hq2,o137,o138,o139⟩;obtain⟨f140,rfl⟩:=rebK (aC e134 (aC e135 (aC e136 aN)));clear e134 e135 e136;refine Rh (Ol (St.fieldAddr J3 rfl (Ol (J27 o137 pl29 rfl rfl (Ol (St.len sl29 rfl (Om (Nl (W.block (J3j (fun μ f v=>∃ (x y:Nat→Prop) (i:Nat) (p:List GExpr) (pa:Option Addr) (pc:Nat),Cx X w x y v∧f 2=(.pointer (some ⟨g18,0,none⟩))∧f 3=(.pointer (some ⟨g97,0,none⟩))∧f 22=(.slice a7 a.args.length c8)∧f 23=(.int .i64 ((a.args.length:Nat):Int))∧f 24=(.int .i64 ((i:Nat):Int))∧ExprParts x v a a1 c2 a3 c4 a5 c6 a7 c8∧RS Y1 x v (.slice a93 a.n.length c94) a.n∧RS Je x v (.slice qa1 (lowC a.op a.c).num.mag.length qc1) (lowC a.op a.c).num.mag∧RS Je x v (.slice qa2 (lowC a.op a.c).den.mag.length qc2) (lowC a.op a.c).den.mag∧OS Jf 31 w x y v (.slice pa p.length pc) p∧Own w y v g10 (ec a a1 c2 a3 c4 a5 c6 a7 c8) 31∧Own w y v g18 [(.int .i64 0),(.slice none 0 0),(.bool false),(.slice none 0 0),(.bool false),(.slice none 0 0),(str []),(.slice none 0 0)] 31∧Own w y v g97 [(.int .i64 a.op),(.slice a93 a.n.length c94),(.bool (lowC a.op a.c).num.neg),(.slice qa1 (lowC a.op a.c).num.mag.length qc1),(.bool (lowC a.op a.c).den.neg),(.slice qa2 (lowC a.op a.c).den.mag.length qc2),(str a.name),(.slice pa p.length pc)] 31∧i≤a.args.length∧p=lowL (a.args.take i)∧μ=(a.args.length - i)) _ ⟨_,_,0,[],none,0,C133,rfl,rfl,rfl,rfl,rfl,h9,h95,hq1,hq2,OS.nil,o137,o138,o139,(Nat.zero_le _),rfl,rfl⟩ ?_))))))))));rintro m155 f141 w142 ⟨x143,y144,i,p,pa,pc,C145,e146,e147,e148,e149,e150,h9,h95,hq1,hq2,hP,o151,o152,o153,hi,hp,hmu154⟩;obtain⟨f156,rfl⟩:=rebK (aC e146 (aC e147 (aC e148 (aC e149 (aC e150 aN)))));clear e146 e147 e148 e149 e150;refine Rg (Ol (J3i rfl rfl (fun hc157=>?_) (fun hc157=>?_)))
  ·refine Nl (W.seq (J26 rfl (W.skip (W.seq (W.block (Rg (Ol (J3k (j:=i) (u:=(a.args.getD i default)) h9.args sl29 io31 rfl rfl rfl (Jg (by omega)) ?_))))))));intro b158 o159 cs160 e161;obtain⟨a162,c163,a164,c165,a166,c167,a168,c169,rfl,h170⟩:=Jq e161.rd;refine Ol (J3v (cs:=(ec (a.args.getD i default) a162 c163 a164 c165 a166 c167 a168 c169)) ag31 rfl rfl e161.cell (Ol (J4h C145 io31 rfl ?_)));intro g171 w172 x173 y174 lt175 C176 s177 o178 u179;have n180:=lt175 _ o151.blk.lt;have n181:=lt175 _ o152.blk.lt;have n182:=lt175 _ o153.blk.lt;replace h9:=h9.sp s177;replace h95:=h95.sp s177;replace hq1:=hq1.sp s177;replace hq2:=hq2.sp s177;replace hP:=hP.sp s177 C176 u179;replace h170:=h170.sp s177;replace o151:=o151.spn s177;replace o152:=o152.spn s177;replace o153:=o153.spn s177;refine On (J3a (cs':=(ec (a.args.getD i default) a162 c163 a164 c165 a166 c167 a168 c169)) C176 o178 io31 rfl rfl rfl rfl rfl rfl ?_);intro w183 C184 s185 o186;refine Nl (J35 J5 5 [[],[0],[],[2],[3]] C184 [fx (.pointer (some ⟨g97,7,none⟩)),fx (.slice pa p.length pc),fx (ea (a.args.getD i default) a162 c163 a164 c165 a166 c167 a168 c169),ur x173 Jf (lowE (a.args.getD i default)),us x173 Jf [(lowE (a.args.getD i default))]] (by kernel_rfl) ⟨sx,sx,sx,tr,ts,trivial⟩ fun f209 w211 C214 S215 k213=>?_)
   replace h9:=(h9.sp s185).sp S215;replace h95:=(h95.sp s185).sp S215;replace hq1:=(hq1.sp s185).sp S215;replace hq2:=(hq2.sp s185).sp S215;replace hP:=(hP.sp s185 C184 (fun _ h=>h)).sp S215 C214 (fun _ h=>h)
   replace h170:=(h170.sp s185).sp S215;replace o151:=(o151.spo s185 n180).spn S215;replace o152:=(o152.spo s185 n181).spn S215;replace o153:=(o153.spo s185 n182).spn S215;replace o186:=o186.spn S215;have k213:Keep [28,29,30,31,32] _ f209:=k213;refine⟨⟨fun _=>?_,fun⟨e220,_⟩=>?_,fun _=>?_,fun⟨e221,_⟩=>?_,fun⟨d222,_⟩=>?_,trivial⟩,fun⟨e223,e224,e225,d226,d227,_⟩=>?_⟩
   ·exact Ja k213 aN fun _=>OpSt.op (St.fieldAddr J3 rfl (⟨(),⟨C214,Sp.refl⟩,rfl⟩))
   ·exact Ja k213 (aC e220 aN) fun _=>OpSt.op (J27 o153 pl29 rfl rfl (⟨(),⟨C214,Sp.refl⟩,rfl⟩))
   ·exact Ja k213 aN fun _=>OpSt.op (J29 (vs:=(ec (a.args.getD i default) a162 c163 a164 c165 a166 c167 a168 c169)) o186 ag31 rfl rfl rfl (⟨(),⟨C214,Sp.refl⟩,rfl⟩))
   ·refine Ja k213 (aC e221 aN) fun _=>OpSt.op (J25 C214 cb63 rfl rfl (ih C214.bd (Jh (a.args.getD i default) h170.lo h170.hi h170.name h170.n h170.num h170.den h170.args) (Qu hpl (by omega)) (by have h7:=zo (l:=a.args) (i:=i) (by omega);omega) (Nat.lt_of_lt_of_le (Kn (by omega)) (Nat.le_of_lt_succ hN))) ?_);intro v229 w230 C231 s232 h233;exact⟨(),⟨C231,s232⟩,h233⟩
   ·obtain⟨a235,c236,a237,c238,a239,c240,a241,c242,e234,h243⟩:=J3f d222;refine Ja k213 (aC e234 aN) fun _=>OpSt.op (J3t (T:=Jf) (css:=[(ec (lowE (a.args.getD i default)) a235 c236 a237 c238 a239 c240 a241 c242)]) (l:=[(lowE (a.args.getD i default))]) C214 sl29 io31 (by decide) (by decide) rfl (by kernel_rfl) ⟨(jm (lowE (a.args.getD i default)) h243.lo h243.hi h243.name h243.n h243.num h243.den h243.args),trivial⟩ ?_);intro g248 w244 C245 s246 h247;exact⟨(),⟨C245,s246⟩,h247⟩
   obtain⟨a252,c253,a254,c255,a256,c257,a258,c259,e251,h260⟩:=J3f d226;obtain⟨a262,c263,e261,d227⟩:=RS.opn d227;obtain⟨f264,rfl⟩:=mixK k213 (aC e223 (aC e224 (aC e225 (aC e251 (aC e261 aN)))));refine Ol (J3o (T:=Jf) (v:=(.slice pa p.length pc)) (u:=(.slice a262 [(lowE (a.args.getD i default))].length c263)) C214 sl29 io31 rfl rfl hP (Xh d227) (by rw [hp,Yv,List.length_map,List.length_take];simp [maxLen];omega) (by rw [hp,Yv,List.length_map,List.length_take];simp;omega) rfl ?_);intro v265 w266 x267 C268 s269 u270 h271;replace o153:=o153.ap s269 o153.mem;obtain⟨a272,c273,rfl,_,_⟩:=h271.len;refine Ol (St.fieldAddr J3 rfl (On (J3a (cs':=[(.int .i64 a.op),(.slice a93 a.n.length c94),(.bool (lowC a.op a.c).num.neg),(.slice qa1 (lowC a.op a.c).num.mag.length qc1),(.bool (lowC a.op a.c).den.neg),(.slice qa2 (lowC a.op a.c).den.mag.length qc2),(str a.name),(.slice a272 (p++[(lowE (a.args.getD i default))]).length c273)]) C268 o153 io29 rfl rfl rfl rfl rfl rfl ?_)));intro w274 C275 s276 o277;replace h9:=(h9.tr s269.tx).sp s276;replace h95:=(h95.tr s269.tx).sp s276;replace hq1:=(hq1.tr s269.tx).sp s276;replace hq2:=(hq2.tr s269.tx).sp s276;replace h271:=h271.sp s276 C275 (fun _ h=>h)
   replace o151:=(o151.ap s269 o151.mem).spo s276 n100;replace o152:=(o152.ap s269 o152.mem).spo s276 n101;refine Nl (W.region (Ol (St.add rfl rfl (Jc (a:=i) (b:=1) (by omega)) (Om (Nl (⟨_,(by omega),_,_,(i+1),(p++[(lowE (a.args.getD i default))]),a272,c273,C275,rfl,rfl,rfl,rfl,rfl,h9,h95,hq1,hq2,h271,o151,o152,o277,(by omega),(Jgf hp (by omega)),rfl⟩))))))
  refine Nl (W.seq (J28 rfl (W.exit (Rg (Ol (J29 (vs:=[(.int .i64 a.op),(.slice a93 a.n.length c94),(.bool (lowC a.op a.c).num.neg),(.slice qa1 (lowC a.op a.c).num.mag.length qc1),(.bool (lowC a.op a.c).den.neg),(.slice qa2 (lowC a.op a.c).den.mag.length qc2),(str a.name),(.slice pa p.length pc)]) o153 ag31 rfl rfl rfl (On (J3a (cs':=[(.int .i64 a.op),(.slice a93 a.n.length c94),(.bool (lowC a.op a.c).num.neg),(.slice qa1 (lowC a.op a.c).num.mag.length qc1),(.bool (lowC a.op a.c).den.neg),(.slice qa2 (lowC a.op a.c).den.mag.length qc2),(str a.name),(.slice pa p.length pc)]) C145 o152 io31 rfl rfl rfl rfl rfl rfl ?_))))))));intro w278 C279 s280 o281;replace h9:=h9.sp s280;replace h95:=h95.sp s280;replace hq1:=hq1.sp s280;replace hq2:=hq2.sp s280;replace hP:=hP.sp s280 C279 (fun _ h=>h)
  refine Nl (W.ret (J7 rfl (resV.c o281 rfl ag31 rfl) (Ret.intro ?_ C279.below)));exact J3l (a:=(GExpr.mk a.op a.n ⟨⟨(lowC a.op a.c).num.neg,(lowC a.op a.c).num.mag⟩,⟨(lowC a.op a.c).den.neg,(lowC a.op a.c).den.mag⟩⟩ a.name p)) (Jh (GExpr.mk a.op a.n ⟨⟨(lowC a.op a.c).num.neg,(lowC a.op a.c).num.mag⟩,⟨(lowC a.op a.c).den.neg,(lowC a.op a.c).den.mag⟩⟩ a.name p) h9.lo h9.hi h9.name ((h95:RS _ _ _ _ _).tr (Tr.weak C279.base)) ((hq1:RS _ _ _ _ _).tr (Tr.weak C279.base)) ((hq2:RS _ _ _ _ _).tr (Tr.weak C279.base)) (hP.toRS C279 hX)) (Jjc hp (by omega))
theorem Jqe{X:Nat→Prop}{w:World}(hX:XB X w){v0:Value}{a:GExpr}(r0:RV Jf X w v0 a)(hpl:Zl a=true)(hl:cntE a≤10000):Calls Tryz.prog 63 #[v0] w (Ret w fun v w'=>RV Jf X w' v (lowE a)):=Jo5 ((SizeOf.sizeOf a)+1) hX r0 hpl hl (Nat.lt_succ_self _)
theorem Jvc(N:Nat):∀ {X:Nat→Prop} {w:World} (hX:XB X w) {v0:Value} {a:GExpr} (r0:RV Jf X w v0 a) (hpl:Zl a=true) (hl:cntE a≤10000) (hN:(SizeOf.sizeOf a) < N),Calls Tryz.prog 17 #[v0] w (Ret w fun v w'=>RV Jf X w' v (lowE a)):=by
 induction N with
 | zero=>intro X w hX v0 a r0 hpl hl hN;exact absurd hN (Nat.not_lt_zero _)
 | succ N ih=>
  intro X w hX v0 a r0 hpl hl hN;obtain⟨a1,c2,a3,c4,a5,c6,a7,c8,rfl,h9⟩:=J3f r0;have C:=Cx.start hX;have hal:=r0.args_max;have hce:=Yb a;have hac:=K6 a;obtain⟨pa1,pa2,pa3,pa4,pa5⟩:=Yq.1 hpl;refine Cgo (args:=[(ea a a1 c2 a3 c4 a5 c6 a7 c8)]) Tryz.func17 rfl rfl rfl (Rg (Ol (J3g C rfl ?_)));intro g10 w11 x12 y13 lt14 C15 s16 o17;replace h9:=h9.sp s16;refine Ol (J3b C15 io31 rfl ?_);intro g18 w19 x20 y21 lt22 C23 s24 o25;replace o17:=o17.spn s24;refine Nl (W.seq (J3m J5 10 [[],[0],[],[],[3],[2,4],[],[6],[1,5,7],[]] C23 [fx (.pointer (some ⟨g10,0,none⟩)),fx (.int .i64 a.op),u0,fx (.pointer (some ⟨g10,1,none⟩)),fx (.slice a1 a.n.length c2),fs Y1 a.n,fx (.pointer (some ⟨g10,6,none⟩)),fx (str a.name),fun(s:Gh) (v:Value) (w':World)=>∃ (a1':Option Addr) (c1':Nat),v= .agg #[(.int .i64 a.op),(.slice a1' a.n.length c1'),(.bool false),(.slice none 0 0),(.bool false),(.slice none 0 0),(str a.name),(.slice none 0 0)]∧RS Y1 s.1 w' (.slice a1' a.n.length c1') a.n,fun(s:Gh) (v:Value) (w':World)=>∃ g':Nat,v= .pointer (some ⟨g',0,none⟩)∧Own w s.2 w' g' [(.int .i64 0),(.slice none 0 0),(.bool false),(.slice none 0 0),(.bool false),(.slice none 0 0),(str []),(.slice none 0 0)] 31∧w19.heap.size≤g'] (by kernel_rfl) ⟨sx,sx,(fun _ _ _ _ _ h _=>h),sx,sx,ss,sx,sx,(fun _ _ _ _ _ ⟨a1,c1,e,h1⟩ r=>⟨a1,c1,e,h1.tr r.sp.tx⟩),(fun _ _ _ _ _ ⟨g,e,o,l⟩ r=>⟨g,e,o.spn r.sp,l⟩),trivial⟩ fun f49 s50 w51 ⟨C54,S55⟩ k53=>?_))
  have lt56:=o17.blk.lt;have lt57:=o25.blk.lt;have hszS55:=S55.tx.size;replace h9:=(h9.sp s24).sp S55;replace o17:=o17.spn S55;have k53:Keep [5,6,7,8,9,10,11,12,13,3] _ f49:=k53;refine⟨⟨fun _=>?_,fun⟨e58,_⟩=>?_,fun _=>?_,fun _=>?_,fun⟨e59,_⟩=>?_,fun⟨d60,e61,_⟩=>?_,fun _=>?_,fun⟨e62,_⟩=>?_,fun⟨e63,d64,e65,_⟩=>?_,fun _=>?_,trivial⟩,fun⟨e66,e67,d68,e69,e70,d71,e72,e73,d74,d75,_⟩=>?_⟩
  ·exact Ja k53 aN fun _=>OpSt.op (St.fieldAddr Zz rfl ⟨s50,RC.same C54,rfl⟩)
  ·exact Ja k53 (aC e58 aN) fun _=>OpSt.op (J27 o17 pl3 rfl rfl ⟨s50,RC.same C54,rfl⟩)
  ·refine Ja k53 aN fun _=>OpSt.op (J4n C54 sl23 io3 ?_);intro g77 w78 C79 s80;exact⟨s50,⟨C79,s80⟩,⟨_,rfl⟩⟩
  ·exact Ja k53 aN fun _=>OpSt.op (St.fieldAddr K0 rfl ⟨s50,RC.same C54,rfl⟩)
  ·exact Ja k53 (aC e59 aN) fun _=>OpSt.op (J27 o17 pl23 rfl rfl ⟨s50,RC.same C54,rfl⟩)
  ·obtain⟨g82,e81⟩:=d60;refine Ja k53 (aC e81 (aC e61 aN)) fun _=>OpSt.op (J36 (T:=Y1) C54 sl23 io3 rfl rfl h9.n (Nat.le_trans pa1 (by decide)) (by omega) rfl ?_);intro v83 w84 C85 s86 h87;exact⟨s50,⟨C85,s86⟩,h87⟩
  ·exact Ja k53 aN fun _=>OpSt.op (St.fieldAddr Km rfl ⟨s50,RC.same C54,rfl⟩)
  ·exact Ja k53 (aC e62 aN) fun _=>OpSt.op (J27 o17 pl9 rfl rfl ⟨s50,RC.same C54,rfl⟩)
  ·obtain⟨a89,c90,e88,d64⟩:=RS.opn d64;exact Ja k53 (aC e63 (aC e88 (aC e65 aN))) fun _=>OpSt.op (St.build (cs:=[(.int .i64 a.op),(.slice a89 a.n.length c90),(.bool false),(.slice none 0 0),(.bool false),(.slice none 0 0),(str a.name),(.slice none 0 0)]) rfl (by kernel_rfl) (⟨s50,RC.same C54,⟨_,_,rfl,d64⟩⟩))
  ·refine Ja k53 aN fun _=>OpSt.op (J3b C54 io31 rfl ?_);intro g91 w92 x93 y94 lt95 C96 s97 o98;exact⟨(x93,y94),⟨C96,s97⟩,g91,rfl,o98,Nat.le_of_not_lt fun hh=>lt95 _ (Nat.lt_of_lt_of_le hh hszS55) rfl⟩
  obtain⟨g102,e101⟩:=d68;obtain⟨a104,c105,e103,d71⟩:=RS.opn d71;obtain⟨a107,c108,e106,h109⟩:=d74;obtain⟨g111,e110,o112,l113⟩:=d75;have n114:g10≠g111:=Nat.ne_of_lt (Nat.lt_of_lt_of_le lt56 l113);have n115:g18≠g111:=Nat.ne_of_lt (Nat.lt_of_lt_of_le lt57 l113);obtain⟨f117,rfl⟩:=mixK k53 (aC e66 (aC e67 (aC e101 (aC e69 (aC e70 (aC e103 (aC e72 (aC e73 (aC e106 (aC e110 aN))))))))));refine On (J3a (cs':=[(.int .i64 a.op),(.slice a107 a.n.length c108),(.bool false),(.slice none 0 0),(.bool false),(.slice none 0 0),(str a.name),(.slice none 0 0)]) C54 o112 io31 rfl rfl rfl rfl rfl rfl ?_);intro w118 C119 s120 o121;replace h9:=h9.sp s120;replace h109:=h109.sp s120;replace o17:=o17.spo s120 n114;replace o25:=(o25.spn S55).spo s120 n115;refine Nl (W.seq (J4d (fun f v=>∃ (x y:Nat→Prop) (qa1:Option Addr) (qc1:Nat) (qa2:Option Addr) (qc2:Nat),Cx X w x y v∧f 1=(.pointer (some ⟨g10,0,none⟩))∧f 2=(.pointer (some ⟨g18,0,none⟩))∧f 3=(.pointer (some ⟨g111,0,none⟩))∧ExprParts x v a a1 c2 a3 c4 a5 c6 a7 c8∧RS Y1 x v (.slice a107 a.n.length c108) a.n∧RS Je x v (.slice qa1 (lowC a.op a.c).num.mag.length qc1) (lowC a.op a.c).num.mag∧RS Je x v (.slice qa2 (lowC a.op a.c).den.mag.length qc2) (lowC a.op a.c).den.mag∧Own w y v g10 (ec a a1 c2 a3 c4 a5 c6 a7 c8) 31∧Own w y v g18 [(.int .i64 0),(.slice none 0 0),(.bool false),(.slice none 0 0),(.bool false),(.slice none 0 0),(str []),(.slice none 0 0)] 31∧Own w y v g111 [(.int .i64 a.op),(.slice a107 a.n.length c108),(.bool (lowC a.op a.c).num.neg),(.slice qa1 (lowC a.op a.c).num.mag.length qc1),(.bool (lowC a.op a.c).den.neg),(.slice qa2 (lowC a.op a.c).den.mag.length qc2),(str a.name),(.slice none 0 0)] 31) ?_ ?_))
  ·refine Rg (Ol (St.fieldAddr Zz rfl (Ol (J27 o17 pl3 rfl rfl (Ol (J3h rfl rfl (fun hc122=>?_) (fun hc122=>?_)))))))
   ·refine Nl (J26 rfl (W.region (Ol (St.fieldAddr Ky rfl (Ol (J29 (vs:=[(.bool a.c.num.neg),(.slice a3 a.c.num.mag.length c4),(.bool a.c.den.neg),(.slice a5 a.c.den.mag.length c6)]) o17 ag28 rfl rfl rfl (Ol (J25 C119 cb42 rfl rfl (Jjq C119.bd (a:=a.c) (Ke h9.num h9.den) (by omega) (by omega)) ?_))))))));intro v123 w124 C125 s126 h127;replace o121:=o121.spn s126;obtain⟨a128,c129,a130,c131,rfl,h132,h133⟩:=J34 h127;refine Ol (St.fieldAddr Ky rfl (On (J3a (cs':=[(.int .i64 a.op),(.slice a107 a.n.length c108),(.bool (ofQ a.c.q).num.neg),(.slice a128 (ofQ a.c.q).num.mag.length c129),(.bool (ofQ a.c.q).den.neg),(.slice a130 (ofQ a.c.q).den.mag.length c131),(str a.name),(.slice none 0 0)]) C125 o121 io28 rfl rfl rfl rfl rfl rfl ?_)));intro w134 C135 s136 o137;replace h9:=(h9.sp s126).sp s136;replace h109:=(h109.sp s126).sp s136;replace h132:=h132.sp s136;replace h133:=h133.sp s136;replace o17:=(o17.spn s126).spo s136 n114;replace o25:=(o25.spn s126).spo s136 n115;refine Nl ?_;have e138:ofQ a.c.q=lowC a.op a.c:=(if_pos hc122).symm;rw [e138] at o137 h132 h133;refine⟨_,_,a128,c129,a130,c131,C135,rfl,rfl,rfl,h9,h109,h132,h133,o17,o25,o137⟩
   refine Nl (J28 rfl (W.skip ?_));have e139:Xj=lowC a.op a.c:=(if_neg hc122).symm;have o140:Own w s50.2 w118 g111 [(.int .i64 a.op),(.slice a107 a.n.length c108),.bool Xj.num.neg,.slice none Xj.num.mag.length 0,.bool Xj.den.neg,.slice none Xj.den.mag.length 0,(str a.name),(.slice none 0 0)] 31:=o121;have h141:RS Je s50.1 w118 (.slice none Xj.num.mag.length 0) Xj.num.mag:=RS.nil;have h142:RS Je s50.1 w118 (.slice none Xj.den.mag.length 0) Xj.den.mag:=RS.nil;rw [e139] at o140 h141 h142;refine⟨_,_,none,0,none,0,C119,rfl,rfl,rfl,h9,h109,h141,h142,o17,o25,o140⟩
  rintro f143 w144 ⟨x145,y146,qa1,qc1,qa2,qc2,C147,e148,e149,e150,h9,h109,hq1,hq2,o151,o152,o153⟩;obtain⟨f154,rfl⟩:=rebK (aC e148 (aC e149 (aC e150 aN)));clear e148 e149 e150;refine Rh (Oa (Nl (W.block (J3j (fun μ f v=>∃ (x y:Nat→Prop) (i:Nat) (p:List GExpr) (pa:Option Addr) (pc:Nat),Cx X w x y v∧f 1=(.pointer (some ⟨g10,0,none⟩))∧f 2=(.pointer (some ⟨g18,0,none⟩))∧f 3=(.pointer (some ⟨g111,0,none⟩))∧f 4=(.int .i64 ((i:Nat):Int))∧ExprParts x v a a1 c2 a3 c4 a5 c6 a7 c8∧RS Y1 x v (.slice a107 a.n.length c108) a.n∧RS Je x v (.slice qa1 (lowC a.op a.c).num.mag.length qc1) (lowC a.op a.c).num.mag∧RS Je x v (.slice qa2 (lowC a.op a.c).den.mag.length qc2) (lowC a.op a.c).den.mag∧OS Jf 31 w x y v (.slice pa p.length pc) p∧Own w y v g10 (ec a a1 c2 a3 c4 a5 c6 a7 c8) 31∧Own w y v g18 [(.int .i64 0),(.slice none 0 0),(.bool false),(.slice none 0 0),(.bool false),(.slice none 0 0),(str []),(.slice none 0 0)] 31∧Own w y v g111 [(.int .i64 a.op),(.slice a107 a.n.length c108),(.bool (lowC a.op a.c).num.neg),(.slice qa1 (lowC a.op a.c).num.mag.length qc1),(.bool (lowC a.op a.c).den.neg),(.slice qa2 (lowC a.op a.c).den.mag.length qc2),(str a.name),(.slice pa p.length pc)] 31∧i≤a.args.length∧p=lowL (a.args.take i)∧μ=(a.args.length - i)) _ ⟨_,_,0,[],none,0,C147,rfl,rfl,rfl,rfl,h9,h109,hq1,hq2,OS.nil,o151,o152,o153,(Nat.zero_le _),rfl,rfl⟩ ?_))));rintro m168 f155 w156 ⟨x157,y158,i,p,pa,pc,C159,e160,e161,e162,e163,h9,h109,hq1,hq2,hP,o164,o165,o166,hi,hp,hmu167⟩;obtain⟨f169,rfl⟩:=rebK (aC e160 (aC e161 (aC e162 (aC e163 aN))));clear e160 e161 e162 e163;refine Rh (Om (Ol (St.fieldAddr J3 rfl (Ol (J27 o164 pl29 rfl rfl (Ol (St.len sl29 rfl (Ol (J3i rfl rfl (fun hc170=>?_) (fun hc170=>?_))))))))))
  ·refine Nl (J26 rfl (W.skip (W.seq (W.block (J35 J5 9 [[],[0],[],[2],[],[3,4],[5],[6],[7]] C159 [fx (.pointer (some ⟨g111,7,none⟩)),fx (.slice pa p.length pc),fx (.pointer (some ⟨g10,7,none⟩)),fx (.slice a7 a.args.length c8),fx (.int .i64 ((i:Nat):Int)),uE x157 Jf (a.args.getD i default),ur x157 Jf (a.args.getD i default),ur x157 Jf (lowE (a.args.getD i default)),us x157 Jf [(lowE (a.args.getD i default))]] (by kernel_rfl) ⟨sx,sx,sx,sx,sx,tE,tr,tr,ts,trivial⟩ fun f206 w208 C211 S212 k210=>?_)))))
   replace h9:=h9.sp S212;replace h109:=h109.sp S212;replace hq1:=hq1.sp S212;replace hq2:=hq2.sp S212;replace hP:=hP.sp S212 C211 (fun _ h=>h)
   replace o164:=o164.spn S212;replace o165:=o165.spn S212;replace o166:=o166.spn S212;have k210:Keep [28,29,30,31,32,33,34,35,36] _ f206:=k210;refine⟨⟨fun _=>?_,fun⟨e216,_⟩=>?_,fun _=>?_,fun⟨e217,_⟩=>?_,fun _=>?_,fun⟨e218,e219,_⟩=>?_,fun⟨d220,_⟩=>?_,fun⟨d221,_⟩=>?_,fun⟨d222,_⟩=>?_,trivial⟩,fun⟨e223,e224,e225,e226,e227,d228,d229,d230,d231,_⟩=>?_⟩
   ·exact Ja k210 aN fun _=>OpSt.op (St.fieldAddr J3 rfl (⟨(),⟨C211,Sp.refl⟩,rfl⟩))
   ·exact Ja k210 (aC e216 aN) fun _=>OpSt.op (J27 o166 pl29 rfl rfl (⟨(),⟨C211,Sp.refl⟩,rfl⟩))
   ·exact Ja k210 aN fun _=>OpSt.op (St.fieldAddr J3 rfl (⟨(),⟨C211,Sp.refl⟩,rfl⟩))
   ·exact Ja k210 (aC e217 aN) fun _=>OpSt.op (J27 o164 pl29 rfl rfl (⟨(),⟨C211,Sp.refl⟩,rfl⟩))
   ·exact Ja k210 aN fun _=>OpSt.op (St.move (⟨(),⟨C211,Sp.refl⟩,rfl⟩))
   ·refine Ja k210 (aC e218 (aC e219 aN)) fun _=>OpSt.op (J3k (j:=i) (u:=(a.args.getD i default)) h9.args sl29 io31 rfl rfl rfl (Jg (by omega)) ?_);intro b233 o234 cs235 e236;obtain⟨a237,c238,a239,c240,a241,c242,a243,c244,rfl,h245⟩:=Jq e236.rd;exact⟨(),⟨C211,Sp.refl⟩,⟨_,_,_,rfl,e236⟩⟩
   ·obtain⟨b247,o248,cs249,e246,e250⟩:=d220;obtain⟨a251,c252,a253,c254,a255,c256,a257,c258,rfl,h259⟩:=Jq e250.rd;exact Ja k210 (aC e246 aN) fun _=>OpSt.op (J3v (cs:=(ec (a.args.getD i default) a251 c252 a253 c254 a255 c256 a257 c258)) ag31 rfl rfl e250.cell (⟨(),⟨C211,Sp.refl⟩,(Jh (a.args.getD i default) h259.lo h259.hi h259.name h259.n h259.num h259.den h259.args)⟩))
   ·obtain⟨a261,c262,a263,c264,a265,c266,a267,c268,e260,h269⟩:=J3f d221;refine Ja k210 (aC e260 aN) fun _=>OpSt.op (J25 C211 cb17 rfl rfl (ih C211.bd (Jh (a.args.getD i default) h269.lo h269.hi h269.name h269.n h269.num h269.den h269.args) (Qu hpl (by omega)) (by have h7:=zo (l:=a.args) (i:=i) (by omega);omega) (Nat.lt_of_lt_of_le (Kn (by omega)) (Nat.le_of_lt_succ hN))) ?_);intro v270 w271 C272 s273 h274;exact⟨(),⟨C272,s273⟩,h274⟩
   ·obtain⟨a276,c277,a278,c279,a280,c281,a282,c283,e275,h284⟩:=J3f d222;refine Ja k210 (aC e275 aN) fun _=>OpSt.op (J3t (T:=Jf) (css:=[(ec (lowE (a.args.getD i default)) a276 c277 a278 c279 a280 c281 a282 c283)]) (l:=[(lowE (a.args.getD i default))]) C211 sl29 io31 (by decide) (by decide) rfl (by kernel_rfl) ⟨(jm (lowE (a.args.getD i default)) h284.lo h284.hi h284.name h284.n h284.num h284.den h284.args),trivial⟩ ?_);intro g289 w285 C286 s287 h288;exact⟨(),⟨C286,s287⟩,h288⟩
   obtain⟨b293,o294,cs295,e292,e296⟩:=d228;obtain⟨a297,c298,a299,c300,a301,c302,a303,c304,rfl,h305⟩:=Jq e296.rd;obtain⟨a307,c308,a309,c310,a311,c312,a313,c314,e306,h315⟩:=J3f d229;obtain⟨a317,c318,a319,c320,a321,c322,a323,c324,e316,h325⟩:=J3f d230;obtain⟨a327,c328,e326,d231⟩:=RS.opn d231;obtain⟨f329,rfl⟩:=mixK k210 (aC e223 (aC e224 (aC e225 (aC e226 (aC e227 (aC e292 (aC e306 (aC e316 (aC e326 aN)))))))));refine Ol (J3o (T:=Jf) (v:=(.slice pa p.length pc)) (u:=(.slice a327 [(lowE (a.args.getD i default))].length c328)) C211 sl29 io31 rfl rfl hP (Xh d231) (by rw [hp,Yv,List.length_map,List.length_take];simp [maxLen];omega) (by rw [hp,Yv,List.length_map,List.length_take];simp;omega) rfl ?_);intro v330 w331 x332 C333 s334 u335 h336;replace o166:=o166.ap s334 o166.mem;obtain⟨a337,c338,rfl,_,_⟩:=h336.len;refine Ol (St.fieldAddr J3 rfl (On (J3a (cs':=[(.int .i64 a.op),(.slice a107 a.n.length c108),(.bool (lowC a.op a.c).num.neg),(.slice qa1 (lowC a.op a.c).num.mag.length qc1),(.bool (lowC a.op a.c).den.neg),(.slice qa2 (lowC a.op a.c).den.mag.length qc2),(str a.name),(.slice a337 (p++[(lowE (a.args.getD i default))]).length c338)]) C333 o166 io29 rfl rfl rfl rfl rfl rfl ?_)));intro w339 C340 s341 o342;replace h9:=(h9.tr s334.tx).sp s341;replace h109:=(h109.tr s334.tx).sp s341;replace hq1:=(hq1.tr s334.tx).sp s341;replace hq2:=(hq2.tr s334.tx).sp s341;replace h336:=h336.sp s341 C340 (fun _ h=>h)
   replace o164:=(o164.ap s334 o164.mem).spo s341 n114;replace o165:=(o165.ap s334 o165.mem).spo s341 n115;refine Nl (W.region (Om (Ol (St.add rfl rfl (Jc (a:=i) (b:=1) (by omega)) (Oa (Nl (⟨_,(by omega),_,_,(i+1),(p++[(lowE (a.args.getD i default))]),a337,c338,C340,rfl,rfl,rfl,rfl,h9,h109,hq1,hq2,h336,o164,o165,o342,(by omega),(Jgf hp (by omega)),rfl⟩)))))))
  refine Nl (J28 rfl (W.exit (Rg (Ol (J29 (vs:=[(.int .i64 a.op),(.slice a107 a.n.length c108),(.bool (lowC a.op a.c).num.neg),(.slice qa1 (lowC a.op a.c).num.mag.length qc1),(.bool (lowC a.op a.c).den.neg),(.slice qa2 (lowC a.op a.c).den.mag.length qc2),(str a.name),(.slice pa p.length pc)]) o166 ag31 rfl rfl rfl (On (J3a (cs':=[(.int .i64 a.op),(.slice a107 a.n.length c108),(.bool (lowC a.op a.c).num.neg),(.slice qa1 (lowC a.op a.c).num.mag.length qc1),(.bool (lowC a.op a.c).den.neg),(.slice qa2 (lowC a.op a.c).den.mag.length qc2),(str a.name),(.slice pa p.length pc)]) C159 o165 io31 rfl rfl rfl rfl rfl rfl ?_)))))));intro w343 C344 s345 o346;replace h9:=h9.sp s345;replace h109:=h109.sp s345;replace hq1:=hq1.sp s345;replace hq2:=hq2.sp s345;replace hP:=hP.sp s345 C344 (fun _ h=>h)
  refine Nl (W.ret (J7 rfl (resV.c o346 rfl ag31 rfl) (Ret.intro ?_ C344.below)));exact J3l (a:=(GExpr.mk a.op a.n ⟨⟨(lowC a.op a.c).num.neg,(lowC a.op a.c).num.mag⟩,⟨(lowC a.op a.c).den.neg,(lowC a.op a.c).den.mag⟩⟩ a.name p)) (Jh (GExpr.mk a.op a.n ⟨⟨(lowC a.op a.c).num.neg,(lowC a.op a.c).num.mag⟩,⟨(lowC a.op a.c).den.neg,(lowC a.op a.c).den.mag⟩⟩ a.name p) h9.lo h9.hi h9.name ((h109:RS _ _ _ _ _).tr (Tr.weak C344.base)) ((hq1:RS _ _ _ _ _).tr (Tr.weak C344.base)) ((hq2:RS _ _ _ _ _).tr (Tr.weak C344.base)) (hP.toRS C344 hX)) (Jjc hp (by omega))
theorem Jwp{X:Nat→Prop}{w:World}(hX:XB X w){v0:Value}{a:GExpr}(r0:RV Jf X w v0 a)(hpl:Zl a=true)(hl:cntE a≤10000):Calls Tryz.prog 17 #[v0] w (Ret w fun v w'=>RV Jf X w' v (lowE a)):=Jvc ((SizeOf.sizeOf a)+1) hX r0 hpl hl (Nat.lt_succ_self _)
theorem Jsv(N:Nat):∀ {X:Nat→Prop} {w:World} (hX:XB X w) {v0:Value} {a:GExpr} (r0:RV Jf X w v0 a) {nm:List UInt8} {v2:Value} {ye:GExpr} (r2:RV Jf X w v2 ye) (hl:cntE a≤10000) (hpy:Zl ye=true) (hly:cntE ye≤10000) (hN:(SizeOf.sizeOf a) < N),Calls Tryz.prog 62 #[v0,(str nm),v2] w (Ret w fun v w'=>RV Jf X w' v (repE nm (lowE ye) a)):=by
 induction N with
 | zero=>intro X w hX v0 a r0 nm v2 ye r2 hl hpy hly hN;exact absurd hN (Nat.not_lt_zero _)
 | succ N ih=>
  intro X w hX v0 a r0 nm v2 ye r2 hl hpy hly hN;obtain⟨a1,c2,a3,c4,a5,c6,a7,c8,rfl,h9⟩:=J3f r0;obtain⟨a10,c11,a12,c13,a14,c15,a16,c17,rfl,h18⟩:=J3f r2;have C:=Cx.start hX;have hal:=r0.args_max;have hce:=Yb a;have hac:=K6 a;refine Cgo (args:=[(ea a a1 c2 a3 c4 a5 c6 a7 c8),(str nm),(ea ye a10 c11 a12 c13 a14 c15 a16 c17)]) Tryz.func62 rfl rfl rfl (Rg (Ol (J3g C rfl ?_)));intro g19 w20 x21 y22 lt23 C24 s25 o26;replace h9:=h9.sp s25;replace h18:=h18.sp s25;refine Ol (J3g C24 rfl ?_);intro g27 w28 x29 y30 lt31 C32 s33 o34;refine Ol (J3b C32 io31 rfl ?_);intro g36 w37 x38 y39 lt40 C41 s42 o43;replace h9:=(h9.sp s33).sp s42;replace h18:=(h18.sp s33).sp s42;replace o26:=(o26.spn s33).spn s42;replace o34:=o34.spn s42;refine Nl (W.seq (J4d (fun f v=>∃ (x y:Nat→Prop),Cx X w x y v∧f 1=(str nm)∧f 3=(.pointer (some ⟨g19,0,none⟩))∧f 5=(.pointer (some ⟨g27,0,none⟩))∧f 6=(.pointer (some ⟨g36,0,none⟩))∧ExprParts x v a a1 c2 a3 c4 a5 c6 a7 c8∧ExprParts x v ye a10 c11 a12 c13 a14 c15 a16 c17∧Own w y v g19 (ec a a1 c2 a3 c4 a5 c6 a7 c8) 31∧Own w y v g27 (ec ye a10 c11 a12 c13 a14 c15 a16 c17) 31∧Own w y v g36 [(.int .i64 0),(.slice none 0 0),(.bool false),(.slice none 0 0),(.bool false),(.slice none 0 0),(str []),(.slice none 0 0)] 31∧¬ (a.op=8∧a.name=nm)) ?_ ?_))
  ·refine Rg (Ol (St.fieldAddr Zz rfl (Ol (J27 o26 pl3 rfl rfl (Ol (J3h rfl rfl (fun hc46=>?_) (fun hc46=>?_)))))))
   ·refine Om (Og rfl rfl (St.fieldAddr Km rfl (Og rfl rfl (J27 o26 pl9 rfl rfl (Og rfl rfl (St.move (Og rfl rfl (J31 rfl rfl (fun hc47=>?_) (fun hc47=>?_)))))))))
    ·refine OT (Nl (J26 rfl (Rg (Ol (J29 (vs:=(ec ye a10 c11 a12 c13 a14 c15 a16 c17)) o34 ag31 rfl rfl rfl (Ol (J25 C41 cb63 rfl rfl (Jqe C41.bd (Jh ye h18.lo h18.hi h18.name h18.n h18.num h18.den h18.args) hpy hly) ?_)))))));intro v48 w49 C50 s51 h52;replace o43:=o43.spn s51;obtain⟨a53,c54,a55,c56,a57,c58,a59,c60,rfl,h61⟩:=J3f h52;refine On (J3a (cs':=(ec (lowE ye) a53 c54 a55 c56 a57 c58 a59 c60)) C50 o43 io31 rfl rfl rfl rfl rfl rfl ?_);intro w62 C63 s64 o65;replace h61:=h61.sp s64;refine Nl (W.ret (J7 rfl (resV.c o65 rfl ag31 rfl) (Ret.intro ?_ C63.below)));exact J3l (a:=(lowE ye)) ((Jh (lowE ye) h61.lo h61.hi h61.name h61.n h61.num h61.den h61.args).tr (Tr.weak C63.base)) (Jjt (by omega) hc47)
    refine OT (Nl (J28 rfl (W.skip (⟨_,_,C41,rfl,rfl,rfl,rfl,h9,h18,o26,o34,o43,(fun h=>by first | exact absurd h.1 (by assumption) | exact absurd h.2 (by assumption))⟩))))
   refine Om (Oz (Oz (Oz (Oz (OF (Nl (J28 rfl (W.skip (⟨_,_,C41,rfl,rfl,rfl,rfl,h9,h18,o26,o34,o43,(fun h=>by first | exact absurd h.1 (by assumption) | exact absurd h.2 (by assumption))⟩)))))))))
  rintro f66 w67 ⟨x68,y69,C70,e71,e72,e73,e74,h9,h18,o75,o76,o77,hno⟩;obtain⟨f78,rfl⟩:=rebK (aC e71 (aC e72 (aC e73 (aC e74 aN))));clear e71 e72 e73 e74;refine Rg (Ol (J29 (vs:=(ec a a1 c2 a3 c4 a5 c6 a7 c8)) o75 ag31 rfl rfl rfl (Ol (J3b C70 io31 rfl ?_))));intro g79 w80 x81 y82 lt83 C84 s85 o86;have n87:=lt83 _ o75.blk.lt;have n88:=lt83 _ o76.blk.lt;have n89:=lt83 _ o77.blk.lt;replace h9:=h9.sp s85;replace h18:=h18.sp s85;replace o75:=o75.spn s85;replace o76:=o76.spn s85;replace o77:=o77.spn s85;refine On (J3a (cs':=(ec a a1 c2 a3 c4 a5 c6 a7 c8)) C84 o86 io31 rfl rfl rfl rfl rfl rfl ?_);intro w90 C91 s92 o93;refine Nl (Rg (Ol (St.fieldAddr J3 rfl (On (J3a (cs':=[(.int .i64 a.op),(.slice a1 a.n.length c2),(.bool a.c.num.neg),(.slice a3 a.c.num.mag.length c4),(.bool a.c.den.neg),(.slice a5 a.c.den.mag.length c6),(str a.name),(.slice none 0 0)]) C91 o93 io29 rfl rfl rfl rfl rfl rfl ?_)))));intro w94 C95 s96 o97;replace h9:=(h9.sp s92).sp s96;replace h18:=(h18.sp s92).sp s96;replace o75:=(o75.spo s92 n87).spo s96 n87;replace o76:=(o76.spo s92 n88).spo s96 n88;replace o77:=(o77.spo s92 n89).spo s96 n89;refine Nl (Rh (Ol (St.fieldAddr J3 rfl (Ol (J27 o75 pl29 rfl rfl (Ol (St.len sl29 rfl (Om (Nl (W.block (J3j (fun μ f v=>∃ (x y:Nat→Prop) (i:Nat) (p:List GExpr) (pa:Option Addr) (pc:Nat),Cx X w x y v∧f 1=(str nm)∧f 5=(.pointer (some ⟨g27,0,none⟩))∧f 6=(.pointer (some ⟨g36,0,none⟩))∧f 7=(.pointer (some ⟨g79,0,none⟩))∧f 24=(.slice a7 a.args.length c8)∧f 25=(.int .i64 ((a.args.length:Nat):Int))∧f 26=(.int .i64 ((i:Nat):Int))∧ExprParts x v a a1 c2 a3 c4 a5 c6 a7 c8∧ExprParts x v ye a10 c11 a12 c13 a14 c15 a16 c17∧OS Jf 31 w x y v (.slice pa p.length pc) p∧Own w y v g19 (ec a a1 c2 a3 c4 a5 c6 a7 c8) 31∧Own w y v g27 (ec ye a10 c11 a12 c13 a14 c15 a16 c17) 31∧Own w y v g36 [(.int .i64 0),(.slice none 0 0),(.bool false),(.slice none 0 0),(.bool false),(.slice none 0 0),(str []),(.slice none 0 0)] 31∧Own w y v g79 [(.int .i64 a.op),(.slice a1 a.n.length c2),(.bool a.c.num.neg),(.slice a3 a.c.num.mag.length c4),(.bool a.c.den.neg),(.slice a5 a.c.den.mag.length c6),(str a.name),(.slice pa p.length pc)] 31∧i≤a.args.length∧p=repL nm (lowE ye) (a.args.take i)∧μ=(a.args.length - i)) _ ⟨_,_,0,[],none,0,C95,rfl,rfl,rfl,rfl,rfl,rfl,rfl,h9,h18,OS.nil,o75,o76,o77,o97,(Nat.zero_le _),rfl,rfl⟩ ?_)))))))))));rintro m115 f98 w99 ⟨x100,y101,i,p,pa,pc,C102,e103,e104,e105,e106,e107,e108,e109,h9,h18,hP,o110,o111,o112,o113,hi,hp,hmu114⟩;obtain⟨f116,rfl⟩:=rebK (aC e103 (aC e104 (aC e105 (aC e106 (aC e107 (aC e108 (aC e109 aN)))))));clear e103 e104 e105 e106 e107 e108 e109;refine Rg (Ol (J3i rfl rfl (fun hc117=>?_) (fun hc117=>?_)))
  ·refine Nl (W.seq (J26 rfl (W.skip (W.seq (W.block (Rg (Ol (J3k (j:=i) (u:=(a.args.getD i default)) h9.args sl29 io31 rfl rfl rfl (Jg (by omega)) ?_))))))));intro b118 o119 cs120 e121;obtain⟨a122,c123,a124,c125,a126,c127,a128,c129,rfl,h130⟩:=Jq e121.rd;refine Ol (J3v (cs:=(ec (a.args.getD i default) a122 c123 a124 c125 a126 c127 a128 c129)) ag31 rfl rfl e121.cell (Ol (J4h C102 io31 rfl ?_)));intro g131 w132 x133 y134 lt135 C136 s137 o138 u139;have n140:=lt135 _ o110.blk.lt;have n141:=lt135 _ o111.blk.lt;have n142:=lt135 _ o112.blk.lt;have n143:=lt135 _ o113.blk.lt;replace h9:=h9.sp s137;replace h18:=h18.sp s137;replace hP:=hP.sp s137 C136 u139;replace h130:=h130.sp s137;replace o110:=o110.spn s137;replace o111:=o111.spn s137;replace o112:=o112.spn s137;replace o113:=o113.spn s137;refine On (J3a (cs':=(ec (a.args.getD i default) a122 c123 a124 c125 a126 c127 a128 c129)) C136 o138 io31 rfl rfl rfl rfl rfl rfl ?_);intro w144 C145 s146 o147;refine Nl (J35 J5 7 [[],[0],[],[],[],[2,3,4],[5]] C145 [fx (.pointer (some ⟨g79,7,none⟩)),fx (.slice pa p.length pc),fx (ea (a.args.getD i default) a122 c123 a124 c125 a126 c127 a128 c129),fx (str nm),fx (ea ye a10 c11 a12 c13 a14 c15 a16 c17),ur x133 Jf (repE nm (lowE ye) (a.args.getD i default)),us x133 Jf [(repE nm (lowE ye) (a.args.getD i default))]] (by kernel_rfl) ⟨sx,sx,sx,sx,sx,tr,ts,trivial⟩ fun f170 w172 C175 S176 k174=>?_)
   replace h9:=(h9.sp s146).sp S176;replace h18:=(h18.sp s146).sp S176;replace hP:=(hP.sp s146 C145 (fun _ h=>h)).sp S176 C175 (fun _ h=>h)
   replace h130:=(h130.sp s146).sp S176;replace o110:=(o110.spo s146 n140).spn S176;replace o111:=(o111.spo s146 n141).spn S176;replace o112:=(o112.spo s146 n142).spn S176;replace o113:=(o113.spo s146 n143).spn S176;replace o147:=o147.spn S176;have k174:Keep [30,31,32,33,34,35,36] _ f170:=k174;refine⟨⟨fun _=>?_,fun⟨e182,_⟩=>?_,fun _=>?_,fun _=>?_,fun _=>?_,fun⟨e183,e184,e185,_⟩=>?_,fun⟨d186,_⟩=>?_,trivial⟩,fun⟨e187,e188,e189,e190,e191,d192,d193,_⟩=>?_⟩
   ·exact Ja k174 aN fun _=>OpSt.op (St.fieldAddr J3 rfl (⟨(),⟨C175,Sp.refl⟩,rfl⟩))
   ·exact Ja k174 (aC e182 aN) fun _=>OpSt.op (J27 o113 pl29 rfl rfl (⟨(),⟨C175,Sp.refl⟩,rfl⟩))
   ·exact Ja k174 aN fun _=>OpSt.op (J29 (vs:=(ec (a.args.getD i default) a122 c123 a124 c125 a126 c127 a128 c129)) o147 ag31 rfl rfl rfl (⟨(),⟨C175,Sp.refl⟩,rfl⟩))
   ·exact Ja k174 aN fun _=>OpSt.op (St.move (⟨(),⟨C175,Sp.refl⟩,rfl⟩))
   ·exact Ja k174 aN fun _=>OpSt.op (J29 (vs:=(ec ye a10 c11 a12 c13 a14 c15 a16 c17)) o111 ag31 rfl rfl rfl (⟨(),⟨C175,Sp.refl⟩,rfl⟩))
   ·refine Ja k174 (aC e183 (aC e184 (aC e185 aN))) fun _=>OpSt.op (J25 C175 cb62 rfl rfl (ih C175.bd (Jh (a.args.getD i default) h130.lo h130.hi h130.name h130.n h130.num h130.den h130.args) (Jh ye h18.lo h18.hi h18.name h18.n h18.num h18.den h18.args) (by have h7:=zo (l:=a.args) (i:=i) (by omega);omega) hpy hly (Nat.lt_of_lt_of_le (Kn (by omega)) (Nat.le_of_lt_succ hN))) ?_);intro v195 w196 C197 s198 h199;exact⟨(),⟨C197,s198⟩,h199⟩
   ·obtain⟨a201,c202,a203,c204,a205,c206,a207,c208,e200,h209⟩:=J3f d186;refine Ja k174 (aC e200 aN) fun _=>OpSt.op (J3t (T:=Jf) (css:=[(ec (repE nm (lowE ye) (a.args.getD i default)) a201 c202 a203 c204 a205 c206 a207 c208)]) (l:=[(repE nm (lowE ye) (a.args.getD i default))]) C175 sl29 io31 (by decide) (by decide) rfl (by kernel_rfl) ⟨(jm (repE nm (lowE ye) (a.args.getD i default)) h209.lo h209.hi h209.name h209.n h209.num h209.den h209.args),trivial⟩ ?_);intro g214 w210 C211 s212 h213;exact⟨(),⟨C211,s212⟩,h213⟩
   obtain⟨a218,c219,a220,c221,a222,c223,a224,c225,e217,h226⟩:=J3f d192;obtain⟨a228,c229,e227,d193⟩:=RS.opn d193;obtain⟨f230,rfl⟩:=mixK k174 (aC e187 (aC e188 (aC e189 (aC e190 (aC e191 (aC e217 (aC e227 aN)))))));refine Ol (J3o (T:=Jf) (v:=(.slice pa p.length pc)) (u:=(.slice a228 [(repE nm (lowE ye) (a.args.getD i default))].length c229)) C175 sl29 io31 rfl rfl hP (Xh d193) (by rw [hp,Yu,List.length_map,List.length_take];simp [maxLen];omega) (by rw [hp,Yu,List.length_map,List.length_take];simp;omega) rfl ?_);intro v231 w232 x233 C234 s235 u236 h237;replace o113:=o113.ap s235 o113.mem;obtain⟨a238,c239,rfl,_,_⟩:=h237.len;refine Ol (St.fieldAddr J3 rfl (On (J3a (cs':=[(.int .i64 a.op),(.slice a1 a.n.length c2),(.bool a.c.num.neg),(.slice a3 a.c.num.mag.length c4),(.bool a.c.den.neg),(.slice a5 a.c.den.mag.length c6),(str a.name),(.slice a238 (p++[(repE nm (lowE ye) (a.args.getD i default))]).length c239)]) C234 o113 io29 rfl rfl rfl rfl rfl rfl ?_)));intro w240 C241 s242 o243;replace h9:=(h9.tr s235.tx).sp s242;replace h18:=(h18.tr s235.tx).sp s242;replace h237:=h237.sp s242 C241 (fun _ h=>h)
   replace o110:=(o110.ap s235 o110.mem).spo s242 n87;replace o111:=(o111.ap s235 o111.mem).spo s242 n88;replace o112:=(o112.ap s235 o112.mem).spo s242 n89;refine Nl (W.region (Ol (St.add rfl rfl (Jc (a:=i) (b:=1) (by omega)) (Om (Nl (⟨_,(by omega),_,_,(i+1),(p++[(repE nm (lowE ye) (a.args.getD i default))]),a238,c239,C241,rfl,rfl,rfl,rfl,rfl,rfl,rfl,h9,h18,h237,o110,o111,o112,o243,(by omega),(Jge hp (by omega)),rfl⟩))))))
  refine Nl (W.seq (J28 rfl (W.exit (Rg (Ol (J29 (vs:=[(.int .i64 a.op),(.slice a1 a.n.length c2),(.bool a.c.num.neg),(.slice a3 a.c.num.mag.length c4),(.bool a.c.den.neg),(.slice a5 a.c.den.mag.length c6),(str a.name),(.slice pa p.length pc)]) o113 ag31 rfl rfl rfl (On (J3a (cs':=[(.int .i64 a.op),(.slice a1 a.n.length c2),(.bool a.c.num.neg),(.slice a3 a.c.num.mag.length c4),(.bool a.c.den.neg),(.slice a5 a.c.den.mag.length c6),(str a.name),(.slice pa p.length pc)]) C102 o112 io31 rfl rfl rfl rfl rfl rfl ?_))))))));intro w244 C245 s246 o247;replace h9:=h9.sp s246;replace hP:=hP.sp s246 C245 (fun _ h=>h)
  refine Nl (W.ret (J7 rfl (resV.c o247 rfl ag31 rfl) (Ret.intro ?_ C245.below)));exact J3l (a:=(GExpr.mk a.op a.n ⟨⟨a.c.num.neg,a.c.num.mag⟩,⟨a.c.den.neg,a.c.den.mag⟩⟩ a.name p)) (Jh (GExpr.mk a.op a.n ⟨⟨a.c.num.neg,a.c.num.mag⟩,⟨a.c.den.neg,a.c.den.mag⟩⟩ a.name p) h9.lo h9.hi h9.name ((h9.n:RS _ _ _ _ _).tr (Tr.weak C245.base)) ((h9.num:RS _ _ _ _ _).tr (Tr.weak C245.base)) ((h9.den:RS _ _ _ _ _).tr (Tr.weak C245.base)) (hP.toRS C245 hX)) (Jmc hno hp (by omega))
theorem c_put{X:Nat→Prop}{w:World}(hX:XB X w){v0:Value}{a:GExpr}(r0:RV Jf X w v0 a){nm:List UInt8}{v2:Value}{ye:GExpr}(r2:RV Jf X w v2 ye)(hl:cntE a≤10000)(hpy:Zl ye=true)(hly:cntE ye≤10000):Calls Tryz.prog 62 #[v0,(str nm),v2] w (Ret w fun v w'=>RV Jf X w' v (repE nm (lowE ye) a)):=Jsv ((SizeOf.sizeOf a)+1) hX r0 r2 hl hpy hly (Nat.lt_succ_self _)
theorem Jv6(N:Nat):∀ {X:Nat→Prop} {w:World} (hX:XB X w) {v0:Value} {a:GExpr} (r0:RV Jf X w v0 a) {nm:List UInt8} {v2:Value} {ye:GExpr} (r2:RV Jf X w v2 ye) (hl:cntE a≤10000) (hN:(SizeOf.sizeOf a) < N),Calls Tryz.prog 64 #[v0,(str nm),v2] w (Ret w fun v w'=>RV Jf X w' v (repE nm ye a)):=by
 induction N with
 | zero=>intro X w hX v0 a r0 nm v2 ye r2 hl hN;exact absurd hN (Nat.not_lt_zero _)
 | succ N ih=>
  intro X w hX v0 a r0 nm v2 ye r2 hl hN;obtain⟨a1,c2,a3,c4,a5,c6,a7,c8,rfl,h9⟩:=J3f r0;obtain⟨a10,c11,a12,c13,a14,c15,a16,c17,rfl,h18⟩:=J3f r2;have C:=Cx.start hX;have hal:=r0.args_max;have hce:=Yb a;have hac:=K6 a;refine Cgo (args:=[(ea a a1 c2 a3 c4 a5 c6 a7 c8),(str nm),(ea ye a10 c11 a12 c13 a14 c15 a16 c17)]) Tryz.func64 rfl rfl rfl (Rg (Ol (J3g C rfl ?_)));intro g19 w20 x21 y22 lt23 C24 s25 o26;replace h9:=h9.sp s25;replace h18:=h18.sp s25;refine Ol (J3g C24 rfl ?_);intro g27 w28 x29 y30 lt31 C32 s33 o34;refine Ol (J3b C32 io31 rfl ?_);intro g36 w37 x38 y39 lt40 C41 s42 o43;replace h9:=(h9.sp s33).sp s42;replace h18:=(h18.sp s33).sp s42;replace o26:=(o26.spn s33).spn s42;replace o34:=o34.spn s42;refine Nl (W.seq (J4d (fun f v=>∃ (x y:Nat→Prop),Cx X w x y v∧f 1=(str nm)∧f 3=(.pointer (some ⟨g19,0,none⟩))∧f 5=(.pointer (some ⟨g27,0,none⟩))∧f 6=(.pointer (some ⟨g36,0,none⟩))∧ExprParts x v a a1 c2 a3 c4 a5 c6 a7 c8∧ExprParts x v ye a10 c11 a12 c13 a14 c15 a16 c17∧Own w y v g19 (ec a a1 c2 a3 c4 a5 c6 a7 c8) 31∧Own w y v g27 (ec ye a10 c11 a12 c13 a14 c15 a16 c17) 31∧Own w y v g36 [(.int .i64 0),(.slice none 0 0),(.bool false),(.slice none 0 0),(.bool false),(.slice none 0 0),(str []),(.slice none 0 0)] 31∧¬ (a.op=8∧a.name=nm)) ?_ ?_))
  ·refine Rg (Ol (St.fieldAddr Zz rfl (Ol (J27 o26 pl3 rfl rfl (Ol (J3h rfl rfl (fun hc46=>?_) (fun hc46=>?_)))))))
   ·refine Om (Og rfl rfl (St.fieldAddr Km rfl (Og rfl rfl (J27 o26 pl9 rfl rfl (Og rfl rfl (St.move (Og rfl rfl (J31 rfl rfl (fun hc47=>?_) (fun hc47=>?_)))))))))
    ·refine OT (Nl (J26 rfl (Rg (Ol (J29 (vs:=(ec ye a10 c11 a12 c13 a14 c15 a16 c17)) o34 ag31 rfl rfl rfl (On (J3a (cs':=(ec ye a10 c11 a12 c13 a14 c15 a16 c17)) C41 o43 io31 rfl rfl rfl rfl rfl rfl ?_)))))));intro w48 C49 s50 o51;replace h18:=h18.sp s50;refine Nl (W.ret (J7 rfl (resV.c o51 rfl ag31 rfl) (Ret.intro ?_ C49.below)));exact J3l (a:=ye) ((Jh ye h18.lo h18.hi h18.name h18.n h18.num h18.den h18.args).tr (Tr.weak C49.base)) (Jjt (by omega) hc47)
    refine OT (Nl (J28 rfl (W.skip (⟨_,_,C41,rfl,rfl,rfl,rfl,h9,h18,o26,o34,o43,(fun h=>by first | exact absurd h.1 (by assumption) | exact absurd h.2 (by assumption))⟩))))
   refine Om (Oz (Oz (Oz (Oz (OF (Nl (J28 rfl (W.skip (⟨_,_,C41,rfl,rfl,rfl,rfl,h9,h18,o26,o34,o43,(fun h=>by first | exact absurd h.1 (by assumption) | exact absurd h.2 (by assumption))⟩)))))))))
  rintro f52 w53 ⟨x54,y55,C56,e57,e58,e59,e60,h9,h18,o61,o62,o63,hno⟩;obtain⟨f64,rfl⟩:=rebK (aC e57 (aC e58 (aC e59 (aC e60 aN))));clear e57 e58 e59 e60;refine Rg (Ol (J29 (vs:=(ec a a1 c2 a3 c4 a5 c6 a7 c8)) o61 ag31 rfl rfl rfl (Ol (J3b C56 io31 rfl ?_))));intro g65 w66 x67 y68 lt69 C70 s71 o72;have n73:=lt69 _ o61.blk.lt;have n74:=lt69 _ o62.blk.lt;have n75:=lt69 _ o63.blk.lt;replace h9:=h9.sp s71;replace h18:=h18.sp s71;replace o61:=o61.spn s71;replace o62:=o62.spn s71;replace o63:=o63.spn s71;refine On (J3a (cs':=(ec a a1 c2 a3 c4 a5 c6 a7 c8)) C70 o72 io31 rfl rfl rfl rfl rfl rfl ?_);intro w76 C77 s78 o79;refine Nl (Rg (Ol (St.fieldAddr J3 rfl (On (J3a (cs':=[(.int .i64 a.op),(.slice a1 a.n.length c2),(.bool a.c.num.neg),(.slice a3 a.c.num.mag.length c4),(.bool a.c.den.neg),(.slice a5 a.c.den.mag.length c6),(str a.name),(.slice none 0 0)]) C77 o79 io29 rfl rfl rfl rfl rfl rfl ?_)))));intro w80 C81 s82 o83;replace h9:=(h9.sp s78).sp s82;replace h18:=(h18.sp s78).sp s82;replace o61:=(o61.spo s78 n73).spo s82 n73;replace o62:=(o62.spo s78 n74).spo s82 n74;replace o63:=(o63.spo s78 n75).spo s82 n75;refine Nl (Rh (Oa (Nl (W.block (J3j (fun μ f v=>∃ (x y:Nat→Prop) (i:Nat) (p:List GExpr) (pa:Option Addr) (pc:Nat),Cx X w x y v∧f 1=(str nm)∧f 3=(.pointer (some ⟨g19,0,none⟩))∧f 5=(.pointer (some ⟨g27,0,none⟩))∧f 6=(.pointer (some ⟨g36,0,none⟩))∧f 7=(.pointer (some ⟨g65,0,none⟩))∧f 8=(.int .i64 ((i:Nat):Int))∧ExprParts x v a a1 c2 a3 c4 a5 c6 a7 c8∧ExprParts x v ye a10 c11 a12 c13 a14 c15 a16 c17∧OS Jf 31 w x y v (.slice pa p.length pc) p∧Own w y v g19 (ec a a1 c2 a3 c4 a5 c6 a7 c8) 31∧Own w y v g27 (ec ye a10 c11 a12 c13 a14 c15 a16 c17) 31∧Own w y v g36 [(.int .i64 0),(.slice none 0 0),(.bool false),(.slice none 0 0),(.bool false),(.slice none 0 0),(str []),(.slice none 0 0)] 31∧Own w y v g65 [(.int .i64 a.op),(.slice a1 a.n.length c2),(.bool a.c.num.neg),(.slice a3 a.c.num.mag.length c4),(.bool a.c.den.neg),(.slice a5 a.c.den.mag.length c6),(str a.name),(.slice pa p.length pc)] 31∧i≤a.args.length∧p=repL nm ye (a.args.take i)∧μ=(a.args.length - i)) _ ⟨_,_,0,[],none,0,C81,rfl,rfl,rfl,rfl,rfl,rfl,h9,h18,OS.nil,o61,o62,o63,o83,(Nat.zero_le _),rfl,rfl⟩ ?_)))));rintro m100 f84 w85 ⟨x86,y87,i,p,pa,pc,C88,e89,e90,e91,e92,e93,e94,h9,h18,hP,o95,o96,o97,o98,hi,hp,hmu99⟩;obtain⟨f101,rfl⟩:=rebK (aC e89 (aC e90 (aC e91 (aC e92 (aC e93 (aC e94 aN))))));clear e89 e90 e91 e92 e93 e94;refine Rh (Om (Ol (St.fieldAddr J3 rfl (Ol (J27 o95 pl29 rfl rfl (Ol (St.len sl29 rfl (Ol (J3i rfl rfl (fun hc102=>?_) (fun hc102=>?_))))))))))
  ·refine Nl (J26 rfl (W.skip (W.seq (W.block (J35 J5 11 [[],[0],[],[2],[],[3,4],[5],[],[],[6,7,8],[9]] C88 [fx (.pointer (some ⟨g65,7,none⟩)),fx (.slice pa p.length pc),fx (.pointer (some ⟨g19,7,none⟩)),fx (.slice a7 a.args.length c8),fx (.int .i64 ((i:Nat):Int)),uE x86 Jf (a.args.getD i default),ur x86 Jf (a.args.getD i default),fx (str nm),fx (ea ye a10 c11 a12 c13 a14 c15 a16 c17),ur x86 Jf (repE nm ye (a.args.getD i default)),us x86 Jf [(repE nm ye (a.args.getD i default))]] (by kernel_rfl) ⟨sx,sx,sx,sx,sx,tE,tr,sx,sx,tr,ts,trivial⟩ fun f138 w140 C143 S144 k142=>?_)))))
   replace h9:=h9.sp S144;replace h18:=h18.sp S144;replace hP:=hP.sp S144 C143 (fun _ h=>h)
   replace o95:=o95.spn S144;replace o96:=o96.spn S144;replace o97:=o97.spn S144;replace o98:=o98.spn S144;have k142:Keep [28,29,30,31,32,33,34,35,36,37,38] _ f138:=k142;refine⟨⟨fun _=>?_,fun⟨e149,_⟩=>?_,fun _=>?_,fun⟨e150,_⟩=>?_,fun _=>?_,fun⟨e151,e152,_⟩=>?_,fun⟨d153,_⟩=>?_,fun _=>?_,fun _=>?_,fun⟨d154,e155,e156,_⟩=>?_,fun⟨d157,_⟩=>?_,trivial⟩,fun⟨e158,e159,e160,e161,e162,d163,d164,e165,e166,d167,d168,_⟩=>?_⟩
   ·exact Ja k142 aN fun _=>OpSt.op (St.fieldAddr J3 rfl (⟨(),⟨C143,Sp.refl⟩,rfl⟩))
   ·exact Ja k142 (aC e149 aN) fun _=>OpSt.op (J27 o98 pl29 rfl rfl (⟨(),⟨C143,Sp.refl⟩,rfl⟩))
   ·exact Ja k142 aN fun _=>OpSt.op (St.fieldAddr J3 rfl (⟨(),⟨C143,Sp.refl⟩,rfl⟩))
   ·exact Ja k142 (aC e150 aN) fun _=>OpSt.op (J27 o95 pl29 rfl rfl (⟨(),⟨C143,Sp.refl⟩,rfl⟩))
   ·exact Ja k142 aN fun _=>OpSt.op (St.move (⟨(),⟨C143,Sp.refl⟩,rfl⟩))
   ·refine Ja k142 (aC e151 (aC e152 aN)) fun _=>OpSt.op (J3k (j:=i) (u:=(a.args.getD i default)) h9.args sl29 io31 rfl rfl rfl (Jg (by omega)) ?_);intro b170 o171 cs172 e173;obtain⟨a174,c175,a176,c177,a178,c179,a180,c181,rfl,h182⟩:=Jq e173.rd;exact⟨(),⟨C143,Sp.refl⟩,⟨_,_,_,rfl,e173⟩⟩
   ·obtain⟨b184,o185,cs186,e183,e187⟩:=d153;obtain⟨a188,c189,a190,c191,a192,c193,a194,c195,rfl,h196⟩:=Jq e187.rd;exact Ja k142 (aC e183 aN) fun _=>OpSt.op (J3v (cs:=(ec (a.args.getD i default) a188 c189 a190 c191 a192 c193 a194 c195)) ag31 rfl rfl e187.cell (⟨(),⟨C143,Sp.refl⟩,(Jh (a.args.getD i default) h196.lo h196.hi h196.name h196.n h196.num h196.den h196.args)⟩))
   ·exact Ja k142 aN fun _=>OpSt.op (St.move (⟨(),⟨C143,Sp.refl⟩,rfl⟩))
   ·exact Ja k142 aN fun _=>OpSt.op (J29 (vs:=(ec ye a10 c11 a12 c13 a14 c15 a16 c17)) o96 ag31 rfl rfl rfl (⟨(),⟨C143,Sp.refl⟩,rfl⟩))
   ·obtain⟨a198,c199,a200,c201,a202,c203,a204,c205,e197,h206⟩:=J3f d154;refine Ja k142 (aC e197 (aC e155 (aC e156 aN))) fun _=>OpSt.op (J25 C143 cb64 rfl rfl (ih C143.bd (Jh (a.args.getD i default) h206.lo h206.hi h206.name h206.n h206.num h206.den h206.args) (Jh ye h18.lo h18.hi h18.name h18.n h18.num h18.den h18.args) (by have h7:=zo (l:=a.args) (i:=i) (by omega);omega) (Nat.lt_of_lt_of_le (Kn (by omega)) (Nat.le_of_lt_succ hN))) ?_);intro v207 w208 C209 s210 h211;exact⟨(),⟨C209,s210⟩,h211⟩
   ·obtain⟨a213,c214,a215,c216,a217,c218,a219,c220,e212,h221⟩:=J3f d157;refine Ja k142 (aC e212 aN) fun _=>OpSt.op (J3t (T:=Jf) (css:=[(ec (repE nm ye (a.args.getD i default)) a213 c214 a215 c216 a217 c218 a219 c220)]) (l:=[(repE nm ye (a.args.getD i default))]) C143 sl29 io31 (by decide) (by decide) rfl (by kernel_rfl) ⟨(jm (repE nm ye (a.args.getD i default)) h221.lo h221.hi h221.name h221.n h221.num h221.den h221.args),trivial⟩ ?_);intro g226 w222 C223 s224 h225;exact⟨(),⟨C223,s224⟩,h225⟩
   obtain⟨b230,o231,cs232,e229,e233⟩:=d163;obtain⟨a234,c235,a236,c237,a238,c239,a240,c241,rfl,h242⟩:=Jq e233.rd;obtain⟨a244,c245,a246,c247,a248,c249,a250,c251,e243,h252⟩:=J3f d164;obtain⟨a254,c255,a256,c257,a258,c259,a260,c261,e253,h262⟩:=J3f d167;obtain⟨a264,c265,e263,d168⟩:=RS.opn d168;obtain⟨f266,rfl⟩:=mixK k142 (aC e158 (aC e159 (aC e160 (aC e161 (aC e162 (aC e229 (aC e243 (aC e165 (aC e166 (aC e253 (aC e263 aN)))))))))));refine Ol (J3o (T:=Jf) (v:=(.slice pa p.length pc)) (u:=(.slice a264 [(repE nm ye (a.args.getD i default))].length c265)) C143 sl29 io31 rfl rfl hP (Xh d168) (by rw [hp,Yu,List.length_map,List.length_take];simp [maxLen];omega) (by rw [hp,Yu,List.length_map,List.length_take];simp;omega) rfl ?_);intro v267 w268 x269 C270 s271 u272 h273;replace o98:=o98.ap s271 o98.mem;obtain⟨a274,c275,rfl,_,_⟩:=h273.len;refine Ol (St.fieldAddr J3 rfl (On (J3a (cs':=[(.int .i64 a.op),(.slice a1 a.n.length c2),(.bool a.c.num.neg),(.slice a3 a.c.num.mag.length c4),(.bool a.c.den.neg),(.slice a5 a.c.den.mag.length c6),(str a.name),(.slice a274 (p++[(repE nm ye (a.args.getD i default))]).length c275)]) C270 o98 io29 rfl rfl rfl rfl rfl rfl ?_)));intro w276 C277 s278 o279;replace h9:=(h9.tr s271.tx).sp s278;replace h18:=(h18.tr s271.tx).sp s278;replace h273:=h273.sp s278 C277 (fun _ h=>h)
   replace o95:=(o95.ap s271 o95.mem).spo s278 n73;replace o96:=(o96.ap s271 o96.mem).spo s278 n74;replace o97:=(o97.ap s271 o97.mem).spo s278 n75;refine Nl (W.region (Om (Ol (St.add rfl rfl (Jc (a:=i) (b:=1) (by omega)) (Oa (Nl (⟨_,(by omega),_,_,(i+1),(p++[(repE nm ye (a.args.getD i default))]),a274,c275,C277,rfl,rfl,rfl,rfl,rfl,rfl,h9,h18,h273,o95,o96,o97,o279,(by omega),(Jge hp (by omega)),rfl⟩)))))))
  refine Nl (J28 rfl (W.exit (Rg (Ol (J29 (vs:=[(.int .i64 a.op),(.slice a1 a.n.length c2),(.bool a.c.num.neg),(.slice a3 a.c.num.mag.length c4),(.bool a.c.den.neg),(.slice a5 a.c.den.mag.length c6),(str a.name),(.slice pa p.length pc)]) o98 ag31 rfl rfl rfl (On (J3a (cs':=[(.int .i64 a.op),(.slice a1 a.n.length c2),(.bool a.c.num.neg),(.slice a3 a.c.num.mag.length c4),(.bool a.c.den.neg),(.slice a5 a.c.den.mag.length c6),(str a.name),(.slice pa p.length pc)]) C88 o97 io31 rfl rfl rfl rfl rfl rfl ?_)))))));intro w280 C281 s282 o283;replace h9:=h9.sp s282;replace hP:=hP.sp s282 C281 (fun _ h=>h)
  refine Nl (W.ret (J7 rfl (resV.c o283 rfl ag31 rfl) (Ret.intro ?_ C281.below)));exact J3l (a:=(GExpr.mk a.op a.n ⟨⟨a.c.num.neg,a.c.num.mag⟩,⟨a.c.den.neg,a.c.den.mag⟩⟩ a.name p)) (Jh (GExpr.mk a.op a.n ⟨⟨a.c.num.neg,a.c.num.mag⟩,⟨a.c.den.neg,a.c.den.mag⟩⟩ a.name p) h9.lo h9.hi h9.name ((h9.n:RS _ _ _ _ _).tr (Tr.weak C281.base)) ((h9.num:RS _ _ _ _ _).tr (Tr.weak C281.base)) ((h9.den:RS _ _ _ _ _).tr (Tr.weak C281.base)) (hP.toRS C281 hX)) (Jmc hno hp (by omega))
theorem x_rep{X:Nat→Prop}{w:World}(hX:XB X w){v0:Value}{a:GExpr}(r0:RV Jf X w v0 a){nm:List UInt8}{v2:Value}{ye:GExpr}(r2:RV Jf X w v2 ye)(hl:cntE a≤10000):Calls Tryz.prog 64 #[v0,(str nm),v2] w (Ret w fun v w'=>RV Jf X w' v (repE nm ye a)):=Jv6 ((SizeOf.sizeOf a)+1) hX r0 r2 hl (Nat.lt_succ_self _)
end Go.Wf
namespace Go.Proofs
open Go.Shelf
def Tryz.lays190_ren:Go.Shelf.Ren:=⟨fun | 190=>59 | 125=>90 | 258=>89 | 128=>135 | 129=>136 | 302=>126 | 303=>127 | 304=>128 | 305=>129 | 306=>130 | 307=>131 | 308=>132 | 309=>133 | 310=>134 | 333=>176 | 329=>177 | 330=>178 | 334=>179 | 335=>180 | 336=>181 | 344=>220 | n=>n,fun | 31=>50 | 9=>9 | 3=>3 | 46=>110 | 0=>0 | 51=>118 | 53=>140 | 4=>4 | 183=>131 | 182=>130 | 131=>136 | 5=>5 | 218=>174 | 222=>99 | 228=>198 | 229=>103 | n=>n,fun | n=>n⟩
theorem Tryz.lays190:Go.Proofs.Lays.n190 Tryz.prog Tryz.lays190_ren:={
 mixed:=by kernel_rfl
 f125:=Tryz.func90.trans (congrArg some (by kernel_rfl))
 f128:=Tryz.func135.trans (congrArg some (by kernel_rfl))
 f129:=Tryz.func136.trans (congrArg some (by kernel_rfl))
 f190:=Tryz.func59.trans (congrArg some (by kernel_rfl))
 f258:=Tryz.func89.trans (congrArg some (by kernel_rfl))
 f302:=Tryz.func126.trans (congrArg some (by kernel_rfl))
 f303:=Tryz.func127.trans (congrArg some (by kernel_rfl))
 f304:=Tryz.func128.trans (congrArg some (by kernel_rfl))
 f305:=Tryz.func129.trans (congrArg some (by kernel_rfl))
 f306:=Tryz.func130.trans (congrArg some (by kernel_rfl))
 f307:=Tryz.func131.trans (congrArg some (by kernel_rfl))
 f308:=Tryz.func132.trans (congrArg some (by kernel_rfl))
 f309:=Tryz.func133.trans (congrArg some (by kernel_rfl))
 f310:=Tryz.func134.trans (congrArg some (by kernel_rfl))
 f329:=Tryz.func177.trans (congrArg some (by kernel_rfl))
 f330:=Tryz.func178.trans (congrArg some (by kernel_rfl))
 f333:=Tryz.func176.trans (congrArg some (by kernel_rfl))
 f334:=Tryz.func179.trans (congrArg some (by kernel_rfl))
 f335:=Tryz.func180.trans (congrArg some (by kernel_rfl))
 f336:=Tryz.func181.trans (congrArg some (by kernel_rfl))
 f344:=Tryz.func220.trans (congrArg some (by kernel_rfl))
 t0:=Tryz.underlying0
 a0:=Tryz.isAgg0
 z0:=Tryz.sizeOf0
 v0:=Tryz.zeroValue0
 t3:=Tryz.underlying3
 a3:=Tryz.isAgg3
 z3:=Tryz.sizeOf3
 v3:=Tryz.zeroValue3
 t4:=Tryz.underlying4
 a4:=Tryz.isAgg4
 z4:=Tryz.sizeOf4
 v4:=Tryz.zeroValue4
 t5:=Tryz.underlying5
 a5:=Tryz.isAgg5
 z5:=Tryz.sizeOf5
 v5:=Tryz.zeroValue5
 t9:=Tryz.underlying9
 a9:=Tryz.isAgg9
 z9:=Tryz.sizeOf9
 v9:=Tryz.zeroValue9
 t31:=Tryz.underlying50
 a31:=Tryz.isAgg50
 z31:=Tryz.sizeOf50
 v31:=Tryz.zeroValue50
 t46:=Tryz.underlying110
 a46:=Tryz.isAgg110
 z46:=Tryz.sizeOf110
 v46:=Tryz.zeroValue110
 t51:=Tryz.underlying118
 a51:=Tryz.isAgg118
 z51:=Tryz.sizeOf118
 v51:=Tryz.zeroValue118
 t53:=Tryz.underlying140
 a53:=Tryz.isAgg140
 z53:=Tryz.sizeOf140
 v53:=Tryz.zeroValue140
 t131:=Tryz.underlying136
 a131:=Tryz.isAgg136
 z131:=Tryz.sizeOf136
 v131:=Tryz.zeroValue136
 t182:=Tryz.underlying130
 a182:=Tryz.isAgg130
 z182:=Tryz.sizeOf130
 v182:=Tryz.zeroValue130
 t183:=Tryz.underlying131
 a183:=Tryz.isAgg131
 z183:=Tryz.sizeOf131
 v183:=Tryz.zeroValue131
 t218:=Tryz.underlying174
 a218:=Tryz.isAgg174
 z218:=Tryz.sizeOf174
 v218:=Tryz.zeroValue174
 t222:=Tryz.underlying99
 a222:=Tryz.isAgg99
 z222:=Tryz.sizeOf99
 v222:=Tryz.zeroValue99
 t228:=Tryz.underlying198
 a228:=Tryz.isAgg198
 z228:=Tryz.sizeOf198
 v228:=Tryz.zeroValue198
 t229:=Tryz.underlying103
 a229:=Tryz.isAgg103
 z229:=Tryz.sizeOf103
 v229:=Tryz.zeroValue103}
def Tryz.lays194_ren:Go.Shelf.Ren:=⟨fun | 194=>60 | n=>n,fun | 31=>50 | 9=>9 | 3=>3 | 4=>4 | 0=>0 | n=>n,fun | n=>n⟩
theorem Tryz.lays194:Go.Proofs.Lays.n194 Tryz.prog Tryz.lays194_ren:={
 mixed:=by kernel_rfl
 f194:=Tryz.func60.trans (congrArg some (by kernel_rfl))
 t0:=Tryz.underlying0
 a0:=Tryz.isAgg0
 z0:=Tryz.sizeOf0
 v0:=Tryz.zeroValue0
 t3:=Tryz.underlying3
 a3:=Tryz.isAgg3
 z3:=Tryz.sizeOf3
 v3:=Tryz.zeroValue3
 t4:=Tryz.underlying4
 a4:=Tryz.isAgg4
 z4:=Tryz.sizeOf4
 v4:=Tryz.zeroValue4
 t9:=Tryz.underlying9
 a9:=Tryz.isAgg9
 z9:=Tryz.sizeOf9
 v9:=Tryz.zeroValue9
 t31:=Tryz.underlying50
 a31:=Tryz.isAgg50
 z31:=Tryz.sizeOf50
 v31:=Tryz.zeroValue50}
end Go.Proofs
namespace Go.Wf
open Go Go.Proofs Go.RowKit Go.Sort
def Jbi(l:List (List UInt8)):List (List UInt8):=l.mergeSort fun x y=>decide (x≤y)
section
variable {X:Nat→Prop} {w:World} {v:Value} {l:List (List UInt8)} {E:TypeId}
theorem OW.strs(h:OW Zm E X w v l):w.ownsRow 0 E 1 v l.length (l.map encStr)∧∀ s ∈ l,s.length≤maxLen:=by
 obtain⟨⟨css,h1,h2,h3⟩⟩:=h;have e:∀ (css:List (List Value)) (l:List (List UInt8)),css.length=l.length→(∀ (i:Nat) (cs:List Value) (u:List UInt8),css[i]? =some cs→l[i]? =some u→cs=[str u]∧u.length≤maxLen)→css.flatten=l.map encStr∧∀ s ∈ l,s.length≤maxLen:=by
  intro css
  induction css with
  | nil=>intro l hl _;cases l with
   | nil=>exact⟨rfl,fun s hs=>by cases hs⟩
   | cons a l=>simp at hl
  | cons c css ih=>
   intro l hl hh
   cases l with
   | nil=>simp at hl
   | cons a l=>
    obtain⟨h4,h5⟩:=hh 0 c a rfl rfl;obtain⟨h6,h7⟩:=ih l (by simpa using hl) fun i cs u hi hu=>hh (i+1) cs u (by simpa using hi) (by simpa using hu);refine⟨by rw [List.flatten_cons,h4,h6];rfl,fun s hs=>?_⟩
    rcases List.mem_cons.1 hs with rfl | hs
    ·exact h5
    ·exact h7 s hs
 obtain⟨e1,e2⟩:=e css l h1 h2;rw [e1] at h3;exact⟨h3,e2⟩
theorem OW.ofStrs(h:w.ownsRow 0 E 1 v l.length (l.map encStr))(hs:∀ s ∈ l,s.length≤maxLen):OW Zm E X w v l:=by
 refine⟨⟨l.map fun s=>[encStr s],by simp,fun i cs u hi hu=>?_,?_⟩⟩
 ·rw [List.getElem?_map,hu] at hi
  injection hi with hi
  exact⟨hi.symm,hs u (List.mem_of_getElem? hu)⟩
 ·have:(l.map fun s=>[encStr s]).flatten=l.map encStr:=by
   clear h hs
   induction l with
   | nil=>rfl
   | cons a l ih=>rw [List.map_cons,List.flatten_cons,ih];rfl
  rw [this];exact h
theorem qw(l:List (List UInt8)):(Jbi l).length=l.length:=List.length_mergeSort l
theorem Jdh{l:List (List UInt8)}{s:List UInt8}:s ∈ Jbi l↔s ∈ l:=List.mem_mergeSort
theorem zm{l:List (List UInt8)}{s:List UInt8}(h:s ∈ Lib.compact l):s ∈ l:=by
 unfold Lib.compact Lib.compactUpTo at h;obtain⟨j,hj,rfl⟩:=List.mem_map.1 h;have hj2:j < l.length:=by simpa using (List.mem_filter.1 hj).1
 have:l.toArray[j]! =l[j]:=by simp [hj2]
 rw [this];exact List.getElem_mem hj2
theorem Jd3(l:List (List UInt8)):(Lib.compact l).length≤l.length:=by
 unfold Lib.compact Lib.compactUpTo;rw [List.length_map];exact Nat.le_trans (List.length_filter_le _ _) (by simp)
theorem Jtw(hX:∀ b,X b→b < w.heap.size)(o0:OW Zm 9 X w v l)(m0:∀ k,v.ownBlock=some k→X k)(hl:l.length≤10000):
  Calls Tryz.prog 59 #[v] w (RetO w v.ownBlock fun _ w'=>OWr Zm 9 X w v.ownBlock v w' (Jbi l)):=by
 obtain⟨h,hs⟩:=o0.strs
 by_cases hv:v= .slice none 0 0
 ·subst hv;have h0:l=[]:=by
   obtain⟨a,c,e,_,_⟩:=o0.opn
   injection e with _ e2 _
   exact List.eq_nil_of_length_eq_zero e2.symm
  subst h0
  refine(Any.slices_Sort_string_none Tryz.lays190 none 0 w).mono ?_
  rintro e w' ⟨rfl,rfl⟩;have h0:Jbi []=[]:=by simp [Jbi]
  rw [h0];exact⟨⟨OW.ofStrs (World.ownsRow_nil _ _ _ _) (fun _ h=>by cases h),fun k hk=> .inl hk⟩,Bel.refl _⟩
 ·obtain⟨g,cap,rfl,_,hlt,hn,hc,hlen,hH⟩:=Lib.holds_of_ownsRow h hv
  rcases h.2 with ⟨e0,_⟩ | ⟨g',cap',cur,e0,_,hb,h4,h5,h6,h7⟩
  ·cases e0
  injection e0 with e1 _ e3
  injection e1 with e1
  injection e1 with e1 _ _
  subst e1;subst e3
  refine(calls_of_every_depth fun D=>AnyS.slices_Sort_string_alone Tryz.lays190 D g 0 cap l w hH hlt (by omega)).mono ?_
  rintro e w' ⟨rfl,n,os,rfl⟩;have hr:=ownsRow_sorted (n:=n) (os:=os) (base:=0) (ss:=l) (ts:=Jbi l) (qw l) (Nat.zero_le _) hb h4 h5 h6;have hg:=grownBy_sorted (w:=w) (g:=g) (n:=n) (os:=os) (Jbi l).toArray;refine⟨⟨OW.ofStrs (by rw [qw];exact hr) fun s q=>hs s (Jdh.1 q),fun k hk=> .inl hk⟩,⟨hg.os,hg.tape,hg.output,hg.size,fun k hk hm=>hg.block k hk fun e=>hm (by simp [Value.ownBlock];injection e with e;exact e.symm)⟩⟩
theorem Jss(hX:∀ b,X b→b < w.heap.size)(o0:OW Zm 9 X w v l)(m0:∀ k,v.ownBlock=some k→X k)(hl:l.length≤10000):
  Calls Tryz.prog 60 #[v] w (RetO w v.ownBlock fun v' w'=>OWr Zm 9 X w v.ownBlock v' w' (Lib.compact l)):=by
 obtain⟨h,hs⟩:=o0.strs
 by_cases hv:v= .slice none 0 0
 ·subst hv;have h0:l=[]:=by
   obtain⟨a,c,e,_,_⟩:=o0.opn
   injection e with _ e2 _
   exact List.eq_nil_of_length_eq_zero e2.symm
  subst h0
  refine(Any.slices_Compact_string_empty Tryz.lays194 none 0 w).mono ?_
  rintro e w' ⟨rfl,rfl⟩;have h0:Lib.compact ([]:List (List UInt8))=[]:=rfl;rw [h0];exact⟨⟨OW.ofStrs (World.ownsRow_nil _ _ _ _) (fun _ h=>by cases h),fun k hk=> .inl hk⟩,Bel.refl _⟩
 ·obtain⟨g,cap,rfl,_,hlt,hn,hc,hlen,hH⟩:=Lib.holds_of_ownsRow h hv
  refine(Any.slices_Compact_string Tryz.lays194 g 0 cap l w hH (by omega) hn).mono ?_
  rintro e w' ⟨rfl,q,rfl⟩;have hcl:=Jd3 l;have hr:=Lib.ownsRow_putRow (q:=q) (k:=(Lib.compact l).length) (ys:=Lib.compact l++List.replicate (l.length - (Lib.compact l).length) []) h (by simp;omega) hcl;rw [List.take_left] at hr;refine⟨⟨OW.ofStrs hr fun s q=>hs s (zm q),fun k hk=> .inl hk⟩,⟨rfl,rfl,rfl,by simp [putRow,mapBlock,Sort.ahead],fun k hk hm=>?_⟩⟩
  have hgk:g≠k:=fun e=>hm (by simp [Value.ownBlock,e]);simp [putRow,mapBlock,Sort.ahead,Array.getElem?_modify,hgk]
end
end Go.Wf
namespace Go.Wf
open Go Go.Proofs
abbrev Bt:=List UInt8
mutual
def Yw:GExpr→List Bt
 | .mk o _ _ s l=>(if o=8 then [s] else [])++K1 l
def K1:List GExpr→List Bt
 | []=>[]
 | a::l=>Yw a++K1 l
end
def insN(s:Bt):List Bt→List Bt
 | []=>[s]
 | x::l=>if x < s then x::insN s l else if x=s then x::l else s::x::l
mutual
def insE:GExpr→List Bt→List Bt
 | .mk o _ _ s l,m=>insL l (if o=8 then insN s m else m)
def insL:List GExpr→List Bt→List Bt
 | [],m=>m
 | a::l,m=>insL l (insE a m)
end
theorem V6(a:GExpr):Yw a=(if a.op=8 then [a.name] else [])++K1 a.args:=by cases a;rw [Yw];rfl
theorem Jao(a:GExpr)(m:List Bt):insE a m=insL a.args (if a.op=8 then insN a.name m else m):=by cases a;rw [insE];rfl
section
variable {a:GExpr} {p l:List Bt} {i:Nat}
theorem Jx7(h:a.op=8):(l++[a.name])++K1 (a.args.drop 0)=l++Yw a:=by rw [V6,if_pos h,List.drop_zero,List.append_assoc]
theorem Jw8(h:¬ a.op=8):l++K1 (a.args.drop 0)=l++Yw a:=by rw [V6,if_neg h,List.drop_zero,List.nil_append]
theorem Jks(hi:i < a.args.length)(hp:p++K1 (a.args.drop i)=l++Yw a):(p++Yw (a.args.getD i default))++K1 (a.args.drop (i+1))=l++Yw a:=by
 rw [← hp,Kc hi,K1,List.append_assoc]
theorem Jqr(hp:p++K1 (a.args.drop i)=l++Yw a)(hi:a.args.length≤i):p=l++Yw a:=by
 rw [← hp,List.drop_of_length_le hi,K1,List.append_nil]
theorem Jjo(h:a.op=8):insL (a.args.drop 0) (insN a.name l)=insE a l:=by rw [Jao,if_pos h,List.drop_zero]
theorem Jym(h:¬ a.op=8):insL (a.args.drop 0) l=insE a l:=by rw [Jao,if_neg h,List.drop_zero]
theorem Jsr(hi:i < a.args.length)(hp:insL (a.args.drop i) p=insE a l):insL (a.args.drop (i+1)) (insE (a.args.getD i default) p)=insE a l:=by
 rw [← hp,Kc hi,insL]
theorem Jwr(hp:insL (a.args.drop i) p=insE a l)(hi:a.args.length≤i):p=insE a l:=by
 rw [← hp,List.drop_of_length_le hi,insL]
end
theorem Vb{l:List GExpr}{i:Nat}(h:i < l.length):cntL (l.drop i)=cntE (l.getD i default)+cntL (l.drop (i+1)):=by
 rw [Kc h,cntL]
theorem xf:∀ l:List GExpr,(∀ i,i < l.length→(Yw (l.getD i default)).length≤cntE (l.getD i default))→(K1 l).length≤cntL l
 | [],_=>Nat.le_refl _
 | a::l,h=>by
  rw [K1,List.length_append,cntL]
  have:=h 0 (by simp)
  have:=xf l fun i hi=>h (i+1) (by simp;omega)
  simp only [List.getD_cons_zero] at *;omega
theorem je:∀ a:GExpr,(Yw a).length≤cntE a:=Jay fun a ih=>by
 rw [V6,List.length_append,Yb]
 have:=xf a.args ih
 split <;> simp <;> omega
theorem Jfx(s:Bt):∀ l:List Bt,(insN s l).length≤l.length+1
 | []=>Nat.le_refl _
 | x::l=>by
  rw [insN]
  have:=Jfx s l
  split
  ·simp;omega
  ·split <;> simp
theorem Jgx:∀ (l:List GExpr) (m:List Bt),(∀ i,i < l.length→∀ m,(insE (l.getD i default) m).length≤m.length+cntE (l.getD i default))→(insL l m).length≤m.length+cntL l
 | [],m,_=>by rw [insL,cntL];omega
 | a::l,m,h=>by
  rw [insL,cntL];have h0:=h 0 (by simp) m
  have:=Jgx l (insE a m) fun i hi=>h (i+1) (by simp;omega)
  simp only [List.getD_cons_zero] at h0;omega
theorem Jj7:∀ (a:GExpr),∀ m,(insE a m).length≤m.length+cntE a:=Jay fun a ih m=>by
 rw [Jao,Yb]
 have:=Jgx a.args (if a.op=8 then insN a.name m else m) ih
 have h2:=Jfx a.name m
 split at this <;> rename_i h <;> simp only [h,if_true,if_false] <;> omega
theorem Jin{s:Bt}:∀ {l:List Bt} {k:Nat},(∀ j,j < k→l.getD j [] < s)→k≤l.length→(k=l.length∨(¬ l.getD k [] < s∧¬ l.getD k []=s))→l.take k++([s]++l.drop k)=insN s l
 | [],k,_,hk,_=>by
  have:k=0:=by simpa using hk
  subst this;rfl
 | x::l,0,_,_,h=>by
  rcases h with h | ⟨h1,h2⟩
  ·simp at h
  ·simp only [List.getD_cons_zero] at h1 h2;rw [insN,if_neg h1,if_neg h2];rfl
 | x::l,k+1,hh,hk,h=>by
  have h0:x < s:=hh 0 (by omega)
  have:=Jin (s:=s) (l:=l) (k:=k) (fun j hj=>hh (j+1) (by omega)) (by simpa using hk) (by simpa using h)
  rw [insN,if_pos h0,← this];rfl
theorem Jf6{s:Bt}:∀ {l:List Bt} {k:Nat},(∀ j,j < k→l.getD j [] < s)→k < l.length→¬ l.getD k [] < s→l.getD k []=s→l=insN s l
 | [],k,_,hk,_,_=>absurd hk (Nat.not_lt_zero _)
 | x::l,0,_,_,h1,h2=>by
  simp only [List.getD_cons_zero] at h1 h2;rw [insN,if_neg h1,if_pos h2]
 | x::l,k+1,hh,hk,h1,h2=>by
  have h0:x < s:=hh 0 (by omega)
  have:=Jf6 (s:=s) (l:=l) (k:=k) (fun j hj=>hh (j+1) (by omega)) (by simpa using hk) (by simpa using h1) (by simpa using h2)
  rw [insN,if_pos h0,← this]
theorem Jma(a:Bt):¬ a < a:=List.lt_irrefl a
theorem Jyv{a b c:Bt}(h:a < b)(k:b < c):a < c:=List.lt_trans h k
theorem J0c{a b:Bt}(h:¬ a < b)(k:¬ a=b):b < a:=by
 rcases Classical.em (b < a) with h2 | h2
 ·exact h2
 ·exact absurd (List.le_antisymm (List.not_lt.1 h2) (List.not_lt.1 h)) k
def Asc(l:List Bt):Prop:=l.Pairwise (· < ·)
theorem Jan{s x:Bt}:∀ {l:List Bt},x ∈ insN s l↔x=s∨x ∈ l
 | []=>by simp [insN]
 | y::l=>by
  rw [insN]
  split
  ·simp only [List.mem_cons,Jan (l:=l)]
   constructor
   ·rintro(h | h | h)
    ·exact .inr (.inl h)
    ·exact .inl h
    ·exact .inr (.inr h)
   ·rintro(h | h | h)
    ·exact .inr (.inl h)
    ·exact .inl h
    ·exact .inr (.inr h)
  ·split
   ·rename_i e
    simp only [List.mem_cons]
    constructor
    ·rintro(h | h)
     ·exact .inl (h.trans e)
     ·exact .inr (.inr h)
    ·rintro(h | h | h)
     ·exact .inl (h.trans e.symm)
     ·exact .inl h
     ·exact .inr h
   ·simp only [List.mem_cons]
theorem Jfv{s:Bt}:∀ {l:List Bt},Asc l→Asc (insN s l)
 | [],_=>by simp [insN,Asc]
 | y::l,h=>by
  unfold Asc at h;obtain⟨h1,h2⟩:=List.pairwise_cons.1 h;rw [insN]
  split
  ·rename_i hlt
   refine List.pairwise_cons.2 ⟨fun x hx=>?_,Jfv h2⟩
   rcases Jan.1 hx with rfl | hx
   ·exact hlt
   ·exact h1 x hx
  ·split
   ·exact h
   ·rename_i hn he
    have hsy:=J0c hn he;refine List.pairwise_cons.2 ⟨fun x hx=>?_,h⟩
    rcases List.mem_cons.1 hx with rfl | hx
    ·exact hsy
    ·exact Jyv hsy (h1 x hx)
theorem Jb7:∀ (l:List GExpr),(∀ i,i < l.length→∀ m,(∀ x,x ∈ insE (l.getD i default) m↔x ∈ Yw (l.getD i default)∨x ∈ m)∧(Asc m→Asc (insE (l.getD i default) m)))→
  ∀ m,(∀ x,x ∈ insL l m↔x ∈ K1 l∨x ∈ m)∧(Asc m→Asc (insL l m))
 | [],_,m=>⟨fun x=>by rw [insL,K1];simp,fun h=>by rw [insL];exact h⟩
 | a::l,h,m=>by
  obtain⟨h1,h2⟩:=h 0 (by simp) m;obtain⟨h3,h4⟩:=Jb7 l (fun i hi=>h (i+1) (by simp;omega)) (insE a m);simp only [List.getD_cons_zero] at h1 h2;refine⟨fun x=>?_,fun hm=>by rw [insL];exact h4 (h2 hm)⟩;rw [insL,h3,K1,List.mem_append,h1]
  constructor
  ·rintro(h | h | h)
   ·exact .inl (.inr h)
   ·exact .inl (.inl h)
   ·exact .inr h
  ·rintro((h | h) | h)
   ·exact .inr (.inl h)
   ·exact .inl h
   ·exact .inr (.inr h)
theorem Jl6:∀ (a:GExpr),∀ m,(∀ x,x ∈ insE a m↔x ∈ Yw a∨x ∈ m)∧(Asc m→Asc (insE a m)):=Jay fun a ih m=>by
 obtain⟨h1,h2⟩:=Jb7 a.args ih (if a.op=8 then insN a.name m else m);rw [Jao];refine⟨fun x=>?_,fun hm=>h2 ?_⟩
 ·rw [h1,V6]
  by_cases h:a.op=8
  ·rw [if_pos h,if_pos h,Jan,List.mem_append,List.mem_singleton]
   constructor
   ·rintro(q | q | q)
    ·exact .inl (.inr q)
    ·exact .inl (.inl q)
    ·exact .inr q
   ·rintro((q | q) | q)
    ·exact .inr (.inl q)
    ·exact .inl q
    ·exact .inr (.inr q)
  ·rw [if_neg h,if_neg h,List.nil_append]
 ·by_cases h:a.op=8
  ·rw [if_pos h];exact Jfv hm
  ·rw [if_neg h];exact hm
theorem Ji3:∀ {l m:List Bt},Asc l→Asc m→(∀ x,x ∈ l↔x ∈ m)→l=m
 | [],[],_,_,_=>rfl
 | [],b::m,_,_,h=>by have:=(h b).2 (by simp);cases this
 | a::l,[],_,_,h=>by have:=(h a).1 (by simp);cases this
 | a::l,b::m,hl,hm,h=>by
  obtain⟨l1,l2⟩:=List.pairwise_cons.1 hl;obtain⟨m1,m2⟩:=List.pairwise_cons.1 hm;have hab:a=b:=by
   rcases List.mem_cons.1 ((h a).1 (by simp)) with e | e
   ·exact e
   ·rcases List.mem_cons.1 ((h b).2 (by simp)) with e2 | e2
    ·exact e2.symm
    ·exact absurd (Jyv (m1 a e) (l1 b e2)) (Jma b)
  subst hab;rw [Ji3 l2 m2 fun x=>?_]
  constructor
  ·intro hx
   rcases List.mem_cons.1 ((h x).1 (List.mem_cons_of_mem _ hx)) with e | e
   ·subst e;exact absurd (l1 x hx) (Jma x)
   ·exact e
  ·intro hx
   rcases List.mem_cons.1 ((h x).2 (List.mem_cons_of_mem _ hx)) with e | e
   ·subst e;exact absurd (m1 x hx) (Jma x)
   ·exact e
theorem Jd0{l:List Bt}(hs:l.Pairwise (· ≤ ·)):Asc (Lib.compact l)∧∀ x,x ∈ Lib.compact l↔x ∈ l:=by
 have hle:∀ i j,i≤j→j < l.length→l.toArray[i]! ≤l.toArray[j]! :=by
  intro i j hij hj;have e1:l.toArray[i]! =l[i]:=by simp [show i < l.length by omega]
  have e2:l.toArray[j]! =l[j]:=by simp [hj]
  rw [e1,e2]
  rcases Nat.eq_or_lt_of_le hij with e | hlt
  ·subst e;exact List.le_refl _
  ·exact List.pairwise_iff_getElem.1 hs i j (by omega) hj hlt
 constructor
 ·unfold Asc Lib.compact Lib.compactUpTo;rw [List.pairwise_map];refine List.Pairwise.imp_of_mem ?_ (List.Pairwise.filter _ (List.pairwise_lt_range (n:=l.length)));intro i j hi hj hij;obtain⟨hj1,hj2⟩:=List.mem_filter.1 hj;have hjl:j < l.length:=by simpa using hj1
  have hk:l.toArray[j]! ≠l.toArray[j - 1]! :=by
   rcases of_decide_eq_true hj2 with h | h
   ·omega
   ·exact h
  have h1:=hle i (j - 1) (by omega) (by omega);have h2:=hle (j - 1) j (by omega) hjl;have h3:l.toArray[j - 1]! < l.toArray[j]! :=by
   rcases Classical.em (l.toArray[j - 1]! < l.toArray[j]!) with h | h
   ·exact h
   ·exact absurd (List.le_antisymm (List.not_lt.1 h) h2) hk
  rcases Classical.em (l.toArray[i]! < l.toArray[j]!) with h | h
  ·exact h
  ·exact absurd h3 (List.not_lt.2 (List.le_trans (List.not_lt.1 h) h1))
 ·intro x;refine⟨zm,fun hx=>?_⟩
  obtain⟨j,hj,rfl⟩:=List.mem_iff_getElem.1 hx;have key:∀ j,j < l.length→l.toArray[j]! ∈ Lib.compact l:=by
   intro j
   induction j with
   | zero=>
    intro hj;exact List.mem_map.2 ⟨0,List.mem_filter.2 ⟨by simpa using hj,by simp [Lib.keeps]⟩,rfl⟩
   | succ j ih=>
    intro hj
    by_cases h:l.toArray[j+1]! =l.toArray[j]!
    ·rw [h];exact ih (by omega)
    ·exact List.mem_map.2 ⟨j+1,List.mem_filter.2 ⟨by simpa using hj,decide_eq_true (.inr h)⟩,rfl⟩
  have e:l.toArray[j]! =l[j]:=by simp [hj]
  rw [← e];exact key j hj
theorem Jce(l:List Bt):(Jbi l).Pairwise (· ≤ ·):=by
 have h:=List.pairwise_mergeSort (le:=fun x y:Bt=>decide (x≤y)) (fun a b c h1 h2=>decide_eq_true (List.le_trans (of_decide_eq_true h1) (of_decide_eq_true h2)))
  (fun a b=>by rcases List.le_total a b with h | h <;> simp [h]) l
 exact h.imp fun h=>of_decide_eq_true h
theorem Jib(a:GExpr):Lib.compact (Jbi ([]++Yw a))=insE a []:=by
 obtain⟨h1,h2⟩:=Jd0 (Jce ([]++Yw a));obtain⟨h3,h4⟩:=Jl6 a [];refine Ji3 h1 (h4 List.Pairwise.nil) fun x=>?_
 rw [h2,Jdh,h3];simp
end Go.Wf
namespace Go.Wf
open Go Go.Proofs Go.RowKit
theorem Jjn(N:Nat):∀ {X:Nat→Prop} {w:World} (hX:XB X w) {v0:Value} {a:GExpr} (r0:RV Jf X w v0 a) {v1:Value} {l:List (List UInt8)} (o1:OW Zm 9 X w v1 l) (m1:∀ k,v1.ownBlock=some k→X k) (hln:l.length+cntE a≤10000) (hN:(SizeOf.sizeOf a) < N),Calls Tryz.prog 58 #[v0,v1] w (RetO w v1.ownBlock fun v w'=>OWr Zm 9 X w v1.ownBlock v w' (l++Yw a)):=by
 induction N with
 | zero=>intro X w hX v0 a r0 v1 l o1 m1 hln hN;exact absurd hN (Nat.not_lt_zero _)
 | succ N ih=>
  intro X w hX v0 a r0 v1 l o1 m1 hln hN;obtain⟨a1,c2,a3,c4,a5,c6,a7,c8,rfl,h9⟩:=J3f r0;obtain⟨va,vc,rfl,_,_⟩:=OW.opn o1;obtain⟨M,C,hOw,hM⟩:=OW.start o1 hX m1;have hal:=r0.args_max;have hce:=Yb a;have hac:=K6 a;refine Cgo (args:=[(ea a a1 c2 a3 c4 a5 c6 a7 c8),(.slice va l.length vc)]) Tryz.func58 rfl rfl rfl (Rg (Ol (J5f C rfl ?_)));intro g10 w11 x12 y13 lt14 C15 s16 o17 u18;replace h9:=h9.sp s16;replace hOw:=hOw.sp s16 C15 u18;refine Oa (Nl (Rh (Ol (St.fieldAddr Zz rfl (Ol (J27 o17 pl3 rfl rfl (Ol (J3h rfl rfl (fun hc19=>?_) (fun hc19=>?_)))))))))
  ·refine Nl (J26 rfl (W.region (Om (Ol (St.fieldAddr Km rfl (Ol (J27 o17 pl9 rfl rfl (Ol (J3t (T:=Zm) (css:=[[(str a.name)]]) (l:=[a.name]) C15 sl50 io9 (by decide) (by decide) rfl (by kernel_rfl) ⟨⟨rfl,h9.name⟩,trivial⟩ ?_)))))))));intro g24 w20 C21 s22 h23;replace hOw:=hOw.sp s22 C21 (fun _ h=>h)
   replace o17:=o17.spn s22;refine Ol (J3o (T:=Zm) C21 sl50 io9 rfl rfl hOw (Xh h23) (by have:maxLen=9223372036854775807:=rfl;simp only [List.length_cons,List.length_nil];omega) (by simp only [List.length_cons,List.length_nil];omega) rfl ?_);intro v27 w28 x29 C30 s31 u32 h33;replace h9:=(h9.sp s22).tr s31.tx;replace o17:=o17.ap s31 o17.mem;obtain⟨a34,c35,rfl,_,_⟩:=h33.len;refine Oa (Nl (Rh (Ol (St.fieldAddr J3 rfl (Ol (J27 o17 pl29 rfl rfl (Ol (St.len sl29 rfl (Om (Nl (W.block (J3j (fun μ f v=>∃ (x y:Nat→Prop) (i:Nat) (p:List (List UInt8)) (pa:Option Addr) (pc:Nat),Cx X ⟨w,M⟩ x y v∧f 4=(.slice none 0 0)∧f 16=(.slice a7 a.args.length c8)∧f 17=(.int .i64 ((a.args.length:Nat):Int))∧f 18=(.int .i64 ((i:Nat):Int))∧f 1=(.slice pa p.length pc)∧ExprParts x v a a1 c2 a3 c4 a5 c6 a7 c8∧OS Zm 9 ⟨w,M⟩ x y v (.slice pa p.length pc) p∧Own ⟨w,M⟩ y v g10 (ec a a1 c2 a3 c4 a5 c6 a7 c8) 31∧i≤a.args.length∧p++K1 (a.args.drop i)=l++Yw a∧p.length+cntL (a.args.drop i)≤l.length+cntE a∧μ=(a.args.length - i)) _ ⟨_,_,0,(l++[a.name]),a34,c35,C30,rfl,rfl,rfl,rfl,rfl,h9,h33,o17,(Nat.zero_le _),(Jx7 hc19),(by rw [List.drop_zero,List.length_append,List.length_singleton];omega),rfl⟩ ?_))))))))))));rintro m48 f36 w37 ⟨x38,y39,i,p,pa,pc,C40,e41,e42,e43,e44,e45,h9,hP,o46,hi,hp,hpl,hmu47⟩;obtain⟨f49,rfl⟩:=rebK (aC e41 (aC e42 (aC e43 (aC e44 (aC e45 aN)))));clear e41 e42 e43 e44 e45;refine Rg (Ol (J3i rfl rfl (fun hc50=>?_) (fun hc50=>?_)))
   ·refine Nl (W.seq (J26 rfl (W.skip (W.seq (W.block (Rg (Ol (J3k (j:=i) (u:=(a.args.getD i default)) h9.args sl29 io31 rfl rfl rfl (Jg (by omega)) ?_))))))));intro b51 o52 cs53 e54;obtain⟨a55,c56,a57,c58,a59,c60,a61,c62,rfl,h63⟩:=Jq e54.rd;refine Ol (J3v (cs:=(ec (a.args.getD i default) a55 c56 a57 c58 a59 c60 a61 c62)) ag31 rfl rfl e54.cell (Ol (J4h C40 io31 rfl ?_)));intro g64 w65 x66 y67 lt68 C69 s70 o71 u72;have n73:=lt68 _ o46.blk.lt;replace h9:=h9.sp s70;refine On (J3a (cs':=(ec (a.args.getD i default) a55 c56 a57 c58 a59 c60 a61 c62)) C69 o71 io31 rfl rfl rfl rfl rfl rfl ?_);intro w74 C75 s76 o77;replace hP:=(hP.sp s70 C69 u72).sp s76 C75 (fun _ h=>h)
    replace h63:=(h63.sp s70).sp s76;replace o46:=(o46.spn s70).spo s76 n73;refine Nl (W.region (Ol (J29 (vs:=(ec (a.args.getD i default) a55 c56 a57 c58 a59 c60 a61 c62)) o77 ag31 rfl rfl rfl (Om (Ol (J4c C75 hP cb58 rfl rfl (ih C75.bd (Jh (a.args.getD i default) h63.lo h63.hi h63.name h63.n h63.num h63.den h63.args) hP.ow (fun k hk=>(hP.mem k hk).1.1) (by have h7:=Vb (l:=a.args) (i:=i) (by omega);omega) (Nat.lt_of_lt_of_le (Kn (by omega)) (Nat.le_of_lt_succ hN))) ?_))))));intro v78 w79 x80 C81 s82 u83 h84;replace h9:=(h9.sp s76).tr s82.tx;replace o46:=o46.ap s82 o46.mem;obtain⟨a85,c86,rfl,_,_⟩:=h84.len;refine Oa (Nl (W.region (Ol (St.add rfl rfl (Jc (a:=i) (b:=1) (by omega)) (Om (Nl (⟨_,(by omega),_,_,(i+1),(p++Yw (a.args.getD i default)),a85,c86,C81,rfl,rfl,rfl,rfl,rfl,h9,h84,o46,(by omega),(Jks (by omega) hp),(by have h7:=Vb (l:=a.args) (i:=i) (by omega);have h8:=je (a.args.getD i default);rw [List.length_append];omega),rfl⟩)))))))
   exact Nl (W.seq (J28 rfl (W.exit (Rg (Om (Oa (Nl (W.ret (J7 rfl (resV.t rfl) (RetO.fin C40 hM hP (Jqr hp (by omega))))))))))))
  refine Nl (J28 rfl (W.skip (Rh (Ol (St.fieldAddr J3 rfl (Ol (J27 o17 pl29 rfl rfl (Ol (St.len sl29 rfl (Om (Nl (W.block (J3j (fun μ f v=>∃ (x y:Nat→Prop) (i:Nat) (p:List (List UInt8)) (pa:Option Addr) (pc:Nat),Cx X ⟨w,M⟩ x y v∧f 4=(.slice none 0 0)∧f 16=(.slice a7 a.args.length c8)∧f 17=(.int .i64 ((a.args.length:Nat):Int))∧f 18=(.int .i64 ((i:Nat):Int))∧f 1=(.slice pa p.length pc)∧ExprParts x v a a1 c2 a3 c4 a5 c6 a7 c8∧OS Zm 9 ⟨w,M⟩ x y v (.slice pa p.length pc) p∧Own ⟨w,M⟩ y v g10 (ec a a1 c2 a3 c4 a5 c6 a7 c8) 31∧i≤a.args.length∧p++K1 (a.args.drop i)=l++Yw a∧p.length+cntL (a.args.drop i)≤l.length+cntE a∧μ=(a.args.length - i)) _ ⟨_,_,0,l,va,vc,C15,rfl,rfl,rfl,rfl,rfl,h9,hOw,o17,(Nat.zero_le _),(Jw8 hc19),(by rw [List.drop_zero];omega),rfl⟩ ?_)))))))))))));rintro m99 f87 w88 ⟨x89,y90,i,p,pa,pc,C91,e92,e93,e94,e95,e96,h9,hP,o97,hi,hp,hpl,hmu98⟩;obtain⟨f100,rfl⟩:=rebK (aC e92 (aC e93 (aC e94 (aC e95 (aC e96 aN)))));clear e92 e93 e94 e95 e96;refine Rg (Ol (J3i rfl rfl (fun hc101=>?_) (fun hc101=>?_)))
  ·refine Nl (W.seq (J26 rfl (W.skip (W.seq (W.block (Rg (Ol (J3k (j:=i) (u:=(a.args.getD i default)) h9.args sl29 io31 rfl rfl rfl (Jg (by omega)) ?_))))))));intro b102 o103 cs104 e105;obtain⟨a106,c107,a108,c109,a110,c111,a112,c113,rfl,h114⟩:=Jq e105.rd;refine Ol (J3v (cs:=(ec (a.args.getD i default) a106 c107 a108 c109 a110 c111 a112 c113)) ag31 rfl rfl e105.cell (Ol (J4h C91 io31 rfl ?_)));intro g115 w116 x117 y118 lt119 C120 s121 o122 u123;have n124:=lt119 _ o97.blk.lt;replace h9:=h9.sp s121;refine On (J3a (cs':=(ec (a.args.getD i default) a106 c107 a108 c109 a110 c111 a112 c113)) C120 o122 io31 rfl rfl rfl rfl rfl rfl ?_);intro w125 C126 s127 o128;replace hP:=(hP.sp s121 C120 u123).sp s127 C126 (fun _ h=>h)
   replace h114:=(h114.sp s121).sp s127;replace o97:=(o97.spn s121).spo s127 n124;refine Nl (W.region (Ol (J29 (vs:=(ec (a.args.getD i default) a106 c107 a108 c109 a110 c111 a112 c113)) o128 ag31 rfl rfl rfl (Om (Ol (J4c C126 hP cb58 rfl rfl (ih C126.bd (Jh (a.args.getD i default) h114.lo h114.hi h114.name h114.n h114.num h114.den h114.args) hP.ow (fun k hk=>(hP.mem k hk).1.1) (by have h7:=Vb (l:=a.args) (i:=i) (by omega);omega) (Nat.lt_of_lt_of_le (Kn (by omega)) (Nat.le_of_lt_succ hN))) ?_))))));intro v129 w130 x131 C132 s133 u134 h135;replace h9:=(h9.sp s127).tr s133.tx;replace o97:=o97.ap s133 o97.mem;obtain⟨a136,c137,rfl,_,_⟩:=h135.len;refine Oa (Nl (W.region (Ol (St.add rfl rfl (Jc (a:=i) (b:=1) (by omega)) (Om (Nl (⟨_,(by omega),_,_,(i+1),(p++Yw (a.args.getD i default)),a136,c137,C132,rfl,rfl,rfl,rfl,rfl,h9,h135,o97,(by omega),(Jks (by omega) hp),(by have h7:=Vb (l:=a.args) (i:=i) (by omega);have h8:=je (a.args.getD i default);rw [List.length_append];omega),rfl⟩)))))))
  exact Nl (W.seq (J28 rfl (W.exit (Rg (Om (Oa (Nl (W.ret (J7 rfl (resV.t rfl) (RetO.fin C91 hM hP (Jqr hp (by omega))))))))))))
theorem Jrz{X:Nat→Prop}{w:World}(hX:XB X w){v0:Value}{a:GExpr}(r0:RV Jf X w v0 a){v1:Value}{l:List (List UInt8)}(o1:OW Zm 9 X w v1 l)(m1:∀ k,v1.ownBlock=some k→X k)(hln:l.length+cntE a≤10000):Calls Tryz.prog 58 #[v0,v1] w (RetO w v1.ownBlock fun v w'=>OWr Zm 9 X w v1.ownBlock v w' (l++Yw a)):=Jjn ((SizeOf.sizeOf a)+1) hX r0 o1 m1 hln (Nat.lt_succ_self _)
end Go.Wf
namespace Go.Wf
open Go Go.Proofs
theorem bl_lt{x y:Bt}(h:Op.bytesLess x y=true):x < y:=by rw [bytesLess_eq] at h;exact of_decide_eq_true h
theorem Jy4{x y:Bt}(h:Op.bytesLess x y=false):¬ x < y:=by rw [bytesLess_eq] at h;exact of_decide_eq_false h
def nmR(a:GExpr):List Bt:=if Zk a=0 then insE a [] else []
theorem Jqi{a:GExpr}(h:Zk a=0):insE a []=nmR a:=by unfold nmR;rw [if_pos h]
theorem Jj6{a:GExpr}(h:¬ Zk a=0):[]=nmR a:=by unfold nmR;rw [if_neg h]
theorem Jth(a:GExpr):(nmR a).length≤cntE a:=by
 unfold nmR
 split
 ·have:=Jj7 a []
  simpa using this
 ·exact Nat.zero_le _
theorem Jgk{a:GExpr}(h:Zk a=0):(cntE a≤60∧lvlE a≤12)∧errE a=0:=by
 unfold Zk at h
 by_cases h1:cntE a≤60∧lvlE a≤12
 ·rw [if_pos h1] at h;exact⟨h1,h⟩
 ·rw [if_neg h1] at h;cases h
def subE(a:GExpr)(nm:Bt)(y:GExpr):GExpr × Int:=
 if Zk a=0 then if Kh nm=true then if Zk y=0 then if Zk (repE nm (lowE y) (lowE a))=0 then(repE nm (lowE y) (lowE a),0) else(Jcj,7) else(Jcj,Zk y) else(Jcj,3) else(Jcj,Zk a)
section
variable {a y:GExpr} {nm:Bt}
theorem sub1(h:¬ Zk a=0):(Jcj,Zk a)=subE a nm y:=by unfold subE;rw [if_neg h]
theorem sub2(h:Zk a=0)(h2:Kh nm=false):(Jcj,(3:Int))=subE a nm y:=by unfold subE;rw [if_pos h,if_neg (by rw [h2];simp)]
theorem sub3(h:Zk a=0)(h2:Kh nm=true)(h3:¬ Zk y=0):(Jcj,Zk y)=subE a nm y:=by unfold subE;rw [if_pos h,if_pos h2,if_neg h3]
theorem sub4(h:Zk a=0)(h2:Kh nm=true)(h3:Zk y=0)(h4:¬ Zk (repE nm (lowE y) (lowE a))=0):(Jcj,(7:Int))=subE a nm y:=by unfold subE;rw [if_pos h,if_pos h2,if_pos h3,if_neg h4]
theorem sub5(h:Zk a=0)(h2:Kh nm=true)(h3:Zk y=0)(h4:Zk (repE nm (lowE y) (lowE a))=0):(repE nm (lowE y) (lowE a),(0:Int))=subE a nm y:=by unfold subE;rw [if_pos h,if_pos h2,if_pos h3,if_pos h4]
theorem Jmo(h:Zk a=0)(h3:Zk y=0)(hs:cntE (repE nm (lowE y) (lowE a))≤60∧lvlE (repE nm (lowE y) (lowE a))≤12):Zk (repE nm (lowE y) (lowE a))=0:=by
 unfold Zk;rw [if_pos hs];exact Jto (Jkz _ (Jgk h3).2) _ (Jkz _ (Jgk h).2)
theorem Jb8(hs:¬ (cntE (repE nm (lowE y) (lowE a))≤60∧lvlE (repE nm (lowE y) (lowE a))≤12)):¬ Zk (repE nm (lowE y) (lowE a))=0:=by
 unfold Zk;rw [if_neg hs];decide
theorem Jui(ha:cntE a≤80)(hy:cntE y≤80):cntE (repE nm (lowE y) (lowE a))≤10000:=by
 have h1:=Js9 nm (lowE y) (lowE a);have h2:=Ja0 a;have h3:=Ja0 y;have h4:cntE (lowE a) * cntE (lowE y)≤80 * 80:=Nat.mul_le_mul (by omega) (by omega);omega
theorem Jws(ha:Zl a=true)(hy:Zl y=true)(sa:smE a)(sy:smE y):okE (repE nm (lowE y) (lowE a)):=Jzi (Jp5 y hy sy) _ (Jp5 a ha sa)
end
end Go.Wf
namespace Go.Wf
open Go Go.Proofs Go.RowKit
theorem Jkx(N:Nat):∀ {X:Nat→Prop} {w:World} (hX:XB X w) {v0:Value} {a:GExpr} (r0:RV Jf X w v0 a) {v1:Value} {l:List (List UInt8)} (o1:OW Zm 9 X w v1 l) (m1:∀ k,v1.ownBlock=some k→X k) (hln:l.length+cntE a≤10000) (hN:(SizeOf.sizeOf a) < N),Calls Tryz.prog 61 #[v0,v1] w (RetO w v1.ownBlock fun v w'=>OWr Zm 9 X w v1.ownBlock v w' (insE a l)):=by
 induction N with
 | zero=>intro X w hX v0 a r0 v1 l o1 m1 hln hN;exact absurd hN (Nat.not_lt_zero _)
 | succ N ih=>
  intro X w hX v0 a r0 v1 l o1 m1 hln hN;obtain⟨a1,c2,a3,c4,a5,c6,a7,c8,rfl,h9⟩:=J3f r0;obtain⟨va,vc,rfl,_,_⟩:=OW.opn o1;obtain⟨M,C,hOw,hM⟩:=OW.start o1 hX m1;have hal:=r0.args_max;have hce:=Yb a;have hac:=K6 a;refine Cgo (args:=[(ea a a1 c2 a3 c4 a5 c6 a7 c8),(.slice va l.length vc)]) Tryz.func61 rfl rfl rfl (Rg (Ol (J5f C rfl ?_)));intro g10 w11 x12 y13 lt14 C15 s16 o17 u18;replace h9:=h9.sp s16;replace hOw:=hOw.sp s16 C15 u18;refine Oa (Nl (W.seq (J4d (fun f v=>∃ (x y:Nat→Prop) (p0:List (List UInt8)) (pa0:Option Addr) (pc0:Nat),Cx X ⟨w,M⟩ x y v∧f 2=(.pointer (some ⟨g10,0,none⟩))∧f 4=(.slice none 0 0)∧f 1=(.slice pa0 p0.length pc0)∧ExprParts x v a a1 c2 a3 c4 a5 c6 a7 c8∧OS Zm 9 ⟨w,M⟩ x y v (.slice pa0 p0.length pc0) p0∧Own ⟨w,M⟩ y v g10 (ec a a1 c2 a3 c4 a5 c6 a7 c8) 31∧insL (a.args.drop 0) p0=insE a l∧p0.length+cntL (a.args.drop 0)≤l.length+cntE a) ?_ ?_)))
  ·refine Rg (Ol (St.fieldAddr Zz rfl (Ol (J27 o17 pl3 rfl rfl (Ol (J3h rfl rfl (fun hc19=>?_) (fun hc19=>?_)))))))
   ·refine Nl (J26 rfl (Rg (Oa (Nl (W.seq (W.block (J3j (fun μ f v=>∃ (x y:Nat→Prop) (k:Nat),Cx X ⟨w,M⟩ x y v∧f 1=(.slice va l.length vc)∧f 2=(.pointer (some ⟨g10,0,none⟩))∧f 4=(.slice none 0 0)∧f 5=(.int .i64 ((k:Nat):Int))∧ExprParts x v a a1 c2 a3 c4 a5 c6 a7 c8∧OS Zm 9 ⟨w,M⟩ x y v (.slice va l.length vc) l∧Own ⟨w,M⟩ y v g10 (ec a a1 c2 a3 c4 a5 c6 a7 c8) 31∧k≤l.length∧(∀ j,j < k→l.getD j [] < a.name)∧μ=(l.length - k)) _ ⟨_,_,0,C15,rfl,rfl,rfl,rfl,h9,hOw,o17,(Nat.zero_le _),(fun _ h=>absurd h (Nat.not_lt_zero _)),rfl⟩ ?_)))))));rintro m31 f20 w21 ⟨x22,y23,k,C24,e25,e26,e27,e28,h9,hOw,o29,hk,hlt,hmu30⟩;obtain⟨f32,rfl⟩:=rebK (aC e25 (aC e26 (aC e27 (aC e28 aN))));clear e25 e26 e27 e28;refine W.seq (W.seq ?_)
    by_cases hkl:k < l.length
    ·refine J35 J5 11 [[],[],[1],[0,2],[3],[4],[4],[4,5,6],[4,7],[4],[4,9]] C24 [fx (.int .i64 ((k:Nat):Int)),fx (.slice va l.length vc),fx (.int .i64 ((l.length:Nat):Int)),fx (.bool true),fx (.bool true),fx (.slice va l.length vc),fx (.int .i64 ((k:Nat):Int)),fx (.pointer (va.map (·.add (k * 1)))),fx (str (l.getD k [])),fx (.pointer (some ⟨g10,6,none⟩)),fx (str a.name)] (by kernel_rfl) ⟨sx,sx,sx,sx,sx,sx,sx,sx,sx,sx,sx,trivial⟩ fun f34 w36 C39 S40 k38=>?_
     replace h9:=h9.sp S40;replace hOw:=hOw.sp S40 C39 (fun _ h=>h)
     replace o29:=o29.spn S40;have k38:Keep [10,11,12,13,14,15,16,17,18,19,20] _ f34:=k38;refine⟨⟨fun _=>?_,fun _=>?_,fun⟨e42,_⟩=>?_,fun⟨e43,e44,_⟩=>?_,fun⟨e45,_⟩=>?_,fun⟨e46,_⟩=>?_,fun⟨e47,_⟩=>?_,fun⟨e48,e49,e50,_⟩=>?_,fun⟨e51,e52,_⟩=>?_,fun⟨e53,_⟩=>?_,fun⟨e54,e55,_⟩=>?_,trivial⟩,fun⟨e56,e57,e58,e59,e60,e61,e62,e63,e64,e65,e66,_⟩=>?_⟩
     ·exact Ja k38 aN fun _=>OpSt.op (St.move (⟨(),⟨C39,Sp.refl⟩,rfl⟩))
     ·exact Ja k38 aN fun _=>OpSt.op (St.move (⟨(),⟨C39,Sp.refl⟩,rfl⟩))
     ·exact Ja k38 (aC e42 aN) fun _=>OpSt.op (St.len sl50 rfl (⟨(),⟨C39,Sp.refl⟩,rfl⟩))
     ·exact Ja k38 (aC e43 (aC e44 aN)) fun _=>OpSt.op (St.lss (t:=true) rfl rfl (decide_eq_true (by omega)) (⟨(),⟨C39,Sp.refl⟩,rfl⟩))
     ·exact Ja k38 (aC e45 aN) fun _=>OpSt.op (St.move (⟨(),⟨C39,Sp.refl⟩,rfl⟩))
     ·exact Ja k38 (aC e46 aN) fun _=>J3p rfl (St.move (⟨(),⟨C39,Sp.refl⟩,rfl⟩))
     ·exact Ja k38 (aC e47 aN) fun _=>J3p rfl (St.move (⟨(),⟨C39,Sp.refl⟩,rfl⟩))
     ·exact Ja k38 (aC e48 (aC e49 (aC e50 aN))) fun _=>J3p rfl (J4x (j:=k) hOw sl50 io9 rfl rfl rfl (by omega) (⟨(),⟨C39,Sp.refl⟩,rfl⟩))
     ·exact Ja k38 (aC e51 (aC e52 aN)) fun _=>J3p rfl (J4p (j:=k) hOw pl9 rfl (by omega) (⟨(),⟨C39,Sp.refl⟩,rfl⟩))
     ·exact Ja k38 (aC e53 aN) fun _=>J3p rfl (St.fieldAddr Km rfl (⟨(),⟨C39,Sp.refl⟩,rfl⟩))
     ·exact Ja k38 (aC e54 (aC e55 aN)) fun _=>J3p rfl (J27 o29 pl9 rfl rfl (⟨(),⟨C39,Sp.refl⟩,rfl⟩))
     obtain⟨f68,rfl⟩:=mixK k38 (aC e56 (aC e57 (aC e58 (aC e59 (aC e60 (aC e61 (aC e62 (aC e63 (aC e64 (aC e65 (aC e66 aN)))))))))));refine Og rfl rfl (J47 rfl rfl rfl (OT (Nl (W.cond rfl (fun hb69=>?_) (fun hb69=>?_)))))
     ·try simp only [Bool.not_eq_true',Bool.not_eq_false',decide_eq_true_eq,decide_eq_false_iff_not] at hb69
      refine W.skip (W.block (W.region (Om (Ol (St.add rfl rfl (Jc (a:=k) (b:=1) (by omega)) (Oa (Nl (⟨_,(by omega),_,_,(k+1),C39,rfl,rfl,rfl,rfl,h9,hOw,o29,(by omega),(Kx hlt (bl_lt hb69)),rfl⟩))))))))
     try simp only [Bool.not_eq_true',Bool.not_eq_false',decide_eq_true_eq,decide_eq_false_iff_not] at hb69
     refine W.exit (W.seq (J35 J5 11 [[],[],[1],[0,2],[3],[4],[4],[4,5,6],[4,7],[4],[4,9]] C39 [fx (.int .i64 ((k:Nat):Int)),fx (.slice va l.length vc),fx (.int .i64 ((l.length:Nat):Int)),fx (.bool false),fx (.bool false),fx (.slice va l.length vc),fx (.int .i64 ((k:Nat):Int)),fx (.pointer (va.map (·.add (k * 1)))),fx (str (l.getD k [])),fx (.pointer (some ⟨g10,6,none⟩)),fx (str a.name)] (by kernel_rfl) ⟨sx,sx,sx,sx,sx,sx,sx,sx,sx,sx,sx,trivial⟩ fun f71 w73 C76 S77 k75=>?_))
     replace h9:=h9.sp S77;replace hOw:=hOw.sp S77 C76 (fun _ h=>h)
     replace o29:=o29.spn S77;have k75:Keep [25,26,27,28,29,30,31,32,33,34,35] _ f71:=k75;refine⟨⟨fun _=>?_,fun _=>?_,fun⟨e79,_⟩=>?_,fun⟨e80,e81,_⟩=>?_,fun⟨e82,_⟩=>?_,fun⟨e83,_⟩=>?_,fun⟨e84,_⟩=>?_,fun⟨e85,e86,e87,_⟩=>?_,fun⟨e88,e89,_⟩=>?_,fun⟨e90,_⟩=>?_,fun⟨e91,e92,_⟩=>?_,trivial⟩,fun⟨e93,e94,e95,e96,e97,e98,e99,e100,e101,e102,e103,_⟩=>?_⟩
     ·exact Ja k75 aN fun _=>OpSt.op (St.move (⟨(),⟨C76,Sp.refl⟩,rfl⟩))
     ·exact Ja k75 aN fun _=>OpSt.op (St.move (⟨(),⟨C76,Sp.refl⟩,rfl⟩))
     ·exact Ja k75 (aC e79 aN) fun _=>OpSt.op (St.len sl50 rfl (⟨(),⟨C76,Sp.refl⟩,rfl⟩))
     ·exact Ja k75 (aC e80 (aC e81 aN)) fun _=>OpSt.op (St.eql (t:=false) rfl rfl (decide_eq_false (by omega)) (⟨(),⟨C76,Sp.refl⟩,rfl⟩))
     ·exact Ja k75 (aC e82 aN) fun _=>OpSt.op (St.move (⟨(),⟨C76,Sp.refl⟩,rfl⟩))
     ·exact Ja k75 (aC e83 aN) fun _=>J3p rfl (St.move (⟨(),⟨C76,Sp.refl⟩,rfl⟩))
     ·exact Ja k75 (aC e84 aN) fun _=>J3p rfl (St.move (⟨(),⟨C76,Sp.refl⟩,rfl⟩))
     ·exact Ja k75 (aC e85 (aC e86 (aC e87 aN))) fun _=>J3p rfl (J4x (j:=k) hOw sl50 io9 rfl rfl rfl (by omega) (⟨(),⟨C76,Sp.refl⟩,rfl⟩))
     ·exact Ja k75 (aC e88 (aC e89 aN)) fun _=>J3p rfl (J4p (j:=k) hOw pl9 rfl (by omega) (⟨(),⟨C76,Sp.refl⟩,rfl⟩))
     ·exact Ja k75 (aC e90 aN) fun _=>J3p rfl (St.fieldAddr Km rfl (⟨(),⟨C76,Sp.refl⟩,rfl⟩))
     ·exact Ja k75 (aC e91 (aC e92 aN)) fun _=>J3p rfl (J27 o29 pl9 rfl rfl (⟨(),⟨C76,Sp.refl⟩,rfl⟩))
     obtain⟨f105,rfl⟩:=mixK k75 (aC e93 (aC e94 (aC e95 (aC e96 (aC e97 (aC e98 (aC e99 (aC e100 (aC e101 (aC e102 (aC e103 aN)))))))))));refine Og rfl rfl (J4f rfl rfl (fun hc106=>?_) (fun hc106=>?_))
     ·refine OF (Nl (J26 rfl (J35 J5 10 [[],[],[0,1],[],[3],[4],[],[],[6,7],[5,8]] C76 [fx (.slice va l.length vc),fx (.int .i64 ((k:Nat):Int)),fx (.slice va k vc),fx (.pointer (some ⟨g10,6,none⟩)),fx (str a.name),fun(s:Unit) (v:Value) (w':World)=>∃ g':Nat,v= .slice (some ⟨g',0,none⟩) 1 1∧RS Zm x22 w' v [a.name],fx (.slice va l.length vc),fx (.int .i64 ((k:Nat):Int)),fx (.slice (if vc=k then va else va.map (·.add (k * 1))) (l.length - k) (vc - k)),us x22 Zm ([a.name]++(l.drop k))] (by kernel_rfl) ⟨sx,sx,sx,sx,sx,(fun _ _ _ _ _ ⟨g,e,h⟩ r=>⟨g,e,h.tr r.2.tx⟩),sx,sx,sx,ts,trivial⟩ fun f122 w124 C127 S128 k126=>?_)))
      replace h9:=h9.sp S128;replace hOw:=hOw.sp S128 C127 (fun _ h=>h)
      replace o29:=o29.spn S128;have k126:Keep [38,39,40,41,42,43,44,45,46,47] _ f122:=k126;refine⟨⟨fun _=>?_,fun _=>?_,fun⟨e130,e131,_⟩=>?_,fun _=>?_,fun⟨e132,_⟩=>?_,fun⟨e133,_⟩=>?_,fun _=>?_,fun _=>?_,fun⟨e134,e135,_⟩=>?_,fun⟨d136,e137,_⟩=>?_,trivial⟩,fun⟨e138,e139,e140,e141,e142,d143,e144,e145,e146,d147,_⟩=>?_⟩
      ·exact Ja k126 aN fun _=>OpSt.op (St.move (⟨(),⟨C127,Sp.refl⟩,rfl⟩))
      ·exact Ja k126 aN fun _=>OpSt.op (St.move (⟨(),⟨C127,Sp.refl⟩,rfl⟩))
      ·exact Ja k126 (aC e130 (aC e131 aN)) fun _=>OpSt.op (J5e (T:=Zm) (j:=k) hOw sl50 io9 rfl rfl rfl (by omega) (⟨(),⟨C127,Sp.refl⟩,rfl⟩))
      ·exact Ja k126 aN fun _=>OpSt.op (St.fieldAddr Km rfl (⟨(),⟨C127,Sp.refl⟩,rfl⟩))
      ·exact Ja k126 (aC e132 aN) fun _=>OpSt.op (J27 o29 pl9 rfl rfl (⟨(),⟨C127,Sp.refl⟩,rfl⟩))
      ·refine Ja k126 (aC e133 aN) fun _=>OpSt.op (J3t (T:=Zm) (css:=[[(str a.name)]]) (l:=[a.name]) C127 sl50 io9 (by decide) (by decide) rfl (by kernel_rfl) ⟨⟨rfl,h9.name⟩,trivial⟩ ?_);intro g153 w149 C150 s151 h152;exact⟨(),⟨C150,s151⟩,⟨_,rfl,h152⟩⟩
      ·exact Ja k126 aN fun _=>OpSt.op (St.move (⟨(),⟨C127,Sp.refl⟩,rfl⟩))
      ·exact Ja k126 aN fun _=>OpSt.op (St.move (⟨(),⟨C127,Sp.refl⟩,rfl⟩))
      ·exact Ja k126 (aC e134 (aC e135 aN)) fun _=>OpSt.op (J5a (T:=Zm) (i:=k) hOw sl50 io9 rfl rfl rfl (by omega) (⟨(),⟨C127,Sp.refl⟩,rfl⟩))
      ·obtain⟨g157,e156,h158⟩:=d136;rw [e156] at h158;refine Ja k126 (aC e156 (aC e137 aN)) fun _=>OpSt.op (J4i (T:=Zm) C127 sl50 io9 rfl rfl h158 (Jrc hOw (by omega)) (by have:maxLen=9223372036854775807:=rfl;simp only [List.length_append,List.length_take,List.length_drop,List.length_cons,List.length_nil];omega) (by simp only [List.length_append,List.length_take,List.length_drop,List.length_cons,List.length_nil];omega) rfl ?_);intro v159 w160 C161 s162 h163;exact⟨(),⟨C161,s162⟩,h163⟩
      obtain⟨g165,e164,h166⟩:=d143;rw [e164] at h166;obtain⟨a168,c169,e167,d147⟩:=RS.opn d147;obtain⟨f170,rfl⟩:=mixK k126 (aC e138 (aC e139 (aC e140 (aC e141 (aC e142 (aC e164 (aC e144 (aC e145 (aC e146 (aC e167 aN))))))))));refine Ol (J3o (T:=Zm) (v:=(.slice va k vc)) (u:=(.slice a168 ([a.name]++(l.drop k)).length c169)) C127 sl50 io9 rfl rfl (hOw.take (j:=k) (by omega)) (Xh d147) (by have:maxLen=9223372036854775807:=rfl;simp only [List.length_append,List.length_take,List.length_drop,List.length_cons,List.length_nil];omega) (by simp only [List.length_append,List.length_take,List.length_drop,List.length_cons,List.length_nil];omega) rfl ?_);intro v171 w172 x173 C174 s175 u176 h177;replace h9:=h9.tr s175.tx;replace o29:=o29.ap s175 o29.mem;obtain⟨a178,c179,rfl,_,_⟩:=h177.len;refine Oa (Nl (⟨_,_,((l.take k)++([a.name]++(l.drop k))),a178,c179,C174,rfl,rfl,rfl,h9,h177,o29,(Eq.trans (congrArg (insL (a.args.drop 0)) (Jin hlt (by omega) (.inr ⟨Jy4 hb69,hc106⟩))) (Jjo hc19)),(by rw [List.drop_zero];simp only [List.length_append,List.length_take,List.length_drop,List.length_cons,List.length_nil];omega)⟩))
     refine OF (Nl (J28 rfl (W.skip (⟨_,_,l,va,vc,C76,rfl,rfl,rfl,h9,hOw,o29,(Eq.trans (congrArg (insL (a.args.drop 0)) (Jf6 hlt hkl (Jy4 hb69) hc106)) (Jjo hc19)),(by rw [List.drop_zero];omega)⟩))))
    refine J35 J5 11 [[],[],[1],[0,2],[3],[4],[4],[4,5,6],[4,7],[4],[4,9]] C24 [fx (.int .i64 ((k:Nat):Int)),fx (.slice va l.length vc),fx (.int .i64 ((l.length:Nat):Int)),fx (.bool false),fx (.bool false),noG,noG,noG,noG,noG,noG] (by kernel_rfl) ⟨sx,sx,sx,sx,sx,(fun _ _ _ _ _ h _=>h),(fun _ _ _ _ _ h _=>h),(fun _ _ _ _ _ h _=>h),(fun _ _ _ _ _ h _=>h),(fun _ _ _ _ _ h _=>h),(fun _ _ _ _ _ h _=>h),trivial⟩ fun f181 w183 C186 S187 k185=>?_
    replace h9:=h9.sp S187;replace hOw:=hOw.sp S187 C186 (fun _ h=>h)
    replace o29:=o29.spn S187;have k185:Keep [10,11,12,13,14,15,16,17,18,19,20] _ f181:=k185;refine⟨⟨fun _=>?_,fun _=>?_,fun⟨e189,_⟩=>?_,fun⟨e190,e191,_⟩=>?_,fun⟨e192,_⟩=>?_,fun⟨e193,_⟩=>?_,fun⟨e194,_⟩=>?_,fun⟨e195,d196,d197,_⟩=>?_,fun⟨e198,d199,_⟩=>?_,fun⟨e200,_⟩=>?_,fun⟨e201,d202,_⟩=>?_,trivial⟩,fun⟨e203,e204,e205,e206,e207,d208,d209,d210,d211,d212,d213,_⟩=>?_⟩
    ·exact Ja k185 aN fun _=>OpSt.op (St.move (⟨(),⟨C186,Sp.refl⟩,rfl⟩))
    ·exact Ja k185 aN fun _=>OpSt.op (St.move (⟨(),⟨C186,Sp.refl⟩,rfl⟩))
    ·exact Ja k185 (aC e189 aN) fun _=>OpSt.op (St.len sl50 rfl (⟨(),⟨C186,Sp.refl⟩,rfl⟩))
    ·exact Ja k185 (aC e190 (aC e191 aN)) fun _=>OpSt.op (St.lss (t:=false) rfl rfl (decide_eq_false (by omega)) (⟨(),⟨C186,Sp.refl⟩,rfl⟩))
    ·exact Ja k185 (aC e192 aN) fun _=>OpSt.op (St.move (⟨(),⟨C186,Sp.refl⟩,rfl⟩))
    ·exact Ja k185 (aC e193 aN) fun _=>OpSt.opn rfl rfl ⟨(),⟨C186,Sp.refl⟩,trivial⟩
    ·exact Ja k185 (aC e194 aN) fun _=>OpSt.opn rfl rfl ⟨(),⟨C186,Sp.refl⟩,trivial⟩
    ·exact Ja k185 (aC e195 aN) fun _=>OpSt.opn rfl rfl ⟨(),⟨C186,Sp.refl⟩,trivial⟩
    ·exact Ja k185 (aC e198 aN) fun _=>OpSt.opn rfl rfl ⟨(),⟨C186,Sp.refl⟩,trivial⟩
    ·exact Ja k185 (aC e200 aN) fun _=>OpSt.opn rfl rfl ⟨(),⟨C186,Sp.refl⟩,trivial⟩
    ·exact Ja k185 (aC e201 aN) fun _=>OpSt.opn rfl rfl ⟨(),⟨C186,Sp.refl⟩,trivial⟩
    obtain⟨f215,rfl⟩:=mixK k185 (aC e203 (aC e204 (aC e205 (aC e206 (aC e207 aN)))));refine Oz (OF (Nl (J28 rfl (W.exit (W.seq (J35 J5 11 [[],[],[1],[0,2],[3],[4],[4],[4,5,6],[4,7],[4],[4,9]] C186 [fx (.int .i64 ((k:Nat):Int)),fx (.slice va l.length vc),fx (.int .i64 ((l.length:Nat):Int)),fx (.bool true),fx (.bool true),noG,noG,noG,noG,noG,noG] (by kernel_rfl) ⟨sx,sx,sx,sx,sx,(fun _ _ _ _ _ h _=>h),(fun _ _ _ _ _ h _=>h),(fun _ _ _ _ _ h _=>h),(fun _ _ _ _ _ h _=>h),(fun _ _ _ _ _ h _=>h),(fun _ _ _ _ _ h _=>h),trivial⟩ fun f217 w219 C222 S223 k221=>?_))))))
    have k221:Keep [25,26,27,28,29,30,31,32,33,34,35] _ f217:=k221;refine⟨⟨fun _=>?_,fun _=>?_,fun⟨e225,_⟩=>?_,fun⟨e226,e227,_⟩=>?_,fun⟨e228,_⟩=>?_,fun⟨e229,_⟩=>?_,fun⟨e230,_⟩=>?_,fun⟨e231,d232,d233,_⟩=>?_,fun⟨e234,d235,_⟩=>?_,fun⟨e236,_⟩=>?_,fun⟨e237,d238,_⟩=>?_,trivial⟩,fun⟨e239,e240,e241,e242,e243,d244,d245,d246,d247,d248,d249,_⟩=>?_⟩
    ·exact Ja k221 aN fun _=>OpSt.op (St.move (⟨(),⟨C222,Sp.refl⟩,rfl⟩))
    ·exact Ja k221 aN fun _=>OpSt.op (St.move (⟨(),⟨C222,Sp.refl⟩,rfl⟩))
    ·exact Ja k221 (aC e225 aN) fun _=>OpSt.op (St.len sl50 rfl (⟨(),⟨C222,Sp.refl⟩,rfl⟩))
    ·exact Ja k221 (aC e226 (aC e227 aN)) fun _=>OpSt.op (St.eql (t:=true) rfl rfl (decide_eq_true (by omega)) (⟨(),⟨C222,Sp.refl⟩,rfl⟩))
    ·exact Ja k221 (aC e228 aN) fun _=>OpSt.op (St.move (⟨(),⟨C222,Sp.refl⟩,rfl⟩))
    ·exact Ja k221 (aC e229 aN) fun _=>OpSt.opn rfl rfl ⟨(),⟨C222,Sp.refl⟩,trivial⟩
    ·exact Ja k221 (aC e230 aN) fun _=>OpSt.opn rfl rfl ⟨(),⟨C222,Sp.refl⟩,trivial⟩
    ·exact Ja k221 (aC e231 aN) fun _=>OpSt.opn rfl rfl ⟨(),⟨C222,Sp.refl⟩,trivial⟩
    ·exact Ja k221 (aC e234 aN) fun _=>OpSt.opn rfl rfl ⟨(),⟨C222,Sp.refl⟩,trivial⟩
    ·exact Ja k221 (aC e236 aN) fun _=>OpSt.opn rfl rfl ⟨(),⟨C222,Sp.refl⟩,trivial⟩
    ·exact Ja k221 (aC e237 aN) fun _=>OpSt.opn rfl rfl ⟨(),⟨C222,Sp.refl⟩,trivial⟩
    obtain⟨f251,rfl⟩:=mixK k221 (aC e239 (aC e240 (aC e241 (aC e242 (aC e243 aN)))));refine Oz (OT (Nl (J26 rfl (J35 J5 10 [[],[],[0,1],[],[3],[4],[],[],[6,7],[5,8]] C222 [fx (.slice va l.length vc),fx (.int .i64 ((k:Nat):Int)),fx (.slice va k vc),fx (.pointer (some ⟨g10,6,none⟩)),fx (str a.name),fun(s:Unit) (v:Value) (w':World)=>∃ g':Nat,v= .slice (some ⟨g',0,none⟩) 1 1∧RS Zm x22 w' v [a.name],fx (.slice va l.length vc),fx (.int .i64 ((k:Nat):Int)),fx (.slice (if vc=k then va else va.map (·.add (k * 1))) (l.length - k) (vc - k)),us x22 Zm ([a.name]++(l.drop k))] (by kernel_rfl) ⟨sx,sx,sx,sx,sx,(fun _ _ _ _ _ ⟨g,e,h⟩ r=>⟨g,e,h.tr r.2.tx⟩),sx,sx,sx,ts,trivial⟩ fun f267 w269 C272 S273 k271=>?_))))
    replace h9:=(h9.sp S223).sp S273;replace hOw:=(hOw.sp S223 C222 (fun _ h=>h)).sp S273 C272 (fun _ h=>h)
    replace o29:=(o29.spn S223).spn S273;have k271:Keep [38,39,40,41,42,43,44,45,46,47] _ f267:=k271;refine⟨⟨fun _=>?_,fun _=>?_,fun⟨e275,e276,_⟩=>?_,fun _=>?_,fun⟨e277,_⟩=>?_,fun⟨e278,_⟩=>?_,fun _=>?_,fun _=>?_,fun⟨e279,e280,_⟩=>?_,fun⟨d281,e282,_⟩=>?_,trivial⟩,fun⟨e283,e284,e285,e286,e287,d288,e289,e290,e291,d292,_⟩=>?_⟩
    ·exact Ja k271 aN fun _=>OpSt.op (St.move (⟨(),⟨C272,Sp.refl⟩,rfl⟩))
    ·exact Ja k271 aN fun _=>OpSt.op (St.move (⟨(),⟨C272,Sp.refl⟩,rfl⟩))
    ·exact Ja k271 (aC e275 (aC e276 aN)) fun _=>OpSt.op (J5e (T:=Zm) (j:=k) hOw sl50 io9 rfl rfl rfl (by omega) (⟨(),⟨C272,Sp.refl⟩,rfl⟩))
    ·exact Ja k271 aN fun _=>OpSt.op (St.fieldAddr Km rfl (⟨(),⟨C272,Sp.refl⟩,rfl⟩))
    ·exact Ja k271 (aC e277 aN) fun _=>OpSt.op (J27 o29 pl9 rfl rfl (⟨(),⟨C272,Sp.refl⟩,rfl⟩))
    ·refine Ja k271 (aC e278 aN) fun _=>OpSt.op (J3t (T:=Zm) (css:=[[(str a.name)]]) (l:=[a.name]) C272 sl50 io9 (by decide) (by decide) rfl (by kernel_rfl) ⟨⟨rfl,h9.name⟩,trivial⟩ ?_);intro g298 w294 C295 s296 h297;exact⟨(),⟨C295,s296⟩,⟨_,rfl,h297⟩⟩
    ·exact Ja k271 aN fun _=>OpSt.op (St.move (⟨(),⟨C272,Sp.refl⟩,rfl⟩))
    ·exact Ja k271 aN fun _=>OpSt.op (St.move (⟨(),⟨C272,Sp.refl⟩,rfl⟩))
    ·exact Ja k271 (aC e279 (aC e280 aN)) fun _=>OpSt.op (J5a (T:=Zm) (i:=k) hOw sl50 io9 rfl rfl rfl (by omega) (⟨(),⟨C272,Sp.refl⟩,rfl⟩))
    ·obtain⟨g302,e301,h303⟩:=d281;rw [e301] at h303;refine Ja k271 (aC e301 (aC e282 aN)) fun _=>OpSt.op (J4i (T:=Zm) C272 sl50 io9 rfl rfl h303 (Jrc hOw (by omega)) (by have:maxLen=9223372036854775807:=rfl;simp only [List.length_append,List.length_take,List.length_drop,List.length_cons,List.length_nil];omega) (by simp only [List.length_append,List.length_take,List.length_drop,List.length_cons,List.length_nil];omega) rfl ?_);intro v304 w305 C306 s307 h308;exact⟨(),⟨C306,s307⟩,h308⟩
    obtain⟨g310,e309,h311⟩:=d288;rw [e309] at h311;obtain⟨a313,c314,e312,d292⟩:=RS.opn d292;obtain⟨f315,rfl⟩:=mixK k271 (aC e283 (aC e284 (aC e285 (aC e286 (aC e287 (aC e309 (aC e289 (aC e290 (aC e291 (aC e312 aN))))))))));refine Ol (J3o (T:=Zm) (v:=(.slice va k vc)) (u:=(.slice a313 ([a.name]++(l.drop k)).length c314)) C272 sl50 io9 rfl rfl (hOw.take (j:=k) (by omega)) (Xh d292) (by have:maxLen=9223372036854775807:=rfl;simp only [List.length_append,List.length_take,List.length_drop,List.length_cons,List.length_nil];omega) (by simp only [List.length_append,List.length_take,List.length_drop,List.length_cons,List.length_nil];omega) rfl ?_);intro v316 w317 x318 C319 s320 u321 h322;replace h9:=h9.tr s320.tx;replace o29:=o29.ap s320 o29.mem;obtain⟨a323,c324,rfl,_,_⟩:=h322.len;refine Oa (Nl (⟨_,_,((l.take k)++([a.name]++(l.drop k))),a323,c324,C319,rfl,rfl,rfl,h9,h322,o29,(Eq.trans (congrArg (insL (a.args.drop 0)) (Jin hlt (by omega) (.inl (by omega)))) (Jjo hc19)),(by rw [List.drop_zero];simp only [List.length_append,List.length_take,List.length_drop,List.length_cons,List.length_nil];omega)⟩))
   refine Nl (J28 rfl (W.skip (⟨_,_,l,va,vc,C15,rfl,rfl,rfl,h9,hOw,o17,(Jym hc19),(by rw [List.drop_zero];omega)⟩)))
  rintro f325 w326 ⟨x327,y328,p0,pa0,pc0,C329,e330,e331,e332,h9,hP0,o333,hp0,hpl0⟩;obtain⟨f334,rfl⟩:=rebK (aC e330 (aC e331 (aC e332 aN)));clear e330 e331 e332;refine Rh (Oa (Nl (W.block (J3j (fun μ f v=>∃ (x y:Nat→Prop) (i:Nat) (p:List (List UInt8)) (pa:Option Addr) (pc:Nat),Cx X ⟨w,M⟩ x y v∧f 2=(.pointer (some ⟨g10,0,none⟩))∧f 4=(.slice none 0 0)∧f 6=(.int .i64 ((i:Nat):Int))∧f 1=(.slice pa p.length pc)∧ExprParts x v a a1 c2 a3 c4 a5 c6 a7 c8∧OS Zm 9 ⟨w,M⟩ x y v (.slice pa p.length pc) p∧Own ⟨w,M⟩ y v g10 (ec a a1 c2 a3 c4 a5 c6 a7 c8) 31∧i≤a.args.length∧insL (a.args.drop i) p=insE a l∧p.length+cntL (a.args.drop i)≤l.length+cntE a∧μ=(a.args.length - i)) _ ⟨_,_,0,p0,pa0,pc0,C329,rfl,rfl,rfl,rfl,h9,hP0,o333,(Nat.zero_le _),hp0,hpl0,rfl⟩ ?_))));rintro m346 f335 w336 ⟨x337,y338,i,p,pa,pc,C339,e340,e341,e342,e343,h9,hP,o344,hi,hp,hpl,hmu345⟩;obtain⟨f347,rfl⟩:=rebK (aC e340 (aC e341 (aC e342 (aC e343 aN))));clear e340 e341 e342 e343;refine Rh (Om (Ol (St.fieldAddr J3 rfl (Ol (J27 o344 pl29 rfl rfl (Ol (St.len sl29 rfl (Ol (J3i rfl rfl (fun hc348=>?_) (fun hc348=>?_))))))))))
  ·refine Nl (J26 rfl (W.skip (W.seq (W.block (W.region (Ol (St.fieldAddr J3 rfl (Ol (J27 o344 pl29 rfl rfl (Om (Ol (J3k (j:=i) (u:=(a.args.getD i default)) h9.args sl29 io31 rfl rfl rfl (Jg (by omega)) ?_))))))))))));intro b349 o350 cs351 e352;obtain⟨a353,c354,a355,c356,a357,c358,a359,c360,rfl,h361⟩:=Jq e352.rd;refine Ol (J3v (cs:=(ec (a.args.getD i default) a353 c354 a355 c356 a357 c358 a359 c360)) ag31 rfl rfl e352.cell (Om (Ol (J4c C339 hP cb61 rfl rfl (ih C339.bd (Jh (a.args.getD i default) h361.lo h361.hi h361.name h361.n h361.num h361.den h361.args) hP.ow (fun k hk=>(hP.mem k hk).1.1) (by have h7:=Vb (l:=a.args) (i:=i) (by omega);omega) (Nat.lt_of_lt_of_le (Kn (by omega)) (Nat.le_of_lt_succ hN))) ?_))));intro v362 w363 x364 C365 s366 u367 h368;replace h9:=h9.tr s366.tx;replace o344:=o344.ap s366 o344.mem;obtain⟨a369,c370,rfl,_,_⟩:=h368.len;refine Oa (Nl (W.region (Om (Ol (St.add rfl rfl (Jc (a:=i) (b:=1) (by omega)) (Oa (Nl (⟨_,(by omega),_,_,(i+1),(insE (a.args.getD i default) p),a369,c370,C365,rfl,rfl,rfl,rfl,h9,h368,o344,(by omega),(Jsr (by omega) hp),(by have h7:=Vb (l:=a.args) (i:=i) (by omega);have h8:=Jj7 (a.args.getD i default) p;omega),rfl⟩))))))))
  exact Nl (J28 rfl (W.exit (Rg (Om (Oa (Nl (W.ret (J7 rfl (resV.t rfl) (RetO.fin C339 hM hP (Jwr hp (by omega)))))))))))
theorem Jvf{X:Nat→Prop}{w:World}(hX:XB X w){v0:Value}{a:GExpr}(r0:RV Jf X w v0 a){v1:Value}{l:List (List UInt8)}(o1:OW Zm 9 X w v1 l)(m1:∀ k,v1.ownBlock=some k→X k)(hln:l.length+cntE a≤10000):Calls Tryz.prog 61 #[v0,v1] w (RetO w v1.ownBlock fun v w'=>OWr Zm 9 X w v1.ownBlock v w' (insE a l)):=Jkx ((SizeOf.sizeOf a)+1) hX r0 o1 m1 hln (Nat.lt_succ_self _)
theorem Jv4{X:Nat→Prop}{w:World}(hX:XB X w){v0:Value}{a:GExpr}(r0:RV Jf X w v0 a)(hok:okE a)(hcn:cntE a≤10000):Calls Tryz.prog 25 #[v0] w (Ret w fun v w'=>∃ v0 v1,v= .tuple #[v0,v1]∧(RS Zm X w' v0 (nmR a))∧(v1=(.int .i64 (Zk a)))):=by
 obtain⟨a1,c2,a3,c4,a5,c6,a7,c8,rfl,h9⟩:=J3f r0;have C:=Cx.start hX;refine Cgo (args:=[(ea a a1 c2 a3 c4 a5 c6 a7 c8)]) Tryz.func25 rfl rfl rfl (Rg (Ol (J3g C rfl ?_)));intro g10 w11 x12 y13 lt14 C15 s16 o17;replace h9:=h9.sp s16;refine Oa (Oa (Nl (Rh (Ol (J29 (vs:=(ec a a1 c2 a3 c4 a5 c6 a7 c8)) o17 ag31 rfl rfl rfl (Ol (J25 C15 cb20 rfl rfl (Jeu C15.bd (Jh a h9.lo h9.hi h9.name h9.n h9.num h9.den h9.args) hok) ?_)))))));intro v18 w19 C20 s21 h22;replace h9:=h9.sp s21;replace o17:=o17.spn s21;subst h22;refine Oa (Nl (Rg (Om (Ol (J3q rfl rfl (fun hc23=>?_) (fun hc23=>?_))))))
 ·refine Nl (J26 rfl (Rg (Om (Oa (Oa (Nl (W.ret (Zh rfl (resV.t rfl) (resV.t rfl) (Ret.intro ?_ C20.below)))))))));refine⟨_,_,rfl,?_,?_⟩
  ·skip
   exact J3s ((RS.nil:RS _ _ _ _ _).tr (Tr.weak C20.base)) (Jj6 hc23)
  ·skip
   rfl
 refine Nl (J28 rfl (W.skip (Rg (Ol (J29 (vs:=(ec a a1 c2 a3 c4 a5 c6 a7 c8)) o17 ag31 rfl rfl rfl (Ol (J4c C20 (OS.nil:OS Zm 9 w x12 y13 w19 (.slice none 0 0) []) cb58 rfl rfl (Jrz C20.bd (Jh a h9.lo h9.hi h9.name h9.n h9.num h9.den h9.args) (OS.nil:OS Zm 9 w x12 y13 w19 (.slice none 0 0) []).ow (fun k hk=>((OS.nil:OS Zm 9 w x12 y13 w19 (.slice none 0 0) []).mem k hk).1.1) (by simp only [List.length_nil];omega)) ?_)))))));intro v24 w25 x26 C27 s28 u29 h30;obtain⟨a31,c32,rfl,_,_⟩:=h30.len;refine Oa (Nl (Rg (Om (Ol (J46 C27 h30 cb59 rfl rfl (Jtw C27.bd h30.ow (fun k hk=>(h30.mem k hk).1.1) (by rw [List.nil_append];exact Nat.le_trans (je a) hcn)) ?_)))));intro v33 w34 x35 C36 s37 u38 h39;refine Nl (Rg (Om (Ol (J4c C36 h39 cb60 rfl rfl (Jss C36.bd h39.ow (fun k hk=>(h39.mem k hk).1.1) (by rw [qw,List.nil_append];exact Nat.le_trans (je a) hcn)) ?_))));intro v42 w43 x44 C45 s46 u47 h48;obtain⟨a49,c50,rfl,_,_⟩:=h48.len;refine Oa (Oa (Nl (W.ret (Zh rfl (resV.t rfl) (resV.t rfl) (Ret.intro ?_ C45.below)))));refine⟨_,_,rfl,?_,?_⟩
 ·skip
  exact J3s (h48.toRS C45 hX) ((Jib a).trans (Jqi hc23))
 ·skip
  exact congrArg (Value.int _) (hc23.symm)
theorem Js5{X:Nat→Prop}{w:World}(hX:XB X w){v0:Value}{a:GExpr}(r0:RV Jf X w v0 a)(hok:okE a)(hcn:cntE a≤10000):Calls Tryz.prog 26 #[v0] w (Ret w fun v w'=>∃ v0 v1,v= .tuple #[v0,v1]∧(RS Zm X w' v0 (nmR a))∧(v1=(.int .i64 (Zk a)))):=by
 obtain⟨a1,c2,a3,c4,a5,c6,a7,c8,rfl,h9⟩:=J3f r0;have C:=Cx.start hX;refine Cgo (args:=[(ea a a1 c2 a3 c4 a5 c6 a7 c8)]) Tryz.func26 rfl rfl rfl (Rg (Ol (J3g C rfl ?_)));intro g10 w11 x12 y13 lt14 C15 s16 o17;replace h9:=h9.sp s16;refine Oa (Oa (Nl (Rh (Ol (J29 (vs:=(ec a a1 c2 a3 c4 a5 c6 a7 c8)) o17 ag31 rfl rfl rfl (Ol (J25 C15 cb21 rfl rfl (Ja9 C15.bd (Jh a h9.lo h9.hi h9.name h9.n h9.num h9.den h9.args) hcn hok) ?_)))))));intro v18 w19 C20 s21 h22;replace h9:=h9.sp s21;replace o17:=o17.spn s21;subst h22;refine Oa (Nl (Rg (Om (Ol (J3q rfl rfl (fun hc23=>?_) (fun hc23=>?_))))))
 ·refine Nl (J26 rfl (Rg (Om (Oa (Oa (Nl (W.ret (Zh rfl (resV.t rfl) (resV.t rfl) (Ret.intro ?_ C20.below)))))))));refine⟨_,_,rfl,?_,?_⟩
  ·skip
   exact J3s ((RS.nil:RS _ _ _ _ _).tr (Tr.weak C20.base)) (Jj6 hc23)
  ·skip
   rfl
 refine Nl (J28 rfl (W.skip (Rg (Ol (J29 (vs:=(ec a a1 c2 a3 c4 a5 c6 a7 c8)) o17 ag31 rfl rfl rfl (Ol (J4c C20 (OS.nil:OS Zm 9 w x12 y13 w19 (.slice none 0 0) []) cb61 rfl rfl (Jvf C20.bd (Jh a h9.lo h9.hi h9.name h9.n h9.num h9.den h9.args) (OS.nil:OS Zm 9 w x12 y13 w19 (.slice none 0 0) []).ow (fun k hk=>((OS.nil:OS Zm 9 w x12 y13 w19 (.slice none 0 0) []).mem k hk).1.1) (by simp only [List.length_nil];omega)) ?_)))))));intro v24 w25 x26 C27 s28 u29 h30;obtain⟨a31,c32,rfl,_,_⟩:=h30.len;refine Oa (Oa (Nl (W.ret (Zh rfl (resV.t rfl) (resV.t rfl) (Ret.intro ?_ C27.below)))));refine⟨_,_,rfl,?_,?_⟩
 ·skip
  exact J3s (h30.toRS C27 hX) (Jqi hc23)
 ·skip
  exact congrArg (Value.int _) (hc23.symm)
theorem c_Sub{X:Nat→Prop}{w:World}(hX:XB X w){v0:Value}{a:GExpr}(r0:RV Jf X w v0 a){nm:List UInt8}{v2:Value}{ye:GExpr}(r2:RV Jf X w v2 ye)(hpa:Zl a=true)(hla:cntE a≤80)(hpy:Zl ye=true)(hly:cntE ye≤80):Calls Tryz.prog 27 #[v0,(str nm),v2] w (Ret w fun v w'=>∃ v0 v1,v= .tuple #[v0,v1]∧(RV Jf X w' v0 ((subE a nm ye).1))∧(v1=(.int .i64 ((subE a nm ye).2)))):=by
 obtain⟨a1,c2,a3,c4,a5,c6,a7,c8,rfl,h9⟩:=J3f r0;obtain⟨a10,c11,a12,c13,a14,c15,a16,c17,rfl,h18⟩:=J3f r2;have C:=Cx.start hX;refine Cgo (args:=[(ea a a1 c2 a3 c4 a5 c6 a7 c8),(str nm),(ea ye a10 c11 a12 c13 a14 c15 a16 c17)]) Tryz.func27 rfl rfl rfl (Rg (Ol (J3g C rfl ?_)));intro g19 w20 x21 y22 lt23 C24 s25 o26;replace h9:=h9.sp s25;replace h18:=h18.sp s25;refine Ol (J3g C24 rfl ?_);intro g27 w28 x29 y30 lt31 C32 s33 o34;refine Ol (J3b C32 io31 rfl ?_);intro g36 w37 x38 y39 lt40 C41 s42 o43;replace h9:=(h9.sp s33).sp s42;replace h18:=(h18.sp s33).sp s42;replace o26:=(o26.spn s33).spn s42;replace o34:=o34.spn s42;refine Oa (Nl (Rh (Ol (J29 (vs:=(ec a a1 c2 a3 c4 a5 c6 a7 c8)) o26 ag31 rfl rfl rfl (Ol (J25 C41 cb20 rfl rfl (Jeu C41.bd (Jh a h9.lo h9.hi h9.name h9.n h9.num h9.den h9.args) (Q8 hpa)) ?_))))));intro v46 w47 C48 s49 h50;replace o26:=o26.spn s49;replace o43:=o43.spn s49;subst h50;refine Oa (Nl (Rg (Om (Ol (J3q rfl rfl (fun hc51=>?_) (fun hc51=>?_))))))
 ·refine Nl (J26 rfl (Rg (Ol (St.build (cs:=[(.int .i64 0),(.slice none 0 0),(.bool false),(.slice none 0 0),(.bool false),(.slice none 0 0),(str []),(.slice none 0 0)]) rfl (by kernel_rfl) (Om (On (J3a (cs':=[(.int .i64 0),(.slice none 0 0),(.bool false),(.slice none 0 0),(.bool false),(.slice none 0 0),(str []),(.slice none 0 0)]) C48 o43 io31 rfl rfl rfl rfl rfl rfl ?_)))))));intro w52 C53 s54 o55;refine Oa (Nl (W.ret (Zh rfl (resV.c o55 rfl ag31 rfl) (resV.t rfl) (Ret.intro ?_ C53.below))));refine⟨_,_,rfl,?_,?_⟩
  ·skip
   exact J3l (a:=(.mk 0 [] ⟨⟨false,[]⟩,⟨false,[]⟩⟩ [] [])) ((jl (by omega) (by omega) (by unfold maxLen;simp) RS.nil RS.nil RS.nil RS.nil).tr (Tr.weak C53.base)) (congrArg Prod.fst (sub1 hc51))
  ·skip
   exact congrArg (Value.int _) (congrArg Prod.snd (sub1 hc51))
 refine Nl (J28 rfl (W.skip (Rh (Om (Ol (St.bool (J25 C48 cb18 rfl rfl (Jfg C48.bd) ?_)))))));intro v56 w57 C58 s59 h60;replace h9:=(h9.sp s49).sp s59;replace h18:=(h18.sp s49).sp s59;replace o34:=(o34.spn s49).spn s59;replace o43:=o43.spn s59;refine⟨_,h60,fun hb61=>?_,fun hb61=>?_⟩
 ·refine Ol (St.not rfl (Nl (J28 rfl (W.skip (Rh (Ol (J29 (vs:=(ec ye a10 c11 a12 c13 a14 c15 a16 c17)) o34 ag31 rfl rfl rfl (Ol (J25 C58 cb20 rfl rfl (Jeu C58.bd (Jh ye h18.lo h18.hi h18.name h18.n h18.num h18.den h18.args) (Q8 hpy)) ?_)))))))));intro v62 w63 C64 s65 h66;replace o26:=(o26.spn s59).spn s65;replace o34:=o34.spn s65;replace o43:=o43.spn s65;subst h66;refine Oa (Nl (Rg (Om (Ol (J3q rfl rfl (fun hc67=>?_) (fun hc67=>?_))))))
  ·refine Nl (J26 rfl (Rg (Ol (St.build (cs:=[(.int .i64 0),(.slice none 0 0),(.bool false),(.slice none 0 0),(.bool false),(.slice none 0 0),(str []),(.slice none 0 0)]) rfl (by kernel_rfl) (Om (On (J3a (cs':=[(.int .i64 0),(.slice none 0 0),(.bool false),(.slice none 0 0),(.bool false),(.slice none 0 0),(str []),(.slice none 0 0)]) C64 o43 io31 rfl rfl rfl rfl rfl rfl ?_)))))));intro w68 C69 s70 o71;refine Oa (Nl (W.ret (Zh rfl (resV.c o71 rfl ag31 rfl) (resV.t rfl) (Ret.intro ?_ C69.below))));refine⟨_,_,rfl,?_,?_⟩
   ·skip
    exact J3l (a:=(.mk 0 [] ⟨⟨false,[]⟩,⟨false,[]⟩⟩ [] [])) ((jl (by omega) (by omega) (by unfold maxLen;simp) RS.nil RS.nil RS.nil RS.nil).tr (Tr.weak C69.base)) (congrArg Prod.fst (sub3 hc51 hb61 hc67))
   ·skip
    exact congrArg (Value.int _) (congrArg Prod.snd (sub3 hc51 hb61 hc67))
  refine Nl (J28 rfl (W.skip (W.seq (J3m J5 6 [[],[0],[],[],[1,2,3],[]] C64 [fx (ea a a1 c2 a3 c4 a5 c6 a7 c8),fr Jf (lowE a),fx (str nm),fx (ea ye a10 c11 a12 c13 a14 c15 a16 c17),fr Jf (repE nm (lowE ye) (lowE a)),fun(s:Gh) (v:Value) (w':World)=>∃ g':Nat,v= .pointer (some ⟨g',0,none⟩)∧Own w s.2 w' g' [(.int .i64 0),(.slice none 0 0),(.bool false),(.slice none 0 0),(.bool false),(.slice none 0 0),(str []),(.slice none 0 0)] 31∧w63.heap.size≤g'] (by kernel_rfl) ⟨sx,sr,sx,sx,sr,(fun _ _ _ _ _ ⟨g,e,o,l⟩ r=>⟨g,e,o.spn r.sp,l⟩),trivial⟩ fun f112 s113 w114 ⟨C117,S118⟩ k116=>?_))))
  have lt119:=o26.blk.lt;have lt120:=o34.blk.lt;have lt121:=o43.blk.lt;have hszS118:=S118.tx.size;replace h9:=(h9.sp s65).sp S118;replace h18:=(h18.sp s65).sp S118;replace o26:=o26.spn S118;replace o34:=o34.spn S118;replace o43:=o43.spn S118;have k116:Keep [27,28,29,30,31,10] _ f112:=k116;refine⟨⟨fun _=>?_,fun⟨e122,_⟩=>?_,fun _=>?_,fun _=>?_,fun⟨d123,e124,e125,_⟩=>?_,fun _=>?_,trivial⟩,fun⟨e126,d127,e128,e129,d130,d131,_⟩=>?_⟩
  ·exact Ja k116 aN fun _=>OpSt.op (J29 (vs:=(ec a a1 c2 a3 c4 a5 c6 a7 c8)) o26 ag31 rfl rfl rfl ⟨s113,RC.same C117,rfl⟩)
  ·refine Ja k116 (aC e122 aN) fun _=>OpSt.op (J25 C117 cb63 rfl rfl (Jqe C117.bd (Jh a h9.lo h9.hi h9.name h9.n h9.num h9.den h9.args) hpa (by omega)) ?_);intro v133 w134 C135 s136 h137;exact⟨s113,⟨C135,s136⟩,h137⟩
  ·exact Ja k116 aN fun _=>OpSt.op (St.move ⟨s113,RC.same C117,rfl⟩)
  ·exact Ja k116 aN fun _=>OpSt.op (J29 (vs:=(ec ye a10 c11 a12 c13 a14 c15 a16 c17)) o34 ag31 rfl rfl rfl ⟨s113,RC.same C117,rfl⟩)
  ·obtain⟨a139,c140,a141,c142,a143,c144,a145,c146,e138,h147⟩:=J3f d123;refine Ja k116 (aC e138 (aC e124 (aC e125 aN))) fun _=>OpSt.op (J25 C117 cb62 rfl rfl (c_put C117.bd (Jh (lowE a) h147.lo h147.hi h147.name h147.n h147.num h147.den h147.args) (Jh ye h18.lo h18.hi h18.name h18.n h18.num h18.den h18.args) (Nat.le_trans (Ja0 a) (by omega)) hpy (by omega)) ?_);intro v148 w149 C150 s151 h152;exact⟨s113,⟨C150,s151⟩,h152⟩
  ·refine Ja k116 aN fun _=>OpSt.op (J3b C117 io31 rfl ?_);intro g153 w154 x155 y156 lt157 C158 s159 o160;exact⟨(x155,y156),⟨C158,s159⟩,g153,rfl,o160,Nat.le_of_not_lt fun hh=>lt157 _ (Nat.lt_of_lt_of_le hh hszS118) rfl⟩
  obtain⟨a165,c166,a167,c168,a169,c170,a171,c172,e164,h173⟩:=J3f d127;obtain⟨a175,c176,a177,c178,a179,c180,a181,c182,e174,h183⟩:=J3f d130;obtain⟨g185,e184,o186,l187⟩:=d131;have n188:g19≠g185:=Nat.ne_of_lt (Nat.lt_of_lt_of_le lt119 l187);have n189:g27≠g185:=Nat.ne_of_lt (Nat.lt_of_lt_of_le lt120 l187);have n190:g36≠g185:=Nat.ne_of_lt (Nat.lt_of_lt_of_le lt121 l187);obtain⟨f192,rfl⟩:=mixK k116 (aC e126 (aC e164 (aC e128 (aC e129 (aC e174 (aC e184 aN))))));refine On (J3a (cs':=(ec (repE nm (lowE ye) (lowE a)) a175 c176 a177 c178 a179 c180 a181 c182)) C117 o186 io31 rfl rfl rfl rfl rfl rfl ?_);intro w193 C194 s195 o196;replace h183:=h183.sp s195;refine Nl (Rh (Ol (J29 (vs:=(ec (repE nm (lowE ye) (lowE a)) a175 c176 a177 c178 a179 c180 a181 c182)) o196 ag31 rfl rfl rfl (Ol (St.bool (J25 C194 cb49 rfl rfl (Jiz C194.bd (Jh (repE nm (lowE ye) (lowE a)) h183.lo h183.hi h183.name h183.n h183.num h183.den h183.args)) ?_))))));intro v197 w198 C199 s200 h201;replace o43:=(o43.spo s195 n190).spn s200;replace o196:=o196.spn s200;refine⟨_,h201,fun hb202=>?_,fun hb202=>?_⟩
  ·refine Ol (St.not rfl (Nl (J28 rfl (W.skip (Rg (Ol (J29 (vs:=(ec (repE nm (lowE ye) (lowE a)) a175 c176 a177 c178 a179 c180 a181 c182)) o196 ag31 rfl rfl rfl (On (J3a (cs':=(ec (repE nm (lowE ye) (lowE a)) a175 c176 a177 c178 a179 c180 a181 c182)) C199 o43 io31 rfl rfl rfl rfl rfl rfl ?_)))))))));intro w203 C204 s205 o206;replace h183:=(h183.sp s200).sp s205;refine Oa (Nl (W.ret (Zh rfl (resV.c o206 rfl ag31 rfl) (resV.t rfl) (Ret.intro ?_ C204.below))));refine⟨_,_,rfl,?_,?_⟩
   ·skip
    exact J3l (a:=(repE nm (lowE ye) (lowE a))) ((Jh (repE nm (lowE ye) (lowE a)) h183.lo h183.hi h183.name h183.n h183.num h183.den h183.args).tr (Tr.weak C204.base)) (congrArg Prod.fst (sub5 hc51 hb61 hc67 (Jmo hc51 hc67 (of_decide_eq_true hb202))))
   ·skip
    exact congrArg (Value.int _) (congrArg Prod.snd (sub5 hc51 hb61 hc67 (Jmo hc51 hc67 (of_decide_eq_true hb202))))
  refine Ol (St.not rfl (Nl (J26 rfl (Rg (Ol (St.build (cs:=[(.int .i64 0),(.slice none 0 0),(.bool false),(.slice none 0 0),(.bool false),(.slice none 0 0),(str []),(.slice none 0 0)]) rfl (by kernel_rfl) (On (J3a (cs':=[(.int .i64 0),(.slice none 0 0),(.bool false),(.slice none 0 0),(.bool false),(.slice none 0 0),(str []),(.slice none 0 0)]) C199 o43 io31 rfl rfl rfl rfl rfl rfl ?_))))))));intro w207 C208 s209 o210;refine Oa (Nl (W.ret (Zh rfl (resV.c o210 rfl ag31 rfl) (resV.t rfl) (Ret.intro ?_ C208.below))));refine⟨_,_,rfl,?_,?_⟩
  ·skip
   exact J3l (a:=(.mk 0 [] ⟨⟨false,[]⟩,⟨false,[]⟩⟩ [] [])) ((jl (by omega) (by omega) (by unfold maxLen;simp) RS.nil RS.nil RS.nil RS.nil).tr (Tr.weak C208.base)) (congrArg Prod.fst (sub4 hc51 hb61 hc67 (Jb8 (of_decide_eq_false hb202))))
  ·skip
   exact congrArg (Value.int _) (congrArg Prod.snd (sub4 hc51 hb61 hc67 (Jb8 (of_decide_eq_false hb202))))
 refine Ol (St.not rfl (Nl (J26 rfl (Rg (Ol (St.build (cs:=[(.int .i64 0),(.slice none 0 0),(.bool false),(.slice none 0 0),(.bool false),(.slice none 0 0),(str []),(.slice none 0 0)]) rfl (by kernel_rfl) (On (J3a (cs':=[(.int .i64 0),(.slice none 0 0),(.bool false),(.slice none 0 0),(.bool false),(.slice none 0 0),(str []),(.slice none 0 0)]) C58 o43 io31 rfl rfl rfl rfl rfl rfl ?_))))))));intro w211 C212 s213 o214;refine Oa (Nl (W.ret (Zh rfl (resV.c o214 rfl ag31 rfl) (resV.t rfl) (Ret.intro ?_ C212.below))));refine⟨_,_,rfl,?_,?_⟩
 ·skip
  exact J3l (a:=(.mk 0 [] ⟨⟨false,[]⟩,⟨false,[]⟩⟩ [] [])) ((jl (by omega) (by omega) (by unfold maxLen;simp) RS.nil RS.nil RS.nil RS.nil).tr (Tr.weak C212.base)) (congrArg Prod.fst (sub2 hc51 hb61))
 ·skip
  exact congrArg (Value.int _) (congrArg Prod.snd (sub2 hc51 hb61))
theorem x_Sub{X:Nat→Prop}{w:World}(hX:XB X w){v0:Value}{a:GExpr}(r0:RV Jf X w v0 a){nm:List UInt8}{v2:Value}{ye:GExpr}(r2:RV Jf X w v2 ye)(hpa:Zl a=true)(hla:cntE a≤80)(hpy:Zl ye=true)(hly:cntE ye≤80)(hnl:nm.length≤1000):Calls Tryz.prog 28 #[v0,(str nm),v2] w (Ret w fun v w'=>∃ v0 v1,v= .tuple #[v0,v1]∧(RV Jf X w' v0 ((subE a nm ye).1))∧(v1=(.int .i64 ((subE a nm ye).2)))):=by
 obtain⟨a1,c2,a3,c4,a5,c6,a7,c8,rfl,h9⟩:=J3f r0;obtain⟨a10,c11,a12,c13,a14,c15,a16,c17,rfl,h18⟩:=J3f r2;have C:=Cx.start hX;have hsa:smE a:=⟨_,_,_,r0⟩;have hsy:smE ye:=⟨_,_,_,r2⟩;refine Cgo (args:=[(ea a a1 c2 a3 c4 a5 c6 a7 c8),(str nm),(ea ye a10 c11 a12 c13 a14 c15 a16 c17)]) Tryz.func28 rfl rfl rfl (Rg (Ol (J3g C rfl ?_)));intro g19 w20 x21 y22 lt23 C24 s25 o26;replace h9:=h9.sp s25;replace h18:=h18.sp s25;refine Ol (J3g C24 rfl ?_);intro g27 w28 x29 y30 lt31 C32 s33 o34;refine Ol (J3b C32 io31 rfl ?_);intro g36 w37 x38 y39 lt40 C41 s42 o43;replace h9:=(h9.sp s33).sp s42;replace h18:=(h18.sp s33).sp s42;replace o26:=(o26.spn s33).spn s42;replace o34:=o34.spn s42;refine Oa (Nl (Rh (Ol (J29 (vs:=(ec a a1 c2 a3 c4 a5 c6 a7 c8)) o26 ag31 rfl rfl rfl (Ol (J25 C41 cb21 rfl rfl (Ja9 C41.bd (Jh a h9.lo h9.hi h9.name h9.n h9.num h9.den h9.args) (by omega) (Q8 hpa)) ?_))))));intro v46 w47 C48 s49 h50;replace o26:=o26.spn s49;replace o43:=o43.spn s49;subst h50;refine Oa (Nl (Rg (Om (Ol (J3q rfl rfl (fun hc51=>?_) (fun hc51=>?_))))))
 ·refine Nl (J26 rfl (Rg (Ol (St.build (cs:=[(.int .i64 0),(.slice none 0 0),(.bool false),(.slice none 0 0),(.bool false),(.slice none 0 0),(str []),(.slice none 0 0)]) rfl (by kernel_rfl) (Om (On (J3a (cs':=[(.int .i64 0),(.slice none 0 0),(.bool false),(.slice none 0 0),(.bool false),(.slice none 0 0),(str []),(.slice none 0 0)]) C48 o43 io31 rfl rfl rfl rfl rfl rfl ?_)))))));intro w52 C53 s54 o55;refine Oa (Nl (W.ret (Zh rfl (resV.c o55 rfl ag31 rfl) (resV.t rfl) (Ret.intro ?_ C53.below))));refine⟨_,_,rfl,?_,?_⟩
  ·skip
   exact J3l (a:=(.mk 0 [] ⟨⟨false,[]⟩,⟨false,[]⟩⟩ [] [])) ((jl (by omega) (by omega) (by unfold maxLen;simp) RS.nil RS.nil RS.nil RS.nil).tr (Tr.weak C53.base)) (congrArg Prod.fst (sub1 hc51))
  ·skip
   exact congrArg (Value.int _) (congrArg Prod.snd (sub1 hc51))
 refine Nl (J28 rfl (W.skip (Rh (Om (Ol (St.bool (J25 C48 cb19 rfl rfl (Jgo C48.bd hnl) ?_)))))));intro v56 w57 C58 s59 h60;replace h9:=(h9.sp s49).sp s59;replace h18:=(h18.sp s49).sp s59;replace o34:=(o34.spn s49).spn s59;replace o43:=o43.spn s59;refine⟨_,h60,fun hb61=>?_,fun hb61=>?_⟩
 ·refine Ol (St.not rfl (Nl (J28 rfl (W.skip (Rh (Ol (J29 (vs:=(ec ye a10 c11 a12 c13 a14 c15 a16 c17)) o34 ag31 rfl rfl rfl (Ol (J25 C58 cb21 rfl rfl (Ja9 C58.bd (Jh ye h18.lo h18.hi h18.name h18.n h18.num h18.den h18.args) (by omega) (Q8 hpy)) ?_)))))))));intro v62 w63 C64 s65 h66;replace o26:=(o26.spn s59).spn s65;replace o34:=o34.spn s65;replace o43:=o43.spn s65;subst h66;refine Oa (Nl (Rg (Om (Ol (J3q rfl rfl (fun hc67=>?_) (fun hc67=>?_))))))
  ·refine Nl (J26 rfl (Rg (Ol (St.build (cs:=[(.int .i64 0),(.slice none 0 0),(.bool false),(.slice none 0 0),(.bool false),(.slice none 0 0),(str []),(.slice none 0 0)]) rfl (by kernel_rfl) (Om (On (J3a (cs':=[(.int .i64 0),(.slice none 0 0),(.bool false),(.slice none 0 0),(.bool false),(.slice none 0 0),(str []),(.slice none 0 0)]) C64 o43 io31 rfl rfl rfl rfl rfl rfl ?_)))))));intro w68 C69 s70 o71;refine Oa (Nl (W.ret (Zh rfl (resV.c o71 rfl ag31 rfl) (resV.t rfl) (Ret.intro ?_ C69.below))));refine⟨_,_,rfl,?_,?_⟩
   ·skip
    exact J3l (a:=(.mk 0 [] ⟨⟨false,[]⟩,⟨false,[]⟩⟩ [] [])) ((jl (by omega) (by omega) (by unfold maxLen;simp) RS.nil RS.nil RS.nil RS.nil).tr (Tr.weak C69.base)) (congrArg Prod.fst (sub3 hc51 hb61 hc67))
   ·skip
    exact congrArg (Value.int _) (congrArg Prod.snd (sub3 hc51 hb61 hc67))
  refine Nl (J28 rfl (W.skip (W.seq (J3m J5 7 [[],[0],[],[],[3],[1,2,4],[]] C64 [fx (ea a a1 c2 a3 c4 a5 c6 a7 c8),fr Jf (lowE a),fx (str nm),fx (ea ye a10 c11 a12 c13 a14 c15 a16 c17),fr Jf (lowE ye),fr Jf (repE nm (lowE ye) (lowE a)),fun(s:Gh) (v:Value) (w':World)=>∃ g':Nat,v= .pointer (some ⟨g',0,none⟩)∧Own w s.2 w' g' [(.int .i64 0),(.slice none 0 0),(.bool false),(.slice none 0 0),(.bool false),(.slice none 0 0),(str []),(.slice none 0 0)] 31∧w63.heap.size≤g'] (by kernel_rfl) ⟨sx,sr,sx,sx,sr,sr,(fun _ _ _ _ _ ⟨g,e,o,l⟩ r=>⟨g,e,o.spn r.sp,l⟩),trivial⟩ fun f126 s127 w128 ⟨C131,S132⟩ k130=>?_))))
  have lt133:=o26.blk.lt;have lt134:=o34.blk.lt;have lt135:=o43.blk.lt;have hszS132:=S132.tx.size;replace h9:=(h9.sp s65).sp S132;replace h18:=(h18.sp s65).sp S132;replace o26:=o26.spn S132;replace o34:=o34.spn S132;replace o43:=o43.spn S132;have k130:Keep [27,28,29,30,31,32,10] _ f126:=k130;refine⟨⟨fun _=>?_,fun⟨e136,_⟩=>?_,fun _=>?_,fun _=>?_,fun⟨e137,_⟩=>?_,fun⟨d138,e139,d140,_⟩=>?_,fun _=>?_,trivial⟩,fun⟨e141,d142,e143,e144,d145,d146,d147,_⟩=>?_⟩
  ·exact Ja k130 aN fun _=>OpSt.op (J29 (vs:=(ec a a1 c2 a3 c4 a5 c6 a7 c8)) o26 ag31 rfl rfl rfl ⟨s127,RC.same C131,rfl⟩)
  ·refine Ja k130 (aC e136 aN) fun _=>OpSt.op (J25 C131 cb17 rfl rfl (Jwp C131.bd (Jh a h9.lo h9.hi h9.name h9.n h9.num h9.den h9.args) hpa (by omega)) ?_);intro v149 w150 C151 s152 h153;exact⟨s127,⟨C151,s152⟩,h153⟩
  ·exact Ja k130 aN fun _=>OpSt.op (St.move ⟨s127,RC.same C131,rfl⟩)
  ·exact Ja k130 aN fun _=>OpSt.op (J29 (vs:=(ec ye a10 c11 a12 c13 a14 c15 a16 c17)) o34 ag31 rfl rfl rfl ⟨s127,RC.same C131,rfl⟩)
  ·refine Ja k130 (aC e137 aN) fun _=>OpSt.op (J25 C131 cb17 rfl rfl (Jwp C131.bd (Jh ye h18.lo h18.hi h18.name h18.n h18.num h18.den h18.args) hpy (by omega)) ?_);intro v154 w155 C156 s157 h158;exact⟨s127,⟨C156,s157⟩,h158⟩
  ·obtain⟨a160,c161,a162,c163,a164,c165,a166,c167,e159,h168⟩:=J3f d138;obtain⟨a170,c171,a172,c173,a174,c175,a176,c177,e169,h178⟩:=J3f d140;refine Ja k130 (aC e159 (aC e139 (aC e169 aN))) fun _=>OpSt.op (J25 C131 cb64 rfl rfl (x_rep C131.bd (Jh (lowE a) h168.lo h168.hi h168.name h168.n h168.num h168.den h168.args) (Jh (lowE ye) h178.lo h178.hi h178.name h178.n h178.num h178.den h178.args) (Nat.le_trans (Ja0 a) (by omega))) ?_);intro v179 w180 C181 s182 h183;exact⟨s127,⟨C181,s182⟩,h183⟩
  ·refine Ja k130 aN fun _=>OpSt.op (J3b C131 io31 rfl ?_);intro g184 w185 x186 y187 lt188 C189 s190 o191;exact⟨(x186,y187),⟨C189,s190⟩,g184,rfl,o191,Nat.le_of_not_lt fun hh=>lt188 _ (Nat.lt_of_lt_of_le hh hszS132) rfl⟩
  obtain⟨a196,c197,a198,c199,a200,c201,a202,c203,e195,h204⟩:=J3f d142;obtain⟨a206,c207,a208,c209,a210,c211,a212,c213,e205,h214⟩:=J3f d145;obtain⟨a216,c217,a218,c219,a220,c221,a222,c223,e215,h224⟩:=J3f d146;obtain⟨g226,e225,o227,l228⟩:=d147;have n229:g19≠g226:=Nat.ne_of_lt (Nat.lt_of_lt_of_le lt133 l228);have n230:g27≠g226:=Nat.ne_of_lt (Nat.lt_of_lt_of_le lt134 l228);have n231:g36≠g226:=Nat.ne_of_lt (Nat.lt_of_lt_of_le lt135 l228);obtain⟨f233,rfl⟩:=mixK k130 (aC e141 (aC e195 (aC e143 (aC e144 (aC e205 (aC e215 (aC e225 aN)))))));refine On (J3a (cs':=(ec (repE nm (lowE ye) (lowE a)) a216 c217 a218 c219 a220 c221 a222 c223)) C131 o227 io31 rfl rfl rfl rfl rfl rfl ?_);intro w234 C235 s236 o237;replace h224:=h224.sp s236;refine Nl (Rh (Ol (J29 (vs:=(ec (repE nm (lowE ye) (lowE a)) a216 c217 a218 c219 a220 c221 a222 c223)) o237 ag31 rfl rfl rfl (Ol (J25 C235 cb21 rfl rfl (Ja9 C235.bd (Jh (repE nm (lowE ye) (lowE a)) h224.lo h224.hi h224.name h224.n h224.num h224.den h224.args) (Jui hla hly) (Jws hpa hpy hsa hsy)) ?_)))));intro v238 w239 C240 s241 h242;replace o43:=(o43.spo s236 n231).spn s241;replace o237:=o237.spn s241;subst h242;refine Ol (J3q rfl rfl (fun hc243=>?_) (fun hc243=>?_))
  ·refine Nl (J26 rfl (Rg (Ol (St.build (cs:=[(.int .i64 0),(.slice none 0 0),(.bool false),(.slice none 0 0),(.bool false),(.slice none 0 0),(str []),(.slice none 0 0)]) rfl (by kernel_rfl) (On (J3a (cs':=[(.int .i64 0),(.slice none 0 0),(.bool false),(.slice none 0 0),(.bool false),(.slice none 0 0),(str []),(.slice none 0 0)]) C240 o43 io31 rfl rfl rfl rfl rfl rfl ?_))))));intro w244 C245 s246 o247;refine Oa (Nl (W.ret (Zh rfl (resV.c o247 rfl ag31 rfl) (resV.t rfl) (Ret.intro ?_ C245.below))));refine⟨_,_,rfl,?_,?_⟩
   ·skip
    exact J3l (a:=(.mk 0 [] ⟨⟨false,[]⟩,⟨false,[]⟩⟩ [] [])) ((jl (by omega) (by omega) (by unfold maxLen;simp) RS.nil RS.nil RS.nil RS.nil).tr (Tr.weak C245.base)) (congrArg Prod.fst (sub4 hc51 hb61 hc67 hc243))
   ·skip
    exact congrArg (Value.int _) (congrArg Prod.snd (sub4 hc51 hb61 hc67 hc243))
  refine Nl (J28 rfl (W.skip (Rg (Ol (J29 (vs:=(ec (repE nm (lowE ye) (lowE a)) a216 c217 a218 c219 a220 c221 a222 c223)) o237 ag31 rfl rfl rfl (On (J3a (cs':=(ec (repE nm (lowE ye) (lowE a)) a216 c217 a218 c219 a220 c221 a222 c223)) C240 o43 io31 rfl rfl rfl rfl rfl rfl ?_)))))));intro w248 C249 s250 o251;replace h224:=(h224.sp s241).sp s250;refine Oa (Nl (W.ret (Zh rfl (resV.c o251 rfl ag31 rfl) (resV.t rfl) (Ret.intro ?_ C249.below))));refine⟨_,_,rfl,?_,?_⟩
  ·skip
   exact J3l (a:=(repE nm (lowE ye) (lowE a))) ((Jh (repE nm (lowE ye) (lowE a)) h224.lo h224.hi h224.name h224.n h224.num h224.den h224.args).tr (Tr.weak C249.base)) (congrArg Prod.fst (sub5 hc51 hb61 hc67 hc243))
  ·skip
   exact congrArg (Value.int _) (congrArg Prod.snd (sub5 hc51 hb61 hc67 hc243))
 refine Ol (St.not rfl (Nl (J26 rfl (Rg (Ol (St.build (cs:=[(.int .i64 0),(.slice none 0 0),(.bool false),(.slice none 0 0),(.bool false),(.slice none 0 0),(str []),(.slice none 0 0)]) rfl (by kernel_rfl) (On (J3a (cs':=[(.int .i64 0),(.slice none 0 0),(.bool false),(.slice none 0 0),(.bool false),(.slice none 0 0),(str []),(.slice none 0 0)]) C58 o43 io31 rfl rfl rfl rfl rfl rfl ?_))))))));intro w252 C253 s254 o255;refine Oa (Nl (W.ret (Zh rfl (resV.c o255 rfl ag31 rfl) (resV.t rfl) (Ret.intro ?_ C253.below))));refine⟨_,_,rfl,?_,?_⟩
 ·skip
  exact J3l (a:=(.mk 0 [] ⟨⟨false,[]⟩,⟨false,[]⟩⟩ [] [])) ((jl (by omega) (by omega) (by unfold maxLen;simp) RS.nil RS.nil RS.nil RS.nil).tr (Tr.weak C253.base)) (congrArg Prod.fst (sub2 hc51 hb61))
 ·skip
  exact congrArg (Value.int _) (congrArg Prod.snd (sub2 hc51 hb61))
end Go.Wf
namespace Go.Ev
open Go Go.Wf Go.RowKit
theorem j9(m j:Nat):tb m j=m.testBit j:=by
 show Nat.beq (Nat.land (Nat.shiftRight m j) 1) 1=_
 rw [ze]
 have:Nat.land (Nat.shiftRight m j) 1=(m >>> j) % 2:=Nat.and_two_pow_sub_one_eq_mod _ 1
 rw [this,Nat.testBit_eq_decide_div_mod_eq,Nat.shiftRight_eq_div_pow]
theorem zl(a b j:Nat):tb (Nat.lor a b) j=(tb a j || tb b j):=by
 rw [j9,j9,j9];exact Nat.testBit_or a b j
theorem Jc0(e j:Nat):tb (Nat.pow 2 e) j=decide (e=j):=by rw [j9];exact Nat.testBit_two_pow
theorem Jdr(j:Nat):tb 0 j=false:=by rw [j9];exact Nat.zero_testBit j
theorem Jd7{α:Type}(l:List α)(x:α):snoc l x=l++[x]:=by
 induction l with
 | nil=>rfl
 | cons a l ih=>exact congrArg (a:: ·) ih
theorem Jwb{acc:List Nat}{j:Nat}:∀ (es:List Edge) (s:Nat),tb (edgM acc es s) j=true→tb s j=true∨∃ e ∈ es,Region.binds .any e=true∧(e.on=j∨tb (acc[e.on]?.getD 0) j=true):=by
 intro es
 induction es with
 | nil=>intro s h;exact .inl h
 | cons e es ih=>
  intro s h;have e0:edgM acc (e::es) s=Bool.rec (edgM acc es s) (fz (Nat.lor (Nat.lor (edgM acc es s) (Nat.pow 2 e.on)) ((nth acc e.on).getD 0)) fun x=>x) (Region.binds .any e):=rfl;rw [e0] at h;have rest:tb (edgM acc es s) j=true→tb s j=true∨∃ e' ∈ e::es,Region.binds .any e'=true∧(e'.on=j∨tb (acc[e'.on]?.getD 0) j=true):=by
   intro h
   rcases ih s h with h | ⟨e',he,hb,hj⟩
   ·exact .inl h
   ·exact .inr ⟨e',List.mem_cons_of_mem _ he,hb,hj⟩
  cases hb:Region.binds .any e with
  | false=>rw [hb] at h;exact rest h
  | true=>
   rw [hb] at h;simp only [Xr,zl,Jc0,V1,Bool.or_eq_true,decide_eq_true_eq] at h
   rcases h with (h | h) | h
   ·exact rest h
   ·exact .inr ⟨e,List.mem_cons_self,hb,.inl h⟩
   ·exact .inr ⟨e,List.mem_cons_self,hb,.inr h⟩
theorem Jqg:∀ (l:List Oper) (acc:List Nat),∃ r,ancM l acc=acc++r∧r.length=l.length∧∀ (k:Nat) (o:Oper),l[k]? =some o→r[k]? =some (edgM (acc++r.take k) o.after.toList 0):=by
 intro l
 induction l with
 | nil=>intro acc;exact⟨[],by simp [ancM],rfl,fun k o h=>by simp at h⟩
 | cons o l ih=>
  intro acc;have e0:ancM (o::l) acc=fz (edgM acc o.after.toList 0) fun m=>ancM l (snoc acc m):=rfl;rw [e0,Xr,Jd7];obtain⟨r,h1,h2,h3⟩:=ih (acc++[edgM acc o.after.toList 0]);refine⟨edgM acc o.after.toList 0::r,by rw [h1];simp,by simp [h2],?_⟩;intro k o' hk
  cases k with
  | zero=>simp at hk;subst hk;simp
  | succ k=>
   have:=h3 k o' (by simpa using hk)
   simpa using this
section
variable {ops:Array Oper}
def msk(ops:Array Oper)(k:Nat):Nat:=((ancM ops.toList [])[k]?).getD 0
theorem j2:(ancM ops.toList []).length=ops.size:=by
 obtain⟨r,h1,h2,_⟩:=Jqg ops.toList [];rw [h1];simp [h2]
theorem Jc9{k:Nat}(hk:k < ops.size):(ancM ops.toList [])[k]? =some (msk ops k):=by
 unfold msk;rw [List.getElem?_eq_getElem (by rw [j2];exact hk)];rfl
theorem Jz9{k j:Nat}{o:Oper}(ho:ops[k]? =some o)(h:tb (msk ops k) j=true):∃ e ∈ o.after,Region.binds .any e=true∧(e.on=j∨(e.on < k∧tb (msk ops e.on) j=true)):=by
 obtain⟨r,h1,h2,h3⟩:=Jqg ops.toList [];have hk:=h3 k o (by simpa using ho);simp only [List.nil_append] at h1 hk;unfold msk at h;rw [h1,hk] at h;simp only [Option.getD_some] at h
 rcases Jwb _ _ h with h | ⟨e,he,hb,hj⟩
 ·rw [Jdr] at h;cases h
 ·refine⟨e,by simpa using he,hb,?_⟩
  rcases hj with hj | hj
  ·exact .inl hj
  ·rw [List.getElem?_take] at hj
   split at hj
   ·rename_i hlt
    refine .inr ⟨hlt,?_⟩;unfold msk;rw [h1];exact hj
   ·simp only [Option.getD_none] at hj;rw [Jdr] at hj;cases hj
theorem Jkw{L:Array Bool}(hs:L.size=ops.size)(hc:Yh ops L):∀ (k:Nat) (o:Oper) (j:Nat),ops[k]? =some o→(∀ e ∈ o.after,Region.binds .any e=true→L.getD e.on false=true)→tb (msk ops k) j=true→L.getD j false=true:=by
 intro k
 induction k using Nat.strongRecOn with
 | _ k ih=>
  intro o j ho hp h;obtain⟨e,he,hb,hj⟩:=Jz9 ho h;have hl:=hp e he hb
  rcases hj with rfl | ⟨hlt,hj⟩
  ·exact hl
  ·have hsz:e.on < ops.size:=by
    have:=(Array.getElem?_eq_some_iff.1 ho).1;omega
   have hso:ops[e.on]? =some ops[e.on]:=by simp [hsz]
   refine ih e.on hlt ops[e.on] j hso ?_ hj;intro e' he' hb';refine hc e.on hsz ?_ _ hso e' he' hb'
   have:L[e.on]? =some L[e.on]:=by simp [hs,hsz]
   simp [Array.getD_eq_getD_getElem?,this] at hl ⊢;exact hl
theorem Jfr:∀ (k:Nat) (o:Oper) (j:Nat),ops[k]? =some o→(∀ (k:Nat) (o:Oper),ops[k]? =some o→∀ e ∈ o.after,Region.binds .any e=true→e.on < k)→tb (msk ops k) j=true→j < k:=by
 intro k
 induction k using Nat.strongRecOn with
 | _ k ih=>
  intro o j ho hb h;obtain⟨e,he,hbe,hj⟩:=Jz9 ho h;have hlt:=hb k o ho e he hbe
  rcases hj with rfl | ⟨_,hj⟩
  ·exact hlt
  ·have hsz:e.on < ops.size:=by
    have:=(Array.getElem?_eq_some_iff.1 ho).1;omega
   have:=ih e.on hlt ops[e.on] j (by simp [hsz]) hb hj
   omega
theorem Jk0{α:Type}{p:α→Bool}{l:List α}(h:allB p l=true):∀ x ∈ l,p x=true:=by
 induction l with
 | nil=>intro x hx;cases hx
 | cons a l ih=>
  have h:(Bool.rec false (allB p l) (p a):Bool)=true:=h
  cases hp:p a with
  | false=>rw [hp] at h;cases h
  | true=>
   rw [hp] at h;intro x hx
   cases hx with
   | head=>exact hp
   | tail _ hx=>exact ih h x hx
theorem Jyw:∀ (l:List Oper) (i k:Nat) (o:Oper) (d:Tmp),l[k]? =some o→o.dst=some d→(d,i+k) ∈ dsts l i:=by
 intro l
 induction l with
 | nil=>intro i k o d h;simp at h
 | cons x l ih=>
  intro i k o d h hd;have e0:dsts (x::l) i=Option.rec (dsts l (Nat.succ i)) (fun d=>(d,i)::dsts l (Nat.succ i)) x.dst:=rfl;rw [e0]
  cases k with
  | zero=>
   simp at h;subst h;rw [hd];exact List.mem_cons_self
  | succ k=>
   have:=ih (i+1) k o d (by simpa using h) hd
   rw [show i+(k+1)=i+1+k by omega]
   cases hx:x.dst with
   | none=>exact this
   | some d'=>exact List.mem_cons_of_mem _ this
theorem Jzs{n:Nat}:∀ (l:List (Nat × Nat)) (s:Nat),nodB n l s=true→(∀ p ∈ l,p.1 < n∧tb s p.1=false)∧l.Pairwise fun p q=>p.1≠q.1:=by
 intro l
 induction l with
 | nil=>intro s _;exact⟨(fun p hp=>by cases hp),List.Pairwise.nil⟩
 | cons p l ih=>
  intro s h;have h:(Bool.rec false (Bool.rec (nodB n l (Nat.lor s (Nat.pow 2 p.1))) false (tb s p.1)) (Nat.blt p.1 n):Bool)=true:=h
  cases h1:Nat.blt p.1 n with
  | false=>rw [h1] at h;cases h
  | true=>
   rw [h1] at h
   cases h2:tb s p.1 with
   | true=>rw [h2] at h;cases h
   | false=>
    rw [h2] at h;obtain⟨k1,k2⟩:=ih _ h;refine⟨?_,List.Pairwise.cons ?_ k2⟩
    ·intro q hq
     cases hq with
     | head=>exact⟨Yc h1,h2⟩
     | tail _ hq=>
      obtain⟨g1,g2⟩:=k1 q hq;rw [zl] at g2;exact⟨g1,(Bool.or_eq_false_iff.1 g2).1⟩
    ·intro q hq e
     have:=(k1 q hq).2
     rw [zl,Jc0] at this
     have:=(Bool.or_eq_false_iff.1 this).2
     exact of_decide_eq_false this e
theorem Jvz{l:List (Nat × Nat)}(h:l.Pairwise fun p q=>p.1≠q.1){d j k:Nat}(hj:(d,j) ∈ l)(hk:(d,k) ∈ l):j=k:=by
 induction l with
 | nil=>cases hj
 | cons p l ih=>
  cases h with
  | cons h1 h2=>
   cases hj with
   | head=>cases hk with
    | head=>rfl
    | tail _ hk=>exact absurd rfl (h1 (d,k) hk)
   | tail _ hj=>cases hk with
    | head=>exact absurd rfl (h1 (d,j) hj)
    | tail _ hk=>exact ih h2 hj hk
def isMv(P:Program)(ops:Array Oper)(k:Nat):Bool:=((ops[k]?).map fun o=>Y0 (kdOf P o.op)).getD false
theorem Jwk(P:Program):∀ (l:List Oper) (i k:Nat),tb (movM P l i) k=(decide (i≤k) && ((l[k - i]?).map fun o=>Y0 (kdOf P o.op)).getD false):=by
 intro l
 induction l with
 | nil=>intro i k;show tb 0 k=_;rw [Jdr];simp
 | cons o l ih=>
  intro i k;have e0:movM P (o::l) i=Bool.rec (movM P l (Nat.succ i)) (Nat.lor (Nat.pow 2 i) (movM P l (Nat.succ i))) (Y0 (kdOf P o.op)):=rfl;rw [e0];have ih:=ih (Nat.succ i) k
  rcases Nat.lt_trichotomy k i with h | h | h
  ·have h1:decide (i≤k)=false:=decide_eq_false (by omega);have h2:decide (Nat.succ i≤k)=false:=decide_eq_false (by omega);rw [h2,Bool.false_and] at ih;rw [h1,Bool.false_and]
   cases Y0 (kdOf P o.op) with
   | false=>exact ih
   | true=>show tb (Nat.lor (Nat.pow 2 i) _) k=_;rw [zl,Jc0,ih,decide_eq_false (by omega)];rfl
  ·subst h;have h2:decide (Nat.succ k≤k)=false:=decide_eq_false (by omega);rw [h2,Bool.false_and] at ih;rw [Nat.sub_self];simp only [List.getElem?_cons_zero,Option.map_some,Option.getD_some,Nat.le_refl,decide_true,Bool.true_and]
   cases Y0 (kdOf P o.op) with
   | false=>exact ih
   | true=>show tb (Nat.lor (Nat.pow 2 k) _) k=_;rw [zl,Jc0,ih];simp
  ·have h1:decide (i≤k)=true:=decide_eq_true (by omega);have h2:decide (Nat.succ i≤k)=true:=decide_eq_true (by omega);have h3:k - i=(k - Nat.succ i)+1:=by omega
   rw [h2,Bool.true_and] at ih;rw [h1,Bool.true_and,h3];simp only [List.getElem?_cons_succ]
   cases Y0 (kdOf P o.op) with
   | false=>exact ih
   | true=>show tb (Nat.lor (Nat.pow 2 i) _) k=_;rw [zl,Jc0,ih,decide_eq_false (by omega)];rfl
theorem mvM(P:Program)(k:Nat):tb (movM P ops.toList 0) k=isMv P ops k:=by
 rw [Jwk];simp [isMv]
theorem Jpi{a m k:Nat}(h:Nat.beq (Nat.land (Nat.land m (Nat.sub (Nat.pow 2 k) 1)) a) (Nat.land m (Nat.sub (Nat.pow 2 k) 1))=true){j:Nat}(hj:j < k)(hm:tb m j=true):tb a j=true:=by
 have e:=Nat.eq_of_beq_eq_true h;have e1:(Nat.land (Nat.land m (Nat.sub (Nat.pow 2 k) 1)) a).testBit j=(Nat.land m (Nat.sub (Nat.pow 2 k) 1)).testBit j:=by rw [e]
 have e2:(Nat.land m (Nat.sub (Nat.pow 2 k) 1)).testBit j=(m.testBit j && (2 ^ k - 1).testBit j):=Nat.testBit_and _ _ _;have e3:(Nat.land (Nat.land m (Nat.sub (Nat.pow 2 k) 1)) a).testBit j=((Nat.land m (Nat.sub (Nat.pow 2 k) 1)).testBit j && a.testBit j):=Nat.testBit_and _ _ _;rw [e3,e2,Nat.testBit_two_pow_sub_one] at e1;rw [j9] at hm ⊢;rw [hm] at e1;simpa [hj] using e1
theorem Jn1{mv:Nat}:∀ (l:List Nat) (i:Nat),Jcd mv l i=true→∀ k a,l[k]? =some a→tb mv (i+k)=true→∀ j,j < i+k→tb mv j=true→tb a j=true:=by
 intro l
 induction l with
 | nil=>intro i _ k a h;simp at h
 | cons b l ih=>
  intro i h k a hk hm j hj hmj;have h:(Bool.rec (Jcd mv l (Nat.succ i)) (Bool.rec false (Jcd mv l (Nat.succ i)) (Nat.beq (Nat.land (Nat.land mv (Nat.sub (Nat.pow 2 i) 1)) b) (Nat.land mv (Nat.sub (Nat.pow 2 i) 1)))) (tb mv i):Bool)=true:=h
  cases k with
  | zero=>
   simp at hk;subst hk;rw [Nat.add_zero] at hm hj;rw [hm] at h
   cases hb:Nat.beq (Nat.land (Nat.land mv (Nat.sub (Nat.pow 2 i) 1)) b) (Nat.land mv (Nat.sub (Nat.pow 2 i) 1)) with
   | false=>rw [hb] at h;cases h
   | true=>exact Jpi hb hj hmj
  | succ k=>
   have h2:Jcd mv l (Nat.succ i)=true:=by
    revert h
    cases tb mv i <;> intro h
    ·exact h
    ·revert h
     cases Nat.beq (Nat.land (Nat.land mv (Nat.sub (Nat.pow 2 i) 1)) b) (Nat.land mv (Nat.sub (Nat.pow 2 i) 1)) <;> intro h
     ·cases h
     ·exact h
   exact ih (i+1) h2 k a (by simpa using hk) (by rw [show i+1+k=i+(k+1) by omega];exact hm) j (by omega) hmj
structure Lk (P:Program) (n:Nat) (ops:Array Oper):Prop where
 back:∀ (k:Nat) (o:Oper),ops[k]? =some o→∀ e ∈ o.after,Region.binds .any e=true→e.on < k
 read:∀ (k:Nat) (o:Oper) t (j:Nat) (o':Oper),ops[k]? =some o→t ∈ kt o.op.operands.toList→ops[j]? =some o'→o'.dst=some t→tb (msk ops k) j=true∨tb (msk ops j) k=true
 gd:∀ (k:Nat) (o:Oper) p,ops[k]? =some o→o.guard=some p→tb (msk ops k) p.1=true
 lt:∀ (k:Nat) (o:Oper) d,ops[k]? =some o→o.dst=some d→d < n
 uniq:∀ (j k:Nat) (o o':Oper) d,ops[j]? =some o→ops[k]? =some o'→o.dst=some d→o'.dst=some d→j=k
 chain:∀ j k,j < k→isMv P ops j=true→isMv P ops k=true→tb (msk ops k) j=true
theorem Jti{all:List Nat}{ds:List (Nat × Nat)}:∀ (l:List Oper) (ms:List Nat) (i:Nat),Jvr ops all ds l ms i=true→∀ (k:Nat) (o:Oper),l[k]? =some o→∃ a,ms[k]? =some a∧
  allB (Jf3 all ds a (i+k)) (kt o.op.operands.toList)=true∧gdOk ops a o.guard=true∧allB (fun e=>Bool.rec true (Nat.blt e.on (i+k)) (Region.binds .any e)) o.after.toList=true:=by
 intro l
 induction l with
 | nil=>intro ms i _ k o h;simp at h
 | cons x l ih=>
  intro ms i h k o hk
  cases ms with
  | nil=>cases h
  | cons a ms=>
   have h:(Bool.rec false (Jvr ops all ds l ms (Nat.succ i)) (allB (Jf3 all ds a i) (kt x.op.operands.toList) && gdOk ops a x.guard && allB (fun e=>Bool.rec true (Nat.blt e.on i) (Region.binds .any e)) x.after.toList):Bool)=true:=h
   cases hb:(allB (Jf3 all ds a i) (kt x.op.operands.toList) && gdOk ops a x.guard && allB (fun e=>Bool.rec true (Nat.blt e.on i) (Region.binds .any e)) x.after.toList) with
   | false=>rw [hb] at h;cases h
   | true=>
    rw [hb] at h;obtain⟨hb,h3⟩:=Zp hb;obtain⟨h1,h2⟩:=Zp hb
    cases k with
    | zero=>simp at hk;subst hk;exact⟨a,rfl,h1,h2,h3⟩
    | succ k=>
     obtain⟨a',g0,g1,g2,g3⟩:=ih ms (i+1) h k o (by simpa using hk);rw [show i+1+k=i+(k+1) by omega] at g1 g3;exact⟨a',by simpa using g0,g1,g2,g3⟩
theorem Jsa{P:Program}{n:Nat}(h:Jpw P n ops (ancM ops.toList [])=true):Lk P n ops:=by
 unfold Jpw at h;obtain⟨h,h3⟩:=Zp h;obtain⟨h1,h2⟩:=Zp h;have hp:=Jti _ _ _ h1;obtain⟨n1,n2⟩:=Jzs _ _ h2;have hd:∀ (k:Nat) (o:Oper) d,ops[k]? =some o→o.dst=some d→(d,k) ∈ dsts ops.toList 0:=fun k o d hk hd=>by
  have:=Jyw ops.toList 0 k o d (by simpa using hk) hd
  rw [Nat.zero_add] at this;exact this
 refine⟨?_,?_,?_,?_,?_,?_⟩
 ·intro k o hk e he hb;obtain⟨a,_,_,_,g⟩:=hp k o (by simpa using hk)
  have:=Jk0 g e (by simpa using he)
  rw [hb,Nat.zero_add] at this;exact Yc this
 ·intro k o t j o' hk ht hj hjd;obtain⟨a,ha,g,_,_⟩:=hp k o (by simpa using hk);have hks:=(Array.getElem?_eq_some_iff.1 hk).1;rw [Jc9 hks] at ha
  cases ha
  have:=Jk0 (Jk0 g t ht) _ (hd j o' t hj hjd)
  simp only [Nat.zero_add] at this;rw [show Nat.beq t t=true from Nat.beq_refl t] at this;have this:(Bool.rec (tb ((nth (ancM ops.toList []) j).getD 0) k) true (tb (msk ops k) j):Bool)=true:=this
  cases hb:tb (msk ops k) j with
  | true=>exact .inl rfl
  | false=>
   rw [hb,V1] at this;exact .inr this
 ·intro k o p hk hg;obtain⟨a,ha,_,g,_⟩:=hp k o (by simpa using hk);have hks:=(Array.getElem?_eq_some_iff.1 hk).1;rw [Jc9 hks] at ha
  cases ha
  rw [hg] at g;exact g
 ·intro k o d hk hkd
  exact(n1 _ (hd k o d hk hkd)).1
 ·intro j k o o' d hj hk hjd hkd;exact Jvz n2 (hd j o d hj hjd) (hd k o' d hk hkd)
 ·intro j k hjk hj hk;have hks:k < ops.size:=by
   unfold isMv at hk
   cases ho:ops[k]? with
   | none=>rw [ho] at hk;cases hk
   | some o=>exact(Array.getElem?_eq_some_iff.1 ho).1
  rw [← mvM] at hj hk;exact Jn1 _ _ h3 k _ (Jc9 hks) (by rw [Nat.zero_add];exact hk) j (by omega) hj
end
end Go.Ev
namespace Go.Ev
open Go Go.Wf Go.RowKit
def setd(d:Option Tmp)(v:AV)(f:Fr):Fr:=match d with
 | none=>f
 | some t=>setF t v f
section
variable (P:Program) (call:CallF) (n:Nat) (ops:Array Oper)
def One(i a:Nat)(o:Oper)(s:DS)(v:AV)(s1:DS):Prop:=∃ h',match kdOf P o.op with
 | .pure=>evOp P call o.op s.f s.h= .ok v h'∧s1=s
 | .read=>evOp P call o.op s.f ⟨Z7 s.qt a s.fl s.h.t,s.h.n⟩= .ok v h'∧s1=⟨s.f,s.h,s.fl,s.qt,s.hs,(i,s.f,v)::s.rs⟩
 | .quiet=>evOp P call o.op s.f s.h= .ok v h'∧s1=⟨s.f,⟨s.h.t,h'.n⟩,s.fl,(i,s.h.n,get5 s.h.n h'.t)::s.qt,s.hs,s.rs⟩
 | .move=>evOp P call o.op s.f ⟨Z7 s.qt a s.fl s.h.t,s.h.n⟩= .ok v h'∧s1=⟨s.f,h',Nat.lor s.fl a,s.qt,s.hs++[(h',Nat.lor s.fl a)],s.rs⟩
def Stp(i a:Nat)(o:Oper)(s s':DS):Prop:=lo n o.dst∧
 ((zw ops o.guard s.f=some true∧∃ v s1,One P call i a o s v s1∧s'=⟨setd o.dst v s.f,s1.h,s1.fl,s1.qt,s1.hs,s1.rs⟩)∨
  (zw ops o.guard s.f=some false∧s'=⟨setd o.dst (.tp []) s.f,s.h,s.fl,s.qt,if Y0 (kdOf P o.op) then s.hs++[(s.h,s.fl)] else s.hs,s.rs⟩))
end
section
variable {P:Program} {call:CallF} {n:Nat} {ops:Array Oper}
theorem Jp8{d:Option Tmp}{v:AV}{f:Fr}{k:Fr→Out}(e:okO (setO n d v f k)):setO n d v f k=k (setd d v f)∧lo n d:=by
 obtain⟨f',h1,h2,h3⟩:=Jit e;refine⟨?_,h2⟩;rw [h1]
 rcases h3 with ⟨rfl,rfl⟩ | ⟨t,rfl,_,rfl⟩ <;> rfl
theorem Jr6{i a:Nat}{o:Oper}{s:DS}{k:AV→DS→Out}(e:okO (Jhn P call i a o s k)):∃ v s1,One P call i a o s v s1∧Jhn P call i a o s k=k v s1:=by
 rw [Jpn] at e ⊢;unfold Jmk at e ⊢;unfold One
 cases hk:kdOf P o.op with
 | pure=>
  rw [hk] at e;simp only at e ⊢;obtain⟨v,h',h1,h2⟩:=Jja e;exact⟨v,s,⟨h',h1,rfl⟩,h2⟩
 | read=>
  rw [hk] at e;simp only at e ⊢;obtain⟨v,h',h1,h2⟩:=Jja e;exact⟨v,_,⟨h',h1,rfl⟩,h2⟩
 | quiet=>
  rw [hk] at e;simp only at e ⊢;obtain⟨v,h',h1,h2⟩:=Jja e;exact⟨v,_,⟨h',h1,rfl⟩,h2⟩
 | move=>
  rw [hk] at e;simp only at e ⊢;obtain⟨v,h',h1,h2⟩:=Jja e;refine⟨v,_,⟨h',h1,rfl⟩,?_⟩;rw [h2,Xr,Jd7]
theorem Jvm:∀ (l:List Oper) (i:Nat) (ms:List Nat) (s:DS) (k:DS→Out),okO (Jbz P call n ops l i ms s k)→
  ∃ S:Nat→DS,S i=s∧Jbz P call n ops l i ms s k=k (S (i+l.length))∧∀ (j:Nat) (o:Oper),l[j]? =some o→∃ a,ms[j]? =some a∧Stp P call n ops (i+j) a o (S (i+j)) (S (i+j+1)):=by
 intro l
 induction l with
 | nil=>intro i ms s k _;exact⟨fun _=>s,rfl,rfl,fun j o h=>by simp at h⟩
 | cons o l ih=>
  intro i ms s k e
  cases ms with
  | nil=>exact e.elim
  | cons a ms=>
   have e0:Jbz P call n ops (o::l) i (a::ms) s k=vd ops o.guard s.f
     (Jhn P call i a o s fun v s'=>setO n o.dst v s'.f fun f'=>Jbz P call n ops l (Nat.succ i) ms ⟨f',s'.h,s'.fl,s'.qt,s'.hs,s'.rs⟩ k)
     (setO n o.dst (.tp []) s.f fun f'=>Jbz P call n ops l (Nat.succ i) ms ⟨f',s.h,s.fl,s.qt,Bool.rec s.hs (snoc s.hs (s.h,s.fl)) (Y0 (kdOf P o.op)),s.rs⟩ k) (.no 42):=rfl
   rw [e0,yc] at e;rw [e0,yc];have fin:∀ s',Stp P call n ops i a o s s'→okO (Jbz P call n ops l (Nat.succ i) ms s' k)→∃ S:Nat→DS,S i=s∧Jbz P call n ops l (Nat.succ i) ms s' k=k (S (i+(o::l).length))∧
     ∀ (j:Nat) (o':Oper),(o::l)[j]? =some o'→∃ a',(a::ms)[j]? =some a'∧Stp P call n ops (i+j) a' o' (S (i+j)) (S (i+j+1)):=by
    intro s' hs' he;obtain⟨S,h1,h2,h3⟩:=ih (Nat.succ i) ms s' k he;refine⟨fun m=>if m=i then s else S m,if_pos rfl,?_,?_⟩
    ·rw [h2]
     have:¬ (i+(o::l).length=i):=by simp
     show k (S (Nat.succ i+l.length))=k (if i+(o::l).length=i then s else S (i+(o::l).length))
     rw [if_neg this]
     congr 2
     simp only [List.length_cons];omega
    ·intro j o' hj
     cases j with
     | zero=>
      simp at hj;subst hj;refine⟨a,rfl,?_⟩
      show Stp P call n ops (i+0) a o (if i+0=i then s else S (i+0)) (if i+0+1=i then s else S (i+0+1))
      rw [Nat.add_zero,if_pos rfl,if_neg (by omega),show i+1=Nat.succ i from rfl,h1];exact hs'
     | succ j=>
      obtain⟨a',g1,g2⟩:=h3 j o' (by simpa using hj);refine⟨a',by simpa using g1,?_⟩
      show Stp P call n ops (i+(j+1)) a' o' (if i+(j+1)=i then s else S (i+(j+1))) (if i+(j+1)+1=i then s else S (i+(j+1)+1))
      rw [if_neg (by omega),if_neg (by omega),show i+(j+1)=Nat.succ i+j by omega];exact g2
   cases hw:zw ops o.guard s.f with
   | none=>rw [hw] at e;exact e.elim
   | some b=>
    rw [hw] at e
    cases b with
    | true=>
     simp only at e ⊢;obtain⟨v,s1,h1,h2⟩:=Jr6 e;rw [h2] at e ⊢;have hf1:s1.f=s.f:=by
      obtain⟨h',h1⟩:=h1
      cases hk:kdOf P o.op <;> rw [hk] at h1 <;> simp only at h1 <;> rw [h1.2]
     obtain⟨h3,h4⟩:=Jp8 e;rw [h3] at e ⊢;rw [hf1] at e ⊢;exact fin _ ⟨h4,.inl ⟨hw,v,s1,h1,rfl⟩⟩ e
    | false=>
     simp only at e ⊢;obtain⟨h3,h4⟩:=Jp8 e;rw [h3] at e ⊢;have hh:(Bool.rec s.hs (snoc s.hs (s.h,s.fl)) (Y0 (kdOf P o.op)):List (Hp × Nat))=if Y0 (kdOf P o.op) then s.hs++[(s.h,s.fl)] else s.hs:=by
      rw [zu,Jd7]
     rw [hh] at e ⊢;exact fin _ ⟨h4,.inr ⟨hw,rfl⟩⟩ e
structure Run (P:Program) (call:CallF) (n:Nat) (ops:Array Oper) (f:Fr) (h:Hp) (S:Nat→DS):Prop where
 s0:S 0=⟨f,h,0,[],[(h,0)],[]⟩
 st:∀ (k:Nat) (o:Oper),ops[k]? =some o→Stp P call n ops k (msk ops k) o (S k) (S (k+1))
 cs:CallS P call
 n256:n≤4096
 lim:h.n≤big5
def mcn(P:Program)(ops:Array Oper)(i:Nat):Nat:=(List.range i).countP (isMv P ops)
theorem Jm6(i:Nat):mcn P ops (i+1)=mcn P ops i+if isMv P ops i then 1 else 0:=by
 unfold mcn;rw [List.range_succ,List.countP_append,List.countP_singleton]
theorem Vp{k:Nat}{o:Oper}(ho:ops[k]? =some o):isMv P ops k=Y0 (kdOf P o.op):=by unfold isMv;rw [ho];rfl
theorem zf{id:Nat}{a fl:Nat}{t:T5 (Option Blk)}(hid:id < big5):∀ (qt:QT),(∀ e ∈ qt,e.2.1 < big5)→
  (get5 id (Z7 qt a fl t)=get5 id t∧∀ e ∈ qt,e.2.1=id→tb a e.1=true→tb fl e.1=false→False)∨∃ e ∈ qt,e.2.1=id∧tb a e.1=true∧tb fl e.1=false∧get5 id (Z7 qt a fl t)=e.2.2:=by
 intro qt
 induction qt with
 | nil=>intro _;exact .inl ⟨rfl,fun e he=>by cases he⟩
 | cons p qt ih=>
  intro hq;have e0:Z7 (p::qt) a fl t=Bool.rec (Z7 qt a fl t) (Bool.rec (set5 p.2.1 p.2.2 (Z7 qt a fl t)) (Z7 qt a fl t) (tb fl p.1)) (tb a p.1):=rfl;have ih:=ih fun e he=>hq e (List.mem_cons_of_mem _ he);have rest:(tb a p.1=true→tb fl p.1=false→p.2.1≠id)→Z7 (p::qt) a fl t=Z7 qt a fl t∨get5 id (Z7 (p::qt) a fl t)=get5 id (Z7 qt a fl t)→(get5 id (Z7 (p::qt) a fl t)=get5 id t∧∀ e ∈ p::qt,e.2.1=id→tb a e.1=true→tb fl e.1=false→False)∨∃ e ∈ p::qt,e.2.1=id∧tb a e.1=true∧tb fl e.1=false∧get5 id (Z7 (p::qt) a fl t)=e.2.2:=by
   intro hne he;have he:get5 id (Z7 (p::qt) a fl t)=get5 id (Z7 qt a fl t):=he.elim (fun h=>by rw [h]) fun h=>h
   rw [he]
   rcases ih with ⟨h1,h2⟩ | ⟨e,h1,h2⟩
   ·refine .inl ⟨h1,fun e hm=>?_⟩
    cases hm with
    | head=>intro x y z;exact hne y z x
    | tail _ hm=>exact h2 e hm
   ·exact .inr ⟨e,List.mem_cons_of_mem _ h1,h2⟩
  cases ha:tb a p.1 with
  | false=>exact rest (fun h=>by rw [ha] at h;cases h) (.inl (by rw [e0,ha]))
  | true=>
   cases hf:tb fl p.1 with
   | true=>exact rest (fun _ h=>by rw [hf] at h;cases h) (.inl (by rw [e0,ha,hf]))
   | false=>
    have e1:Z7 (p::qt) a fl t=set5 p.2.1 p.2.2 (Z7 qt a fl t):=by rw [e0,ha,hf]
    by_cases hx:p.2.1=id
    ·refine .inr ⟨p,List.mem_cons_self,hx,ha,hf,?_⟩;rw [e1,Zo _ _ _ _ hid (hq p List.mem_cons_self),if_pos hx.symm]
    ·refine rest (fun _ _=>hx) (.inr ?_);rw [e1,Zo _ _ _ _ hid (hq p List.mem_cons_self),if_neg (fun h=>hx h.symm)]
section
variable {f:Fr} {h:Hp} {S:Nat→DS} (R:Run P call n ops f h S)
include R
theorem Run.grow{k:Nat}{o:Oper}(ho:ops[k]? =some o)(hl:(S k).h.n≤big5):(S k).h.n≤(S (k+1)).h.n∧(S (k+1)).h.n≤big5:=by
 obtain⟨_,⟨_,v,s1,⟨h',h1⟩,h2⟩ | ⟨_,h2⟩⟩:=R.st k o ho
 ·rw [h2]
  cases hk:kdOf P o.op with
  | pure=>rw [hk] at h1;simp only at h1;rw [h1.2];exact⟨Nat.le_refl _,hl⟩
  | read=>rw [hk] at h1;simp only at h1;rw [h1.2];exact⟨Nat.le_refl _,hl⟩
  | quiet=>
   rw [hk] at h1;simp only at h1;obtain⟨b,hb,hh,_⟩:=Xq hk h1.1;rw [h1.2,hh];exact⟨Nat.le_succ _,hb⟩
  | move=>
   rw [hk] at h1;simp only at h1;have g:=(Jcw R.cs h1.1).1 hl;rw [h1.2];exact⟨g.le,g.lim hl⟩
 ·rw [h2];exact⟨Nat.le_refl _,hl⟩
theorem Run.lims:∀ i,i≤ops.size→(S i).h.n≤big5∧h.n≤(S i).h.n:=by
 intro i
 induction i with
 | zero=>intro _;rw [R.s0];exact⟨R.lim,Nat.le_refl _⟩
 | succ i ih=>
  intro hi;obtain⟨h1,h2⟩:=ih (by omega);have ho:ops[i]? =some ops[i]:=by simp [show i < ops.size by omega]
  obtain⟨g1,g2⟩:=R.grow ho h1;exact⟨g2,Nat.le_trans h2 g1⟩
theorem Run.mono:∀ i j,i≤j→j≤ops.size→(S i).h.n≤(S j).h.n:=by
 intro i j hij
 induction hij with
 | refl=>intro _;exact Nat.le_refl _
 | step hij ih=>
  rename_i j
  intro hj;have hj:j+1≤ops.size:=hj;have ho:ops[j]? =some ops[j]:=by simp [show j < ops.size by omega]
  exact Nat.le_trans (ih (by omega)) (R.grow ho (R.lims j (by omega)).1).1
theorem Run.hs:∀ i,i≤ops.size→(S i).hs.length=mcn P ops i+1∧∃ hl,(S i).hs[mcn P ops i]? =some (hl,(S i).fl)∧(S i).h.t=hl.t∧hl.n≤(S i).h.n:=by
 intro i
 induction i with
 | zero=>intro _;rw [R.s0];exact⟨rfl,h,rfl,rfl,Nat.le_refl _⟩
 | succ i ih=>
  intro hi;obtain⟨h1,hl,h2,h3,h4⟩:=ih (by omega);have ho:ops[i]? =some ops[i]:=by simp [show i < ops.size by omega]
  rw [Jm6,Vp (P:=P) ho];have hlast:∀ x,((S i).hs++[x])[mcn P ops i+1]? =some x:=fun x=>by
   rw [List.getElem?_append_right (by omega),h1,Nat.sub_self];rfl
  obtain⟨_,⟨_,v,s1,⟨h',g1⟩,g2⟩ | ⟨_,g2⟩⟩:=R.st i _ ho
  ·cases hk:kdOf P ops[i].op with
   | pure=>rw [hk] at g1;simp only at g1;rw [g2,g1.2];exact⟨h1,hl,h2,h3,h4⟩
   | read=>rw [hk] at g1;simp only at g1;rw [g2,g1.2];exact⟨h1,hl,h2,h3,h4⟩
   | quiet=>
    rw [hk] at g1;simp only at g1;obtain⟨b,hb,hh,_⟩:=Xq hk g1.1;rw [g2,g1.2];refine⟨h1,hl,h2,h3,?_⟩
    show hl.n≤h'.n
    rw [hh];exact Nat.le_succ_of_le h4
   | move=>
    rw [hk] at g1;simp only at g1;rw [g2,g1.2];refine⟨by simp [h1,Y0],h',hlast _,rfl,Nat.le_refl _⟩
  ·rw [g2]
   cases hk:Y0 (kdOf P ops[i].op) with
   | false=>exact⟨h1,hl,h2,h3,h4⟩
   | true=>exact⟨by simp [h1],(S i).h,hlast _,rfl,Nat.le_refl _⟩
theorem Run.hs_step{k:Nat}{o:Oper}(ho:ops[k]? =some o):(∃ l,(S (k+1)).hs=(S k).hs++l)∧(∃ l,(S (k+1)).qt=l++(S k).qt):=by
 obtain⟨_,⟨_,v,s1,⟨h',g1⟩,g2⟩ | ⟨_,g2⟩⟩:=R.st k o ho
 ·cases hk:kdOf P o.op with
  | pure=>rw [hk] at g1;simp only at g1;rw [g2,g1.2];exact⟨⟨[],by simp⟩,⟨[],rfl⟩⟩
  | read=>rw [hk] at g1;simp only at g1;rw [g2,g1.2];exact⟨⟨[],by simp⟩,⟨[],rfl⟩⟩
  | quiet=>rw [hk] at g1;simp only at g1;rw [g2,g1.2];exact⟨⟨[],by simp⟩,⟨[_],rfl⟩⟩
  | move=>rw [hk] at g1;simp only at g1;rw [g2,g1.2];exact⟨⟨_,rfl⟩,⟨[],rfl⟩⟩
 ·rw [g2]
  cases hk:Y0 (kdOf P o.op) with
  | false=>exact⟨⟨[],by simp⟩,⟨[],rfl⟩⟩
  | true=>exact⟨⟨_,rfl⟩,⟨[],rfl⟩⟩
theorem Run.hs_pre:∀ i j,i≤j→j≤ops.size→(∀ (p:Nat) x,(S i).hs[p]? =some x→(S j).hs[p]? =some x)∧∀ e ∈ (S i).qt,e ∈ (S j).qt:=by
 intro i j hij
 induction hij with
 | refl=>intro _;exact⟨fun _ _ h=>h,fun _ h=>h⟩
 | step hij ih=>
  rename_i j
  intro hj;have hj:j+1≤ops.size:=hj;have ho:ops[j]? =some ops[j]:=by simp [show j < ops.size by omega]
  obtain⟨i1,i2⟩:=ih (by omega);obtain⟨⟨l,hl⟩,⟨m,hm⟩⟩:=R.hs_step ho;refine⟨fun p x hx=>?_,fun e he=>?_⟩
  ·have:=i1 p x hx
   show(S (j+1)).hs[p]? =some x
   rw [hl,List.getElem?_append_left (List.getElem?_eq_some_iff.1 this).1];exact this
  ·show e ∈ (S (j+1)).qt
   rw [hm];exact List.mem_append_right _ (i2 e he)
theorem Run.qt:∀ i,i≤ops.size→∀ e ∈ (S i).qt,e.1 < i∧∃ o v b,ops[e.1]? =some o∧kdOf P o.op= .quiet∧zw ops o.guard (S e.1).f=some true∧
  evOp P call o.op (S e.1).f (S e.1).h= .ok v ⟨set5 (S e.1).h.n (some b) (S e.1).h.t,(S e.1).h.n+1⟩∧e.2.1=(S e.1).h.n∧e.2.2=some b∧(S (e.1+1)).h.n=(S e.1).h.n+1∧(S e.1).h.n < big5:=by
 intro i
 induction i with
 | zero=>intro _ e he;rw [R.s0] at he;cases he
 | succ i ih=>
  intro hi e he;have ho:ops[i]? =some ops[i]:=by simp [show i < ops.size by omega]
  have old:e ∈ (S i).qt→e.1 < i+1∧∃ o v b,ops[e.1]? =some o∧kdOf P o.op= .quiet∧zw ops o.guard (S e.1).f=some true∧
    evOp P call o.op (S e.1).f (S e.1).h= .ok v ⟨set5 (S e.1).h.n (some b) (S e.1).h.t,(S e.1).h.n+1⟩∧e.2.1=(S e.1).h.n∧e.2.2=some b∧(S (e.1+1)).h.n=(S e.1).h.n+1∧(S e.1).h.n < big5:=by
   intro he;obtain⟨h1,h2⟩:=ih (by omega) e he;exact⟨by omega,h2⟩
  have hst:=R.st i _ ho;obtain⟨_,⟨hw,v,s1,⟨h',g1⟩,g2⟩ | ⟨_,g2⟩⟩:=hst
  ·cases hk:kdOf P ops[i].op with
   | pure=>rw [hk] at g1;simp only at g1;rw [g2,g1.2] at he;exact old he
   | read=>rw [hk] at g1;simp only at g1;rw [g2,g1.2] at he;exact old he
   | move=>rw [hk] at g1;simp only at g1;rw [g2,g1.2] at he;exact old he
   | quiet=>
    rw [hk] at g1;simp only at g1;obtain⟨b,hb,hh,_⟩:=Xq hk g1.1;have he':e ∈ (i,(S i).h.n,get5 (S i).h.n h'.t)::(S i).qt:=by rw [g2,g1.2] at he;exact he
    cases he' with
    | tail _ he=>exact old he
    | head=>
     refine⟨Nat.lt_succ_self i,ops[i],v,b,ho,hk,hw,by rw [← hh];exact g1.1,rfl,?_,?_,hb⟩
     ·rw [hh]
      show get5 (S i).h.n (set5 (S i).h.n (some b) (S i).h.t)=some b
      rw [Zo _ _ _ _ hb hb,if_pos rfl]
     ·rw [g2,g1.2,hh]
  ·rw [g2] at he;exact old he
theorem Run.apart{q i:Nat}{id:Nat}(hq:q < ops.size)(hi:i < ops.size)(hqi:q≠i)(h1:(S q).h.n≤id)(h2:id < (S (q+1)).h.n):¬ ((S i).h.n≤id∧id < (S (i+1)).h.n):=by
 intro ⟨h3,h4⟩
 rcases Nat.lt_or_ge q i with hl | hl
 ·have:=R.mono (q+1) i hl (by omega);omega
 ·have:=R.mono (i+1) q (by omega) (by omega);omega
theorem Run.frame{k:Nat}{o:Oper}(ho:ops[k]? =some o){t:Nat}(ht:t < 4096)(hne:o.dst≠some t):getF t (S (k+1)).f=getF t (S k).f:=by
 have key:∀ v,getF t (setd o.dst v (S k).f)=getF t (S k).f:=by
  intro v;have hlo:=(R.st k o ho).1
  cases hd:o.dst with
  | none=>rfl
  | some d=>
   rw [hd] at hlo hne;have hlo:d < n:=hlo
   show getF t (setF d v (S k).f)=_
   rw [Xt _ _ _ _ ht (Nat.lt_of_lt_of_le hlo R.n256),if_neg (fun e=>hne (by rw [e]))]
 obtain⟨_,⟨_,v,s1,_,g2⟩ | ⟨_,g2⟩⟩:=R.st k o ho
 ·rw [g2];exact key v
 ·rw [g2];exact key (.tp [])
theorem Run.frames{t:Nat}(ht:t < 4096):∀ i j,i≤j→j≤ops.size→(∀ (k:Nat) (o:Oper),i≤k→k < j→ops[k]? =some o→o.dst≠some t)→getF t (S j).f=getF t (S i).f:=by
 intro i j hij
 induction hij with
 | refl=>intro _ _;rfl
 | step hij ih=>
  rename_i j
  intro hj hh;have hj:j+1≤ops.size:=hj;have hij:i≤j:=hij;have ho:ops[j]? =some ops[j]:=by simp [show j < ops.size by omega]
  have e1:getF t (S (j+1)).f=getF t (S j).f:=R.frame ho ht (hh j _ hij (Nat.lt_succ_self j) ho)
  show getF t (S (j+1)).f=_
  rw [e1];exact ih (by omega) fun k o h1 h2=>hh k o h1 (Nat.lt_succ_of_lt h2)
theorem Run.qt_id{i:Nat}(hi:i≤ops.size):∀ e ∈ (S i).qt,e.2.1 < (S i).h.n∧e.2.1 < big5∧h.n≤e.2.1:=by
 intro e he;obtain⟨h1,o,v,b,_,_,_,_,h2,_,h3,h4⟩:=R.qt i hi e he
 have:=R.mono (e.1+1) i h1 hi
 have h5:=(R.lims e.1 (by omega)).2;refine⟨by omega,by omega,by omega⟩
theorem Run.one{i:Nat}(hi:i≤ops.size){e e':Nat × Nat × Option Blk}(he:e ∈ (S i).qt)(he':e' ∈ (S i).qt)(hid:e.2.1=e'.2.1):e.1=e'.1:=by
 obtain⟨h1,o,v,b,_,_,_,_,h2,_,h3,h4⟩:=R.qt i hi e he;obtain⟨h1',o',v',b',_,_,_,_,h2',_,h3',h4'⟩:=R.qt i hi e' he';refine Classical.byContradiction fun hne=>?_
 exact R.apart (q:=e.1) (i:=e'.1) (id:=e.2.1) (by omega) (by omega) hne (by omega) (by omega) ⟨by omega,by omega⟩
theorem Run.none_(hfin:∀ id,h.n≤id→id < big5→get5 id h.t=none):∀ i,i≤ops.size→∀ (p:Nat) x,(S i).hs[p]? =some x→(∀ e ∈ (S ops.size).qt,tb x.2 e.1=false→get5 e.2.1 x.1.t=none)∧∀ id,id < h.n→get5 id h.t=none→get5 id x.1.t=none:=by
 intro i
 induction i with
 | zero=>
  intro _ p x hx;rw [R.s0] at hx
  cases p with
  | zero=>
   simp at hx;subst hx;refine⟨fun e he _=>?_,fun id _ hn=>hn⟩
   obtain⟨_,h2,h3⟩:=R.qt_id (Nat.le_refl _) e he;exact hfin _ h3 h2
  | succ p=>simp at hx
 | succ i ih=>
  intro hi p x hx;have hi':i < ops.size:=by omega
  have ho:ops[i]? =some ops[i]:=by simp [hi']
  have ihh:=ih (by omega);obtain⟨hlen,hl,hlast,hlt,hln⟩:=R.hs i (by omega);have hlim:=(R.lims i (by omega));obtain⟨k1,k2⟩:=ihh _ _ hlast;have old:(S i).hs[p]? =some x→_:=fun hx=>ihh p x hx;have new_:∀ y,((S i).hs++[y])[p]? =some x→(S i).hs[p]? =some x∨x=y:=by
   intro y hy;rw [List.getElem?_append] at hy
   split at hy
   ·exact .inl hy
   ·refine .inr ?_
    have:=(List.getElem?_eq_some_iff.1 hy).1
    have e0:p - (S i).hs.length=0:=by simp at this;omega
    rw [e0] at hy;simp at hy;exact hy.symm
  obtain⟨_,⟨_,v,s1,⟨h',g1⟩,g2⟩ | ⟨_,g2⟩⟩:=R.st i _ ho
  ·cases hk:kdOf P ops[i].op with
   | pure=>rw [hk] at g1;simp only at g1;rw [g2,g1.2] at hx;exact old hx
   | read=>rw [hk] at g1;simp only at g1;rw [g2,g1.2] at hx;exact old hx
   | quiet=>rw [hk] at g1;simp only at g1;rw [g2,g1.2] at hx;exact old hx
   | move=>
    rw [hk] at g1;simp only at g1;have hn1:(S (i+1)).h=h':=by rw [g2,g1.2]
    rw [g2,g1.2] at hx
    rcases new_ _ hx with hx | rfl
    ·exact old hx
    ·have g:=(Jcw R.cs g1.1).1 hlim.1;have hqb:∀ e ∈ (S i).qt,e.2.1 < big5:=fun e he=>(R.qt_id (by omega) e he).2.1
     constructor
     ·intro e he htb;simp only at htb ⊢;rw [zl] at htb;obtain⟨t1,t2⟩:=Bool.or_eq_false_iff.1 htb;obtain⟨he0,oq,vq,bq,hoq,hkq,_,_,hidq,_,hnq,hbq⟩:=R.qt _ (Nat.le_refl _) e he;have hne:e.1≠i:=by
       intro e1;rw [e1,ho] at hoq;cases hoq;rw [hk] at hkq;cases hkq
      have hap:=R.apart (q:=e.1) (i:=i) (id:=e.2.1) he0 hi' hne (by omega) (by omega);rw [hn1] at hap;refine g.none_ e.2.1 (by omega) hap ?_
      show get5 e.2.1 (Z7 (S i).qt (msk ops i) (S i).fl (S i).h.t)=none
      rcases zf (a:=msk ops i) (fl:=(S i).fl) (t:=(S i).h.t) (id:=e.2.1) (by omega) (S i).qt hqb with ⟨q1,_⟩ | ⟨e',q1,q2,q3,q4,_⟩
      ·rw [q1,hlt];exact k1 e he t1
      ·have:=R.one (Nat.le_refl _) ((R.hs_pre i ops.size (by omega) (Nat.le_refl _)).2 e' q1) he q2
       rw [this] at q3;rw [q3] at t2;cases t2
     ·intro id hid hn;simp only;have hsz:id < big5:=by have:=R.lim;omega
      refine g.none_ id hsz (fun hh=>by have hh1:(S i).h.n≤id:=hh.1;omega) ?_
      show get5 id (Z7 (S i).qt (msk ops i) (S i).fl (S i).h.t)=none
      rcases zf (a:=msk ops i) (fl:=(S i).fl) (t:=(S i).h.t) (id:=id) hsz (S i).qt hqb with ⟨q1,_⟩ | ⟨e',q1,q2,_⟩
      ·rw [q1,hlt];exact k2 id hid hn
      ·have:=(R.qt_id (by omega) e' q1).2.2
       omega
  ·rw [g2] at hx
   cases hk:Y0 (kdOf P ops[i].op) with
   | false=>rw [hk] at hx;exact old hx
   | true=>
    rw [hk] at hx
    rcases new_ _ hx with hx | rfl
    ·exact old hx
    ·constructor
     ·intro e he htb
      show get5 e.2.1 (S i).h.t=none
      rw [hlt];exact k1 e he htb
     ·intro id hid hn
      show get5 id (S i).h.t=none
      rw [hlt];exact k2 id hid hn
theorem Run.none2:∀ i,i≤ops.size→∀ (p:Nat) x,(S i).hs[p]? =some x→∀ id,id < big5→¬ (h.n≤id∧id < (S ops.size).h.n)→get5 id h.t=none→get5 id x.1.t=none:=by
 intro i
 induction i with
 | zero=>
  intro _ p x hx;rw [R.s0] at hx
  cases p with
  | zero=>simp at hx;subst hx;exact fun id _ _ hn=>hn
  | succ p=>simp at hx
 | succ i ih=>
  intro hi p x hx;have hi':i < ops.size:=by omega
  have ho:ops[i]? =some ops[i]:=by simp [hi']
  have ihh:=ih (by omega);obtain⟨hlen,hl,hlast,hlt,hln⟩:=R.hs i (by omega);have hlim:=(R.lims i (by omega));have k2:=ihh _ _ hlast;have hmN:=R.mono (i+1) ops.size (by omega) (Nat.le_refl _);have hm1:=R.mono i (i+1) (by omega) (by omega);have old:(S i).hs[p]? =some x→_:=fun hx=>ihh p x hx;have new_:∀ y,((S i).hs++[y])[p]? =some x→(S i).hs[p]? =some x∨x=y:=by
   intro y hy;rw [List.getElem?_append] at hy
   split at hy
   ·exact .inl hy
   ·refine .inr ?_
    have:=(List.getElem?_eq_some_iff.1 hy).1
    have e0:p - (S i).hs.length=0:=by simp at this;omega
    rw [e0] at hy;simp at hy;exact hy.symm
  obtain⟨_,⟨_,v,s1,⟨h',g1⟩,g2⟩ | ⟨_,g2⟩⟩:=R.st i _ ho
  ·cases hk:kdOf P ops[i].op with
   | pure=>
        rw [hk] at g1;simp only at g1;have e9:(S (i+1)).hs=(S i).hs:=by rw [g2,g1.2]
        rw [e9] at hx;exact old hx
   | read=>
        rw [hk] at g1;simp only at g1;have e9:(S (i+1)).hs=(S i).hs:=by rw [g2,g1.2]
        rw [e9] at hx;exact old hx
   | quiet=>
         rw [hk] at g1;simp only at g1;have e9:(S (i+1)).hs=(S i).hs:=by rw [g2,g1.2]
         rw [e9] at hx;exact old hx
   | move=>
    rw [hk] at g1;simp only at g1;have hn1:(S (i+1)).h=h':=by rw [g2,g1.2]
    have e9:(S (i+1)).hs=(S i).hs++[(h',Nat.lor (S i).fl (msk ops i))]:=by rw [g2,g1.2]
    rw [e9] at hx
    rcases new_ _ hx with hx | rfl
    ·exact old hx
    ·have g:=(Jcw R.cs g1.1).1 hlim.1;have hqb:∀ e ∈ (S i).qt,e.2.1 < big5:=fun e he=>(R.qt_id (by omega) e he).2.1;intro id hsz hid hn;simp only;refine g.none_ id hsz (fun hh=>hid ⟨Nat.le_trans hlim.2 hh.1,by have h9:id < h'.n:=hh.2;rw [← hn1] at h9;omega⟩) ?_
     show get5 id (Z7 (S i).qt (msk ops i) (S i).fl (S i).h.t)=none
     rcases zf (a:=msk ops i) (fl:=(S i).fl) (t:=(S i).h.t) (id:=id) hsz (S i).qt hqb with ⟨q1,_⟩ | ⟨e',q1,q2,_⟩
     ·rw [q1,hlt];exact k2 id hsz hid hn
     ·have q9:=R.qt_id (by omega) e' q1;exact absurd ⟨by omega,by omega⟩ hid
  ·have e9:(S (i+1)).hs=if Y0 (kdOf P ops[i].op) then(S i).hs++[((S i).h,(S i).fl)] else(S i).hs:=by rw [g2]
   rw [e9] at hx
   split at hx
   ·rcases new_ _ hx with hx | rfl
    ·exact old hx
    ·intro id hsz hid hn
     show get5 id (S i).h.t=none
     rw [hlt];exact k2 id hsz hid hn
   ·exact old hx
end
end
end Go.Ev
namespace Go.Ev
open Go Go.Wf Go.RowKit
theorem Jvi{a b:Option Nat}(h:Ju7 a b=true):a=b:=by
 unfold Ju7 at h
 split at h
 ·rfl
 ·rw [Nat.eq_of_beq_eq_true h]
 ·cases h
theorem Jrg{a b:AV}(h:avEq a b=true):a=b:=by
 unfold avEq at h
 split at h
 ·rw [eq_of_beq h]
 ·obtain⟨h1,h2⟩:=Zp h;rw [Jgq] at h2;rw [Ks h1,of_decide_eq_true h2]
 ·rw [Jd8] at h;rw [of_decide_eq_true h]
 ·rfl
 ·obtain⟨h1,h2⟩:=Zp h;rw [Nat.eq_of_beq_eq_true h1,Nat.eq_of_beq_eq_true h2]
 ·rfl
 ·obtain⟨h,h5⟩:=Zp h;obtain⟨h,h4⟩:=Zp h;obtain⟨h,h3⟩:=Zp h;obtain⟨h1,h2⟩:=Zp h;rw [Nat.eq_of_beq_eq_true h1,Nat.eq_of_beq_eq_true h2,Nat.eq_of_beq_eq_true h3,Nat.eq_of_beq_eq_true h4,Jvi h5]
 ·rfl
 ·rfl
 ·cases h
theorem Js1:∀ (a b:List AV),Jrw a b=true→a=b:=by
 intro a
 induction a with
 | nil=>intro b h;cases b with
  | nil=>rfl
  | cons y b=>cases h
 | cons x a ih=>
  intro b h
  cases b with
  | nil=>cases h
  | cons y b=>
   have h:(Bool.rec false (Jrw a b) (avEq x y):Bool)=true:=h
   cases hb:avEq x y with
   | false=>rw [hb] at h;cases h
   | true=>rw [hb] at h;rw [Jrg hb,ih b h]
theorem Jtj{a b:AV}(h:Jkj a b=true):a=b:=by
 unfold Jkj at h
 split at h
 ·rw [Js1 _ _ h]
 ·exact Jrg h
def resF(l:List Nat)(f:Fr):Fr:=l.foldr (fun t acc=>setF t (getF t f) acc) (Jot AV.u)
theorem Jfb{l:List Nat}{f:Fr}(hl:∀ x ∈ l,x < 4096){t:Nat}(ht:t < 4096):getF t (resF l f)=if t ∈ l then getF t f else AV.u:=by
 induction l with
 | nil=>exact Jbu t AV.u
 | cons x l ih=>
  have ih:=ih fun y hy=>hl y (by simp [hy])
  show getF t (setF x (getF x f) (resF l f))=_
  rw [Xt _ _ _ _ ht (hl x (by simp)),ih]
  by_cases h1:t=x
  ·subst h1;simp
  ·rw [if_neg h1];simp [h1]
section
variable {P:Program} {call:CallF} {n:Nat} {ops:Array Oper} {f:Fr} {h:Hp} {S:Nat→DS}
theorem Jgs {Φ:Phi} {τ:Tau} {H:Hp} {w:World} {qt:QT} {a fl m:Nat} (r:Rel Φ τ H w) (h1:H.n≤m) (h2:m≤big5) (hq:∀ e ∈ qt,e.2.1 < m)
  (hb:∀ e ∈ qt,tb a e.1=true→tb fl e.1=false→∀ b,e.2.2=some b→Ko Φ τ w e.2.1 b):Rel Φ τ ⟨Z7 qt a fl H.t,m⟩ w:=by
 have hq5:∀ e ∈ qt,e.2.1 < big5:=fun e he=>by have:=hq e he;omega
 refine⟨h2,?_,?_⟩
 ·intro id b hid hg;have hid:id < m:=hid;have hg:get5 id (Z7 qt a fl H.t)=some b:=hg
  rcases zf (a:=a) (fl:=fl) (t:=H.t) (id:=id) (by omega) qt hq5 with ⟨q1,_⟩ | ⟨e,q1,q2,q3,q4,q5⟩
  ·rw [q1] at hg
   rcases Nat.lt_or_ge id H.n with hl | hl
   ·exact r.blk id b hl hg
   ·rw [r.fin id hl (by omega)] at hg;cases hg
  ·rw [q5] at hg;rw [← q2];exact hb e q1 q3 q4 b hg
 ·intro id hid h5;have hid:m≤id:=hid
  show get5 id (Z7 qt a fl H.t)=none
  rcases zf (a:=a) (fl:=fl) (t:=H.t) (id:=id) h5 qt hq5 with ⟨q1,_⟩ | ⟨e,q1,q2,_⟩
  ·rw [q1];exact r.fin id (by omega) h5
  ·have:=hq e q1;omega
def cnt(P:Program)(ops:Array Oper)(L:Array Bool):Nat:=(List.range ops.size).countP fun i=>L.getD i false && isMv P ops i
structure IvS (P:Program) (ops:Array Oper) (f:Fr) (h:Hp) (S:Nat→DS) (Φ0:Phi) (τ0:Tau) (w0:World) (L:Array Bool) (F:Wf.Fr) (w:World) (Φ:Phi) (τ:Tau):Prop where
 tw:Tw Φ0 τ0 h w0 Φ τ (S ops.size).h.n w
 fre:∀ i,i < ops.size→L.getD i false=false→Fre Φ (S i).h.n (S (i+1)).h.n
 fw:∀ t,t < 4096→∀ (j:Nat) (o:Oper),ops[j]? =some o→o.dst=some t→L.getD j false=true→Rv Φ (getF t (S (j+1)).f) (F t)
 f0:∀ t,t < 4096→(∀ (j:Nat) (o:Oper),ops[j]? =some o→o.dst=some t→L.getD j false=false)→Rv Φ (getF t f) (F t)
 rel:∀ x,(S ops.size).hs[cnt P ops L]? =some x→Rel Φ τ x.1 w
 qs:∀ x,(S ops.size).hs[cnt P ops L]? =some x→∀ e ∈ (S ops.size).qt,L.getD e.1 false=true→tb x.2 e.1=false→∀ b,e.2.2=some b→Ko Φ τ w e.2.1 b
theorem Jat{L:Array Bool}{i:Nat}(hi:i < L.size)(j:Nat):(L.setIfInBounds i true).getD j false=if j=i then true else L.getD j false:=by
 rw [Array.getD_eq_getD_getElem?,Array.getElem?_setIfInBounds]
 by_cases e:i=j
 ·subst e;simp [hi]
 ·rw [if_neg e,if_neg (fun h=>e h.symm),← Array.getD_eq_getD_getElem?]
theorem Jtt{L:Array Bool}{i:Nat}(hi:i < ops.size)(hs:L.size=ops.size)(hf:L.getD i false=false):cnt P ops (L.setIfInBounds i true)=cnt P ops L+if isMv P ops i then 1 else 0:=by
 cases hm:isMv P ops i with
 | true=>
  simp only [if_true];refine xa _ List.nodup_range _ _ i (by simpa using hi) ?_ ?_ ?_
  ·show((L.setIfInBounds i true).getD i false && isMv P ops i)=true;rw [Jat (by omega),if_pos rfl,hm];rfl
  ·show(L.getD i false && isMv P ops i)=false;rw [hf];rfl
  ·intro j hj
   show _=((L.setIfInBounds i true).getD j false && isMv P ops j)
   rw [Jat (by omega),if_neg hj]
 | false=>
  simp only [Bool.false_eq_true,if_false,Nat.add_zero];unfold cnt
  apply List.countP_congr
  intro j _;rw [Jat (by omega)]
  by_cases e:j=i
  ·subst e;rw [hm];simp
  ·rw [if_neg e]
theorem qk(p:Nat→Bool):∀ (N i:Nat),i≤N→(List.range N).countP (fun j=>decide (j < i) && p j)=(List.range i).countP p:=by
 intro N
 induction N with
 | zero=>
      intro i hi;have:i=0:=by omega
      subst this;rfl
 | succ N ih=>
  intro i hi;rw [List.range_succ,List.countP_append,List.countP_singleton]
  by_cases e:i=N+1
  ·subst e;rw [List.range_succ,List.countP_append,List.countP_singleton];have h1:(List.range N).countP (fun j=>decide (j < N+1) && p j)=(List.range N).countP p:=by
    apply List.countP_congr
    intro j hj
    have:j < N:=by simpa using hj
    simp [show j < N+1 by omega]
   rw [h1];simp
  ·rw [ih i (by omega)]
   have:decide (N < i)=false:=decide_eq_false (by omega)
   rw [this];simp
section
variable (R:Run P call n ops f h S) (K:Lk P n ops)
include K
omit K in
theorem notL{L:Array Bool}(hs:L.size=ops.size)(hc:Yh ops L){i j:Nat}(hj:j < ops.size)(hi:L.getD i false=false)(ha:tb (msk ops j) i=true):L.getD j false=false:=by
 cases hb:L.getD j false with
 | false=>rfl
 | true=>
  have ho:ops[j]? =some ops[j]:=by simp [hj]
  have hjj:L.getD j true=true:=by
   have:L[j]? =some L[j]:=by simp [hs,hj]
   simp [Array.getD_eq_getD_getElem?,this] at hb ⊢;exact hb
  have:=Jkw hs hc j _ i ho (fun e he hbe=>hc j hj hjj _ ho e he hbe) ha
  rw [hi] at this;cases this
theorem yr{L:Array Bool}(hs:L.size=ops.size)(hc:Yh ops L){i:Nat}{o:Oper}(ho:ops[i]? =some o)(hi:L.getD i false=false)(hp:∀ e ∈ o.after,Region.binds .any e=true→L.getD e.on false=true)(hm:isMv P ops i=true):cnt P ops L=mcn P ops i:=by
 have hiN:=(Array.getElem?_eq_some_iff.1 ho).1;unfold cnt mcn;rw [← qk (isMv P ops) ops.size i (by omega)]
 apply List.countP_congr
 intro j hj;have hj:j < ops.size:=by simpa using hj
 cases hmj:isMv P ops j with
 | false=>simp
 | true=>
  simp only [Bool.and_true]
  rcases Nat.lt_trichotomy j i with h1 | h1 | h1
  ·rw [decide_eq_true h1,Jkw hs hc i o j ho hp (K.chain j i h1 hmj hm)]
  ·subst h1;rw [hi];simp
  ·rw [decide_eq_false (by omega),notL hs hc hj hi (K.chain i j h1 hm hmj)]
include R
theorem frm {L:Array Bool} {F:Wf.Fr} {w w0:World} {Φ Φ0:Phi} {τ τ0:Tau} (I:IvS P ops f h S Φ0 τ0 w0 L F w Φ τ) (hs:L.size=ops.size) (hc:Yh ops L) {i:Nat} {o:Oper} (ho:ops[i]? =some o) (hi:L.getD i false=false)
  (hp:∀ e ∈ o.after,Region.binds .any e=true→L.getD e.on false=true) {t:Nat} (ht:t < 4096)
  (hw:∀ (j:Nat) (o':Oper),ops[j]? =some o'→o'.dst=some t→tb (msk ops i) j=true∨tb (msk ops j) i=true):Rv Φ (getF t (S i).f) (F t):=by
 have hiN:=(Array.getElem?_eq_some_iff.1 ho).1
 by_cases hex:∃ (j:Nat) (o':Oper),ops[j]? =some o'∧o'.dst=some t∧L.getD j false=true
 ·obtain⟨j,o',hj,hd,hl⟩:=hex;have hjN:=(Array.getElem?_eq_some_iff.1 hj).1
  rcases hw j o' hj hd with h1 | h1
  ·have hlt:=Jfr i o j ho K.back h1;have e1:getF t (S i).f=getF t (S (j+1)).f:=R.frames ht (j+1) i hlt (by omega) fun k ok h2 h3 hk hd2=>by
    have:=K.uniq j k o' ok t hj hk hd hd2
    omega
   rw [e1];exact I.fw t ht j o' hj hd hl
  ·have:=notL hs hc hjN hi h1
   rw [hl] at this;cases this
 ·have hall:∀ (j:Nat) (o':Oper),ops[j]? =some o'→o'.dst=some t→L.getD j false=false:=by
   intro j o' hj hd
   cases hb:L.getD j false with
   | false=>rfl
   | true=>exact absurd ⟨j,o',hj,hd,hb⟩ hex
  have e1:getF t (S i).f=getF t (S 0).f:=R.frames ht 0 i (Nat.zero_le _) (by omega) fun k ok _ h3 hk hd=>by
   rcases hw k ok hk hd with h1 | h1
   ·have:=Jkw hs hc i o k ho hp h1
    rw [hall k ok hk hd] at this;cases this
   ·have:=Jfr k ok i hk K.back h1
    omega
  rw [e1,R.s0];exact I.f0 t ht hall
theorem frmOp {L:Array Bool} {F:Wf.Fr} {w w0:World} {Φ Φ0:Phi} {τ τ0:Tau} (I:IvS P ops f h S Φ0 τ0 w0 L F w Φ τ) (hs:L.size=ops.size) (hc:Yh ops L) {i:Nat} {o:Oper} (ho:ops[i]? =some o) (hi:L.getD i false=false)
  (hp:∀ e ∈ o.after,Region.binds .any e=true→L.getD e.on false=true):∃ g,FR Φ g F∧∀ H,evOp P call o.op (S i).f H=evOp P call o.op g H:=by
 refine⟨resF ((kt o.op.operands.toList).filter (fun t=>decide (t < 4096))) (S i).f,?_,fun H=>Joy ?_⟩
 ·intro t ht;rw [Jfb (fun x hx=>by simpa using (List.mem_filter.1 hx).2) ht]
  split
  ·rename_i hm
   have hm:=(List.mem_filter.1 hm).1;exact frm R K I hs hc ho hi hp ht fun j o' hj hd=>K.read i o t j o' ho hm hj hd
  ·simp only [Rv]
 ·intro t hm ht;rw [Jfb (fun x hx=>by simpa using (List.mem_filter.1 hx).2) ht,if_pos];exact List.mem_filter.2 ⟨Jh8 hm,by simpa using ht⟩
theorem Jl1 {L:Array Bool} {F:Wf.Fr} {w w0:World} {Φ Φ0:Phi} {τ τ0:Tau} (I:IvS P ops f h S Φ0 τ0 w0 L F w Φ τ) (hs:L.size=ops.size) (hc:Yh ops L) {i:Nat} {o:Oper} (ho:ops[i]? =some o) (hi:L.getD i false=false)
  (hp:∀ e ∈ o.after,Region.binds .any e=true→L.getD e.on false=true) {b:Bool} (hw:zw ops o.guard (S i).f=some b):Region.wanted o (Zq ops F)=b:=by
 refine Jal (Φ:=Φ) hw fun p d hg hd=>?_
 show Rv Φ (Bool.rec AV.u (getF d (S i).f) (Nat.ble (Nat.succ d) 4096)) (F d)
 cases hb:Nat.ble (Nat.succ d) 4096 with
 | false=>simp only [Rv]
 | true=>
  have hd5:d < 4096:=Nat.le_of_ble_eq_true hb;rw [Option.bind_eq_some_iff] at hd;obtain⟨og,hog,hd⟩:=hd;refine frm R K I hs hc ho hi hp hd5 fun j o' hj hdj=>?_
  have:=K.uniq p.1 j og o' d hog hj hd hdj
  subst this;exact .inl (K.gd i o p ho hg)
end
end
end Go.Ev
