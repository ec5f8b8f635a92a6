/- Part 5 of the texts for the claim. -/
import Derived.Test.YtjiojpmoleilgaaGreatDoorNames4
set_option linter.unusedVariables false
set_option linter.unusedSimpArgs false
set_option maxRecDepth 100000
set_option maxHeartbeats 4000000
noncomputable section
namespace Go.Wf
open Go Go.Proofs Go.RowKit
theorem x_gcd{X:Nat→Prop}{w:World}(hX:XB X w){v0:Value}{a:GInt}(r0:RV Jx X w v0 a){v1:Value}{b:GInt}(r1:RV Jx X w v1 b)(hla:a.mag.length≤536870912)(hlb:b.mag.length≤536870912):Calls Tryz.prog 114 #[v0,v1] w (Ret w fun v w'=>RV Jx X w' v (ofZ ((Int.gcd a.toZ b.toZ:Nat):Int))):=by
 obtain⟨a1,c2,rfl,h3⟩:=RV.int r0;obtain⟨a4,c5,rfl,h6⟩:=RV.int r1;have C:=Cx.start hX;have sa:=r0.int_small;have sb:=r1.int_small;have hN:=Za sa;have hD:=Za sb;refine Cgo (args:=[(.agg #[(.bool a.neg),(.slice a1 a.mag.length c2)]),(.agg #[(.bool b.neg),(.slice a4 b.mag.length c5)])]) Tryz.func114 rfl rfl rfl (Rg (Ol (J3g C rfl ?_)));intro g7 w8 x9 y10 lt11 C12 s13 o14;refine Ol (J3g C12 rfl ?_);intro g15 w16 x17 y18 lt19 C20 s21 o22;replace h3:=(h3.sp s13).sp s21;replace h6:=(h6.sp s13).sp s21;refine Ol (J3b C20 io26 rfl ?_);intro g24 w25 x26 y27 lt28 C29 s30 o31;replace o14:=(o14.spn s21).spn s30;replace o22:=o22.spn s30;refine Nl (W.seq (J4j J5 6 [[],[0],[],[2],[],[]] ((x26,y27),Jl2) (RL X w) [fx (.agg #[(.bool a.neg),(.slice a1 a.mag.length c2)]),fun(s:GhL) (v:Value) (w':World)=>RV Jx s.1.1 w' v (ofZ (a.toZ.natAbs:Int)),fx (.agg #[(.bool b.neg),(.slice a4 b.mag.length c5)]),fun(s:GhL) (v:Value) (w':World)=>RV Jx s.1.1 w' v (ofZ (b.toZ.natAbs:Int)),fun(s:GhL) (v:Value) (w':World)=>∃ g':Nat,v= .pointer (some ⟨g',0,none⟩)∧Own w s.1.2 w' g' [(.bool false),(.slice none 0 0)] 26∧w25.heap.size≤g'∧s.2 g'=some 4,fun(s:GhL) (v:Value) (w':World)=>∃ g':Nat,v= .pointer (some ⟨g',0,none⟩)∧Own w s.1.2 w' g' [(.bool false),(.slice none 0 0)] 26∧w25.heap.size≤g'∧s.2 g'=some 5] (by kernel_rfl) (J4v C29) RL.trans ⟨sx,(fun _ _ _ _ _ h r=>RV.tr h r.rc.sp.tx),sx,(fun _ _ _ _ _ h r=>RV.tr h r.rc.sp.tx),(fun _ _ _ _ _ ⟨g,e,o,l,q⟩ r=>⟨g,e,o.spn r.rc.sp,l,r.ext _ _ q⟩),(fun _ _ _ _ _ ⟨g,e,o,l,q⟩ r=>⟨g,e,o.spn r.rc.sp,l,r.ext _ _ q⟩),trivial⟩ fun f74 s75 w76 r77 k78=>?_))
 have C79:=r77.rc.cx;have S80:=r77.rc.sp;have lt81:=o14.blk.lt;have lt82:=o22.blk.lt;have lt83:=o31.blk.lt;have hszS80:=S80.tx.size;replace h3:=(h3.sp s30).sp S80;replace h6:=(h6.sp s30).sp S80;replace o14:=o14.spn S80;replace o22:=o22.spn S80;replace o31:=o31.spn S80;have k78:Keep [11,12,13,14,5,6] _ f74:=k78;refine⟨⟨fun _=>?_,fun⟨e84,_⟩=>?_,fun _=>?_,fun⟨e85,_⟩=>?_,fun _=>?_,fun _=>?_,trivial⟩,fun⟨e86,d87,e88,d89,d90,d91,_⟩=>?_⟩
 ·exact Ja k78 aN fun _=>OpSt.op (J29 (vs:=[(.bool a.neg),(.slice a1 a.mag.length c2)]) o14 ag26 rfl rfl rfl ⟨s75,RL.same C79,rfl⟩)
 ·refine Ja k78 (aC e84 aN) fun _=>OpSt.op (J25 C79 Jtz rfl rfl (Jsi C79.bd (a:=a) (Jo h3) (by omega)) ?_);intro v92 w93 C94 s95 h96;exact⟨s75,J4g ⟨C94,s95⟩,h96⟩
 ·exact Ja k78 aN fun _=>OpSt.op (J29 (vs:=[(.bool b.neg),(.slice a4 b.mag.length c5)]) o22 ag26 rfl rfl rfl ⟨s75,RL.same C79,rfl⟩)
 ·refine Ja k78 (aC e85 aN) fun _=>OpSt.op (J25 C79 Jtz rfl rfl (Jsi C79.bd (a:=b) (Jo h6) (by omega)) ?_);intro v97 w98 C99 s100 h101;exact⟨s75,J4g ⟨C99,s100⟩,h101⟩
 ·refine Ja k78 aN fun _=>OpSt.op (J3b C79 io26 rfl ?_);intro g102 w103 x104 y105 lt106 C107 s108 o109;exact⟨((x104,y105),lab s75.2 g102 4),RL.new (r77.bd fun _ _ h=>by cases h) ⟨C107,s108⟩ (Nat.le_of_not_lt fun hh=>lt106 _ hh rfl) o109.blk.lt,g102,rfl,o109,Nat.le_of_not_lt fun hh=>lt106 _ (Nat.lt_of_lt_of_le hh hszS80) rfl,jq _ _ _⟩
 ·refine Ja k78 aN fun _=>OpSt.op (J3b C79 io26 rfl ?_);intro g113 w114 x115 y116 lt117 C118 s119 o120;exact⟨((x115,y116),lab s75.2 g113 5),RL.new (r77.bd fun _ _ h=>by cases h) ⟨C118,s119⟩ (Nat.le_of_not_lt fun hh=>lt117 _ hh rfl) o120.blk.lt,g113,rfl,o120,Nat.le_of_not_lt fun hh=>lt117 _ (Nat.lt_of_lt_of_le hh hszS80) rfl,jq _ _ _⟩
 obtain⟨a125,c126,e124,h127⟩:=RV.int d87;obtain⟨a129,c130,e128,h131⟩:=RV.int d89;obtain⟨g133,e132,o134,l135,q136⟩:=d90;have n137:g7≠g133:=Nat.ne_of_lt (Nat.lt_of_lt_of_le lt81 l135);have n138:g15≠g133:=Nat.ne_of_lt (Nat.lt_of_lt_of_le lt82 l135);have n139:g24≠g133:=Nat.ne_of_lt (Nat.lt_of_lt_of_le lt83 l135);obtain⟨g142,e141,o143,l144,q145⟩:=d91;have n146:g7≠g142:=Nat.ne_of_lt (Nat.lt_of_lt_of_le lt81 l144);have n147:g15≠g142:=Nat.ne_of_lt (Nat.lt_of_lt_of_le lt82 l144);have n148:g24≠g142:=Nat.ne_of_lt (Nat.lt_of_lt_of_le lt83 l144);have n149:g133≠g142:=Jkg q136 q145 rfl;obtain⟨f151,rfl⟩:=mixK k78 (aC e86 (aC e124 (aC e88 (aC e128 (aC e132 (aC e141 aN))))));refine On (J3a (cs':=[(.bool (ofZ (a.toZ.natAbs:Int)).neg),(.slice a125 (ofZ (a.toZ.natAbs:Int)).mag.length c126)]) C79 o134 io26 rfl rfl rfl rfl rfl rfl ?_);intro w152 C153 s154 o155;replace o143:=o143.spo s154 (Ne.symm n149);refine On (J3a (cs':=[(.bool (ofZ (b.toZ.natAbs:Int)).neg),(.slice a129 (ofZ (b.toZ.natAbs:Int)).mag.length c130)]) C153 o143 io26 rfl rfl rfl rfl rfl rfl ?_);intro w156 C157 s158 o159;replace h3:=(h3.sp s154).sp s158;replace h6:=(h6.sp s154).sp s158;replace h127:=(h127.sp s154).sp s158;replace h131:=(h131.sp s154).sp s158;replace o14:=(o14.spo s154 n137).spo s158 n146;replace o22:=(o22.spo s154 n138).spo s158 n147;replace o31:=(o31.spo s154 n139).spo s158 n148;replace o155:=o155.spo s158 n149;refine Nl (Rh (Ol (St.fieldAddr Jz rfl (Ol (J27 o155 pl24 rfl rfl (Ol (St.len sl24 rfl (Ol (J38 rfl rfl (fun hc160=>?_) (fun hc160=>?_))))))))))
 ·refine Om (Og rfl rfl (St.fieldAddr Jz rfl (Og rfl rfl (J27 o159 pl24 rfl rfl (Og rfl rfl (St.len sl24 rfl (Og rfl rfl (J38 rfl rfl (fun hc161=>?_) (fun hc161=>?_)))))))))
  ·refine OT (Nl (J26 rfl (W.seq (J3m J5 5 [[],[0],[1],[],[3]] C157 [fx (.pointer (some ⟨g133,1,none⟩)),fx (.slice a125 (ofZ (a.toZ.natAbs:Int)).mag.length c126),fx (.int .u64 (((val (ofZ (a.toZ.natAbs:Int)).mag):Nat):Int)),fx (.pointer (some ⟨g142,1,none⟩)),fx (.slice a129 (ofZ (b.toZ.natAbs:Int)).mag.length c130)] (by kernel_rfl) ⟨sx,sx,sx,sx,sx,trivial⟩ fun f168 s169 w170 ⟨C173,S174⟩ k172=>?_))))
   replace h127:=h127.sp S174;replace h131:=h131.sp S174;replace o155:=o155.spn S174;replace o159:=o159.spn S174;have k172:Keep [25,26,27,28,29] _ f168:=k172;refine⟨⟨fun _=>?_,fun⟨e180,_⟩=>?_,fun⟨e181,_⟩=>?_,fun _=>?_,fun⟨e182,_⟩=>?_,trivial⟩,fun⟨e183,e184,e185,e186,e187,_⟩=>?_⟩
   ·exact Ja k172 aN fun _=>OpSt.op (St.fieldAddr Jz rfl ⟨s169,RC.same C173,rfl⟩)
   ·exact Ja k172 (aC e180 aN) fun _=>OpSt.op (J27 o155 pl24 rfl rfl ⟨s169,RC.same C173,rfl⟩)
   ·refine Ja k172 (aC e181 aN) fun _=>OpSt.op (J25 C173 Jhb rfl rfl (xw C173.bd h127 (by omega)) ?_);intro v188 w189 C190 s191 h192;exact⟨s169,⟨C190,s191⟩,h192⟩
   ·exact Ja k172 aN fun _=>OpSt.op (St.fieldAddr Jz rfl ⟨s169,RC.same C173,rfl⟩)
   ·exact Ja k172 (aC e182 aN) fun _=>OpSt.op (J27 o159 pl24 rfl rfl ⟨s169,RC.same C173,rfl⟩)
   obtain⟨f193,rfl⟩:=mixK k172 (aC e183 (aC e184 (aC e185 (aC e186 (aC e187 aN)))));refine Ol (J25 C173 Jhb rfl rfl (xw C173.bd h131 (by omega)) ?_);intro v194 w195 C196 s197 h198;replace h3:=(h3.sp S174).sp s197;replace h6:=(h6.sp S174).sp s197;replace h127:=h127.sp s197;replace h131:=h131.sp s197;replace o14:=(o14.spn S174).spn s197;replace o22:=(o22.spn S174).spn s197;replace o31:=(o31.spn S174).spn s197;replace o155:=o155.spn s197;replace o159:=o159.spn s197;subst h198;refine Oa (Oa (Nl (W.seq (W.block (J3j (fun μ f v=>∃ (x y:Nat→Prop) (xx:Nat) (yy:Nat),Cx X w x y v∧f 4=(.pointer (some ⟨g24,0,none⟩))∧f 5=(.pointer (some ⟨g133,0,none⟩))∧f 6=(.pointer (some ⟨g142,0,none⟩))∧f 26=(.slice a125 (ofZ (a.toZ.natAbs:Int)).mag.length c126)∧f 7=(.int .u64 ((xx:Nat):Int))∧f 8=(.int .u64 ((yy:Nat):Int))∧RS Je x v (.slice a1 a.mag.length c2) a.mag∧RS Je x v (.slice a4 b.mag.length c5) b.mag∧RS Je x v (.slice a125 (ofZ (a.toZ.natAbs:Int)).mag.length c126) (ofZ (a.toZ.natAbs:Int)).mag∧RS Je x v (.slice a129 (ofZ (b.toZ.natAbs:Int)).mag.length c130) (ofZ (b.toZ.natAbs:Int)).mag∧Own w y v g7 [(.bool a.neg),(.slice a1 a.mag.length c2)] 26∧Own w y v g15 [(.bool b.neg),(.slice a4 b.mag.length c5)] 26∧Own w y v g24 [(.bool false),(.slice none 0 0)] 26∧Own w y v g133 [(.bool (ofZ (a.toZ.natAbs:Int)).neg),(.slice a125 (ofZ (a.toZ.natAbs:Int)).mag.length c126)] 26∧Own w y v g142 [(.bool (ofZ (b.toZ.natAbs:Int)).neg),(.slice a129 (ofZ (b.toZ.natAbs:Int)).mag.length c130)] 26∧xx < 18446744073709551616∧yy < 18446744073709551616∧Nat.gcd xx yy=Int.gcd a.toZ b.toZ∧μ=yy) _ ⟨_,_,(val (ofZ (a.toZ.natAbs:Int)).mag),(val (ofZ (b.toZ.natAbs:Int)).mag),C196,rfl,rfl,rfl,rfl,rfl,rfl,h3,h6,h127,h131,o14,o22,o31,o155,o159,(Kb (Kg _) (by omega)),(Kb (Kg _) (by omega)),(by rw [Ki,Ki,Int.natAbs_natCast,Int.natAbs_natCast];rfl),rfl⟩ ?_)))));rintro m216 f199 w200 ⟨x201,y202,xx,yy,C203,e204,e205,e206,e207,e208,e209,h3,h6,h127,h131,o210,o211,o212,o213,o214,hx,hy,hxy,hmu215⟩;obtain⟨f217,rfl⟩:=rebK (aC e204 (aC e205 (aC e206 (aC e207 (aC e208 (aC e209 aN))))));clear e204 e205 e206 e207 e208 e209;refine Rh (Om (Ol (J3u rfl rfl (fun hc218=>?_) (fun hc218=>?_))))
   ·refine Nl (J26 rfl (W.skip (W.block (Go.Ev.W.swapRem J5 rfl rfl (by kernel_rfl) (by kernel_rfl) rfl rfl (by omega) (X4 xx yy) ?_))));intro f219 hK220 hp221 hq222;have R223:=J4e C203;have C224:=R223.cx;have S225:=R223.sp;replace h3:=h3.sp S225;replace h6:=h6.sp S225;replace h127:=h127.sp S225;replace h131:=h131.sp S225;replace o210:=o210.spn S225;replace o211:=o211.spn S225;replace o212:=o212.spn S225;replace o213:=o213.spn S225;replace o214:=o214.spn S225;have hK220:Keep [33,34,35,36,7,8] _ f219:=hK220;obtain⟨f226,rfl⟩:=mixK hK220 (aC hp221 (aC hq222 aN));refine⟨_,(by have:=Nat.mod_lt xx (show 0 < yy by omega);omega),_,_,yy,xx % yy,C224,rfl,rfl,rfl,rfl,rfl,rfl,h3,h6,h127,h131,o210,o211,o212,o213,o214,hy,(by have:=Nat.mod_lt xx (show 0 < yy by omega);omega),(by rw [z6,hxy]),rfl⟩
   refine Nl (J28 rfl (W.exit (Rg (Om (Ol (J25 C203 Jt7 rfl rfl (Je2 C203.bd (n:=xx) hx) ?_))))));intro v228 w229 C230 s231 h232;obtain⟨a233,c234,rfl,_,_⟩:=h232.len;refine Ol (J25 C230 zt rfl rfl (Y2 C230.bd h232 (by have h7:(digs xx).length≤2:=J1 (by omega);omega)) ?_);intro v235 w236 C237 s238 h239;replace o212:=(o212.spn s231).spn s238;obtain⟨a240,c241,rfl,h242⟩:=RV.int h239;refine On (J3a (cs':=[(.bool (ofZ (Jk false (val (digs xx)))).neg),(.slice a240 (ofZ (Jk false (val (digs xx)))).mag.length c241)]) C237 o212 io26 rfl rfl rfl rfl rfl rfl ?_);intro w243 C244 s245 o246;replace h242:=h242.sp s245;refine Nl (W.ret (J7 rfl (resV.c o246 rfl ag26 rfl) (Ret.intro ?_ C244.below)));exact J3l (a:=(ofZ (Jk false (val (digs xx))))) ((Jo h242).tr (Tr.weak C244.base)) (congrArg ofZ (by rw [Js,Z9,← hxy,show yy=0 by omega,Nat.gcd_zero_right]))
  refine OT (Nl (J28 rfl (W.skip (W.seq (W.block (J3j (fun μ f v=>∃ (x y:Nat→Prop) (xx:Int) (yy:Int) (p:Option Addr) (pc:Nat) (q:Option Addr) (qc:Nat),Cx X w x y v∧f 4=(.pointer (some ⟨g24,0,none⟩))∧f 5=(.pointer (some ⟨g133,0,none⟩))∧f 6=(.pointer (some ⟨g142,0,none⟩))∧RS Je x v (.slice a1 a.mag.length c2) a.mag∧RS Je x v (.slice a4 b.mag.length c5) b.mag∧RS Je x v (.slice p (ofZ xx).mag.length pc) (ofZ xx).mag∧RS Je x v (.slice q (ofZ yy).mag.length qc) (ofZ yy).mag∧Own w y v g7 [(.bool a.neg),(.slice a1 a.mag.length c2)] 26∧Own w y v g15 [(.bool b.neg),(.slice a4 b.mag.length c5)] 26∧Own w y v g24 [(.bool false),(.slice none 0 0)] 26∧Own w y v g133 [(.bool (ofZ xx).neg),(.slice p (ofZ xx).mag.length pc)] 26∧Own w y v g142 [(.bool (ofZ yy).neg),(.slice q (ofZ yy).mag.length qc)] 26∧0≤xx∧0≤yy∧Int.gcd xx yy=Int.gcd a.toZ b.toZ∧(ofZ xx).mag.length≤536870912∧(ofZ yy).mag.length≤536870912∧μ=yy.natAbs) _ ⟨_,_,((a.toZ.natAbs:Nat):Int),((b.toZ.natAbs:Nat):Int),a125,c126,a129,c130,C157,rfl,rfl,rfl,h3,h6,h127,h131,o14,o22,o31,o155,o159,(Int.natCast_nonneg _),(Int.natCast_nonneg _),(Jln _ _),(by rw [qo];omega),(by rw [qo];omega),rfl⟩ ?_))))));rintro m261 f247 w248 ⟨x249,y250,xx,yy,p,pc,q,qc,C251,e252,e253,e254,h3,h6,hA,hB,o255,o256,o257,o258,o259,hx0,hy0,hgg,hlx,hly,hmu260⟩;obtain⟨f262,rfl⟩:=rebK (aC e252 (aC e253 (aC e254 aN)));clear e252 e253 e254;refine Rh (Ol (St.fieldAddr Jz rfl (Ol (J27 o259 pl24 rfl rfl (Ol (St.len sl24 rfl (Ol (J3u rfl rfl (fun hc263=>?_) (fun hc263=>?_)))))))))
  ·refine Nl (J26 rfl (W.skip (W.block (Rg (Ol (J29 (vs:=[(.bool (ofZ xx).neg),(.slice p (ofZ xx).mag.length pc)]) o258 ag26 rfl rfl rfl (Ol (J29 (vs:=[(.bool (ofZ yy).neg),(.slice q (ofZ yy).mag.length qc)]) o259 ag26 rfl rfl rfl (Ol (J25 C251 Js0 rfl rfl (Jae C251.bd (a:=(ofZ xx)) (Jo hA) (b:=(ofZ yy)) (Jo hB) hlx hly (Jlr (by omega))) ?_))))))))));intro v264 w265 C266 s267 h268;replace h3:=h3.sp s267;replace h6:=h6.sp s267;replace hB:=hB.sp s267;replace o255:=o255.spn s267;replace o256:=o256.spn s267;replace o257:=o257.spn s267;replace o258:=o258.spn s267;replace o259:=o259.spn s267;simp only [Jw,Xy] at h268;obtain⟨v269,v270,rfl,h271,h272⟩:=h268;obtain⟨a273,c274,rfl,h275⟩:=RV.int h271;obtain⟨a276,c277,rfl,h278⟩:=RV.int h272;refine Om (Ol (St.extract rfl rfl (Ol (St.extract rfl rfl (Ol (J3b C266 io26 rfl ?_))))));intro g279 w280 x281 y282 lt283 C284 s285 o286;have n287:=lt283 _ o255.blk.lt;have n288:=lt283 _ o256.blk.lt;have n289:=lt283 _ o257.blk.lt;have n290:=lt283 _ o258.blk.lt;have n291:=lt283 _ o259.blk.lt;replace o255:=o255.spn s285;replace o256:=o256.spn s285;replace o257:=o257.spn s285;replace o258:=o258.spn s285;replace o259:=o259.spn s285;refine Ol (J3b C284 io26 rfl ?_);intro g292 w293 x294 y295 lt296 C297 s298 o299;have n300:=lt296 _ o255.blk.lt;have n301:=lt296 _ o256.blk.lt;have n302:=lt296 _ o257.blk.lt;have n303:=lt296 _ o258.blk.lt;have n304:=lt296 _ o259.blk.lt;have n305:=lt296 _ o286.blk.lt;replace h3:=(h3.sp s285).sp s298;replace h6:=(h6.sp s285).sp s298;replace hB:=(hB.sp s285).sp s298;replace h278:=(h278.sp s285).sp s298;replace o255:=o255.spn s298;replace o256:=o256.spn s298;replace o257:=o257.spn s298;replace o258:=o258.spn s298;replace o259:=o259.spn s298;replace o286:=o286.spn s298;refine On (J3a (cs':=[(.bool (ofZ (xx / yy)).neg),(.slice a273 (ofZ (xx / yy)).mag.length c274)]) C297 o286 io26 rfl rfl rfl rfl rfl rfl ?_);intro w306 C307 s308 o309;replace o299:=o299.spo s308 (Ne.symm n305);refine On (J3a (cs':=[(.bool (ofZ (xx % yy)).neg),(.slice a276 (ofZ (xx % yy)).mag.length c277)]) C307 o299 io26 rfl rfl rfl rfl rfl rfl ?_);intro w310 C311 s312 o313;replace h3:=(h3.sp s308).sp s312;replace h6:=(h6.sp s308).sp s312;replace hB:=(hB.sp s308).sp s312;replace h278:=(h278.sp s308).sp s312;replace o255:=(o255.spo s308 n287).spo s312 n300;replace o256:=(o256.spo s308 n288).spo s312 n301;replace o257:=(o257.spo s308 n289).spo s312 n302;replace o258:=(o258.spo s308 n290).spo s312 n303;replace o259:=(o259.spo s308 n291).spo s312 n304;refine Nl (Rg (Ol (J29 (vs:=[(.bool (ofZ yy).neg),(.slice q (ofZ yy).mag.length qc)]) o259 ag26 rfl rfl rfl (On (J3a (cs':=[(.bool (ofZ yy).neg),(.slice q (ofZ yy).mag.length qc)]) C311 o258 io26 rfl rfl rfl rfl rfl rfl ?_)))));intro w314 C315 s316 o317;replace o259:=o259.spo s316 (Ne.symm n149);replace o313:=o313.spo s316 (Ne.symm n303);refine Nl (W.region (Ol (J29 (vs:=[(.bool (ofZ (xx % yy)).neg),(.slice a276 (ofZ (xx % yy)).mag.length c277)]) o313 ag26 rfl rfl rfl (On (J3a (cs':=[(.bool (ofZ (xx % yy)).neg),(.slice a276 (ofZ (xx % yy)).mag.length c277)]) C315 o259 io26 rfl rfl rfl rfl rfl rfl ?_)))))
   intro w318 C319 s320 o321;replace h3:=(h3.sp s316).sp s320;replace h6:=(h6.sp s316).sp s320;replace hB:=(hB.sp s316).sp s320;replace h278:=(h278.sp s316).sp s320;replace o255:=(o255.spo s316 n137).spo s320 n146;replace o256:=(o256.spo s316 n138).spo s320 n147;replace o257:=(o257.spo s316 n139).spo s320 n148;replace o317:=o317.spo s320 n149;refine Nl (⟨_,(by have h7:=ql (x:=xx) hy0 (by omega);omega),_,_,yy,(xx % yy),q,qc,a276,c277,C319,rfl,rfl,rfl,h3,h6,hB,h278,o255,o256,o257,o317,o321,hy0,(Jp0 (by omega)),(by rw [Jbw hx0 hy0,hgg]),hly,(Nat.le_trans (Jda (by omega)) hly),rfl⟩)
  refine Nl (J28 rfl (W.exit (Rg (Ol (J29 (vs:=[(.bool (ofZ xx).neg),(.slice p (ofZ xx).mag.length pc)]) o258 ag26 rfl rfl rfl (On (J3a (cs':=[(.bool (ofZ xx).neg),(.slice p (ofZ xx).mag.length pc)]) C251 o257 io26 rfl rfl rfl rfl rfl rfl ?_)))))));intro w322 C323 s324 o325;replace hA:=hA.sp s324;refine Nl (W.ret (J7 rfl (resV.c o325 rfl ag26 rfl) (Ret.intro ?_ C323.below)));exact J3l (a:=(ofZ xx)) ((Jo hA).tr (Tr.weak C323.base)) (congrArg ofZ (Jf7 hx0 hgg (by omega)))
 refine Om (Oz (Oz (Oz (Oz (OF (Nl (J28 rfl (W.skip (W.seq (W.block (J3j (fun μ f v=>∃ (x y:Nat→Prop) (xx:Int) (yy:Int) (p:Option Addr) (pc:Nat) (q:Option Addr) (qc:Nat),Cx X w x y v∧f 4=(.pointer (some ⟨g24,0,none⟩))∧f 5=(.pointer (some ⟨g133,0,none⟩))∧f 6=(.pointer (some ⟨g142,0,none⟩))∧RS Je x v (.slice a1 a.mag.length c2) a.mag∧RS Je x v (.slice a4 b.mag.length c5) b.mag∧RS Je x v (.slice p (ofZ xx).mag.length pc) (ofZ xx).mag∧RS Je x v (.slice q (ofZ yy).mag.length qc) (ofZ yy).mag∧Own w y v g7 [(.bool a.neg),(.slice a1 a.mag.length c2)] 26∧Own w y v g15 [(.bool b.neg),(.slice a4 b.mag.length c5)] 26∧Own w y v g24 [(.bool false),(.slice none 0 0)] 26∧Own w y v g133 [(.bool (ofZ xx).neg),(.slice p (ofZ xx).mag.length pc)] 26∧Own w y v g142 [(.bool (ofZ yy).neg),(.slice q (ofZ yy).mag.length qc)] 26∧0≤xx∧0≤yy∧Int.gcd xx yy=Int.gcd a.toZ b.toZ∧(ofZ xx).mag.length≤536870912∧(ofZ yy).mag.length≤536870912∧μ=yy.natAbs) _ ⟨_,_,((a.toZ.natAbs:Nat):Int),((b.toZ.natAbs:Nat):Int),a125,c126,a129,c130,C157,rfl,rfl,rfl,h3,h6,h127,h131,o14,o22,o31,o155,o159,(Int.natCast_nonneg _),(Int.natCast_nonneg _),(Jln _ _),(by rw [qo];omega),(by rw [qo];omega),rfl⟩ ?_)))))))))));rintro m340 f326 w327 ⟨x328,y329,xx,yy,p,pc,q,qc,C330,e331,e332,e333,h3,h6,hA,hB,o334,o335,o336,o337,o338,hx0,hy0,hgg,hlx,hly,hmu339⟩;obtain⟨f341,rfl⟩:=rebK (aC e331 (aC e332 (aC e333 aN)));clear e331 e332 e333;refine Rh (Ol (St.fieldAddr Jz rfl (Ol (J27 o338 pl24 rfl rfl (Ol (St.len sl24 rfl (Ol (J3u rfl rfl (fun hc342=>?_) (fun hc342=>?_)))))))))
 ·refine Nl (J26 rfl (W.skip (W.block (Rg (Ol (J29 (vs:=[(.bool (ofZ xx).neg),(.slice p (ofZ xx).mag.length pc)]) o337 ag26 rfl rfl rfl (Ol (J29 (vs:=[(.bool (ofZ yy).neg),(.slice q (ofZ yy).mag.length qc)]) o338 ag26 rfl rfl rfl (Ol (J25 C330 Js0 rfl rfl (Jae C330.bd (a:=(ofZ xx)) (Jo hA) (b:=(ofZ yy)) (Jo hB) hlx hly (Jlr (by omega))) ?_))))))))));intro v343 w344 C345 s346 h347;replace h3:=h3.sp s346;replace h6:=h6.sp s346;replace hB:=hB.sp s346;replace o334:=o334.spn s346;replace o335:=o335.spn s346;replace o336:=o336.spn s346;replace o337:=o337.spn s346;replace o338:=o338.spn s346;simp only [Jw,Xy] at h347;obtain⟨v348,v349,rfl,h350,h351⟩:=h347;obtain⟨a352,c353,rfl,h354⟩:=RV.int h350;obtain⟨a355,c356,rfl,h357⟩:=RV.int h351;refine Om (Ol (St.extract rfl rfl (Ol (St.extract rfl rfl (Ol (J3b C345 io26 rfl ?_))))));intro g358 w359 x360 y361 lt362 C363 s364 o365;have n366:=lt362 _ o334.blk.lt;have n367:=lt362 _ o335.blk.lt;have n368:=lt362 _ o336.blk.lt;have n369:=lt362 _ o337.blk.lt;have n370:=lt362 _ o338.blk.lt;replace o334:=o334.spn s364;replace o335:=o335.spn s364;replace o336:=o336.spn s364;replace o337:=o337.spn s364;replace o338:=o338.spn s364;refine Ol (J3b C363 io26 rfl ?_);intro g371 w372 x373 y374 lt375 C376 s377 o378;have n379:=lt375 _ o334.blk.lt;have n380:=lt375 _ o335.blk.lt;have n381:=lt375 _ o336.blk.lt;have n382:=lt375 _ o337.blk.lt;have n383:=lt375 _ o338.blk.lt;have n384:=lt375 _ o365.blk.lt;replace h3:=(h3.sp s364).sp s377;replace h6:=(h6.sp s364).sp s377;replace hB:=(hB.sp s364).sp s377;replace h357:=(h357.sp s364).sp s377;replace o334:=o334.spn s377;replace o335:=o335.spn s377;replace o336:=o336.spn s377;replace o337:=o337.spn s377;replace o338:=o338.spn s377;replace o365:=o365.spn s377;refine On (J3a (cs':=[(.bool (ofZ (xx / yy)).neg),(.slice a352 (ofZ (xx / yy)).mag.length c353)]) C376 o365 io26 rfl rfl rfl rfl rfl rfl ?_);intro w385 C386 s387 o388;replace o378:=o378.spo s387 (Ne.symm n384);refine On (J3a (cs':=[(.bool (ofZ (xx % yy)).neg),(.slice a355 (ofZ (xx % yy)).mag.length c356)]) C386 o378 io26 rfl rfl rfl rfl rfl rfl ?_);intro w389 C390 s391 o392;replace h3:=(h3.sp s387).sp s391;replace h6:=(h6.sp s387).sp s391;replace hB:=(hB.sp s387).sp s391;replace h357:=(h357.sp s387).sp s391;replace o334:=(o334.spo s387 n366).spo s391 n379;replace o335:=(o335.spo s387 n367).spo s391 n380;replace o336:=(o336.spo s387 n368).spo s391 n381;replace o337:=(o337.spo s387 n369).spo s391 n382;replace o338:=(o338.spo s387 n370).spo s391 n383;refine Nl (Rg (Ol (J29 (vs:=[(.bool (ofZ yy).neg),(.slice q (ofZ yy).mag.length qc)]) o338 ag26 rfl rfl rfl (On (J3a (cs':=[(.bool (ofZ yy).neg),(.slice q (ofZ yy).mag.length qc)]) C390 o337 io26 rfl rfl rfl rfl rfl rfl ?_)))));intro w393 C394 s395 o396;replace o338:=o338.spo s395 (Ne.symm n149);replace o392:=o392.spo s395 (Ne.symm n382);refine Nl (W.region (Ol (J29 (vs:=[(.bool (ofZ (xx % yy)).neg),(.slice a355 (ofZ (xx % yy)).mag.length c356)]) o392 ag26 rfl rfl rfl (On (J3a (cs':=[(.bool (ofZ (xx % yy)).neg),(.slice a355 (ofZ (xx % yy)).mag.length c356)]) C394 o338 io26 rfl rfl rfl rfl rfl rfl ?_)))))
  intro w397 C398 s399 o400;replace h3:=(h3.sp s395).sp s399;replace h6:=(h6.sp s395).sp s399;replace hB:=(hB.sp s395).sp s399;replace h357:=(h357.sp s395).sp s399;replace o334:=(o334.spo s395 n137).spo s399 n146;replace o335:=(o335.spo s395 n138).spo s399 n147;replace o336:=(o336.spo s395 n139).spo s399 n148;replace o396:=o396.spo s399 n149;refine Nl (⟨_,(by have h7:=ql (x:=xx) hy0 (by omega);omega),_,_,yy,(xx % yy),q,qc,a355,c356,C398,rfl,rfl,rfl,h3,h6,hB,h357,o334,o335,o336,o396,o400,hy0,(Jp0 (by omega)),(by rw [Jbw hx0 hy0,hgg]),hly,(Nat.le_trans (Jda (by omega)) hly),rfl⟩)
 refine Nl (J28 rfl (W.exit (Rg (Ol (J29 (vs:=[(.bool (ofZ xx).neg),(.slice p (ofZ xx).mag.length pc)]) o337 ag26 rfl rfl rfl (On (J3a (cs':=[(.bool (ofZ xx).neg),(.slice p (ofZ xx).mag.length pc)]) C330 o336 io26 rfl rfl rfl rfl rfl rfl ?_)))))));intro w401 C402 s403 o404;replace hA:=hA.sp s403;refine Nl (W.ret (J7 rfl (resV.c o404 rfl ag26 rfl) (Ret.intro ?_ C402.below)));exact J3l (a:=(ofZ xx)) ((Jo hA).tr (Tr.weak C402.base)) (congrArg ofZ (Jf7 hx0 hgg (by omega)))
theorem x_of{X:Nat→Prop}{w:World}(hX:XB X w){n:Int}(hlo: -9223372036854775808≤n)(hhi:n≤9223372036854775807):Calls Tryz.prog 117 #[(.int .i64 n)] w (Ret w fun v w'=>RV Jx X w' v (ofZ n)):=by
 have C:=Cx.start hX;refine Cgo (args:=[(.int .i64 n)]) Tryz.func117 rfl rfl rfl (Rg (Ol (J3b C io26 rfl ?_)));intro g1 w2 x3 y4 lt5 C6 s7 o8;refine Nl (Rg (Om (Ol (J3d (z:=(n % 18446744073709551616)) us3 Yn rfl (by rw [IntKind.wrap_u64]) (Oa (Nl (Rh (Om (Ol (J3i rfl rfl (fun hc9=>?_) (fun hc9=>?_)))))))))))
 ·refine Nl (J26 rfl (W.region (Om (Ol (St.neg (z:=((n.natAbs:Nat):Int)) rfl (by rw [IntKind.wrap_u64];omega) (Oa (Nl (Rg (Om (Ol (St.lss rfl rfl rfl (Om (Ol (J3d (z:=((n.natAbs % 4294967296:Nat):Int)) Yz Yy rfl (Jn _) (Om (Ol (St.shr rfl rfl (by decide) (Yx (d:=4294967296) _ (by decide)) ?_)))))))))))))))));refine Ol (J3d (z:=(((n.natAbs / 4294967296) % 4294967296:Nat):Int)) Yz Yy rfl (Jn _) (Ol (J3t (T:=Je) (css:=[[(.int .u32 ((n.natAbs % 4294967296:Nat):Int))],[(.int .u32 (((n.natAbs / 4294967296) % 4294967296:Nat):Int))]]) (l:=[n.natAbs % 4294967296,(n.natAbs / 4294967296) % 4294967296]) C6 sl24 Ji (by decide) (by decide) rfl (by kernel_rfl) ⟨⟨rfl,(Nat.mod_lt _ (by decide))⟩,⟨rfl,(Nat.mod_lt _ (by decide))⟩,trivial⟩ ?_)));intro g14 w10 C11 s12 h13;refine Ol (J25 C11 zt rfl rfl (Y2 C11.bd h13 (by simp)) ?_);intro v17 w18 C19 s20 h21;replace o8:=(o8.spn s12).spn s20;obtain⟨a22,c23,rfl,h24⟩:=RV.int h21;refine On (J3a (cs':=[(.bool (ofZ (Jk (decide (n < 0)) (val [n.natAbs % 4294967296,(n.natAbs / 4294967296) % 4294967296]))).neg),(.slice a22 (ofZ (Jk (decide (n < 0)) (val [n.natAbs % 4294967296,(n.natAbs / 4294967296) % 4294967296]))).mag.length c23)]) C19 o8 io26 rfl rfl rfl rfl rfl rfl ?_);intro w25 C26 s27 o28;replace h24:=h24.sp s27;refine Nl (W.ret (J7 rfl (resV.c o28 rfl ag26 rfl) (Ret.intro ?_ C26.below)));exact J3l (a:=(ofZ (Jk (decide (n < 0)) (val [n.natAbs % 4294967296,(n.natAbs / 4294967296) % 4294967296])))) ((Jo h24).tr (Tr.weak C26.base)) (congrArg ofZ (by rw [xd (by omega)];unfold Jk;split <;> simp_all <;> omega))
 refine Nl (J28 rfl (W.skip (W.seq ?_)));rw [show n % 18446744073709551616=((n.natAbs:Nat):Int) by omega];refine W.region (Om (Ol (St.lss rfl rfl rfl (Om (Ol (J3d (z:=((n.natAbs % 4294967296:Nat):Int)) Yz Yy rfl (Jn _) (Om (Ol (St.shr rfl rfl (by decide) (Yx (d:=4294967296) _ (by decide)) (Ol (J3d (z:=(((n.natAbs / 4294967296) % 4294967296:Nat):Int)) Yz Yy rfl (Jn _) ?_)))))))))));refine Ol (J3t (T:=Je) (css:=[[(.int .u32 ((n.natAbs % 4294967296:Nat):Int))],[(.int .u32 (((n.natAbs / 4294967296) % 4294967296:Nat):Int))]]) (l:=[n.natAbs % 4294967296,(n.natAbs / 4294967296) % 4294967296]) C6 sl24 Ji (by decide) (by decide) rfl (by kernel_rfl) ⟨⟨rfl,(Nat.mod_lt _ (by decide))⟩,⟨rfl,(Nat.mod_lt _ (by decide))⟩,trivial⟩ ?_);intro g33 w29 C30 s31 h32;refine Ol (J25 C30 zt rfl rfl (Y2 C30.bd h32 (by simp)) ?_);intro v36 w37 C38 s39 h40;replace o8:=(o8.spn s31).spn s39;obtain⟨a41,c42,rfl,h43⟩:=RV.int h40;refine On (J3a (cs':=[(.bool (ofZ (Jk (decide (n < 0)) (val [n.natAbs % 4294967296,(n.natAbs / 4294967296) % 4294967296]))).neg),(.slice a41 (ofZ (Jk (decide (n < 0)) (val [n.natAbs % 4294967296,(n.natAbs / 4294967296) % 4294967296]))).mag.length c42)]) C38 o8 io26 rfl rfl rfl rfl rfl rfl ?_);intro w44 C45 s46 o47;replace h43:=h43.sp s46;refine Nl (W.ret (J7 rfl (resV.c o47 rfl ag26 rfl) (Ret.intro ?_ C45.below)));exact J3l (a:=(ofZ (Jk (decide (n < 0)) (val [n.natAbs % 4294967296,(n.natAbs / 4294967296) % 4294967296])))) ((Jo h43).tr (Tr.weak C45.base)) (congrArg ofZ (by rw [xd (by omega)];unfold Jk;split <;> simp_all <;> omega))
theorem Jrm{X:Nat→Prop}{w:World}(hX:XB X w){v0:Value}{a:GInt}(r0:RV Jx X w v0 a){v1:Value}{b:GInt}(r1:RV Jx X w v1 b)(hla:a.mag.length≤1099511627776)(hlb:b.mag.length≤1099511627776):Calls Tryz.prog 116 #[v0,v1] w (Ret w fun v w'=>v=(.bool (decide (a=b)))):=by
 obtain⟨a1,c2,rfl,h3⟩:=RV.int r0;obtain⟨a4,c5,rfl,h6⟩:=RV.int r1;have C:=Cx.start hX;refine Cgo (args:=[(.agg #[(.bool a.neg),(.slice a1 a.mag.length c2)]),(.agg #[(.bool b.neg),(.slice a4 b.mag.length c5)])]) Tryz.func116 rfl rfl rfl (Rg (Ol (J3g C rfl ?_)));intro g7 w8 x9 y10 lt11 C12 s13 o14;refine Ol (J3g C12 rfl ?_);intro g15 w16 x17 y18 lt19 C20 s21 o22;replace h3:=(h3.sp s13).sp s21;replace h6:=(h6.sp s13).sp s21;replace o14:=o14.spn s21;refine Oa (Nl (Rh (Ol (St.fieldAddr Zv rfl (Ol (J27 o14 pl4 rfl rfl (Ol (St.fieldAddr Zv rfl (Ol (J27 o22 pl4 rfl rfl (Ol (St.bool (J4b un4 rfl rfl rfl ⟨_,rfl,fun hb24=>?_,fun hb24=>?_⟩)))))))))))))
 ·exact Om (Oz (Oz (Oz (Oz (Oz (Oz (Oz (OT (Nl (J26 rfl (Rg (Oa (Nl (W.ret (Wq rfl rfl C20 (congrArg (Value.bool) (Jnz hb24)))))))))))))))))
 refine Om (Og rfl rfl (St.fieldAddr Jz rfl (Og rfl rfl (J27 o14 pl24 rfl rfl (Og rfl rfl (St.len sl24 rfl (Og rfl rfl (St.fieldAddr Jz rfl (Og rfl rfl (J27 o22 pl24 rfl rfl (Og rfl rfl (St.len sl24 rfl (Og rfl rfl (J3q rfl rfl (fun hc25=>?_) (fun hc25=>?_)))))))))))))))
 ·exact OF (Nl (J26 rfl (Rg (Oa (Nl (W.ret (Wq rfl rfl C20 (congrArg (Value.bool) (Jox hc25)))))))))
 refine OF (Nl (J28 rfl (W.skip (Rh (Oa (Nl (W.block (J3j (fun μ f v=>∃ (x y:Nat→Prop) (i:Nat),Cx X w x y v∧f 2=(.pointer (some ⟨g7,0,none⟩))∧f 3=(.pointer (some ⟨g15,0,none⟩))∧f 5=(.int .i64 ((i:Nat):Int))∧RS Je x v (.slice a1 a.mag.length c2) a.mag∧RS Je x v (.slice a4 b.mag.length c5) b.mag∧Own w y v g7 [(.bool a.neg),(.slice a1 a.mag.length c2)] 26∧Own w y v g15 [(.bool b.neg),(.slice a4 b.mag.length c5)] 26∧i≤a.mag.length∧a.mag.take i=b.mag.take i∧μ=(a.mag.length - i)) _ ⟨_,_,0,C20,rfl,rfl,rfl,h3,h6,o14,o22,(Nat.zero_le _),rfl,rfl⟩ ?_))))))));rintro m37 f26 w27 ⟨x28,y29,i,C30,e31,e32,e33,h3,h6,o34,o35,hi,he,hmu36⟩;obtain⟨f38,rfl⟩:=rebK (aC e31 (aC e32 (aC e33 aN)));clear e31 e32 e33;refine Rh (Om (Ol (St.fieldAddr Jz rfl (Ol (J27 o34 pl24 rfl rfl (Ol (St.len sl24 rfl (Ol (J3i rfl rfl (fun hc39=>?_) (fun hc39=>?_))))))))))
 ·refine Nl (J26 rfl (W.skip (W.seq (W.block (W.seq (J3m J5 10 [[],[0],[],[1,2],[3],[],[5],[],[6,7],[8]] C30 [fx (.pointer (some ⟨g7,1,none⟩)),fx (.slice a1 a.mag.length c2),fx (.int .i64 ((i:Nat):Int)),fE Je (a.mag.getD i 0),fx (.int .u32 (((a.mag.getD i 0):Nat):Int)),fx (.pointer (some ⟨g15,1,none⟩)),fx (.slice a4 b.mag.length c5),fx (.int .i64 ((i:Nat):Int)),fE Je (b.mag.getD i 0),fx (.int .u32 (((b.mag.getD i 0):Nat):Int))] (by kernel_rfl) ⟨sx,sx,sx,sE,sx,sx,sx,sx,sE,sx,trivial⟩ fun f51 s52 w53 ⟨C56,S57⟩ k55=>?_))))))
  replace h3:=h3.sp S57;replace h6:=h6.sp S57;replace o34:=o34.spn S57;replace o35:=o35.spn S57;have k55:Keep [27,28,29,30,31,32,33,34,35,36] _ f51:=k55;refine⟨⟨fun _=>?_,fun⟨e60,_⟩=>?_,fun _=>?_,fun⟨e61,e62,_⟩=>?_,fun⟨d63,_⟩=>?_,fun _=>?_,fun⟨e64,_⟩=>?_,fun _=>?_,fun⟨e65,e66,_⟩=>?_,fun⟨d67,_⟩=>?_,trivial⟩,fun⟨e68,e69,e70,d71,e72,e73,e74,e75,d76,e77,_⟩=>?_⟩
  ·exact Ja k55 aN fun _=>OpSt.op (St.fieldAddr Jz rfl ⟨s52,RC.same C56,rfl⟩)
  ·exact Ja k55 (aC e60 aN) fun _=>OpSt.op (J27 o34 pl24 rfl rfl ⟨s52,RC.same C56,rfl⟩)
  ·exact Ja k55 aN fun _=>OpSt.op (St.move ⟨s52,RC.same C56,rfl⟩)
  ·refine Ja k55 (aC e61 (aC e62 aN)) fun _=>OpSt.op (J3k (j:=i) (u:=(a.mag.getD i 0)) h3 sl24 Ji rfl rfl rfl (Jg (by omega)) ?_);intro b78 o79 cs80 e81;obtain⟨rfl,bd82⟩:cs80=_∧_:=e81.rd;exact⟨s52,RC.same C56,⟨_,_,_,rfl,e81⟩⟩
  ·obtain⟨b84,o85,cs86,e83,e87⟩:=d63;obtain⟨rfl,bd88⟩:cs86=_∧_:=e87.rd;exact Ja k55 (aC e83 aN) fun _=>OpSt.op (J3e Ze rfl (e87.cell 0 _ rfl) ⟨s52,RC.same C56,rfl⟩)
  ·exact Ja k55 aN fun _=>OpSt.op (St.fieldAddr Jz rfl ⟨s52,RC.same C56,rfl⟩)
  ·exact Ja k55 (aC e64 aN) fun _=>OpSt.op (J27 o35 pl24 rfl rfl ⟨s52,RC.same C56,rfl⟩)
  ·exact Ja k55 aN fun _=>OpSt.op (St.move ⟨s52,RC.same C56,rfl⟩)
  ·refine Ja k55 (aC e65 (aC e66 aN)) fun _=>OpSt.op (J3k (j:=i) (u:=(b.mag.getD i 0)) h6 sl24 Ji rfl rfl rfl (Jg (by omega)) ?_);intro b89 o90 cs91 e92;obtain⟨rfl,bd93⟩:cs91=_∧_:=e92.rd;exact⟨s52,RC.same C56,⟨_,_,_,rfl,e92⟩⟩
  ·obtain⟨b95,o96,cs97,e94,e98⟩:=d67;obtain⟨rfl,bd99⟩:cs97=_∧_:=e98.rd;exact Ja k55 (aC e94 aN) fun _=>OpSt.op (J3e Ze rfl (e98.cell 0 _ rfl) ⟨s52,RC.same C56,rfl⟩)
  obtain⟨b101,o102,cs103,e100,e104⟩:=d71;obtain⟨rfl,bd105⟩:cs103=_∧_:=e104.rd;obtain⟨b107,o108,cs109,e106,e110⟩:=d76;obtain⟨rfl,bd111⟩:cs109=_∧_:=e110.rd;obtain⟨f112,rfl⟩:=mixK k55 (aC e68 (aC e69 (aC e70 (aC e100 (aC e72 (aC e73 (aC e74 (aC e75 (aC e106 (aC e77 aN))))))))));refine Ol (J3q rfl rfl (fun hc113=>?_) (fun hc113=>?_))
  ·exact Nl (J26 rfl (Rg (Oa (Nl (W.ret (Wq rfl rfl C56 (congrArg (Value.bool) (Jni hc113))))))))
  refine Nl (J28 rfl (W.skip (W.region (Om (Ol (St.add rfl rfl (Jc (a:=i) (b:=1) (by omega)) (Oa (Nl (⟨_,(by omega),_,_,(i+1),C56,rfl,rfl,rfl,h3,h6,o34,o35,(by omega),(Jry (d:=0) (by omega) (by omega) he (by omega)),rfl⟩)))))))))
 exact Nl (J28 rfl (W.exit (Rg (Oa (Nl (W.ret (Wq rfl rfl C30 (congrArg (Value.bool) (Jnc hb24 hc25 hc39 he)))))))))
end Go.Wf
namespace Go.Wf
open Go Go.Proofs Go.RowKit
theorem x_rof{X:Nat→Prop}{w:World}(hX:XB X w){n:Int}(hlo: -9223372036854775808≤n)(hhi:n≤9223372036854775807):Calls Tryz.prog 113 #[(.int .i64 n)] w (Ret w fun v w'=>RV Xk X w' v (ofQ (Rat.divInt n 1))):=by
 have C:=Cx.start hX;refine Cgo (args:=[(.int .i64 n)]) Tryz.func113 rfl rfl rfl (Rg (Ol (J3b C io28 rfl ?_)));intro g1 w2 x3 y4 lt5 C6 s7 o8;refine Nl (Rg (Om (Ol (J25 C6 Jpb rfl rfl (x_of C6.bd hlo hhi) ?_))));intro v9 w10 C11 s12 h13;obtain⟨a14,c15,rfl,h16⟩:=RV.int h13;refine Ol (J25 C11 Jpb rfl rfl (x_of C11.bd (by decide) (by decide)) ?_);intro v17 w18 C19 s20 h21;replace o8:=(o8.spn s12).spn s20;obtain⟨a22,c23,rfl,h24⟩:=RV.int h21;refine Ol (St.build (cs:=[(.bool (ofZ n).neg),(.slice a14 (ofZ n).mag.length c15),(.bool (ofZ 1).neg),(.slice a22 (ofZ 1).mag.length c23)]) rfl (by kernel_rfl) (On (J3a (cs':=[(.bool (ofZ n).neg),(.slice a14 (ofZ n).mag.length c15),(.bool (ofZ 1).neg),(.slice a22 (ofZ 1).mag.length c23)]) C19 o8 io28 rfl rfl rfl rfl rfl rfl ?_)));intro w25 C26 s27 o28;replace h16:=(h16.sp s20).sp s27;replace h24:=h24.sp s27;refine Nl (W.ret (J7 rfl (resV.c o28 rfl ag28 rfl) (Ret.intro ?_ C26.below)));exact J3l (a:=(⟨⟨(ofZ n).neg,(ofZ n).mag⟩,⟨(ofZ 1).neg,(ofZ 1).mag⟩⟩:GRat)) ((Ke h16 h24).tr (Tr.weak C26.base)) (jg rfl)
theorem Jqp{X:Nat→Prop}{w:World}(hX:XB X w){v0:Value}{n:GInt}(r0:RV Jx X w v0 n){v1:Value}{d:GInt}(r1:RV Jx X w v1 d)(hln:n.mag.length≤536870912)(hld:d.mag.length≤536870912):Calls Tryz.prog 77 #[v0,v1] w (Ret w fun v w'=>RV Xk X w' v (ofQ (Rat.divInt n.toZ d.toZ))):=by
 obtain⟨a1,c2,rfl,h3⟩:=RV.int r0;obtain⟨a4,c5,rfl,h6⟩:=RV.int r1;have C:=Cx.start hX;have sn:=r0.int_small;have sd:=r1.int_small;have hN:=Za sn;have hD:=Za sd;refine Cgo (args:=[(.agg #[(.bool n.neg),(.slice a1 n.mag.length c2)]),(.agg #[(.bool d.neg),(.slice a4 d.mag.length c5)])]) Tryz.func77 rfl rfl rfl (Rg (Ol (J3g C rfl ?_)));intro g7 w8 x9 y10 lt11 C12 s13 o14;replace h6:=h6.sp s13;refine Ol (J3g C12 rfl ?_);intro g15 w16 x17 y18 lt19 C20 s21 o22;replace h3:=(h3.sp s13).sp s21;replace o14:=o14.spn s21;refine Ol (J3b C20 io28 rfl ?_);intro g24 w25 x26 y27 lt28 C29 s30 o31;replace h6:=(h6.sp s21).sp s30;replace o22:=o22.spn s30;refine Nl (Rh (Ol (J29 (vs:=[(.bool d.neg),(.slice a4 d.mag.length c5)]) o22 ag26 rfl rfl rfl (Ol (J25 C29 Jo2 rfl rfl (Jfe C29.bd (a:=d) (Jo h6) (by omega)) ?_)))));intro v34 w35 C36 s37 h38;replace h3:=(h3.sp s30).sp s37;replace h6:=h6.sp s37;replace o14:=(o14.spn s30).spn s37;replace o22:=o22.spn s37;subst h38;refine Ol (J3h rfl rfl (fun hc39=>?_) (fun hc39=>?_))
 ·refine Nl (J26 rfl (Rg (Ol (J25 C36 cb113 rfl rfl (x_rof C36.bd (by decide) (by decide)) ?_))));intro v40 w41 C42 s43 h44;replace o31:=(o31.spn s37).spn s43;obtain⟨a45,c46,a47,c48,rfl,h49,h50⟩:=J34 h44;refine On (J3a (cs':=[(.bool (ofQ (Rat.divInt 0 1)).num.neg),(.slice a45 (ofQ (Rat.divInt 0 1)).num.mag.length c46),(.bool (ofQ (Rat.divInt 0 1)).den.neg),(.slice a47 (ofQ (Rat.divInt 0 1)).den.mag.length c48)]) C42 o31 io28 rfl rfl rfl rfl rfl rfl ?_);intro w51 C52 s53 o54;replace h49:=h49.sp s53;replace h50:=h50.sp s53;refine Nl (W.ret (J7 rfl (resV.c o54 rfl ag28 rfl) (Ret.intro ?_ C52.below)));exact J3l (a:=(ofQ (Rat.divInt 0 1))) ((Ke h49 h50).tr (Tr.weak C52.base)) (Jva hc39)
 refine Nl (J28 rfl (W.skip (W.seq ?_)));have hne:=xo_ne (n:=n.toZ) hc39;have hgl:=Jxq (n:=n.toZ) hc39;refine W.region (Ol (J29 (vs:=[(.bool n.neg),(.slice a1 n.mag.length c2)]) o14 ag26 rfl rfl rfl (Ol (J29 (vs:=[(.bool d.neg),(.slice a4 d.mag.length c5)]) o22 ag26 rfl rfl rfl (Ol (J25 C36 cb114 rfl rfl (x_gcd C36.bd (a:=n) (Jo h3) (b:=d) (Jo h6) (by omega) (by omega)) ?_))))));intro v55 w56 C57 s58 h59;replace h3:=h3.sp s58;replace h6:=h6.sp s58;replace o14:=o14.spn s58;replace o22:=o22.spn s58;replace o31:=(o31.spn s37).spn s58;obtain⟨a60,c61,rfl,h62⟩:=RV.int h59;refine Ol (J3b C57 io26 rfl ?_);intro g63 w64 x65 y66 lt67 C68 s69 o70;have n71:=lt67 _ o14.blk.lt;have n72:=lt67 _ o22.blk.lt;have n73:=lt67 _ o31.blk.lt;replace h62:=h62.sp s69;replace o31:=o31.spn s69;refine On (J3a (cs':=[(.bool (ofZ ((Int.gcd n.toZ d.toZ:Nat):Int)).neg),(.slice a60 (ofZ ((Int.gcd n.toZ d.toZ:Nat):Int)).mag.length c61)]) C68 o70 io26 rfl rfl rfl rfl rfl rfl ?_);intro w74 C75 s76 o77;replace h3:=(h3.sp s69).sp s76;replace h6:=(h6.sp s69).sp s76;replace o14:=(o14.spn s69).spo s76 n71;replace o22:=(o22.spn s69).spo s76 n72;refine Nl (Rh (Ol (J29 (vs:=[(.bool d.neg),(.slice a4 d.mag.length c5)]) o22 ag26 rfl rfl rfl (Ol (J25 C75 Jo2 rfl rfl (Jfe C75.bd (a:=d) (Jo h6) (by omega)) ?_)))));intro v78 w79 C80 s81 h82;replace h62:=(h62.sp s76).sp s81;replace o31:=(o31.spo s76 n73).spn s81;replace o77:=o77.spn s81;subst h82;refine Ol (J3i rfl rfl (fun hc83=>?_) (fun hc83=>?_))
 ·refine Nl (J26 rfl (W.region (Ol (J29 (vs:=[(.bool (ofZ ((Int.gcd n.toZ d.toZ:Nat):Int)).neg),(.slice a60 (ofZ ((Int.gcd n.toZ d.toZ:Nat):Int)).mag.length c61)]) o77 ag26 rfl rfl rfl (Ol (J25 C80 Jvj rfl rfl (Jse C80.bd (a:=(ofZ ((Int.gcd n.toZ d.toZ:Nat):Int))) (Jo h62) (by omega)) ?_))))));intro v84 w85 C86 s87 h88;replace h3:=(h3.sp s81).sp s87;replace h6:=(h6.sp s81).sp s87;replace o14:=(o14.spn s81).spn s87;replace o22:=(o22.spn s81).spn s87;replace o77:=o77.spn s87;simp only [Jw,Xy] at h88;obtain⟨a89,c90,rfl,h91⟩:=RV.int h88;refine On (J3a (cs':=[(.bool (ofZ (-((Int.gcd n.toZ d.toZ:Nat):Int))).neg),(.slice a89 (ofZ (-((Int.gcd n.toZ d.toZ:Nat):Int))).mag.length c90)]) C86 o77 io26 rfl rfl rfl rfl rfl rfl ?_);intro w92 C93 s94 o95;replace o31:=(o31.spn s87).spo s94 n73;refine Nl (W.seq (W.seq (J3m J5 2 [[],[]] C93 [fx (.agg #[(.bool (ofZ (-((Int.gcd n.toZ d.toZ:Nat):Int))).neg),(.slice a89 (ofZ (-((Int.gcd n.toZ d.toZ:Nat):Int))).mag.length c90)]),fr Jx (ofZ 1)] (by kernel_rfl) ⟨sx,sr,trivial⟩ fun f105 s106 w107 ⟨C110,S111⟩ k109=>?_)))
  replace h3:=(h3.sp s94).sp S111;replace h6:=(h6.sp s94).sp S111;replace h91:=(h91.sp s94).sp S111;replace o14:=(o14.spo s94 n71).spn S111;replace o22:=(o22.spo s94 n72).spn S111;replace o95:=o95.spn S111;have k109:Keep [18,19] _ f105:=k109;refine⟨⟨fun _=>?_,fun _=>?_,trivial⟩,fun⟨e116,d117,_⟩=>?_⟩
  ·exact Ja k109 aN fun _=>OpSt.op (J29 (vs:=[(.bool (ofZ (-((Int.gcd n.toZ d.toZ:Nat):Int))).neg),(.slice a89 (ofZ (-((Int.gcd n.toZ d.toZ:Nat):Int))).mag.length c90)]) o95 ag26 rfl rfl rfl ⟨s106,RC.same C110,rfl⟩)
  ·refine Ja k109 aN fun _=>OpSt.op (J25 C110 Jpb rfl rfl (x_of C110.bd (by decide) (by decide)) ?_);intro v118 w119 C120 s121 h122;exact⟨s106,⟨C120,s121⟩,h122⟩
  obtain⟨a124,c125,e123,h126⟩:=RV.int d117;obtain⟨f127,rfl⟩:=mixK k109 (aC e116 (aC e123 aN));refine Ol (St.bool (J25 C110 Jyn rfl rfl (Jrm C110.bd (a:=(ofZ (-((Int.gcd n.toZ d.toZ:Nat):Int)))) (Jo h91) (b:=(ofZ 1)) (Jo h126) (by first | omega | (rw [Z2];omega)) (by decide)) ?_));intro v128 w129 C130 s131 h132;replace o31:=(o31.spn S111).spn s131;refine⟨_,h132,fun hb133=>?_,fun hb133=>?_⟩
  ·refine Nl (J26 rfl (W.seq (J3m J5 3 [[],[0],[]] C130 [fx (.agg #[(.bool n.neg),(.slice a1 n.mag.length c2)]),fr Jx (ofZ n.toZ),fx (.agg #[(.bool d.neg),(.slice a4 d.mag.length c5)])] (by kernel_rfl) ⟨sx,sr,sx,trivial⟩ fun f143 s144 w145 ⟨C148,S149⟩ k147=>?_)))
   replace h3:=(h3.sp s131).sp S149;replace h6:=(h6.sp s131).sp S149;replace o14:=(o14.spn s131).spn S149;replace o22:=(o22.spn s131).spn S149;have k147:Keep [21,22,23] _ f143:=k147;refine⟨⟨fun _=>?_,fun⟨e154,_⟩=>?_,fun _=>?_,trivial⟩,fun⟨e155,d156,e157,_⟩=>?_⟩
   ·exact Ja k147 aN fun _=>OpSt.op (J29 (vs:=[(.bool n.neg),(.slice a1 n.mag.length c2)]) o14 ag26 rfl rfl rfl ⟨s144,RC.same C148,rfl⟩)
   ·refine Ja k147 (aC e154 aN) fun _=>OpSt.op (J25 C148 kz rfl rfl (Vi C148.bd (a:=n) (Jo h3) (by omega)) ?_);intro v158 w159 C160 s161 h162;exact⟨s144,⟨C160,s161⟩,h162⟩
   ·exact Ja k147 aN fun _=>OpSt.op (J29 (vs:=[(.bool d.neg),(.slice a4 d.mag.length c5)]) o22 ag26 rfl rfl rfl ⟨s144,RC.same C148,rfl⟩)
   obtain⟨a164,c165,e163,h166⟩:=RV.int d156;obtain⟨f167,rfl⟩:=mixK k147 (aC e155 (aC e163 (aC e157 aN)));refine Ol (J25 C148 kz rfl rfl (Vi C148.bd (a:=d) (Jo h6) (by omega)) ?_);intro v168 w169 C170 s171 h172;replace o31:=(o31.spn S149).spn s171;obtain⟨a173,c174,rfl,h175⟩:=RV.int h172;refine Ol (St.build (cs:=[(.bool (ofZ n.toZ).neg),(.slice a164 (ofZ n.toZ).mag.length c165),(.bool (ofZ d.toZ).neg),(.slice a173 (ofZ d.toZ).mag.length c174)]) rfl (by kernel_rfl) (On (J3a (cs':=[(.bool (ofZ n.toZ).neg),(.slice a164 (ofZ n.toZ).mag.length c165),(.bool (ofZ d.toZ).neg),(.slice a173 (ofZ d.toZ).mag.length c174)]) C170 o31 io28 rfl rfl rfl rfl rfl rfl ?_)));intro w176 C177 s178 o179;replace h166:=(h166.sp s171).sp s178;replace h175:=h175.sp s178;refine Nl (W.ret (J7 rfl (resV.c o179 rfl ag28 rfl) (Ret.intro ?_ C177.below)));exact J3l (a:=(⟨⟨(ofZ n.toZ).neg,(ofZ n.toZ).mag⟩,⟨(ofZ d.toZ).neg,(ofZ d.toZ).mag⟩⟩:GRat)) ((Ke h166 h175).tr (Tr.weak C177.base)) ((J0f (of_decide_eq_true hb133)).elim)
  refine Nl (J28 rfl (W.skip (W.seq (J3m J5 5 [[],[],[0,1],[],[]] C130 [fx (.agg #[(.bool n.neg),(.slice a1 n.mag.length c2)]),fx (.agg #[(.bool (ofZ (-((Int.gcd n.toZ d.toZ:Nat):Int))).neg),(.slice a89 (ofZ (-((Int.gcd n.toZ d.toZ:Nat):Int))).mag.length c90)]),fr Jx (ofZ (n.toZ / (-((Int.gcd n.toZ d.toZ:Nat):Int)))),fx (.agg #[(.bool d.neg),(.slice a4 d.mag.length c5)]),fx (.agg #[(.bool (ofZ (-((Int.gcd n.toZ d.toZ:Nat):Int))).neg),(.slice a89 (ofZ (-((Int.gcd n.toZ d.toZ:Nat):Int))).mag.length c90)])] (by kernel_rfl) ⟨sx,sx,sr,sx,sx,trivial⟩ fun f189 s190 w191 ⟨C194,S195⟩ k193=>?_))))
  replace h3:=(h3.sp s131).sp S195;replace h6:=(h6.sp s131).sp S195;replace h91:=(h91.sp s131).sp S195;replace o14:=(o14.spn s131).spn S195;replace o22:=(o22.spn s131).spn S195;replace o95:=(o95.spn s131).spn S195;have k193:Keep [26,27,28,29,30] _ f189:=k193;refine⟨⟨fun _=>?_,fun _=>?_,fun⟨e200,e201,_⟩=>?_,fun _=>?_,fun _=>?_,trivial⟩,fun⟨e202,e203,d204,e205,e206,_⟩=>?_⟩
  ·exact Ja k193 aN fun _=>OpSt.op (J29 (vs:=[(.bool n.neg),(.slice a1 n.mag.length c2)]) o14 ag26 rfl rfl rfl ⟨s190,RC.same C194,rfl⟩)
  ·exact Ja k193 aN fun _=>OpSt.op (J29 (vs:=[(.bool (ofZ (-((Int.gcd n.toZ d.toZ:Nat):Int))).neg),(.slice a89 (ofZ (-((Int.gcd n.toZ d.toZ:Nat):Int))).mag.length c90)]) o95 ag26 rfl rfl rfl ⟨s190,RC.same C194,rfl⟩)
  ·refine Ja k193 (aC e200 (aC e201 aN)) fun _=>OpSt.op (J25 C194 Joz rfl rfl (Q5 C194.bd (a:=n) (Jo h3) (b:=(ofZ (-((Int.gcd n.toZ d.toZ:Nat):Int)))) (Jo h91) (by omega) (by first | omega | (rw [Z2];omega)) (by rw [Ki];have h7:=hne;omega)) ?_);intro v207 w208 C209 s210 h211;simp only [Jw,Xy] at h211;exact⟨s190,⟨C209,s210⟩,h211⟩
  ·exact Ja k193 aN fun _=>OpSt.op (J29 (vs:=[(.bool d.neg),(.slice a4 d.mag.length c5)]) o22 ag26 rfl rfl rfl ⟨s190,RC.same C194,rfl⟩)
  ·exact Ja k193 aN fun _=>OpSt.op (J29 (vs:=[(.bool (ofZ (-((Int.gcd n.toZ d.toZ:Nat):Int))).neg),(.slice a89 (ofZ (-((Int.gcd n.toZ d.toZ:Nat):Int))).mag.length c90)]) o95 ag26 rfl rfl rfl ⟨s190,RC.same C194,rfl⟩)
  obtain⟨a213,c214,e212,h215⟩:=RV.int d204;obtain⟨f216,rfl⟩:=mixK k193 (aC e202 (aC e203 (aC e212 (aC e205 (aC e206 aN)))));refine Ol (J25 C194 Joz rfl rfl (Q5 C194.bd (a:=d) (Jo h6) (b:=(ofZ (-((Int.gcd n.toZ d.toZ:Nat):Int)))) (Jo h91) (by omega) (by first | omega | (rw [Z2];omega)) (by rw [Ki];have h7:=hne;omega)) ?_);intro v217 w218 C219 s220 h221;replace o31:=(o31.spn S195).spn s220;simp only [Jw,Xy] at h221;obtain⟨a222,c223,rfl,h224⟩:=RV.int h221;refine Ol (St.build (cs:=[(.bool (ofZ (n.toZ / (-((Int.gcd n.toZ d.toZ:Nat):Int)))).neg),(.slice a213 (ofZ (n.toZ / (-((Int.gcd n.toZ d.toZ:Nat):Int)))).mag.length c214),(.bool (ofZ (d.toZ / (-((Int.gcd n.toZ d.toZ:Nat):Int)))).neg),(.slice a222 (ofZ (d.toZ / (-((Int.gcd n.toZ d.toZ:Nat):Int)))).mag.length c223)]) rfl (by kernel_rfl) (On (J3a (cs':=[(.bool (ofZ (n.toZ / (-((Int.gcd n.toZ d.toZ:Nat):Int)))).neg),(.slice a213 (ofZ (n.toZ / (-((Int.gcd n.toZ d.toZ:Nat):Int)))).mag.length c214),(.bool (ofZ (d.toZ / (-((Int.gcd n.toZ d.toZ:Nat):Int)))).neg),(.slice a222 (ofZ (d.toZ / (-((Int.gcd n.toZ d.toZ:Nat):Int)))).mag.length c223)]) C219 o31 io28 rfl rfl rfl rfl rfl rfl ?_)));intro w225 C226 s227 o228;replace h215:=(h215.sp s220).sp s227;replace h224:=h224.sp s227;refine Nl (W.ret (J7 rfl (resV.c o228 rfl ag28 rfl) (Ret.intro ?_ C226.below)));exact J3l (a:=(⟨⟨(ofZ (n.toZ / (-((Int.gcd n.toZ d.toZ:Nat):Int)))).neg,(ofZ (n.toZ / (-((Int.gcd n.toZ d.toZ:Nat):Int)))).mag⟩,⟨(ofZ (d.toZ / (-((Int.gcd n.toZ d.toZ:Nat):Int)))).neg,(ofZ (d.toZ / (-((Int.gcd n.toZ d.toZ:Nat):Int)))).mag⟩⟩:GRat)) ((Ke h215 h224).tr (Tr.weak C226.base)) (J0i hc83)
 refine Nl (J28 rfl (W.skip (W.seq (W.seq (J3m J5 2 [[],[]] C80 [fx (.agg #[(.bool (ofZ ((Int.gcd n.toZ d.toZ:Nat):Int)).neg),(.slice a60 (ofZ ((Int.gcd n.toZ d.toZ:Nat):Int)).mag.length c61)]),fr Jx (ofZ 1)] (by kernel_rfl) ⟨sx,sr,trivial⟩ fun f238 s239 w240 ⟨C243,S244⟩ k242=>?_)))))
 replace h3:=(h3.sp s81).sp S244;replace h6:=(h6.sp s81).sp S244;replace h62:=h62.sp S244;replace o14:=(o14.spn s81).spn S244;replace o22:=(o22.spn s81).spn S244;replace o77:=o77.spn S244;have k242:Keep [18,19] _ f238:=k242;refine⟨⟨fun _=>?_,fun _=>?_,trivial⟩,fun⟨e249,d250,_⟩=>?_⟩
 ·exact Ja k242 aN fun _=>OpSt.op (J29 (vs:=[(.bool (ofZ ((Int.gcd n.toZ d.toZ:Nat):Int)).neg),(.slice a60 (ofZ ((Int.gcd n.toZ d.toZ:Nat):Int)).mag.length c61)]) o77 ag26 rfl rfl rfl ⟨s239,RC.same C243,rfl⟩)
 ·refine Ja k242 aN fun _=>OpSt.op (J25 C243 Jpb rfl rfl (x_of C243.bd (by decide) (by decide)) ?_);intro v251 w252 C253 s254 h255;exact⟨s239,⟨C253,s254⟩,h255⟩
 obtain⟨a257,c258,e256,h259⟩:=RV.int d250;obtain⟨f260,rfl⟩:=mixK k242 (aC e249 (aC e256 aN));refine Ol (St.bool (J25 C243 Jyn rfl rfl (Jrm C243.bd (a:=(ofZ ((Int.gcd n.toZ d.toZ:Nat):Int))) (Jo h62) (b:=(ofZ 1)) (Jo h259) (by first | omega | (rw [Z2];omega)) (by decide)) ?_));intro v261 w262 C263 s264 h265;replace o31:=(o31.spn S244).spn s264;refine⟨_,h265,fun hb266=>?_,fun hb266=>?_⟩
 ·refine Nl (J26 rfl (W.seq (J3m J5 3 [[],[0],[]] C263 [fx (.agg #[(.bool n.neg),(.slice a1 n.mag.length c2)]),fr Jx (ofZ n.toZ),fx (.agg #[(.bool d.neg),(.slice a4 d.mag.length c5)])] (by kernel_rfl) ⟨sx,sr,sx,trivial⟩ fun f276 s277 w278 ⟨C281,S282⟩ k280=>?_)))
  replace h3:=(h3.sp s264).sp S282;replace h6:=(h6.sp s264).sp S282;replace o14:=(o14.spn s264).spn S282;replace o22:=(o22.spn s264).spn S282;have k280:Keep [21,22,23] _ f276:=k280;refine⟨⟨fun _=>?_,fun⟨e287,_⟩=>?_,fun _=>?_,trivial⟩,fun⟨e288,d289,e290,_⟩=>?_⟩
  ·exact Ja k280 aN fun _=>OpSt.op (J29 (vs:=[(.bool n.neg),(.slice a1 n.mag.length c2)]) o14 ag26 rfl rfl rfl ⟨s277,RC.same C281,rfl⟩)
  ·refine Ja k280 (aC e287 aN) fun _=>OpSt.op (J25 C281 kz rfl rfl (Vi C281.bd (a:=n) (Jo h3) (by omega)) ?_);intro v291 w292 C293 s294 h295;exact⟨s277,⟨C293,s294⟩,h295⟩
  ·exact Ja k280 aN fun _=>OpSt.op (J29 (vs:=[(.bool d.neg),(.slice a4 d.mag.length c5)]) o22 ag26 rfl rfl rfl ⟨s277,RC.same C281,rfl⟩)
  obtain⟨a297,c298,e296,h299⟩:=RV.int d289;obtain⟨f300,rfl⟩:=mixK k280 (aC e288 (aC e296 (aC e290 aN)));refine Ol (J25 C281 kz rfl rfl (Vi C281.bd (a:=d) (Jo h6) (by omega)) ?_);intro v301 w302 C303 s304 h305;replace o31:=(o31.spn S282).spn s304;obtain⟨a306,c307,rfl,h308⟩:=RV.int h305;refine Ol (St.build (cs:=[(.bool (ofZ n.toZ).neg),(.slice a297 (ofZ n.toZ).mag.length c298),(.bool (ofZ d.toZ).neg),(.slice a306 (ofZ d.toZ).mag.length c307)]) rfl (by kernel_rfl) (On (J3a (cs':=[(.bool (ofZ n.toZ).neg),(.slice a297 (ofZ n.toZ).mag.length c298),(.bool (ofZ d.toZ).neg),(.slice a306 (ofZ d.toZ).mag.length c307)]) C303 o31 io28 rfl rfl rfl rfl rfl rfl ?_)));intro w309 C310 s311 o312;replace h299:=(h299.sp s304).sp s311;replace h308:=h308.sp s311;refine Nl (W.ret (J7 rfl (resV.c o312 rfl ag28 rfl) (Ret.intro ?_ C310.below)));exact J3l (a:=(⟨⟨(ofZ n.toZ).neg,(ofZ n.toZ).mag⟩,⟨(ofZ d.toZ).neg,(ofZ d.toZ).mag⟩⟩:GRat)) ((Ke h299 h308).tr (Tr.weak C310.base)) (V4 (Jq1 (n:=n.toZ) hc39 hc83) (Yt.1 (of_decide_eq_true hb266)))
 refine Nl (J28 rfl (W.skip (W.seq (J3m J5 5 [[],[],[0,1],[],[]] C263 [fx (.agg #[(.bool n.neg),(.slice a1 n.mag.length c2)]),fx (.agg #[(.bool (ofZ ((Int.gcd n.toZ d.toZ:Nat):Int)).neg),(.slice a60 (ofZ ((Int.gcd n.toZ d.toZ:Nat):Int)).mag.length c61)]),fr Jx (ofZ (n.toZ / ((Int.gcd n.toZ d.toZ:Nat):Int))),fx (.agg #[(.bool d.neg),(.slice a4 d.mag.length c5)]),fx (.agg #[(.bool (ofZ ((Int.gcd n.toZ d.toZ:Nat):Int)).neg),(.slice a60 (ofZ ((Int.gcd n.toZ d.toZ:Nat):Int)).mag.length c61)])] (by kernel_rfl) ⟨sx,sx,sr,sx,sx,trivial⟩ fun f322 s323 w324 ⟨C327,S328⟩ k326=>?_))))
 replace h3:=(h3.sp s264).sp S328;replace h6:=(h6.sp s264).sp S328;replace h62:=(h62.sp s264).sp S328;replace o14:=(o14.spn s264).spn S328;replace o22:=(o22.spn s264).spn S328;replace o77:=(o77.spn s264).spn S328;have k326:Keep [26,27,28,29,30] _ f322:=k326;refine⟨⟨fun _=>?_,fun _=>?_,fun⟨e333,e334,_⟩=>?_,fun _=>?_,fun _=>?_,trivial⟩,fun⟨e335,e336,d337,e338,e339,_⟩=>?_⟩
 ·exact Ja k326 aN fun _=>OpSt.op (J29 (vs:=[(.bool n.neg),(.slice a1 n.mag.length c2)]) o14 ag26 rfl rfl rfl ⟨s323,RC.same C327,rfl⟩)
 ·exact Ja k326 aN fun _=>OpSt.op (J29 (vs:=[(.bool (ofZ ((Int.gcd n.toZ d.toZ:Nat):Int)).neg),(.slice a60 (ofZ ((Int.gcd n.toZ d.toZ:Nat):Int)).mag.length c61)]) o77 ag26 rfl rfl rfl ⟨s323,RC.same C327,rfl⟩)
 ·refine Ja k326 (aC e333 (aC e334 aN)) fun _=>OpSt.op (J25 C327 Joz rfl rfl (Q5 C327.bd (a:=n) (Jo h3) (b:=(ofZ ((Int.gcd n.toZ d.toZ:Nat):Int))) (Jo h62) (by omega) (by first | omega | (rw [Z2];omega)) (by rw [Ki];have h7:=hne;omega)) ?_);intro v340 w341 C342 s343 h344;simp only [Jw,Xy] at h344;exact⟨s323,⟨C342,s343⟩,h344⟩
 ·exact Ja k326 aN fun _=>OpSt.op (J29 (vs:=[(.bool d.neg),(.slice a4 d.mag.length c5)]) o22 ag26 rfl rfl rfl ⟨s323,RC.same C327,rfl⟩)
 ·exact Ja k326 aN fun _=>OpSt.op (J29 (vs:=[(.bool (ofZ ((Int.gcd n.toZ d.toZ:Nat):Int)).neg),(.slice a60 (ofZ ((Int.gcd n.toZ d.toZ:Nat):Int)).mag.length c61)]) o77 ag26 rfl rfl rfl ⟨s323,RC.same C327,rfl⟩)
 obtain⟨a346,c347,e345,h348⟩:=RV.int d337;obtain⟨f349,rfl⟩:=mixK k326 (aC e335 (aC e336 (aC e345 (aC e338 (aC e339 aN)))));refine Ol (J25 C327 Joz rfl rfl (Q5 C327.bd (a:=d) (Jo h6) (b:=(ofZ ((Int.gcd n.toZ d.toZ:Nat):Int))) (Jo h62) (by omega) (by first | omega | (rw [Z2];omega)) (by rw [Ki];have h7:=hne;omega)) ?_);intro v350 w351 C352 s353 h354;replace o31:=(o31.spn S328).spn s353;simp only [Jw,Xy] at h354;obtain⟨a355,c356,rfl,h357⟩:=RV.int h354;refine Ol (St.build (cs:=[(.bool (ofZ (n.toZ / ((Int.gcd n.toZ d.toZ:Nat):Int))).neg),(.slice a346 (ofZ (n.toZ / ((Int.gcd n.toZ d.toZ:Nat):Int))).mag.length c347),(.bool (ofZ (d.toZ / ((Int.gcd n.toZ d.toZ:Nat):Int))).neg),(.slice a355 (ofZ (d.toZ / ((Int.gcd n.toZ d.toZ:Nat):Int))).mag.length c356)]) rfl (by kernel_rfl) (On (J3a (cs':=[(.bool (ofZ (n.toZ / ((Int.gcd n.toZ d.toZ:Nat):Int))).neg),(.slice a346 (ofZ (n.toZ / ((Int.gcd n.toZ d.toZ:Nat):Int))).mag.length c347),(.bool (ofZ (d.toZ / ((Int.gcd n.toZ d.toZ:Nat):Int))).neg),(.slice a355 (ofZ (d.toZ / ((Int.gcd n.toZ d.toZ:Nat):Int))).mag.length c356)]) C352 o31 io28 rfl rfl rfl rfl rfl rfl ?_)));intro w358 C359 s360 o361;replace h348:=(h348.sp s353).sp s360;replace h357:=h357.sp s360;refine Nl (W.ret (J7 rfl (resV.c o361 rfl ag28 rfl) (Ret.intro ?_ C359.below)));exact J3l (a:=(⟨⟨(ofZ (n.toZ / ((Int.gcd n.toZ d.toZ:Nat):Int))).neg,(ofZ (n.toZ / ((Int.gcd n.toZ d.toZ:Nat):Int))).mag⟩,⟨(ofZ (d.toZ / ((Int.gcd n.toZ d.toZ:Nat):Int))).neg,(ofZ (d.toZ / ((Int.gcd n.toZ d.toZ:Nat):Int))).mag⟩⟩:GRat)) ((Ke h348 h357).tr (Tr.weak C359.base)) (yd (Jq1 (n:=n.toZ) hc39 hc83))
theorem Jjq{X:Nat→Prop}{w:World}(hX:XB X w){v0:Value}{a:GRat}(r0:RV Xk X w v0 a)(hln:a.num.mag.length≤536870912)(hld:a.den.mag.length≤536870912):Calls Tryz.prog 42 #[v0] w (Ret w fun v w'=>RV Xk X w' v (ofQ a.q)):=by
 obtain⟨a1,c2,a3,c4,rfl,h5,h6⟩:=J34 r0;have C:=Cx.start hX;have sn:=r0.rat_small.1;have sd:=r0.rat_small.2;refine Cgo (args:=[(.agg #[(.bool a.num.neg),(.slice a1 a.num.mag.length c2),(.bool a.den.neg),(.slice a3 a.den.mag.length c4)])]) Tryz.func42 rfl rfl rfl (Rg (Ol (J3g C rfl ?_)));intro g7 w8 x9 y10 lt11 C12 s13 o14;refine Ol (J3b C12 io28 rfl ?_);intro g15 w16 x17 y18 lt19 C20 s21 o22;replace h5:=(h5.sp s13).sp s21;replace h6:=(h6.sp s13).sp s21;replace o14:=o14.spn s21;refine Nl (Rg (Ol (St.fieldAddr Qk rfl (Ol (J29 (vs:=[(.bool a.num.neg),(.slice a1 a.num.mag.length c2)]) o14 ag26 rfl rfl rfl (Ol (St.fieldAddr Qr rfl (Ol (J29 (vs:=[(.bool a.den.neg),(.slice a3 a.den.mag.length c4)]) o14 ag26 rfl rfl rfl (Ol (J25 C20 cb77 rfl rfl (Jqp C20.bd (n:=a.num) (Jo h5) (d:=a.den) (Jo h6) (by omega) (by omega)) ?_)))))))))));intro v24 w25 C26 s27 h28;replace o22:=o22.spn s27;obtain⟨a29,c30,a31,c32,rfl,h33,h34⟩:=J34 h28;refine On (J3a (cs':=[(.bool (ofQ (Rat.divInt a.num.toZ a.den.toZ)).num.neg),(.slice a29 (ofQ (Rat.divInt a.num.toZ a.den.toZ)).num.mag.length c30),(.bool (ofQ (Rat.divInt a.num.toZ a.den.toZ)).den.neg),(.slice a31 (ofQ (Rat.divInt a.num.toZ a.den.toZ)).den.mag.length c32)]) C26 o22 io28 rfl rfl rfl rfl rfl rfl ?_);intro w35 C36 s37 o38;replace h33:=h33.sp s37;replace h34:=h34.sp s37;refine Nl (W.ret (J7 rfl (resV.c o38 rfl ag28 rfl) (Ret.intro ?_ C36.below)));exact J3l (a:=(ofQ (Rat.divInt a.num.toZ a.den.toZ))) ((Ke h33 h34).tr (Tr.weak C36.base)) rfl
theorem x_rneg{X:Nat→Prop}{w:World}(hX:XB X w){v0:Value}{a:GRat}(r0:RV Xk X w v0 a)(hln:a.num.mag.length≤536870912)(hld:a.den.mag.length≤536870912):Calls Tryz.prog 102 #[v0] w (Ret w fun v w'=>RV Xk X w' v (ofQ (-a.q))):=by
 obtain⟨a1,c2,a3,c4,rfl,h5,h6⟩:=J34 r0;have C:=Cx.start hX;have sn:=r0.rat_small.1;have sd:=r0.rat_small.2;have hN:=Za sn;refine Cgo (args:=[(.agg #[(.bool a.num.neg),(.slice a1 a.num.mag.length c2),(.bool a.den.neg),(.slice a3 a.den.mag.length c4)])]) Tryz.func102 rfl rfl rfl (Rg (Ol (J3g C rfl ?_)));intro g7 w8 x9 y10 lt11 C12 s13 o14;replace h5:=h5.sp s13;replace h6:=h6.sp s13;refine Ol (J3b C12 io28 rfl ?_);intro g15 w16 x17 y18 lt19 C20 s21 o22;refine Nl (W.seq (J3m J5 5 [[],[0],[1],[],[3]] C20 [fx (.pointer (some ⟨g7,0,none⟩)),fx (.agg #[(.bool a.num.neg),(.slice a1 a.num.mag.length c2)]),fr Jx (ofZ (-a.num.toZ)),fx (.pointer (some ⟨g7,2,none⟩)),fx (.agg #[(.bool a.den.neg),(.slice a3 a.den.mag.length c4)])] (by kernel_rfl) ⟨sx,sx,sr,sx,sx,trivial⟩ fun f33 s34 w35 ⟨C38,S39⟩ k37=>?_))
 replace h5:=(h5.sp s21).sp S39;replace h6:=(h6.sp s21).sp S39;replace o14:=(o14.spn s21).spn S39;have k37:Keep [3,4,5,6,7] _ f33:=k37;refine⟨⟨fun _=>?_,fun⟨e42,_⟩=>?_,fun⟨e43,_⟩=>?_,fun _=>?_,fun⟨e44,_⟩=>?_,trivial⟩,fun⟨e45,e46,d47,e48,e49,_⟩=>?_⟩
 ·exact Ja k37 aN fun _=>OpSt.op (St.fieldAddr Qk rfl ⟨s34,RC.same C38,rfl⟩)
 ·exact Ja k37 (aC e42 aN) fun _=>OpSt.op (J29 (vs:=[(.bool a.num.neg),(.slice a1 a.num.mag.length c2)]) o14 ag26 rfl rfl rfl ⟨s34,RC.same C38,rfl⟩)
 ·refine Ja k37 (aC e43 aN) fun _=>OpSt.op (J25 C38 Jvj rfl rfl (Jse C38.bd (a:=a.num) (Jo h5) (by omega)) ?_);intro v50 w51 C52 s53 h54;exact⟨s34,⟨C52,s53⟩,h54⟩
 ·exact Ja k37 aN fun _=>OpSt.op (St.fieldAddr Qr rfl ⟨s34,RC.same C38,rfl⟩)
 ·exact Ja k37 (aC e44 aN) fun _=>OpSt.op (J29 (vs:=[(.bool a.den.neg),(.slice a3 a.den.mag.length c4)]) o14 ag26 rfl rfl rfl ⟨s34,RC.same C38,rfl⟩)
 obtain⟨a56,c57,e55,h58⟩:=RV.int d47;obtain⟨f59,rfl⟩:=mixK k37 (aC e45 (aC e46 (aC e55 (aC e48 (aC e49 aN)))));refine Ol (J25 C38 cb77 rfl rfl (Jqp C38.bd (n:=(ofZ (-a.num.toZ))) (Jo h58) (d:=a.den) (Jo h6) (by rw [Z2];omega) (by omega)) ?_);intro v60 w61 C62 s63 h64;replace o22:=(o22.spn S39).spn s63;simp only [Jw,Xy] at h64;obtain⟨a65,c66,a67,c68,rfl,h69,h70⟩:=J34 h64;refine On (J3a (cs':=[(.bool (ofQ (Rat.divInt (-a.num.toZ) a.den.toZ)).num.neg),(.slice a65 (ofQ (Rat.divInt (-a.num.toZ) a.den.toZ)).num.mag.length c66),(.bool (ofQ (Rat.divInt (-a.num.toZ) a.den.toZ)).den.neg),(.slice a67 (ofQ (Rat.divInt (-a.num.toZ) a.den.toZ)).den.mag.length c68)]) C62 o22 io28 rfl rfl rfl rfl rfl rfl ?_);intro w71 C72 s73 o74;replace h69:=h69.sp s73;replace h70:=h70.sp s73;refine Nl (W.ret (J7 rfl (resV.c o74 rfl ag28 rfl) (Ret.intro ?_ C72.below)));exact J3l (a:=(ofQ (Rat.divInt (-a.num.toZ) a.den.toZ))) ((Ke h69 h70).tr (Tr.weak C72.base)) (congrArg ofQ (Jxw a))
theorem Ji7{X:Nat→Prop}{w:World}(hX:XB X w){v0:Value}{a:GRat}(r0:RV Xk X w v0 a)(hln:a.num.mag.length≤1099511627776)(hld:a.den.mag.length≤1099511627776):Calls Tryz.prog 82 #[v0] w (Ret w fun v w'=>v=(.int .i64 (qm a.q))):=by
 obtain⟨a1,c2,a3,c4,rfl,h5,h6⟩:=J34 r0;have C:=Cx.start hX;have sn:=r0.rat_small.1;have sd:=r0.rat_small.2;have hb1:=yz a.num.toZ a.den.toZ;refine Cgo (args:=[(.agg #[(.bool a.num.neg),(.slice a1 a.num.mag.length c2),(.bool a.den.neg),(.slice a3 a.den.mag.length c4)])]) Tryz.func82 rfl rfl rfl (Rg (Ol (J3g C rfl ?_)));intro g7 w8 x9 y10 lt11 C12 s13 o14;refine Oa (Nl (W.seq (J3m J5 5 [[],[0],[1],[],[3]] C12 [fx (.pointer (some ⟨g7,0,none⟩)),fx (.agg #[(.bool a.num.neg),(.slice a1 a.num.mag.length c2)]),fx (.int .i64 a.num.toZ.sign),fx (.pointer (some ⟨g7,2,none⟩)),fx (.agg #[(.bool a.den.neg),(.slice a3 a.den.mag.length c4)])] (by kernel_rfl) ⟨sx,sx,sx,sx,sx,trivial⟩ fun f21 s22 w23 ⟨C26,S27⟩ k25=>?_)))
 replace h5:=(h5.sp s13).sp S27;replace h6:=(h6.sp s13).sp S27;replace o14:=o14.spn S27;have k25:Keep [3,4,5,6,7] _ f21:=k25;refine⟨⟨fun _=>?_,fun⟨e29,_⟩=>?_,fun⟨e30,_⟩=>?_,fun _=>?_,fun⟨e31,_⟩=>?_,trivial⟩,fun⟨e32,e33,e34,e35,e36,_⟩=>?_⟩
 ·exact Ja k25 aN fun _=>OpSt.op (St.fieldAddr Qk rfl ⟨s22,RC.same C26,rfl⟩)
 ·exact Ja k25 (aC e29 aN) fun _=>OpSt.op (J29 (vs:=[(.bool a.num.neg),(.slice a1 a.num.mag.length c2)]) o14 ag26 rfl rfl rfl ⟨s22,RC.same C26,rfl⟩)
 ·refine Ja k25 (aC e30 aN) fun _=>OpSt.op (J25 C26 Jo2 rfl rfl (Jfe C26.bd (a:=a.num) (Jo h5) (by omega)) ?_);intro v37 w38 C39 s40 h41;exact⟨s22,⟨C39,s40⟩,h41⟩
 ·exact Ja k25 aN fun _=>OpSt.op (St.fieldAddr Qr rfl ⟨s22,RC.same C26,rfl⟩)
 ·exact Ja k25 (aC e31 aN) fun _=>OpSt.op (J29 (vs:=[(.bool a.den.neg),(.slice a3 a.den.mag.length c4)]) o14 ag26 rfl rfl rfl ⟨s22,RC.same C26,rfl⟩)
 obtain⟨f42,rfl⟩:=mixK k25 (aC e32 (aC e33 (aC e34 (aC e35 (aC e36 aN)))));refine Ol (J25 C26 Jo2 rfl rfl (Jfe C26.bd (a:=a.den) (Jo h6) (by omega)) ?_);intro v43 w44 C45 s46 h47;subst h47;exact Ol (St.mul (z:=(a.num.toZ.sign * a.den.toZ.sign)) rfl rfl (IntWalk.i64_in _ (by omega)) (Oa (Nl (W.ret (Wq rfl rfl C45 (congrArg (Value.int _) (Jqs a)))))))
end Go.Wf
namespace Go.Wf
open Go
section
variable {α:Type} {f:α→α→Int} {a b:List α} {d:α} {i:Nat}
end
mutual
def Zl:GExpr→Bool
 | .mk _ n c s l=>decide (n.length≤80) && decide (c.num.mag.length≤8) && decide (c.den.mag.length≤8) && decide (s.length≤100) && qy l
def qy:List GExpr→Bool
 | []=>true
 | a::l=>Zl a && qy l
end
theorem qh:∀ {l:List GExpr},qy l=true↔∀ i,i < l.length→Zl (l.getD i default)=true
 | []=>by simp [qy]
 | a::l=>by
  rw [qy,Bool.and_eq_true,qh (l:=l)]
  constructor
  ·rintro⟨h1,h2⟩ i hi
   cases i with
   | zero=>exact h1
   | succ i=>exact h2 i (by simp at hi;omega)
  ·intro h;exact⟨h 0 (by simp),fun i hi=>h (i+1) (by simp;omega)⟩
theorem Yq{a:GExpr}:Zl a=true↔a.n.length≤80∧a.c.num.mag.length≤8∧a.c.den.mag.length≤8∧a.name.length≤100∧∀ i,i < a.args.length→Zl (a.args.getD i default)=true:=by
 cases a
 rw [Zl,← qh];simp only [Bool.and_eq_true,decide_eq_true_eq,GExpr.n,GExpr.c,GExpr.name,GExpr.args,and_assoc]
theorem Qu{a:GExpr}{i:Nat}(h:Zl a=true)(hi:i < a.args.length):Zl (a.args.getD i default)=true:=(Yq.1 h).2.2.2.2 i hi
theorem Kn{a:GExpr}{i:Nat}(hi:i < a.args.length):SizeOf.sizeOf (a.args.getD i default) < SizeOf.sizeOf a:=by
 have h1:a.args.getD i default ∈ a.args:=by
  rw [List.getD_eq_getElem?_getD,List.getElem?_eq_getElem hi];exact List.getElem_mem hi
 have h2:=List.sizeOf_lt_of_mem h1;refine Nat.lt_trans h2 ?_
 cases a
 simp only [GExpr.args];simp;omega
theorem yj{a:GExpr}(h:(80:Int) < (a.n.length:Nat)∨(8:Int) < (a.c.num.mag.length:Nat)∨(8:Int) < (a.c.den.mag.length:Nat)∨(100:Int) < (a.name.length:Nat)):false=Zl a:=by
 refine(Bool.eq_false_iff.2 fun hp=>?_).symm
 have:=Yq.1 hp
 omega
theorem Jeh{a:GExpr}{i:Nat}(hi:i < a.args.length)(h:Zl (a.args.getD i default)=false):false=Zl a:=by
 refine(Bool.eq_false_iff.2 fun hp=>?_).symm
 rw [Qu hp hi] at h;cases h
theorem Jlj {a:GExpr} {i:Nat} (h1:¬ (80:Int) < (a.n.length:Nat)) (h2:¬ (8:Int) < (a.c.num.mag.length:Nat)) (h3:¬ (8:Int) < (a.c.den.mag.length:Nat)) (h4:¬ (100:Int) < (a.name.length:Nat)) (hi:¬ (i:Int) < (a.args.length:Nat))
  (h:∀ j,j < i→Zl (a.args.getD j default)=true):true=Zl a:=
 (Yq.2 ⟨by omega,by omega,by omega,by omega,fun j hj=>h j (by omega)⟩).symm
theorem Kx{p:Nat→Prop}{i:Nat}(h:∀ j,j < i→p j)(hi:p i):∀ j,j < i+1→p j:=fun j hj=>by
 rcases Nat.lt_or_ge j i with h2 | h2
 ·exact h j h2
 ·rw [show j=i by omega];exact hi
section
variable {a b:GExpr}
end
end Go.Wf
namespace Go.Wf
open Go Go.Proofs Go.RowKit
end Go.Wf
namespace Go.Wf
open Go Go.Proofs Go.RowKit
end Go.Wf
namespace Go.Wf
open Go Go.Proofs Go.RowKit
theorem Jml(N:Nat):∀ {X:Nat→Prop} {w:World} (hX:XB X w) {v0:Value} {a:GExpr} (r0:RV Jf X w v0 a)  (hN:(SizeOf.sizeOf a) < N),Calls Tryz.prog 37 #[v0] w (Ret w fun v w'=>v=(.bool (Zl a))):=by
 induction N with
 | zero=>intro X w hX v0 a r0 hN;exact absurd hN (Nat.not_lt_zero _)
 | succ N ih=>
  intro X w hX v0 a r0 hN;obtain⟨a1,c2,a3,c4,a5,c6,a7,c8,rfl,h9⟩:=J3f r0;have C:=Cx.start hX;have hal:=r0.args_max;refine Cgo (args:=[(ea a a1 c2 a3 c4 a5 c6 a7 c8)]) Tryz.func37 rfl rfl rfl (Rg (Ol (J3g C rfl ?_)));intro g10 w11 x12 y13 lt14 C15 s16 o17;replace h9:=h9.sp s16;refine Oa (Nl (Rh (Ol (St.fieldAddr K0 rfl (Ol (J27 o17 pl23 rfl rfl (Ol (St.len sl23 rfl (Ol (J3u rfl rfl (fun hc18=>?_) (fun hc18=>?_)))))))))))
  ·refine Om (Oz (Oz (Oz (Oz (Oz (Oz (OT (Om (Oz (Oz (Oz (Oz (Oz (Oz (OT (Om (Oz (Oz (Ox rfl rfl rfl ?_)))))))))))))))))));exact Oz (OT (Nl (J26 rfl (Rg (Oa (Nl (W.ret (Wq rfl rfl C15 (congrArg (Value.bool) (yj (by omega)))))))))))
  refine Om (Og rfl rfl (St.fieldAddr Ky rfl (Og rfl rfl (St.fieldAddr Qk rfl (Og rfl rfl (St.fieldAddr Jz rfl (Og rfl rfl (J27 o17 pl24 rfl rfl (Og rfl rfl (St.len sl24 rfl (Og rfl rfl (J3u rfl rfl (fun hc19=>?_) (fun hc19=>?_)))))))))))))
  ·refine OF (Om (Oz (Oz (Oz (Oz (Oz (Oz (OT (Om (Oz (Oz (Oz (Oz (OT (Nl (J26 rfl (Rg (Oa (Nl ?_)))))))))))))))))));exact W.ret (Wq rfl rfl C15 (congrArg (Value.bool) (yj (by omega))))
  refine OF (Om (Og rfl rfl (St.fieldAddr Ky rfl (Og rfl rfl (St.fieldAddr Qr rfl (Og rfl rfl (St.fieldAddr Jz rfl (Og rfl rfl (J27 o17 pl24 rfl rfl (Og rfl rfl (St.len sl24 rfl (Og rfl rfl (J3u rfl rfl (fun hc20=>?_) (fun hc20=>?_))))))))))))))
  ·exact OF (Om (Oz (Oz (Oz (Oz (OT (Nl (J26 rfl (Rg (Oa (Nl (W.ret (Wq rfl rfl C15 (congrArg (Value.bool) (yj (by omega))))))))))))))))
  refine OF (Om (Og rfl rfl (St.fieldAddr Km rfl (Og rfl rfl (J27 o17 pl9 rfl rfl (Og rfl rfl (J4a un9 rfl (Og rfl rfl (J3u rfl rfl (fun hc21=>?_) (fun hc21=>?_))))))))))
  ·exact OF (Nl (J26 rfl (Rg (Oa (Nl (W.ret (Wq rfl rfl C15 (congrArg (Value.bool) (yj (by omega))))))))))
  refine OF (Nl (J28 rfl (W.skip (Rh (Oa (Nl (W.block (J3j (fun μ f v=>∃ (x y:Nat→Prop) (i:Nat),Cx X w x y v∧f 1=(.pointer (some ⟨g10,0,none⟩))∧f 3=(.int .i64 ((i:Nat):Int))∧ExprParts x v a a1 c2 a3 c4 a5 c6 a7 c8∧Own w y v g10 (ec a a1 c2 a3 c4 a5 c6 a7 c8) 31∧i≤a.args.length∧(∀ j,j < i→Zl (a.args.getD j default)=true)∧μ=(a.args.length - i)) _ ⟨_,_,0,C15,rfl,rfl,h9,o17,(Nat.zero_le _),(fun _ h=>absurd h (Nat.not_lt_zero _)),rfl⟩ ?_))))))));rintro m31 f22 w23 ⟨x24,y25,i,C26,e27,e28,h9,o29,hi,hall,hmu30⟩;obtain⟨f32,rfl⟩:=rebK (aC e27 (aC e28 aN));clear e27 e28;refine Rh (Om (Ol (St.fieldAddr J3 rfl (Ol (J27 o29 pl29 rfl rfl (Ol (St.len sl29 rfl (Ol (J3i rfl rfl (fun hc33=>?_) (fun hc33=>?_))))))))))
  ·refine Nl (J26 rfl (W.skip (W.seq (W.block (Rg (Ol (St.fieldAddr J3 rfl (Ol (J27 o29 pl29 rfl rfl (Om (Ol (J3k (j:=i) (u:=(a.args.getD i default)) h9.args sl29 io31 rfl rfl rfl (Jg (by omega)) ?_))))))))))));intro b34 o35 cs36 e37;obtain⟨a38,c39,a40,c41,a42,c43,a44,c45,rfl,h46⟩:=Jq e37.rd;refine Ol (J3v (cs:=(ec (a.args.getD i default) a38 c39 a40 c41 a42 c43 a44 c45)) ag31 rfl rfl e37.cell (Ol (St.bool (J25 C26 cb37 rfl rfl (ih C26.bd (Jh (a.args.getD i default) h46.lo h46.hi h46.name h46.n h46.num h46.den h46.args) (Nat.lt_of_lt_of_le (Kn (by omega)) (Nat.le_of_lt_succ hN))) ?_))));intro v47 w48 C49 s50 h51;replace h9:=h9.sp s50;replace o29:=o29.spn s50;refine⟨_,h51,fun hb52=>?_,fun hb52=>?_⟩
   ·refine Ol (St.not rfl (Nl (J28 rfl (W.skip (W.region (Om (Ol (St.add rfl rfl (Jc (a:=i) (b:=1) (by omega)) (Oa (Nl (⟨_,(by omega),_,_,(i+1),C49,rfl,rfl,h9,o29,(by omega),(Kx hall hb52),rfl⟩)))))))))))
   exact Ol (St.not rfl (Nl (J26 rfl (Rg (Oa (Nl (W.ret (Wq rfl rfl C49 (congrArg (Value.bool) (Jeh (i:=i) (by omega) hb52))))))))))
  exact Nl (J28 rfl (W.exit (Rg (Oa (Nl (W.ret (Wq rfl rfl C26 (congrArg (Value.bool) (Jlj hc18 hc19 hc20 hc21 (by omega) hall)))))))))
theorem Jtd{X:Nat→Prop}{w:World}(hX:XB X w){v0:Value}{a:GExpr}(r0:RV Jf X w v0 a)  :Calls Tryz.prog 37 #[v0] w (Ret w fun v w'=>v=(.bool (Zl a))):=Jml ((SizeOf.sizeOf a)+1) hX r0 (Nat.lt_succ_self _)
theorem Jj2(N:Nat):∀ {X:Nat→Prop} {w:World} (hX:XB X w) {v0:Value} {a:GExpr} (r0:RV Jf X w v0 a) {m:Int} (pa:Zl a=true) (hN:(SizeOf.sizeOf a) < N),Calls Tryz.prog 38 #[v0,(.int .i64 m)] w (Ret w fun v w'=>∃ n:Int,v= .int .i64 n):=by
 induction N with
 | zero=>intro X w hX v0 a r0 m pa hN;exact absurd hN (Nat.not_lt_zero _)
 | succ N ih=>
  intro X w hX v0 a r0 m pa hN;obtain⟨a1,c2,a3,c4,a5,c6,a7,c8,rfl,h9⟩:=J3f r0;have C:=Cx.start hX;have hal:=r0.args_max;obtain⟨pa1,pa2,pa3,pa4,pa5⟩:=Yq.1 pa;refine Cgo (args:=[(ea a a1 c2 a3 c4 a5 c6 a7 c8),(.int .i64 m)]) Tryz.func38 rfl rfl rfl (Rg (Ol (J3g C rfl ?_)));intro g10 w11 x12 y13 lt14 C15 s16 o17;replace h9:=h9.sp s16;refine Oa (Nl (Rg (Oa (Nl (W.seq (J4d (fun f v=>∃ (x y:Nat→Prop) (z:Int),Cx X w x y v∧f 1=(.int .i64 m)∧f 2=(.pointer (some ⟨g10,0,none⟩))∧f 4=(.int .i64 0)∧f 5=(.int .i64 z)∧ExprParts x v a a1 c2 a3 c4 a5 c6 a7 c8∧Own w y v g10 (ec a a1 c2 a3 c4 a5 c6 a7 c8) 31) ?_ ?_))))))
  ·refine Rg (Ol (St.fieldAddr Zz rfl (Ol (J27 o17 pl3 rfl rfl (Ol (J3h rfl rfl (fun hc18=>?_) (fun hc18=>?_)))))))
   ·refine Nl (J26 rfl (W.region (Ol (St.fieldAddr Ky rfl (Ol (St.fieldAddr Qk rfl (Ol (St.fieldAddr Jz rfl (Ol (J27 o17 pl24 rfl rfl (Ol (St.len sl24 rfl (Ol (St.fieldAddr Ky rfl (Ol (St.fieldAddr Qr rfl (Ol (St.fieldAddr Jz rfl (Ol (J27 o17 pl24 rfl rfl (Ol (St.len sl24 rfl (Ol (St.add rfl rfl (Jc (a:=a.c.num.mag.length) (b:=a.c.den.mag.length) (by omega)) ?_))))))))))))))))))))))));refine Ol (St.mul rfl rfl (ka (a:=32) (b:=a.c.num.mag.length+a.c.den.mag.length) (by omega)) (Om (Ol (St.mul (z:=(IntKind.i64.wrap (((32 * (a.c.num.mag.length+a.c.den.mag.length):Nat):Int) * m))) rfl rfl rfl (Ol (St.quo rfl rfl (by decide) rfl (Oa (Nl (⟨_,_,(IntKind.i64.wrap (Int.tdiv (IntKind.i64.wrap (((32 * (a.c.num.mag.length+a.c.den.mag.length):Nat):Int) * m)) 4)),C15,rfl,rfl,rfl,rfl,h9,o17⟩)))))))))
   refine Nl (J28 rfl (W.skip (⟨_,_,0,C15,rfl,rfl,rfl,rfl,h9,o17⟩)))
  rintro f19 w20 ⟨x21,y22,z,C23,e24,e25,e26,e27,h9,o28⟩;obtain⟨f29,rfl⟩:=rebK (aC e24 (aC e25 (aC e26 (aC e27 aN))));clear e24 e25 e26 e27;refine W.seq (J4d (fun f v=>∃ (x y:Nat→Prop) (t:Int),Cx X w x y v∧f 2=(.pointer (some ⟨g10,0,none⟩))∧f 4=(.int .i64 0)∧f 5=(.int .i64 z)∧f 1=(.int .i64 t)∧ExprParts x v a a1 c2 a3 c4 a5 c6 a7 c8∧Own w y v g10 (ec a a1 c2 a3 c4 a5 c6 a7 c8) 31) ?_ ?_)
  ·refine Rg (Ol (St.fieldAddr Zz rfl (Ol (J27 o28 pl3 rfl rfl (Ol (J3h rfl rfl (fun hc30=>?_) (fun hc30=>?_)))))))
   ·refine Om (Og rfl rfl (St.fieldAddr K0 rfl (Og rfl rfl (J27 o28 pl23 rfl rfl (Og rfl rfl (St.len sl23 rfl (Og rfl rfl (J3u rfl rfl (fun hc31=>?_) (fun hc31=>?_)))))))))
    ·refine OT (Nl (J26 rfl (J3m J5 14 [[],[],[1],[2],[3],[4],[],[6],[7],[8],[9],[10],[11],[5,12]] C23 [fx (.int .i64 m),fx (.pointer (some ⟨g10,1,none⟩)),fx (.slice a1 a.n.length c2),fE Y1 (a.n.getD 0 0),fx (.int .i64 (a.n.getD 0 0)),fx (.int .i64 (if 1000 < (a.n.getD 0 0) then 1000 else(a.n.getD 0 0))),fx (.pointer (some ⟨g10,1,none⟩)),fx (.slice a1 a.n.length c2),fE Y1 (a.n.getD 0 0),fx (.int .i64 (a.n.getD 0 0)),fx (.int .i64 (if(-1000) > (a.n.getD 0 0) then(-1000) else(a.n.getD 0 0))),fx (.int .i64 (IntKind.i64.wrap (0 - (if(-1000) > (a.n.getD 0 0) then(-1000) else(a.n.getD 0 0))))),fx (.int .i64 (if 1000 < (IntKind.i64.wrap (0 - (if(-1000) > (a.n.getD 0 0) then(-1000) else(a.n.getD 0 0)))) then 1000 else(IntKind.i64.wrap (0 - (if(-1000) > (a.n.getD 0 0) then(-1000) else(a.n.getD 0 0)))))),fx (.int .i64 (if(if 1000 < (IntKind.i64.wrap (0 - (if(-1000) > (a.n.getD 0 0) then(-1000) else(a.n.getD 0 0)))) then 1000 else(IntKind.i64.wrap (0 - (if(-1000) > (a.n.getD 0 0) then(-1000) else(a.n.getD 0 0))))) > (if(if 1000 < (a.n.getD 0 0) then 1000 else(a.n.getD 0 0)) > 1 then(if 1000 < (a.n.getD 0 0) then 1000 else(a.n.getD 0 0)) else 1) then(if 1000 < (IntKind.i64.wrap (0 - (if(-1000) > (a.n.getD 0 0) then(-1000) else(a.n.getD 0 0)))) then 1000 else(IntKind.i64.wrap (0 - (if(-1000) > (a.n.getD 0 0) then(-1000) else(a.n.getD 0 0))))) else(if(if 1000 < (a.n.getD 0 0) then 1000 else(a.n.getD 0 0)) > 1 then(if 1000 < (a.n.getD 0 0) then 1000 else(a.n.getD 0 0)) else 1)))] (by kernel_rfl) ⟨sx,sx,sx,sE,sx,sx,sx,sx,sE,sx,sx,sx,sx,sx,trivial⟩ fun f43 s44 w45 ⟨C48,S49⟩ k47=>?_)))
     replace h9:=h9.sp S49;replace o28:=o28.spn S49;have k47:Keep [34,35,36,37,38,39,40,41,42,43,44,45,46,47] _ f43:=k47;refine⟨⟨fun _=>?_,fun _=>?_,fun⟨e51,_⟩=>?_,fun⟨e52,_⟩=>?_,fun⟨d53,_⟩=>?_,fun⟨e54,_⟩=>?_,fun _=>?_,fun⟨e55,_⟩=>?_,fun⟨e56,_⟩=>?_,fun⟨d57,_⟩=>?_,fun⟨e58,_⟩=>?_,fun⟨e59,_⟩=>?_,fun⟨e60,_⟩=>?_,fun⟨e61,e62,_⟩=>?_,trivial⟩,fun⟨e63,e64,e65,d66,e67,e68,e69,e70,d71,e72,e73,e74,e75,e76,_⟩=>?_⟩
     ·exact Ja k47 aN fun _=>OpSt.op (St.move ⟨s44,RC.same C48,rfl⟩)
     ·exact Ja k47 aN fun _=>OpSt.op (St.fieldAddr K0 rfl ⟨s44,RC.same C48,rfl⟩)
     ·exact Ja k47 (aC e51 aN) fun _=>OpSt.op (J27 o28 pl23 rfl rfl ⟨s44,RC.same C48,rfl⟩)
     ·refine Ja k47 (aC e52 aN) fun _=>OpSt.op (J3k (j:=0) (u:=(a.n.getD 0 0)) h9.n sl23 io3 rfl rfl rfl (Jg (by omega)) ?_);intro b78 o79 cs80 e81;obtain⟨rfl,bd82⟩:cs80=_∧_:=e81.rd;exact⟨s44,RC.same C48,⟨_,_,_,rfl,e81⟩⟩
     ·obtain⟨b84,o85,cs86,e83,e87⟩:=d53;obtain⟨rfl,bd88⟩:cs86=_∧_:=e87.rd;exact Ja k47 (aC e83 aN) fun _=>OpSt.op (J3e pl3 rfl (e87.cell 0 _ rfl) ⟨s44,RC.same C48,rfl⟩)
     ·exact Ja k47 (aC e54 aN) fun _=>OpSt.op (St.min rfl rfl rfl ⟨s44,RC.same C48,rfl⟩)
     ·exact Ja k47 aN fun _=>OpSt.op (St.fieldAddr K0 rfl ⟨s44,RC.same C48,rfl⟩)
     ·exact Ja k47 (aC e55 aN) fun _=>OpSt.op (J27 o28 pl23 rfl rfl ⟨s44,RC.same C48,rfl⟩)
     ·refine Ja k47 (aC e56 aN) fun _=>OpSt.op (J3k (j:=0) (u:=(a.n.getD 0 0)) h9.n sl23 io3 rfl rfl rfl (Jg (by omega)) ?_);intro b89 o90 cs91 e92;obtain⟨rfl,bd93⟩:cs91=_∧_:=e92.rd;exact⟨s44,RC.same C48,⟨_,_,_,rfl,e92⟩⟩
     ·obtain⟨b95,o96,cs97,e94,e98⟩:=d57;obtain⟨rfl,bd99⟩:cs97=_∧_:=e98.rd;exact Ja k47 (aC e94 aN) fun _=>OpSt.op (J3e pl3 rfl (e98.cell 0 _ rfl) ⟨s44,RC.same C48,rfl⟩)
     ·exact Ja k47 (aC e58 aN) fun _=>OpSt.op (St.max rfl rfl rfl ⟨s44,RC.same C48,rfl⟩)
     ·exact Ja k47 (aC e59 aN) fun _=>OpSt.op (St.neg (z:=(IntKind.i64.wrap (0 - (if(-1000) > (a.n.getD 0 0) then(-1000) else(a.n.getD 0 0))))) rfl rfl ⟨s44,RC.same C48,rfl⟩)
     ·exact Ja k47 (aC e60 aN) fun _=>OpSt.op (St.min rfl rfl rfl ⟨s44,RC.same C48,rfl⟩)
     ·exact Ja k47 (aC e61 (aC e62 aN)) fun _=>OpSt.op (J5o rfl rfl rfl rfl ⟨s44,RC.same C48,rfl⟩)
     obtain⟨b101,o102,cs103,e100,e104⟩:=d66;obtain⟨rfl,bd105⟩:cs103=_∧_:=e104.rd;obtain⟨b107,o108,cs109,e106,e110⟩:=d71;obtain⟨rfl,bd111⟩:cs109=_∧_:=e110.rd;obtain⟨f112,rfl⟩:=mixK k47 (aC e63 (aC e64 (aC e65 (aC e100 (aC e67 (aC e68 (aC e69 (aC e70 (aC e106 (aC e72 (aC e73 (aC e74 (aC e75 (aC e76 aN))))))))))))));refine Ol (St.mul (z:=(IntKind.i64.wrap (m * (if(if 1000 < (IntKind.i64.wrap (0 - (if(-1000) > (a.n.getD 0 0) then(-1000) else(a.n.getD 0 0)))) then 1000 else(IntKind.i64.wrap (0 - (if(-1000) > (a.n.getD 0 0) then(-1000) else(a.n.getD 0 0))))) > (if(if 1000 < (a.n.getD 0 0) then 1000 else(a.n.getD 0 0)) > 1 then(if 1000 < (a.n.getD 0 0) then 1000 else(a.n.getD 0 0)) else 1) then(if 1000 < (IntKind.i64.wrap (0 - (if(-1000) > (a.n.getD 0 0) then(-1000) else(a.n.getD 0 0)))) then 1000 else(IntKind.i64.wrap (0 - (if(-1000) > (a.n.getD 0 0) then(-1000) else(a.n.getD 0 0))))) else(if(if 1000 < (a.n.getD 0 0) then 1000 else(a.n.getD 0 0)) > 1 then(if 1000 < (a.n.getD 0 0) then 1000 else(a.n.getD 0 0)) else 1))))) rfl rfl rfl ?_);refine Ol (St.min rfl rfl rfl (Oa (Nl (⟨_,_,(if 100000 < (IntKind.i64.wrap (m * (if(if 1000 < (IntKind.i64.wrap (0 - (if(-1000) > (a.n.getD 0 0) then(-1000) else(a.n.getD 0 0)))) then 1000 else(IntKind.i64.wrap (0 - (if(-1000) > (a.n.getD 0 0) then(-1000) else(a.n.getD 0 0))))) > (if(if 1000 < (a.n.getD 0 0) then 1000 else(a.n.getD 0 0)) > 1 then(if 1000 < (a.n.getD 0 0) then 1000 else(a.n.getD 0 0)) else 1) then(if 1000 < (IntKind.i64.wrap (0 - (if(-1000) > (a.n.getD 0 0) then(-1000) else(a.n.getD 0 0)))) then 1000 else(IntKind.i64.wrap (0 - (if(-1000) > (a.n.getD 0 0) then(-1000) else(a.n.getD 0 0))))) else(if(if 1000 < (a.n.getD 0 0) then 1000 else(a.n.getD 0 0)) > 1 then(if 1000 < (a.n.getD 0 0) then 1000 else(a.n.getD 0 0)) else 1)))) then 100000 else(IntKind.i64.wrap (m * (if(if 1000 < (IntKind.i64.wrap (0 - (if(-1000) > (a.n.getD 0 0) then(-1000) else(a.n.getD 0 0)))) then 1000 else(IntKind.i64.wrap (0 - (if(-1000) > (a.n.getD 0 0) then(-1000) else(a.n.getD 0 0))))) > (if(if 1000 < (a.n.getD 0 0) then 1000 else(a.n.getD 0 0)) > 1 then(if 1000 < (a.n.getD 0 0) then 1000 else(a.n.getD 0 0)) else 1) then(if 1000 < (IntKind.i64.wrap (0 - (if(-1000) > (a.n.getD 0 0) then(-1000) else(a.n.getD 0 0)))) then 1000 else(IntKind.i64.wrap (0 - (if(-1000) > (a.n.getD 0 0) then(-1000) else(a.n.getD 0 0))))) else(if(if 1000 < (a.n.getD 0 0) then 1000 else(a.n.getD 0 0)) > 1 then(if 1000 < (a.n.getD 0 0) then 1000 else(a.n.getD 0 0)) else 1))))),C48,rfl,rfl,rfl,rfl,h9,o28⟩))))
    refine OT (Nl (J28 rfl (W.skip (⟨_,_,m,C23,rfl,rfl,rfl,rfl,h9,o28⟩))))
   refine Om (Oz (Oz (Oz (Oz (OF (Nl (J28 rfl (W.skip (⟨_,_,m,C23,rfl,rfl,rfl,rfl,h9,o28⟩)))))))))
  rintro f113 w114 ⟨x115,y116,t,C117,e118,e119,e120,e121,h9,o122⟩;obtain⟨f123,rfl⟩:=rebK (aC e118 (aC e119 (aC e120 (aC e121 aN))));clear e118 e119 e120 e121;refine Rh (Oa (Nl (W.block (J3j (fun μ f v=>∃ (x y:Nat→Prop) (i:Nat) (z2:Int),Cx X w x y v∧f 1=(.int .i64 t)∧f 2=(.pointer (some ⟨g10,0,none⟩))∧f 4=(.int .i64 0)∧f 6=(.int .i64 ((i:Nat):Int))∧f 5=(.int .i64 z2)∧ExprParts x v a a1 c2 a3 c4 a5 c6 a7 c8∧Own w y v g10 (ec a a1 c2 a3 c4 a5 c6 a7 c8) 31∧i≤a.args.length∧μ=(a.args.length - i)) _ ⟨_,_,0,z,C117,rfl,rfl,rfl,rfl,rfl,h9,o122,(Nat.zero_le _),rfl⟩ ?_))));rintro m136 f124 w125 ⟨x126,y127,i,z2,C128,e129,e130,e131,e132,e133,h9,o134,hi,hmu135⟩;obtain⟨f137,rfl⟩:=rebK (aC e129 (aC e130 (aC e131 (aC e132 (aC e133 aN)))));clear e129 e130 e131 e132 e133;refine Rh (Om (Ol (St.fieldAddr J3 rfl (Ol (J27 o134 pl29 rfl rfl (Ol (St.len sl29 rfl (Ol (J3i rfl rfl (fun hc138=>?_) (fun hc138=>?_))))))))))
  ·refine Nl (J26 rfl (W.skip (W.seq (W.block (W.region (Om (Ol (St.fieldAddr J3 rfl (Ol (J27 o134 pl29 rfl rfl (Om (Ol (J3k (j:=i) (u:=(a.args.getD i default)) h9.args sl29 io31 rfl rfl rfl (Jg (by omega)) ?_)))))))))))));intro b139 o140 cs141 e142;obtain⟨a143,c144,a145,c146,a147,c148,a149,c150,rfl,h151⟩:=Jq e142.rd;refine Ol (J3v (cs:=(ec (a.args.getD i default) a143 c144 a145 c146 a147 c148 a149 c150)) ag31 rfl rfl e142.cell (Om (Ol (J25 C128 cb38 rfl rfl (ih C128.bd (Jh (a.args.getD i default) h151.lo h151.hi h151.name h151.n h151.num h151.den h151.args) (Qu pa (by omega)) (Nat.lt_of_lt_of_le (Kn (by omega)) (Nat.le_of_lt_succ hN))) ?_))));intro v152 w153 C154 s155 h156;replace h9:=h9.sp s155;replace o134:=o134.spn s155;obtain⟨z157,rfl⟩:=h156;refine Ol (St.add (z:=(IntKind.i64.wrap (z2+z157))) rfl rfl rfl (Ol (St.min rfl rfl rfl (Oa (Nl (W.region (Om (Ol (St.add rfl rfl (Jc (a:=i) (b:=1) (by omega)) (Oa (Nl (⟨_,(by omega),_,_,(i+1),(if 100000 < (IntKind.i64.wrap (z2+z157)) then 100000 else(IntKind.i64.wrap (z2+z157))),C154,rfl,rfl,rfl,rfl,rfl,h9,o134,(by omega),rfl⟩))))))))))))
  exact Nl (J28 rfl (W.exit (Rg (Om (Oa (Nl (W.ret (Wq rfl rfl C128 ⟨_,rfl⟩))))))))
theorem Jt9{X:Nat→Prop}{w:World}(hX:XB X w){v0:Value}{a:GExpr}(r0:RV Jf X w v0 a){m:Int}(pa:Zl a=true):Calls Tryz.prog 38 #[v0,(.int .i64 m)] w (Ret w fun v w'=>∃ n:Int,v= .int .i64 n):=Jj2 ((SizeOf.sizeOf a)+1) hX r0 pa (Nat.lt_succ_self _)
end Go.Wf
namespace Go.Wf
open Go
def Q1(n:Nat):Bool:=decide ((97≤n∧n≤122)∨(65≤n∧n≤90))
def Q2(n:Nat):Bool:=decide (48≤n∧n≤57)
theorem Jie{n:Nat}(h:(97≤n∧n≤122)∨(65≤n∧n≤90)):true=Q1 n:=(decide_eq_true h).symm
theorem Jaw{n:Nat}(h:¬ ((97≤n∧n≤122)∨(65≤n∧n≤90))):false=Q1 n:=(decide_eq_false h).symm
theorem Jbe{n:Nat}{p:Prop}[Decidable p](h:p↔((97≤n∧n≤122)∨(65≤n∧n≤90))):decide p=Q1 n:=decide_eq_decide.2 h
theorem Jmg{n:Nat}(h:¬ (48≤n∧n≤57)):false=Q2 n:=(decide_eq_false h).symm
theorem Jiv{n:Nat}{p:Prop}[Decidable p](h:p↔(48≤n∧n≤57)):decide p=Q2 n:=decide_eq_decide.2 h
def okB(c:UInt8):Bool:=Q1 c.toNat || Q2 c.toNat
def digB(c:UInt8):Bool:=Q2 c.toNat
def Xo:List (List UInt8):=[[71],[101,116,97],[116,104,101,116,97],[68,101,108,116,97],[106],[110,101,119,102,111,114,109],[86],[85],[84],[116,119,105,115,116],[115,101,114,114,101],[98,114,97,99,107,101,116]]
def Yj(s:List UInt8):Bool:=decide (1 < s.length) && decide (s.getD 0 0=69) && (s.drop 1).all digB
def Yd(s:List UInt8):Bool:=decide (s ∈ Xo) || Yj s
def Kh(s:List UInt8):Bool:=decide (1≤s.length) && decide (s.length≤20) && Q1 (s.getD 0 0).toNat && !Yd s && s.all okB
theorem V2{p:UInt8→Bool}{s:List UInt8}:s.all p=true↔∀ j,j < s.length→p (s.getD j 0)=true:=by
 rw [List.all_eq_true]
 constructor
 ·intro h j hj;rw [List.getD_eq_getElem?_getD,List.getElem?_eq_getElem hj];exact h _ (List.getElem_mem hj)
 ·intro h c hc;obtain⟨j,hj,rfl⟩:=List.mem_iff_getElem.1 hc
  have:=h j hj
  rwa [List.getD_eq_getElem?_getD,List.getElem?_eq_getElem hj] at this
theorem Ji1{p:UInt8→Bool}{s:List UInt8}{j:Nat}(hj:j < s.length)(h:p (s.getD j 0)=false):s.all p=false:=
 Bool.eq_false_iff.2 fun ha=>by rw [V2.1 ha j hj] at h;cases h
theorem xj(s:List UInt8)(j:Nat):(s.drop 1).getD j 0=s.getD (j+1) 0:=by
 rw [List.getD_eq_getElem?_getD,List.getD_eq_getElem?_getD,List.getElem?_drop,Nat.add_comm]
theorem xy{n:Nat}(h:128≤n):Q1 n=false:=decide_eq_false (by omega)
theorem za{n:Nat}(h:128≤n):Q2 n=false:=decide_eq_false (by omega)
theorem Jya{n:Nat}{C:Prop}(h:128≤n)(h2:Q1 n=true):C:=by rw [xy h] at h2;cases h2
theorem Jp4{n:Nat}{C:Prop}(h:128≤n)(h2:Q2 n=true):C:=by rw [za h] at h2;cases h2
theorem Jqa{c:UInt8}(h:Q1 c.toNat=true):okB c=true:=by unfold okB;rw [h];rfl
theorem Jrf{c:UInt8}(h:Q2 c.toNat=true):okB c=true:=by unfold okB;rw [h,Bool.or_true]
theorem Jrp{c:UInt8}(h:Q1 c.toNat=false)(h2:Q2 c.toNat=false):okB c=false:=by unfold okB;rw [h,h2];rfl
theorem Jwh{c:UInt8}(h:128≤c.toNat):okB c=false:=Jrp (xy h) (za h)
section
variable {s:List UInt8}
theorem Jm5(h:((s.length:Nat):Int) < 1):false=Kh s:=by unfold Kh;rw [decide_eq_false (by omega)];rfl
theorem Jid(h:(20:Int) < ((s.length:Nat):Int)):false=Kh s:=by unfold Kh;rw [decide_eq_false (show ¬ s.length≤20 by omega)];simp
theorem Jxv(h:s=[]):false=Kh s:=by rw [h];rfl
theorem Jfz(h:Q1 (s.getD 0 0).toNat=false):false=Kh s:=by unfold Kh;rw [h];simp
theorem Jk7{i:Nat}(h:Q1 (s.getD i 0).toNat=false)(h0:((i:Nat):Int)=0):false=Kh s:=by
 have e:i=0:=by omega
 subst e;exact Jfz h
theorem Jf4{j:Nat}(hj:j < s.length)(h:okB (s.getD j 0)=false):false=Kh s:=by unfold Kh;rw [Ji1 hj h];simp
theorem Jqf(h:Yd s=true):false=Kh s:=by unfold Kh;rw [h];simp
theorem K2(h:s ∈ Xo):false=Kh s:=Jqf (by unfold Yd;rw [decide_eq_true h];rfl)
theorem Jrl(h1:¬ ((s.length:Nat):Int) < 1)(h2:¬ (20:Int) < ((s.length:Nat):Int))(h3:Q1 (s.getD 0 0).toNat=true)(h4:Yd s=false)(h5:∀ j,j < s.length→okB (s.getD j 0)=true):true=Kh s:=by
 unfold Kh;rw [decide_eq_true (show 1≤s.length by omega),decide_eq_true (show s.length≤20 by omega),h3,h4,V2.2 h5];rfl
theorem wt_no{j:Nat}(h1:1≤j)(hj:j < s.length)(h:Q2 (s.getD j 0).toNat=false):false=Yj s:=by
 unfold Yj;rw [Ji1 (p:=digB) (j:=j - 1) (by rw [List.length_drop];omega) (by rw [xj,show j - 1+1=j by omega];exact h)];simp
theorem Jyg{j:Nat}(h:∀ i,1≤i→i < j→Q2 (s.getD i 0).toNat=true)(hj:s.length≤j):(s.drop 1).all digB=true:=
 V2.2 fun i hi=>by rw [xj];exact h _ (by omega) (by rw [List.length_drop] at hi;omega)
theorem Jy3(h:¬ (1:Int) < ((s.length:Nat):Int)):false=Yj s:=by unfold Yj;rw [decide_eq_false (by omega)];rfl
theorem Jyi{j:Nat}(h0:(1:Int) < ((s.length:Nat):Int))(h:∀ i,1≤i→i < j→Q2 (s.getD i 0).toNat=true)(hj:¬ (j:Int) < ((s.length:Nat):Int)):decide ((((s.getD 0 0).toNat:Nat):Int)=69)=Yj s:=by
 unfold Yj;rw [decide_eq_true (show 1 < s.length by omega),Jyg h (by omega),Bool.true_and,Bool.and_true];refine decide_eq_decide.2 ⟨fun e=>?_,fun e=>by rw [e];rfl⟩;exact UInt8.toNat_inj.1 (by have:(69:UInt8).toNat=69:=rfl;omega)
theorem Jvs{i:Nat}(h:∀ j,j < i→¬ Xo.getD j []=s)(hi:¬ (i:Int) < 12):Yj s=Yd s:=by
 unfold Yd;rw [decide_eq_false,Bool.false_or];intro hm;obtain⟨j,hj,e⟩:=List.mem_iff_getElem.1 hm;refine h j ?_ ?_
 ·have:Xo.length=12:=rfl
  omega
 ·rw [List.getD_eq_getElem?_getD,List.getElem?_eq_getElem hj];exact e
theorem Jtc{i:Nat}(hi:i < 12)(h:Xo.getD i []=s):true=Yd s:=by
 unfold Yd;rw [decide_eq_true,Bool.true_or];rw [← h,List.getD_eq_getElem?_getD,List.getElem?_eq_getElem (show i < Xo.length from hi)];exact List.getElem_mem _
theorem Jze{j:Nat}(hj:j < s.length)(h:Q2 (s.getD j 0).toNat=false):false=(s.all digB && decide (¬ s=[])):=by rw [Ji1 (p:=digB) hj h];rfl
theorem dg_hi{j:Nat}(hj:j < s.length)(h:128≤(s.getD j 0).toNat):false=(s.all digB && decide (¬ s=[])):=Jze hj (za h)
theorem Jqo{j:Nat}(h:∀ i,i < j→Q2 (s.getD i 0).toNat=true)(hj:s.length≤j){b:Bool}(hb:b=decide (¬ s=[])):b=(s.all digB && decide (¬ s=[])):=by
 rw [V2.2 fun i hi=>h i (by omega),Bool.true_and];exact hb
theorem nm_E(h0:¬ s=[])(hw:s ∉ Xo)(h2:¬ (20:Int) < ((s.length:Nat):Int))(h3:Q1 (s.getD 0 0).toNat=true)(h5:∀ j,j < s.length→okB (s.getD j 0)=true)(h:¬ (((s.getD 0 0).toNat:Nat):Int)=69):true=Kh s:=by
 have hp:=List.length_pos_iff.2 h0;refine Jrl (by omega) h2 h3 ?_ h5;unfold Yd Yj;rw [decide_eq_false hw,decide_eq_false (show ¬ s.getD 0 0=69 from fun e=>h (by rw [e];rfl))];simp
theorem nm_D(h0:¬ s=[])(hw:s ∉ Xo)(h2:¬ (20:Int) < ((s.length:Nat):Int))(h3:Q1 (s.getD 0 0).toNat=true)(h5:∀ j,j < s.length→okB (s.getD j 0)=true)(h:(((s.getD 0 0).toNat:Nat):Int)=69):
  (!((s.drop 1).all digB && decide (¬ s.drop 1=[])))=Kh s:=by
 have hp:=List.length_pos_iff.2 h0;have he:s.getD 0 0=69:=UInt8.toNat_inj.1 (by have:(69:UInt8).toNat=69:=rfl;omega);have hd:decide (¬ s.drop 1=[])=decide (1 < s.length):=decide_eq_decide.2 (by
  have h1:¬ s.drop 1=[]↔0 < (s.drop 1).length:=(List.length_pos_iff (l:=s.drop 1)).symm;rw [h1,List.length_drop];omega)
 have hr:Yd s=((s.drop 1).all digB && decide (1 < s.length)):=by
  unfold Yd Yj;rw [decide_eq_false hw,he];simp [Bool.and_comm]
 unfold Kh;rw [decide_eq_true (show 1≤s.length by omega),decide_eq_true (show s.length≤20 by omega),h3,V2.2 h5,hr,hd];simp
end
end Go.Wf
namespace Go.Wf
open Go Go.Proofs Go.RowKit
def ItB(w:World)(g:Nat)(s:List UInt8)(pos:Nat):Prop:=w.heap[g]? =some (.stringIter ⟨s.toArray⟩ pos)
theorem ItB.lt{w:World}{g:Nat}{s:List UInt8}{pos:Nat}(h:ItB w g s pos):g < w.heap.size:=(Array.getElem?_eq_some_iff.1 h).1
structure Itr (w0:Bs) (y:Nat→Prop) (w:World) (g:Nat) (s:List UInt8) (pos:Nat):Prop where
 mem:y g
 ge:w0.heap.size≤g∨w0.M g
 blk:ItB w g s pos
section
variable {w0:Bs} {X0 x y x' y':Nat→Prop} {w w':World} {g g':Nat} {s:List UInt8} {pos:Nat}
theorem Itr.sp{ch:Nat→Prop}(h:Itr w0 y w g s pos)(p:Sp x y w x' y' w' ch)(hn:¬ ch g):Itr w0 y' w' g s pos:=⟨p.up _ h.mem,h.ge,(p.same g h.blk.lt hn).trans h.blk⟩
theorem Itr.spn(h:Itr w0 y w g s pos)(p:Sp x y w x' y' w' Zf):Itr w0 y' w' g s pos:=h.sp p id
theorem Itr.spo(h:Itr w0 y w g s pos)(p:Sp x y w x' y' w' (· =g'))(hn:g≠g'):Itr w0 y' w' g s pos:=h.sp p hn
theorem Cx.iter(C:Cx X0 w0 x y w)(s:List UInt8):
  Cx X0 w0 (fun b=>x b∨b=w.heap.size) (fun b=>y b∨b=w.heap.size) (w.alloc (.stringIter ⟨s.toArray⟩ 0))∧
  Sp x y w (fun b=>x b∨b=w.heap.size) (fun b=>y b∨b=w.heap.size) (w.alloc (.stringIter ⟨s.toArray⟩ 0)) Zf∧
  Itr w0 (fun b=>y b∨b=w.heap.size) (w.alloc (.stringIter ⟨s.toArray⟩ 0)) w.heap.size s 0:=by
 have hle:=C.below.size;refine⟨⟨C.below.trans ((Y7 w _).mono hle),fun b h=> .inl (C.base b h),?_,?_⟩,⟨?_,?_,fun _ h=> .inl h,fun b hb _=>Ya hb⟩,⟨.inr rfl,.inl hle,heap_alloc_new _ _⟩⟩
 ·rintro b (h | rfl)
  ·have:=C.bd b h;simp;omega
  ·simp
 ·rintro b (h | rfl)
  ·exact .inl (C.yx b h)
  ·exact .inr rfl
 ·refine⟨?_,fun b hb _=>Ya hb,by simp⟩;rintro b hb (h | rfl)
  ·exact h
  ·omega
 ·refine⟨?_,fun b hb _=>Ya hb,by simp⟩;rintro b hb (h | rfl)
  ·exact h
  ·omega
def itSet(w:World)(g:Nat)(s:List UInt8)(pos:Nat):World:={w with heap:=w.heap.setIfInBounds g (.stringIter ⟨s.toArray⟩ pos)}
theorem Cx.itSet(C:Cx X0 w0 x y w)(I:Itr w0 y w g s pos)(q:Nat):Cx X0 w0 x y (itSet w g s q)∧Sp x y w x y (itSet w g s q) (· =g)∧Itr w0 y (itSet w g s q) g s q:=by
 have hs:(Wf.itSet w g s q).heap.size=w.heap.size:=by simp [Wf.itSet]
 have ho:∀ b,b≠g→(Wf.itSet w g s q).heap[b]? =w.heap[b]? :=fun b hb=>by simp [Wf.itSet,Array.getElem?_setIfInBounds,Ne.symm hb]
 have hb:Bel ⟨w,(· =g)⟩ (Wf.itSet w g s q):=⟨rfl,rfl,rfl,by rw [hs];exact Nat.le_refl _,fun k hk hm=>ho k hm⟩;refine⟨⟨C.below.turn hb I.ge,C.base,fun b h=>by rw [hs];exact C.bd b h,C.yx⟩,⟨⟨fun _ _ h=>h,fun b hb hx=>ho b fun e=>hx (e ▸ C.yx _ I.mem),by rw [hs];exact Nat.le_refl _⟩,⟨fun _ _ h=>h,fun b hb hx=>ho b fun e=>hx (e ▸ I.mem),by rw [hs];exact Nat.le_refl _⟩,fun _ h=>h,fun b hb hn=>ho b hn⟩,⟨I.mem,I.ge,?_⟩⟩;simp [ItB,Wf.itSet,Array.getElem?_setIfInBounds,I.blk.lt]
end
section
variable {P:Program} {ρ:Operand→Value} {w:World} {K:Value→World→Prop} {Kp:List PanicEntry→World→Prop} {dst:Option Tmp} {ty:TypeId} {pos:String} {after:Array Edge} {gd:Option (Nat × Bool)} {X0 x y:Nat→Prop} {w0:Bs}
theorem J4r {t:TypeId} {a:Operand} {s:List UInt8} (C:Cx X0 w0 x y w) (ht:P.underlying t=some .string) (hx:ρ a=str s)
  (h:∀ g w' x' y',(∀ b,b < w.heap.size→b≠g)→Cx X0 w0 x' y' w'→Sp x y w x' y' w' Zf→Itr w0 y' w' g s 0→K (.pointer (some ⟨g,0,none⟩)) w'):
  St P ρ ⟨dst,.range t a,ty,pos,after,gd⟩ w K Kp:=by
 obtain⟨c,p,i⟩:=C.iter s;refine J3c (v:= .pointer (some ⟨w.heap.size,0,none⟩)) (w':=w.alloc (.stringIter ⟨s.toArray⟩ 0)) ?_ (h _ _ _ _ (fun b hb=>by omega) c p i);simp only [execOp,hx,str]
 have:=run_range_string (P:=P) w t ⟨s.toArray⟩ ht
 simp [this,World.iter]
theorem Jm3{w:World}{g:Nat}{s:List UInt8}{q:Nat}{ty:TypeId}(h:ItB w g s q)(hq:s.length≤q):(Instr.next (.pointer (some ⟨g,0,none⟩)) true ty).run P w= .ok (.tuple #[.bool false]) w:=by
 have hn:¬ q < (⟨s.toArray⟩:ByteArray).size:=by simp [ByteArray.size];omega
 simp [Instr.next,getObj,Sem.run,show w.heap[g]? =_ from h,hn]
theorem Jpr{w:World}{g:Nat}{s:List UInt8}{q:Nat}{ty:TypeId}(h:ItB w g s q)(hq:q < s.length):
  (Instr.next (.pointer (some ⟨g,0,none⟩)) true ty).run P w= .ok (.tuple #[.bool true,.int .i64 q,.int .i32 (Utf8.decode ⟨s.toArray⟩ q).1]) (itSet w g s (q+(Utf8.decode ⟨s.toArray⟩ q).2)):=by
 have hn:q < (⟨s.toArray⟩:ByteArray).size:=by simp [ByteArray.size];omega
 simp [Instr.next,getObj,setObj,Sem.run,show w.heap[g]? =_ from h,hn,itSet,goInt]
theorem J40 {it:Operand} {g:Nat} {s:List UInt8} {q:Nat} (C:Cx X0 w0 x y w) (I:Itr w0 y w g s q) (hx:ρ it= .pointer (some ⟨g,0,none⟩))
  (he:s.length≤q→K (.tuple #[.bool false]) w)
  (ha:∀ w',q < s.length→(s.getD q 0).toNat < 128→Cx X0 w0 x y w'→Sp x y w x y w' (· =g)→Itr w0 y w' g s (q+1)→K (.tuple #[.bool true,.int .i64 q,.int .i32 (((s.getD q 0).toNat:Nat):Int)]) w')
  (hh:∀ w' r p,q < s.length→128≤(s.getD q 0).toNat→128≤r→Cx X0 w0 x y w'→Sp x y w x y w' (· =g)→Itr w0 y w' g s p→K (.tuple #[.bool true,.int .i64 q,.int .i32 ((r:Nat):Int)]) w'):
  St P ρ ⟨dst,.next it true,ty,pos,after,gd⟩ w K Kp:=by
 rcases Nat.lt_or_ge q s.length with hq | hq
 ·obtain⟨c,p,i⟩:=C.itSet I (q+(Utf8.decode ⟨s.toArray⟩ q).2);refine J3c (v:= .tuple #[.bool true,.int .i64 q,.int .i32 (Utf8.decode ⟨s.toArray⟩ q).1]) (w':=Wf.itSet w g s (q+(Utf8.decode ⟨s.toArray⟩ q).2)) ?_ ?_
  ·simp [execOp,hx,Jpr I.blk hq]
  ·have hn:q < (⟨s.toArray⟩:ByteArray).size:=by simp [ByteArray.size];omega
   have hb:((⟨s.toArray⟩:ByteArray)[q]'hn)=s.getD q 0:=by
    rw [List.getD_eq_getElem?_getD,List.getElem?_eq_getElem hq];rfl
   rcases Nat.lt_or_ge (s.getD q 0).toNat 128 with h1 | h1
   ·have hd:=decode_ascii ⟨s.toArray⟩ q hn (by rw [hb];exact h1);rw [hb] at hd;rw [hd] at c p i ⊢;exact ha _ hq h1 c p i
   ·have hd:=decode_high ⟨s.toArray⟩ q hn (by rw [hb];exact h1);exact hh _ _ _ hq h1 hd.1 c p i
 ·refine J3c (v:= .tuple #[.bool false]) (w':=w) ?_ (he hq);simp [execOp,hx,Jm3 I.blk hq]
end
section
variable {P:Program} {ρ:Operand→Value} {w:World} {K:Value→World→Prop} {Kp:List PanicEntry→World→Prop} {dst:Option Tmp} {ty:TypeId} {pos:String} {after:Array Edge} {gd:Option (Nat × Bool)} {X0 x y:Nat→Prop} {w0:Bs}
theorem J36 {α:Type} {T:Ty α} {E t:TypeId} {z u:Value} {by_ g:Nat} {m:List α} {a b:Operand} (C:Cx X0 w0 x y w) (ht:P.underlying t=some (.slice E)) (hi:J9 P E=some (z,T.sz,by_)) (hx:ρ a= .slice (some ⟨g,0,none⟩) 0 0) (hy:ρ b=u)
  (hs:RS T x w u m) (h63:m.length≤maxLen) (hby:m.length * by_≤140737488355328) (hz:z.cells.size=T.sz)
  (h:∀ v' w',Cx X0 w0 x y w'→Sp x y w x y w' Zf→RS T x w' v' m→K v' w'):
  St P ρ ⟨dst,.call {callee:= .builtin .append,args:= #[a,b],argTypes:= #[t,t]},ty,pos,after,gd⟩ w K Kp:=by
 obtain⟨inf,hi',hz',hsz,hbyt⟩:=Jl hi;obtain⟨css',k1,k2,ad,c,rfl,k3⟩:=Xh hs;have hal':=Yp k1 k2
 by_cases hml:m=[]
 ·subst hml;have hrun:(Builtin.append_ #[t,t] ty #[.slice (some ⟨g,0,none⟩) 0 0,.slice ad ([]:List α).length c]).run P w= .ok (.slice (some ⟨g,0,none⟩) 0 0) w:=by
   cases ad <;> simp [Builtin.append_,run_underlying ht,sizeOf,typeInfo,hi',Builtin.lenOf,Builtin.firstCells,loadCells,loadCellsFrom,storeCells]
  refine J3c (v:= .slice (some ⟨g,0,none⟩) 0 0) (w':=w) (by simp only [List.length_nil] at hrun hy;simp [execOp,resolve,invoke,builtin,hx,hy,hrun]) (h _ _ C Sp.refl ⟨_,0,rfl,Nat.le_refl _,by unfold maxLen;omega,.inl rfl⟩)
 ·rcases k3 with k3 | ⟨bb,oo,rfl,hcell⟩
  ·exact absurd k3 hml
  have hmpos:0 < m.length:=List.length_pos_iff.2 hml;have hnl:css'.flatten.length=m.length * T.sz:=by
   have:∀ (css:List (List Value)),(∀ cs ∈ css,cs.length=T.sz)→css.flatten.length=css.length * T.sz:=by
    intro css
    induction css with
    | nil=>intro _;simp
    | cons c css ih=>intro hh;rw [List.flatten_cons,List.length_append,hh c (by simp),ih fun cs h=>hh cs (by simp [h]),List.length_cons,Nat.succ_mul];omega
   rw [this css' hal',k1]
  have hnews:∀ j u,css'.flatten[j]? =some u→w.cell? ((⟨bb,oo,none⟩:Addr).add j)=some u:=fun j u hj=>by rw [Addr.add_lit];exact hcell j u hj
  have hr:=run_append_grow (P:=P) w t ty E inf z ht hi' hz' ⟨g,0,none⟩ 0 0 [] (by simp) (fun j v hj=>by simp at hj) ⟨bb,oo,none⟩ m.length c css'.flatten (by rw [hnl,hsz]) hnews (by omega) (by simp only [maxLen] at h63;omega)
   (by rw [hbyt];exact growslice_fits (by omega) (by rw [Nat.zero_add];exact hby))
  simp only [Nat.zero_add,List.nil_append] at hr;refine J3c (v:= .slice (some ⟨w.heap.size,0,none⟩) m.length (grownCap w m.length 0 E)) (w':=w.drew.alloc (.cells (#[]++css'.flatten.toArray++Builtin.zeroCells z.cells (grownCap w m.length 0 E - m.length)) E)) (by
   simp [execOp,resolve,invoke,builtin,hx,hy,hr]) ?_
  have hB:Below w.heap.size w (w.drew.alloc (.cells (#[]++css'.flatten.toArray++Builtin.zeroCells z.cells (grownCap w m.length 0 E - m.length)) E)):=((Below.refl _ _).drew).alloc (Nat.le_refl _) _;obtain⟨C',S'⟩:=C.next hB;have ho:OS T E w0 (fun b=>x b∨b=w.heap.size) y (w.drew.alloc (.cells (#[]++css'.flatten.toArray++Builtin.zeroCells z.cells (grownCap w m.length 0 E - m.length)) E)) (.slice (some ⟨w.heap.size,0,none⟩) m.length (grownCap w m.length 0 E)) m:=by
   refine⟨⟨css',k1,fun i cs u h1 h2=>T.tr (k2 i cs u h1 h2) ⟨?_,S'.tx.blk,S'.tx.size⟩,by rw [hnl],.inr ⟨w.heap.size,_,_,rfl,Nat.zero_le _,heap_alloc_new w.drew _,grownCap_ge w _ _ E,grownCap_le_maxLen w _ _ E (by simpa using h63),?_,?_⟩⟩,fun k hk=>?_⟩
   ·rintro b hb (h | rfl)
    ·exact h
    ·exact absurd hb (Nat.lt_irrefl _)
   ·have hge:=grownCap_ge w m.length 0 E;simp only [Array.size_append,List.size_toArray,size_zeroCells,hz,hnl,Array.size_empty,List.length_nil,Nat.zero_add,← Nat.add_mul]
    congr 1;omega
   ·simp only [Array.toList_append,Array.toList_empty,List.nil_append,← hnl];exact List.take_left
   ·simp [Value.ownBlock] at hk;subst hk;exact⟨⟨.inr rfl,fun hy=>by have:=C.bd _ (C.yx _ hy);omega⟩,.inl C.below.size⟩
  exact h _ _ C' S' (ho.pub (fun _ h=> .inl h) fun k hk=>by
   simp [Value.ownBlock] at hk;subst hk;exact fun hx=>by have:=C.bd _ hx;omega)
end
section
variable {P:Program} {ρ:Operand→Value} {w:World} {K:Value→World→Prop} {Kp:List PanicEntry→World→Prop} {dst:Option Tmp} {ty:TypeId} {pos:String} {after:Array Edge} {gd:Option (Nat × Bool)} {X0 x y:Nat→Prop} {w0:Bs}
theorem J4n {t E:TypeId} {z:Value} {by_:Nat} (C:Cx X0 w0 x y w) (ht:P.underlying t=some (.slice E)) (hi:J9 P E=some (z,1,by_))
  (h:∀ g w',Cx X0 w0 x y w'→Sp x y w x y w' Zf→K (.slice (some ⟨g,0,none⟩) 0 0) w'):
  St P ρ ⟨dst,.buildSlice t 0 #[],ty,pos,after,gd⟩ w K Kp:=by
 refine J42 (T:=Je) C ht hi fun g w' x' C' S' up ho=>h g w' ⟨C'.below,C.base,fun b hb=>Nat.lt_of_lt_of_le (C.bd b hb) S'.tx.size,C.yx⟩ ⟨⟨fun _ _ h=>h,S'.tx.blk,S'.tx.size⟩,S'.ty,fun _ h=>h,S'.same⟩
def RU(X0:Nat→Prop)(b0:Bs)(x y:Nat→Prop):Unit→World→Unit→World→Prop:=fun _ w _ w'=>Cx X0 b0 x y w'∧Sp x y w x y w' Zf
def ur{α:Type}(x:Nat→Prop)(T:Ty α)(m:α):Unit→Value→World→Prop:=fun _ v w=>RV T x w v m
def us{α:Type}(x:Nat→Prop)(T:Ty α)(m:List α):Unit→Value→World→Prop:=fun _ v w=>RS T x w v m
def uE{α:Type}(x:Nat→Prop)(T:Ty α)(m:α):Unit→Value→World→Prop:=fun _ v w=>∃ (b o:Nat) (cs:List Value),v= .pointer (some ⟨b,o,none⟩)∧ElAt T x w b o cs m
def u0{τ:Type}:τ→Value→World→Prop:=fun _ v _=>∃ g,v= .slice (some ⟨g,0,none⟩) 0 0
theorem tr{b0:Bs}{α:Type}{T:Ty α}{m:α}:∀ v s w s' w',ur x T m s v w→RU X0 b0 x y s w s' w'→ur x T m s' v w':=fun _ _ _ _ _ h r=>RV.tr h r.2.tx
theorem ts{b0:Bs}{α:Type}{T:Ty α}{m:List α}:∀ v s w s' w',us x T m s v w→RU X0 b0 x y s w s' w'→us x T m s' v w':=fun _ _ _ _ _ h r=>RS.tr h r.2.tx
theorem tE{b0:Bs}{α:Type}{T:Ty α}{m:α}:∀ v s w s' w',uE x T m s v w→RU X0 b0 x y s w s' w'→uE x T m s' v w':=fun _ _ _ _ _ ⟨b,o,cs,e,h⟩ r=>⟨b,o,cs,e,h.tr r.2.tx⟩
end
section
variable {fc:Fence} [Fw fc] {P:Program} {ops:Array Oper} {n:Nat} {D:List Deferred} {Q:Post} {f0:Fr} {w0:World}
theorem J35 {id:Nat} (hm:P.follows .mixedOrders=true) (m:Nat) (dl:List (List Nat)) {X0 x y:Nat→Prop} {b0:Bs} (C:Cx X0 b0 x y w0) (Gl:List (Unit→Value→World→Prop))
  (chk:xg ops m n dl=true) (hG:K4 (RU X0 b0 x y) Gl)
  (h:∀ f w,Cx X0 b0 x y w→Sp x y w0 x y w Zf→Keep (J4 ops m) f0 f→qz P ops Q (RU X0 b0 x y) Gl f () w ops.toList dl 0∧(Deps ops Gl f () w (List.range m)→Sq P ops n Q (ops.toList.drop m) f w)):
  W fc P (Code.region id ops true) n D Q f0 w0:=
 J4j hm m dl () (RU X0 b0 x y) Gl chk (by obtain⟨c,s⟩:=C.next (Below.refl _ _).drew;exact⟨c,s⟩) (fun _ _ _ _ _ _ h k=>⟨k.1,h.2.trans k.2⟩) hG fun f s w r k=>h f w r.1 r.2 k
end
end Go.Wf
namespace Go.Wf
open Go Go.Proofs Go.RowKit
theorem Jp1{X:Nat→Prop}{w:World}(hX:XB X w){n:Nat}  :Calls Tryz.prog 43 #[(.int .i32 ((n:Nat):Int))] w (Ret w fun v w'=>v=(.bool (Q1 n))):=by
 have C:=Cx.start hX;refine Cgo (args:=[(.int .i32 ((n:Nat):Int))]) Tryz.func43 rfl rfl rfl (Rg (Oa (Nl (Rg (Om (Ol (J3w rfl rfl (fun hc1=>?_) (fun hc1=>?_))))))))
 ·refine Om (Og rfl rfl (St.move (Og rfl rfl (J38 rfl rfl (fun hc2=>?_) (fun hc2=>?_)))))
  ·exact OT (Om (Oz (Oz (Oz (Oy rfl rfl (Oy rfl rfl (Oz (OT (Oa (Nl (W.ret (Wq rfl rfl C (congrArg (Value.bool) (Jie (by omega)))))))))))))))
  refine OT (Om (Og rfl rfl (St.move (Og rfl rfl (J3w rfl rfl (fun hc3=>?_) (fun hc3=>?_))))))
  ·exact Og rfl rfl (St.move (Og rfl rfl (St.move (Og rfl rfl (St.leq rfl rfl rfl (Og rfl rfl (St.pick (t:=true) rfl (OF (Oa (Nl (W.ret (Wq rfl rfl C (congrArg (Value.bool) (Jbe (by omega)))))))))))))))
  exact Og rfl rfl (St.move (Oz (Oz (Og rfl rfl (St.pick (t:=false) rfl (OF (Oa (Nl (W.ret (Wq rfl rfl C (congrArg (Value.bool) (Jaw (by omega)))))))))))))
 refine Om (Oz (Oz (OF (Om (Og rfl rfl (St.move (Og rfl rfl (J3w rfl rfl (fun hc4=>?_) (fun hc4=>?_)))))))))
 ·exact Og rfl rfl (St.move (Og rfl rfl (St.move (Og rfl rfl (St.leq rfl rfl rfl (Og rfl rfl (St.pick (t:=true) rfl (OF (Oa (Nl (W.ret (Wq rfl rfl C (congrArg (Value.bool) (Jbe (by omega)))))))))))))))
 exact Og rfl rfl (St.move (Oz (Oz (Og rfl rfl (St.pick (t:=false) rfl (OF (Oa (Nl (W.ret (Wq rfl rfl C (congrArg (Value.bool) (Jaw (by omega)))))))))))))
theorem Jff{X:Nat→Prop}{w:World}(hX:XB X w){n:Nat}  :Calls Tryz.prog 44 #[(.int .i32 ((n:Nat):Int))] w (Ret w fun v w'=>v=(.bool (Q2 n))):=by
 have C:=Cx.start hX;refine Cgo (args:=[(.int .i32 ((n:Nat):Int))]) Tryz.func44 rfl rfl rfl (Rg (Oa (Nl (Rg (Om (Ol (J3w rfl rfl (fun hc1=>?_) (fun hc1=>?_))))))))
 ·exact Om (Og rfl rfl (St.move (Og rfl rfl (St.leq rfl rfl rfl (OT (Oa (Nl (W.ret (Wq rfl rfl C (congrArg (Value.bool) (Jiv (by omega))))))))))))
 exact Om (Oz (Oz (OF (Oa (Nl (W.ret (Wq rfl rfl C (congrArg (Value.bool) (Jmg (by omega))))))))))
theorem Jyq{X:Nat→Prop}{w:World}(hX:XB X w){n:Nat}  :Calls Tryz.prog 46 #[(.int .u8 ((n:Nat):Int))] w (Ret w fun v w'=>v=(.bool (Q1 n))):=by
 have C:=Cx.start hX;refine Cgo (args:=[(.int .u8 ((n:Nat):Int))]) Tryz.func46 rfl rfl rfl (Rg (Oa (Nl (Rg (Om (Ol (J3w rfl rfl (fun hc1=>?_) (fun hc1=>?_))))))))
 ·refine Om (Og rfl rfl (St.move (Og rfl rfl (J38 rfl rfl (fun hc2=>?_) (fun hc2=>?_)))))
  ·exact OT (Om (Oz (Oz (Oz (Oy rfl rfl (Oy rfl rfl (Oz (OT (Oa (Nl (W.ret (Wq rfl rfl C (congrArg (Value.bool) (Jie (by omega)))))))))))))))
  refine OT (Om (Og rfl rfl (St.move (Og rfl rfl (J3w rfl rfl (fun hc3=>?_) (fun hc3=>?_))))))
  ·exact Og rfl rfl (St.move (Og rfl rfl (St.move (Og rfl rfl (St.leq rfl rfl rfl (Og rfl rfl (St.pick (t:=true) rfl (OF (Oa (Nl (W.ret (Wq rfl rfl C (congrArg (Value.bool) (Jbe (by omega)))))))))))))))
  exact Og rfl rfl (St.move (Oz (Oz (Og rfl rfl (St.pick (t:=false) rfl (OF (Oa (Nl (W.ret (Wq rfl rfl C (congrArg (Value.bool) (Jaw (by omega)))))))))))))
 refine Om (Oz (Oz (OF (Om (Og rfl rfl (St.move (Og rfl rfl (J3w rfl rfl (fun hc4=>?_) (fun hc4=>?_)))))))))
 ·exact Og rfl rfl (St.move (Og rfl rfl (St.move (Og rfl rfl (St.leq rfl rfl rfl (Og rfl rfl (St.pick (t:=true) rfl (OF (Oa (Nl (W.ret (Wq rfl rfl C (congrArg (Value.bool) (Jbe (by omega)))))))))))))))
 exact Og rfl rfl (St.move (Oz (Oz (Og rfl rfl (St.pick (t:=false) rfl (OF (Oa (Nl (W.ret (Wq rfl rfl C (congrArg (Value.bool) (Jaw (by omega)))))))))))))
theorem Jxo{X:Nat→Prop}{w:World}(hX:XB X w){n:Nat}  :Calls Tryz.prog 48 #[(.int .u8 ((n:Nat):Int))] w (Ret w fun v w'=>v=(.bool (Q2 n))):=by
 have C:=Cx.start hX;refine Cgo (args:=[(.int .u8 ((n:Nat):Int))]) Tryz.func48 rfl rfl rfl (Rg (Oa (Nl (Rg (Om (Ol (J3w rfl rfl (fun hc1=>?_) (fun hc1=>?_))))))))
 ·exact Om (Og rfl rfl (St.move (Og rfl rfl (St.leq rfl rfl rfl (OT (Oa (Nl (W.ret (Wq rfl rfl C (congrArg (Value.bool) (Jiv (by omega))))))))))))
 exact Om (Oz (Oz (OF (Oa (Nl (W.ret (Wq rfl rfl C (congrArg (Value.bool) (Jmg (by omega))))))))))
theorem Jpk{X:Nat→Prop}{w:World}(hX:XB X w){s:List UInt8}  :Calls Tryz.prog 45 #[(str s)] w (Ret w fun v w'=>v=(.bool (s.all digB && decide (¬ s=[])))):=by
 have C:=Cx.start hX;refine Cgo (args:=[(str s)]) Tryz.func45 rfl rfl rfl (Rg (Oa (Nl (Rh (Om (Ol (J4r C un9 rfl ?_)))))));intro g1 w2 x3 y4 lt5 C6 s7 o8;refine Nl (W.block (J3j (fun μ f v=>∃ (x y:Nat→Prop) (i:Nat),Cx X w x y v∧f 0=(str s)∧f 6=(.pointer (some ⟨g1,0,none⟩))∧Itr w y v g1 s i∧i≤s.length∧(∀ j,j < i→Q2 (s.getD j 0).toNat=true)∧μ=(s.length - i)) _ ⟨_,_,0,C6,rfl,rfl,o8,(Nat.zero_le _),(fun _ h=>absurd h (Nat.not_lt_zero _)),rfl⟩ ?_));rintro m18 f9 w10 ⟨x11,y12,i,C13,e14,e15,o16,hi,hall,hmu17⟩;obtain⟨f19,rfl⟩:=rebK (aC e14 (aC e15 aN));clear e14 e15;refine Rg (Ol (J40 C13 o16 rfl (fun hq20=>?_) (fun w21 hq22 h26 C23 s24 o25=>?_) (fun w27 r32 p33 hq28 h34 h35 C29 s30 o31=>?_)))
 ·refine Ol (St.extract rfl rfl (Nl (W.seq (J28 rfl (W.exit (Rg (Om (Ol (J4f rfl rfl (fun hc36=>?_) (fun hc36=>?_))))))))))
  ·exact Oa (Nl (W.ret (Wq rfl rfl C13 (congrArg (Value.bool) (Jqo hall hq20 (by simp [hc36]))))))
  exact Oa (Nl (W.ret (Wq rfl rfl C13 (congrArg (Value.bool) (Jqo hall hq20 (by simp [hc36]))))))
 ·refine Ol (St.extract rfl rfl (Nl (W.seq (J26 rfl (W.skip (W.block (Rg (Ol (St.extract rfl rfl (Oa (Nl (Rg (Om (Ol (St.bool (J25 C23 cb44 rfl rfl (Jff C23.bd (n:=((s).getD i 0).toNat)) ?_))))))))))))))));intro v37 w38 C39 s40 h41;replace o25:=o25.spn s40;refine⟨_,h41,fun hb42=>?_,fun hb42=>?_⟩
  ·refine Ol (St.not rfl (Nl (J28 rfl (W.skip (⟨_,(by omega),_,_,(i+1),C39,rfl,rfl,o25,(by omega),(Kx hall hb42),rfl⟩)))))
  exact Ol (St.not rfl (Nl (J26 rfl (Rg (Oa (Nl (W.ret (Wq rfl rfl C39 (congrArg (Value.bool) (Jze hq22 hb42))))))))))
 refine Ol (St.extract rfl rfl (Nl (W.seq (J26 rfl (W.skip (W.block (Rg (Ol (St.extract rfl rfl (Oa (Nl (Rg (Om (Ol (St.bool (J25 C29 cb44 rfl rfl (Jff C29.bd (n:=r32)) ?_))))))))))))))));intro v43 w44 C45 s46 h47;refine⟨_,h47,fun hb48=>?_,fun hb48=>?_⟩
 ·exact Ol (St.not rfl (Nl (J28 rfl (W.skip (Jp4 h35 hb48)))))
 exact Ol (St.not rfl (Nl (J26 rfl (Rg (Oa (Nl (W.ret (Wq rfl rfl C45 (congrArg (Value.bool) (dg_hi hq28 h34))))))))))
theorem Jfg{X:Nat→Prop}{w:World}(hX:XB X w){s:List UInt8}  :Calls Tryz.prog 18 #[(str s)] w (Ret w fun v w'=>v=(.bool (Kh s))):=by
 have C:=Cx.start hX;refine Cgo (args:=[(str s)]) Tryz.func18 rfl rfl rfl (Rg (Oa (Nl (Rh (Om (Ol (J4a un9 rfl (Ol (J3u rfl rfl (fun hc1=>?_) (fun hc1=>?_))))))))))
 ·exact Nl (J26 rfl (Rg (Oa (Nl (W.ret (Wq rfl rfl C (congrArg (Value.bool) (Jid hc1))))))))
 refine Nl (J28 rfl (W.skip (Rh (Om (Ol (J4r C un9 rfl ?_))))));intro g2 w3 x4 y5 lt6 C7 s8 o9;refine Nl (W.block (J3j (fun μ f v=>∃ (x y:Nat→Prop) (i:Nat),Cx X w x y v∧f 0=(str s)∧f 9=(.pointer (some ⟨g2,0,none⟩))∧Itr w y v g2 s i∧i≤s.length∧(0 < i→Q1 (s.getD 0 0).toNat=true)∧(∀ j,j < i→okB (s.getD j 0)=true)∧μ=(s.length - i)) _ ⟨_,_,0,C7,rfl,rfl,o9,(Nat.zero_le _),(fun h=>absurd h (Nat.not_lt_zero _)),(fun _ h=>absurd h (Nat.not_lt_zero _)),rfl⟩ ?_));rintro m19 f10 w11 ⟨x12,y13,i,C14,e15,e16,o17,hi,hfst,hall,hmu18⟩;obtain⟨f20,rfl⟩:=rebK (aC e15 (aC e16 aN));clear e15 e16;refine Rg (Ol (J40 C14 o17 rfl (fun hq21=>?_) (fun w22 hq23 h27 C24 s25 o26=>?_) (fun w28 r33 p34 hq29 h35 h36 C30 s31 o32=>?_)))
 ·refine Ol (St.extract rfl rfl (Nl (W.seq (J28 rfl (W.exit (Rh (Om (Nl (W.block (Rh (Ol (J31 rfl rfl (fun hc37=>?_) (fun hc37=>?_)))))))))))))
  ·exact Oa (Nl (J26 rfl (W.skip (J26 rfl (Rg (Oa (Nl (W.ret (Wq rfl rfl C14 (congrArg (Value.bool) (Jxv hc37)))))))))))
  refine Oa (Nl (J28 rfl (Rg (Ol (J31 rfl rfl (fun hc38=>?_) (fun hc38=>?_))))))
  ·exact Oa (Nl (J26 rfl (W.skip (J26 rfl (Rg (Oa (Nl (W.ret (Wq rfl rfl C14 (congrArg (Value.bool) (K2 (by rw [hc38];decide))))))))))))
  refine Oa (Nl (J28 rfl (Rg (Ol (J31 rfl rfl (fun hc39=>?_) (fun hc39=>?_))))))
  ·exact Oa (Nl (J26 rfl (W.skip (J26 rfl (Rg (Oa (Nl (W.ret (Wq rfl rfl C14 (congrArg (Value.bool) (K2 (by rw [hc39];decide))))))))))))
  refine Oa (Nl (J28 rfl (Rg (Ol (J31 rfl rfl (fun hc40=>?_) (fun hc40=>?_))))))
  ·exact Oa (Nl (J26 rfl (W.skip (J26 rfl (Rg (Oa (Nl (W.ret (Wq rfl rfl C14 (congrArg (Value.bool) (K2 (by rw [hc40];decide))))))))))))
  refine Oa (Nl (J28 rfl (Rg (Ol (J31 rfl rfl (fun hc41=>?_) (fun hc41=>?_))))))
  ·exact Oa (Nl (J26 rfl (W.skip (J26 rfl (Rg (Oa (Nl (W.ret (Wq rfl rfl C14 (congrArg (Value.bool) (K2 (by rw [hc41];decide))))))))))))
  refine Oa (Nl (J28 rfl (Rg (Ol (J31 rfl rfl (fun hc42=>?_) (fun hc42=>?_))))))
  ·exact Oa (Nl (J26 rfl (W.skip (J26 rfl (Rg (Oa (Nl (W.ret (Wq rfl rfl C14 (congrArg (Value.bool) (K2 (by rw [hc42];decide))))))))))))
  refine Oa (Nl (J28 rfl (Rg (Ol (J31 rfl rfl (fun hc43=>?_) (fun hc43=>?_))))))
  ·exact Oa (Nl (J26 rfl (W.skip (J26 rfl (Rg (Oa (Nl (W.ret (Wq rfl rfl C14 (congrArg (Value.bool) (K2 (by rw [hc43];decide))))))))))))
  refine Oa (Nl (J28 rfl (Rg (Ol (J31 rfl rfl (fun hc44=>?_) (fun hc44=>?_))))))
  ·exact Oa (Nl (J26 rfl (W.skip (J26 rfl (Rg (Oa (Nl (W.ret (Wq rfl rfl C14 (congrArg (Value.bool) (K2 (by rw [hc44];decide))))))))))))
  refine Oa (Nl (J28 rfl (Rg (Ol (J31 rfl rfl (fun hc45=>?_) (fun hc45=>?_))))))
  ·exact Oa (Nl (J26 rfl (W.skip (J26 rfl (Rg (Oa (Nl (W.ret (Wq rfl rfl C14 (congrArg (Value.bool) (K2 (by rw [hc45];decide))))))))))))
  refine Oa (Nl (J28 rfl (Rg (Ol (J31 rfl rfl (fun hc46=>?_) (fun hc46=>?_))))))
  ·exact Oa (Nl (J26 rfl (W.skip (J26 rfl (Rg (Oa (Nl (W.ret (Wq rfl rfl C14 (congrArg (Value.bool) (K2 (by rw [hc46];decide))))))))))))
  refine Oa (Nl (J28 rfl (Rg (Ol (J31 rfl rfl (fun hc47=>?_) (fun hc47=>?_))))))
  ·exact Oa (Nl (J26 rfl (W.skip (J26 rfl (Rg (Oa (Nl (W.ret (Wq rfl rfl C14 (congrArg (Value.bool) (K2 (by rw [hc47];decide))))))))))))
  refine Oa (Nl (J28 rfl (Rg (Ol (J31 rfl rfl (fun hc48=>?_) (fun hc48=>?_))))))
  ·exact Oa (Nl (J26 rfl (W.skip (J26 rfl (Rg (Oa (Nl (W.ret (Wq rfl rfl C14 (congrArg (Value.bool) (K2 (by rw [hc48];decide))))))))))))
  refine Oa (Nl (J28 rfl (W.region (Ol (J31 rfl rfl (fun hc49=>?_) (fun hc49=>?_))))))
  ·exact Oa (Nl (J26 rfl (Rg (Oa (Nl (W.ret (Wq rfl rfl C14 (congrArg (Value.bool) (K2 (by rw [hc49];decide))))))))))
  refine Oa (Nl (J28 rfl (W.skip (Rg (Om (Ol (J30 (j:=0) (c:=(s.getD 0 0)) un9 rfl rfl rfl (Jg (List.length_pos_iff.2 hc37)) (Ol (J3q rfl rfl (fun hc50=>?_) (fun hc50=>?_))))))))))
  ·exact Om (Oz (Oz (Oz (Oz (OT (Oa (Nl (W.ret (Wq rfl rfl C14 (congrArg (Value.bool) (nm_E hc37 (by unfold Xo;simp only [List.mem_cons,List.not_mem_nil,or_false,not_or];exact⟨hc38,hc39,hc40,hc41,hc42,hc43,hc44,hc45,hc46,hc47,hc48,hc49⟩) hc1 (hfst (by have:=List.length_pos_iff.2 hc37;omega)) (fun j hj=>hall j (by omega)) hc50)))))))))))
  refine Om (Og rfl rfl (St.move (Og rfl rfl (J44 (i:=1) un9 rfl rfl rfl (List.length_pos_iff.2 hc37) (Og rfl rfl (J25 C14 cb45 rfl rfl (Jpk C14.bd) ?_))))));intro v51 w52 C53 s54 h55;subst h55;exact Og rfl rfl (St.not rfl (OF (Oa (Nl (W.ret (Wq rfl rfl C53 (congrArg (Value.bool) (nm_D hc37 (by unfold Xo;simp only [List.mem_cons,List.not_mem_nil,or_false,not_or];exact⟨hc38,hc39,hc40,hc41,hc42,hc43,hc44,hc45,hc46,hc47,hc48,hc49⟩) hc1 (hfst (by have:=List.length_pos_iff.2 hc37;omega)) (fun j hj=>hall j (by omega)) hc50))))))))
 ·refine Ol (St.extract rfl rfl (Nl (W.seq (J26 rfl (W.skip (W.block (Rg (Ol (St.extract rfl rfl (Ol (St.extract rfl rfl (Oa (Oa (Nl (Rg (Om (Ol (St.bool (J25 C24 cb43 rfl rfl (Jp1 C24.bd (n:=((s).getD i 0).toNat)) ?_)))))))))))))))))));intro v56 w57 C58 s59 h60;replace o26:=o26.spn s59;refine⟨_,h60,fun hb61=>?_,fun hb61=>?_⟩
  ·refine Ol (St.not rfl (Om (Oz (Oz (Oz (Oy rfl rfl (Oy rfl rfl (Oy rfl rfl (Oz (OF (Nl (J28 rfl (W.skip (⟨_,(by omega),_,_,(i+1),C58,rfl,rfl,o26,(by omega),(fun _=>(Nat.eq_zero_or_pos i).elim (fun e=>by rw [e] at hb61;exact hb61) hfst),(Kx hall (Jqa hb61)),rfl⟩))))))))))))))
  refine Ol (St.not rfl (Om (Og rfl rfl (St.move (Og rfl rfl (J3h rfl rfl (fun hc62=>?_) (fun hc62=>?_)))))))
  ·exact Og rfl rfl (St.move (Oz (Oz (Oz (Og rfl rfl (St.pick (t:=true) rfl (OT (Nl (J26 rfl (Rg (Oa (Nl (W.ret (Wq rfl rfl C58 (congrArg (Value.bool) (Jk7 hb61 hc62))))))))))))))))
  refine Og rfl rfl (St.move (Og rfl rfl (St.move (Og rfl rfl (St.bool (J25 C58 cb44 rfl rfl (Jff C58.bd (n:=((s).getD i 0).toNat)) ?_))))));intro v63 w64 C65 s66 h67;replace o26:=o26.spn s66;refine⟨_,h67,fun hb68=>?_,fun hb68=>?_⟩
  ·refine Og rfl rfl (St.not rfl (Og rfl rfl (St.pick (t:=false) rfl (OT (Nl (J28 rfl (W.skip (⟨_,(by omega),_,_,(i+1),C65,rfl,rfl,o26,(by omega),(fun _=>hfst (by omega)),(Kx hall (Jrf hb68)),rfl⟩))))))))
  exact Og rfl rfl (St.not rfl (Og rfl rfl (St.pick (t:=false) rfl (OT (Nl (J26 rfl (Rg (Oa (Nl (W.ret (Wq rfl rfl C65 (congrArg (Value.bool) (Jf4 hq23 (Jrp hb61 hb68))))))))))))))
 refine Ol (St.extract rfl rfl (Nl (W.seq (J26 rfl (W.skip (W.block (Rg (Ol (St.extract rfl rfl (Ol (St.extract rfl rfl (Oa (Oa (Nl (Rg (Om (Ol (St.bool (J25 C30 cb43 rfl rfl (Jp1 C30.bd (n:=r33)) ?_)))))))))))))))))));intro v69 w70 C71 s72 h73;refine⟨_,h73,fun hb74=>?_,fun hb74=>?_⟩
 ·exact Ol (St.not rfl (Om (Oz (Oz (Oz (Oy rfl rfl (Oy rfl rfl (Oy rfl rfl (Oz (OF (Nl (J28 rfl (W.skip (Jya h36 hb74))))))))))))))
 refine Ol (St.not rfl (Om (Og rfl rfl (St.move (Og rfl rfl (J3h rfl rfl (fun hc75=>?_) (fun hc75=>?_)))))))
 ·exact Og rfl rfl (St.move (Oz (Oz (Oz (Og rfl rfl (St.pick (t:=true) rfl (OT (Nl (J26 rfl (Rg (Oa (Nl (W.ret (Wq rfl rfl C71 (congrArg (Value.bool) (Jf4 hq29 (Jwh h35)))))))))))))))))
 refine Og rfl rfl (St.move (Og rfl rfl (St.move (Og rfl rfl (St.bool (J25 C71 cb44 rfl rfl (Jff C71.bd (n:=r33)) ?_))))));intro v76 w77 C78 s79 h80;refine⟨_,h80,fun hb81=>?_,fun hb81=>?_⟩
 ·exact Og rfl rfl (St.not rfl (Og rfl rfl (St.pick (t:=false) rfl (OT (Nl (J28 rfl (W.skip (Jp4 h36 hb81))))))))
 exact Og rfl rfl (St.not rfl (Og rfl rfl (St.pick (t:=false) rfl (OT (Nl (J26 rfl (Rg (Oa (Nl (W.ret (Wq rfl rfl C78 (congrArg (Value.bool) (Jf4 hq29 (Jwh h35))))))))))))))
theorem x_wt{X:Nat→Prop}{w:World}(hX:XB X w){s:List UInt8}(hl:s.length≤1000):Calls Tryz.prog 78 #[(str s)] w (Ret w fun v w'=>v=(.bool (Yj s))):=by
 have C:=Cx.start hX;refine Cgo (args:=[(str s)]) Tryz.func78 rfl rfl rfl (Rg (Oa (Nl (Rh (Oa (Nl (W.block (J3j (fun μ f v=>∃ (x y:Nat→Prop) (i:Nat),Cx X w x y v∧f 0=(str s)∧f 3=(.int .i64 ((i:Nat):Int))∧1≤i∧(∀ j,1≤j→j < i→Q2 (s.getD j 0).toNat=true)∧μ=(s.length - i)) _ ⟨_,_,1,C,rfl,rfl,(Nat.le_refl _),(fun j h h2=>absurd h2 (Nat.not_lt.2 h)),rfl⟩ ?_))))))));rintro m9 f1 w2 ⟨x3,y4,i,C5,e6,e7,h1,hall,hmu8⟩;obtain⟨f10,rfl⟩:=rebK (aC e6 (aC e7 aN));clear e6 e7;refine Rh (Om (Om (Ol (J4a un9 rfl (Ol (J3i rfl rfl (fun hc11=>?_) (fun hc11=>?_)))))))
 ·refine Nl (J26 rfl (W.skip (W.seq (W.block (Rg (Om (Om (Ol (J30 (j:=i) (c:=(s.getD i 0)) un9 rfl rfl rfl (Jg (by omega)) (Ol (St.bool (J25 C5 cb48 rfl rfl (Jxo C5.bd (n:=(s.getD i 0).toNat)) ?_))))))))))));intro v12 w13 C14 s15 h16;refine⟨_,h16,fun hb17=>?_,fun hb17=>?_⟩
  ·refine Ol (St.not rfl (Nl (J28 rfl (W.skip (W.region (Om (Ol (St.add rfl rfl (Jc (a:=i) (b:=1) (by omega)) (Oa (Nl (⟨_,(by omega),_,_,(i+1),C14,rfl,rfl,(by omega),(fun j h h2=>by rcases Nat.lt_or_ge j i with h3 | h3;exact hall j h h3;rw [show j=i by omega];exact hb17),rfl⟩)))))))))))
  exact Ol (St.not rfl (Nl (J26 rfl (Rg (Oa (Nl (W.ret (Wq rfl rfl C14 (congrArg (Value.bool) (wt_no h1 (by omega) hb17))))))))))
 refine Nl (J28 rfl (W.exit (Rg (Om (Ol (J4a un9 rfl (Ol (J3u rfl rfl (fun hc18=>?_) (fun hc18=>?_)))))))))
 ·exact Om (Og rfl rfl (St.move (Og rfl rfl (J30 (j:=0) (c:=(s.getD 0 0)) un9 rfl rfl rfl (Jg (by omega)) (Og rfl rfl (St.eql rfl rfl rfl (OT (Oa (Nl (W.ret (Wq rfl rfl C5 (congrArg (Value.bool) (Jyi hc18 hall (by omega))))))))))))))
 exact Om (Oz (Oz (Oz (OF (Oa (Nl (W.ret (Wq rfl rfl C5 (congrArg (Value.bool) (Jy3 hc18))))))))))
theorem x_res{X:Nat→Prop}{w:World}(hX:XB X w){s:List UInt8}(hl:s.length≤1000):Calls Tryz.prog 47 #[(str s)] w (Ret w fun v w'=>v=(.bool (Yd s))):=by
 have C:=Cx.start hX;refine Cgo (args:=[(str s)]) Tryz.func47 rfl rfl rfl (Rg (Oa (Nl (Rg (Ol (J3t (T:=Zm) (css:=[[(str [71])],[(str [101,116,97])],[(str [116,104,101,116,97])],[(str [68,101,108,116,97])],[(str [106])],[(str [110,101,119,102,111,114,109])],[(str [86])],[(str [85])],[(str [84])],[(str [116,119,105,115,116])],[(str [115,101,114,114,101])],[(str [98,114,97,99,107,101,116])]]) (l:=[[71],[101,116,97],[116,104,101,116,97],[68,101,108,116,97],[106],[110,101,119,102,111,114,109],[86],[85],[84],[116,119,105,115,116],[115,101,114,114,101],[98,114,97,99,107,101,116]]) C sl50 io9 (by decide) (by decide) rfl (by kernel_rfl) ⟨⟨rfl,(by unfold maxLen;simp)⟩,⟨rfl,(by unfold maxLen;simp)⟩,⟨rfl,(by unfold maxLen;simp)⟩,⟨rfl,(by unfold maxLen;simp)⟩,⟨rfl,(by unfold maxLen;simp)⟩,⟨rfl,(by unfold maxLen;simp)⟩,⟨rfl,(by unfold maxLen;simp)⟩,⟨rfl,(by unfold maxLen;simp)⟩,⟨rfl,(by unfold maxLen;simp)⟩,⟨rfl,(by unfold maxLen;simp)⟩,⟨rfl,(by unfold maxLen;simp)⟩,⟨rfl,(by unfold maxLen;simp)⟩,trivial⟩ ?_))))));intro g5 w1 C2 s3 h4;replace h4:RS Zm X w1 (.slice (some ⟨g5,0,none⟩) 12 12) Xo:=h4;refine Oa (Nl (Rh (Oa (Nl (W.block (J3j (fun μ f v=>∃ (x y:Nat→Prop) (i:Nat),Cx X w x y v∧f 0=(str s)∧f 3=(.slice (some ⟨g5,0,none⟩) 12 12)∧f 4=(.int .i64 ((i:Nat):Int))∧RS Zm x v (.slice (some ⟨g5,0,none⟩) 12 12) Xo∧i≤12∧(∀ j,j < i→¬ Xo.getD j []=s)∧μ=(12 - i)) _ ⟨_,_,0,C2,rfl,rfl,rfl,h4,(Nat.zero_le _),(fun _ h=>absurd h (Nat.not_lt_zero _)),rfl⟩ ?_))))));rintro m17 f8 w9 ⟨x10,y11,i,C12,e13,e14,e15,h4,hi,hall,hmu16⟩;obtain⟨f18,rfl⟩:=rebK (aC e13 (aC e14 (aC e15 aN)));clear e13 e14 e15;refine Rh (Om (Om (Ol (St.len sl50 rfl (Ol (J3i rfl rfl (fun hc19=>?_) (fun hc19=>?_)))))))
 ·refine Nl (J26 rfl (W.skip (W.seq (W.block (Rg (Om (Om (Ol (J3k (j:=i) (u:=(Xo.getD i [])) h4 sl50 io9 rfl rfl rfl (Jg (show i < 12 by omega)) ?_)))))))));intro b20 o21 cs22 e23;obtain⟨rfl,bd24⟩:cs22=_∧_:=e23.rd;refine Ol (J3e pl9 rfl (e23.cell 0 _ rfl) (Om (Ol (J31 rfl rfl (fun hc25=>?_) (fun hc25=>?_)))))
  ·exact Nl (J26 rfl (Rg (Oa (Nl (W.ret (Wq rfl rfl C12 (congrArg (Value.bool) (Jtc (by omega) hc25))))))))
  refine Nl (J28 rfl (W.skip (W.region (Om (Ol (St.add rfl rfl (Jc (a:=i) (b:=1) (by omega)) (Oa (Nl (⟨_,(by omega),_,_,(i+1),C12,rfl,rfl,rfl,h4,(by omega),(Kx hall hc25),rfl⟩)))))))))
 refine Nl (J28 rfl (W.exit (Rg (Om (Ol (J25 C12 cb78 rfl rfl (x_wt C12.bd hl) ?_))))));intro v26 w27 C28 s29 h30;subst h30;exact Oa (Nl (W.ret (Wq rfl rfl C28 (congrArg (Value.bool) (Jvs hall (by omega))))))
theorem Jgo{X:Nat→Prop}{w:World}(hX:XB X w){s:List UInt8}(hl:s.length≤1000):Calls Tryz.prog 19 #[(str s)] w (Ret w fun v w'=>v=(.bool (Kh s))):=by
 have C:=Cx.start hX;refine Cgo (args:=[(str s)]) Tryz.func19 rfl rfl rfl (Rg (Oa (Nl (Rh (Om (Ol (J4a un9 rfl (Ol (J3i rfl rfl (fun hc1=>?_) (fun hc1=>?_))))))))))
 ·refine Om (Oz (Oz (Oz (OT (Om (Oz (Oz (Oz (Oz (OT (Om (Oz (Oz (OT (Nl (J26 rfl (Rg (Oa (Nl ?_)))))))))))))))))));exact W.ret (Wq rfl rfl C (congrArg (Value.bool) (Jm5 hc1)))
 refine Om (Og rfl rfl (St.move (Og rfl rfl (J4a un9 rfl (Og rfl rfl (J3u rfl rfl (fun hc2=>?_) (fun hc2=>?_)))))))
 ·exact OF (Om (Oz (Oz (Oz (Oz (OT (Om (Oz (Oz (OT (Nl (J26 rfl (Rg (Oa (Nl (W.ret (Wq rfl rfl C (congrArg (Value.bool) (Jid hc2)))))))))))))))))))
 refine OF (Om (Og rfl rfl (St.move (Og rfl rfl (J30 (j:=0) (c:=(s.getD 0 0)) un9 rfl rfl rfl (Jg (by omega)) (Og rfl rfl (St.bool (J25 C cb46 rfl rfl (Jyq C.bd (n:=(s.getD 0 0).toNat)) ?_))))))));intro v3 w4 C5 s6 h7;refine⟨_,h7,fun hb8=>?_,fun hb8=>?_⟩
 ·refine Og rfl rfl (St.not rfl (OF (Om (Og rfl rfl (St.move (Og rfl rfl (St.bool (J25 C5 cb47 rfl rfl (x_res C5.bd hl) ?_))))))));intro v9 w10 C11 s12 h13;refine⟨_,h13,fun hb14=>?_,fun hb14=>?_⟩
  ·exact OF (Nl (J26 rfl (Rg (Oa (Nl (W.ret (Wq rfl rfl C11 (congrArg (Value.bool) (Jqf hb14)))))))))
  refine OF (Nl (J28 rfl (W.skip (Rh (Oa (Nl (W.block (J3j (fun μ f v=>∃ (x y:Nat→Prop) (i:Nat),Cx X w x y v∧f 0=(str s)∧f 3=(.int .i64 ((i:Nat):Int))∧i≤s.length∧(∀ j,j < i→okB (s.getD j 0)=true)∧μ=(s.length - i)) _ ⟨_,_,0,C11,rfl,rfl,(Nat.zero_le _),(fun _ h=>absurd h (Nat.not_lt_zero _)),rfl⟩ ?_))))))));rintro m23 f15 w16 ⟨x17,y18,i,C19,e20,e21,hi,hall,hmu22⟩;obtain⟨f24,rfl⟩:=rebK (aC e20 (aC e21 aN));clear e20 e21;refine Rh (Om (Om (Ol (J4a un9 rfl (Ol (J3i rfl rfl (fun hc25=>?_) (fun hc25=>?_)))))))
  ·refine Nl (J26 rfl (W.skip (W.seq (W.block (Rg (Om (Om (Ol (J30 (j:=i) (c:=(s.getD i 0)) un9 rfl rfl rfl (Jg (by omega)) (Ol (St.bool (J25 C19 cb46 rfl rfl (Jyq C19.bd (n:=(s.getD i 0).toNat)) ?_))))))))))));intro v26 w27 C28 s29 h30;refine⟨_,h30,fun hb31=>?_,fun hb31=>?_⟩
   ·refine Ol (St.not rfl (Om (Oz (Oz (Oz (Oz (Oz (OF (Nl (J28 rfl (W.skip (W.region (Om (Ol (St.add rfl rfl (Jc (a:=i) (b:=1) (by omega)) (Oa (Nl (⟨_,(by omega),_,_,(i+1),C28,rfl,rfl,(by omega),(Kx hall (Jqa hb31)),rfl⟩))))))))))))))))))
   refine Ol (St.not rfl (Om (Og rfl rfl (St.move (Og rfl rfl (St.move (Og rfl rfl (J30 (j:=i) (c:=(s.getD i 0)) un9 rfl rfl rfl (Jg (by omega)) (Og rfl rfl (St.bool (J25 C28 cb48 rfl rfl (Jxo C28.bd (n:=(s.getD i 0).toNat)) ?_)))))))))));intro v32 w33 C34 s35 h36;refine⟨_,h36,fun hb37=>?_,fun hb37=>?_⟩
   ·refine Og rfl rfl (St.not rfl (OT (Nl (J28 rfl (W.skip (W.region (Om (Ol (St.add rfl rfl (Jc (a:=i) (b:=1) (by omega)) (Oa (Nl (⟨_,(by omega),_,_,(i+1),C34,rfl,rfl,(by omega),(Kx hall (Jrf hb37)),rfl⟩))))))))))))
   exact Og rfl rfl (St.not rfl (OT (Nl (J26 rfl (Rg (Oa (Nl (W.ret (Wq rfl rfl C34 (congrArg (Value.bool) (Jf4 (by omega) (Jrp hb31 hb37))))))))))))
  exact Nl (J28 rfl (W.exit (Rg (Oa (Nl (W.ret (Wq rfl rfl C19 (congrArg (Value.bool) (Jrl hc1 hc2 hb8 hb14 (fun j hj=>hall j (by omega)))))))))))
 exact Og rfl rfl (St.not rfl (OF (Om (Oz (Oz (OT (Nl (J26 rfl (Rg (Oa (Nl (W.ret (Wq rfl rfl C5 (congrArg (Value.bool) (Jfz hb8)))))))))))))))
end Go.Wf
namespace Go.Wf
open Go
mutual
def cntE:GExpr→Nat
 | .mk _ _ _ _ l=>1+cntL l
def cntL:List GExpr→Nat
 | []=>0
 | a::l=>cntE a+cntL l
end
mutual
def lvlE:GExpr→Nat
 | .mk _ _ _ _ l=>lvlL l+1
def lvlL:List GExpr→Nat
 | []=>0
 | a::l=>max (lvlE a) (lvlL l)
end
theorem Yb(a:GExpr):cntE a=1+cntL a.args:=by cases a;rw [cntE];rfl
theorem Jek(a:GExpr):lvlE a=lvlL a.args+1:=by cases a;rw [lvlE];rfl
theorem Vo:∀ l m:List GExpr,cntL (l++m)=cntL l+cntL m
 | [],m=>by simp [cntL]
 | a::l,m=>by rw [List.cons_append,cntL,cntL,Vo l m];omega
theorem yq:∀ l m:List GExpr,lvlL (l++m)=max (lvlL l) (lvlL m)
 | [],m=>by simp [lvlL]
 | a::l,m=>by rw [List.cons_append,lvlL,lvlL,yq l m];omega
theorem Xz{l:List GExpr}{i:Nat}(h:i < l.length):l.take (i+1)=l.take i++[l.getD i default]:=by
 rw [List.take_succ_eq_append_getElem h,List.getD_eq_getElem?_getD,List.getElem?_eq_getElem h];rfl
theorem Jor{l:List GExpr}{i:Nat}(h:i < l.length):cntL (l.take (i+1))=cntL (l.take i)+cntE (l.getD i default):=by
 rw [Xz h,Vo,cntL,cntL];omega
theorem Jnq{l:List GExpr}{i:Nat}(h:i < l.length):lvlL (l.take (i+1))=max (lvlL (l.take i)) (lvlE (l.getD i default)):=by
 rw [Xz h,yq,lvlL,lvlL];omega
theorem Jdm(l:List GExpr)(i:Nat):cntL l=cntL (l.take i)+cntL (l.drop i):=by
 rw [← Vo,List.take_append_drop]
theorem Kc{l:List GExpr}{i:Nat}(h:i < l.length):l.drop i=l.getD i default::l.drop (i+1):=by
 rw [List.drop_eq_getElem_cons h,List.getD_eq_getElem?_getD,List.getElem?_eq_getElem h];rfl
theorem zo{l:List GExpr}{i:Nat}(h:i < l.length):cntE (l.getD i default)≤cntL l:=by
 rw [Jdm l i,Kc h,cntL];omega
theorem Jag(a:GExpr):1≤cntE a:=by rw [Yb];omega
theorem Jkf:∀ l:List GExpr,l.length≤cntL l
 | []=>Nat.zero_le _
 | a::l=>by rw [List.length_cons,cntL];have:=Jkf l;have:=Jag a;omega
theorem Jr7:∀ n:Nat,(∀ a:GExpr,SizeOf.sizeOf a < n→lvlE a≤cntE a)∧∀ l:List GExpr,SizeOf.sizeOf l < n→lvlL l≤cntL l:=by
 intro n
 induction n with
 | zero=>exact⟨fun _ h=>absurd h (Nat.not_lt_zero _),fun _ h=>absurd h (Nat.not_lt_zero _)⟩
 | succ n ih=>
  refine⟨fun a h=>?_,fun l h=>?_⟩
  ·cases a with
   | mk o q c s l=>
    rw [lvlE,cntE]
    have:=ih.2 l (by simp at h;omega)
    omega
  ·cases l with
   | nil=>exact Nat.le_refl _
   | cons a l=>
    rw [lvlL,cntL];simp at h
    have:=ih.1 a (by omega)
    have:=ih.2 l (by omega)
    omega
theorem Jy5(a:GExpr):lvlE a≤cntE a:=(Jr7 _).1 a (Nat.lt_succ_self _)
theorem Qz{l:List GExpr}{i:Nat}(h:l.length≤i):l.take i=l:=List.take_of_length_le h
theorem Jsx{a:GExpr}{i m z:Nat}(h:i < a.args.length)(hz:z=min (1+cntL (a.args.take i)) (m+1))(hm:z≤m):
  z+min (cntE (a.args.getD i default)) (m - z+1)=min (1+cntL (a.args.take (i+1))) (m+1):=by
 rw [Jor h];omega
theorem Juy{a:GExpr}{i m z:Nat}(h:a.args.length≤i)(hz:z=min (1+cntL (a.args.take i)) (m+1)):z=min (cntE a) (m+1):=by
 rw [hz,Qz h,Yb]
theorem Js6{a:GExpr}{i m z:Nat}(hm:m < z)(hz:z=min (1+cntL (a.args.take i)) (m+1)):z=min (cntE a) (m+1):=by
 have:=Jdm a.args i
 rw [Yb];omega
theorem Jsz{a:GExpr}{i z:Nat}(h:i < a.args.length)(hz:z=lvlL (a.args.take i)):max z (lvlE (a.args.getD i default))=lvlL (a.args.take (i+1)):=by rw [Jnq h,hz]
theorem Jq5{a:GExpr}{i z:Nat}(h:a.args.length≤i)(hz:z=lvlL (a.args.take i)):z+1=lvlE a:=by rw [hz,Qz h,Jek]
mutual
def pszE:GExpr→Nat→Nat→Nat × Bool
 | .mk _ _ _ _ l,k,v=>if 60 < k+1∨12 < v then(k+1,false) else pszL l (k+1) (v+1)
def pszL:List GExpr→Nat→Nat→Nat × Bool
 | [],k,_=>(k,true)
 | a::l,k,v=>if(pszE a k v).2=true then pszL l (pszE a k v).1 v else(pszE a k v)
end
theorem vl(a:GExpr)(k v:Nat):pszE a k v=if 60 < k+1∨12 < v then(k+1,false) else pszL a.args (k+1) (v+1):=by cases a;rw [pszE];rfl
theorem Jnt{l:List GExpr}{i k v:Nat}{R:Nat × Bool}(h:i < l.length)(hR:pszL (l.drop i) k v=R)(hb:(pszE (l.getD i default) k v).2=true):pszL (l.drop (i+1)) (pszE (l.getD i default) k v).1 v=R:=by
 rw [← hR,Kc h,pszL,if_pos hb]
theorem Joi{l:List GExpr}{i k v:Nat}{R:Nat × Bool}(h:i < l.length)(hR:pszL (l.drop i) k v=R)(hb:(pszE (l.getD i default) k v).2=false):pszE (l.getD i default) k v=R:=by
 rw [← hR,Kc h,pszL,if_neg (by rw [hb];simp)]
theorem Jrx{l:List GExpr}{i k v:Nat}{R:Nat × Bool}(h:l.length≤i)(hR:pszL (l.drop i) k v=R):(k,true)=R:=by
 rw [← hR,List.drop_of_length_le h,pszL]
theorem Jfo:∀ n:Nat,(∀ a:GExpr,SizeOf.sizeOf a < n→∀ k v,k≤60→(pszE a k v).2=decide (k+cntE a≤60∧v+lvlE a≤13)∧((pszE a k v).2=true→(pszE a k v).1=k+cntE a))∧
  ∀ l:List GExpr,SizeOf.sizeOf l < n→∀ k v,k≤60→v≤13→(pszL l k v).2=decide (k+cntL l≤60∧v+lvlL l≤13)∧((pszL l k v).2=true→(pszL l k v).1=k+cntL l):=by
 intro n
 induction n with
 | zero=>exact⟨fun _ h=>absurd h (Nat.not_lt_zero _),fun _ h=>absurd h (Nat.not_lt_zero _)⟩
 | succ n ih=>
  refine⟨fun a h k v hk=>?_,fun l h k v hk hv=>?_⟩
  ·rw [vl,Yb,Jek]
   split
   ·rename_i hc
    refine⟨(decide_eq_false (by omega)).symm,fun h=>by cases h⟩
   ·rename_i hc
    obtain⟨h1,h2⟩:=ih.2 a.args (by cases a;simp [GExpr.args] at h ⊢;omega) (k+1) (v+1) (by omega) (by omega);refine⟨?_,fun hb=>by rw [h2 hb];omega⟩;rw [h1];exact decide_eq_decide.2 (by omega)
  ·cases l with
   | nil=>
    rw [pszL,cntL,lvlL];exact⟨(decide_eq_true (by omega)).symm,fun _=>rfl⟩
   | cons a l=>
    simp at h;obtain⟨h1,h2⟩:=ih.1 a (by omega) k v hk;rw [pszL,cntL,lvlL]
    by_cases hb:(pszE a k v).2=true
    ·rw [if_pos hb];have hb':=hb;rw [h1] at hb';have hd:=of_decide_eq_true hb';obtain⟨h3,h4⟩:=ih.2 l (by omega) (pszE a k v).1 v (by rw [h2 hb];omega) hv;refine⟨?_,fun hc=>by rw [h4 hc,h2 hb];omega⟩;rw [h3,h2 hb];exact decide_eq_decide.2 (by omega)
    ·rw [if_neg hb];refine⟨?_,fun hc=>absurd hc hb⟩;rw [h1] at hb ⊢;have hd:¬ (k+cntE a≤60∧v+lvlE a≤13):=fun e=>hb (decide_eq_true e);rw [decide_eq_false hd]
     exact(decide_eq_false (by omega)).symm
theorem Jg4(a:GExpr):(pszE a 0 1).2=decide (cntE a≤60∧lvlE a≤12):=by
 rw [((Jfo _).1 a (Nat.lt_succ_self _) 0 1 (by omega)).1];exact decide_eq_decide.2 (by omega)
def cA(n:Int):Int:=if n=1∨n=6∨n=7∨n=8 then 0 else if n=2 then 1 else if n=3∨n=9 then 4 else if n=4 then 2 else if n=5 then 2 else if n=10∨n=11 then 0 else if n=12∨n=13∨n=14∨n=15∨n=16 then 1 else if n=17 then 0 else 1
def cB(n:Int):Int:=if n=1∨n=6∨n=7∨n=8 then 0 else if n=2 then 1 else if n=3∨n=9 then 4 else if n=4 then 41 else if n=5 then 65 else if n=10∨n=11 then 0 else if n=12∨n=13∨n=14∨n=15∨n=16 then 1 else if n=17 then 0 else 1
def cC(n:Int):Int:=if 1≤n∧n≤9 then 0 else if n=10∨n=11 then 2 else if 12≤n∧n≤17 then 1 else 2
def cD(n:Int):Int:=if 1≤n∧n≤9 then 0 else if n=10∨n=11 then 60 else if 12≤n∧n≤17 then 1 else 2
def lA(n:Int):Int:=if n=12 then -200 else if n=13∨n=14∨n=15 then 1 else if n=18 then 0 else if n=2 then 0 else -1000000
def lB(n:Int):Int:=if n=12 then 200 else if n=13∨n=14∨n=15 then 1000 else if n=18 then 6 else 1000000
def sA(n:Int):Int:=if 1≤n∧n≤18 then cA n else 0
def sB(n:Int):Int:=if 1≤n∧n≤18 then cB n else 0
def sC(n:Int):Int:=if n=10∨n=11 then -1 else if 1≤n∧n≤18 then cC n else 0
def okOp(n:Int):Bool:=decide (1≤n∧n≤18)
theorem Kl{a b c a' b' c':Int}(h1:a=a')(h2:b=b')(h3:c=c'):(Value.agg #[.int .i64 a,.int .i64 b,.int .i64 c])= .agg #[.int .i64 a',.int .i64 b',.int .i64 c']:=by rw [h1,h2,h3]
end Go.Wf
namespace Go.Wf
open Go
structure cntOk (a:GExpr):Prop where
 o1:1≤a.op
 o2:a.op≤18
 n1:cA a.op≤((a.n.length:Nat):Int)
 n2:((a.n.length:Nat):Int)≤cB a.op
 a1:cC a.op≤((a.args.length:Nat):Int)
 a2:((a.args.length:Nat):Int)≤cD a.op
structure nameOk (a:GExpr):Prop where
 e:decide (a.op=8)=Kh a.name
 s:a.op=8∨a.name=[]
 c:a.op=1∨qm a.c.q=0
def Jpz(a:GExpr):Prop:=∀ i,i < a.n.length→lA a.op≤a.n.getD i 0∧a.n.getD i 0≤lB a.op
open Classical in
def Xb(a:GExpr):Int:=if cntOk a∧nameOk a then if Jpz a then 0 else 2 else 3
mutual
def errE:GExpr→Int
 | .mk o n c s l=>if Xb (.mk o n c s l)=0 then errL l else Xb (.mk o n c s l)
def errL:List GExpr→Int
 | []=>0
 | a::l=>if errE a=0 then errL l else errE a
end
theorem Ja8(a:GExpr):errE a=if Xb a=0 then errL a.args else Xb a:=by cases a;rw [errE];rfl
section
variable {a:GExpr}
theorem Qf(h:¬ cntOk a):3=Xb a:=by unfold Xb;rw [if_neg fun e=>h e.1]
theorem Xe(h:¬ nameOk a):3=Xb a:=by unfold Xb;rw [if_neg fun e=>h e.2]
theorem Jfu(h1:cntOk a)(h2:nameOk a){i:Nat}(hi:i < a.n.length)(h:a.n.getD i 0 < lA a.op∨lB a.op < a.n.getD i 0):2=Xb a:=by
 unfold Xb;rw [if_pos ⟨h1,h2⟩,if_neg fun e=>by have:=e i hi;omega]
theorem Jzk(h1:cntOk a)(h2:nameOk a){i:Nat}(hi:a.n.length≤i)(h:∀ j,j < i→lA a.op≤a.n.getD j 0∧a.n.getD j 0≤lB a.op):0=Xb a:=by
 unfold Xb;rw [if_pos ⟨h1,h2⟩,if_pos (show Jpz a from fun j hj=>h j (by omega))]
theorem Jvt(h1:cntOk a)(h2:nameOk a){i:Nat}(hi:a.n.length≤i)(h:∀ j,j < i→lA a.op≤a.n.getD j 0∧a.n.getD j 0≤lB a.op):Xb a=0:=(Jzk h1 h2 hi h).symm
theorem Kr{e:Int}(h:e=Xb a)(h0:¬ e=0):e=errE a:=by rw [Ja8,if_neg (by rw [← h];exact h0)];exact h
theorem Jme{i:Nat}(hi:i < a.args.length)(hv:errL (a.args.drop i)=errL a.args)(h:errE (a.args.getD i default)=0):errL (a.args.drop (i+1))=errL a.args:=by
 rw [← hv,Kc hi,errL,if_pos h]
theorem Jip{i:Nat}(h0:Xb a=0)(hi:i < a.args.length)(hv:errL (a.args.drop i)=errL a.args)(h:¬ errE (a.args.getD i default)=0):errE (a.args.getD i default)=errE a:=by
 rw [Ja8 a,if_pos h0,← hv,Kc hi,errL,if_neg h]
theorem Jqh{i:Nat}(h0:Xb a=0)(hi:a.args.length≤i)(hv:errL (a.args.drop i)=errL a.args):0=errE a:=by
 rw [Ja8 a,if_pos h0,← hv,List.drop_of_length_le hi,errL]
end
theorem Jwe{n:Int}(h:okOp n=true):sA n=cA n:=if_pos (of_decide_eq_true h)
theorem Jgl{a:GExpr}(h:okOp a.op=true)(h1:¬ ((a.n.length:Nat):Int) < sA a.op)(h2:¬ sB a.op < ((a.n.length:Nat):Int))(h3:0≤sC a.op→((a.args.length:Nat):Int)=sC a.op)(h4:sC a.op < 0→¬ ((a.args.length:Nat):Int) < 2)(h5:a.args.length≤60):cntOk a:=by
 have hr:=of_decide_eq_true h;have hb:sB a.op=cB a.op:=if_pos hr;rw [Jwe h] at h1;rw [hb] at h2;refine⟨hr.1,hr.2,by omega,by omega,?_,?_⟩
 ·unfold sC at h3 h4;unfold cC
  (repeat' split at h3) <;> (repeat' split) <;> first | omega | (unfold cC at h3;(repeat' split at h3) <;> omega)
 ·unfold sC at h3 h4;unfold cD
  (repeat' split at h3) <;> (repeat' split) <;> first | omega | (unfold cC at h3;(repeat' split at h3) <;> omega)
theorem xu{a:GExpr}(h:okOp a.op=false∨((a.n.length:Nat):Int) < sA a.op∨sB a.op < ((a.n.length:Nat):Int)∨(0≤sC a.op∧¬ ((a.args.length:Nat):Int)=sC a.op)∨(sC a.op < 0∧((a.args.length:Nat):Int) < 2)):¬ cntOk a:=by
 intro c;have hr:okOp a.op=true:=decide_eq_true ⟨c.o1,c.o2⟩;have hp:=of_decide_eq_true hr;have hb:sB a.op=cB a.op:=if_pos hp;rw [Jwe hr,hb,hr] at h;have c1:=c.n1;have c2:=c.n2;have c3:=c.a1;have c4:=c.a2
 rcases h with h | h | h | h | h
 ·cases h
 ·omega
 ·omega
 ·unfold sC at h;unfold cC at c3 h;unfold cD at c4
  (repeat' split at h) <;> (repeat' split at c3) <;> (repeat' split at c4) <;> omega
 ·unfold sC at h;unfold cC at c3 h;unfold cD at c4
  (repeat' split at h) <;> (repeat' split at c3) <;> (repeat' split at c4) <;> omega
theorem Jbx{a:GExpr}(h1:(a.op=8∧Kh a.name=true)∨(¬ a.op=8∧a.name=[]))(h2:a.op=1∨qm a.c.q=0):nameOk a:=by
 rcases h1 with ⟨h,h3⟩ | ⟨h,h3⟩
 ·exact⟨by rw [decide_eq_true h,h3],.inl h,h2⟩
 ·exact⟨by rw [decide_eq_false h,h3];rfl,.inr h3,h2⟩
theorem Je1{a:GExpr}(h:(a.op=8∧Kh a.name=false)∨(¬ a.op=8∧¬ a.name=[])∨(¬ a.op=1∧¬ qm a.c.q=0)):¬ nameOk a:=by
 intro c
 rcases h with ⟨h,h3⟩ | ⟨h,h3⟩ | ⟨h,h3⟩
 ·have:=c.e;rw [decide_eq_true h,h3] at this;cases this
 ·exact c.s.elim h h3
 ·exact c.c.elim h h3
def Zk(a:GExpr):Int:=if cntE a≤60∧lvlE a≤12 then errE a else 7
theorem Je9{a:GExpr}{k v:Nat}(h:60 < k+1∨12 < v):(k+1,false)=pszE a k v:=by rw [vl,if_pos h]
theorem Jla{a:GExpr}{k v i kk:Nat}(h:¬ (60 < k+1∨12 < v))(hi:i < a.args.length)(hR:pszL (a.args.drop i) kk (v+1)=pszL a.args (k+1) (v+1))(hb:(pszE (a.args.getD i default) kk (v+1)).2=false):pszE (a.args.getD i default) kk (v+1)=pszE a k v:=by
 rw [vl a,if_neg h];exact Joi hi hR hb
theorem Jqb{a:GExpr}{k v i kk:Nat}(h:¬ (60 < k+1∨12 < v))(hi:a.args.length≤i)(hR:pszL (a.args.drop i) kk (v+1)=pszL a.args (k+1) (v+1)):(kk,true)=pszE a k v:=by
 rw [vl a,if_neg h];exact Jrx hi hR
theorem pr_le{a:GExpr}{k v:Nat}(hk:k≤60)(hb:(pszE a k v).2=true):(pszE a k v).1≤60:=by
 obtain⟨h1,h2⟩:=(Jfo _).1 a (Nat.lt_succ_self _) k v hk;rw [h2 hb];rw [h1] at hb
 have:=of_decide_eq_true hb
 omega
end Go.Wf
namespace Go.Wf
open Go Go.Proofs
theorem Xl:J9 Tryz.prog 125=some (.agg #[.int .i64 0,.int .i64 0,.int .i64 0],3,24):=by kernel_rfl
theorem X3:V3 Tryz.prog 125 3=true:=by kernel_rfl
theorem Jut:Zn Tryz.prog 125 0=some 0:=by kernel_rfl
theorem Jtv:Zn Tryz.prog 125 1=some 1:=by kernel_rfl
theorem Jbs:Zn Tryz.prog 125 2=some 2:=by kernel_rfl
end Go.Wf
namespace Go.Wf
open Go Go.Proofs Go.RowKit
theorem Jyl{X:Nat→Prop}{w:World}(hX:XB X w){v0:Value}{a:GInt}(r0:RV Jx X w v0 a)(hl:a.mag.length≤1000):Calls Tryz.prog 74 #[v0] w (Ret w fun v w'=>RV Jx X w' v a):=by
 obtain⟨a1,c2,rfl,h3⟩:=RV.int r0;have C:=Cx.start hX;refine Cgo (args:=[(.agg #[(.bool a.neg),(.slice a1 a.mag.length c2)])]) Tryz.func74 rfl rfl rfl (Rg (Ol (J3g C rfl ?_)));intro g4 w5 x6 y7 lt8 C9 s10 o11;replace h3:=h3.sp s10;refine Ol (J3b C9 io26 rfl ?_);intro g12 w13 x14 y15 lt16 C17 s18 o19;refine Nl (W.seq (J35 J5 6 [[],[0],[],[],[3],[2,4]] C17 [fx (.pointer (some ⟨g4,0,none⟩)),fx (.bool a.neg),u0,fx (.pointer (some ⟨g4,1,none⟩)),fx (.slice a1 a.mag.length c2),us x14 Je a.mag] (by kernel_rfl) ⟨sx,sx,(fun _ _ _ _ _ h _=>h),sx,sx,ts,trivial⟩ fun f33 w35 C38 S39 k37=>?_))
 replace h3:=(h3.sp s18).sp S39;replace o11:=(o11.spn s18).spn S39;replace o19:=o19.spn S39;have k37:Keep [3,4,5,6,7,8] _ f33:=k37;refine⟨⟨fun _=>?_,fun⟨e42,_⟩=>?_,fun _=>?_,fun _=>?_,fun⟨e43,_⟩=>?_,fun⟨d44,e45,_⟩=>?_,trivial⟩,fun⟨e46,e47,d48,e49,e50,d51,_⟩=>?_⟩
 ·exact Ja k37 aN fun _=>OpSt.op (St.fieldAddr Zv rfl (⟨(),⟨C38,Sp.refl⟩,rfl⟩))
 ·exact Ja k37 (aC e42 aN) fun _=>OpSt.op (J27 o11 pl4 rfl rfl (⟨(),⟨C38,Sp.refl⟩,rfl⟩))
 ·refine Ja k37 aN fun _=>OpSt.op (J4n C38 sl24 Ji ?_);intro g53 w54 C55 s56;exact⟨(),⟨C55,s56⟩,⟨_,rfl⟩⟩
 ·exact Ja k37 aN fun _=>OpSt.op (St.fieldAddr Jz rfl (⟨(),⟨C38,Sp.refl⟩,rfl⟩))
 ·exact Ja k37 (aC e43 aN) fun _=>OpSt.op (J27 o11 pl24 rfl rfl (⟨(),⟨C38,Sp.refl⟩,rfl⟩))
 ·obtain⟨g58,e57⟩:=d44;refine Ja k37 (aC e57 (aC e45 aN)) fun _=>OpSt.op (J36 (T:=Je) C38 sl24 Ji rfl rfl h3 (Nat.le_trans hl (by decide)) (by omega) rfl ?_);intro v59 w60 C61 s62 h63;exact⟨(),⟨C61,s62⟩,h63⟩
 obtain⟨g65,e64⟩:=d48;obtain⟨a67,c68,e66,d51⟩:=RS.opn d51;obtain⟨f69,rfl⟩:=mixK k37 (aC e46 (aC e47 (aC e64 (aC e49 (aC e50 (aC e66 aN))))));refine Ol (St.build (cs:=[(.bool a.neg),(.slice a67 a.mag.length c68)]) rfl (by kernel_rfl) (On (J3a (cs':=[(.bool a.neg),(.slice a67 a.mag.length c68)]) C38 o19 io26 rfl rfl rfl rfl rfl rfl ?_)));intro w70 C71 s72 o73;replace d51:=d51.sp s72;refine Nl (W.ret (J7 rfl (resV.c o73 rfl ag26 rfl) (Ret.intro ?_ C71.below)));exact J3l (a:=a) ((Jo d51).tr (Tr.weak C71.base)) rfl
theorem x_cpR{X:Nat→Prop}{w:World}(hX:XB X w){v0:Value}{a:GRat}(r0:RV Xk X w v0 a)(hn:a.num.mag.length≤1000)(hd:a.den.mag.length≤1000):Calls Tryz.prog 40 #[v0] w (Ret w fun v w'=>RV Xk X w' v a):=by
 obtain⟨a1,c2,a3,c4,rfl,h5,h6⟩:=J34 r0;have C:=Cx.start hX;refine Cgo (args:=[(.agg #[(.bool a.num.neg),(.slice a1 a.num.mag.length c2),(.bool a.den.neg),(.slice a3 a.den.mag.length c4)])]) Tryz.func40 rfl rfl rfl (Rg (Ol (J3g C rfl ?_)));intro g7 w8 x9 y10 lt11 C12 s13 o14;replace h5:=h5.sp s13;replace h6:=h6.sp s13;refine Ol (J3b C12 io28 rfl ?_);intro g15 w16 x17 y18 lt19 C20 s21 o22;refine Nl (W.seq (J35 J5 5 [[],[0],[1],[],[3]] C20 [fx (.pointer (some ⟨g7,0,none⟩)),fx (.agg #[(.bool a.num.neg),(.slice a1 a.num.mag.length c2)]),ur x17 Jx a.num,fx (.pointer (some ⟨g7,2,none⟩)),fx (.agg #[(.bool a.den.neg),(.slice a3 a.den.mag.length c4)])] (by kernel_rfl) ⟨sx,sx,tr,sx,sx,trivial⟩ fun f33 w35 C38 S39 k37=>?_))
 replace h5:=(h5.sp s21).sp S39;replace h6:=(h6.sp s21).sp S39;replace o14:=(o14.spn s21).spn S39;have k37:Keep [3,4,5,6,7] _ f33:=k37;refine⟨⟨fun _=>?_,fun⟨e42,_⟩=>?_,fun⟨e43,_⟩=>?_,fun _=>?_,fun⟨e44,_⟩=>?_,trivial⟩,fun⟨e45,e46,d47,e48,e49,_⟩=>?_⟩
 ·exact Ja k37 aN fun _=>OpSt.op (St.fieldAddr Qk rfl (⟨(),⟨C38,Sp.refl⟩,rfl⟩))
 ·exact Ja k37 (aC e42 aN) fun _=>OpSt.op (J29 (vs:=[(.bool a.num.neg),(.slice a1 a.num.mag.length c2)]) o14 ag26 rfl rfl rfl (⟨(),⟨C38,Sp.refl⟩,rfl⟩))
 ·refine Ja k37 (aC e43 aN) fun _=>OpSt.op (J25 C38 cb74 rfl rfl (Jyl C38.bd (a:=a.num) (Jo h5) hn) ?_);intro v51 w52 C53 s54 h55;exact⟨(),⟨C53,s54⟩,h55⟩
 ·exact Ja k37 aN fun _=>OpSt.op (St.fieldAddr Qr rfl (⟨(),⟨C38,Sp.refl⟩,rfl⟩))
 ·exact Ja k37 (aC e44 aN) fun _=>OpSt.op (J29 (vs:=[(.bool a.den.neg),(.slice a3 a.den.mag.length c4)]) o14 ag26 rfl rfl rfl (⟨(),⟨C38,Sp.refl⟩,rfl⟩))
 obtain⟨a57,c58,e56,h59⟩:=RV.int d47;obtain⟨f60,rfl⟩:=mixK k37 (aC e45 (aC e46 (aC e56 (aC e48 (aC e49 aN)))));refine Ol (J25 C38 cb74 rfl rfl (Jyl C38.bd (a:=a.den) (Jo h6) hd) ?_);intro v61 w62 C63 s64 h65;replace o22:=(o22.spn S39).spn s64;obtain⟨a66,c67,rfl,h68⟩:=RV.int h65;refine Ol (St.build (cs:=[(.bool a.num.neg),(.slice a57 a.num.mag.length c58),(.bool a.den.neg),(.slice a66 a.den.mag.length c67)]) rfl (by kernel_rfl) (On (J3a (cs':=[(.bool a.num.neg),(.slice a57 a.num.mag.length c58),(.bool a.den.neg),(.slice a66 a.den.mag.length c67)]) C63 o22 io28 rfl rfl rfl rfl rfl rfl ?_)));intro w69 C70 s71 o72;replace h59:=(h59.sp s64).sp s71;replace h68:=h68.sp s71;refine Nl (W.ret (J7 rfl (resV.c o72 rfl ag28 rfl) (Ret.intro ?_ C70.below)));exact J3l (a:=a) ((Ke h59 h68).tr (Tr.weak C70.base)) rfl
theorem Jms(N:Nat):∀ {X:Nat→Prop} {w:World} (hX:XB X w) {v0:Value} {a:GExpr} (r0:RV Jf X w v0 a) {m:Nat} (hm:m≤1000) (hN:(SizeOf.sizeOf a) < N),Calls Tryz.prog 51 #[v0,(.int .i64 ((m:Nat):Int))] w (Ret w fun v w'=>v=(.int .i64 (((min (cntE a) (m+1)):Nat):Int))):=by
 induction N with
 | zero=>intro X w hX v0 a r0 m hm hN;exact absurd hN (Nat.not_lt_zero _)
 | succ N ih=>
  intro X w hX v0 a r0 m hm hN;obtain⟨a1,c2,a3,c4,a5,c6,a7,c8,rfl,h9⟩:=J3f r0;have C:=Cx.start hX;have hal:=r0.args_max;refine Cgo (args:=[(ea a a1 c2 a3 c4 a5 c6 a7 c8),(.int .i64 ((m:Nat):Int))]) Tryz.func51 rfl rfl rfl (Rg (Ol (J3g C rfl ?_)));intro g10 w11 x12 y13 lt14 C15 s16 o17;replace h9:=h9.sp s16;refine Oa (Nl (Rg (Oa (Nl (Rh (Oa (Nl (W.block (J3j (fun μ f v=>∃ (x y:Nat→Prop) (i:Nat) (z:Nat),Cx X w x y v∧f 1=(.int .i64 ((m:Nat):Int))∧f 2=(.pointer (some ⟨g10,0,none⟩))∧f 4=(.int .i64 0)∧f 6=(.int .i64 ((i:Nat):Int))∧f 5=(.int .i64 ((z:Nat):Int))∧ExprParts x v a a1 c2 a3 c4 a5 c6 a7 c8∧Own w y v g10 (ec a a1 c2 a3 c4 a5 c6 a7 c8) 31∧i≤a.args.length∧z=min (1+cntL (a.args.take i)) (m+1)∧μ=(a.args.length - i)) _ ⟨_,_,0,1,C15,rfl,rfl,rfl,rfl,rfl,h9,o17,(Nat.zero_le _),(by rw [List.take_zero,cntL];omega),rfl⟩ ?_)))))))));rintro m30 f18 w19 ⟨x20,y21,i,z,C22,e23,e24,e25,e26,e27,h9,o28,hi,hz,hmu29⟩;obtain⟨f31,rfl⟩:=rebK (aC e23 (aC e24 (aC e25 (aC e26 (aC e27 aN)))));clear e23 e24 e25 e26 e27;refine Rh (Om (Ol (St.fieldAddr J3 rfl (Ol (J27 o28 pl29 rfl rfl (Ol (St.len sl29 rfl (Ol (J3i rfl rfl (fun hc32=>?_) (fun hc32=>?_))))))))))
  ·refine Om (Og rfl rfl (St.move (Og rfl rfl (St.move (Og rfl rfl (J38 rfl rfl (fun hc33=>?_) (fun hc33=>?_)))))))
   ·refine OT (Nl (J26 rfl (W.skip (W.seq (W.block (W.region (Om (Ol (St.fieldAddr J3 rfl (Ol (J27 o28 pl29 rfl rfl (Om (Ol (J3k (j:=i) (u:=(a.args.getD i default)) h9.args sl29 io31 rfl rfl rfl (Jg (by omega)) ?_))))))))))))));intro b34 o35 cs36 e37;obtain⟨a38,c39,a40,c41,a42,c43,a44,c45,rfl,h46⟩:=Jq e37.rd;refine Ol (J3v (cs:=(ec (a.args.getD i default) a38 c39 a40 c41 a42 c43 a44 c45)) ag31 rfl rfl e37.cell (Om (Om (Ol (St.sub rfl rfl (Zx (a:=m) (b:=z) (by omega) (by omega)) (Ol (J25 C22 cb51 rfl rfl (ih C22.bd (Jh (a.args.getD i default) h46.lo h46.hi h46.name h46.n h46.num h46.den h46.args) (m:=m - z) (by omega) (Nat.lt_of_lt_of_le (Kn (by omega)) (Nat.le_of_lt_succ hN))) ?_)))))));intro v47 w48 C49 s50 h51;replace h9:=h9.sp s50;replace o28:=o28.spn s50;subst h51;refine Ol (St.add rfl rfl (Jc (a:=z) (b:=(min (cntE (a.args.getD i default)) ((m - z)+1))) (by omega)) (Oa (Nl (W.region (Om (Ol (St.add rfl rfl (Jc (a:=i) (b:=1) (by omega)) (Oa (Nl (⟨_,(by omega),_,_,(i+1),z+(min (cntE (a.args.getD i default)) ((m - z)+1)),C49,rfl,rfl,rfl,rfl,rfl,h9,o28,(by omega),(Jsx (by omega) hz (by omega)),rfl⟩))))))))))
   exact OT (Nl (J28 rfl (W.exit (Rg (Om (Oa (Nl (W.ret (Wq rfl rfl C22 (congrArg (Value.int _) (congrArg _ (Js6 (by omega) hz))))))))))))
  exact Om (Oz (Oz (Oz (OF (Nl (J28 rfl (W.exit (Rg (Om (Oa (Nl (W.ret (Wq rfl rfl C22 (congrArg (Value.int _) (congrArg _ (Juy (by omega) hz))))))))))))))))
theorem Jmb{X:Nat→Prop}{w:World}(hX:XB X w){v0:Value}{a:GExpr}(r0:RV Jf X w v0 a){m:Nat}(hm:m≤1000):Calls Tryz.prog 51 #[v0,(.int .i64 ((m:Nat):Int))] w (Ret w fun v w'=>v=(.int .i64 (((min (cntE a) (m+1)):Nat):Int))):=Jms ((SizeOf.sizeOf a)+1) hX r0 hm (Nat.lt_succ_self _)
theorem Jwu{X:Nat→Prop}{w:World}(hX:XB X w){v0:Value}{a:GExpr}(r0:RV Jf X w v0 a){m:Nat}(hm:m≤1000):Calls Tryz.prog 36 #[v0,(.int .i64 ((m:Nat):Int))] w (Ret w fun v w'=>v=(.bool (decide (cntE a≤m)))):=by
 obtain⟨a1,c2,a3,c4,a5,c6,a7,c8,rfl,h9⟩:=J3f r0;have C:=Cx.start hX;refine Cgo (args:=[(ea a a1 c2 a3 c4 a5 c6 a7 c8),(.int .i64 ((m:Nat):Int))]) Tryz.func36 rfl rfl rfl (Rg (Ol (J3g C rfl ?_)));intro g10 w11 x12 y13 lt14 C15 s16 o17;replace h9:=h9.sp s16;refine Oa (Nl (Rg (Ol (J29 (vs:=(ec a a1 c2 a3 c4 a5 c6 a7 c8)) o17 ag31 rfl rfl rfl (Om (Ol (J25 C15 cb51 rfl rfl (Jmb C15.bd (Jh a h9.lo h9.hi h9.name h9.n h9.num h9.den h9.args) (m:=m) hm) ?_)))))));intro v18 w19 C20 s21 h22;subst h22;exact Om (Ol (St.leq rfl rfl rfl (Oa (Nl (W.ret (Wq rfl rfl C20 (congrArg (Value.bool) (decide_eq_decide.2 (by omega)))))))))
theorem Jgc{X:Nat→Prop}{w:World}(hX:XB X w){v0:Value}{a:GExpr}(r0:RV Jf X w v0 a)  :Calls Tryz.prog 13 #[v0] w (Ret w fun v w'=>∃ b:Bool,v= .bool b∧(b=true→(Zl a=true∧cntE a≤80))):=by
 obtain⟨a1,c2,a3,c4,a5,c6,a7,c8,rfl,h9⟩:=J3f r0;have C:=Cx.start hX;refine Cgo (args:=[(ea a a1 c2 a3 c4 a5 c6 a7 c8)]) Tryz.func13 rfl rfl rfl (Rg (Ol (J3g C rfl ?_)));intro g10 w11 x12 y13 lt14 C15 s16 o17;replace h9:=h9.sp s16;refine Oa (Nl (Rg (Ol (J29 (vs:=(ec a a1 c2 a3 c4 a5 c6 a7 c8)) o17 ag31 rfl rfl rfl (Ol (St.bool (J25 C15 cb36 rfl rfl (Jwu C15.bd (Jh a h9.lo h9.hi h9.name h9.n h9.num h9.den h9.args) (m:=80) (by omega)) ?_)))))));intro v18 w19 C20 s21 h22;replace h9:=h9.sp s21;replace o17:=o17.spn s21;refine⟨_,h22,fun hb23=>?_,fun hb23=>?_⟩
 ·refine Om (Og rfl rfl (J29 (vs:=(ec a a1 c2 a3 c4 a5 c6 a7 c8)) o17 ag31 rfl rfl rfl (Og rfl rfl (St.bool (J25 C20 cb37 rfl rfl (Jtd C20.bd (Jh a h9.lo h9.hi h9.name h9.n h9.num h9.den h9.args)) ?_)))));intro v24 w25 C26 s27 h28;replace h9:=h9.sp s27;replace o17:=o17.spn s27;refine⟨_,h28,fun hb29=>?_,fun hb29=>?_⟩
  ·refine OT (Om (Og rfl rfl (J29 (vs:=(ec a a1 c2 a3 c4 a5 c6 a7 c8)) o17 ag31 rfl rfl rfl (Og rfl rfl (J25 C26 cb38 rfl rfl (Jt9 C26.bd (Jh a h9.lo h9.hi h9.name h9.n h9.num h9.den h9.args) hb29) ?_)))));intro v30 w31 C32 s33 h34;obtain⟨z35,rfl⟩:=h34;exact Og rfl rfl (St.leq rfl rfl rfl (OT (Oa (Nl (W.ret (Wq rfl rfl C32 (⟨_,rfl,fun _=>⟨hb29,of_decide_eq_true hb23⟩⟩)))))))
  exact OT (Om (Oz (Oz (Oz (OF (Oa (Nl (W.ret (Wq rfl rfl C26 ⟨_,rfl,fun e=>by cases e⟩)))))))))
 exact Om (Oz (Oz (OF (Om (Oz (Oz (Oz (OF (Oa (Nl (W.ret (Wq rfl rfl C20 ⟨_,rfl,fun e=>by cases e⟩))))))))))))
theorem Jr3(N:Nat):∀ {X:Nat→Prop} {w:World} (hX:XB X w) {v0:Value} {a:GExpr} (r0:RV Jf X w v0 a) (hm:cntE a≤10000) (hN:(SizeOf.sizeOf a) < N),Calls Tryz.prog 52 #[v0] w (Ret w fun v w'=>v=(.int .i64 (((lvlE a):Nat):Int))):=by
 induction N with
 | zero=>intro X w hX v0 a r0 hm hN;exact absurd hN (Nat.not_lt_zero _)
 | succ N ih=>
  intro X w hX v0 a r0 hm hN;obtain⟨a1,c2,a3,c4,a5,c6,a7,c8,rfl,h9⟩:=J3f r0;have C:=Cx.start hX;have hal:=r0.args_max;have hce:=Yb a;have hle:=Jy5 a;have hlq:=Jek a;refine Cgo (args:=[(ea a a1 c2 a3 c4 a5 c6 a7 c8)]) Tryz.func52 rfl rfl rfl (Rg (Ol (J3g C rfl ?_)));intro g10 w11 x12 y13 lt14 C15 s16 o17;replace h9:=h9.sp s16;refine Oa (Nl (Rg (Oa (Nl (Rh (Oa (Nl (W.block (J3j (fun μ f v=>∃ (x y:Nat→Prop) (i:Nat) (z:Nat),Cx X w x y v∧f 1=(.pointer (some ⟨g10,0,none⟩))∧f 2=(.int .i64 0)∧f 4=(.int .i64 ((i:Nat):Int))∧f 3=(.int .i64 ((z:Nat):Int))∧ExprParts x v a a1 c2 a3 c4 a5 c6 a7 c8∧Own w y v g10 (ec a a1 c2 a3 c4 a5 c6 a7 c8) 31∧i≤a.args.length∧z=lvlL (a.args.take i)∧μ=(a.args.length - i)) _ ⟨_,_,0,0,C15,rfl,rfl,rfl,rfl,h9,o17,(Nat.zero_le _),(by rw [List.take_zero,lvlL]),rfl⟩ ?_)))))))));rintro m29 f18 w19 ⟨x20,y21,i,z,C22,e23,e24,e25,e26,h9,o27,hi,hz,hmu28⟩;obtain⟨f30,rfl⟩:=rebK (aC e23 (aC e24 (aC e25 (aC e26 aN))));clear e23 e24 e25 e26;refine Rh (Om (Ol (St.fieldAddr J3 rfl (Ol (J27 o27 pl29 rfl rfl (Ol (St.len sl29 rfl (Ol (J3i rfl rfl (fun hc31=>?_) (fun hc31=>?_))))))))))
  ·refine Nl (J26 rfl (W.skip (W.seq (W.block (W.region (Om (Ol (St.fieldAddr J3 rfl (Ol (J27 o27 pl29 rfl rfl (Om (Ol (J3k (j:=i) (u:=(a.args.getD i default)) h9.args sl29 io31 rfl rfl rfl (Jg (by omega)) ?_)))))))))))));intro b32 o33 cs34 e35;obtain⟨a36,c37,a38,c39,a40,c41,a42,c43,rfl,h44⟩:=Jq e35.rd;refine Ol (J3v (cs:=(ec (a.args.getD i default) a36 c37 a38 c39 a40 c41 a42 c43)) ag31 rfl rfl e35.cell (Ol (J25 C22 cb52 rfl rfl (ih C22.bd (Jh (a.args.getD i default) h44.lo h44.hi h44.name h44.n h44.num h44.den h44.args) (by have h7:=zo (l:=a.args) (i:=i) (by omega);omega) (Nat.lt_of_lt_of_le (Kn (by omega)) (Nat.le_of_lt_succ hN))) ?_)));intro v45 w46 C47 s48 h49;replace h9:=h9.sp s48;replace o27:=o27.spn s48;subst h49;refine Ol (St.max rfl rfl (by split <;> omega) (Oa (Nl (W.region (Om (Ol (St.add rfl rfl (Jc (a:=i) (b:=1) (by omega)) (Oa (Nl (⟨_,(by omega),_,_,(i+1),max z (lvlE (a.args.getD i default)),C47,rfl,rfl,rfl,rfl,h9,o27,(by omega),(Jsz (by omega) hz),rfl⟩))))))))))
  exact Nl (J28 rfl (W.exit (Rg (Om (Ol (St.add rfl rfl (Jc (a:=z) (b:=1) (by have h7:=Jq5 (a:=a) (by omega) hz;omega)) (Oa (Nl (W.ret (Wq rfl rfl C22 (congrArg (Value.int _) (congrArg _ (Jq5 (by omega) hz)))))))))))))
theorem x_lvl{X:Nat→Prop}{w:World}(hX:XB X w){v0:Value}{a:GExpr}(r0:RV Jf X w v0 a)(hm:cntE a≤10000):Calls Tryz.prog 52 #[v0] w (Ret w fun v w'=>v=(.int .i64 (((lvlE a):Nat):Int))):=Jr3 ((SizeOf.sizeOf a)+1) hX r0 hm (Nat.lt_succ_self _)
theorem Juu(N:Nat):∀ {X:Nat→Prop} {w:World} (hX:XB X w) {v0:Value} {a:GExpr} (r0:RV Jf X w v0 a) {g k:Nat} (hB:Blk w g [.int .i64 ((k:Nat):Int)] 3) (hXg:X g) {lv:Nat} (hk:k≤60) (hv:lv≤13) (hN:(SizeOf.sizeOf a) < N),Calls Tryz.prog 79 #[v0,(.pointer (some ⟨g,0,none⟩)),(.int .i64 ((lv:Nat):Int))] w (RetM w g fun v w'=>v=(.bool ((pszE a k lv).2))∧Blk w' g [.int .i64 (((pszE a k lv).1:Nat):Int)] 3):=by
 induction N with
 | zero=>intro X w hX v0 a r0 g k hB hXg lv hk hv hN;exact absurd hN (Nat.not_lt_zero _)
 | succ N ih=>
  intro X w hX v0 a r0 g k hB hXg lv hk hv hN;obtain⟨a1,c2,a3,c4,a5,c6,a7,c8,rfl,h9⟩:=J3f r0;have C:=J4s g hX hXg;have o0:=J4m hB;have hal:=r0.args_max;refine Cgo (args:=[(ea a a1 c2 a3 c4 a5 c6 a7 c8),(.pointer (some ⟨g,0,none⟩)),(.int .i64 ((lv:Nat):Int))]) Tryz.func79 rfl rfl rfl (Rg (Ol (J3g C rfl ?_)));intro g10 w11 x12 y13 lt14 C15 s16 o17;have n18:=lt14 _ o0.blk.lt;replace o0:=o0.spn s16;refine Oa (Nl (Rg (Om (Ol (St.nilCheck rfl (Ol (J27 o0 pl3 rfl rfl (Ol (St.add rfl rfl (Jc (a:=k) (b:=1) (by omega)) (Ol (St.nilCheck rfl (On (J3a (cs':=[(.int .i64 ((k+1:Nat):Int))]) C15 o0 io3 rfl rfl rfl rfl rfl rfl ?_)))))))))))));intro w19 C20 s21 o22;replace h9:=(h9.sp s16).sp s21;replace o17:=o17.spo s21 (Ne.symm n18);refine Nl (Rh (Om (Ol (St.nilCheck rfl (Ol (J27 o22 pl3 rfl rfl (Ol (J3u rfl rfl (fun hc23=>?_) (fun hc23=>?_)))))))))
  ·refine Om (Oz (Oz (OT (Nl (J26 rfl (Rg (Oa (Nl (W.ret (J7 rfl (resV.t rfl) (RetM.intro ⟨?_,?_⟩ C20.below)))))))))))
   ·exact congrArg (Value.bool) (congrArg Prod.snd (Je9 (a:=a) (by omega)))
   have hh:=o22.blk;rw [show k+1=(pszE a k lv).1 from congrArg Prod.fst (Je9 (a:=a) (by omega))] at hh;exact hh
  refine Om (Og rfl rfl (St.move (Og rfl rfl (J3u rfl rfl (fun hc24=>?_) (fun hc24=>?_)))))
  ·refine OF (Nl (J26 rfl (Rg (Oa (Nl (W.ret (J7 rfl (resV.t rfl) (RetM.intro ⟨?_,?_⟩ C20.below))))))))
   ·exact congrArg (Value.bool) (congrArg Prod.snd (Je9 (a:=a) (by omega)))
   have hh:=o22.blk;rw [show k+1=(pszE a k lv).1 from congrArg Prod.fst (Je9 (a:=a) (by omega))] at hh;exact hh
  refine OF (Nl (J28 rfl (W.skip (Rh (Ol (St.fieldAddr J3 rfl (Ol (J27 o17 pl29 rfl rfl (Ol (St.len sl29 rfl (Om (Nl (W.block (J3j (fun μ f v=>∃ (x y:Nat→Prop) (i:Nat) (kk:Nat),Cx X ⟨w,(· =g)⟩ x y v∧f 1=(.pointer (some ⟨g,0,none⟩))∧f 2=(.int .i64 ((lv:Nat):Int))∧f 23=(.slice a7 a.args.length c8)∧f 24=(.int .i64 ((a.args.length:Nat):Int))∧f 25=(.int .i64 ((i:Nat):Int))∧ExprParts x v a a1 c2 a3 c4 a5 c6 a7 c8∧Own ⟨w,(· =g)⟩ y v g [(.int .i64 ((kk:Nat):Int))] 3∧Own ⟨w,(· =g)⟩ y v g10 (ec a a1 c2 a3 c4 a5 c6 a7 c8) 31∧i≤a.args.length∧pszL (a.args.drop i) kk (lv+1)=pszL a.args (k+1) (lv+1)∧kk≤60∧μ=(a.args.length - i)) _ ⟨_,_,0,(k+1),C20,rfl,rfl,rfl,rfl,rfl,h9,o22,o17,(Nat.zero_le _),rfl,(by omega),rfl⟩ ?_))))))))))))));rintro m38 f25 w26 ⟨x27,y28,i,kk,C29,e30,e31,e32,e33,e34,h9,o35,o36,hi,hR,hkk,hmu37⟩;obtain⟨f39,rfl⟩:=rebK (aC e30 (aC e31 (aC e32 (aC e33 (aC e34 aN)))));clear e30 e31 e32 e33 e34;refine Rg (Ol (J3i rfl rfl (fun hc40=>?_) (fun hc40=>?_)))
  ·refine Nl (W.seq (J26 rfl (W.skip (W.seq (W.block (Rg (Ol (J3k (j:=i) (u:=(a.args.getD i default)) h9.args sl29 io31 rfl rfl rfl (Jg (by omega)) ?_))))))));intro b41 o42 cs43 e44;obtain⟨a45,c46,a47,c48,a49,c50,a51,c52,rfl,h53⟩:=Jq e44.rd;refine Ol (J3v (cs:=(ec (a.args.getD i default) a45 c46 a47 c48 a49 c50 a51 c52)) ag31 rfl rfl e44.cell (Ol (J3b C29 io31 rfl ?_)));intro g54 w55 x56 y57 lt58 C59 s60 o61;have n62:=lt58 _ o35.blk.lt;have n63:=lt58 _ o36.blk.lt;replace h9:=h9.sp s60;replace o36:=o36.spn s60;refine On (J3a (cs':=(ec (a.args.getD i default) a45 c46 a47 c48 a49 c50 a51 c52)) C59 o61 io31 rfl rfl rfl rfl rfl rfl ?_);intro w64 C65 s66 o67;replace h53:=(h53.sp s60).sp s66;replace o35:=(o35.spn s60).spo s66 n62;refine Nl (Rg (Ol (J29 (vs:=(ec (a.args.getD i default) a45 c46 a47 c48 a49 c50 a51 c52)) o67 ag31 rfl rfl rfl (Om (Om (Ol (St.add rfl rfl (Jc (a:=lv) (b:=1) (by omega)) (Ol (St.bool (J4o C65 o35 cb79 rfl rfl (ih C65.bd (Jh (a.args.getD i default) h53.lo h53.hi h53.name h53.n h53.num h53.den h53.args) (k:=kk) o35.blk (C65.yx _ o35.mem) (lv:=lv+1) hkk (by omega) (Nat.lt_of_lt_of_le (Kn (by omega)) (Nat.le_of_lt_succ hN))) ?_))))))))));intro v68 w69 C70 s71 o72 h73;replace h9:=(h9.sp s66).sp s71;replace o36:=(o36.spo s66 n63).spo s71 (Ne.symm n18);refine⟨_,h73,fun hb74=>?_,fun hb74=>?_⟩
   ·refine Ol (St.not rfl (Nl (J28 rfl (W.skip (W.region (Ol (St.add rfl rfl (Jc (a:=i) (b:=1) (by omega)) (Om (Nl (⟨_,(by omega),_,_,(i+1),(pszE (a.args.getD i default) kk (lv+1)).1,C70,rfl,rfl,rfl,rfl,rfl,h9,o72,o36,(by omega),(Jnt (by omega) hR hb74),(pr_le hkk hb74),rfl⟩))))))))))
   refine Ol (St.not rfl (Nl (J26 rfl (Rg (Oa (Nl (W.ret (J7 rfl (resV.t rfl) (RetM.intro ⟨?_,?_⟩ C70.below)))))))))
   ·exact congrArg (Value.bool) ((by rw [← (Jla (by omega) (by omega) hR hb74)];exact hb74.symm))
   have hh:=o72.blk;rw [show(pszE (a.args.getD i default) kk (lv+1)).1=(pszE a k lv).1 from congrArg Prod.fst (Jla (by omega) (by omega) hR hb74)] at hh;exact hh
  refine Nl (W.seq (J28 rfl (W.exit (Rg (Oa (Nl (W.ret (J7 rfl (resV.t rfl) (RetM.intro ⟨?_,?_⟩ C29.below)))))))))
  ·exact congrArg (Value.bool) (congrArg Prod.snd (Jqb (a:=a) (k:=k) (v:=lv) (by omega) (by omega) hR))
  have hh:=o35.blk;rw [show kk=(pszE a k lv).1 from congrArg Prod.fst (Jqb (a:=a) (k:=k) (v:=lv) (by omega) (by omega) hR)] at hh;exact hh
theorem c_psz{X:Nat→Prop}{w:World}(hX:XB X w){v0:Value}{a:GExpr}(r0:RV Jf X w v0 a){g k:Nat}(hB:Blk w g [.int .i64 ((k:Nat):Int)] 3)(hXg:X g){lv:Nat}(hk:k≤60)(hv:lv≤13):Calls Tryz.prog 79 #[v0,(.pointer (some ⟨g,0,none⟩)),(.int .i64 ((lv:Nat):Int))] w (RetM w g fun v w'=>v=(.bool ((pszE a k lv).2))∧Blk w' g [.int .i64 (((pszE a k lv).1:Nat):Int)] 3):=Juu ((SizeOf.sizeOf a)+1) hX r0 hB hXg hk hv (Nat.lt_succ_self _)
theorem Jiz{X:Nat→Prop}{w:World}(hX:XB X w){v0:Value}{a:GExpr}(r0:RV Jf X w v0 a)  :Calls Tryz.prog 49 #[v0] w (Ret w fun v w'=>v=(.bool (decide (cntE a≤60∧lvlE a≤12)))):=by
 obtain⟨a1,c2,a3,c4,a5,c6,a7,c8,rfl,h9⟩:=J3f r0;have C:=Cx.start hX;refine Cgo (args:=[(ea a a1 c2 a3 c4 a5 c6 a7 c8)]) Tryz.func49 rfl rfl rfl (Rg (Ol (J3g C rfl ?_)));intro g10 w11 x12 y13 lt14 C15 s16 o17;replace h9:=h9.sp s16;refine Oa (Nl (Rg (Ol (J3b C15 io3 rfl ?_))));intro g18 w19 x20 y21 lt22 C23 s24 o25;have n26:=lt22 _ o17.blk.lt;refine On (J3a (cs':=[(.int .i64 0)]) C23 o25 io3 rfl rfl rfl rfl rfl rfl ?_);intro w27 C28 s29 o30;replace h9:=(h9.sp s24).sp s29;replace o17:=(o17.spn s24).spo s29 n26;refine Nl (Rg (Ol (J29 (vs:=(ec a a1 c2 a3 c4 a5 c6 a7 c8)) o17 ag31 rfl rfl rfl (Ol (J4o C28 o30 cb79 rfl rfl (c_psz C28.bd (Jh a h9.lo h9.hi h9.name h9.n h9.num h9.den h9.args) (k:=0) o30.blk (C28.yx _ o30.mem) (lv:=1) (by omega) (by omega)) ?_)))));intro v31 w32 C33 s34 o35 h36;subst h36;exact Oa (Nl (W.ret (Wq rfl rfl C33 (congrArg (Value.bool) (Jg4 a)))))
end Go.Wf
namespace Go.Wf
open Go Go.RowKit
section
variable {fc:Fence} [Fw fc] {P:Program} {ops:Array Oper} {n:Nat} {D:List Deferred} {Q:Post} {f0:Fr} {w0:World}
def Jll{σ:Type}(P:Program)(ops:Array Oper)(Q:Post)(R R0:σ→World→σ→World→Prop)(N:σ→World→Prop)(q:Nat)(Gl:List (σ→Value→World→Prop))(f:Fr)(s:σ)(w:World):List Oper→List (List Nat)→Nat→Prop
 | o::l,d::dl,k=>
  (Deps ops Gl f s w d→(Nat.beq k q=true→N s w)→OpSt P ops f o w (fun v w'=>∃ s',(bif Nat.beq k q then R else R0) s w s' w'∧(Gl.getD k noG) s' v w') (fun ch w'=>∀ f,Q (.panic ch) f w'))∧Jll P ops Q R R0 N q Gl f s w l dl (k+1)
 | _,_,_=>True
def Jdu{σ:Type}(R R0:σ→World→σ→World→Prop)(q:Nat):List (σ→Value→World→Prop)→Nat→Prop
 | [],_=>True
 | g::r,k=>(∀ v s w s' w',g s v w→(bif Nat.beq k q then R0 else R) s w s' w'→g s' v w')∧Jdu R R0 q r (k+1)
theorem Jdu.at{σ:Type}{R R0:σ→World→σ→World→Prop}{q:Nat}:∀ (Gl:List (σ→Value→World→Prop)) (k:Nat),Jdu R R0 q Gl k→∀ j v s w s' w',(Gl.getD j noG) s v w→(bif Nat.beq (k+j) q then R0 else R) s w s' w'→(Gl.getD j noG) s' v w':=by
 intro Gl
 induction Gl with
 | nil=>intro k _ j v s w s' w' _ _;simp [List.getD,noG]
 | cons g r ih=>
  intro k h j v s w s' w' hg hr
  cases j with
  | zero=>exact h.1 v s w s' w' hg hr
  | succ j=>exact ih (k+1) h.2 j v s w s' w' hg (by rw [show k+1+j=k+(j+1) by omega];exact hr)
theorem Jll.at{σ:Type}{R R0:σ→World→σ→World→Prop}{N:σ→World→Prop}{q:Nat}{Gl:List (σ→Value→World→Prop)}{f:Fr}{s:σ}{w:World}:∀ (l:List Oper) (dl:List (List Nat)) (k:Nat),Jll P ops Q R R0 N q Gl f s w l dl k→
  ∀ i o,l[i]? =some o→i < dl.length→Deps ops Gl f s w (dl.getD i [])→(Nat.beq (k+i) q=true→N s w)→
   OpSt P ops f o w (fun v w'=>∃ s',(bif Nat.beq (k+i) q then R else R0) s w s' w'∧(Gl.getD (k+i) noG) s' v w') (fun ch w'=>∀ f,Q (.panic ch) f w'):=by
 intro l
 induction l with
 | nil=>intro dl k _ i o h;simp at h
 | cons x l ih=>
  intro dl k hst i o ho hi
  cases dl with
  | nil=>simp at hi
  | cons d dl=>
   cases i with
   | zero=>simp at ho;subst ho;exact hst.1
   | succ i=>
    have:=ih dl (k+1) hst.2 i o (by simpa using ho) (by simpa using hi)
    intro h3 h4;rw [show k+(i+1)=k+1+i by omega] at h4 ⊢;exact this (by simpa using h3) h4
theorem Jbf{f:Fr}{w:World}{fn:Func}{r s q z:ResultVar}{v u x y:Value}(hr:fn.results= #[r,s,q,z])(h:resV (P:=P) f w r v)(k:resV (P:=P) f w s u)(m:resV (P:=P) f w q x)(l:resV (P:=P) f w z y):∀ tmps:Array Value,(∀ t,tmps.getD t undef=f t)→(results fn tmps).run P w= .ok (.tuple #[v,u,x,y]) w:=by
 intro tmps ht;have h1:=Kw h tmps ht;have h2:=Kw k tmps ht;have h3:=Kw m tmps ht;have h4:=Kw l tmps ht;simp only [Xc,hr,List.mapM_toArray,List.mapM_cons,List.mapM_nil,Sem.run_bind,Sem.run_map];rw [h1];simp only [Result.andThen_ok];rw [h2];simp only [Result.andThen_ok];rw [h3];simp only [Result.andThen_ok];rw [h4];simp
theorem Qg{f:Fr}{w:World}{fn:Func}{R:Ending→World→Prop}{r s q z:ResultVar}{v u x y:Value}(hr:fn.results= #[r,s,q,z])(h:resV (P:=P) f w r v)(k:resV (P:=P) f w s u)(m:resV (P:=P) f w q x)(l:resV (P:=P) f w z y)(hR:R (.returned (.tuple #[v,u,x,y])) w):retQ P fn R .ret f w:=⟨_,Jbf hr h k m l,hR⟩
def RA0(X0:Nat→Prop)(b0:Bs)(s:Gh)(w:World)(s':Gh)(w':World):Prop:=s'=s∧Cx X0 b0 s.1 s.2 w'∧Sp s.1 s.2 w s.1 s.2 w' Zf
structure RA (X0:Nat→Prop) (b0:Bs) (s:Gh) (w:World) (s':Gh) (w':World):Prop where
 cx:Cx X0 b0 s'.1 s'.2 w'
 yy:s'.2=s.2
 ap:Ap s.1 w s'.1 s.2 w'
theorem RA.of{X0:Nat→Prop}{b0:Bs}:∀ (s:Gh) (a:World) (t:Gh) (b:World),RA0 X0 b0 s a t b→RA X0 b0 s a t b:=by
 rintro s a _ b ⟨rfl,c,p⟩;exact⟨c,rfl,p.tx,fun g hg hy=>p.same g hg id⟩
theorem RA.trans{X0:Nat→Prop}{b0:Bs}:∀ (s:Gh) (a:World) (t:Gh) (b:World) (u:Gh) (c:World),RA X0 b0 s a t b→RA X0 b0 t b u c→RA X0 b0 s a u c:=
 fun s a t b u c h k=>⟨k.cx,k.yy.trans h.yy,h.ap.tx.trans k.ap.tx,fun g hg hy=>(k.ap.same g (Nat.lt_of_lt_of_le hg h.ap.tx.size) (by rw [h.yy];exact hy)).trans (h.ap.same g hg hy)⟩
theorem RA0.same{X0:Nat→Prop}{b0:Bs}{s:Gh}{w:World}(C:Cx X0 b0 s.1 s.2 w):RA0 X0 b0 s w s w:=⟨rfl,C,Sp.refl⟩
theorem RA0.go{X0:Nat→Prop}{b0:Bs}{x y:Nat→Prop}{w w':World}(C:Cx X0 b0 x y w')(S:Sp x y w x y w' Zf):RA0 X0 b0 (x,y) w (x,y) w':=⟨rfl,C,S⟩
theorem OS.opn{α:Type}{T:Ty α}{E:TypeId}{b0:Bs}{x y:Nat→Prop}{w:World}{v:Value}{l:List α}(h:OS T E b0 x y w v l):∃ a c,v= .slice a l.length c∧OS T E b0 x y w (.slice a l.length c) l:=by
 obtain⟨a,c,rfl,_,_⟩:=h.len;exact⟨a,c,rfl,h⟩
theorem RA.step{X0:Nat→Prop}{b0:Bs}{s:Gh}{w w':World}{x':Nat→Prop}(C:Cx X0 b0 x' s.2 w')(a:Ap s.1 w x' s.2 w'):RA X0 b0 s w (x',s.2) w':=⟨C,rfl,a⟩
end
end Go.Wf
namespace Go.Wf
open Go
mutual
def okE:GExpr→Prop
 | .mk _ _ c s l=>c.num.mag.length≤1000∧c.den.mag.length≤1000∧s.length≤1000∧okL l
def okL:List GExpr→Prop
 | []=>True
 | a::l=>okE a∧okL l
end
theorem xp(a:GExpr):okE a=(a.c.num.mag.length≤1000∧a.c.den.mag.length≤1000∧a.name.length≤1000∧okL a.args):=by cases a;rw [okE];rfl
theorem xe:∀ {l:List GExpr},okL l↔∀ i,i < l.length→okE (l.getD i default)
 | []=>⟨fun _ i h=>absurd h (Nat.not_lt_zero _),fun _=>trivial⟩
 | a::l=>by
  rw [okL,xe (l:=l)]
  constructor
  ·rintro⟨h1,h2⟩ i hi
   cases i with
   | zero=>exact h1
   | succ i=>exact h2 i (by simp at hi;omega)
  ·intro h;exact⟨h 0 (by simp),fun i hi=>h (i+1) (by simp;omega)⟩
theorem Jql{a:GExpr}{i:Nat}(h:okE a)(hi:i < a.args.length):okE (a.args.getD i default):=by
 rw [xp] at h;exact xe.1 h.2.2.2 i hi
theorem Jet:∀ n:Nat,∀ a:GExpr,SizeOf.sizeOf a < n→Zl a=true→okE a:=by
 intro n
 induction n with
 | zero=>intro _ h;exact absurd h (Nat.not_lt_zero _)
 | succ n ih=>
  intro a ha h;obtain⟨_,h2,h3,h4,h5⟩:=Yq.1 h;rw [xp];exact⟨by omega,by omega,by omega,xe.2 fun i hi=>ih _ (by have:=Kn hi;omega) (h5 i hi)⟩
theorem Q8{a:GExpr}(h:Zl a=true):okE a:=Jet _ a (Nat.lt_succ_self _) h
theorem K6(a:GExpr):a.args.length < cntE a:=by rw [Yb];have:=Jkf a.args;omega
theorem RV.n_max{X:Nat→Prop}{w:World}{v:Value}{a:GExpr}(h:RV Jf X w v a):a.n.length≤9223372036854775807:=by
 obtain⟨a1,c1,a2,c2,a3,c3,a4,c4,_,h'⟩:=J3f h;obtain⟨_,_,_,h1,h2⟩:=h'.n.len;have hml:maxLen=9223372036854775807:=rfl;omega
theorem jm {X:Nat→Prop} {w:World} {s1 s2 s3 s4:Value} (m:GExpr) (g1: -9223372036854775808≤m.op) (g2:m.op≤9223372036854775807) (g3:m.name.length≤maxLen)
  (h1:RS Y1 X w s1 m.n) (h2:RS Je X w s2 m.c.num.mag) (h3:RS Je X w s3 m.c.den.mag) (h4:RS Jf X w s4 m.args):
  Jf.rd X w [.int .i64 m.op,s1,.bool m.c.num.neg,s2,.bool m.c.den.neg,s3,str m.name,s4] m:=by
 have h:=Jjv (b:=m.c.num.neg) (d:=m.c.den.neg) g1 g2 g3 h1 h2 h3 h4
 cases m;exact h
theorem Jz5{a:GExpr}{p:List GExpr}{i:Nat}(hp:p=a.args.take i)(hi:a.args.length≤i):GExpr.mk a.op a.n ⟨⟨a.c.num.neg,a.c.num.mag⟩,⟨a.c.den.neg,a.c.den.mag⟩⟩ a.name p=a:=by
 rw [hp,Qz hi];cases a;rfl
theorem Jun{a:GExpr}{p:List GExpr}{i:Nat}(hp:p=a.args.take i)(hi:i < a.args.length):p++[a.args.getD i default]=a.args.take (i+1):=by
 rw [hp,Xz hi]
theorem kq{a:GExpr}(h:¬ (cntE a≤60∧lvlE a≤12)):7=Zk a:=by unfold Zk;rw [if_neg h]
theorem Ji6{a:GExpr}(h:cntE a≤60∧lvlE a≤12):errE a=Zk a:=by unfold Zk;rw [if_pos h]
end Go.Wf
namespace Go.Wf
open Go Go.Proofs Go.RowKit
theorem Jv2{X:Nat→Prop}{w:World}(hX:XB X w){n:Int}  :Calls Tryz.prog 120 #[(.int .i64 n)] w (Ret w fun v w'=>∃ v0 v1,v= .tuple #[v0,v1]∧(v0=(.agg #[(.int .i64 (sA n)),(.int .i64 (sB n)),(.int .i64 (sC n))]))∧(v1=(.bool (okOp n)))):=by
 have C:=Cx.start hX;refine Cgo (args:=[(.int .i64 n)]) Tryz.func120 rfl rfl rfl (Rg (Ol (J3b C Xl rfl ?_)));intro g1 w2 x3 y4 lt5 C6 s7 o8;refine Oa (Nl (Rh (Om (Nl (W.block (Rh (Ol (J3h rfl rfl (fun hc9=>?_) (fun hc9=>?_)))))))))
 ·refine Oa (Nl (J26 rfl (W.skip (J26 rfl (Rg (Ol (St.build (cs:=[(.int .i64 0),(.int .i64 0),(.int .i64 0)]) rfl (by kernel_rfl) (On (J3a (cs':=[(.int .i64 0),(.int .i64 0),(.int .i64 0)]) C6 o8 Xl rfl rfl rfl rfl rfl rfl ?_)))))))));intro w10 C11 s12 o13;refine Oa (Nl (W.ret (Zh rfl (resV.c o13 rfl X3 rfl) (resV.t rfl) (Ret.intro ?_ C11.below))));refine⟨_,_,rfl,?_,?_⟩
  ·skip
   exact Kl (by rw [hc9];rfl) (by rw [hc9];rfl) (by rw [hc9];rfl)
  ·skip
   exact congrArg (Value.bool) ((by rw [hc9];rfl))
 refine Oa (Nl (J28 rfl (Rg (Ol (J3h rfl rfl (fun hc14=>?_) (fun hc14=>?_))))))
 ·refine Oa (Nl (J26 rfl (W.skip (J26 rfl (Rg (Ol (St.build (cs:=[(.int .i64 0),(.int .i64 0),(.int .i64 0)]) rfl (by kernel_rfl) (On (J3a (cs':=[(.int .i64 0),(.int .i64 0),(.int .i64 0)]) C6 o8 Xl rfl rfl rfl rfl rfl rfl ?_)))))))));intro w15 C16 s17 o18;refine Oa (Nl (W.ret (Zh rfl (resV.c o18 rfl X3 rfl) (resV.t rfl) (Ret.intro ?_ C16.below))));refine⟨_,_,rfl,?_,?_⟩
  ·skip
   exact Kl (by rw [hc14];rfl) (by rw [hc14];rfl) (by rw [hc14];rfl)
  ·skip
   exact congrArg (Value.bool) ((by rw [hc14];rfl))
 refine Oa (Nl (J28 rfl (Rg (Ol (J3h rfl rfl (fun hc19=>?_) (fun hc19=>?_))))))
 ·refine Oa (Nl (J26 rfl (W.skip (J26 rfl (Rg (Ol (St.build (cs:=[(.int .i64 0),(.int .i64 0),(.int .i64 0)]) rfl (by kernel_rfl) (On (J3a (cs':=[(.int .i64 0),(.int .i64 0),(.int .i64 0)]) C6 o8 Xl rfl rfl rfl rfl rfl rfl ?_)))))))));intro w20 C21 s22 o23;refine Oa (Nl (W.ret (Zh rfl (resV.c o23 rfl X3 rfl) (resV.t rfl) (Ret.intro ?_ C21.below))));refine⟨_,_,rfl,?_,?_⟩
  ·skip
   exact Kl (by rw [hc19];rfl) (by rw [hc19];rfl) (by rw [hc19];rfl)
  ·skip
   exact congrArg (Value.bool) ((by rw [hc19];rfl))
 refine Oa (Nl (J28 rfl (W.region (Ol (J3h rfl rfl (fun hc24=>?_) (fun hc24=>?_))))))
 ·refine Oa (Nl (J26 rfl (Rg (Ol (St.build (cs:=[(.int .i64 0),(.int .i64 0),(.int .i64 0)]) rfl (by kernel_rfl) (On (J3a (cs':=[(.int .i64 0),(.int .i64 0),(.int .i64 0)]) C6 o8 Xl rfl rfl rfl rfl rfl rfl ?_)))))));intro w25 C26 s27 o28;refine Oa (Nl (W.ret (Zh rfl (resV.c o28 rfl X3 rfl) (resV.t rfl) (Ret.intro ?_ C26.below))));refine⟨_,_,rfl,?_,?_⟩
  ·skip
   exact Kl (by rw [hc24];rfl) (by rw [hc24];rfl) (by rw [hc24];rfl)
  ·skip
   exact congrArg (Value.bool) ((by rw [hc24];rfl))
 refine Oa (Nl (J28 rfl (Rg (Ol (J3h rfl rfl (fun hc29=>?_) (fun hc29=>?_))))))
 ·refine Oa (Nl (J26 rfl (Rg (Ol (St.build (cs:=[(.int .i64 1),(.int .i64 1),(.int .i64 0)]) rfl (by kernel_rfl) (On (J3a (cs':=[(.int .i64 1),(.int .i64 1),(.int .i64 0)]) C6 o8 Xl rfl rfl rfl rfl rfl rfl ?_)))))));intro w30 C31 s32 o33;refine Oa (Nl (W.ret (Zh rfl (resV.c o33 rfl X3 rfl) (resV.t rfl) (Ret.intro ?_ C31.below))));refine⟨_,_,rfl,?_,?_⟩
  ·skip
   exact Kl (by rw [hc29];rfl) (by rw [hc29];rfl) (by rw [hc29];rfl)
  ·skip
   exact congrArg (Value.bool) ((by rw [hc29];rfl))
 refine Oa (Nl (J28 rfl (Rh (Ol (J3h rfl rfl (fun hc34=>?_) (fun hc34=>?_))))))
 ·refine Oa (Nl (J26 rfl (W.skip (J26 rfl (Rg (Ol (St.build (cs:=[(.int .i64 4),(.int .i64 4),(.int .i64 0)]) rfl (by kernel_rfl) (On (J3a (cs':=[(.int .i64 4),(.int .i64 4),(.int .i64 0)]) C6 o8 Xl rfl rfl rfl rfl rfl rfl ?_)))))))));intro w35 C36 s37 o38;refine Oa (Nl (W.ret (Zh rfl (resV.c o38 rfl X3 rfl) (resV.t rfl) (Ret.intro ?_ C36.below))));refine⟨_,_,rfl,?_,?_⟩
  ·skip
   exact Kl (by rw [hc34];rfl) (by rw [hc34];rfl) (by rw [hc34];rfl)
  ·skip
   exact congrArg (Value.bool) ((by rw [hc34];rfl))
 refine Oa (Nl (J28 rfl (W.region (Ol (J3h rfl rfl (fun hc39=>?_) (fun hc39=>?_))))))
 ·refine Oa (Nl (J26 rfl (Rg (Ol (St.build (cs:=[(.int .i64 4),(.int .i64 4),(.int .i64 0)]) rfl (by kernel_rfl) (On (J3a (cs':=[(.int .i64 4),(.int .i64 4),(.int .i64 0)]) C6 o8 Xl rfl rfl rfl rfl rfl rfl ?_)))))));intro w40 C41 s42 o43;refine Oa (Nl (W.ret (Zh rfl (resV.c o43 rfl X3 rfl) (resV.t rfl) (Ret.intro ?_ C41.below))));refine⟨_,_,rfl,?_,?_⟩
  ·skip
   exact Kl (by rw [hc39];rfl) (by rw [hc39];rfl) (by rw [hc39];rfl)
  ·skip
   exact congrArg (Value.bool) ((by rw [hc39];rfl))
 refine Oa (Nl (J28 rfl (Rg (Ol (J3h rfl rfl (fun hc44=>?_) (fun hc44=>?_))))))
 ·refine Oa (Nl (J26 rfl (Rg (Ol (St.build (cs:=[(.int .i64 2),(.int .i64 41),(.int .i64 0)]) rfl (by kernel_rfl) (On (J3a (cs':=[(.int .i64 2),(.int .i64 41),(.int .i64 0)]) C6 o8 Xl rfl rfl rfl rfl rfl rfl ?_)))))));intro w45 C46 s47 o48;refine Oa (Nl (W.ret (Zh rfl (resV.c o48 rfl X3 rfl) (resV.t rfl) (Ret.intro ?_ C46.below))));refine⟨_,_,rfl,?_,?_⟩
  ·skip
   exact Kl (by rw [hc44];rfl) (by rw [hc44];rfl) (by rw [hc44];rfl)
  ·skip
   exact congrArg (Value.bool) ((by rw [hc44];rfl))
 refine Oa (Nl (J28 rfl (Rg (Ol (J3h rfl rfl (fun hc49=>?_) (fun hc49=>?_))))))
 ·refine Oa (Nl (J26 rfl (Rg (Ol (St.build (cs:=[(.int .i64 2),(.int .i64 65),(.int .i64 0)]) rfl (by kernel_rfl) (On (J3a (cs':=[(.int .i64 2),(.int .i64 65),(.int .i64 0)]) C6 o8 Xl rfl rfl rfl rfl rfl rfl ?_)))))));intro w50 C51 s52 o53;refine Oa (Nl (W.ret (Zh rfl (resV.c o53 rfl X3 rfl) (resV.t rfl) (Ret.intro ?_ C51.below))));refine⟨_,_,rfl,?_,?_⟩
  ·skip
   exact Kl (by rw [hc49];rfl) (by rw [hc49];rfl) (by rw [hc49];rfl)
  ·skip
   exact congrArg (Value.bool) ((by rw [hc49];rfl))
 refine Oa (Nl (J28 rfl (Rh (Ol (J3h rfl rfl (fun hc54=>?_) (fun hc54=>?_))))))
 ·refine Oa (Nl (J26 rfl (W.skip (J26 rfl (Rg (Ol (St.build (cs:=[(.int .i64 0),(.int .i64 0),(.int .i64 (-1))]) rfl (by kernel_rfl) (On (J3a (cs':=[(.int .i64 0),(.int .i64 0),(.int .i64 (-1))]) C6 o8 Xl rfl rfl rfl rfl rfl rfl ?_)))))))));intro w55 C56 s57 o58;refine Oa (Nl (W.ret (Zh rfl (resV.c o58 rfl X3 rfl) (resV.t rfl) (Ret.intro ?_ C56.below))));refine⟨_,_,rfl,?_,?_⟩
  ·skip
   exact Kl (by rw [hc54];rfl) (by rw [hc54];rfl) (by rw [hc54];rfl)
  ·skip
   exact congrArg (Value.bool) ((by rw [hc54];rfl))
 refine Oa (Nl (J28 rfl (W.region (Ol (J3h rfl rfl (fun hc59=>?_) (fun hc59=>?_))))))
 ·refine Oa (Nl (J26 rfl (Rg (Ol (St.build (cs:=[(.int .i64 0),(.int .i64 0),(.int .i64 (-1))]) rfl (by kernel_rfl) (On (J3a (cs':=[(.int .i64 0),(.int .i64 0),(.int .i64 (-1))]) C6 o8 Xl rfl rfl rfl rfl rfl rfl ?_)))))));intro w60 C61 s62 o63;refine Oa (Nl (W.ret (Zh rfl (resV.c o63 rfl X3 rfl) (resV.t rfl) (Ret.intro ?_ C61.below))));refine⟨_,_,rfl,?_,?_⟩
  ·skip
   exact Kl (by rw [hc59];rfl) (by rw [hc59];rfl) (by rw [hc59];rfl)
  ·skip
   exact congrArg (Value.bool) ((by rw [hc59];rfl))
 refine Oa (Nl (J28 rfl (Rh (Ol (J3h rfl rfl (fun hc64=>?_) (fun hc64=>?_))))))
 ·refine Oa (Nl (J26 rfl (W.skip (J26 rfl (Rg (Ol (St.build (cs:=[(.int .i64 1),(.int .i64 1),(.int .i64 1)]) rfl (by kernel_rfl) (On (J3a (cs':=[(.int .i64 1),(.int .i64 1),(.int .i64 1)]) C6 o8 Xl rfl rfl rfl rfl rfl rfl ?_)))))))));intro w65 C66 s67 o68;refine Oa (Nl (W.ret (Zh rfl (resV.c o68 rfl X3 rfl) (resV.t rfl) (Ret.intro ?_ C66.below))));refine⟨_,_,rfl,?_,?_⟩
  ·skip
   exact Kl (by rw [hc64];rfl) (by rw [hc64];rfl) (by rw [hc64];rfl)
  ·skip
   exact congrArg (Value.bool) ((by rw [hc64];rfl))
 refine Oa (Nl (J28 rfl (Rg (Ol (J3h rfl rfl (fun hc69=>?_) (fun hc69=>?_))))))
 ·refine Oa (Nl (J26 rfl (W.skip (J26 rfl (Rg (Ol (St.build (cs:=[(.int .i64 1),(.int .i64 1),(.int .i64 1)]) rfl (by kernel_rfl) (On (J3a (cs':=[(.int .i64 1),(.int .i64 1),(.int .i64 1)]) C6 o8 Xl rfl rfl rfl rfl rfl rfl ?_)))))))));intro w70 C71 s72 o73;refine Oa (Nl (W.ret (Zh rfl (resV.c o73 rfl X3 rfl) (resV.t rfl) (Ret.intro ?_ C71.below))));refine⟨_,_,rfl,?_,?_⟩
  ·skip
   exact Kl (by rw [hc69];rfl) (by rw [hc69];rfl) (by rw [hc69];rfl)
  ·skip
   exact congrArg (Value.bool) ((by rw [hc69];rfl))
 refine Oa (Nl (J28 rfl (Rg (Ol (J3h rfl rfl (fun hc74=>?_) (fun hc74=>?_))))))
 ·refine Oa (Nl (J26 rfl (W.skip (J26 rfl (Rg (Ol (St.build (cs:=[(.int .i64 1),(.int .i64 1),(.int .i64 1)]) rfl (by kernel_rfl) (On (J3a (cs':=[(.int .i64 1),(.int .i64 1),(.int .i64 1)]) C6 o8 Xl rfl rfl rfl rfl rfl rfl ?_)))))))));intro w75 C76 s77 o78;refine Oa (Nl (W.ret (Zh rfl (resV.c o78 rfl X3 rfl) (resV.t rfl) (Ret.intro ?_ C76.below))));refine⟨_,_,rfl,?_,?_⟩
  ·skip
   exact Kl (by rw [hc74];rfl) (by rw [hc74];rfl) (by rw [hc74];rfl)
  ·skip
   exact congrArg (Value.bool) ((by rw [hc74];rfl))
 refine Oa (Nl (J28 rfl (Rg (Ol (J3h rfl rfl (fun hc79=>?_) (fun hc79=>?_))))))
 ·refine Oa (Nl (J26 rfl (W.skip (J26 rfl (Rg (Ol (St.build (cs:=[(.int .i64 1),(.int .i64 1),(.int .i64 1)]) rfl (by kernel_rfl) (On (J3a (cs':=[(.int .i64 1),(.int .i64 1),(.int .i64 1)]) C6 o8 Xl rfl rfl rfl rfl rfl rfl ?_)))))))));intro w80 C81 s82 o83;refine Oa (Nl (W.ret (Zh rfl (resV.c o83 rfl X3 rfl) (resV.t rfl) (Ret.intro ?_ C81.below))));refine⟨_,_,rfl,?_,?_⟩
  ·skip
   exact Kl (by rw [hc79];rfl) (by rw [hc79];rfl) (by rw [hc79];rfl)
  ·skip
   exact congrArg (Value.bool) ((by rw [hc79];rfl))
 refine Oa (Nl (J28 rfl (W.region (Ol (J3h rfl rfl (fun hc84=>?_) (fun hc84=>?_))))))
 ·refine Oa (Nl (J26 rfl (Rg (Ol (St.build (cs:=[(.int .i64 1),(.int .i64 1),(.int .i64 1)]) rfl (by kernel_rfl) (On (J3a (cs':=[(.int .i64 1),(.int .i64 1),(.int .i64 1)]) C6 o8 Xl rfl rfl rfl rfl rfl rfl ?_)))))));intro w85 C86 s87 o88;refine Oa (Nl (W.ret (Zh rfl (resV.c o88 rfl X3 rfl) (resV.t rfl) (Ret.intro ?_ C86.below))));refine⟨_,_,rfl,?_,?_⟩
  ·skip
   exact Kl (by rw [hc84];rfl) (by rw [hc84];rfl) (by rw [hc84];rfl)
  ·skip
   exact congrArg (Value.bool) ((by rw [hc84];rfl))
 refine Oa (Nl (J28 rfl (Rg (Ol (J3h rfl rfl (fun hc89=>?_) (fun hc89=>?_))))))
 ·refine Oa (Nl (J26 rfl (Rg (Ol (St.build (cs:=[(.int .i64 0),(.int .i64 0),(.int .i64 1)]) rfl (by kernel_rfl) (On (J3a (cs':=[(.int .i64 0),(.int .i64 0),(.int .i64 1)]) C6 o8 Xl rfl rfl rfl rfl rfl rfl ?_)))))));intro w90 C91 s92 o93;refine Oa (Nl (W.ret (Zh rfl (resV.c o93 rfl X3 rfl) (resV.t rfl) (Ret.intro ?_ C91.below))));refine⟨_,_,rfl,?_,?_⟩
  ·skip
   exact Kl (by rw [hc89];rfl) (by rw [hc89];rfl) (by rw [hc89];rfl)
  ·skip
   exact congrArg (Value.bool) ((by rw [hc89];rfl))
 refine Oa (Nl (J28 rfl (Rg (Ol (J3h rfl rfl (fun hc94=>?_) (fun hc94=>?_))))))
 ·refine Oa (Nl (J26 rfl (Rg (Ol (St.build (cs:=[(.int .i64 1),(.int .i64 1),(.int .i64 2)]) rfl (by kernel_rfl) (On (J3a (cs':=[(.int .i64 1),(.int .i64 1),(.int .i64 2)]) C6 o8 Xl rfl rfl rfl rfl rfl rfl ?_)))))));intro w95 C96 s97 o98;refine Oa (Nl (W.ret (Zh rfl (resV.c o98 rfl X3 rfl) (resV.t rfl) (Ret.intro ?_ C96.below))));refine⟨_,_,rfl,?_,?_⟩
  ·skip
   exact Kl (by rw [hc94];rfl) (by rw [hc94];rfl) (by rw [hc94];rfl)
  ·skip
   exact congrArg (Value.bool) ((by rw [hc94];rfl))
 refine Oa (Nl (J28 rfl (W.skip (Rg (Ol (St.build (cs:=[(.int .i64 0),(.int .i64 0),(.int .i64 0)]) rfl (by kernel_rfl) (On (J3a (cs':=[(.int .i64 0),(.int .i64 0),(.int .i64 0)]) C6 o8 Xl rfl rfl rfl rfl rfl rfl ?_))))))));intro w99 C100 s101 o102;refine Oa (Nl (W.ret (Zh rfl (resV.c o102 rfl X3 rfl) (resV.t rfl) (Ret.intro ?_ C100.below))));refine⟨_,_,rfl,?_,?_⟩
 ·skip
  exact Kl (by unfold sA;rw [if_neg (by omega)]) (by unfold sB;rw [if_neg (by omega)]) (by unfold sC;rw [if_neg (by omega),if_neg (by omega)])
 ·skip
  exact congrArg (Value.bool) ((decide_eq_false (by omega)).symm)
theorem Jyy{X:Nat→Prop}{w:World}(hX:XB X w){v0:Value}{a:GExpr}(r0:RV Jf X w v0 a)(hl:a.args.length≤60)(hok:okE a):Calls Tryz.prog 80 #[v0] w (Ret w fun v w'=>v=(.int .i64 (Xb a))):=by
 obtain⟨a1,c2,a3,c4,a5,c6,a7,c8,rfl,h9⟩:=J3f r0;have C:=Cx.start hX;obtain⟨ok1,ok2,ok3,ok4⟩:=(xp a).mp hok;have hnl:=r0.n_max;refine Cgo (args:=[(ea a a1 c2 a3 c4 a5 c6 a7 c8)]) Tryz.func80 rfl rfl rfl (Rg (Ol (J3g C rfl ?_)));intro g10 w11 x12 y13 lt14 C15 s16 o17;refine Oa (Nl (Rg (Ol (St.fieldAddr Zz rfl (Ol (J27 o17 pl3 rfl rfl (Ol (J25 C15 cb120 rfl rfl (Jv2 C15.bd) ?_))))))));intro v18 w19 C20 s21 h22;replace h9:=(h9.sp s16).sp s21;replace o17:=o17.spn s21;obtain⟨v23,v24,rfl,rfl,rfl⟩:=h22;refine Om (Ol (St.extract rfl rfl (Ol (St.extract rfl rfl (Ol (J3b C20 Xl rfl ?_))))));intro g27 w28 x29 y30 lt31 C32 s33 o34;have n35:=lt31 _ o17.blk.lt;refine On (J3a (cs':=[(.int .i64 (sA a.op)),(.int .i64 (sB a.op)),(.int .i64 (sC a.op))]) C32 o34 Xl rfl rfl rfl rfl rfl rfl ?_);intro w36 C37 s38 o39;replace h9:=(h9.sp s33).sp s38;replace o17:=(o17.spn s33).spo s38 n35;refine Oa (Nl (W.seq (J4d (fun f v=>∃ (x y:Nat→Prop),Cx X w x y v∧f 1=(.pointer (some ⟨g10,0,none⟩))∧ExprParts x v a a1 c2 a3 c4 a5 c6 a7 c8∧Own w y v g10 (ec a a1 c2 a3 c4 a5 c6 a7 c8) 31∧Own w y v g27 [(.int .i64 (sA a.op)),(.int .i64 (sB a.op)),(.int .i64 (sC a.op))] 125∧cntOk a) ?_ ?_)))
 ·refine Rg (Ol (St.bool (St.move ⟨_,rfl,fun hb40=>?_,fun hb40=>?_⟩)))
  ·refine Ol (St.not rfl (Om (Og rfl rfl (St.fieldAddr K0 rfl (Og rfl rfl (J27 o17 pl23 rfl rfl (Og rfl rfl (St.len sl23 rfl (Og rfl rfl (St.fieldAddr Jut rfl (Og rfl rfl (J27 o39 pl3 rfl rfl (Og rfl rfl (J3i rfl rfl (fun hc41=>?_) (fun hc41=>?_)))))))))))))))
   ·refine OF (Om (Oz (Oz (Oz (Oz (Oz (Oz (OT (Om (Oz (Oz (Oz (Oz (Oy rfl rfl (Oy rfl rfl (Oy rfl rfl (Oy rfl rfl (Oy rfl rfl (Oy rfl rfl (Oz (OT ?_)))))))))))))))))))));exact Om (Oz (Oz (Oz (Oz (Oy rfl rfl (Oy rfl rfl (Oy rfl rfl (Oy rfl rfl (Oz (OT (Nl (J26 rfl (Rg (Oa (Nl (W.ret (Wq rfl rfl C37 (congrArg (Value.int _) (Qf (xu (.inr (by omega))))))))))))))))))))))
   refine OF (Om (Og rfl rfl (St.fieldAddr K0 rfl (Og rfl rfl (J27 o17 pl23 rfl rfl (Og rfl rfl (St.len sl23 rfl (Og rfl rfl (St.fieldAddr Jtv rfl (Og rfl rfl (J27 o39 pl3 rfl rfl (Og rfl rfl (J3u rfl rfl (fun hc42=>?_) (fun hc42=>?_))))))))))))))
   ·refine OF (Om (Oz (Oz (Oz (Oz (Oy rfl rfl (Oy rfl rfl (Oy rfl rfl (Oy rfl rfl (Oy rfl rfl (Oy rfl rfl (Oz (OT (Om (Oz (Oz (Oz (Oz (Oy rfl rfl (Oy rfl rfl (Oy rfl rfl ?_)))))))))))))))))))));exact Oy rfl rfl (Oz (OT (Nl (J26 rfl (Rg (Oa (Nl (W.ret (Wq rfl rfl C37 (congrArg (Value.int _) (Qf (xu (.inr (by omega))))))))))))))
   refine OF (Om (Og rfl rfl (St.fieldAddr Jbs rfl (Og rfl rfl (J27 o39 pl3 rfl rfl (Og rfl rfl (J3w rfl rfl (fun hc43=>?_) (fun hc43=>?_))))))))
   ·refine Og rfl rfl (St.move (Og rfl rfl (St.fieldAddr J3 rfl (Og rfl rfl (J27 o17 pl29 rfl rfl (Og rfl rfl (St.len sl29 rfl (Og rfl rfl (St.fieldAddr Jbs rfl (Og rfl rfl (J27 o39 pl3 rfl rfl (Og rfl rfl (J3q rfl rfl (fun hc44=>?_) (fun hc44=>?_))))))))))))))
    ·exact Og rfl rfl (St.pick (t:=true) rfl (OF (Om (Oz (Oz (Oz (Oz (Oy rfl rfl (Oy rfl rfl (Oy rfl rfl (Oy rfl rfl (Oz (OT (Nl (J26 rfl (Rg (Oa (Nl (W.ret (Wq rfl rfl C37 (congrArg (Value.int _) (Qf (xu (.inr (by omega)))))))))))))))))))))))))
    refine Og rfl rfl (St.pick (t:=true) rfl (OF (Om (Og rfl rfl (St.fieldAddr Jbs rfl (Og rfl rfl (J27 o39 pl3 rfl rfl (Og rfl rfl (J3i rfl rfl (fun hc45=>?_) (fun hc45=>?_))))))))))
    ·refine Og rfl rfl (St.move (Og rfl rfl (St.fieldAddr J3 rfl (Og rfl rfl (J27 o17 pl29 rfl rfl (Og rfl rfl (St.len sl29 rfl (Og rfl rfl (J3i rfl rfl (fun hc46=>?_) (fun hc46=>?_))))))))))
     ·exact Og rfl rfl (St.pick (t:=true) rfl (OF (Nl (J26 rfl (Rg (Oa (Nl (W.ret (Wq rfl rfl C37 (congrArg (Value.int _) (Qf (xu (.inr (by omega))))))))))))))
     refine Og rfl rfl (St.pick (t:=true) rfl (OF (Nl (J28 rfl (W.skip (⟨_,_,C37,rfl,h9,o17,o39,(Jgl (by assumption) (by omega) (by omega) (fun _=>by omega) (fun _=>by omega) hl)⟩))))))
    refine Og rfl rfl (St.move (Oz (Oz (Oz (Oz (Og rfl rfl (St.pick (t:=false) rfl (OF (Nl (J28 rfl (W.skip (⟨_,_,C37,rfl,h9,o17,o39,(Jgl (by assumption) (by omega) (by omega) (fun _=>by omega) (fun _=>by omega) hl)⟩))))))))))))
   refine Og rfl rfl (St.move (Oz (Oz (Oz (Oz (Oz (Oz (Og rfl rfl (St.pick (t:=false) rfl (OF (Om (Og rfl rfl (St.fieldAddr Jbs rfl (Og rfl rfl (J27 o39 pl3 rfl rfl (Og rfl rfl (J3i rfl rfl (fun hc47=>?_) (fun hc47=>?_))))))))))))))))))
   ·refine Og rfl rfl (St.move (Og rfl rfl (St.fieldAddr J3 rfl (Og rfl rfl (J27 o17 pl29 rfl rfl (Og rfl rfl (St.len sl29 rfl (Og rfl rfl (J3i rfl rfl (fun hc48=>?_) (fun hc48=>?_))))))))))
    ·exact Og rfl rfl (St.pick (t:=true) rfl (OF (Nl (J26 rfl (Rg (Oa (Nl (W.ret (Wq rfl rfl C37 (congrArg (Value.int _) (Qf (xu (.inr (by omega))))))))))))))
    refine Og rfl rfl (St.pick (t:=true) rfl (OF (Nl (J28 rfl (W.skip (⟨_,_,C37,rfl,h9,o17,o39,(Jgl (by assumption) (by omega) (by omega) (fun _=>by omega) (fun _=>by omega) hl)⟩))))))
   refine Og rfl rfl (St.move (Oz (Oz (Oz (Oz (Og rfl rfl (St.pick (t:=false) rfl (OF (Nl (J28 rfl (W.skip (⟨_,_,C37,rfl,h9,o17,o39,(Jgl (by assumption) (by omega) (by omega) (fun _=>by omega) (fun _=>by omega) hl)⟩))))))))))))
  refine Ol (St.not rfl (Om (Oz (Oz (Oz (Oz (Oz (Oz (OT (Om (Oz (Oz (Oz (Oz (Oz (Oz (OT (Om (Oz (Ox rfl rfl rfl ?_))))))))))))))))))));refine Oz (Oz (Oy rfl rfl (Oy rfl rfl (Oy rfl rfl (Oy rfl rfl (Oy rfl rfl (Oy rfl rfl (Oz (OT (Om (Oz (Oz (Oz (Oz (Oy rfl rfl (Oy rfl rfl (Oy rfl rfl (Oy rfl rfl (Oz (OT (Nl (J26 rfl ?_))))))))))))))))))))));exact Rg (Oa (Nl (W.ret (Wq rfl rfl C37 (congrArg (Value.int _) (Qf (xu (.inl hb40))))))))
 rintro f49 w50 ⟨x51,y52,C53,e54,h9,o55,o56,hcn⟩;obtain⟨f57,rfl⟩:=rebK (aC e54 aN);clear e54;refine W.seq (J4d (fun f v=>∃ (x y:Nat→Prop),Cx X w x y v∧f 1=(.pointer (some ⟨g10,0,none⟩))∧ExprParts x v a a1 c2 a3 c4 a5 c6 a7 c8∧Own w y v g10 (ec a a1 c2 a3 c4 a5 c6 a7 c8) 31∧Own w y v g27 [(.int .i64 (sA a.op)),(.int .i64 (sB a.op)),(.int .i64 (sC a.op))] 125∧nameOk a) ?_ ?_)
 ·refine Rg (Ol (St.fieldAddr Zz rfl (Ol (J27 o55 pl3 rfl rfl (Ol (J3h rfl rfl (fun hc58=>?_) (fun hc58=>?_)))))))
  ·refine Om (Og rfl rfl (St.fieldAddr Km rfl (Og rfl rfl (J27 o55 pl9 rfl rfl (Og rfl rfl (St.bool (J25 C53 cb18 rfl rfl (Jfg C53.bd) ?_)))))));intro v59 w60 C61 s62 h63;replace h9:=h9.sp s62;replace o55:=o55.spn s62;replace o56:=o56.spn s62;refine⟨_,h63,fun hb64=>?_,fun hb64=>?_⟩
   ·refine Og rfl rfl (St.not rfl (OT (Om (Og rfl rfl (St.fieldAddr Zz rfl (Og rfl rfl (J27 o55 pl3 rfl rfl (Og rfl rfl (J3q rfl rfl (fun hc65=>?_) (fun hc65=>?_))))))))))
    ·refine Og rfl rfl (St.move (Og rfl rfl (St.fieldAddr Km rfl (Og rfl rfl (J27 o55 pl9 rfl rfl (Og rfl rfl (J4f rfl rfl (fun hc66=>?_) (fun hc66=>?_))))))))
     ·exact Og rfl rfl (St.pick (t:=true) rfl (OF (Om (Oz (Oz (Oz (Oz (Oy rfl rfl (Oy rfl rfl (Oy rfl rfl (Oy rfl rfl (Oz (OT (Nl (J26 rfl (Rg (Oa (Nl (W.ret (Wq rfl rfl C61 (congrArg (Value.int _) ((by first | exact Xe (Je1 (by first | exact .inl ⟨by assumption,by assumption⟩ | exact .inr (.inl ⟨by assumption,by assumption⟩) | exact .inr (.inr ⟨by assumption,by assumption⟩))) | (exfalso;omega))))))))))))))))))))))))
     refine Og rfl rfl (St.pick (t:=true) rfl (OF (Om (Og rfl rfl (St.fieldAddr Zz rfl (Og rfl rfl (J27 o55 pl3 rfl rfl (Og rfl rfl (J3q rfl rfl (fun hc67=>?_) (fun hc67=>?_))))))))))
     ·refine Og rfl rfl (St.move (Og rfl rfl (St.fieldAddr Ky rfl (Og rfl rfl (J29 (vs:=[(.bool a.c.num.neg),(.slice a3 a.c.num.mag.length c4),(.bool a.c.den.neg),(.slice a5 a.c.den.mag.length c6)]) o55 ag28 rfl rfl rfl (Og rfl rfl (J25 C61 Jou rfl rfl (Jbc C61.bd (a:=a.c) (Ke h9.num h9.den) (by omega) (by omega)) ?_)))))));intro v68 w69 C70 s71 h72;replace h9:=h9.sp s71;replace o55:=o55.spn s71;replace o56:=o56.spn s71;subst h72;refine Og rfl rfl (J3q rfl rfl (fun hc73=>?_) (fun hc73=>?_))
      ·exact Og rfl rfl (St.pick (t:=true) rfl (OF (Nl (J26 rfl (Rg (Oa (Nl (W.ret (Wq rfl rfl C70 (congrArg (Value.int _) ((by first | exact Xe (Je1 (by first | exact .inl ⟨by assumption,by assumption⟩ | exact .inr (.inl ⟨by assumption,by assumption⟩) | exact .inr (.inr ⟨by assumption,by assumption⟩))) | (exfalso;omega)))))))))))))
      refine Og rfl rfl (St.pick (t:=true) rfl (OF (Nl (J28 rfl (W.skip (⟨_,_,C70,rfl,h9,o55,o56,(by first | exact(Jbx (by first | exact .inl ⟨by assumption,by assumption⟩ | exact .inr ⟨by assumption,by assumption⟩) (by first | exact .inl (by assumption) | exact .inr (by assumption))) | (exfalso;omega))⟩))))))
     refine Og rfl rfl (St.move (Oz (Oz (Oz (Oz (Og rfl rfl (St.pick (t:=false) rfl (OF (Nl (J28 rfl (W.skip (⟨_,_,C61,rfl,h9,o55,o56,(by first | exact(Jbx (by first | exact .inl ⟨by assumption,by assumption⟩ | exact .inr ⟨by assumption,by assumption⟩) (by first | exact .inl (by assumption) | exact .inr (by assumption))) | (exfalso;omega))⟩))))))))))))
    refine Og rfl rfl (St.move (Oz (Oz (Oz (Og rfl rfl (St.pick (t:=false) rfl (OF (Om (Og rfl rfl (St.fieldAddr Zz rfl (Og rfl rfl (J27 o55 pl3 rfl rfl (Og rfl rfl (J3q rfl rfl (fun hc74=>?_) (fun hc74=>?_)))))))))))))))
    ·refine Og rfl rfl (St.move (Og rfl rfl (St.fieldAddr Ky rfl (Og rfl rfl (J29 (vs:=[(.bool a.c.num.neg),(.slice a3 a.c.num.mag.length c4),(.bool a.c.den.neg),(.slice a5 a.c.den.mag.length c6)]) o55 ag28 rfl rfl rfl (Og rfl rfl (J25 C61 Jou rfl rfl (Jbc C61.bd (a:=a.c) (Ke h9.num h9.den) (by omega) (by omega)) ?_)))))));intro v75 w76 C77 s78 h79;replace h9:=h9.sp s78;replace o55:=o55.spn s78;replace o56:=o56.spn s78;subst h79;refine Og rfl rfl (J3q rfl rfl (fun hc80=>?_) (fun hc80=>?_))
     ·exact Og rfl rfl (St.pick (t:=true) rfl (OF (Nl (J26 rfl (Rg (Oa (Nl (W.ret (Wq rfl rfl C77 (congrArg (Value.int _) ((by first | exact Xe (Je1 (by first | exact .inl ⟨by assumption,by assumption⟩ | exact .inr (.inl ⟨by assumption,by assumption⟩) | exact .inr (.inr ⟨by assumption,by assumption⟩))) | (exfalso;omega)))))))))))))
     refine Og rfl rfl (St.pick (t:=true) rfl (OF (Nl (J28 rfl (W.skip (⟨_,_,C77,rfl,h9,o55,o56,(by first | exact(Jbx (by first | exact .inl ⟨by assumption,by assumption⟩ | exact .inr ⟨by assumption,by assumption⟩) (by first | exact .inl (by assumption) | exact .inr (by assumption))) | (exfalso;omega))⟩))))))
    refine Og rfl rfl (St.move (Oz (Oz (Oz (Oz (Og rfl rfl (St.pick (t:=false) rfl (OF (Nl (J28 rfl (W.skip (⟨_,_,C61,rfl,h9,o55,o56,(by first | exact(Jbx (by first | exact .inl ⟨by assumption,by assumption⟩ | exact .inr ⟨by assumption,by assumption⟩) (by first | exact .inl (by assumption) | exact .inr (by assumption))) | (exfalso;omega))⟩))))))))))))
   refine Og rfl rfl (St.not rfl (OT (Om (Oz (Oz (Oz (Oz (Oy rfl rfl (Oy rfl rfl (Oy rfl rfl (Oz (OT (Om (Oz (Oz (Oz (Oz (Oy rfl rfl (Oy rfl rfl (Oy rfl rfl (Oy rfl rfl ?_)))))))))))))))))))));exact Oz (OT (Nl (J26 rfl (Rg (Oa (Nl (W.ret (Wq rfl rfl C61 (congrArg (Value.int _) ((by first | exact Xe (Je1 (by first | exact .inl ⟨by assumption,by assumption⟩ | exact .inr (.inl ⟨by assumption,by assumption⟩) | exact .inr (.inr ⟨by assumption,by assumption⟩))) | (exfalso;omega))))))))))))
  refine Om (Oz (Oz (Oz (Oz (OF (Om (Og rfl rfl (St.fieldAddr Zz rfl (Og rfl rfl (J27 o55 pl3 rfl rfl (Og rfl rfl (J3q rfl rfl (fun hc81=>?_) (fun hc81=>?_)))))))))))))
  ·refine Og rfl rfl (St.move (Og rfl rfl (St.fieldAddr Km rfl (Og rfl rfl (J27 o55 pl9 rfl rfl (Og rfl rfl (J4f rfl rfl (fun hc82=>?_) (fun hc82=>?_))))))))
   ·exact Og rfl rfl (St.pick (t:=true) rfl (OF (Om (Oz (Oz (Oz (Oz (Oy rfl rfl (Oy rfl rfl (Oy rfl rfl (Oy rfl rfl (Oz (OT (Nl (J26 rfl (Rg (Oa (Nl (W.ret (Wq rfl rfl C53 (congrArg (Value.int _) ((by first | exact Xe (Je1 (by first | exact .inl ⟨by assumption,by assumption⟩ | exact .inr (.inl ⟨by assumption,by assumption⟩) | exact .inr (.inr ⟨by assumption,by assumption⟩))) | (exfalso;omega))))))))))))))))))))))))
   refine Og rfl rfl (St.pick (t:=true) rfl (OF (Om (Og rfl rfl (St.fieldAddr Zz rfl (Og rfl rfl (J27 o55 pl3 rfl rfl (Og rfl rfl (J3q rfl rfl (fun hc83=>?_) (fun hc83=>?_))))))))))
   ·refine Og rfl rfl (St.move (Og rfl rfl (St.fieldAddr Ky rfl (Og rfl rfl (J29 (vs:=[(.bool a.c.num.neg),(.slice a3 a.c.num.mag.length c4),(.bool a.c.den.neg),(.slice a5 a.c.den.mag.length c6)]) o55 ag28 rfl rfl rfl (Og rfl rfl (J25 C53 Jou rfl rfl (Jbc C53.bd (a:=a.c) (Ke h9.num h9.den) (by omega) (by omega)) ?_)))))));intro v84 w85 C86 s87 h88;replace h9:=h9.sp s87;replace o55:=o55.spn s87;replace o56:=o56.spn s87;subst h88;refine Og rfl rfl (J3q rfl rfl (fun hc89=>?_) (fun hc89=>?_))
    ·exact Og rfl rfl (St.pick (t:=true) rfl (OF (Nl (J26 rfl (Rg (Oa (Nl (W.ret (Wq rfl rfl C86 (congrArg (Value.int _) ((by first | exact Xe (Je1 (by first | exact .inl ⟨by assumption,by assumption⟩ | exact .inr (.inl ⟨by assumption,by assumption⟩) | exact .inr (.inr ⟨by assumption,by assumption⟩))) | (exfalso;omega)))))))))))))
    refine Og rfl rfl (St.pick (t:=true) rfl (OF (Nl (J28 rfl (W.skip (⟨_,_,C86,rfl,h9,o55,o56,(by first | exact(Jbx (by first | exact .inl ⟨by assumption,by assumption⟩ | exact .inr ⟨by assumption,by assumption⟩) (by first | exact .inl (by assumption) | exact .inr (by assumption))) | (exfalso;omega))⟩))))))
   refine Og rfl rfl (St.move (Oz (Oz (Oz (Oz (Og rfl rfl (St.pick (t:=false) rfl (OF (Nl (J28 rfl (W.skip (⟨_,_,C53,rfl,h9,o55,o56,(by first | exact(Jbx (by first | exact .inl ⟨by assumption,by assumption⟩ | exact .inr ⟨by assumption,by assumption⟩) (by first | exact .inl (by assumption) | exact .inr (by assumption))) | (exfalso;omega))⟩))))))))))))
  refine Og rfl rfl (St.move (Oz (Oz (Oz (Og rfl rfl (St.pick (t:=false) rfl (OF (Om (Og rfl rfl (St.fieldAddr Zz rfl (Og rfl rfl (J27 o55 pl3 rfl rfl (Og rfl rfl (J3q rfl rfl (fun hc90=>?_) (fun hc90=>?_)))))))))))))))
  ·refine Og rfl rfl (St.move (Og rfl rfl (St.fieldAddr Ky rfl (Og rfl rfl (J29 (vs:=[(.bool a.c.num.neg),(.slice a3 a.c.num.mag.length c4),(.bool a.c.den.neg),(.slice a5 a.c.den.mag.length c6)]) o55 ag28 rfl rfl rfl (Og rfl rfl (J25 C53 Jou rfl rfl (Jbc C53.bd (a:=a.c) (Ke h9.num h9.den) (by omega) (by omega)) ?_)))))));intro v91 w92 C93 s94 h95;replace h9:=h9.sp s94;replace o55:=o55.spn s94;replace o56:=o56.spn s94;subst h95;refine Og rfl rfl (J3q rfl rfl (fun hc96=>?_) (fun hc96=>?_))
   ·exact Og rfl rfl (St.pick (t:=true) rfl (OF (Nl (J26 rfl (Rg (Oa (Nl (W.ret (Wq rfl rfl C93 (congrArg (Value.int _) ((by first | exact Xe (Je1 (by first | exact .inl ⟨by assumption,by assumption⟩ | exact .inr (.inl ⟨by assumption,by assumption⟩) | exact .inr (.inr ⟨by assumption,by assumption⟩))) | (exfalso;omega)))))))))))))
   refine Og rfl rfl (St.pick (t:=true) rfl (OF (Nl (J28 rfl (W.skip (⟨_,_,C93,rfl,h9,o55,o56,(by first | exact(Jbx (by first | exact .inl ⟨by assumption,by assumption⟩ | exact .inr ⟨by assumption,by assumption⟩) (by first | exact .inl (by assumption) | exact .inr (by assumption))) | (exfalso;omega))⟩))))))
  refine Og rfl rfl (St.move (Oz (Oz (Oz (Oz (Og rfl rfl (St.pick (t:=false) rfl (OF (Nl (J28 rfl (W.skip (⟨_,_,C53,rfl,h9,o55,o56,(by first | exact(Jbx (by first | exact .inl ⟨by assumption,by assumption⟩ | exact .inr ⟨by assumption,by assumption⟩) (by first | exact .inl (by assumption) | exact .inr (by assumption))) | (exfalso;omega))⟩))))))))))))
 rintro f97 w98 ⟨x99,y100,C101,e102,h9,o103,o104,hnm⟩;obtain⟨f105,rfl⟩:=rebK (aC e102 aN);clear e102;refine Rg (Oa (Oa (Nl (W.seq (J4d (fun f v=>∃ (x y:Nat→Prop),Cx X w x y v∧f 1=(.pointer (some ⟨g10,0,none⟩))∧f 5=(.int .i64 (lA a.op))∧f 6=(.int .i64 (lB a.op))∧ExprParts x v a a1 c2 a3 c4 a5 c6 a7 c8∧Own w y v g10 (ec a a1 c2 a3 c4 a5 c6 a7 c8) 31∧Own w y v g27 [(.int .i64 (sA a.op)),(.int .i64 (sB a.op)),(.int .i64 (sC a.op))] 125) ?_ ?_)))))
 ·refine Rg (Ol (St.fieldAddr Zz rfl (Ol (J27 o103 pl3 rfl rfl (Nl (W.block (Rg (Ol (J3h rfl rfl (fun hc106=>?_) (fun hc106=>?_))))))))))
  ·refine Oa (Nl (J26 rfl (W.region (Oa (Oa (Nl (⟨_,_,C101,rfl,(congrArg (Value.int _) (by unfold lA;(repeat' split) <;> omega)),(congrArg (Value.int _) (by unfold lB;(repeat' split) <;> omega)),h9,o103,o104⟩)))))))
  refine Oa (Nl (J28 rfl (Rh (Ol (J3h rfl rfl (fun hc107=>?_) (fun hc107=>?_))))))
  ·refine Oa (Nl (J26 rfl (W.skip (J26 rfl (W.region (Oa (Oa (Nl (⟨_,_,C101,rfl,(congrArg (Value.int _) (by unfold lA;(repeat' split) <;> omega)),(congrArg (Value.int _) (by unfold lB;(repeat' split) <;> omega)),h9,o103,o104⟩)))))))))
  refine Oa (Nl (J28 rfl (Rg (Ol (J3h rfl rfl (fun hc108=>?_) (fun hc108=>?_))))))
  ·refine Oa (Nl (J26 rfl (W.skip (J26 rfl (W.region (Oa (Oa (Nl (⟨_,_,C101,rfl,(congrArg (Value.int _) (by unfold lA;(repeat' split) <;> omega)),(congrArg (Value.int _) (by unfold lB;(repeat' split) <;> omega)),h9,o103,o104⟩)))))))))
  refine Oa (Nl (J28 rfl (W.region (Ol (J3h rfl rfl (fun hc109=>?_) (fun hc109=>?_))))))
  ·refine Oa (Nl (J26 rfl (W.region (Oa (Oa (Nl (⟨_,_,C101,rfl,(congrArg (Value.int _) (by unfold lA;(repeat' split) <;> omega)),(congrArg (Value.int _) (by unfold lB;(repeat' split) <;> omega)),h9,o103,o104⟩)))))))
  refine Oa (Nl (J28 rfl (Rg (Ol (J3h rfl rfl (fun hc110=>?_) (fun hc110=>?_))))))
  ·refine Oa (Nl (J26 rfl (W.region (Oa (Oa (Nl (⟨_,_,C101,rfl,(congrArg (Value.int _) (by unfold lA;(repeat' split) <;> omega)),(congrArg (Value.int _) (by unfold lB;(repeat' split) <;> omega)),h9,o103,o104⟩)))))))
  refine Oa (Nl (J28 rfl (Rg (Ol (J3h rfl rfl (fun hc111=>?_) (fun hc111=>?_))))))
  ·refine Oa (Nl (J26 rfl (W.region (Oa (Nl (⟨_,_,C101,rfl,(congrArg (Value.int _) (by unfold lA;(repeat' split) <;> omega)),(congrArg (Value.int _) (by unfold lB;(repeat' split) <;> omega)),h9,o103,o104⟩))))))
  refine Oa (Nl (J28 rfl (W.skip (⟨_,_,C101,rfl,(congrArg (Value.int _) (by unfold lA;(repeat' split) <;> omega)),(congrArg (Value.int _) (by unfold lB;(repeat' split) <;> omega)),h9,o103,o104⟩))))
 rintro f112 w113 ⟨x114,y115,C116,e117,e118,e119,h9,o120,o121⟩;obtain⟨f122,rfl⟩:=rebK (aC e117 (aC e118 (aC e119 aN)));clear e117 e118 e119;refine Rh (Ol (St.fieldAddr K0 rfl (Ol (J27 o120 pl23 rfl rfl (Ol (St.len sl23 rfl (Om (Nl (W.block (J3j (fun μ f v=>∃ (x y:Nat→Prop) (i:Nat),Cx X w x y v∧f 5=(.int .i64 (lA a.op))∧f 6=(.int .i64 (lB a.op))∧f 100=(.slice a1 a.n.length c2)∧f 101=(.int .i64 ((a.n.length:Nat):Int))∧f 102=(.int .i64 ((i:Nat):Int))∧ExprParts x v a a1 c2 a3 c4 a5 c6 a7 c8∧Own w y v g10 (ec a a1 c2 a3 c4 a5 c6 a7 c8) 31∧Own w y v g27 [(.int .i64 (sA a.op)),(.int .i64 (sB a.op)),(.int .i64 (sC a.op))] 125∧i≤a.n.length∧(∀ j,j < i→lA a.op≤a.n.getD j 0∧a.n.getD j 0≤lB a.op)∧μ=(a.n.length - i)) _ ⟨_,_,0,C116,rfl,rfl,rfl,rfl,rfl,h9,o120,o121,(Nat.zero_le _),(fun _ h=>absurd h (Nat.not_lt_zero _)),rfl⟩ ?_))))))))));rintro m136 f123 w124 ⟨x125,y126,i,C127,e128,e129,e130,e131,e132,h9,o133,o134,hi,hall,hmu135⟩;obtain⟨f137,rfl⟩:=rebK (aC e128 (aC e129 (aC e130 (aC e131 (aC e132 aN)))));clear e128 e129 e130 e131 e132;refine Rg (Ol (J3i rfl rfl (fun hc138=>?_) (fun hc138=>?_)))
 ·refine Nl (W.seq (J26 rfl (W.skip (W.seq (W.block (Rg (Ol (J3k (j:=i) (u:=(a.n.getD i 0)) h9.n sl23 io3 rfl rfl rfl (Jg (by omega)) ?_))))))));intro b139 o140 cs141 e142;obtain⟨rfl,bd143⟩:cs141=_∧_:=e142.rd;refine Ol (J3e pl3 rfl (e142.cell 0 _ rfl) (Oa (Nl (Rg (Om (Om (Ol (J3i rfl rfl (fun hc144=>?_) (fun hc144=>?_)))))))))
  ·exact Om (Oz (Oz (Oz (OT (Nl (J26 rfl (Rg (Oa (Nl (W.ret (Wq rfl rfl C127 (congrArg (Value.int _) (Jfu hcn hnm (i:=i) (by omega) (by omega))))))))))))))
  refine Om (Og rfl rfl (St.move (Og rfl rfl (St.move (Og rfl rfl (J3u rfl rfl (fun hc145=>?_) (fun hc145=>?_)))))))
  ·exact OF (Nl (J26 rfl (Rg (Oa (Nl (W.ret (Wq rfl rfl C127 (congrArg (Value.int _) (Jfu hcn hnm (i:=i) (by omega) (by omega))))))))))
  refine OF (Nl (J28 rfl (W.skip (W.region (Ol (St.add rfl rfl (Jc (a:=i) (b:=1) (by omega)) (Om (Nl (⟨_,(by omega),_,_,(i+1),C127,rfl,rfl,rfl,rfl,rfl,h9,o133,o134,(by omega),(Kx hall ⟨by omega,by omega⟩),rfl⟩)))))))))
 exact Nl (W.seq (J28 rfl (W.exit (Rg (Oa (Nl (W.ret (Wq rfl rfl C127 (congrArg (Value.int _) (Jzk hcn hnm (i:=i) (by omega) hall))))))))))
theorem Jl7(N:Nat):∀ {X:Nat→Prop} {w:World} (hX:XB X w) {v0:Value} {a:GExpr} (r0:RV Jf X w v0 a) (h60:cntE a≤60) (hok:okE a) (hN:(SizeOf.sizeOf a) < N),Calls Tryz.prog 50 #[v0] w (Ret w fun v w'=>v=(.int .i64 (errE a))):=by
 induction N with
 | zero=>intro X w hX v0 a r0 h60 hok hN;exact absurd hN (Nat.not_lt_zero _)
 | succ N ih=>
  intro X w hX v0 a r0 h60 hok hN;obtain⟨a1,c2,a3,c4,a5,c6,a7,c8,rfl,h9⟩:=J3f r0;have C:=Cx.start hX;have hal:=r0.args_max;have hce:=Yb a;have hac:=K6 a;refine Cgo (args:=[(ea a a1 c2 a3 c4 a5 c6 a7 c8)]) Tryz.func50 rfl rfl rfl (Rg (Ol (J3g C rfl ?_)));intro g10 w11 x12 y13 lt14 C15 s16 o17;replace h9:=h9.sp s16;refine Oa (Nl (Rh (Ol (J29 (vs:=(ec a a1 c2 a3 c4 a5 c6 a7 c8)) o17 ag31 rfl rfl rfl (Ol (J25 C15 cb80 rfl rfl (Jyy C15.bd (Jh a h9.lo h9.hi h9.name h9.n h9.num h9.den h9.args) (by omega) hok) ?_))))));intro v18 w19 C20 s21 h22;replace h9:=h9.sp s21;replace o17:=o17.spn s21;subst h22;refine Oa (Nl (Rg (Om (Ol (J3q rfl rfl (fun hc23=>?_) (fun hc23=>?_))))))
  ·exact Nl (J26 rfl (Rg (Om (Oa (Nl (W.ret (Wq rfl rfl C20 (congrArg (Value.int _) (Kr rfl hc23)))))))))
  refine Nl (J28 rfl (W.skip (Rh (Ol (St.fieldAddr J3 rfl (Ol (J27 o17 pl29 rfl rfl (Ol (St.len sl29 rfl (Om (Nl (W.block (J3j (fun μ f v=>∃ (x y:Nat→Prop) (i:Nat),Cx X w x y v∧f 13=(.slice a7 a.args.length c8)∧f 14=(.int .i64 ((a.args.length:Nat):Int))∧f 15=(.int .i64 ((i:Nat):Int))∧ExprParts x v a a1 c2 a3 c4 a5 c6 a7 c8∧Own w y v g10 (ec a a1 c2 a3 c4 a5 c6 a7 c8) 31∧i≤a.args.length∧errL (a.args.drop i)=errL a.args∧μ=(a.args.length - i)) _ ⟨_,_,0,C20,rfl,rfl,rfl,h9,o17,(Nat.zero_le _),rfl,rfl⟩ ?_)))))))))))));rintro m34 f24 w25 ⟨x26,y27,i,C28,e29,e30,e31,h9,o32,hi,hv,hmu33⟩;obtain⟨f35,rfl⟩:=rebK (aC e29 (aC e30 (aC e31 aN)));clear e29 e30 e31;refine Rg (Ol (J3i rfl rfl (fun hc36=>?_) (fun hc36=>?_)))
  ·refine Nl (W.seq (J26 rfl (W.skip (W.seq (W.block (Rg (Ol (J3k (j:=i) (u:=(a.args.getD i default)) h9.args sl29 io31 rfl rfl rfl (Jg (by omega)) ?_))))))));intro b37 o38 cs39 e40;obtain⟨a41,c42,a43,c44,a45,c46,a47,c48,rfl,h49⟩:=Jq e40.rd;refine Ol (J3v (cs:=(ec (a.args.getD i default) a41 c42 a43 c44 a45 c46 a47 c48)) ag31 rfl rfl e40.cell (Ol (J3b C28 io31 rfl ?_)));intro g50 w51 x52 y53 lt54 C55 s56 o57;have n58:=lt54 _ o32.blk.lt;replace h9:=h9.sp s56;replace o32:=o32.spn s56;refine On (J3a (cs':=(ec (a.args.getD i default) a41 c42 a43 c44 a45 c46 a47 c48)) C55 o57 io31 rfl rfl rfl rfl rfl rfl ?_);intro w59 C60 s61 o62;replace h49:=(h49.sp s56).sp s61;refine Nl (Rg (Ol (J29 (vs:=(ec (a.args.getD i default) a41 c42 a43 c44 a45 c46 a47 c48)) o62 ag31 rfl rfl rfl (Ol (J25 C60 cb50 rfl rfl (ih C60.bd (Jh (a.args.getD i default) h49.lo h49.hi h49.name h49.n h49.num h49.den h49.args) (by have h7:=zo (l:=a.args) (i:=i) (by omega);omega) (Jql hok (by omega)) (Nat.lt_of_lt_of_le (Kn (by omega)) (Nat.le_of_lt_succ hN))) ?_)))));intro v63 w64 C65 s66 h67;replace h9:=(h9.sp s61).sp s66;replace o32:=(o32.spo s61 n58).spn s66;subst h67;refine Oa (Nl (Rg (Om (Ol (J3q rfl rfl (fun hc68=>?_) (fun hc68=>?_))))))
   ·exact Nl (J26 rfl (Rg (Om (Oa (Nl (W.ret (Wq rfl rfl C65 (congrArg (Value.int _) (Jip hc23 (by omega) hv hc68)))))))))
   refine Nl (J28 rfl (W.skip (W.region (Ol (St.add rfl rfl (Jc (a:=i) (b:=1) (by omega)) (Om (Nl (⟨_,(by omega),_,_,(i+1),C65,rfl,rfl,rfl,h9,o32,(by omega),(Jme (by omega) hv hc68),rfl⟩))))))))
  exact Nl (W.seq (J28 rfl (W.exit (Rg (Oa (Nl (W.ret (Wq rfl rfl C28 (congrArg (Value.int _) (Jqh hc23 (by omega) hv))))))))))
theorem Jrs{X:Nat→Prop}{w:World}(hX:XB X w){v0:Value}{a:GExpr}(r0:RV Jf X w v0 a)(h60:cntE a≤60)(hok:okE a):Calls Tryz.prog 50 #[v0] w (Ret w fun v w'=>v=(.int .i64 (errE a))):=Jl7 ((SizeOf.sizeOf a)+1) hX r0 h60 hok (Nat.lt_succ_self _)
theorem Jeu{X:Nat→Prop}{w:World}(hX:XB X w){v0:Value}{a:GExpr}(r0:RV Jf X w v0 a)(hok:okE a):Calls Tryz.prog 20 #[v0] w (Ret w fun v w'=>v=(.int .i64 (Zk a))):=by
 obtain⟨a1,c2,a3,c4,a5,c6,a7,c8,rfl,h9⟩:=J3f r0;have C:=Cx.start hX;refine Cgo (args:=[(ea a a1 c2 a3 c4 a5 c6 a7 c8)]) Tryz.func20 rfl rfl rfl (Rg (Ol (J3g C rfl ?_)));intro g10 w11 x12 y13 lt14 C15 s16 o17;replace h9:=h9.sp s16;refine Oa (Nl (Rh (Ol (J29 (vs:=(ec a a1 c2 a3 c4 a5 c6 a7 c8)) o17 ag31 rfl rfl rfl (Ol (St.bool (J25 C15 cb49 rfl rfl (Jiz C15.bd (Jh a h9.lo h9.hi h9.name h9.n h9.num h9.den h9.args)) ?_)))))));intro v18 w19 C20 s21 h22;replace h9:=h9.sp s21;replace o17:=o17.spn s21;refine⟨_,h22,fun hb23=>?_,fun hb23=>?_⟩
 ·refine Ol (St.not rfl (Nl (J28 rfl (W.skip (Rg (Ol (J29 (vs:=(ec a a1 c2 a3 c4 a5 c6 a7 c8)) o17 ag31 rfl rfl rfl (Ol (J25 C20 cb50 rfl rfl (Jrs C20.bd (Jh a h9.lo h9.hi h9.name h9.n h9.num h9.den h9.args) (of_decide_eq_true hb23).1 hok) ?_)))))))));intro v24 w25 C26 s27 h28;subst h28;exact Oa (Nl (W.ret (Wq rfl rfl C26 (congrArg (Value.int _) (Ji6 (of_decide_eq_true hb23))))))
 exact Ol (St.not rfl (Nl (J26 rfl (Rg (Oa (Nl (W.ret (Wq rfl rfl C20 (congrArg (Value.int _) (kq (of_decide_eq_false hb23)))))))))))
theorem Jnl{X:Nat→Prop}{w:World}(hX:XB X w){n:Int}(h1:1≤n)(h2:n≤18):Calls Tryz.prog 81 #[(.int .i64 n)] w (Ret w fun v w'=>∃ v0 v1 v2 v3,v= .tuple #[v0,v1,v2,v3]∧(v0=(.int .i64 (cA n)))∧(v1=(.int .i64 (cB n)))∧(v2=(.int .i64 (cC n)))∧(v3=(.int .i64 (cD n)))):=by
 have C:=Cx.start hX;refine Cgo (args:=[(.int .i64 n)]) Tryz.func81 rfl rfl rfl (Rg (Oa (Oa (Oa (Oa (Nl (Rh (Om (Nl (W.block (Rh (Ol (J3h rfl rfl (fun hc1=>?_) (fun hc1=>?_))))))))))))))
 ·refine Oa (Nl (J26 rfl (W.skip (J26 rfl (Rg (Oa (Oa (Oa (Oa (Nl (W.ret (Qg rfl (resV.t rfl) (resV.t rfl) (resV.t rfl) (resV.t rfl) (Ret.intro ?_ C.below)))))))))))));refine⟨_,_,_,_,rfl,?_,?_,?_,?_⟩
  ·skip
   exact congrArg (Value.int _) ((by rw [hc1];rfl))
  ·skip
   exact congrArg (Value.int _) ((by rw [hc1];rfl))
  ·skip
   exact congrArg (Value.int _) ((by rw [hc1];rfl))
  ·skip
   exact congrArg (Value.int _) ((by rw [hc1];rfl))
 refine Oa (Nl (J28 rfl (Rg (Ol (J3h rfl rfl (fun hc2=>?_) (fun hc2=>?_))))))
 ·refine Oa (Nl (J26 rfl (W.skip (J26 rfl (Rg (Oa (Oa (Oa (Oa (Nl (W.ret (Qg rfl (resV.t rfl) (resV.t rfl) (resV.t rfl) (resV.t rfl) (Ret.intro ?_ C.below)))))))))))));refine⟨_,_,_,_,rfl,?_,?_,?_,?_⟩
  ·skip
   exact congrArg (Value.int _) ((by rw [hc2];rfl))
  ·skip
   exact congrArg (Value.int _) ((by rw [hc2];rfl))
  ·skip
   exact congrArg (Value.int _) ((by rw [hc2];rfl))
  ·skip
   exact congrArg (Value.int _) ((by rw [hc2];rfl))
 refine Oa (Nl (J28 rfl (Rg (Ol (J3h rfl rfl (fun hc3=>?_) (fun hc3=>?_))))))
 ·refine Oa (Nl (J26 rfl (W.skip (J26 rfl (Rg (Oa (Oa (Oa (Oa (Nl (W.ret (Qg rfl (resV.t rfl) (resV.t rfl) (resV.t rfl) (resV.t rfl) (Ret.intro ?_ C.below)))))))))))));refine⟨_,_,_,_,rfl,?_,?_,?_,?_⟩
  ·skip
   exact congrArg (Value.int _) ((by rw [hc3];rfl))
  ·skip
   exact congrArg (Value.int _) ((by rw [hc3];rfl))
  ·skip
   exact congrArg (Value.int _) ((by rw [hc3];rfl))
  ·skip
   exact congrArg (Value.int _) ((by rw [hc3];rfl))
 refine Oa (Nl (J28 rfl (W.region (Ol (J3h rfl rfl (fun hc4=>?_) (fun hc4=>?_))))))
 ·refine Oa (Nl (J26 rfl (Rg (Oa (Oa (Oa (Oa (Nl (W.ret (Qg rfl (resV.t rfl) (resV.t rfl) (resV.t rfl) (resV.t rfl) (Ret.intro ?_ C.below)))))))))));refine⟨_,_,_,_,rfl,?_,?_,?_,?_⟩
  ·skip
   exact congrArg (Value.int _) ((by rw [hc4];rfl))
  ·skip
   exact congrArg (Value.int _) ((by rw [hc4];rfl))
  ·skip
   exact congrArg (Value.int _) ((by rw [hc4];rfl))
  ·skip
   exact congrArg (Value.int _) ((by rw [hc4];rfl))
 refine Oa (Nl (J28 rfl (Rg (Ol (J3h rfl rfl (fun hc5=>?_) (fun hc5=>?_))))))
 ·refine Oa (Nl (J26 rfl (Rg (Oa (Oa (Oa (Oa (Nl (W.ret (Qg rfl (resV.t rfl) (resV.t rfl) (resV.t rfl) (resV.t rfl) (Ret.intro ?_ C.below)))))))))));refine⟨_,_,_,_,rfl,?_,?_,?_,?_⟩
  ·skip
   exact congrArg (Value.int _) ((by rw [hc5];rfl))
  ·skip
   exact congrArg (Value.int _) ((by rw [hc5];rfl))
  ·skip
   exact congrArg (Value.int _) ((by rw [hc5];rfl))
  ·skip
   exact congrArg (Value.int _) ((by rw [hc5];rfl))
 refine Oa (Nl (J28 rfl (Rh (Ol (J3h rfl rfl (fun hc6=>?_) (fun hc6=>?_))))))
 ·refine Oa (Nl (J26 rfl (W.skip (J26 rfl (Rg (Oa (Oa (Oa (Oa (Nl (W.ret (Qg rfl (resV.t rfl) (resV.t rfl) (resV.t rfl) (resV.t rfl) (Ret.intro ?_ C.below)))))))))))));refine⟨_,_,_,_,rfl,?_,?_,?_,?_⟩
  ·skip
   exact congrArg (Value.int _) ((by rw [hc6];rfl))
  ·skip
   exact congrArg (Value.int _) ((by rw [hc6];rfl))
  ·skip
   exact congrArg (Value.int _) ((by rw [hc6];rfl))
  ·skip
   exact congrArg (Value.int _) ((by rw [hc6];rfl))
 refine Oa (Nl (J28 rfl (W.region (Ol (J3h rfl rfl (fun hc7=>?_) (fun hc7=>?_))))))
 ·refine Oa (Nl (J26 rfl (Rg (Oa (Oa (Oa (Oa (Nl (W.ret (Qg rfl (resV.t rfl) (resV.t rfl) (resV.t rfl) (resV.t rfl) (Ret.intro ?_ C.below)))))))))));refine⟨_,_,_,_,rfl,?_,?_,?_,?_⟩
  ·skip
   exact congrArg (Value.int _) ((by rw [hc7];rfl))
  ·skip
   exact congrArg (Value.int _) ((by rw [hc7];rfl))
  ·skip
   exact congrArg (Value.int _) ((by rw [hc7];rfl))
  ·skip
   exact congrArg (Value.int _) ((by rw [hc7];rfl))
 refine Oa (Nl (J28 rfl (Rg (Ol (J3h rfl rfl (fun hc8=>?_) (fun hc8=>?_))))))
 ·refine Oa (Nl (J26 rfl (Rg (Oa (Oa (Oa (Oa (Nl (W.ret (Qg rfl (resV.t rfl) (resV.t rfl) (resV.t rfl) (resV.t rfl) (Ret.intro ?_ C.below)))))))))));refine⟨_,_,_,_,rfl,?_,?_,?_,?_⟩
  ·skip
   exact congrArg (Value.int _) ((by rw [hc8];rfl))
  ·skip
   exact congrArg (Value.int _) ((by rw [hc8];rfl))
  ·skip
   exact congrArg (Value.int _) ((by rw [hc8];rfl))
  ·skip
   exact congrArg (Value.int _) ((by rw [hc8];rfl))
 refine Oa (Nl (J28 rfl (Rg (Ol (J3h rfl rfl (fun hc9=>?_) (fun hc9=>?_))))))
 ·refine Oa (Nl (J26 rfl (Rg (Oa (Oa (Oa (Oa (Nl (W.ret (Qg rfl (resV.t rfl) (resV.t rfl) (resV.t rfl) (resV.t rfl) (Ret.intro ?_ C.below)))))))))));refine⟨_,_,_,_,rfl,?_,?_,?_,?_⟩
  ·skip
   exact congrArg (Value.int _) ((by rw [hc9];rfl))
  ·skip
   exact congrArg (Value.int _) ((by rw [hc9];rfl))
  ·skip
   exact congrArg (Value.int _) ((by rw [hc9];rfl))
  ·skip
   exact congrArg (Value.int _) ((by rw [hc9];rfl))
 refine Oa (Nl (J28 rfl (Rh (Ol (J3h rfl rfl (fun hc10=>?_) (fun hc10=>?_))))))
 ·refine Oa (Nl (J26 rfl (W.skip (J26 rfl (Rg (Oa (Oa (Oa (Oa (Nl (W.ret (Qg rfl (resV.t rfl) (resV.t rfl) (resV.t rfl) (resV.t rfl) (Ret.intro ?_ C.below)))))))))))));refine⟨_,_,_,_,rfl,?_,?_,?_,?_⟩
  ·skip
   exact congrArg (Value.int _) ((by rw [hc10];rfl))
  ·skip
   exact congrArg (Value.int _) ((by rw [hc10];rfl))
  ·skip
   exact congrArg (Value.int _) ((by rw [hc10];rfl))
  ·skip
   exact congrArg (Value.int _) ((by rw [hc10];rfl))
 refine Oa (Nl (J28 rfl (W.region (Ol (J3h rfl rfl (fun hc11=>?_) (fun hc11=>?_))))))
 ·refine Oa (Nl (J26 rfl (Rg (Oa (Oa (Oa (Oa (Nl (W.ret (Qg rfl (resV.t rfl) (resV.t rfl) (resV.t rfl) (resV.t rfl) (Ret.intro ?_ C.below)))))))))));refine⟨_,_,_,_,rfl,?_,?_,?_,?_⟩
  ·skip
   exact congrArg (Value.int _) ((by rw [hc11];rfl))
  ·skip
   exact congrArg (Value.int _) ((by rw [hc11];rfl))
  ·skip
   exact congrArg (Value.int _) ((by rw [hc11];rfl))
  ·skip
   exact congrArg (Value.int _) ((by rw [hc11];rfl))
 refine Oa (Nl (J28 rfl (Rh (Ol (J3h rfl rfl (fun hc12=>?_) (fun hc12=>?_))))))
 ·refine Oa (Nl (J26 rfl (W.skip (J26 rfl (Rg (Oa (Oa (Oa (Oa (Nl (W.ret (Qg rfl (resV.t rfl) (resV.t rfl) (resV.t rfl) (resV.t rfl) (Ret.intro ?_ C.below)))))))))))));refine⟨_,_,_,_,rfl,?_,?_,?_,?_⟩
  ·skip
   exact congrArg (Value.int _) ((by rw [hc12];rfl))
  ·skip
   exact congrArg (Value.int _) ((by rw [hc12];rfl))
  ·skip
   exact congrArg (Value.int _) ((by rw [hc12];rfl))
  ·skip
   exact congrArg (Value.int _) ((by rw [hc12];rfl))
 refine Oa (Nl (J28 rfl (Rg (Ol (J3h rfl rfl (fun hc13=>?_) (fun hc13=>?_))))))
 ·refine Oa (Nl (J26 rfl (W.skip (J26 rfl (Rg (Oa (Oa (Oa (Oa (Nl (W.ret (Qg rfl (resV.t rfl) (resV.t rfl) (resV.t rfl) (resV.t rfl) (Ret.intro ?_ C.below)))))))))))));refine⟨_,_,_,_,rfl,?_,?_,?_,?_⟩
  ·skip
   exact congrArg (Value.int _) ((by rw [hc13];rfl))
  ·skip
   exact congrArg (Value.int _) ((by rw [hc13];rfl))
  ·skip
   exact congrArg (Value.int _) ((by rw [hc13];rfl))
  ·skip
   exact congrArg (Value.int _) ((by rw [hc13];rfl))
 refine Oa (Nl (J28 rfl (Rg (Ol (J3h rfl rfl (fun hc14=>?_) (fun hc14=>?_))))))
 ·refine Oa (Nl (J26 rfl (W.skip (J26 rfl (Rg (Oa (Oa (Oa (Oa (Nl (W.ret (Qg rfl (resV.t rfl) (resV.t rfl) (resV.t rfl) (resV.t rfl) (Ret.intro ?_ C.below)))))))))))));refine⟨_,_,_,_,rfl,?_,?_,?_,?_⟩
  ·skip
   exact congrArg (Value.int _) ((by rw [hc14];rfl))
  ·skip
   exact congrArg (Value.int _) ((by rw [hc14];rfl))
  ·skip
   exact congrArg (Value.int _) ((by rw [hc14];rfl))
  ·skip
   exact congrArg (Value.int _) ((by rw [hc14];rfl))
 refine Oa (Nl (J28 rfl (Rg (Ol (J3h rfl rfl (fun hc15=>?_) (fun hc15=>?_))))))
 ·refine Oa (Nl (J26 rfl (W.skip (J26 rfl (Rg (Oa (Oa (Oa (Oa (Nl (W.ret (Qg rfl (resV.t rfl) (resV.t rfl) (resV.t rfl) (resV.t rfl) (Ret.intro ?_ C.below)))))))))))));refine⟨_,_,_,_,rfl,?_,?_,?_,?_⟩
  ·skip
   exact congrArg (Value.int _) ((by rw [hc15];rfl))
  ·skip
   exact congrArg (Value.int _) ((by rw [hc15];rfl))
  ·skip
   exact congrArg (Value.int _) ((by rw [hc15];rfl))
  ·skip
   exact congrArg (Value.int _) ((by rw [hc15];rfl))
 refine Oa (Nl (J28 rfl (W.region (Ol (J3h rfl rfl (fun hc16=>?_) (fun hc16=>?_))))))
 ·refine Oa (Nl (J26 rfl (Rg (Oa (Oa (Oa (Oa (Nl (W.ret (Qg rfl (resV.t rfl) (resV.t rfl) (resV.t rfl) (resV.t rfl) (Ret.intro ?_ C.below)))))))))));refine⟨_,_,_,_,rfl,?_,?_,?_,?_⟩
  ·skip
   exact congrArg (Value.int _) ((by rw [hc16];rfl))
  ·skip
   exact congrArg (Value.int _) ((by rw [hc16];rfl))
  ·skip
   exact congrArg (Value.int _) ((by rw [hc16];rfl))
  ·skip
   exact congrArg (Value.int _) ((by rw [hc16];rfl))
 refine Oa (Nl (J28 rfl (Rg (Ol (J3h rfl rfl (fun hc17=>?_) (fun hc17=>?_))))))
 ·refine Oa (Nl (J26 rfl (Rg (Oa (Oa (Oa (Oa (Nl (W.ret (Qg rfl (resV.t rfl) (resV.t rfl) (resV.t rfl) (resV.t rfl) (Ret.intro ?_ C.below)))))))))));refine⟨_,_,_,_,rfl,?_,?_,?_,?_⟩
  ·skip
   exact congrArg (Value.int _) ((by unfold cA;(repeat' split) <;> omega))
  ·skip
   exact congrArg (Value.int _) ((by unfold cB;(repeat' split) <;> omega))
  ·skip
   exact congrArg (Value.int _) ((by unfold cC;(repeat' split) <;> omega))
  ·skip
   exact congrArg (Value.int _) ((by unfold cD;(repeat' split) <;> omega))
 refine Oa (Nl (J28 rfl (W.skip (Rg (Oa (Oa (Oa (Oa (Nl (W.ret (Qg rfl (resV.t rfl) (resV.t rfl) (resV.t rfl) (resV.t rfl) (Ret.intro ?_ C.below))))))))))));refine⟨_,_,_,_,rfl,?_,?_,?_,?_⟩
 ·skip
  exact congrArg (Value.int _) ((by unfold cA;(repeat' split) <;> omega))
 ·skip
  exact congrArg (Value.int _) ((by unfold cB;(repeat' split) <;> omega))
 ·skip
  exact congrArg (Value.int _) ((by unfold cC;(repeat' split) <;> omega))
 ·skip
  exact congrArg (Value.int _) ((by unfold cD;(repeat' split) <;> omega))
theorem Jo6{X:Nat→Prop}{w:World}(hX:XB X w){n:Int}  :Calls Tryz.prog 83 #[(.int .i64 n)] w (Ret w fun v w'=>∃ v0 v1,v= .tuple #[v0,v1]∧(v0=(.int .i64 (lA n)))∧(v1=(.int .i64 (lB n)))):=by
 have C:=Cx.start hX;refine Cgo (args:=[(.int .i64 n)]) Tryz.func83 rfl rfl rfl (Rg (Oa (Oa (Nl (Rh (Om (Nl (W.block (Rg (Ol (J3h rfl rfl (fun hc1=>?_) (fun hc1=>?_))))))))))))
 ·refine Oa (Nl (J26 rfl (Rg (Oa (Oa (Nl (W.ret (Zh rfl (resV.t rfl) (resV.t rfl) (Ret.intro ?_ C.below)))))))));refine⟨_,_,rfl,?_,?_⟩
  ·skip
   exact congrArg (Value.int _) ((by rw [hc1];rfl))
  ·skip
   exact congrArg (Value.int _) ((by rw [hc1];rfl))
 refine Oa (Nl (J28 rfl (Rh (Ol (J3h rfl rfl (fun hc2=>?_) (fun hc2=>?_))))))
 ·refine Oa (Nl (J26 rfl (W.skip (J26 rfl (Rg (Oa (Oa (Nl (W.ret (Zh rfl (resV.t rfl) (resV.t rfl) (Ret.intro ?_ C.below)))))))))));refine⟨_,_,rfl,?_,?_⟩
  ·skip
   exact congrArg (Value.int _) ((by rw [hc2];rfl))
  ·skip
   exact congrArg (Value.int _) ((by rw [hc2];rfl))
 refine Oa (Nl (J28 rfl (Rg (Ol (J3h rfl rfl (fun hc3=>?_) (fun hc3=>?_))))))
 ·refine Oa (Nl (J26 rfl (W.skip (J26 rfl (Rg (Oa (Oa (Nl (W.ret (Zh rfl (resV.t rfl) (resV.t rfl) (Ret.intro ?_ C.below)))))))))));refine⟨_,_,rfl,?_,?_⟩
  ·skip
   exact congrArg (Value.int _) ((by rw [hc3];rfl))
  ·skip
   exact congrArg (Value.int _) ((by rw [hc3];rfl))
 refine Oa (Nl (J28 rfl (W.region (Ol (J3h rfl rfl (fun hc4=>?_) (fun hc4=>?_))))))
 ·refine Oa (Nl (J26 rfl (Rg (Oa (Oa (Nl (W.ret (Zh rfl (resV.t rfl) (resV.t rfl) (Ret.intro ?_ C.below)))))))));refine⟨_,_,rfl,?_,?_⟩
  ·skip
   exact congrArg (Value.int _) ((by rw [hc4];rfl))
  ·skip
   exact congrArg (Value.int _) ((by rw [hc4];rfl))
 refine Oa (Nl (J28 rfl (Rg (Ol (J3h rfl rfl (fun hc5=>?_) (fun hc5=>?_))))))
 ·refine Oa (Nl (J26 rfl (Rg (Oa (Oa (Nl (W.ret (Zh rfl (resV.t rfl) (resV.t rfl) (Ret.intro ?_ C.below)))))))));refine⟨_,_,rfl,?_,?_⟩
  ·skip
   exact congrArg (Value.int _) ((by rw [hc5];rfl))
  ·skip
   exact congrArg (Value.int _) ((by rw [hc5];rfl))
 refine Oa (Nl (J28 rfl (Rg (Ol (J3h rfl rfl (fun hc6=>?_) (fun hc6=>?_))))))
 ·refine Oa (Nl (J26 rfl (Rg (Oa (Oa (Nl (W.ret (Zh rfl (resV.t rfl) (resV.t rfl) (Ret.intro ?_ C.below)))))))));refine⟨_,_,rfl,?_,?_⟩
  ·skip
   exact congrArg (Value.int _) ((by unfold lA;(repeat' split) <;> omega))
  ·skip
   exact congrArg (Value.int _) ((by unfold lB;(repeat' split) <;> omega))
 refine Oa (Nl (J28 rfl (W.skip (Rg (Oa (Oa (Nl (W.ret (Zh rfl (resV.t rfl) (resV.t rfl) (Ret.intro ?_ C.below))))))))));refine⟨_,_,rfl,?_,?_⟩
 ·skip
  exact congrArg (Value.int _) ((by unfold lA;(repeat' split) <;> omega))
 ·skip
  exact congrArg (Value.int _) ((by unfold lB;(repeat' split) <;> omega))
theorem Jn6(N:Nat):∀ {X:Nat→Prop} {w:World} (hX:XB X w) {v0:Value} {a:GExpr} (r0:RV Jf X w v0 a) (h60:cntE a≤60) (hok:okE a) (hN:(SizeOf.sizeOf a) < N),Calls Tryz.prog 53 #[v0] w (Ret w fun v w'=>v=(.int .i64 (errE a))):=by
 induction N with
 | zero=>intro X w hX v0 a r0 h60 hok hN;exact absurd hN (Nat.not_lt_zero _)
 | succ N ih=>
  intro X w hX v0 a r0 h60 hok hN;obtain⟨a1,c2,a3,c4,a5,c6,a7,c8,rfl,h9⟩:=J3f r0;have C:=Cx.start hX;have hal:=r0.args_max;obtain⟨ok1,ok2,ok3,ok4⟩:=(xp a).mp hok;have hce:=Yb a;have hac:=K6 a;have hnl:=r0.n_max;refine Cgo (args:=[(ea a a1 c2 a3 c4 a5 c6 a7 c8)]) Tryz.func53 rfl rfl rfl (Rg (Ol (J3g C rfl ?_)));intro g10 w11 x12 y13 lt14 C15 s16 o17;replace h9:=h9.sp s16;refine Oa (Nl (W.seq (J4d (fun f v=>∃ (x y:Nat→Prop),Cx X w x y v∧f 1=(.pointer (some ⟨g10,0,none⟩))∧ExprParts x v a a1 c2 a3 c4 a5 c6 a7 c8∧Own w y v g10 (ec a a1 c2 a3 c4 a5 c6 a7 c8) 31∧1≤a.op∧a.op≤18) ?_ ?_)))
  ·refine Rg (Ol (St.fieldAddr Zz rfl (Ol (J27 o17 pl3 rfl rfl (Ol (J3i rfl rfl (fun hc18=>?_) (fun hc18=>?_)))))))
   ·exact Om (Oz (Oz (Oz (OT (Nl (J26 rfl (Rg (Oa (Nl (W.ret (Wq rfl rfl C15 (congrArg (Value.int _) (Kr (Qf fun c=>by have:=c.o1;have:=c.o2;omega) (by decide))))))))))))))
   refine Om (Og rfl rfl (St.fieldAddr Zz rfl (Og rfl rfl (J27 o17 pl3 rfl rfl (Og rfl rfl (J3u rfl rfl (fun hc19=>?_) (fun hc19=>?_)))))))
   ·exact OF (Nl (J26 rfl (Rg (Oa (Nl (W.ret (Wq rfl rfl C15 (congrArg (Value.int _) (Kr (Qf fun c=>by have:=c.o1;have:=c.o2;omega) (by decide))))))))))
   refine OF (Nl (J28 rfl (W.skip (⟨_,_,C15,rfl,h9,o17,(by omega),(by omega)⟩))))
  rintro f20 w21 ⟨x22,y23,C24,e25,h9,o26,ho1,ho2⟩;obtain⟨f27,rfl⟩:=rebK (aC e25 aN);clear e25;refine Rg (Ol (St.fieldAddr Zz rfl (Ol (J27 o26 pl3 rfl rfl (Ol (J25 C24 cb81 rfl rfl (Jnl C24.bd ho1 ho2) ?_))))));intro v28 w29 C30 s31 h32;replace h9:=h9.sp s31;replace o26:=o26.spn s31;obtain⟨v33,v34,v35,v36,rfl,rfl,rfl,rfl,rfl⟩:=h32;refine Om (Ol (St.extract rfl rfl (Ol (St.extract rfl rfl (Ol (St.extract rfl rfl (Ol (St.extract rfl rfl (Oa (Oa (Oa (Oa (Nl (W.seq (J4d (fun f v=>∃ (x y:Nat→Prop),Cx X w x y v∧f 1=(.pointer (some ⟨g10,0,none⟩))∧ExprParts x v a a1 c2 a3 c4 a5 c6 a7 c8∧Own w y v g10 (ec a a1 c2 a3 c4 a5 c6 a7 c8) 31∧cntOk a) ?_ ?_)))))))))))))))
  ·refine Rg (Ol (St.fieldAddr K0 rfl (Ol (J27 o26 pl23 rfl rfl (Ol (St.len sl23 rfl (Om (Ol (J3i rfl rfl (fun hc41=>?_) (fun hc41=>?_))))))))))
   ·refine Om (Oz (Oz (Oz (Oz (Oz (OT (Om (Oz (Oz (Oz (Oz (Oz (OT (Om (Oz (Oz (Oz (Oz (Ox rfl rfl rfl ?_)))))))))))))))))));exact OT (Nl (J26 rfl (Rg (Oa (Nl (W.ret (Wq rfl rfl C30 (congrArg (Value.int _) (Kr (Qf fun c=>by have:=c.n1;have:=c.n2;have:=c.a1;have:=c.a2;omega) (by decide))))))))))
   refine Om (Og rfl rfl (St.fieldAddr K0 rfl (Og rfl rfl (J27 o26 pl23 rfl rfl (Og rfl rfl (St.len sl23 rfl (Og rfl rfl (St.move (Og rfl rfl (J3u rfl rfl (fun hc42=>?_) (fun hc42=>?_)))))))))))
   ·refine OF (Om (Oz (Oz (Oz (Oz (Oz (OT (Om (Oz (Oz (Oz (Oz (Oz (OT (Nl (J26 rfl (Rg (Oa (Nl ?_)))))))))))))))))));exact W.ret (Wq rfl rfl C30 (congrArg (Value.int _) (Kr (Qf fun c=>by have:=c.n1;have:=c.n2;have:=c.a1;have:=c.a2;omega) (by decide))))
   refine OF (Om (Og rfl rfl (St.fieldAddr J3 rfl (Og rfl rfl (J27 o26 pl29 rfl rfl (Og rfl rfl (St.len sl29 rfl (Og rfl rfl (St.move (Og rfl rfl (J3i rfl rfl (fun hc43=>?_) (fun hc43=>?_))))))))))))
   ·exact OF (Om (Oz (Oz (Oz (Oz (Oz (OT (Nl (J26 rfl (Rg (Oa (Nl (W.ret (Wq rfl rfl C30 (congrArg (Value.int _) (Kr (Qf fun c=>by have:=c.n1;have:=c.n2;have:=c.a1;have:=c.a2;omega) (by decide)))))))))))))))))
   refine OF (Om (Og rfl rfl (St.fieldAddr J3 rfl (Og rfl rfl (J27 o26 pl29 rfl rfl (Og rfl rfl (St.len sl29 rfl (Og rfl rfl (St.move (Og rfl rfl (J3u rfl rfl (fun hc44=>?_) (fun hc44=>?_))))))))))))
   ·exact OF (Nl (J26 rfl (Rg (Oa (Nl (W.ret (Wq rfl rfl C30 (congrArg (Value.int _) (Kr (Qf fun c=>by have:=c.n1;have:=c.n2;have:=c.a1;have:=c.a2;omega) (by decide))))))))))
   refine OF (Nl (J28 rfl (W.skip (⟨_,_,C30,rfl,h9,o26,⟨ho1,ho2,by omega,by omega,by omega,by omega⟩⟩))))
  rintro f45 w46 ⟨x47,y48,C49,e50,h9,o51,hcn⟩;obtain⟨f52,rfl⟩:=rebK (aC e50 aN);clear e50;refine W.seq (J4d (fun f v=>∃ (x y:Nat→Prop),Cx X w x y v∧f 1=(.pointer (some ⟨g10,0,none⟩))∧ExprParts x v a a1 c2 a3 c4 a5 c6 a7 c8∧Own w y v g10 (ec a a1 c2 a3 c4 a5 c6 a7 c8) 31∧nameOk a) ?_ ?_)
  ·refine W.seq (J3m J5 6 [[],[0],[1],[],[3],[4]] C49 [fx (.pointer (some ⟨g10,0,none⟩)),fx (.int .i64 a.op),fx (.bool (decide (a.op=8))),fx (.pointer (some ⟨g10,6,none⟩)),fx (str a.name),fx (.bool (Kh a.name))] (by kernel_rfl) ⟨sx,sx,sx,sx,sx,sx,trivial⟩ fun f59 s60 w61 ⟨C64,S65⟩ k63=>?_)
   replace h9:=h9.sp S65;replace o51:=o51.spn S65;have k63:Keep [54,55,56,57,58,59] _ f59:=k63;refine⟨⟨fun _=>?_,fun⟨e67,_⟩=>?_,fun⟨e68,_⟩=>?_,fun _=>?_,fun⟨e69,_⟩=>?_,fun⟨e70,_⟩=>?_,trivial⟩,fun⟨e71,e72,e73,e74,e75,e76,_⟩=>?_⟩
   ·exact Ja k63 aN fun _=>OpSt.op (St.fieldAddr Zz rfl ⟨s60,RC.same C64,rfl⟩)
   ·exact Ja k63 (aC e67 aN) fun _=>OpSt.op (J27 o51 pl3 rfl rfl ⟨s60,RC.same C64,rfl⟩)
   ·exact Ja k63 (aC e68 aN) fun _=>OpSt.op (St.eql rfl rfl rfl ⟨s60,RC.same C64,rfl⟩)
   ·exact Ja k63 aN fun _=>OpSt.op (St.fieldAddr Km rfl ⟨s60,RC.same C64,rfl⟩)
   ·exact Ja k63 (aC e69 aN) fun _=>OpSt.op (J27 o51 pl9 rfl rfl ⟨s60,RC.same C64,rfl⟩)
   ·refine Ja k63 (aC e70 aN) fun _=>OpSt.op (J25 C64 cb19 rfl rfl (Jgo C64.bd (by omega)) ?_);intro v78 w79 C80 s81 h82;exact⟨s60,⟨C80,s81⟩,h82⟩
   obtain⟨f83,rfl⟩:=mixK k63 (aC e71 (aC e72 (aC e73 (aC e74 (aC e75 (aC e76 aN))))));refine Ol (St.bool (J4b un4 rfl rfl rfl ⟨_,rfl,fun hb84=>?_,fun hb84=>?_⟩))
   ·refine Om (Oz (Oz (Oz (Oz (Oy rfl rfl (Oy rfl rfl (Oy rfl rfl (Oz (OT (Om (Oz (Oz (Oz (Oz (Oy rfl rfl (Oy rfl rfl (Oy rfl rfl (Oy rfl rfl (Oz (OT (Nl ?_)))))))))))))))))))));exact J26 rfl (Rg (Oa (Nl (W.ret (Wq rfl rfl C64 (congrArg (Value.int _) (Kr (Xe fun c=>by have c1:=c.e;have c2:=c.s;have c3:=c.c;simp_all) (by decide))))))))
   refine Om (Og rfl rfl (St.fieldAddr Zz rfl (Og rfl rfl (J27 o51 pl3 rfl rfl (Og rfl rfl (J3q rfl rfl (fun hc85=>?_) (fun hc85=>?_)))))))
   ·refine Og rfl rfl (St.move (Og rfl rfl (St.fieldAddr Km rfl (Og rfl rfl (J27 o51 pl9 rfl rfl (Og rfl rfl (J4f rfl rfl (fun hc86=>?_) (fun hc86=>?_))))))))
    ·exact Og rfl rfl (St.pick (t:=true) rfl (OF (Om (Oz (Oz (Oz (Oz (Oy rfl rfl (Oy rfl rfl (Oy rfl rfl (Oy rfl rfl (Oz (OT (Nl (J26 rfl (Rg (Oa (Nl (W.ret (Wq rfl rfl C64 (congrArg (Value.int _) (Kr (Xe fun c=>by have c1:=c.e;have c2:=c.s;have c3:=c.c;simp_all) (by decide)))))))))))))))))))))))
    refine Og rfl rfl (St.pick (t:=true) rfl (OF (Om (Og rfl rfl (St.fieldAddr Zz rfl (Og rfl rfl (J27 o51 pl3 rfl rfl (Og rfl rfl (J3q rfl rfl (fun hc87=>?_) (fun hc87=>?_))))))))))
    ·refine Og rfl rfl (St.move (Og rfl rfl (St.fieldAddr Ky rfl (Og rfl rfl (J29 (vs:=[(.bool a.c.num.neg),(.slice a3 a.c.num.mag.length c4),(.bool a.c.den.neg),(.slice a5 a.c.den.mag.length c6)]) o51 ag28 rfl rfl rfl (Og rfl rfl (J25 C64 cb82 rfl rfl (Ji7 C64.bd (a:=a.c) (Ke h9.num h9.den) (by omega) (by omega)) ?_)))))));intro v88 w89 C90 s91 h92;replace h9:=h9.sp s91;replace o51:=o51.spn s91;subst h92;refine Og rfl rfl (J3q rfl rfl (fun hc93=>?_) (fun hc93=>?_))
     ·exact Og rfl rfl (St.pick (t:=true) rfl (OF (Nl (J26 rfl (Rg (Oa (Nl (W.ret (Wq rfl rfl C90 (congrArg (Value.int _) (Kr (Xe fun c=>by have c1:=c.e;have c2:=c.s;have c3:=c.c;simp_all) (by decide))))))))))))
     refine Og rfl rfl (St.pick (t:=true) rfl (OF (Nl (J28 rfl (W.skip (⟨_,_,C90,rfl,h9,o51,(by refine⟨?_,?_,?_⟩ <;> simp_all)⟩))))))
    refine Og rfl rfl (St.move (Oz (Oz (Oz (Oz (Og rfl rfl (St.pick (t:=false) rfl (OF (Nl (J28 rfl (W.skip (⟨_,_,C64,rfl,h9,o51,(by refine⟨?_,?_,?_⟩ <;> simp_all)⟩))))))))))))
   refine Og rfl rfl (St.move (Oz (Oz (Oz (Og rfl rfl (St.pick (t:=false) rfl (OF (Om (Og rfl rfl (St.fieldAddr Zz rfl (Og rfl rfl (J27 o51 pl3 rfl rfl (Og rfl rfl (J3q rfl rfl (fun hc94=>?_) (fun hc94=>?_)))))))))))))))
   ·refine Og rfl rfl (St.move (Og rfl rfl (St.fieldAddr Ky rfl (Og rfl rfl (J29 (vs:=[(.bool a.c.num.neg),(.slice a3 a.c.num.mag.length c4),(.bool a.c.den.neg),(.slice a5 a.c.den.mag.length c6)]) o51 ag28 rfl rfl rfl (Og rfl rfl (J25 C64 cb82 rfl rfl (Ji7 C64.bd (a:=a.c) (Ke h9.num h9.den) (by omega) (by omega)) ?_)))))));intro v95 w96 C97 s98 h99;replace h9:=h9.sp s98;replace o51:=o51.spn s98;subst h99;refine Og rfl rfl (J3q rfl rfl (fun hc100=>?_) (fun hc100=>?_))
    ·exact Og rfl rfl (St.pick (t:=true) rfl (OF (Nl (J26 rfl (Rg (Oa (Nl (W.ret (Wq rfl rfl C97 (congrArg (Value.int _) (Kr (Xe fun c=>by have c1:=c.e;have c2:=c.s;have c3:=c.c;simp_all) (by decide))))))))))))
    refine Og rfl rfl (St.pick (t:=true) rfl (OF (Nl (J28 rfl (W.skip (⟨_,_,C97,rfl,h9,o51,(by refine⟨?_,?_,?_⟩ <;> simp_all)⟩))))))
   refine Og rfl rfl (St.move (Oz (Oz (Oz (Oz (Og rfl rfl (St.pick (t:=false) rfl (OF (Nl (J28 rfl (W.skip (⟨_,_,C64,rfl,h9,o51,(by refine⟨?_,?_,?_⟩ <;> simp_all)⟩))))))))))))
  rintro f101 w102 ⟨x103,y104,C105,e106,h9,o107,hnm⟩;obtain⟨f108,rfl⟩:=rebK (aC e106 aN);clear e106;refine Rg (Ol (St.fieldAddr Zz rfl (Ol (J27 o107 pl3 rfl rfl (Ol (J25 C105 cb83 rfl rfl (Jo6 C105.bd) ?_))))));intro v109 w110 C111 s112 h113;replace h9:=h9.sp s112;replace o107:=o107.spn s112;obtain⟨v114,v115,rfl,rfl,rfl⟩:=h113;refine Om (Ol (St.extract rfl rfl (Ol (St.extract rfl rfl (Oa (Oa (Nl (W.seq (J4d (fun f v=>∃ (x y:Nat→Prop),Cx X w x y v∧f 1=(.pointer (some ⟨g10,0,none⟩))∧ExprParts x v a a1 c2 a3 c4 a5 c6 a7 c8∧Own w y v g10 (ec a a1 c2 a3 c4 a5 c6 a7 c8) 31∧Xb a=0) ?_ ?_)))))))))
  ·refine Rg (Oa (Nl (W.block (J3j (fun μ f v=>∃ (x y:Nat→Prop) (i:Nat),Cx X w x y v∧f 1=(.pointer (some ⟨g10,0,none⟩))∧f 7=(.int .i64 (lA a.op))∧f 8=(.int .i64 (lB a.op))∧f 9=(.int .i64 ((i:Nat):Int))∧ExprParts x v a a1 c2 a3 c4 a5 c6 a7 c8∧Own w y v g10 (ec a a1 c2 a3 c4 a5 c6 a7 c8) 31∧i≤a.n.length∧(∀ j,j < i→lA a.op≤a.n.getD j 0∧a.n.getD j 0≤lB a.op)∧μ=(a.n.length - i)) _ ⟨_,_,0,C111,rfl,rfl,rfl,rfl,h9,o107,(Nat.zero_le _),(fun _ h=>absurd h (Nat.not_lt_zero _)),rfl⟩ ?_))));rintro m129 f118 w119 ⟨x120,y121,i,C122,e123,e124,e125,e126,h9,o127,hi,hall,hmu128⟩;obtain⟨f130,rfl⟩:=rebK (aC e123 (aC e124 (aC e125 (aC e126 aN))));clear e123 e124 e125 e126;refine Rh (Om (Ol (St.fieldAddr K0 rfl (Ol (J27 o127 pl23 rfl rfl (Ol (St.len sl23 rfl (Ol (J3i rfl rfl (fun hc131=>?_) (fun hc131=>?_))))))))))
   ·refine Nl (J26 rfl (W.skip (W.seq (W.block (Rg (Ol (St.fieldAddr K0 rfl (Ol (J27 o127 pl23 rfl rfl (Om (Ol (J3k (j:=i) (u:=(a.n.getD i 0)) h9.n sl23 io3 rfl rfl rfl (Jg (by omega)) ?_))))))))))));intro b132 o133 cs134 e135;obtain⟨rfl,bd136⟩:cs134=_∧_:=e135.rd;refine Ol (J3e pl3 rfl (e135.cell 0 _ rfl) (Om (Ol (J3i rfl rfl (fun hc137=>?_) (fun hc137=>?_)))))
    ·exact Om (Oz (Oz (Oz (Oz (Oz (Oz (Oz (OT (Nl (J26 rfl (Rg (Oa (Nl (W.ret (Wq rfl rfl C122 (congrArg (Value.int _) (Kr (Jfu hcn hnm (i:=i) (by omega) (by omega)) (by decide))))))))))))))))))
    refine Om (Og rfl rfl (St.fieldAddr K0 rfl (Og rfl rfl (J27 o127 pl23 rfl rfl (Og rfl rfl (St.move (Og rfl rfl (J3k (j:=i) (u:=(a.n.getD i 0)) h9.n sl23 io3 rfl rfl rfl (Jg (by omega)) ?_))))))));intro b138 o139 cs140 e141;obtain⟨rfl,bd142⟩:cs140=_∧_:=e141.rd;refine Og rfl rfl (J3e pl3 rfl (e141.cell 0 _ rfl) (Og rfl rfl (St.move (Og rfl rfl (J3u rfl rfl (fun hc143=>?_) (fun hc143=>?_))))))
    ·exact OF (Nl (J26 rfl (Rg (Oa (Nl (W.ret (Wq rfl rfl C122 (congrArg (Value.int _) (Kr (Jfu hcn hnm (i:=i) (by omega) (by omega)) (by decide))))))))))
    refine OF (Nl (J28 rfl (W.skip (W.region (Om (Ol (St.add rfl rfl (Jc (a:=i) (b:=1) (by omega)) (Oa (Nl (⟨_,(by omega),_,_,(i+1),C122,rfl,rfl,rfl,rfl,h9,o127,(by omega),(Kx hall ⟨by omega,by omega⟩),rfl⟩))))))))))
   refine Nl (J28 rfl (W.exit (⟨_,_,C122,rfl,h9,o127,(Jvt hcn hnm (i:=i) (by omega) hall)⟩)))
  rintro f144 w145 ⟨x146,y147,C148,e149,h9,o150,hz⟩;obtain⟨f151,rfl⟩:=rebK (aC e149 aN);clear e149;refine Rh (Oa (Nl (W.block (J3j (fun μ f v=>∃ (x y:Nat→Prop) (i:Nat),Cx X w x y v∧f 1=(.pointer (some ⟨g10,0,none⟩))∧f 10=(.int .i64 ((i:Nat):Int))∧ExprParts x v a a1 c2 a3 c4 a5 c6 a7 c8∧Own w y v g10 (ec a a1 c2 a3 c4 a5 c6 a7 c8) 31∧i≤a.args.length∧errL (a.args.drop i)=errL a.args∧μ=(a.args.length - i)) _ ⟨_,_,0,C148,rfl,rfl,h9,o150,(Nat.zero_le _),rfl,rfl⟩ ?_))));rintro m161 f152 w153 ⟨x154,y155,i,C156,e157,e158,h9,o159,hi,hv,hmu160⟩;obtain⟨f162,rfl⟩:=rebK (aC e157 (aC e158 aN));clear e157 e158;refine Rh (Om (Ol (St.fieldAddr J3 rfl (Ol (J27 o159 pl29 rfl rfl (Ol (St.len sl29 rfl (Ol (J3i rfl rfl (fun hc163=>?_) (fun hc163=>?_))))))))))
  ·refine Nl (J26 rfl (W.skip (W.seq (W.block (Rg (Ol (St.fieldAddr J3 rfl (Ol (J27 o159 pl29 rfl rfl (Om (Ol (J3k (j:=i) (u:=(a.args.getD i default)) h9.args sl29 io31 rfl rfl rfl (Jg (by omega)) ?_))))))))))));intro b164 o165 cs166 e167;obtain⟨a168,c169,a170,c171,a172,c173,a174,c175,rfl,h176⟩:=Jq e167.rd;refine Ol (J3v (cs:=(ec (a.args.getD i default) a168 c169 a170 c171 a172 c173 a174 c175)) ag31 rfl rfl e167.cell (Ol (J25 C156 cb53 rfl rfl (ih C156.bd (Jh (a.args.getD i default) h176.lo h176.hi h176.name h176.n h176.num h176.den h176.args) (by have h7:=zo (l:=a.args) (i:=i) (by omega);omega) (Jql hok (by omega)) (Nat.lt_of_lt_of_le (Kn (by omega)) (Nat.le_of_lt_succ hN))) ?_)));intro v177 w178 C179 s180 h181;replace h9:=h9.sp s180;replace o159:=o159.spn s180;subst h181;refine Oa (Nl (Rg (Om (Ol (J3q rfl rfl (fun hc182=>?_) (fun hc182=>?_))))))
   ·exact Nl (J26 rfl (Rg (Om (Oa (Nl (W.ret (Wq rfl rfl C179 (congrArg (Value.int _) (Jip hz (by omega) hv hc182)))))))))
   refine Nl (J28 rfl (W.skip (W.region (Om (Ol (St.add rfl rfl (Jc (a:=i) (b:=1) (by omega)) (Oa (Nl (⟨_,(by omega),_,_,(i+1),C179,rfl,rfl,h9,o159,(by omega),(Jme (by omega) hv hc182),rfl⟩)))))))))
  exact Nl (J28 rfl (W.exit (Rg (Oa (Nl (W.ret (Wq rfl rfl C156 (congrArg (Value.int _) (Jqh hz (by omega) hv)))))))))
theorem J0d{X:Nat→Prop}{w:World}(hX:XB X w){v0:Value}{a:GExpr}(r0:RV Jf X w v0 a)(h60:cntE a≤60)(hok:okE a):Calls Tryz.prog 53 #[v0] w (Ret w fun v w'=>v=(.int .i64 (errE a))):=Jn6 ((SizeOf.sizeOf a)+1) hX r0 h60 hok (Nat.lt_succ_self _)
theorem Ja9{X:Nat→Prop}{w:World}(hX:XB X w){v0:Value}{a:GExpr}(r0:RV Jf X w v0 a)(hm:cntE a≤10000)(hok:okE a):Calls Tryz.prog 21 #[v0] w (Ret w fun v w'=>v=(.int .i64 (Zk a))):=by
 obtain⟨a1,c2,a3,c4,a5,c6,a7,c8,rfl,h9⟩:=J3f r0;have C:=Cx.start hX;refine Cgo (args:=[(ea a a1 c2 a3 c4 a5 c6 a7 c8)]) Tryz.func21 rfl rfl rfl (Rg (Ol (J3g C rfl ?_)));intro g10 w11 x12 y13 lt14 C15 s16 o17;replace h9:=h9.sp s16;refine Oa (Nl (Rh (Ol (J29 (vs:=(ec a a1 c2 a3 c4 a5 c6 a7 c8)) o17 ag31 rfl rfl rfl (Ol (J25 C15 cb51 rfl rfl (Jmb C15.bd (Jh a h9.lo h9.hi h9.name h9.n h9.num h9.den h9.args) (m:=60) (by omega)) ?_))))));intro v18 w19 C20 s21 h22;replace h9:=h9.sp s21;replace o17:=o17.spn s21;subst h22;refine Ol (J3u rfl rfl (fun hc23=>?_) (fun hc23=>?_))
 ·exact Om (Oz (Oz (Oz (OT (Nl (J26 rfl (Rg (Oa (Nl (W.ret (Wq rfl rfl C20 (congrArg (Value.int _) (kq (by omega))))))))))))))
 refine Om (Og rfl rfl (J29 (vs:=(ec a a1 c2 a3 c4 a5 c6 a7 c8)) o17 ag31 rfl rfl rfl (Og rfl rfl (J25 C20 cb52 rfl rfl (x_lvl C20.bd (Jh a h9.lo h9.hi h9.name h9.n h9.num h9.den h9.args) hm) ?_))));intro v24 w25 C26 s27 h28;replace h9:=h9.sp s27;replace o17:=o17.spn s27;subst h28;refine Og rfl rfl (J3u rfl rfl (fun hc29=>?_) (fun hc29=>?_))
 ·exact OF (Nl (J26 rfl (Rg (Oa (Nl (W.ret (Wq rfl rfl C26 (congrArg (Value.int _) (kq (by omega))))))))))
 refine OF (Nl (J28 rfl (W.skip (Rg (Ol (J29 (vs:=(ec a a1 c2 a3 c4 a5 c6 a7 c8)) o17 ag31 rfl rfl rfl (Ol (J25 C26 cb53 rfl rfl (J0d C26.bd (Jh a h9.lo h9.hi h9.name h9.n h9.num h9.den h9.args) (by omega) hok) ?_))))))));intro v30 w31 C32 s33 h34;subst h34;exact Oa (Nl (W.ret (Wq rfl rfl C32 (congrArg (Value.int _) (Ji6 (by omega))))))
end Go.Wf
