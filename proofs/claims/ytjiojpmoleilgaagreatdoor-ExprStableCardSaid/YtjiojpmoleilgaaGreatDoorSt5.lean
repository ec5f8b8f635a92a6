/- Part 5. -/
import Derived.Test.YtjiojpmoleilgaaGreatDoorSt4
set_option linter.unusedVariables false
set_option linter.unusedSimpArgs false
set_option maxRecDepth 100000
set_option maxHeartbeats 4000000
noncomputable section
namespace Go.Wf
open Go Go.Proofs Go.RowKit
set_option maxHeartbeats 8000000 in
theorem yQ(N:Nat):∀ {X:Nat→Prop} {w:World} (hX:XB X w) {v0:Value} {a:GExpr} (r0:RV Jc X w v0 a) {n:Int} (hR:RaiP a n) (hN:(SizeOf.sizeOf a)<N),CRt 97 #[v0,(.int .i64 n)] w fun v w'=>(∃(v0:Value) (m':GExpr) (e':Int),v= .tuple #[v0,.int .i64 e']∧RV Jc X w' v0 m'∧(Ans (RaiR a n) m' e')):=by
 induction N with
 |zero=>intro X w hX v0 a r0 n hR hN;exact absurd hN<|TC _
 |succ N ih=>
  intro X w hX v0 a r0 n hR hN;obtain⟨a1,Z,L,M,P,Q,S,U,rfl,e⟩:=SR r0;have C:=PV hX;have hal:=r0.args_max;obtain⟨_,_,_,_,_⟩:=Qi.1 hR.sz;obtain⟨_,_⟩:=hR.n1;refine Cgo Tryz.func97 r r r (Rg<|Ol<|QA C r ?_);intro bK _ _ _ _ f7 f8 m;refine Ol (PU f7 io31 r ?_);intro bL _ f9 ga _ J di g;have e:=(e.sp f8).sp di;have m:=m.spn di;refine Ua<|PT<|W.block<|Rg<|Ub<|PW r r (fun dn=>?_)<|fun dn=>?_
  ·refine Oa (Nl<|Uf<|Ol<|PK J oA r r (oK J.bd δ δ) ?_);intro _ _ dj gb gc;obtain⟨_,_,_,_,rfl,gd,gf⟩:=ST gc;refine Ol (PK dj cb93 r r (Ke dj.bd (c:=YU) (Jz gd gf) δ δ) ?_);intro _ _ gg gi dk;have g:=(g.spn gb).spn gi;simp only[Jo,J9] at dk;obtain⟨gj,gk,gl,gm,gn,gp,gq,gr,rfl,bQ⟩:=SR dk;refine On (Us (cs':=(ec (nbE<|Rat.divInt 1 1) gj gk gl gm gn gp gq gr)) gg g io31 ?_);intro _ dl gs gt;have bQ:=bQ.sp gs;exact Ua<|PS<|Jg r r r gt ag31 dl ⟨_,(nbE<|Rat.divInt 1 1),0,rfl,(Mx (nbE<|Rat.divInt 1 1) bQ).tr dl.wb,(Cv o)⟩
  refine Ua<|Ug<|Ub<|PW r r (fun dp=>?_)<|fun dp=>?_
  ·refine Oa (Nl<|Uf<|Ol<|Uo (vs:=(ec a a1 Z L M P Q S U)) m ag31<|On<|Us (cs':=(ec a a1 Z L M P Q S U)) J g io31 ?_);intro _ dm gu gv;have e:=e.sp gu;exact Ua<|PS<|Jg r r r gv ag31 dm ⟨_,a,0,rfl,(Mx a e).tr dm.wb,(Hg o)⟩
  refine Ua<|Ug<|Ol<|PJ Jw rfl<|Ol<|PO m pl3 r rfl<|Ol<|PW r r (fun dq=>?_)<|fun dq=>?_
  ·refine Oa (Nl<|Ud<|PT ?_);obtain⟨hrb,_,_⟩:=vV hR o;refine SF [(12,11)] r κ (fun _ _ _ _ h=>h) mixed 10 [[],[0],[1],[2],[],[4],[5],[6],[],[7,8]] (f9,ga) (RC X w) [fx<|.pointer (some ⟨bK,7,none⟩),fx<|.slice S a.args.length U,fE Jc<|Ar a 0,fr Jc<|Ar a 0,fx<|.pointer (some ⟨bK,1,none⟩),fx<|.slice a1 a.n.length Z,fE Zg<|a.n.getD 0 0,fx<|.int .i64 (a.n.getD 0 0),fx<|.int .i64 n,fx<|.int .i64 ((a.n.getD 0 0)*n)] κ (RB J) RC.trans ⟨sx,sx,sE,sr,sx,sx,sE,sx,sx,sx,trivial⟩ fun gw K _ ⟨I,bR⟩ F=>?_
   have e:=e.sp bR;have m:=m.spn bR;have F:Keep [26,27,28,29,30,31,32,33,34,35] _ gw:=F;refine⟨⟨fun _=>?_,fun⟨gx,_⟩=>?_,fun⟨gy,_⟩=>?_,fun⟨gz,_⟩=>?_,fun _=>?_,fun⟨gA,_⟩=>?_,fun⟨gB,_⟩=>?_,fun⟨gC,_⟩=>?_,fun _=>?_,fun⟨gD,gE,_⟩=>?_,trivial⟩,fun⟨gF,dr,ds,dt,du,dv,dw,dx,dy,dz,_⟩=>?_⟩
   ·exact Sd0 F fun _=>PJ J8 r ⟨K,PQ I,rfl⟩
   ·exact Sd1 F gx fun _=>PO m pl29 r r ⟨K,PQ I,rfl⟩
   ·refine Sd1 F gy fun _=>P4 (j:=0) (u:=(Ar a 0)) e.args sl29 io31 r r r (Je (by rw[(rU hR.nf o).2];decide)) ?_;intro _ _ _ bS;obtain⟨_,_,_,_,_,_,_,_,rfl,_⟩:=Jb bS.rd;exact⟨K,PQ I,⟨_,_,_,rfl,bS⟩⟩
   ·obtain⟨_,_,_,dA,bT⟩:=gz;obtain⟨dB,dC,dD,dE,dF,dG,dH,dI,rfl,dJ⟩:=Jb bT.rd;exact Sd1 F dA fun _=>QE (cs:=(ec (Ar a 0) dB dC dD dE dF dG dH dI)) ag31 r r bT.cell ⟨K,PQ I,(Mx (Ar a 0) dJ)⟩
   ·exact Sd0 F fun _=>PJ Zi r ⟨K,PQ I,rfl⟩
   ·exact Sd1 F gA fun _=>PO m pl23 r r ⟨K,PQ I,rfl⟩
   ·refine Sd1 F gB fun _=>P4 (j:=0) (u:=(a.n.getD 0 0)) e.n sl23 io3 r r r (Je (rU hR.nf o).1) ?_;intro _ _ cW bU;obtain⟨rfl,_⟩:cW=_∧_:=bU.rd;exact⟨K,PQ I,⟨_,_,_,rfl,bU⟩⟩
   ·obtain⟨_,_,cX,dK,bV⟩:=gC;obtain⟨rfl,_⟩:cX=_∧_:=bV.rd;exact Sd1 F dK fun _=>P0 pl3 r (bV.cell 0 _ r) ⟨K,PQ I,rfl⟩
   ·exact Sd0 F fun _=>PP ⟨K,PQ I,rfl⟩
   ·exact Jf F (aC gD<|aC gE aN) fun _=>P1<|Rq (z:=((a.n.getD 0 0)*n)) r r (Tz _ o) ⟨K,PQ I,rfl⟩
   obtain⟨_,_,_,dL,dM⟩:=ds;obtain⟨_,_,_,_,_,_,_,_,rfl,_⟩:=Jb dM.rd;obtain⟨_,_,_,_,_,_,_,_,dN,dO⟩:=SR dt;obtain⟨_,_,cY,dP,dQ⟩:=dw;obtain⟨rfl,_⟩:cY=_∧_:=dQ.rd;obtain⟨_,rfl⟩:=mixK F (aC gF<|aC dr<|aC dL<|aC dN<|aC du<|aC dv<|aC dP<|aC dx<|aC dy<|aC dz aN);refine Ol (PK I cb97 r r (ih I.bd (Mx (Ar a 0) dO) hrb<|Ti (Kz (by rw[(rU hR.nf o).2];decide))<|Nat.le_of_lt_succ hN) ?_);intro _ _ dR dS dT;have g:=(g.spn bR).spn dS;obtain⟨_,ay,dU,rfl,dV,cZ⟩:=dT;obtain⟨dW,dX,dY,dZ,d0,d1,d2,d3,rfl,az⟩:=SR dV;refine Ol (St.extract r rfl<|Ol<|St.extract r rfl<|On<|Us (cs':=(ec ay dW dX dY dZ d0 d1 d2 d3)) dR g io31 ?_);intro _ bW d4 d5;have az:=az.sp d4;exact Ua<|PS<|Jg r r r d5 ag31 bW ⟨_,ay,dU,rfl,(Mx ay az).tr bW.wb,(Ans.imp cZ fun _ h=> .pow o o o h)⟩
  refine Ua<|Ug<|Ol<|PJ Jw rfl<|Ol<|PO m pl3 r rfl<|Ol<|PW r r (fun c0=>?_)<|fun c0=>?_
  ·refine Om<|OgD<|PP<|OgD<|QN r r (fun c1=>?_)<|fun c1=>?_
   ·refine OgD (PP<|Oz<|Oz<|Oz<|Oz<|OgD<|QD (t:=true) rfl<|OT<|Ua<|Uf<|Ol<|PJ Yv rfl<|Ol<|Uo (vs:=(qqC a.c L M P Q)) m ag28 ?_);refine Om (Ol<|PK J LY r r (Fc J.bd (a:=a.c) (Jz e.num e.den) o o o o) ?_);intro _ _ d6 d7 d8;have g:=g.spn d7;obtain⟨_,D,_,rfl,d9,ak⟩:=d8;obtain⟨bX,bY,bZ,b0,rfl,aA,aB⟩:=ST d9;refine Om (Ol<|St.extract r rfl<|Ol<|St.extract r rfl<|Ol<|PU d6 io28 r ?_);intro _ _ _ _ c3 eb aD ed;have ee:=c3 _ g.blk.lt;refine On (Us (cs':=(qqC D bX bY bZ b0)) eb ed io28 ?_);intro _ aE aF ef;have aA:=(aA.sp aD).sp aF;have aB:=(aB.sp aD).sp aF;have g:=(g.spn aD).spo aF ee;refine Ua<|Rh<|Ub<|QH r r (fun aa=>?_)<|fun aa=>?_
    ·refine Nl (Uf<|Ol<|PX (cs:=zX) r κ<|On<|Us (cs':=zX) aE g io31 ?_);intro _ b1 _ eg;exact Ua<|PS<|Jg r r r eg ag31 b1<|⟨_,(.mk 0 [] YT [] []),7,rfl,(Zb o o ξ RS.nil RS.nil RS.nil RS.nil).tr b1.wb,(zt δ<|.numE o o o U')⟩
    refine Nl (Uc<|Rg<|Ol<|Uo (vs:=(qqC D bX bY bZ b0)) ef ag28<|Ol<|PK aE cb93 r r (Ke aE.bd (c:=D) (Jz aA aB) (by have:=vt ak aa;omega) (by have:=vt ak aa;omega)) ?_);intro _ _ eh ei ej;have g:=g.spn ei;obtain⟨ek,el,em,en,eo,ep,eq,er,rfl,aG⟩:=SR ej;refine On (Us (cs':=(ec (nbE D.q) ek el em en eo ep eq er)) eh g io31 ?_);intro _ b2 es et;have aG:=aG.sp es;exact Ua<|PS<|Jg r r r et ag31 b2 ⟨_,(nbE D.q),0,rfl,(Mx (nbE D.q) aG).tr b2.wb,(yI ak aa o o o U')⟩
   refine OgD (PP<|OgD<|PJ Yv rfl<|OgD<|Uo (vs:=(qqC a.c L M P Q)) m ag28<|OgD<|PK J nh r r (Q8 J.bd (a:=a.c) (Jz e.num e.den) o o) ?_);intro _ _ am aH eu;have e:=e.sp aH;have m:=m.spn aH;have g:=g.spn aH;subst eu;refine OgD<|QH r r (fun c5=>?_)<|fun c5=>?_
   ·refine OgD (QD (t:=false) rfl<|OT<|Ua<|Uf<|Ol<|PJ Yv rfl<|Ol<|Uo (vs:=(qqC a.c L M P Q)) m ag28<|Ub<|PK am LY r r (Fc am.bd (a:=a.c) (Jz e.num e.den) o o o o) ?_);intro _ _ ev ew ex;have g:=g.spn ew;obtain⟨_,E,_,rfl,ey,an⟩:=ex;obtain⟨b3,b4,b5,b6,rfl,aI,aJ⟩:=ST ey;refine Om (Ol<|St.extract r rfl<|Ol<|St.extract r rfl<|Ol<|PU ev io28 r ?_);intro _ _ _ _ c7 ez aK eA;have eB:=c7 _ g.blk.lt;refine On (Us (cs':=(qqC E b3 b4 b5 b6)) ez eA io28 ?_);intro _ aL aM eC;have aI:=(aI.sp aK).sp aM;have aJ:=(aJ.sp aK).sp aM;have g:=(g.spn aK).spo aM eB;refine Ua<|Rh<|Ub<|QH r r (fun ab=>?_)<|fun ab=>?_
    ·refine Nl (Uf<|Ol<|PX (cs:=zX) r κ<|On<|Us (cs':=zX) aL g io31 ?_);intro _ b7 _ eD;exact Ua<|PS<|Jg r r r eD ag31 b7<|⟨_,(.mk 0 [] YT [] []),7,rfl,(Zb o o ξ RS.nil RS.nil RS.nil RS.nil).tr b7.wb,(zt δ<|.numE o o o U')⟩
    refine Nl (Uc<|Rg<|Ol<|Uo (vs:=(qqC E b3 b4 b5 b6)) eC ag28<|Ol<|PK aL cb93 r r (Ke aL.bd (c:=E) (Jz aI aJ) (by have:=vt an ab;omega) (by have:=vt an ab;omega)) ?_);intro _ _ eE eF eG;have g:=g.spn eF;obtain⟨eH,eI,eJ,eK,eL,eM,eN,eO,rfl,aO⟩:=SR eG;refine On (Us (cs':=(ec (nbE E.q) eH eI eJ eK eL eM eN eO)) eE g io31 ?_);intro _ b8 eP eQ;have aO:=aO.sp eP;exact Ua<|PS<|Jg r r r eQ ag31 b8 ⟨_,(nbE E.q),0,rfl,(Mx (nbE E.q) aO).tr b8.wb,(yI an ab o o o U')⟩
   refine OgD<|QD (t:=false) rfl<|OT<|Ua<|Ug<|Ol<|PJ Jw rfl<|Ol<|PO m pl3 r rfl<|Ol<|PW r r (fun c9=>?_)<|fun c9=>?_
   ·refine Oa (Nl<|Uf<|Ua<|Rh<|Ol<|PJ J8 rfl<|Ol<|PO m pl29 r rfl<|Ol<|St.len sl29 rfl<|Om<|Nl<|W.block<|P7 (fun μ f v=>∃(x y:Nat→Prop) (i:Nat) (xs:List GExpr) (xa:Option Addr) (xc:Nat),Cx X w x y v∧f 1=(.int .i64 n)∧f 4=(P10 bL 0)∧f 70=(S12 S a.args U)∧f 71=(.int .i64 a.args.length)∧f 72=(.int .i64 i)∧f 8=(S12 xa xs xc)∧ExprParts x v a a1 Z L M P Q S U∧OS Jc 31 w x y v (S12 xa xs xc) xs∧Own w y v bK (ec a a1 Z L M P Q S U) 31∧Own w y v bL zX 31∧i≤a.args.length∧xs.length=i∧(∀k,k<xs.length→RaiR (Ar a k) n (some<|xs.getD k Δ))∧μ=(a.args.length-i)) _ ⟨_,_,0,[],none,0,am,rfl,rfl,rfl,rfl,rfl,rfl,e,OS.nil,m,g,(Tv _),rfl,(fun k h=>absurd h<|TC k),rfl⟩ ?_);rintro _ _ _ ⟨_,_,i,xs,xa,xc,b9,ca,cb,cc,cd,ce,cf,e,hXs,A,p,hi,hxl,hxs,_⟩;obtain⟨_,rfl⟩:=rebK (aC ca<|aC cb<|aC cc<|aC cd<|aC ce<|aC cf aN);clear ca cb cc cd ce cf;refine Rg<|Ol<|P2 r r (fun da=>?_)<|fun da=>?_
    ·refine Nl (PT<|Ud<|PR<|PT<|W.block<|Rg<|Ol<|P4 (j:=i) (u:=(Ar a i)) e.args sl29 io31 r r r (Je o) ?_);intro _ _ _ cg;obtain⟨aP,aQ,aR,aS,aT,aU,aV,aW,rfl,aX⟩:=Jb cg.rd;refine Ol (QE (cs:=(ec (Ar a i) aP aQ aR aS aT aU aV aW)) ag31 r r cg.cell<|Ol<|QU b9 io31 r ?_);intro _ _ _ _ bM ch ac eR eS;have eT:=bM _ A.blk.lt;have eU:=bM _ p.blk.lt;have e:=e.sp ac;have A:=A.spn ac;have p:=p.spn ac;refine On (Us (cs':=(ec (Ar a i) aP aQ aR aS aT aU aV aW)) ch eR io31 ?_);intro _ aY ad eV;have hXs:=(hXs.sp ac ch eS).sp ad aY (fun _ h=>h)
     have aX:=(aX.sp ac).sp ad;refine Nl (Rg<|Ol<|Uo (vs:=(ec (Ar a i) aP aQ aR aS aT aU aV aW)) eV ag31<|Ub<|PK aY cb97 r r (ih aY.bd (Mx (Ar a i) aX) (qG hR o<|Jp o)<|Ti (Kz o)<|Nat.le_of_lt_succ hN) ?_);intro _ _ ci ao eW;have e:=(e.sp ad).sp ao;have A:=(A.spo ad eT).spn ao;have p:=(p.spo ad eU).spn ao;obtain⟨_,V,eX,rfl,eY,dc⟩:=eW;obtain⟨aZ,a0,a4,a6,a8,a9,ba,bb,rfl,G⟩:=SR eY;refine Om (Ol<|St.extract r rfl<|Ol<|St.extract r rfl<|Ol<|QU ci io31 r ?_);intro _ _ _ _ bN cj ae eZ e0;have e1:=bN _ A.blk.lt;have e2:=bN _ p.blk.lt;have hXs:=(hXs.sp ao ci<|fun _ h=>h).sp ae cj e0;have A:=A.spn ae;refine On (Us (cs':=(ec V aZ a0 a4 a6 a8 a9 ba bb)) cj eZ io31 ?_);intro _ bc af e3;have e:=(e.sp ae).sp af;have G:=(G.sp ae).sp af;have p:=(p.spn ae).spo af e2;refine Ua<|Rh<|Ub<|QH r r (fun aq=>?_)<|fun aq=>?_
     ·refine Nl (Uf<|Ol<|PX (cs:=zX) r κ<|Om<|On<|Us (cs':=zX) bc p io31 ?_);intro _ ck _ e4;exact Ua<|PS<|Jg r r r e4 ag31 ck<|⟨_,(.mk 0 [] YT [] []),eX,rfl,(Zb o o ξ RS.nil RS.nil RS.nil RS.nil).tr ck.wb,(zt aq<|.prodE o o o)⟩
     refine Nl (Uc<|PN<|Ub<|Uo (vs:=(ec V aZ a0 a4 a6 a8 a9 ba bb)) e3 ag31<|Ol<|P5 (T:=Jc) (css:=[(ec V aZ a0 a4 a6 a8 a9 ba bb)]) (l:=[V]) bc sl29 io31 δ δ r κ ⟨(Ju V G.lo G.hi G.name G.n G.num G.den G.args),trivial⟩ ?_);intro _ _ cm ar e5;have hXs:=(hXs.sp af bc<|fun _ h=>h).sp ar cm (fun _ h=>h)
     have A:=(A.spo af e1).spn ar;have p:=p.spn ar;refine Ol (P8 (T:=Jc) cm sl29 io31 r r hXs (Z5 e5) ψ η r ?_);intro _ _ _ e6 be _ cn;have e:=(e.sp ar).tr be.tx;replace A:=A.ap be A.mem;replace p:=p.ap be p.mem;obtain⟨e7,e8,rfl,_,_⟩:=cn.len;refine Ua<|PN<|Ol<|St.add r r (Ja (a:=i) (b:=1) o)<|Om<|Nl<|⟨_,o,_,_,(i+1),(xs++[V]),e7,e8,e6,rfl,rfl,rfl,rfl,rfl,rfl,e,cn,A,p,o,η,(oa (R:=fun k y=>RaiR (Ar a k) n<|some y) hxs<|hxl▸Ans.ok dc aq),rfl⟩
    refine Nl (PT<|Ue<|QB<|Rg<|Om ?_);obtain⟨_,co,_,e9⟩:=hXs.freeze b9 hX;refine Ol (PK co cb96 r r (He co.bd e9 (d:=1)<|u5 hR o o o o hxs) ?_);intro _ _ fa fb fc;have p:=p.spn fb;obtain⟨bf,fd,dd⟩:=fc;obtain⟨ff,fg,fh,fi,fj,fk,fl,fm,rfl,bg⟩:=SR fd;refine On (Us (cs':=(ec bf ff fg fh fi fj fk fl fm)) fa p io31 ?_);intro _ cp fn fo;have bg:=bg.sp fn;exact Ua<|PS<|Jg r r r fo ag31 cp ⟨_,bf,0,rfl,(Mx bf bg).tr cp.wb,(Kg<|.prod o o o o (fun k hk=>hxs k o) dd)⟩
   refine Oa (Nl<|Uc<|Rg<|Ub<|P5 (T:=Zg) (css:=[[(.int .i64 n)]]) (l:=[n]) am sl23 io3 δ δ r κ ⟨⟨rfl,o,o⟩,trivial⟩ ?_);intro cq _ fp bh bi;have e:=e.sp bh;have m:=m.spn bh;refine Ol (Uo (vs:=(ec a a1 Z L M P Q S U)) m ag31<|Ol<|P5 (T:=Jc) (css:=[(ec a a1 Z L M P Q S U)]) (l:=[a]) fp sl29 io31 δ δ r κ ⟨(Ju a e.lo e.hi e.name e.n e.num e.den e.args),trivial⟩ ?_);intro cr _ fq ct bj;have g:=(g.spn bh).spn ct;refine Ol (PX (cs:=[(.int .i64 12),(.slice (some ⟨cq,0,none⟩) 1 1),b13,n11,b13,n11,(str []),(.slice (some ⟨cr,0,none⟩) 1 1)]) r κ<|On<|Us (cs':=[(.int .i64 12),(.slice (some ⟨cq,0,none⟩) 1 1),b13,n11,b13,n11,(str []),(.slice (some ⟨cr,0,none⟩) 1 1)]) fq g io31 ?_);intro _ cu cv ft;have bi:=(bi.sp ct).sp cv;have bj:=bj.sp cv;exact Ua<|PS<|Jg r r r ft ag31 cu<|⟨_,(.mk 12 [n] YT [] [a]),0,rfl,(Zb o o ξ bi RS.nil RS.nil bj).tr cu.wb,(Kg<|.other o o o o (fun h=>by first|exact absurd h.1 o|exact h.2.elim (fun h=>absurd h o) (fun h=>h<|mI o)))⟩
  refine Om<|Oz<|Oz<|Oz<|OyD<|OyD<|OyD<|OyD<|Oz<|OF<|Ua<|Ug<|Ol<|PJ Jw rfl<|Ol<|PO m pl3 r rfl<|Ol<|PW r r (fun de=>?_)<|fun de=>?_
  ·refine Oa (Nl<|Uf<|Ua<|Rh<|Ol<|PJ J8 rfl<|Ol<|PO m pl29 r rfl<|Ol<|St.len sl29 rfl<|Om<|Nl<|W.block<|P7 (fun μ f v=>∃(x y:Nat→Prop) (i:Nat) (xs:List GExpr) (xa:Option Addr) (xc:Nat),Cx X w x y v∧f 1=(.int .i64 n)∧f 4=(P10 bL 0)∧f 70=(S12 S a.args U)∧f 71=(.int .i64 a.args.length)∧f 72=(.int .i64 i)∧f 8=(S12 xa xs xc)∧ExprParts x v a a1 Z L M P Q S U∧OS Jc 31 w x y v (S12 xa xs xc) xs∧Own w y v bK (ec a a1 Z L M P Q S U) 31∧Own w y v bL zX 31∧i≤a.args.length∧xs.length=i∧(∀k,k<xs.length→RaiR (Ar a k) n (some<|xs.getD k Δ))∧μ=(a.args.length-i)) _ ⟨_,_,0,[],none,0,J,rfl,rfl,rfl,rfl,rfl,rfl,e,OS.nil,m,g,(Tv _),rfl,(fun k h=>absurd h<|TC k),rfl⟩ ?_);rintro _ _ _ ⟨_,_,i,xs,xa,xc,cw,cx,cy,cz,cE,cF,cG,e,hXs,B,s,hi,hxl,hxs,_⟩;obtain⟨_,rfl⟩:=rebK (aC cx<|aC cy<|aC cz<|aC cE<|aC cF<|aC cG aN);clear cx cy cz cE cF cG;refine Rg<|Ol<|P2 r r (fun df=>?_)<|fun df=>?_
   ·refine Nl (PT<|Ud<|PR<|PT<|W.block<|Rg<|Ol<|P4 (j:=i) (u:=(Ar a i)) e.args sl29 io31 r r r (Je o) ?_);intro _ _ _ cH;obtain⟨bk,bl,bm,bn,bo,bp,bq,br,rfl,bs⟩:=Jb cH.rd;refine Ol (QE (cs:=(ec (Ar a i) bk bl bm bn bo bp bq br)) ag31 r r cH.cell<|Ol<|QU cw io31 r ?_);intro _ _ _ _ bO cI ag fu fv;have fy:=bO _ B.blk.lt;have fz:=bO _ s.blk.lt;have e:=e.sp ag;have B:=B.spn ag;have s:=s.spn ag;refine On (Us (cs':=(ec (Ar a i) bk bl bm bn bo bp bq br)) cI fu io31 ?_);intro _ bt ah fA;have hXs:=(hXs.sp ag cI fv).sp ah bt (fun _ h=>h)
    have bs:=(bs.sp ag).sp ah;refine Nl (Rg<|Ol<|Uo (vs:=(ec (Ar a i) bk bl bm bn bo bp bq br)) fA ag31<|Ub<|PK bt cb97 r r (ih bt.bd (Mx (Ar a i) bs) (qG hR o<|Jp o)<|Ti (Kz o)<|Nat.le_of_lt_succ hN) ?_);intro _ _ cJ au fB;have e:=(e.sp ah).sp au;have B:=(B.spo ah fy).spn au;have s:=(s.spo ah fz).spn au;obtain⟨_,Y,fC,rfl,fD,dg⟩:=fB;obtain⟨bu,bv,bw,bx,bz,bA,bB,bC,rfl,H⟩:=SR fD;refine Om (Ol<|St.extract r rfl<|Ol<|St.extract r rfl<|Ol<|QU cJ io31 r ?_);intro _ _ _ _ bP cK ai fF fG;have fH:=bP _ B.blk.lt;have fI:=bP _ s.blk.lt;have hXs:=(hXs.sp au cJ<|fun _ h=>h).sp ai cK fG;have B:=B.spn ai;refine On (Us (cs':=(ec Y bu bv bw bx bz bA bB bC)) cK fF io31 ?_);intro _ bD aj fJ;have e:=(e.sp ai).sp aj;have H:=(H.sp ai).sp aj;have s:=(s.spn ai).spo aj fI;refine Ua<|Rh<|Ub<|QH r r (fun av=>?_)<|fun av=>?_
    ·refine Nl (Uf<|Ol<|PX (cs:=zX) r κ<|Om<|On<|Us (cs':=zX) bD s io31 ?_);intro _ cL _ fK;exact Ua<|PS<|Jg r r r fK ag31 cL<|⟨_,(.mk 0 [] YT [] []),fC,rfl,(Zb o o ξ RS.nil RS.nil RS.nil RS.nil).tr cL.wb,(zt av<|.prodE o o o)⟩
    refine Nl (Uc<|PN<|Ub<|Uo (vs:=(ec Y bu bv bw bx bz bA bB bC)) fJ ag31<|Ol<|P5 (T:=Jc) (css:=[(ec Y bu bv bw bx bz bA bB bC)]) (l:=[Y]) bD sl29 io31 δ δ r κ ⟨(Ju Y H.lo H.hi H.name H.n H.num H.den H.args),trivial⟩ ?_);intro _ _ cM aw fL;have hXs:=(hXs.sp aj bD<|fun _ h=>h).sp aw cM (fun _ h=>h)
    have B:=(B.spo aj fH).spn aw;have s:=s.spn aw;refine Ol (P8 (T:=Jc) cM sl29 io31 r r hXs (Z5 fL) ψ η r ?_);intro _ _ _ fM bE _ cN;have e:=(e.sp aw).tr bE.tx;replace B:=B.ap bE B.mem;replace s:=s.ap bE s.mem;obtain⟨fN,fO,rfl,_,_⟩:=cN.len;refine Ua<|PN<|Ol<|St.add r r (Ja (a:=i) (b:=1) o)<|Om<|Nl<|⟨_,o,_,_,(i+1),(xs++[Y]),fN,fO,fM,rfl,rfl,rfl,rfl,rfl,rfl,e,cN,B,s,o,η,(oa (R:=fun k y=>RaiR (Ar a k) n<|some y) hxs<|hxl▸Ans.ok dg av),rfl⟩
   refine Nl (PT<|Ue<|QB<|Rg<|Om ?_);obtain⟨_,cO,_,fP⟩:=hXs.freeze cw hX;refine Ol (PK cO cb96 r r (He cO.bd fP (d:=1)<|u5 hR o o o o hxs) ?_);intro _ _ fQ fR fS;have s:=s.spn fR;obtain⟨bF,fT,dh⟩:=fS;obtain⟨fU,fV,fW,fX,fY,fZ,f0,f1,rfl,bG⟩:=SR fT;refine On (Us (cs':=(ec bF fU fV fW fX fY fZ f0 f1)) fQ s io31 ?_);intro _ cP f2 f3;have bG:=bG.sp f2;exact Ua<|PS<|Jg r r r f3 ag31 cP ⟨_,bF,0,rfl,(Mx bF bG).tr cP.wb,(Kg<|.prod o o o o (fun k hk=>hxs k o) dh)⟩
  refine Oa (Nl<|Uc<|Rg<|Ub<|P5 (T:=Zg) (css:=[[(.int .i64 n)]]) (l:=[n]) J sl23 io3 δ δ r κ ⟨⟨rfl,o,o⟩,trivial⟩ ?_);intro cQ _ f4 bH bI;have e:=e.sp bH;have m:=m.spn bH;refine Ol (Uo (vs:=(ec a a1 Z L M P Q S U)) m ag31<|Ol<|P5 (T:=Jc) (css:=[(ec a a1 Z L M P Q S U)]) (l:=[a]) f4 sl29 io31 δ δ r κ ⟨(Ju a e.lo e.hi e.name e.n e.num e.den e.args),trivial⟩ ?_);intro cR _ f5 cS bJ;have g:=(g.spn bH).spn cS;refine Ol (PX (cs:=[(.int .i64 12),(.slice (some ⟨cQ,0,none⟩) 1 1),b13,n11,b13,n11,(str []),(.slice (some ⟨cR,0,none⟩) 1 1)]) r κ<|On<|Us (cs':=[(.int .i64 12),(.slice (some ⟨cQ,0,none⟩) 1 1),b13,n11,b13,n11,(str []),(.slice (some ⟨cR,0,none⟩) 1 1)]) f5 g io31 ?_);intro _ cT cU f6;have bI:=(bI.sp cS).sp cU;have bJ:=bJ.sp cU;exact Ua<|PS<|Jg r r r f6 ag31 cT<|⟨_,(.mk 12 [n] YT [] [a]),0,rfl,(Zb o o ξ bI RS.nil RS.nil bJ).tr cT.wb,(Kg<|.other o o o o (fun h=>by first|exact absurd h.1 o|exact h.2.elim (fun h=>absurd h o) (fun h=>h<|mI o)))⟩
theorem Iq{X:Nat→Prop}{w:World}(hX:XB X w){b:Value}{a:GExpr}(d:RV Jc X w b a){n:Int}(hR:RaiP a n):CRt 97 #[b,(.int .i64 n)] w fun v w'=>(∃(b:Value) (m':GExpr) (e':Int),v= .tuple #[b,.int .i64 e']∧RV Jc X w' b m'∧(Ans (RaiR a n) m' e')):=yQ ((SizeOf.sizeOf a)+1) hX d hR (VM _)
theorem zU(N:Nat):∀ {X:Nat→Prop} {w:World} (hX:XB X w) {K:Value} {a:GExpr} (r0:RV Jc X w K a) (hn:NF a) (hN:(SizeOf.sizeOf a)<N),CRt 94 #[K] w fun v w'=>(∃(K:Value) (m':GExpr) (e':Int),v= .tuple #[K,.int .i64 e']∧RV Jc X w' K m'∧(BdA a m' e')):=by
 induction N with
 |zero=>intro X w hX K a r0 hn hN;exact absurd hN<|TC _
 |succ N ih=>
  intro X w hX K a r0 hn hN;obtain⟨a1,A,B,D,E,F,s,z,rfl,d⟩:=SR r0;have C:=PV hX;have hal:=r0.args_max;refine Cgo Tryz.func94 r r r (Rg<|Ol<|QA C r ?_);intro ad _ _ _ _ bZ b0 p;refine Ol (PU bZ io31 r ?_);intro ae _ _ _ _ af aV ag;have d:=(d.sp b0).sp aV;have p:=p.spn aV;refine Ua<|Rh<|Ol<|PJ Jw rfl<|Ol<|PO p pl3 r rfl<|Ol<|PW r r (fun be=>?_)<|fun be=>?_
  ·refine Om (OgD<|PJ Zi rfl<|OgD<|PO p pl23 r rfl<|OgD<|P4 (j:=0) (u:=(a.n.getD 0 0)) d.n sl23 io3 r r r (Je (rU hn o).1) ?_);intro _ _ bf aW;obtain⟨rfl,_⟩:bf=_∧_:=aW.rd;refine OgD<|P0 pl3 r (aW.cell 0 _ r)<|OgD<|P2 r r (fun bg=>?_)<|fun bg=>?_
   ·refine OgD (PP<|Oz<|Oz<|Oz<|Oz<|Oz<|OgD<|QD (t:=true) rfl<|OT<|Nl<|Uf<|Ol<|PX (cs:=zX) r κ ?_);refine On (Us (cs':=zX) af ag io31 ?_);intro _ aX _ b1;exact Ua<|PS<|Jg r r r b1 ag31 aX<|⟨_,(.mk 0 [] YT [] []),7,rfl,(Zb o o ξ RS.nil RS.nil RS.nil RS.nil).tr aX.wb,(wZ o o δ)⟩
   refine OgD (PP<|OgD<|PJ Zi rfl<|OgD<|PO p pl23 r rfl<|OgD<|P4 (j:=0) (u:=(a.n.getD 0 0)) d.n sl23 io3 r r r (Je (rU hn o).1) ?_);intro _ _ bh aY;obtain⟨rfl,_⟩:bh=_∧_:=aY.rd;refine OgD<|P0 pl3 r (aY.cell 0 _ r)<|OgD<|QN r r (fun bi=>?_)<|fun bi=>?_
   ·refine OgD (QD (t:=false) rfl<|OT<|Nl<|Uf<|Ol<|PX (cs:=zX) r κ<|On<|Us (cs':=zX) af ag io31 ?_);intro _ aZ _ b2;exact Ua<|PS<|Jg r r r b2 ag31 aZ<|⟨_,(.mk 0 [] YT [] []),7,rfl,(Zb o o ξ RS.nil RS.nil RS.nil RS.nil).tr aZ.wb,(wZ o o δ)⟩
   refine OgD (QD (t:=false) rfl<|OT<|Nl<|Uc<|Rh<|Ol<|PJ J8 rfl<|Ol<|PO p pl29 r rfl<|Ol<|St.len sl29 rfl<|Om<|Nl<|W.block<|P7 (fun μ f v=>∃(x y:Nat→Prop) (i:Nat),Cx X w x y v∧f 1=(P10 ad 0)∧f 2=(P10 ae 0)∧f 27=(S12 s a.args z)∧f 28=(.int .i64 a.args.length)∧f 29=(.int .i64 i)∧ExprParts x v a a1 A B D E F s z∧Own w y v ad (ec a a1 A B D E F s z) 31∧Own w y v ae zX 31∧i≤a.args.length∧(∀k,k<i→Bd (Ar a k))∧μ=(a.args.length-i)) _ ⟨_,_,0,af,rfl,rfl,rfl,rfl,rfl,d,p,ag,(Tv _),(fun k h=>absurd h<|TC k),rfl⟩ ?_);rintro _ _ _ ⟨_,_,i,a0,a4,a6,a8,a9,ba,d,m,l,hi,hxs,_⟩;obtain⟨_,rfl⟩:=rebK (aC a4<|aC a6<|aC a8<|aC a9<|aC ba aN);clear a4 a6 a8 a9 ba;refine Rg<|Ol<|P2 r r (fun bj=>?_)<|fun bj=>?_
   ·refine Nl (PT<|Ud<|PR<|PT<|W.block<|Rg<|Ol<|P4 (j:=i) (u:=(Ar a i)) d.args sl29 io31 r r r (Je o) ?_);intro _ _ _ bb;obtain⟨aq,ar,au,av,aw,ax,ay,az,rfl,aA⟩:=Jb bb.rd;refine Ol (QE (cs:=(ec (Ar a i) aq ar au av aw ax ay az)) ag31 r r bb.cell<|Ol<|PU a0 io31 r ?_);intro _ _ _ _ aB b3 ah b4;have b5:=aB _ m.blk.lt;have b6:=aB _ l.blk.lt;have d:=d.sp ah;have m:=m.spn ah;have l:=l.spn ah;refine On (Us (cs':=(ec (Ar a i) aq ar au av aw ax ay az)) b3 b4 io31 ?_);intro _ bc ai b7;have aA:=(aA.sp ah).sp ai;refine Nl (Rg<|Ol<|Uo (vs:=(ec (Ar a i) aq ar au av aw ax ay az)) b7 ag31<|Ol<|PK bc cb94 r r (ih bc.bd (Mx (Ar a i) aA) (hn.arg _<|Jp o)<|Ti (Kz o)<|Nat.le_of_lt_succ hN) ?_);intro _ _ b8 aD b9;have d:=(d.sp ai).sp aD;have m:=(m.spo ai b5).spn aD;have l:=(l.spo ai b6).spn aD;obtain⟨_,ca,cb,rfl,cc,aj⟩:=b9;obtain⟨bk,bl,bm,bn,bo,bp,bq,br,rfl,_⟩:=SR cc;refine Om (Ol<|St.extract r rfl<|Ol<|St.extract r rfl<|Ol<|PU b8 io31 r ?_);intro _ _ _ _ ak bs L bt;have bu:=ak _ m.blk.lt;have bv:=ak _ l.blk.lt;refine On (Us (cs':=(ec ca bk bl bm bn bo bp bq br)) bs bt io31 ?_);intro _ aE M _;have d:=(d.sp L).sp M;have m:=(m.spn L).spo M bu;have l:=(l.spn L).spo M bv;refine Ua<|Rg<|Ub<|QH r r (fun G=>?_)<|fun G=>?_
    ·refine Nl (Uf<|Ol<|PX (cs:=zX) r κ<|Om<|On<|Us (cs':=zX) aE l io31 ?_);intro _ aF _ bw;exact Ua<|PS<|Jg r r r bw ag31 aF<|⟨_,(.mk 0 [] YT [] []),cb,rfl,(Zb o o ξ RS.nil RS.nil RS.nil RS.nil).tr aF.wb,(AJ aj (Jp o) G)⟩
    refine Nl<|Uc<|PN<|Ol<|St.add r r (Ja (a:=i) (b:=1) o)<|Om<|Nl<|⟨_,o,_,_,(i+1),aE,rfl,rfl,rfl,rfl,rfl,d,m,l,o,(oP hxs<|BdA.bd aj G),rfl⟩
   refine Nl (PT<|Ue<|QB<|Rg<|Ol<|Uo (vs:=(ec a a1 A B D E F s z)) m ag31<|On<|Us (cs':=(ec a a1 A B D E F s z)) a0 l io31 ?_);intro _ aG bx bz;have d:=d.sp bx;exact Ua<|PS<|Jg r r r bz ag31 aG ⟨_,a,0,rfl,(Mx a d).tr aG.wb,(zN (fun h=>by omega) o hxs)⟩
  refine Om (Oz<|Oz<|Oz<|Oz<|Oz<|Oz<|OyD<|OyD<|OyD<|OyD<|OyD<|Oz<|OF<|Nl<|Uc<|Rh<|Ol<|PJ J8 rfl<|Ol<|PO p pl29 r rfl<|Ol<|St.len sl29 r ?_);refine Om (Nl<|W.block<|P7 (fun μ f v=>∃(x y:Nat→Prop) (i:Nat),Cx X w x y v∧f 1=(P10 ad 0)∧f 2=(P10 ae 0)∧f 27=(S12 s a.args z)∧f 28=(.int .i64 a.args.length)∧f 29=(.int .i64 i)∧ExprParts x v a a1 A B D E F s z∧Own w y v ad (ec a a1 A B D E F s z) 31∧Own w y v ae zX 31∧i≤a.args.length∧(∀k,k<i→Bd (Ar a k))∧μ=(a.args.length-i)) _ ⟨_,_,0,af,rfl,rfl,rfl,rfl,rfl,d,p,ag,(Tv _),(fun k h=>absurd h<|TC k),rfl⟩ ?_);rintro _ _ _ ⟨_,_,i,aH,aI,aJ,aK,aL,aM,d,g,e,hi,hxs,_⟩;obtain⟨_,rfl⟩:=rebK (aC aI<|aC aJ<|aC aK<|aC aL<|aC aM aN);clear aI aJ aK aL aM;refine Rg<|Ol<|P2 r r (fun aU=>?_)<|fun aU=>?_
  ·refine Nl (PT<|Ud<|PR<|PT<|W.block<|Rg<|Ol<|P4 (j:=i) (u:=(Ar a i)) d.args sl29 io31 r r r (Je o) ?_);intro _ _ _ aO;obtain⟨P,Q,R,S,T,U,V,Y,rfl,Z⟩:=Jb aO.rd;refine Ol (QE (cs:=(ec (Ar a i) P Q R S T U V Y)) ag31 r r aO.cell<|Ol<|PU aH io31 r ?_);intro _ _ _ _ am bA H bB;have bC:=am _ g.blk.lt;have bD:=am _ e.blk.lt;have d:=d.sp H;have g:=g.spn H;have e:=e.spn H;refine On (Us (cs':=(ec (Ar a i) P Q R S T U V Y)) bA bB io31 ?_);intro _ aP I bE;have Z:=(Z.sp H).sp I;refine Nl (Rg<|Ol<|Uo (vs:=(ec (Ar a i) P Q R S T U V Y)) bE ag31<|Ol<|PK aP cb94 r r (ih aP.bd (Mx (Ar a i) Z) (hn.arg _<|Jp o)<|Ti (Kz o)<|Nat.le_of_lt_succ hN) ?_);intro _ _ bF aa bG;have d:=(d.sp I).sp aa;have g:=(g.spo I bC).spn aa;have e:=(e.spo I bD).spn aa;obtain⟨_,bH,bI,rfl,bJ,an⟩:=bG;obtain⟨bK,bL,bM,bN,bO,bP,bQ,bR,rfl,_⟩:=SR bJ;refine Om (Ol<|St.extract r rfl<|Ol<|St.extract r rfl<|Ol<|PU bF io31 r ?_);intro _ _ _ _ ao bS ab bT;have bU:=ao _ g.blk.lt;have bV:=ao _ e.blk.lt;refine On (Us (cs':=(ec bH bK bL bM bN bO bP bQ bR)) bS bT io31 ?_);intro _ aQ ac _;have d:=(d.sp ab).sp ac;have g:=(g.spn ab).spo ac bU;have e:=(e.spn ab).spo ac bV;refine Ua<|Rg<|Ub<|QH r r (fun J=>?_)<|fun J=>?_
   ·refine Nl (Uf<|Ol<|PX (cs:=zX) r κ<|Om<|On<|Us (cs':=zX) aQ e io31 ?_);intro _ aR _ bW;exact Ua<|PS<|Jg r r r bW ag31 aR<|⟨_,(.mk 0 [] YT [] []),bI,rfl,(Zb o o ξ RS.nil RS.nil RS.nil RS.nil).tr aR.wb,(AJ an (Jp o) J)⟩
   refine Nl<|Uc<|PN<|Ol<|St.add r r (Ja (a:=i) (b:=1) o)<|Om<|Nl<|⟨_,o,_,_,(i+1),aQ,rfl,rfl,rfl,rfl,rfl,d,g,e,o,(oP hxs<|BdA.bd an J),rfl⟩
  refine Nl (PT<|Ue<|QB<|Rg<|Ol<|Uo (vs:=(ec a a1 A B D E F s z)) g ag31<|On<|Us (cs':=(ec a a1 A B D E F s z)) aH e io31 ?_);intro _ aS bX bY;have d:=d.sp bX;exact Ua<|PS<|Jg r r r bY ag31 aS ⟨_,a,0,rfl,(Mx a d).tr aS.wb,(zN (fun h=>by omega) o hxs)⟩
theorem sD{X:Nat→Prop}{w:World}(hX:XB X w){b:Value}{a:GExpr}(d:RV Jc X w b a)(hn:NF a):CRt 94 #[b] w fun v w'=>(∃(b:Value) (m':GExpr) (e':Int),v= .tuple #[b,.int .i64 e']∧RV Jc X w' b m'∧(BdA a m' e')):=zU ((SizeOf.sizeOf a)+1) hX d hn (VM _)
end Go.Wf
namespace Go.Wf
open Go Go.RowKit
abbrev GhV:=Gh×Option Value
structure RKv (X0:Nat→Prop) (b0:Bs) (s:GhV) (w:World) (s':GhV) (w':World):Prop where
 rc:RC X0 b0 s.1 w s'.1 w'
 kp:∀v,s.2=some v→s'.2=some v
def RKv0(X0:Nat→Prop)(b0:Bs)(s:GhV)(w:World)(s':GhV)(w':World):Prop:=s'.2=s.2∧RC X0 b0 s.1 w s'.1 w'
section
variable {fc:Fence} [Fw fc] {P:Program} {ops:Array Oper} {n:Nat} {D:List Deferred} {Q:Post} {f0:Fr} {w0:World}
theorem SM {id:Nat} (l:List (Nat×Nat)) (hro:fc.round=none) (hz:n0 ops n l=true) (hQ:∀c f f' w,Q (.panic c) f w→Q (.panic c) f' w)
  (hm:P.follows .mixedOrders=true) (m q:Nat) (dl:List (List Nat)) {d x y:Nat→Prop} {g:Bs} (C:Cx d g x y w0)
  (Gl:List (GhV→Value→World→Prop)) (chk:ya (addE l ops) m n dl=true) (hG:y4 (RKv d g) (RKv0 d g) q Gl 0)
  (h:∀f s w,RKv d g ((x,y),none) w0 s w→Keep (J2 (addE l ops) m) f0 f→mo P (addE l ops) Q (RKv d g) (RKv0 d g) (fun s _=>s.2=none) q Gl f s w (addE l ops).toList dl 0∧(Deps (addE l ops) Gl f s w (List.range m)→Sq P (addE l ops) n Q ((addE l ops).toList.drop m) f w)):
  W fc P (Code.region id ops true) n D Q f0 w0:=by
 intro a ha hf;have F:=Xw chk;refine wpIn_region_any hm ?_;have p:∀i,i<ops.size→(Array.replicate ops.size false).getD i true=false:=by
  intro i hi;simp[Ts,hi]
 have hu:unl ops.size (Array.replicate ops.size false)=ops.size:=by
  unfold unl
  have:(List.range ops.size).countP (fun i=> !(Array.replicate ops.size false).getD i true)=(List.range ops.size).length:=by
   refine Up.2 ?_;intro i hi;simp[p i ς]
  rw[this];simp
 have z:=RB C;refine sc hro hz (fun c a _ v w _ hq=>⟨⟨by rw[←hq.1.size];simp[Act.put],by rw[←hq.1.defers];simp[Act.put]⟩,hQ _ _ _ _ hq.2⟩) ops.size _ a _ hu χ (fun k hk hl=>by rw[p k hk] at hl;cases hl) ?_;have key:=tQ (fc:=fc) (D:=D) (s0:=(((x,y),none):GhV)) F (R:=RKv d g) (R0:=RKv0 d g) (N:=fun s _=>s.2=none) (fun s a t b _ c h k=>⟨RC.trans _ _ _ _ _ _ h.rc k.rc,fun v e=>k.kp v (h.kp v e)⟩) (fun s a t b h=>⟨h.2,fun v e=>h.1.trans e⟩) (fun s a t b o r=>r.1.trans o) hG (fun f s w r k=>(h f s w r k).1) (fun f s w r k=>(h f s w r k).2)
  (addE l ops).size (Array.replicate ops.size false) a ((x,y),none) w0.drew XQ (by rw[Zn];simp) ?_ (fun i hi _=>p i WX) ha ⟨z,fun _ e=>e⟩ (fun t _=>by rw[hf]) ?_ (fun _=>rfl)
 ·rw[Zn] at key;exact key
 ·intro k hk hl;rw[Zn] at hk;rw[p k hk] at hl;cases hl
 ·intro j _ hl;rw[p j (by have:=F.le;rw[Zn] at this;omega)] at hl;cases hl
end
theorem IP{a b c d:Value}(h:Value.tuple #[a,b]=Value.tuple #[c,d]):a=c∧b=d:=by
 injection h with h;have h:=congrArg Array.toList h;simpa using h
theorem o7{o:Option Value}{a b c d:Value}(h:o=some (Value.tuple #[a,b]))(k:o=some (Value.tuple #[c,d])):a=c∧b=d:=IP (Wn (h.symm.trans k))
end Go.Wf
namespace Go.Wf
open Go Go.Proofs Go.RowKit
variable{a:GExpr}{b:Value}
set_option maxHeartbeats 16000000 in
theorem FZ(N:Nat):∀ {X:Nat→Prop} {w:World} (hX:XB X w) {v0:Value} {a:GExpr} (r0:RV Jc X w v0 a) {K:Nat} (hP:NorP K a) (hN:(SizeOf.sizeOf a)<N),CRt 65 #[v0] w fun v w'=>(∃(v0:Value) (m':GExpr) (e':Int),v= .tuple #[v0,.int .i64 e']∧RV Jc X w' v0 m'∧(Ans (NorR a) m' e')):=by
 induction N with
 |zero=>intro X w hX v0 a r0 K hP hN;exact absurd hN<|TC _
 |succ N ih=>
  intro X w hX v0 a r0 K hP hN;obtain⟨a1,c2,a3,c4,a5,c6,a7,c8,rfl,p⟩:=SR r0;have C:=PV hX;have hal:=r0.args_max;have hcl:=hP.cl.1;have hlc:=zd a.args;have hnu:=hP.nu;obtain⟨_,_,_,_,_⟩:=Qi.1 hP.sz;refine Cgo Tryz.func65 ϱ ϱ ϱ (Rg<|Ol<|QA C ϱ ?_);intro ac _ _ _ _ lG lH a0;refine Ol (PU lG io31 ϱ ?_);intro aB _ _ _ _ lI gW lJ;have p:=(p.sp lH).sp gW;have a0:=a0.spn gW;refine Oa (Nl<|Rg<|Ua<|Rh<|Ol<|PJ J8 rfl<|Ol<|PO a0 pl29 ϱ rfl<|Ol<|St.len sl29 rfl<|Om<|Nl<|W.block<|P7 (fun μ f v=>∃(x y:Nat→Prop) (i:Nat) (xs:List GExpr) (xa:Option Addr) (xc:Nat),Cx X w x y v∧f 1=(P10 ac 0)∧f 2=(P10 aB 0)∧f 12=(S12 a7 a.args c8)∧f 13=(.int .i64 a.args.length)∧f 14=(.int .i64 i)∧f 4=(S12 xa xs xc)∧ExprParts x v a a1 c2 a3 c4 a5 c6 a7 c8∧OS Jc 31 w x y v (S12 xa xs xc) xs∧Own w y v ac (ec a a1 c2 a3 c4 a5 c6 a7 c8) 31∧Own w y v aB zX 31∧i≤a.args.length∧xs.length=i∧(∀k,k<xs.length→NorR (Ar a k) (some<|xs.getD k Δ))∧μ=(a.args.length-i)) _ ⟨_,_,0,[],none,0,lI,rfl,rfl,rfl,rfl,rfl,rfl,p,OS.nil,a0,lJ,(Tv _),rfl,(fun k h=>absurd h<|TC k),rfl⟩ ?_);rintro _ _ lK ⟨_,_,i,xs,xa,xc,gX,gY,gZ,g0,g1,g2,g3,p,hXs,Q,I,hi,hxl,hxs,_⟩;obtain⟨_,rfl⟩:=rebK (aC gY<|aC gZ<|aC g0<|aC g1<|aC g2<|aC g3 aN);clear gY gZ g0 g1 g2 g3;refine Rg<|Ol<|P2 ϱ ϱ (fun g8=>?_)<|fun g8=>?_
  ·refine Nl (PT<|Ud<|PR<|PT<|W.block<|Rg<|Ol<|P4 (j:=i) (u:=(Ar a i)) p.args sl29 io31 ϱ ϱ ϱ (Je ω) ?_);intro _ _ _ g4;obtain⟨bJ,bK,bL,bM,bN,bO,bP,bQ,rfl,bR⟩:=Jb g4.rd;refine Ol (QE (cs:=(ec (Ar a i) bJ bK bL bM bN bO bP bQ)) ag31 ϱ ϱ g4.cell<|Ol<|QU gX io31 ϱ ?_);intro _ _ _ _ bS g5 aD lL lM;have lN:=bS _ Q.blk.lt;have lO:=bS _ I.blk.lt;have p:=p.sp aD;have Q:=Q.spn aD;have I:=I.spn aD;refine On (Us (cs':=(ec (Ar a i) bJ bK bL bM bN bO bP bQ)) g5 lL io31 ?_);intro _ bT aE lP;have hXs:=(hXs.sp aD g5 lM).sp aE bT (fun _ h=>h)
   have bR:=(bR.sp aD).sp aE;refine Nl (Rg<|Ol<|Uo (vs:=(ec (Ar a i) bJ bK bL bM bN bO bP bQ)) lP ag31<|Ol<|PK bT cb65 ϱ ϱ (ih bT.bd (Mx (Ar a i) bR) (hP.arg ω)<|Ti (Kz ω)<|Nat.le_of_lt_succ hN) ?_);intro _ _ g6 a4 lQ;have p:=(p.sp aE).sp a4;have Q:=(Q.spo aE lN).spn a4;have I:=(I.spo aE lO).spn a4;obtain⟨_,au,lR,rfl,lS,bU⟩:=lQ;obtain⟨bV,bW,bX,bY,bZ,b0,b1,b2,rfl,af⟩:=SR lS;refine Om (Ol<|St.extract ϱ rfl<|Ol<|St.extract ϱ rfl<|Ol<|QU g6 io31 ϱ ?_);intro _ _ _ _ b3 g7 aF lT lU;have g9:=b3 _ Q.blk.lt;have ha:=b3 _ I.blk.lt;have hXs:=(hXs.sp a4 g6<|fun _ h=>h).sp aF g7 lU;have Q:=Q.spn aF;refine On (Us (cs':=(ec au bV bW bX bY bZ b0 b1 b2)) g7 lT io31 ?_);intro _ aJ ao hb;have p:=(p.sp aF).sp ao;have af:=(af.sp aF).sp ao;have I:=(I.spn aF).spo ao ha;refine Ua<|Rh<|Ub<|QH ϱ ϱ (fun ai=>?_)<|fun ai=>?_
   ·refine Nl (Uf<|Ol<|PX (cs:=zX) ϱ κ<|Om<|On<|Us (cs':=zX) aJ I io31 ?_);intro _ b4 _ hc;exact Ua<|PS<|Jg ϱ ϱ ϱ hc ag31 b4<|⟨_,(.mk 0 [] YT [] []),lR,rfl,(Zb ω ω ξ RS.nil RS.nil RS.nil RS.nil).tr b4.wb,(zt ai<|.argE (i:=i) ω (Ans.no bU ai))⟩
   refine Nl (Uc<|PN<|Ub<|Uo (vs:=(ec au bV bW bX bY bZ b0 b1 b2)) hb ag31<|Ol<|P5 (T:=Jc) (css:=[(ec au bV bW bX bY bZ b0 b1 b2)]) (l:=[au]) aJ sl29 io31 δ δ ϱ κ ⟨(Ju au af.lo af.hi af.name af.n af.num af.den af.args),trivial⟩ ?_);intro _ _ b5 av he;have hXs:=(hXs.sp ao aJ<|fun _ h=>h).sp av b5 (fun _ h=>h)
   have Q:=(Q.spo ao g9).spn av;have I:=I.spn av;refine Ol (P8 (T:=Jc) b5 sl29 io31 ϱ ϱ hXs (Z5 he) ψ η ϱ ?_);intro _ _ _ hf aK _ b6;have p:=(p.sp av).tr aK.tx;replace Q:=Q.ap aK Q.mem;replace I:=I.ap aK I.mem;obtain⟨hg,hj,rfl,_,_⟩:=b6.len;refine Ua<|PN<|Ol<|St.add ϱ ϱ (Ja (a:=i) (b:=1) ω)<|Om<|Nl<|⟨_,ω,_,_,(i+1),(xs++[au]),hg,hj,hf,rfl,rfl,rfl,rfl,rfl,rfl,p,b6,Q,I,ω,η,(oa (R:=fun k y=>NorR (Ar a k)<|some y) hxs<|hxl▸Ans.ok bU ai),rfl⟩
  refine Nl (PT<|Ue<|QB<|PT<|PT ?_);have S:xs.length=a.args.length:=ω
  have hall:=oT hP S hxs;obtain⟨_,aa,dB,m⟩:=hXs.freeze gX hX;have p:=p.tr (Tr.weak dB);refine PN<|Ol<|PJ Jw rfl<|Ol<|PO Q pl3 ϱ rfl<|Nl<|W.block<|Rg<|Ol<|PW ϱ ϱ (fun dC=>?_)<|fun dC=>?_
  ·refine Oa (Nl<|Uf<|Ol<|PJ Yv rfl<|Ol<|Uo (vs:=(qqC a.c a3 c4 a5 c6)) Q ag28<|Ol<|PK aa cb93 ϱ ϱ (Ke aa.bd (c:=a.c) (Jz p.num p.den) ω ω) ?_);intro _ _ hl hm hn;have I:=I.spn hm;obtain⟨ho,hp,hq,hr,hs,ht,hu,hv,rfl,aL⟩:=SR hn;refine On (Us (cs':=(ec (nbE a.c.q) ho hp hq hr hs ht hu hv)) hl I io31 ?_);intro _ b7 hw hx;have aL:=aL.sp hw;exact Ua<|PS<|Jg ϱ ϱ ϱ hx ag31 b7 ⟨_,(nbE a.c.q),0,rfl,(Mx (nbE a.c.q) aL).tr b7.wb,(Kg<|.num ω)⟩
  refine Ua<|Ug<|Ol<|PW ϱ ϱ (fun dD=>?_)<|fun dD=>?_
  ·refine Oa (Nl<|Uf<|Ub<|PK aa cb95 ϱ ϱ (I6 aa.bd m<|vC hP S hxs) ?_);intro _ _ b8 hy hz;obtain⟨hA,hB,a6⟩:=hz;obtain⟨_,_,_,_,_,_,_,_,rfl,hC⟩:=SR hB;refine Ol (PK b8 cb94 ϱ ϱ (sD b8.bd (Mx hA hC)<|Py (vC hP S hxs) a6) ?_);intro _ _ hD hE hF;have I:=(I.spn hy).spn hE;obtain⟨_,aM,hG,rfl,hH,dE⟩:=hF;obtain⟨hI,hJ,hK,hL,hM,hO,hQ,hR,rfl,aO⟩:=SR hH;refine Ol (St.extract ϱ rfl<|Ol<|St.extract ϱ rfl<|On<|Us (cs':=(ec aM hI hJ hK hL hM hO hQ hR)) hD I io31 ?_);intro _ b9 hS hT;have aO:=aO.sp hS;exact Ua<|PS<|Jg ϱ ϱ ϱ hT ag31 b9 ⟨_,aM,hG,rfl,(Mx aM aO).tr b9.wb,(Ho ω S hxs a6 dE)⟩
  refine Ua<|Ug<|Ol<|PW ϱ ϱ (fun dF=>?_)<|fun dF=>?_
  ·refine Oa (Nl<|Uf<|Ub<|PK aa cb96 ϱ ϱ (He aa.bd m (d:=1)<|tG hP S hxs) ?_);intro _ _ ca hU hV;obtain⟨hW,hY,a8⟩:=hV;obtain⟨_,_,_,_,_,_,_,_,rfl,hZ⟩:=SR hY;refine Ol (PK ca cb94 ϱ ϱ (sD ca.bd (Mx hW hZ)<|Pr (tG hP S hxs) a8) ?_);intro _ _ h0 h4 h5;have I:=(I.spn hU).spn h4;obtain⟨_,aP,h6,rfl,h7,dG⟩:=h5;obtain⟨h8,ia,ib,ic,id,ie,ig,ii,rfl,aQ⟩:=SR h7;refine Ol (St.extract ϱ rfl<|Ol<|St.extract ϱ rfl<|On<|Us (cs':=(ec aP h8 ia ib ic id ie ig ii)) h0 I io31 ?_);intro _ cb ij ik;have aQ:=aQ.sp ij;exact Ua<|PS<|Jg ϱ ϱ ϱ ik ag31 cb ⟨_,aP,h6,rfl,(Mx aP aQ).tr cb.wb,(CW ω S hxs a8 dG)⟩
  refine Ua<|Ug<|Ol<|PW ϱ ϱ (fun dH=>?_)<|fun dH=>?_
  ·refine Oa (Nl<|Ud<|PT ?_);have lV:=hP.va.t1 ω ω;refine SM [(12,10)] ϱ κ (fun _ _ _ _ h=>h) mixed 12 7 [[],[0],[1],[],[3],[4],[5],[2,6],[7],[8],[8],[]] aa [fx<|.slice xa xs.length xc,fun(s:GhV) (v:Value) (w':World)=>∃(b' o':Nat) (cs':List Value),v= .pointer (some ⟨b',o',none⟩)∧ElAt Jc s.1.1 w' b' o' cs' (xs.getD 0 Δ),fun(s:GhV) (v:Value) (w':World)=>RV Jc s.1.1 w' v<|xs.getD 0 Δ,fx<|.pointer (some ⟨ac,1,none⟩),fx<|.slice a1 a.n.length c2,fun(s:GhV) (v:Value) (w':World)=>∃(b' o':Nat) (cs':List Value),v= .pointer (some ⟨b',o',none⟩)∧ElAt Zg s.1.1 w' b' o' cs' (a.n.getD 0 0),fx<|.int .i64 (a.n.getD 0 0),fun(s:GhV) (v:Value) (w':World)=>s.2=some v∧∃(v0:Value) (m':GExpr) (e':Int),v= .tuple #[v0,.int .i64 e']∧RV Jc s.1.1 w' v0 m'∧Ans (RaiR (xs.getD 0 Δ)<|a.n.getD 0 0) m' e',fun(s:GhV) (v:Value) (w':World)=>s.2=some v∧∃(v0:Value) (e':Int),v= .tuple #[v0,.int .i64 e'],fun(s:GhV) (v:Value) (w':World)=>∃u,s.2=some (.tuple #[v,u]),fun(s:GhV) (v:Value) (w':World)=>∃u,s.2=some (.tuple #[u,v]),fun(s:GhV) (v:Value) (w':World)=>∃g':Nat,v= .pointer (some ⟨g',0,none⟩)∧Own w s.1.2 w' g' zX 31∧lK.heap.size≤g'] κ ⟨sx,(fun _ _ _ _ _ ⟨b,o,cs,e,h⟩ r=>⟨b,o,cs,e,h.tr r.rc.sp.tx⟩),(fun _ _ _ _ _ h r=>RV.tr h r.rc.sp.tx),sx,sx,(fun _ _ _ _ _ ⟨b,o,cs,e,h⟩ r=>⟨b,o,cs,e,h.tr r.rc.sp.tx⟩),sx,(fun _ _ _ _ _ ⟨k,v0,a,e,q1,q2,q3⟩ r=>⟨r.1.trans k,v0,a,e,q1,q2.tr r.2.sp.tx,q3⟩),(fun _ _ _ _ _ ⟨k,h⟩ r=>⟨r.kp _ k,h⟩),(fun _ _ _ _ _ ⟨u,k⟩ r=>⟨u,r.kp _ k⟩),(fun _ _ _ _ _ ⟨u,k⟩ r=>⟨u,r.kp _ k⟩),(fun _ _ _ _ _ ⟨g,e,o,l⟩ r=>⟨g,e,o.spn r.rc.sp,l⟩),trivial⟩ fun im ab _ cc V=>?_
   have Y:=cc.rc.cx;have aq:=cc.rc.sp;have dI:=Q.blk.lt;have dJ:=I.blk.lt;have bI:=aq.tx.size;have p:=p.sp aq;have m:=m.sp aq;have Q:=Q.spn aq;have V:Keep [56,57,58,59,60,61,62,63,55,64,65,9] _ im:=V;refine⟨⟨fun _ _=>?_,fun⟨io,_⟩ _=>?_,fun⟨ip,_⟩ _=>?_,fun _ _=>?_,fun⟨iq,_⟩ _=>?_,fun⟨ir,_⟩ _=>?_,fun⟨it,_⟩ _=>?_,fun⟨iu,iv,_⟩ dK=>?_,fun⟨iw,_⟩ _=>?_,fun⟨ix,_⟩ _=>?_,fun⟨iy,_⟩ _=>?_,fun _ _=>?_,trivial⟩,fun⟨iz,iA,iB,iC,iD,iE,iF,iG,iH,iI,iJ,iK,_⟩=>?_⟩
   ·exact Sd0 V fun _=>PP<|⟨ab,⟨rfl,PQ Y⟩,rfl⟩
   ·refine Sd1 V io fun _=>P4 (j:=0) (u:=(xs.getD 0 Δ)) m sl29 io31 ϱ ϱ ϱ (Je ω) ?_;intro _ _ _ cd;obtain⟨_,_,_,_,_,_,_,_,rfl,_⟩:=Jb cd.rd;exact⟨ab,⟨rfl,PQ Y⟩,⟨_,_,_,rfl,cd⟩⟩
   ·obtain⟨_,_,_,iL,ce⟩:=ip;obtain⟨iM,iN,iO,iP,iQ,iR,iS,iT,rfl,iU⟩:=Jb ce.rd;exact Sd1 V iL fun _=>QE (cs:=(ec (xs.getD 0 Δ) iM iN iO iP iQ iR iS iT)) ag31 ϱ ϱ ce.cell<|⟨ab,⟨rfl,PQ Y⟩,(Mx (xs.getD 0 Δ) iU)⟩
   ·exact Sd0 V fun _=>PJ Zi rfl<|⟨ab,⟨rfl,PQ Y⟩,rfl⟩
   ·exact Sd1 V iq fun _=>PO Q pl23 ϱ rfl<|⟨ab,⟨rfl,PQ Y⟩,rfl⟩
   ·refine Sd1 V ir fun _=>P4 (j:=0) (u:=(a.n.getD 0 0)) p.n sl23 io3 ϱ ϱ ϱ (Je<|hnu.t1 ω ω) ?_;intro _ _ dL cf;obtain⟨rfl,_⟩:dL=_∧_:=cf.rd;exact⟨ab,⟨rfl,PQ Y⟩,⟨_,_,_,rfl,cf⟩⟩
   ·obtain⟨_,_,dM,iV,cg⟩:=it;obtain⟨rfl,_⟩:dM=_∧_:=cg.rd;exact Sd1 V iV fun _=>P0 pl3 ϱ (cg.cell 0 _ ϱ)<|⟨ab,⟨rfl,PQ Y⟩,rfl⟩
   ·obtain⟨_,_,_,_,_,_,_,_,iW,iX⟩:=SR iu;refine Jf V (aC iW<|aC iv aN) fun _=>P1 (PK Y cb97 ϱ ϱ (Iq Y.bd (Mx (xs.getD 0 Δ) iX)<|uD hP ω S hxs) ?_);intro _ _ iY iZ i0;obtain⟨i1,i2,i3,rfl,i4,dN⟩:=i0;exact⟨(ab.1,some _),⟨⟨iY,iZ⟩,fun _ ch=>by have hh:=dK ϱ;rw[hh] at ch;cases ch⟩,rfl,i1,i2,i3,rfl,i4,dN⟩
   ·obtain⟨ci,_,_,_,cj,_,_⟩:=iw;rw[cj] at ci;exact Jf V (aC cj aN) fun _=>P1<|PP ⟨ab,⟨rfl,PQ Y⟩,ci,_,_,rfl⟩
   ·obtain⟨ck,_,_,cm⟩:=ix;rw[cm] at ck;exact Jf V (aC cm aN) fun _=>P1<|St.extract ϱ ϱ ⟨ab,⟨rfl,PQ Y⟩,_,ck⟩
   ·obtain⟨cn,_,_,co⟩:=iy;rw[co] at cn;exact Jf V (aC co aN) fun _=>P1<|St.extract ϱ ϱ ⟨ab,⟨rfl,PQ Y⟩,_,cn⟩
   ·refine Sd0 V fun _=>PU Y io31 ϱ ?_;intro i5 _ i6 i7 dO i8 i9 ja;exact⟨((i6,i7),ab.2),⟨rfl,i8,i9⟩,i5,rfl,ja,VJ fun hh=>dO _ (Ti hh bI) ϱ⟩
   obtain⟨_,_,_,jb,jc⟩:=iA;obtain⟨_,_,_,_,_,_,_,_,rfl,_⟩:=Jb jc.rd;obtain⟨_,_,_,_,_,_,_,_,jd,_⟩:=SR iB;obtain⟨_,_,dP,je,jf⟩:=iE;obtain⟨rfl,_⟩:dP=_∧_:=jf.rd;obtain⟨aw,_,aR,jg,cp,jh,ax⟩:=iG;rw[cp] at aw;obtain⟨cq,_,_,aS⟩:=iH;rw[aS] at cq;obtain⟨ji,jj⟩:=o7 cq aw;rw[ji,jj] at aS;obtain⟨_,jk⟩:=iI;have jl:=(o7 jk aw).1;obtain⟨_,jm⟩:=iJ;have jn:=(o7 jm aw).2;obtain⟨cr,jo,jp,ct⟩:=iK;have lZ:ac≠cr:=VV (Ti dI ct);have jq:aB≠cr:=VV (Ti dJ ct);obtain⟨cu,cv,cw,cy,cz,cE,cF,cG,rfl,aT⟩:=SR jh;obtain⟨_,rfl⟩:=mixK V (aC iz<|aC jb<|aC jd<|aC iC<|aC iD<|aC je<|aC iF<|aC cp<|aC aS<|aC jl<|aC jn<|aC jo aN);refine On (Us (cs':=(ec aR cu cv cw cy cz cE cF cG)) Y jp io31 ?_);intro _ aU cH jr;have aT:=aT.sp cH;have I:=(I.spn aq).spo cH jq;refine Ua<|Rh<|Ub<|QH ϱ ϱ (fun ag=>?_)<|fun ag=>?_
   ·refine Nl (Uf<|Ol<|PX (cs:=zX) ϱ κ<|Om<|On<|Us (cs':=zX) aU I io31 ?_);intro _ cI _ js;exact Ua<|PS<|Jg ϱ ϱ ϱ js ag31 cI<|⟨_,(.mk 0 [] YT [] []),jg,rfl,(Zb ω ω ξ RS.nil RS.nil RS.nil RS.nil).tr cI.wb,(Ct ω S hxs (Ans.no ax ag) ag)⟩
   refine Nl (Uc<|Rg<|Ol<|Uo (vs:=(ec aR cu cv cw cy cz cE cF cG)) jr ag31<|Ol<|PK aU cb94 ϱ ϱ (sD aU.bd (Mx aR aT)<|O7 (uD hP ω S hxs)<|Ans.ok ax ag) ?_);intro _ _ jt ju jv;have I:=I.spn ju;obtain⟨_,aV,jw,rfl,jx,dQ⟩:=jv;obtain⟨jy,jz,jA,jB,jC,jD,jE,jF,rfl,aW⟩:=SR jx;refine Ol (St.extract ϱ rfl<|Ol<|St.extract ϱ rfl<|On<|Us (cs':=(ec aV jy jz jA jB jC jD jE jF)) jt I io31 ?_);intro _ cJ jG jH;have aW:=aW.sp jG;exact Ua<|PS<|Jg ϱ ϱ ϱ jH ag31 cJ ⟨_,aV,jw,rfl,(Mx aV aW).tr cJ.wb,(HL ω S hxs (Ans.ok ax ag) dQ)⟩
  refine Ua<|Ue<|PT<|Rm (fun f v=>∃(x y:Nat→Prop) (tb:Bool),Cx X w x y v∧f 1=(P10 ac 0)∧f 2=(P10 aB 0)∧f 4=(S12 xa xs xc)∧f 74=(.bool tb)∧ExprParts x v a a1 c2 a3 c4 a5 c6 a7 c8∧RS Jc x v (S12 xa xs xc) xs∧Own w y v ac (ec a a1 c2 a3 c4 a5 c6 a7 c8) 31∧Own w y v aB zX 31∧((tb=true→13≤a.op∧a.op≤16))∧((tb=false→¬(13≤a.op∧a.op≤16)))) ?_ ?_
  ·refine Rg<|Ol<|PW ϱ ϱ (fun dR=>?_)<|fun dR=>?_
   ·refine Ua<|Ud<|PR<|⟨_,_,true,aa,rfl,rfl,rfl,rfl,p,m,Q,I,(fun _=>by omega),(fun h=>by cases h)⟩
   refine Ua<|Ug<|Ol<|PW ϱ ϱ (fun dS=>?_)<|fun dS=>?_
   ·refine Ua<|Ud<|PR<|⟨_,_,true,aa,rfl,rfl,rfl,rfl,p,m,Q,I,(fun _=>by omega),(fun h=>by cases h)⟩
   refine Ua<|Ug<|Ol<|PW ϱ ϱ (fun dT=>?_)<|fun dT=>?_
   ·refine Ua<|Ud<|PR<|⟨_,_,true,aa,rfl,rfl,rfl,rfl,p,m,Q,I,(fun _=>by omega),(fun h=>by cases h)⟩
   refine Ua<|Ue<|PN<|Ol<|PW ϱ ϱ (fun dU=>?_)<|fun dU=>?_
   ·refine Ua<|⟨_,_,true,aa,rfl,rfl,rfl,rfl,p,m,Q,I,(fun _=>by omega),(fun h=>by cases h)⟩
   refine Ua<|⟨_,_,false,aa,rfl,rfl,rfl,rfl,p,m,Q,I,(fun h=>by cases h),(fun _=>by omega)⟩
  rintro _ _ ⟨J,_,tb,ah,cK,cL,cM,cN,p,m,E,Z,htb,htc⟩;obtain⟨_,rfl⟩:=rebK (aC cK<|aC cL<|aC cM<|aC cN aN);clear cK cL cM cN;cases tb
  ·refine PL ϱ (PR<|PT ?_);have htr:=htc ϱ;refine PN (Ol<|PJ Jw rfl<|Ol<|PO E pl3 ϱ rfl<|Ol<|PJ Zi rfl<|Ol<|PO E pl23 ϱ rfl<|Ol<|PJ X5 rfl<|Ol<|PO E pl9 ϱ rfl<|Ub<|PX (cs:=[(.int .i64 a.op),(S12 a1 a.n c2),b13,n11,b13,n11,(str a.name),(S12 xa xs xc)]) ϱ κ ?_);refine On (Us (cs':=[(.int .i64 a.op),(S12 a1 a.n c2),b13,n11,b13,n11,(str a.name),(S12 xa xs xc)]) ah Z io31 ?_);intro _ cO cP jI;have p:=p.sp cP;have m:=m.sp cP;exact Ua<|PS<|Jg ϱ ϱ ϱ jI ag31 cO<|⟨_,(.mk a.op a.n YT a.name xs),0,rfl,(Zb p.lo p.hi p.name p.n RS.nil RS.nil m).tr cO.wb,(Kg<|.other (fun h=>by have h1:=h.1;have h2:=h.2.1;have h3:=h.2.2;omega) (fun h=>by have h1:=h.1;have h2:=h.2.1;have h3:=h.2.2;omega) ω ω ω ω S (fun k hk=>hxs k ω))⟩
  refine PM ϱ (PT<|PT ?_);have htq:=htb ϱ;have lV:=hP.va.t1 ω ω;refine PN (Ol<|PJ Zi rfl<|Ol<|PO E pl23 ϱ rfl<|Ol<|P4 (j:=0) (u:=(a.n.getD 0 0)) p.n sl23 io3 ϱ ϱ ϱ (Je<|hnu.t1 ω ω) ?_);intro _ _ dV cQ;obtain⟨rfl,_⟩:dV=_∧_:=cQ.rd;refine Ol<|P0 pl3 ϱ (cQ.cell 0 _ ϱ)<|Ol<|PW ϱ ϱ (fun dW=>?_)<|fun dW=>?_
  ·refine Nl (Uf<|Ub<|P4 (j:=0) (u:=(xs.getD 0 Δ)) m sl29 io31 ϱ ϱ ϱ (Je ω) ?_);intro _ _ _ cR;obtain⟨cS,cT,cU,cV,cW,cX,cY,cZ,rfl,aX⟩:=Jb cR.rd;refine Ol (QE (cs:=(ec (xs.getD 0 Δ) cS cT cU cV cW cX cY cZ)) ag31 ϱ ϱ cR.cell<|On<|Us (cs':=(ec (xs.getD 0 Δ) cS cT cU cV cW cX cY cZ)) ah Z io31 ?_);intro _ c0 jJ jK;have aX:=aX.sp jJ;exact Ua<|PS<|Jg ϱ ϱ ϱ jK ag31 c0<|⟨_,(xs.getD 0 Δ),0,rfl,(Mx (xs.getD 0 Δ) aX).tr c0.wb,(Kg<|.drop ⟨by omega,ω,ω⟩ S (fun k hk=>hxs k ω))⟩
  refine Nl (Uc<|PT ?_);by_cases hva:a.op=13
  ·by_cases hvb:(xs.getD 0 Δ).op=13
   ·by_cases hvc:a.n.getD 0 0*(xs.getD 0 Δ).n.getD 0 0≤1000
    ·refine Rb mixed 21 [[],[0],[1],[2],[3],[3,4],[3,5],[3,6],[3,7],[3,8],[9],[10],[10,11],[10,12],[10,13],[10],[10,15],[10,16],[10,17],[10,18],[10,19]] ah [fx<|.pointer (some ⟨ac,0,none⟩),fx<|.int .i64 a.op,fx<|.bool true,fx<|.bool true,fx<|.slice xa xs.length xc,uE J Jc<|xs.getD 0 Δ,uE J Jc<|xs.getD 0 Δ,fx<|.int .i64 (xs.getD 0 Δ).op,fx<|.bool true,fx<|.bool true,fx<|.bool true,fx<|.pointer (some ⟨ac,1,none⟩),fx<|.slice a1 a.n.length c2,uE J Zg<|a.n.getD 0 0,fx<|.int .i64 (a.n.getD 0 0),fx<|.slice xa xs.length xc,uE J Jc<|xs.getD 0 Δ,fun(s:Unit) (v:Value) (w':World)=>∃(b' o':Nat) (cs':List Value),v= .pointer (some ⟨b',o'+1,none⟩)∧ElAt Jc J w' b' o' cs' (xs.getD 0 Δ),us J Zg<|(xs.getD 0 Δ).n,uE J Zg<|((xs.getD 0 Δ).n).getD 0 0,fx<|.int .i64 (((xs.getD 0 Δ).n).getD 0 0)] κ ⟨sx,sx,sx,sx,sx,tE,tE,sx,sx,sx,sx,sx,sx,tE,sx,sx,tE,(fun _ _ _ _ _ ⟨b,o,cs,e,h⟩ r=>⟨b,o,cs,e,h.tr r.2.tx⟩),ts,tE,sx,trivial⟩ fun jL _ M ay L=>?_
     have p:=p.sp ay;have m:=m.sp ay;have E:=E.spn ay;have L:Keep [87,88,89,90,91,92,93,94,95,96,97,98,99,100,101,102,103,104,105,106,107] _ jL:=L;refine⟨⟨fun _=>?_,fun⟨jM,_⟩=>?_,fun⟨jN,_⟩=>?_,fun⟨jO,_⟩=>?_,fun⟨jP,_⟩=>?_,fun⟨jQ,jR,_⟩=>?_,fun⟨jS,jT,_⟩=>?_,fun⟨jU,jV,_⟩=>?_,fun⟨jW,jX,_⟩=>?_,fun⟨jY,jZ,_⟩=>?_,fun⟨j0,_⟩=>?_,fun⟨j1,_⟩=>?_,fun⟨j2,j3,_⟩=>?_,fun⟨j4,j5,_⟩=>?_,fun⟨j6,j7,_⟩=>?_,fun⟨j8,_⟩=>?_,fun⟨j9,ka,_⟩=>?_,fun⟨kb,kc,_⟩=>?_,fun⟨kd,ke,_⟩=>?_,fun⟨kf,aY,_⟩=>?_,fun⟨kg,kh,_⟩=>?_,trivial⟩,fun⟨ki,kj,kk,kl,km,kn,ko,kq,kr,ks,kt,ku,kv,kw,kx,ky,kz,kA,c1,kB,kC,_⟩=>?_⟩
     ·exact Sd0 L fun _=>PJ Jw rfl<|⟨(),⟨M,Sp.refl⟩,rfl⟩
     ·exact Sd1 L jM fun _=>PO E pl3 ϱ rfl<|⟨(),⟨M,Sp.refl⟩,rfl⟩
     ·exact Sd1 L jN fun _=>QZ (t:=true) ϱ ϱ (decide_eq_true ω)<|⟨(),⟨M,Sp.refl⟩,rfl⟩
     ·exact Sd1 L jO fun _=>PP<|⟨(),⟨M,Sp.refl⟩,rfl⟩
     ·exact Jf L (aC jP aN) fun _=>PY rfl<|PP<|⟨(),⟨M,Sp.refl⟩,rfl⟩
     ·refine Jf L (aC jQ<|aC jR aN) fun _=>PY ϱ (P4 (j:=0) (u:=(xs.getD 0 Δ)) m sl29 io31 ϱ ϱ ϱ (Je ω) ?_);intro _ _ _ c3;obtain⟨_,_,_,_,_,_,_,_,rfl,_⟩:=Jb c3.rd;exact⟨(),⟨M,Sp.refl⟩,⟨_,_,_,rfl,c3⟩⟩
     ·obtain⟨_,_,_,kD,c5⟩:=jT;obtain⟨_,_,_,_,_,_,_,_,rfl,_⟩:=Jb c5.rd;exact Jf L (aC jS<|aC kD aN) fun _=>PY rfl<|PJ Jw rfl<|⟨(),⟨M,Sp.refl⟩,⟨_,_,_,rfl,c5⟩⟩
     ·obtain⟨_,_,_,kE,c7⟩:=jV;obtain⟨_,_,_,_,_,_,_,_,rfl,_⟩:=Jb c7.rd;exact Jf L (aC jU<|aC kE aN) fun _=>PY rfl<|P0 pl3 ϱ (c7.cell 0 _ ϱ)<|⟨(),⟨M,Sp.refl⟩,rfl⟩
     ·exact Jf L (aC jW<|aC jX aN) fun _=>PY rfl<|QZ (t:=true) ϱ ϱ (decide_eq_true ω)<|⟨(),⟨M,Sp.refl⟩,rfl⟩
     ·exact Jf L (aC jY<|aC jZ aN) fun _=>P1<|QD (t:=true) rfl<|⟨(),⟨M,Sp.refl⟩,rfl⟩
     ·exact Sd1 L j0 fun _=>PP<|⟨(),⟨M,Sp.refl⟩,rfl⟩
     ·exact Jf L (aC j1 aN) fun _=>PY rfl<|PJ Zi rfl<|⟨(),⟨M,Sp.refl⟩,rfl⟩
     ·exact Jf L (aC j2<|aC j3 aN) fun _=>PY rfl<|PO E pl23 ϱ rfl<|⟨(),⟨M,Sp.refl⟩,rfl⟩
     ·refine Jf L (aC j4<|aC j5 aN) fun _=>PY ϱ (P4 (j:=0) (u:=(a.n.getD 0 0)) p.n sl23 io3 ϱ ϱ ϱ (Je<|hnu.t1 ω ω) ?_);intro _ _ dX c9;obtain⟨rfl,_⟩:dX=_∧_:=c9.rd;exact⟨(),⟨M,Sp.refl⟩,⟨_,_,_,rfl,c9⟩⟩
     ·obtain⟨_,_,dY,kF,da⟩:=j7;obtain⟨rfl,_⟩:dY=_∧_:=da.rd;exact Jf L (aC j6<|aC kF aN) fun _=>PY rfl<|P0 pl3 ϱ (da.cell 0 _ ϱ)<|⟨(),⟨M,Sp.refl⟩,rfl⟩
     ·exact Jf L (aC j8 aN) fun _=>PY rfl<|PP<|⟨(),⟨M,Sp.refl⟩,rfl⟩
     ·refine Jf L (aC j9<|aC ka aN) fun _=>PY ϱ (P4 (j:=0) (u:=(xs.getD 0 Δ)) m sl29 io31 ϱ ϱ ϱ (Je ω) ?_);intro _ _ _ dc;obtain⟨_,_,_,_,_,_,_,_,rfl,_⟩:=Jb dc.rd;exact⟨(),⟨M,Sp.refl⟩,⟨_,_,_,rfl,dc⟩⟩
     ·obtain⟨_,_,_,kG,dd⟩:=kc;obtain⟨_,_,_,_,_,_,_,_,rfl,_⟩:=Jb dd.rd;exact Jf L (aC kb<|aC kG aN) fun _=>PY rfl<|PJ Zi rfl<|⟨(),⟨M,Sp.refl⟩,⟨_,_,_,rfl,dd⟩⟩
     ·obtain⟨_,_,_,kH,de⟩:=ke;obtain⟨_,_,_,_,_,_,_,_,rfl,kI⟩:=Jb de.rd;exact Jf L (aC kd<|aC kH aN) fun _=>PY rfl<|P0 pl23 ϱ (de.cell 1 _ ϱ)<|⟨(),⟨M,Sp.refl⟩,kI.n⟩
     ·obtain⟨_,_,kJ,aY⟩:=RS.opn aY;refine Jf L (aC kf<|aC kJ aN) fun _=>PY ϱ (P4 (j:=0) (u:=(((xs.getD 0 Δ).n).getD 0 0)) aY sl23 io3 ϱ ϱ ϱ (Je (sH hnu (hall 0 ω).wd WM WM).1.2.2.2.2) ?_);intro _ _ dZ df;obtain⟨rfl,_⟩:dZ=_∧_:=df.rd;exact⟨(),⟨M,Sp.refl⟩,⟨_,_,_,rfl,df⟩⟩
     ·obtain⟨_,_,d0,kK,dg⟩:=kh;obtain⟨rfl,_⟩:d0=_∧_:=dg.rd;exact Jf L (aC kg<|aC kK aN) fun _=>PY rfl<|P0 pl3 ϱ (dg.cell 0 _ ϱ)<|⟨(),⟨M,Sp.refl⟩,rfl⟩
     obtain⟨_,_,_,kL,kM⟩:=kn;obtain⟨_,_,_,_,_,_,_,_,rfl,_⟩:=Jb kM.rd;obtain⟨_,_,_,kN,kO⟩:=ko;obtain⟨_,_,_,_,_,_,_,_,rfl,_⟩:=Jb kO.rd;obtain⟨_,_,d1,kP,kQ⟩:=kw;obtain⟨rfl,_⟩:d1=_∧_:=kQ.rd;obtain⟨_,_,_,kR,kS⟩:=kz;obtain⟨_,_,_,_,_,_,_,_,rfl,_⟩:=Jb kS.rd;obtain⟨_,_,_,kT,kU⟩:=kA;obtain⟨_,_,_,_,_,_,_,_,rfl,_⟩:=Jb kU.rd;obtain⟨_,_,kV,c1⟩:=RS.opn c1;obtain⟨_,_,d2,kW,kX⟩:=kB;obtain⟨rfl,_⟩:d2=_∧_:=kX.rd;obtain⟨_,rfl⟩:=mixK L (aC ki<|aC kj<|aC kk<|aC kl<|aC km<|aC kL<|aC kN<|aC kq<|aC kr<|aC ks<|aC kt<|aC ku<|aC kv<|aC kP<|aC kx<|aC ky<|aC kR<|aC kT<|aC kV<|aC kW<|aC kC aN);refine OgD (Rq (z:=((a.n.getD 0 0)*(((xs.getD 0 Δ).n).getD 0 0))) ϱ ϱ (Tz _ H')<|OgD<|Rx (t:=true) ϱ ϱ (decide_eq_true ω)<|OT<|Nl<|Ud<|PT ?_);obtain⟨_,_,_⟩:=sH hnu (hall 0 ω).wd hva hvb;refine Rb mixed 16 [[],[0],[1],[2],[],[4],[5],[6],[7],[8],[3,9],[10],[],[12],[13],[14]] M [fx<|.pointer (some ⟨ac,1,none⟩),fx<|.slice a1 a.n.length c2,uE J Zg<|a.n.getD 0 0,fx<|.int .i64 (a.n.getD 0 0),fx<|.slice xa xs.length xc,uE J Jc<|xs.getD 0 Δ,fun(s:Unit) (v:Value) (w':World)=>∃(b' o':Nat) (cs':List Value),v= .pointer (some ⟨b',o'+1,none⟩)∧ElAt Jc J w' b' o' cs' (xs.getD 0 Δ),us J Zg<|(xs.getD 0 Δ).n,uE J Zg<|((xs.getD 0 Δ).n).getD 0 0,fx<|.int .i64 (((xs.getD 0 Δ).n).getD 0 0),fx<|.int .i64 ((a.n.getD 0 0)*(((xs.getD 0 Δ).n).getD 0 0)),fun(s:Unit) (v:Value) (w':World)=>∃g':Nat,v= .slice (some ⟨g',0,none⟩) 1 1∧RS Zg J w' v [((a.n.getD 0 0)*(((xs.getD 0 Δ).n).getD 0 0))],fx<|.slice xa xs.length xc,uE J Jc<|xs.getD 0 Δ,fun(s:Unit) (v:Value) (w':World)=>∃(b' o':Nat) (cs':List Value),v= .pointer (some ⟨b',o'+7,none⟩)∧ElAt Jc J w' b' o' cs' (xs.getD 0 Δ),us J Jc<|(xs.getD 0 Δ).args] κ ⟨sx,sx,tE,sx,sx,tE,(fun _ _ _ _ _ ⟨b,o,cs,e,h⟩ r=>⟨b,o,cs,e,h.tr r.2.tx⟩),ts,tE,sx,sx,(fun _ _ _ _ _ ⟨g,e,h⟩ r=>⟨g,e,h.tr r.2.tx⟩),sx,tE,(fun _ _ _ _ _ ⟨b,o,cs,e,h⟩ r=>⟨b,o,cs,e,h.tr r.2.tx⟩),ts,trivial⟩ fun kY _ U az P=>?_
     have p:=p.sp az;have m:=m.sp az;have E:=E.spn az;have Z:=(Z.spn ay).spn az;have P:Keep [111,112,113,114,115,116,117,118,119,120,121,122,123,124,125,126] _ kY:=P;refine⟨⟨fun _=>?_,fun⟨kZ,_⟩=>?_,fun⟨k0,_⟩=>?_,fun⟨k1,_⟩=>?_,fun _=>?_,fun⟨k2,_⟩=>?_,fun⟨k3,_⟩=>?_,fun⟨k4,_⟩=>?_,fun⟨aZ,_⟩=>?_,fun⟨k5,_⟩=>?_,fun⟨k6,k7,_⟩=>?_,fun⟨k8,_⟩=>?_,fun _=>?_,fun⟨k9,_⟩=>?_,fun⟨la,_⟩=>?_,fun⟨lb,_⟩=>?_,trivial⟩,fun⟨lc,ld,lf,lg,lh,li,lj,dh,lk,ll,lm,ln,lp,lq,lr,ar,_⟩=>?_⟩
     ·exact Sd0 P fun _=>PJ Zi rfl<|⟨(),⟨U,Sp.refl⟩,rfl⟩
     ·exact Sd1 P kZ fun _=>PO E pl23 ϱ rfl<|⟨(),⟨U,Sp.refl⟩,rfl⟩
     ·refine Sd1 P k0 fun _=>P4 (j:=0) (u:=(a.n.getD 0 0)) p.n sl23 io3 ϱ ϱ ϱ (Je<|hnu.t1 ω ω) ?_;intro _ _ d3 di;obtain⟨rfl,_⟩:d3=_∧_:=di.rd;exact⟨(),⟨U,Sp.refl⟩,⟨_,_,_,rfl,di⟩⟩
     ·obtain⟨_,_,d4,ls,dj⟩:=k1;obtain⟨rfl,_⟩:d4=_∧_:=dj.rd;exact Sd1 P ls fun _=>P0 pl3 ϱ (dj.cell 0 _ ϱ)<|⟨(),⟨U,Sp.refl⟩,rfl⟩
     ·exact Sd0 P fun _=>PP<|⟨(),⟨U,Sp.refl⟩,rfl⟩
     ·refine Sd1 P k2 fun _=>P4 (j:=0) (u:=(xs.getD 0 Δ)) m sl29 io31 ϱ ϱ ϱ (Je ω) ?_;intro _ _ _ dk;obtain⟨_,_,_,_,_,_,_,_,rfl,_⟩:=Jb dk.rd;exact⟨(),⟨U,Sp.refl⟩,⟨_,_,_,rfl,dk⟩⟩
     ·obtain⟨_,_,_,lu,dl⟩:=k3;obtain⟨_,_,_,_,_,_,_,_,rfl,_⟩:=Jb dl.rd;exact Sd1 P lu fun _=>PJ Zi rfl<|⟨(),⟨U,Sp.refl⟩,⟨_,_,_,rfl,dl⟩⟩
     ·obtain⟨_,_,_,lw,dm⟩:=k4;obtain⟨_,_,_,_,_,_,_,_,rfl,lx⟩:=Jb dm.rd;exact Sd1 P lw fun _=>P0 pl23 ϱ (dm.cell 1 _ ϱ)<|⟨(),⟨U,Sp.refl⟩,lx.n⟩
     ·obtain⟨_,_,ly,aZ⟩:=RS.opn aZ;refine Sd1 P ly fun _=>P4 (j:=0) (u:=(((xs.getD 0 Δ).n).getD 0 0)) aZ sl23 io3 ϱ ϱ ϱ (Je (sH hnu (hall 0 ω).wd WM WM).1.2.2.2.2) ?_;intro _ _ d5 dn;obtain⟨rfl,_⟩:d5=_∧_:=dn.rd;exact⟨(),⟨U,Sp.refl⟩,⟨_,_,_,rfl,dn⟩⟩
     ·obtain⟨_,_,d6,lz,dp⟩:=k5;obtain⟨rfl,_⟩:d6=_∧_:=dp.rd;exact Sd1 P lz fun _=>P0 pl3 ϱ (dp.cell 0 _ ϱ)<|⟨(),⟨U,Sp.refl⟩,rfl⟩
     ·exact Jf P (aC k6<|aC k7 aN) fun _=>P1<|Rq (z:=((a.n.getD 0 0)*(((xs.getD 0 Δ).n).getD 0 0))) ϱ ϱ (Tz _ H')<|⟨(),⟨U,Sp.refl⟩,rfl⟩
     ·refine Sd1 P k8 fun _=>P5 (T:=Zg) (css:=[[(.int .i64 ((a.n.getD 0 0)*(((xs.getD 0 Δ).n).getD 0 0)))]]) (l:=[((a.n.getD 0 0)*(((xs.getD 0 Δ).n).getD 0 0))]) U sl23 io3 δ δ ϱ κ ⟨⟨rfl,ω,ω⟩,trivial⟩ ?_;intro _ _ lC lD lE;exact⟨(),⟨lC,lD⟩,⟨_,rfl,lE⟩⟩
     ·exact Sd0 P fun _=>PP<|⟨(),⟨U,Sp.refl⟩,rfl⟩
     ·refine Sd1 P k9 fun _=>P4 (j:=0) (u:=(xs.getD 0 Δ)) m sl29 io31 ϱ ϱ ϱ (Je ω) ?_;intro _ _ _ dq;obtain⟨_,_,_,_,_,_,_,_,rfl,_⟩:=Jb dq.rd;exact⟨(),⟨U,Sp.refl⟩,⟨_,_,_,rfl,dq⟩⟩
     ·obtain⟨_,_,_,lF,dr⟩:=la;obtain⟨_,_,_,_,_,_,_,_,rfl,_⟩:=Jb dr.rd;exact Sd1 P lF fun _=>PJ J8 rfl<|⟨(),⟨U,Sp.refl⟩,⟨_,_,_,rfl,dr⟩⟩
     ·obtain⟨_,_,_,d7,a9⟩:=lb;obtain⟨_,_,_,_,_,_,_,_,rfl,d8⟩:=Jb a9.rd;exact Sd1 P d7 fun _=>P0 pl29 ϱ (a9.cell 7 _ ϱ)<|⟨(),⟨U,Sp.refl⟩,d8.args⟩
     obtain⟨_,_,ds,d9,eb⟩:=lf;obtain⟨rfl,_⟩:ds=_∧_:=eb.rd;obtain⟨_,_,_,ed,ee⟩:=li;obtain⟨_,_,_,_,_,_,_,_,rfl,_⟩:=Jb ee.rd;obtain⟨_,_,_,ef,eg⟩:=lj;obtain⟨_,_,_,_,_,_,_,_,rfl,_⟩:=Jb eg.rd;obtain⟨_,_,eh,dh⟩:=RS.opn dh;obtain⟨_,_,dt,ei,ej⟩:=lk;obtain⟨rfl,_⟩:dt=_∧_:=ej.rd;obtain⟨ba,bb,aj⟩:=ln;rw[bb] at aj;obtain⟨_,_,_,ek,el⟩:=lq;obtain⟨_,_,_,_,_,_,_,_,rfl,_⟩:=Jb el.rd;obtain⟨_,_,_,em,en⟩:=lr;obtain⟨_,_,_,_,_,_,_,_,rfl,_⟩:=Jb en.rd;obtain⟨bc,be,eo,ar⟩:=RS.opn ar;obtain⟨_,rfl⟩:=mixK P (aC lc<|aC ld<|aC d9<|aC lg<|aC lh<|aC ed<|aC ef<|aC eh<|aC ei<|aC ll<|aC lm<|aC bb<|aC lp<|aC ek<|aC em<|aC eo aN);refine Ol (PX (cs:=[(.int .i64 13),(.slice (some ⟨ba,0,none⟩) 1 1),b13,n11,b13,n11,(str []),(.slice bc ((xs.getD 0 Δ).args).length be)]) ϱ κ<|On<|Us (cs':=[(.int .i64 13),(.slice (some ⟨ba,0,none⟩) 1 1),b13,n11,b13,n11,(str []),(.slice bc ((xs.getD 0 Δ).args).length be)]) U Z io31 ?_);intro _ bf bg ep;have aj:=aj.sp bg;have ar:=ar.sp bg;exact Ua<|PS<|Jg ϱ ϱ ϱ ep ag31 bf<|⟨_,(.mk 13 [((a.n.getD 0 0)*(((xs.getD 0 Δ).n).getD 0 0))] YT [] ((xs.getD 0 Δ).args)),0,rfl,(Zb ω ω ξ aj RS.nil RS.nil ar).tr bf.wb,(Kg<|.vv (fun h=>by have h1:=h.1;have h2:=h.2.1;have h3:=h.2.2;omega) ⟨hva,hvb,hvc⟩ S (fun k hk=>hxs k ω))⟩
    refine Rb mixed 21 [[],[0],[1],[2],[3],[3,4],[3,5],[3,6],[3,7],[3,8],[9],[10],[10,11],[10,12],[10,13],[10],[10,15],[10,16],[10,17],[10,18],[10,19]] ah [fx<|.pointer (some ⟨ac,0,none⟩),fx<|.int .i64 a.op,fx<|.bool true,fx<|.bool true,fx<|.slice xa xs.length xc,uE J Jc<|xs.getD 0 Δ,uE J Jc<|xs.getD 0 Δ,fx<|.int .i64 (xs.getD 0 Δ).op,fx<|.bool true,fx<|.bool true,fx<|.bool true,fx<|.pointer (some ⟨ac,1,none⟩),fx<|.slice a1 a.n.length c2,uE J Zg<|a.n.getD 0 0,fx<|.int .i64 (a.n.getD 0 0),fx<|.slice xa xs.length xc,uE J Jc<|xs.getD 0 Δ,fun(s:Unit) (v:Value) (w':World)=>∃(b' o':Nat) (cs':List Value),v= .pointer (some ⟨b',o'+1,none⟩)∧ElAt Jc J w' b' o' cs' (xs.getD 0 Δ),us J Zg<|(xs.getD 0 Δ).n,uE J Zg<|((xs.getD 0 Δ).n).getD 0 0,fx<|.int .i64 (((xs.getD 0 Δ).n).getD 0 0)] κ ⟨sx,sx,sx,sx,sx,tE,tE,sx,sx,sx,sx,sx,sx,tE,sx,sx,tE,(fun _ _ _ _ _ ⟨b,o,cs,e,h⟩ r=>⟨b,o,cs,e,h.tr r.2.tx⟩),ts,tE,sx,trivial⟩ fun eq _ F ak A=>?_
    have p:=p.sp ak;have m:=m.sp ak;have E:=E.spn ak;have Z:=Z.spn ak;have A:Keep [87,88,89,90,91,92,93,94,95,96,97,98,99,100,101,102,103,104,105,106,107] _ eq:=A;refine⟨⟨fun _=>?_,fun⟨er,_⟩=>?_,fun⟨es,_⟩=>?_,fun⟨et,_⟩=>?_,fun⟨eu,_⟩=>?_,fun⟨ev,ew,_⟩=>?_,fun⟨ex,ey,_⟩=>?_,fun⟨ez,eA,_⟩=>?_,fun⟨eB,eC,_⟩=>?_,fun⟨eD,eE,_⟩=>?_,fun⟨eF,_⟩=>?_,fun⟨eG,_⟩=>?_,fun⟨eH,eI,_⟩=>?_,fun⟨eJ,eK,_⟩=>?_,fun⟨eL,eM,_⟩=>?_,fun⟨eN,_⟩=>?_,fun⟨eO,eP,_⟩=>?_,fun⟨eQ,eR,_⟩=>?_,fun⟨eS,eT,_⟩=>?_,fun⟨eU,aA,_⟩=>?_,fun⟨eV,eW,_⟩=>?_,trivial⟩,fun⟨eX,eY,eZ,e0,e1,e2,e3,e4,e5,e6,e7,e8,e9,fa,fb,fc,fd,ff,bh,fg,fh,_⟩=>?_⟩
    ·exact Sd0 A fun _=>PJ Jw rfl<|⟨(),⟨F,Sp.refl⟩,rfl⟩
    ·exact Sd1 A er fun _=>PO E pl3 ϱ rfl<|⟨(),⟨F,Sp.refl⟩,rfl⟩
    ·exact Sd1 A es fun _=>QZ (t:=true) ϱ ϱ (decide_eq_true ω)<|⟨(),⟨F,Sp.refl⟩,rfl⟩
    ·exact Sd1 A et fun _=>PP<|⟨(),⟨F,Sp.refl⟩,rfl⟩
    ·exact Jf A (aC eu aN) fun _=>PY rfl<|PP<|⟨(),⟨F,Sp.refl⟩,rfl⟩
    ·refine Jf A (aC ev<|aC ew aN) fun _=>PY ϱ (P4 (j:=0) (u:=(xs.getD 0 Δ)) m sl29 io31 ϱ ϱ ϱ (Je ω) ?_);intro _ _ _ bi;obtain⟨_,_,_,_,_,_,_,_,rfl,_⟩:=Jb bi.rd;exact⟨(),⟨F,Sp.refl⟩,⟨_,_,_,rfl,bi⟩⟩
    ·obtain⟨_,_,_,fi,bj⟩:=ey;obtain⟨_,_,_,_,_,_,_,_,rfl,_⟩:=Jb bj.rd;exact Jf A (aC ex<|aC fi aN) fun _=>PY rfl<|PJ Jw rfl<|⟨(),⟨F,Sp.refl⟩,⟨_,_,_,rfl,bj⟩⟩
    ·obtain⟨_,_,_,fj,bk⟩:=eA;obtain⟨_,_,_,_,_,_,_,_,rfl,_⟩:=Jb bk.rd;exact Jf A (aC ez<|aC fj aN) fun _=>PY rfl<|P0 pl3 ϱ (bk.cell 0 _ ϱ)<|⟨(),⟨F,Sp.refl⟩,rfl⟩
    ·exact Jf A (aC eB<|aC eC aN) fun _=>PY rfl<|QZ (t:=true) ϱ ϱ (decide_eq_true ω)<|⟨(),⟨F,Sp.refl⟩,rfl⟩
    ·exact Jf A (aC eD<|aC eE aN) fun _=>P1<|QD (t:=true) rfl<|⟨(),⟨F,Sp.refl⟩,rfl⟩
    ·exact Sd1 A eF fun _=>PP<|⟨(),⟨F,Sp.refl⟩,rfl⟩
    ·exact Jf A (aC eG aN) fun _=>PY rfl<|PJ Zi rfl<|⟨(),⟨F,Sp.refl⟩,rfl⟩
    ·exact Jf A (aC eH<|aC eI aN) fun _=>PY rfl<|PO E pl23 ϱ rfl<|⟨(),⟨F,Sp.refl⟩,rfl⟩
    ·refine Jf A (aC eJ<|aC eK aN) fun _=>PY ϱ (P4 (j:=0) (u:=(a.n.getD 0 0)) p.n sl23 io3 ϱ ϱ ϱ (Je<|hnu.t1 ω ω) ?_);intro _ _ du bl;obtain⟨rfl,_⟩:du=_∧_:=bl.rd;exact⟨(),⟨F,Sp.refl⟩,⟨_,_,_,rfl,bl⟩⟩
    ·obtain⟨_,_,dv,fk,bm⟩:=eM;obtain⟨rfl,_⟩:dv=_∧_:=bm.rd;exact Jf A (aC eL<|aC fk aN) fun _=>PY rfl<|P0 pl3 ϱ (bm.cell 0 _ ϱ)<|⟨(),⟨F,Sp.refl⟩,rfl⟩
    ·exact Jf A (aC eN aN) fun _=>PY rfl<|PP<|⟨(),⟨F,Sp.refl⟩,rfl⟩
    ·refine Jf A (aC eO<|aC eP aN) fun _=>PY ϱ (P4 (j:=0) (u:=(xs.getD 0 Δ)) m sl29 io31 ϱ ϱ ϱ (Je ω) ?_);intro _ _ _ bn;obtain⟨_,_,_,_,_,_,_,_,rfl,_⟩:=Jb bn.rd;exact⟨(),⟨F,Sp.refl⟩,⟨_,_,_,rfl,bn⟩⟩
    ·obtain⟨_,_,_,fl,bo⟩:=eR;obtain⟨_,_,_,_,_,_,_,_,rfl,_⟩:=Jb bo.rd;exact Jf A (aC eQ<|aC fl aN) fun _=>PY rfl<|PJ Zi rfl<|⟨(),⟨F,Sp.refl⟩,⟨_,_,_,rfl,bo⟩⟩
    ·obtain⟨_,_,_,fm,bp⟩:=eT;obtain⟨_,_,_,_,_,_,_,_,rfl,fn⟩:=Jb bp.rd;exact Jf A (aC eS<|aC fm aN) fun _=>PY rfl<|P0 pl23 ϱ (bp.cell 1 _ ϱ)<|⟨(),⟨F,Sp.refl⟩,fn.n⟩
    ·obtain⟨_,_,fo,aA⟩:=RS.opn aA;refine Jf A (aC eU<|aC fo aN) fun _=>PY ϱ (P4 (j:=0) (u:=(((xs.getD 0 Δ).n).getD 0 0)) aA sl23 io3 ϱ ϱ ϱ (Je (sH hnu (hall 0 ω).wd WM WM).1.2.2.2.2) ?_);intro _ _ dw bq;obtain⟨rfl,_⟩:dw=_∧_:=bq.rd;exact⟨(),⟨F,Sp.refl⟩,⟨_,_,_,rfl,bq⟩⟩
    ·obtain⟨_,_,dx,fp,br⟩:=eW;obtain⟨rfl,_⟩:dx=_∧_:=br.rd;exact Jf A (aC eV<|aC fp aN) fun _=>PY rfl<|P0 pl3 ϱ (br.cell 0 _ ϱ)<|⟨(),⟨F,Sp.refl⟩,rfl⟩
    obtain⟨_,_,_,fq,ft⟩:=e2;obtain⟨_,_,_,_,_,_,_,_,rfl,_⟩:=Jb ft.rd;obtain⟨_,_,_,fu,fv⟩:=e3;obtain⟨_,_,_,_,_,_,_,_,rfl,_⟩:=Jb fv.rd;obtain⟨_,_,dy,fy,fz⟩:=fa;obtain⟨rfl,_⟩:dy=_∧_:=fz.rd;obtain⟨_,_,_,fA,fB⟩:=fd;obtain⟨_,_,_,_,_,_,_,_,rfl,_⟩:=Jb fB.rd;obtain⟨_,_,_,fC,fD⟩:=ff;obtain⟨_,_,_,_,_,_,_,_,rfl,_⟩:=Jb fD.rd;obtain⟨_,_,fF,bh⟩:=RS.opn bh;obtain⟨_,_,dz,fG,fH⟩:=fg;obtain⟨rfl,_⟩:dz=_∧_:=fH.rd;obtain⟨_,rfl⟩:=mixK A (aC eX<|aC eY<|aC eZ<|aC e0<|aC e1<|aC fq<|aC fu<|aC e4<|aC e5<|aC e6<|aC e7<|aC e8<|aC e9<|aC fy<|aC fb<|aC fc<|aC fA<|aC fC<|aC fF<|aC fG<|aC fh aN);refine OgD (Rq (z:=((a.n.getD 0 0)*(((xs.getD 0 Δ).n).getD 0 0))) ϱ ϱ (Tz _ H')<|OgD<|Rx (t:=false) ϱ ϱ (decide_eq_false ω)<|OT<|Nl<|Uc<|Rg<|Ol<|PJ Jw ϱ ?_);refine Ol (PO E pl3 ϱ rfl<|Ol<|PJ Zi rfl<|Ol<|PO E pl23 ϱ rfl<|Ol<|PJ X5 rfl<|Ol<|PO E pl9 ϱ rfl<|Ub<|PX (cs:=[(.int .i64 a.op),(S12 a1 a.n c2),b13,n11,b13,n11,(str a.name),(S12 xa xs xc)]) ϱ κ ?_);refine On (Us (cs':=[(.int .i64 a.op),(S12 a1 a.n c2),b13,n11,b13,n11,(str a.name),(S12 xa xs xc)]) F Z io31 ?_);intro _ bs bt fI;have p:=p.sp bt;have m:=m.sp bt;exact Ua<|PS<|Jg ϱ ϱ ϱ fI ag31 bs<|⟨_,(.mk a.op a.n YT a.name xs),0,rfl,(Zb p.lo p.hi p.name p.n RS.nil RS.nil m).tr bs.wb,(Kg<|.other (fun h=>by have h1:=h.1;have h2:=h.2.1;have h3:=h.2.2;omega) (fun h=>by have h1:=h.1;have h2:=h.2.1;have h3:=h.2.2;omega) ω ω ω ω S (fun k hk=>hxs k ω))⟩
   refine Rb mixed 21 [[],[0],[1],[2],[3],[3,4],[3,5],[3,6],[3,7],[3,8],[9],[10],[10,11],[10,12],[10,13],[10],[10,15],[10,16],[10,17],[10,18],[10,19]] ah [fx<|.pointer (some ⟨ac,0,none⟩),fx<|.int .i64 a.op,fx<|.bool true,fx<|.bool true,fx<|.slice xa xs.length xc,uE J Jc<|xs.getD 0 Δ,uE J Jc<|xs.getD 0 Δ,fx<|.int .i64 (xs.getD 0 Δ).op,fx<|.bool false,fx<|.bool false,fx<|.bool false,noG,noG,noG,noG,noG,noG,noG,noG,noG,noG] κ ⟨sx,sx,sx,sx,sx,tE,tE,sx,sx,sx,sx,YV,YV,YV,YV,YV,YV,YV,YV,YV,YV,trivial⟩ fun fJ _ G am B=>?_
   have m:=m.sp am;have E:=E.spn am;have Z:=Z.spn am;have B:Keep [87,88,89,90,91,92,93,94,95,96,97,98,99,100,101,102,103,104,105,106,107] _ fJ:=B;refine⟨⟨fun _=>?_,fun⟨fK,_⟩=>?_,fun⟨fL,_⟩=>?_,fun⟨fM,_⟩=>?_,fun⟨fN,_⟩=>?_,fun⟨fO,fP,_⟩=>?_,fun⟨fQ,fR,_⟩=>?_,fun⟨fS,fT,_⟩=>?_,fun⟨fU,fV,_⟩=>?_,fun⟨fW,fX,_⟩=>?_,fun⟨fY,_⟩=>?_,fun⟨fZ,_⟩=>?_,fun⟨f0,_,_⟩=>?_,fun⟨f1,_,_⟩=>?_,fun⟨f2,_,_⟩=>?_,fun⟨f3,_⟩=>?_,fun⟨f4,_,_⟩=>?_,fun⟨f5,_,_⟩=>?_,fun⟨f6,_,_⟩=>?_,fun⟨f7,_,_⟩=>?_,fun⟨f8,_,_⟩=>?_,trivial⟩,fun⟨f9,ga,gb,gc,gd,gf,gg,gi,gj,gk,gl,_,_,_,_,_,_,_,_,_,_,_⟩=>?_⟩
   ·exact Sd0 B fun _=>PJ Jw rfl<|⟨(),⟨G,Sp.refl⟩,rfl⟩
   ·exact Sd1 B fK fun _=>PO E pl3 ϱ rfl<|⟨(),⟨G,Sp.refl⟩,rfl⟩
   ·exact Sd1 B fL fun _=>QZ (t:=true) ϱ ϱ (decide_eq_true ω)<|⟨(),⟨G,Sp.refl⟩,rfl⟩
   ·exact Sd1 B fM fun _=>PP<|⟨(),⟨G,Sp.refl⟩,rfl⟩
   ·exact Jf B (aC fN aN) fun _=>PY rfl<|PP<|⟨(),⟨G,Sp.refl⟩,rfl⟩
   ·refine Jf B (aC fO<|aC fP aN) fun _=>PY ϱ (P4 (j:=0) (u:=(xs.getD 0 Δ)) m sl29 io31 ϱ ϱ ϱ (Je ω) ?_);intro _ _ _ bu;obtain⟨_,_,_,_,_,_,_,_,rfl,_⟩:=Jb bu.rd;exact⟨(),⟨G,Sp.refl⟩,⟨_,_,_,rfl,bu⟩⟩
   ·obtain⟨_,_,_,gm,bv⟩:=fR;obtain⟨_,_,_,_,_,_,_,_,rfl,_⟩:=Jb bv.rd;exact Jf B (aC fQ<|aC gm aN) fun _=>PY rfl<|PJ Jw rfl<|⟨(),⟨G,Sp.refl⟩,⟨_,_,_,rfl,bv⟩⟩
   ·obtain⟨_,_,_,gn,bw⟩:=fT;obtain⟨_,_,_,_,_,_,_,_,rfl,_⟩:=Jb bw.rd;exact Jf B (aC fS<|aC gn aN) fun _=>PY rfl<|P0 pl3 ϱ (bw.cell 0 _ ϱ)<|⟨(),⟨G,Sp.refl⟩,rfl⟩
   ·exact Jf B (aC fU<|aC fV aN) fun _=>PY rfl<|QZ (t:=false) ϱ ϱ (decide_eq_false ω)<|⟨(),⟨G,Sp.refl⟩,rfl⟩
   ·exact Jf B (aC fW<|aC fX aN) fun _=>P1<|QD (t:=true) rfl<|⟨(),⟨G,Sp.refl⟩,rfl⟩
   ·exact Sd1 B fY fun _=>PP<|⟨(),⟨G,Sp.refl⟩,rfl⟩
   ·exact Jf B (aC fZ aN) fun _=>OpSt.opn ϱ ϱ ⟨(),⟨G,Sp.refl⟩,trivial⟩
   ·exact Jf B (aC f0 aN) fun _=>OpSt.opn ϱ ϱ ⟨(),⟨G,Sp.refl⟩,trivial⟩
   ·exact Jf B (aC f1 aN) fun _=>OpSt.opn ϱ ϱ ⟨(),⟨G,Sp.refl⟩,trivial⟩
   ·exact Jf B (aC f2 aN) fun _=>OpSt.opn ϱ ϱ ⟨(),⟨G,Sp.refl⟩,trivial⟩
   ·exact Jf B (aC f3 aN) fun _=>OpSt.opn ϱ ϱ ⟨(),⟨G,Sp.refl⟩,trivial⟩
   ·exact Jf B (aC f4 aN) fun _=>OpSt.opn ϱ ϱ ⟨(),⟨G,Sp.refl⟩,trivial⟩
   ·exact Jf B (aC f5 aN) fun _=>OpSt.opn ϱ ϱ ⟨(),⟨G,Sp.refl⟩,trivial⟩
   ·exact Jf B (aC f6 aN) fun _=>OpSt.opn ϱ ϱ ⟨(),⟨G,Sp.refl⟩,trivial⟩
   ·exact Jf B (aC f7 aN) fun _=>OpSt.opn ϱ ϱ ⟨(),⟨G,Sp.refl⟩,trivial⟩
   ·exact Jf B (aC f8 aN) fun _=>OpSt.opn ϱ ϱ ⟨(),⟨G,Sp.refl⟩,trivial⟩
   obtain⟨_,_,_,gp,gq⟩:=gf;obtain⟨_,_,_,_,_,_,_,_,rfl,_⟩:=Jb gq.rd;obtain⟨_,_,_,gr,gs⟩:=gg;obtain⟨_,_,_,_,_,_,_,_,rfl,_⟩:=Jb gs.rd;obtain⟨_,rfl⟩:=mixK B (aC f9<|aC ga<|aC gb<|aC gc<|aC gd<|aC gp<|aC gr<|aC gi<|aC gj<|aC gk<|aC gl aN);refine Oz (Oz<|OF<|Nl<|Uc<|Rg<|Ol<|PJ Jw rfl<|Ol<|PO E pl3 ϱ rfl<|Ol<|PJ Zi rfl<|Ol<|PO E pl23 ϱ rfl<|Ol<|PJ X5 rfl<|Ol<|PO E pl9 ϱ rfl<|Ub<|PX (cs:=[(.int .i64 a.op),(S12 a1 a.n c2),b13,n11,b13,n11,(str a.name),(S12 xa xs xc)]) ϱ κ ?_);refine On (Us (cs':=[(.int .i64 a.op),(S12 a1 a.n c2),b13,n11,b13,n11,(str a.name),(S12 xa xs xc)]) G Z io31 ?_);intro _ bx bz gt;have p:=(p.sp am).sp bz;have m:=m.sp bz;exact Ua<|PS<|Jg ϱ ϱ ϱ gt ag31 bx<|⟨_,(.mk a.op a.n YT a.name xs),0,rfl,(Zb p.lo p.hi p.name p.n RS.nil RS.nil m).tr bx.wb,(Kg<|.other (fun h=>by have h1:=h.1;have h2:=h.2.1;have h3:=h.2.2;omega) (fun h=>by have h1:=h.1;have h2:=h.2.1;have h3:=h.2.2;omega) ω ω ω ω S (fun k hk=>hxs k ω))⟩
  refine Rb mixed 21 [[],[0],[1],[2],[3],[3,4],[3,5],[3,6],[3,7],[3,8],[9],[10],[10,11],[10,12],[10,13],[10],[10,15],[10,16],[10,17],[10,18],[10,19]] ah [fx<|.pointer (some ⟨ac,0,none⟩),fx<|.int .i64 a.op,fx<|.bool false,fx<|.bool false,noG,noG,noG,noG,noG,fx<|.bool false,fx<|.bool false,noG,noG,noG,noG,noG,noG,noG,noG,noG,noG] κ ⟨sx,sx,sx,sx,YV,YV,YV,YV,YV,sx,sx,YV,YV,YV,YV,YV,YV,YV,YV,YV,YV,trivial⟩ fun gu _ H an D=>?_
  have E:=E.spn an;have Z:=Z.spn an;have D:Keep [87,88,89,90,91,92,93,94,95,96,97,98,99,100,101,102,103,104,105,106,107] _ gu:=D;refine⟨⟨fun _=>?_,fun⟨gv,_⟩=>?_,fun⟨gw,_⟩=>?_,fun⟨gx,_⟩=>?_,fun⟨gy,_⟩=>?_,fun⟨gz,_,_⟩=>?_,fun⟨gA,_,_⟩=>?_,fun⟨gB,_,_⟩=>?_,fun⟨gC,_,_⟩=>?_,fun⟨gD,_,_⟩=>?_,fun⟨gE,_⟩=>?_,fun⟨gF,_⟩=>?_,fun⟨gG,_,_⟩=>?_,fun⟨gH,_,_⟩=>?_,fun⟨gI,_,_⟩=>?_,fun⟨gJ,_⟩=>?_,fun⟨gK,_,_⟩=>?_,fun⟨gL,_,_⟩=>?_,fun⟨gM,_,_⟩=>?_,fun⟨gN,_,_⟩=>?_,fun⟨gO,_,_⟩=>?_,trivial⟩,fun⟨gP,gQ,gR,gS,_,_,_,_,_,gT,gU,_,_,_,_,_,_,_,_,_,_,_⟩=>?_⟩
  ·exact Sd0 D fun _=>PJ Jw rfl<|⟨(),⟨H,Sp.refl⟩,rfl⟩
  ·exact Sd1 D gv fun _=>PO E pl3 ϱ rfl<|⟨(),⟨H,Sp.refl⟩,rfl⟩
  ·exact Sd1 D gw fun _=>QZ (t:=false) ϱ ϱ (decide_eq_false ω)<|⟨(),⟨H,Sp.refl⟩,rfl⟩
  ·exact Sd1 D gx fun _=>PP<|⟨(),⟨H,Sp.refl⟩,rfl⟩
  ·exact Jf D (aC gy aN) fun _=>OpSt.opn ϱ ϱ ⟨(),⟨H,Sp.refl⟩,trivial⟩
  ·exact Jf D (aC gz aN) fun _=>OpSt.opn ϱ ϱ ⟨(),⟨H,Sp.refl⟩,trivial⟩
  ·exact Jf D (aC gA aN) fun _=>OpSt.opn ϱ ϱ ⟨(),⟨H,Sp.refl⟩,trivial⟩
  ·exact Jf D (aC gB aN) fun _=>OpSt.opn ϱ ϱ ⟨(),⟨H,Sp.refl⟩,trivial⟩
  ·exact Jf D (aC gC aN) fun _=>OpSt.opn ϱ ϱ ⟨(),⟨H,Sp.refl⟩,trivial⟩
  ·exact Sd1 D gD fun _=>QD (t:=false) rfl<|⟨(),⟨H,Sp.refl⟩,rfl⟩
  ·exact Sd1 D gE fun _=>PP<|⟨(),⟨H,Sp.refl⟩,rfl⟩
  ·exact Jf D (aC gF aN) fun _=>OpSt.opn ϱ ϱ ⟨(),⟨H,Sp.refl⟩,trivial⟩
  ·exact Jf D (aC gG aN) fun _=>OpSt.opn ϱ ϱ ⟨(),⟨H,Sp.refl⟩,trivial⟩
  ·exact Jf D (aC gH aN) fun _=>OpSt.opn ϱ ϱ ⟨(),⟨H,Sp.refl⟩,trivial⟩
  ·exact Jf D (aC gI aN) fun _=>OpSt.opn ϱ ϱ ⟨(),⟨H,Sp.refl⟩,trivial⟩
  ·exact Jf D (aC gJ aN) fun _=>OpSt.opn ϱ ϱ ⟨(),⟨H,Sp.refl⟩,trivial⟩
  ·exact Jf D (aC gK aN) fun _=>OpSt.opn ϱ ϱ ⟨(),⟨H,Sp.refl⟩,trivial⟩
  ·exact Jf D (aC gL aN) fun _=>OpSt.opn ϱ ϱ ⟨(),⟨H,Sp.refl⟩,trivial⟩
  ·exact Jf D (aC gM aN) fun _=>OpSt.opn ϱ ϱ ⟨(),⟨H,Sp.refl⟩,trivial⟩
  ·exact Jf D (aC gN aN) fun _=>OpSt.opn ϱ ϱ ⟨(),⟨H,Sp.refl⟩,trivial⟩
  ·exact Jf D (aC gO aN) fun _=>OpSt.opn ϱ ϱ ⟨(),⟨H,Sp.refl⟩,trivial⟩
  obtain⟨_,rfl⟩:=mixK D (aC gP<|aC gQ<|aC gR<|aC gS<|aC gT<|aC gU aN);refine Oz (Oz<|OF<|Nl<|Uc<|Rg<|Ol<|PJ Jw rfl<|Ol<|PO E pl3 ϱ rfl<|Ol<|PJ Zi rfl<|Ol<|PO E pl23 ϱ rfl<|Ol<|PJ X5 rfl<|Ol<|PO E pl9 ϱ rfl<|Ub<|PX (cs:=[(.int .i64 a.op),(S12 a1 a.n c2),b13,n11,b13,n11,(str a.name),(S12 xa xs xc)]) ϱ κ ?_);refine On (Us (cs':=[(.int .i64 a.op),(S12 a1 a.n c2),b13,n11,b13,n11,(str a.name),(S12 xa xs xc)]) H Z io31 ?_);intro _ bA bB gV;have p:=(p.sp an).sp bB;have m:=(m.sp an).sp bB;exact Ua<|PS<|Jg ϱ ϱ ϱ gV ag31 bA<|⟨_,(.mk a.op a.n YT a.name xs),0,rfl,(Zb p.lo p.hi p.name p.n RS.nil RS.nil m).tr bA.wb,(Kg<|.other (fun h=>by have h1:=h.1;have h2:=h.2.1;have h3:=h.2.2;omega) (fun h=>by have h1:=h.1;have h2:=h.2.1;have h3:=h.2.2;omega) ω ω ω ω S (fun k hk=>hxs k ω))⟩
theorem Oq{X:Nat→Prop}{w:World}(hX:XB X w)(d:RV Jc X w b a){K:Nat}(hP:NorP K a):CRt 65 #[b] w fun v w'=>(∃(b:Value) (m':GExpr) (e':Int),v= .tuple #[b,.int .i64 e']∧RV Jc X w' b m'∧(Ans (NorR a) m' e')):=FZ ((SizeOf.sizeOf a)+1) hX d hP (VM _)
section
variable{X:Nat→Prop}{w:World}(hX:XB X w)
include hX
theorem H0{n:Int}  :CRt 120 #[(.int .i64 n)] w fun v _=>(∃H I,v= .tuple #[H,I]∧(H=(.agg #[(.int .i64 (sA n)),(.int .i64 (sB n)),(.int .i64 (sC n))]))∧(I=(.bool (okOp n)))):=by
 have C:=PV hX;refine Cgo Tryz.func120 r r r (Rg<|Ol<|PU C Q0 r ?_);intro _ _ _ _ _ a _ b;refine Ua<|Rh<|Om<|Nl<|W.block<|Rh<|Ol<|PW r r (fun E=>?_)<|fun E=>?_
 ·refine Oa (Nl<|Ud<|PR<|Uf<|Ol<|PX (cs:=[(.int .i64 0),(.int .i64 0),(.int .i64 0)]) r κ<|On<|Us (cs':=[(.int .i64 0),(.int .i64 0),(.int .i64 0)]) a b Q0 ?_);intro _ J _ K;refine Oa (Nl<|PS<|Jg r r r K V2 J ?_);refine⟨_,_,rfl,?_,?_⟩
  ·exact Xh YG YG YG
  ·exact YS<|YG
 refine Ua<|Ug<|Ol<|PW r r (fun d=>?_)<|fun d=>?_
 ·refine Oa (Nl<|Ud<|PR<|Uf<|Ol<|PX (cs:=[(.int .i64 0),(.int .i64 0),(.int .i64 0)]) r κ<|On<|Us (cs':=[(.int .i64 0),(.int .i64 0),(.int .i64 0)]) a b Q0 ?_);intro _ L _ M;refine Oa (Nl<|PS<|Jg r r r M V2 L ?_);refine⟨_,_,rfl,?_,?_⟩
  ·exact Xh W4 W4 W4
  ·exact YS<|W4
 refine Ua<|Ug<|Ol<|PW r r (fun e=>?_)<|fun e=>?_
 ·refine Oa (Nl<|Ud<|PR<|Uf<|Ol<|PX (cs:=[(.int .i64 0),(.int .i64 0),(.int .i64 0)]) r κ<|On<|Us (cs':=[(.int .i64 0),(.int .i64 0),(.int .i64 0)]) a b Q0 ?_);intro _ N _ P;refine Oa (Nl<|PS<|Jg r r r P V2 N ?_);refine⟨_,_,rfl,?_,?_⟩
  ·exact Xh P' P' P'
  ·exact YS<|P'
 refine Ua<|Ue<|PN<|Ol<|PW r r (fun g=>?_)<|fun g=>?_
 ·refine Oa (Nl<|Uf<|Ol<|PX (cs:=[(.int .i64 0),(.int .i64 0),(.int .i64 0)]) r κ<|On<|Us (cs':=[(.int .i64 0),(.int .i64 0),(.int .i64 0)]) a b Q0 ?_);intro _ Q _ R;refine Oa (Nl<|PS<|Jg r r r R V2 Q ?_);refine⟨_,_,rfl,?_,?_⟩
  ·exact Xh YE YE YE
  ·exact YS<|YE
 refine Ua<|Ug<|Ol<|PW r r (fun h=>?_)<|fun h=>?_
 ·refine Oa (Nl<|Uf<|Ol<|PX (cs:=[(.int .i64 1),(.int .i64 1),(.int .i64 0)]) r κ<|On<|Us (cs':=[(.int .i64 1),(.int .i64 1),(.int .i64 0)]) a b Q0 ?_);intro _ S _ T;refine Oa (Nl<|PS<|Jg r r r T V2 S ?_);refine⟨_,_,rfl,?_,?_⟩
  ·exact Xh YC YC YC
  ·exact YS<|YC
 refine Ua<|Ue<|Rh<|Ol<|PW r r (fun i=>?_)<|fun i=>?_
 ·refine Oa (Nl<|Ud<|PR<|Uf<|Ol<|PX (cs:=[(.int .i64 4),(.int .i64 4),(.int .i64 0)]) r κ<|On<|Us (cs':=[(.int .i64 4),(.int .i64 4),(.int .i64 0)]) a b Q0 ?_);intro _ U _ V;refine Oa (Nl<|PS<|Jg r r r V V2 U ?_);refine⟨_,_,rfl,?_,?_⟩
  ·exact Xh YB YB YB
  ·exact YS<|YB
 refine Ua<|Ue<|PN<|Ol<|PW r r (fun j=>?_)<|fun j=>?_
 ·refine Oa (Nl<|Uf<|Ol<|PX (cs:=[(.int .i64 4),(.int .i64 4),(.int .i64 0)]) r κ<|On<|Us (cs':=[(.int .i64 4),(.int .i64 4),(.int .i64 0)]) a b Q0 ?_);intro _ Y _ Z;refine Oa (Nl<|PS<|Jg r r r Z V2 Y ?_);refine⟨_,_,rfl,?_,?_⟩
  ·exact Xh YA YA YA
  ·exact YS<|YA
 refine Ua<|Ug<|Ol<|PW r r (fun k=>?_)<|fun k=>?_
 ·refine Oa (Nl<|Uf<|Ol<|PX (cs:=[(.int .i64 2),(.int .i64 41),(.int .i64 0)]) r κ<|On<|Us (cs':=[(.int .i64 2),(.int .i64 41),(.int .i64 0)]) a b Q0 ?_);intro _ aa _ ab;refine Oa (Nl<|PS<|Jg r r r ab V2 aa ?_);refine⟨_,_,rfl,?_,?_⟩
  ·exact Xh XZ XZ XZ
  ·exact YS<|XZ
 refine Ua<|Ug<|Ol<|PW r r (fun l=>?_)<|fun l=>?_
 ·refine Oa (Nl<|Uf<|Ol<|PX (cs:=[(.int .i64 2),(.int .i64 65),(.int .i64 0)]) r κ<|On<|Us (cs':=[(.int .i64 2),(.int .i64 65),(.int .i64 0)]) a b Q0 ?_);intro _ ac _ ad;refine Oa (Nl<|PS<|Jg r r r ad V2 ac ?_);refine⟨_,_,rfl,?_,?_⟩
  ·exact Xh XY XY XY
  ·exact YS<|XY
 refine Ua<|Ue<|Rh<|Ol<|PW r r (fun m=>?_)<|fun m=>?_
 ·refine Oa (Nl<|Ud<|PR<|Uf<|Ol<|PX (cs:=[(.int .i64 0),(.int .i64 0),(.int .i64 (-1))]) r κ<|On<|Us (cs':=[(.int .i64 0),(.int .i64 0),(.int .i64 (-1))]) a b Q0 ?_);intro _ ae _ af;refine Oa (Nl<|PS<|Jg r r r af V2 ae ?_);refine⟨_,_,rfl,?_,?_⟩
  ·exact Xh XX XX XX
  ·exact YS<|XX
 refine Ua<|Ue<|PN<|Ol<|PW r r (fun p=>?_)<|fun p=>?_
 ·refine Oa (Nl<|Uf<|Ol<|PX (cs:=[(.int .i64 0),(.int .i64 0),(.int .i64 (-1))]) r κ<|On<|Us (cs':=[(.int .i64 0),(.int .i64 0),(.int .i64 (-1))]) a b Q0 ?_);intro _ ag _ ah;refine Oa (Nl<|PS<|Jg r r r ah V2 ag ?_);refine⟨_,_,rfl,?_,?_⟩
  ·exact Xh XW XW XW
  ·exact YS<|XW
 refine Ua<|Ue<|Rh<|Ol<|PW r r (fun s=>?_)<|fun s=>?_
 ·refine Oa (Nl<|Ud<|PR<|Uf<|Ol<|PX (cs:=[(.int .i64 1),(.int .i64 1),(.int .i64 1)]) r κ<|On<|Us (cs':=[(.int .i64 1),(.int .i64 1),(.int .i64 1)]) a b Q0 ?_);intro _ ai _ aj;refine Oa (Nl<|PS<|Jg r r r aj V2 ai ?_);refine⟨_,_,rfl,?_,?_⟩
  ·exact Xh XV XV XV
  ·exact YS<|XV
 refine Ua<|Ug<|Ol<|PW r r (fun x=>?_)<|fun x=>?_
 ·refine Oa (Nl<|Ud<|PR<|Uf<|Ol<|PX (cs:=[(.int .i64 1),(.int .i64 1),(.int .i64 1)]) r κ<|On<|Us (cs':=[(.int .i64 1),(.int .i64 1),(.int .i64 1)]) a b Q0 ?_);intro _ ak _ am;refine Oa (Nl<|PS<|Jg r r r am V2 ak ?_);refine⟨_,_,rfl,?_,?_⟩
  ·exact Xh XU XU XU
  ·exact YS<|XU
 refine Ua<|Ug<|Ol<|PW r r (fun y=>?_)<|fun y=>?_
 ·refine Oa (Nl<|Ud<|PR<|Uf<|Ol<|PX (cs:=[(.int .i64 1),(.int .i64 1),(.int .i64 1)]) r κ<|On<|Us (cs':=[(.int .i64 1),(.int .i64 1),(.int .i64 1)]) a b Q0 ?_);intro _ an _ ao;refine Oa (Nl<|PS<|Jg r r r ao V2 an ?_);refine⟨_,_,rfl,?_,?_⟩
  ·exact Xh XT XT XT
  ·exact YS<|XT
 refine Ua<|Ug<|Ol<|PW r r (fun z=>?_)<|fun z=>?_
 ·refine Oa (Nl<|Ud<|PR<|Uf<|Ol<|PX (cs:=[(.int .i64 1),(.int .i64 1),(.int .i64 1)]) r κ<|On<|Us (cs':=[(.int .i64 1),(.int .i64 1),(.int .i64 1)]) a b Q0 ?_);intro _ aq _ ar;refine Oa (Nl<|PS<|Jg r r r ar V2 aq ?_);refine⟨_,_,rfl,?_,?_⟩
  ·exact Xh XS XS XS
  ·exact YS<|XS
 refine Ua<|Ue<|PN<|Ol<|PW r r (fun A=>?_)<|fun A=>?_
 ·refine Oa (Nl<|Uf<|Ol<|PX (cs:=[(.int .i64 1),(.int .i64 1),(.int .i64 1)]) r κ<|On<|Us (cs':=[(.int .i64 1),(.int .i64 1),(.int .i64 1)]) a b Q0 ?_);intro _ au _ av;refine Oa (Nl<|PS<|Jg r r r av V2 au ?_);refine⟨_,_,rfl,?_,?_⟩
  ·exact Xh YJ YJ YJ
  ·exact YS<|YJ
 refine Ua<|Ug<|Ol<|PW r r (fun B=>?_)<|fun B=>?_
 ·refine Oa (Nl<|Uf<|Ol<|PX (cs:=[(.int .i64 0),(.int .i64 0),(.int .i64 1)]) r κ<|On<|Us (cs':=[(.int .i64 0),(.int .i64 0),(.int .i64 1)]) a b Q0 ?_);intro _ aw _ ax;refine Oa (Nl<|PS<|Jg r r r ax V2 aw ?_);refine⟨_,_,rfl,?_,?_⟩
  ·exact Xh YI YI YI
  ·exact YS<|YI
 refine Ua<|Ug<|Ol<|PW r r (fun D=>?_)<|fun D=>?_
 ·refine Oa (Nl<|Uf<|Ol<|PX (cs:=[(.int .i64 1),(.int .i64 1),(.int .i64 2)]) r κ<|On<|Us (cs':=[(.int .i64 1),(.int .i64 1),(.int .i64 2)]) a b Q0 ?_);intro _ ay _ az;refine Oa (Nl<|PS<|Jg r r r az V2 ay ?_);refine⟨_,_,rfl,?_,?_⟩
  ·exact Xh YH YH YH
  ·exact YS<|YH
 refine Oa (Nl<|Uc<|Rg<|Ol<|PX (cs:=[(.int .i64 0),(.int .i64 0),(.int .i64 0)]) r κ<|On<|Us (cs':=[(.int .i64 0),(.int .i64 0),(.int .i64 0)]) a b Q0 ?_);intro _ F _ G;refine Oa (Nl<|PS<|Jg r r r G V2 F ?_);refine⟨_,_,rfl,?_,?_⟩
 ·exact Xh (by unfold sA;rw[if_neg o]) (by unfold sB;rw[if_neg o]) (by unfold sC;rw[if_neg o,if_neg o])
 ·exact YS<|(decide_eq_false o).symm
theorem HH{v0:Value}(r0:RV Jc X w v0 a)(hl:a.args.length≤60)(hok:OkO a):CRt 80 #[v0] w fun v _=>v=(.int .i64 (Xm a)):=by
 obtain⟨a1,I,B,D,E,F,J,K,rfl,e⟩:=SR r0;have C:=PV hX;have bp:=hok.one.1;have bq:=hok.one.2.1;have br:=hok.one.2.2;have hnl:=r0.n_max;refine Cgo Tryz.func80 r r r (Rg<|Ol<|QA C r ?_);intro H _ _ _ _ av be k;refine Oa (Nl<|Rg<|Ol<|PJ Jw rfl<|Ol<|PO k pl3 r rfl<|Ol<|PK av Ov r r (H0 av.bd) ?_);intro _ _ bf aw bg;have e:=(e.sp be).sp aw;have k:=k.spn aw;obtain⟨_,_,rfl,rfl,rfl⟩:=bg;refine Om (Ol<|St.extract r rfl<|Ol<|St.extract r rfl<|Ol<|PU bf Q0 r ?_);intro M _ _ _ lt31 bh ax bi;have bj:=lt31 _ k.blk.lt;refine On (Us (cs':=[(.int .i64 (sA a.op)),(.int .i64 (sB a.op)),(.int .i64 (sC a.op))]) bh bi Q0 ?_);intro _ m ay p;have e:=(e.sp ax).sp ay;have k:=(k.spn ax).spo ay bj;refine Ua<|PT<|Rm (fun f v=>∃(x y:Nat→Prop),Cx X w x y v∧f 1=(P10 H 0)∧ExprParts x v a a1 I B D E F J K∧Own w y v H (ec a a1 I B D E F J K) 31∧Own w y v M [(.int .i64 (sA a.op)),(.int .i64 (sB a.op)),(.int .i64 (sC a.op))] 125∧cntOk a) ?_ ?_
 ·refine Rg<|Ol<|QF<|PP ⟨_,rfl,fun N=>?_,fun N=>?_⟩
  ·refine Ol<|QI rfl<|Om<|OgD<|PJ Zi rfl<|OgD<|PO k pl23 r rfl<|OgD<|St.len sl23 rfl<|OgD<|PJ F2 rfl<|OgD<|PO p pl3 r rfl<|OgD<|P2 r r (fun aF=>?_)<|fun aF=>?_
   ·refine OF (Om<|Oz<|Oz<|Oz<|Oz<|Oz<|Oz<|OT<|Om<|Oz<|Oz<|Oz<|Oz<|OyD<|OyD<|OyD<|OyD<|OyD<|OyD<|Oz<|OT ?_);exact Om<|Oz<|Oz<|Oz<|Oz<|OyD<|OyD<|OyD<|OyD<|Oz<|OT<|Nl<|Uf<|Ua<|PS<|Wq r r m<|YR<|nX<|nY<|.inr o
   refine OF<|Om<|OgD<|PJ Zi rfl<|OgD<|PO k pl23 r rfl<|OgD<|St.len sl23 rfl<|OgD<|PJ FQ rfl<|OgD<|PO p pl3 r rfl<|OgD<|QN r r (fun aG=>?_)<|fun aG=>?_
   ·refine OF (Om<|Oz<|Oz<|Oz<|Oz<|OyD<|OyD<|OyD<|OyD<|OyD<|OyD<|Oz<|OT<|Om<|Oz<|Oz<|Oz<|Oz<|OyD<|OyD<|Oy r r ?_);exact OyD<|Oz<|OT<|Nl<|Uf<|Ua<|PS<|Wq r r m<|YR<|nX<|nY<|.inr o
   refine OF<|Om<|OgD<|PJ po rfl<|OgD<|PO p pl3 r rfl<|OgD<|Ra r r (fun aH=>?_)<|fun aH=>?_
   ·refine OgD<|PP<|OgD<|PJ J8 rfl<|OgD<|PO k pl29 r rfl<|OgD<|St.len sl29 rfl<|OgD<|PJ po rfl<|OgD<|PO p pl3 r rfl<|OgD<|QH r r (fun aI=>?_)<|fun aI=>?_
    ·exact OgD<|QD (t:=true) rfl<|OF<|Om<|Oz<|Oz<|Oz<|Oz<|OyD<|OyD<|OyD<|OyD<|Oz<|OT<|Nl<|Uf<|Ua<|PS<|Wq r r m<|YR<|nX<|nY<|.inr o
    refine OgD<|QD (t:=true) rfl<|OF<|Om<|OgD<|PJ po rfl<|OgD<|PO p pl3 r rfl<|OgD<|P2 r r (fun aJ=>?_)<|fun aJ=>?_
    ·refine OgD<|PP<|OgD<|PJ J8 rfl<|OgD<|PO k pl29 r rfl<|OgD<|St.len sl29 rfl<|OgD<|P2 r r (fun aK=>?_)<|fun aK=>?_
     ·exact OgD<|QD (t:=true) rfl<|OF<|Nl<|Uf<|Ua<|PS<|Wq r r m<|YR<|nX<|nY<|.inr o
     refine OgD<|QD (t:=true) rfl<|OF<|Nl<|Uc<|⟨_,_,m,rfl,e,k,p,(tY WM o o (fun _=>by omega) (fun _=>by omega) hl)⟩
    refine OgD<|PP<|Oz<|Oz<|Oz<|Oz<|OgD<|QD (t:=false) rfl<|OF<|Nl<|Uc<|⟨_,_,m,rfl,e,k,p,(tY WM o o (fun _=>by omega) (fun _=>by omega) hl)⟩
   refine OgD<|PP<|Oz<|Oz<|Oz<|Oz<|Oz<|Oz<|OgD<|QD (t:=false) rfl<|OF<|Om<|OgD<|PJ po rfl<|OgD<|PO p pl3 r rfl<|OgD<|P2 r r (fun aL=>?_)<|fun aL=>?_
   ·refine OgD<|PP<|OgD<|PJ J8 rfl<|OgD<|PO k pl29 r rfl<|OgD<|St.len sl29 rfl<|OgD<|P2 r r (fun aM=>?_)<|fun aM=>?_
    ·exact OgD<|QD (t:=true) rfl<|OF<|Nl<|Uf<|Ua<|PS<|Wq r r m<|YR<|nX<|nY<|.inr o
    refine OgD<|QD (t:=true) rfl<|OF<|Nl<|Uc<|⟨_,_,m,rfl,e,k,p,(tY WM o o (fun _=>by omega) (fun _=>by omega) hl)⟩
   refine OgD<|PP<|Oz<|Oz<|Oz<|Oz<|OgD<|QD (t:=false) rfl<|OF<|Nl<|Uc<|⟨_,_,m,rfl,e,k,p,(tY WM o o (fun _=>by omega) (fun _=>by omega) hl)⟩
  refine Ol (QI rfl<|Om<|Oz<|Oz<|Oz<|Oz<|Oz<|Oz<|OT<|Om<|Oz<|Oz<|Oz<|Oz<|Oz<|Oz<|OT<|Om<|Oz<|Ox r r r ?_);refine Oz (Oz<|OyD<|OyD<|OyD<|OyD<|OyD<|OyD<|Oz<|OT<|Om<|Oz<|Oz<|Oz<|Oz<|OyD<|OyD<|OyD<|OyD<|Oz<|OT<|Nl<|PM r ?_);exact Rg<|Ua<|PS<|Wq r r m<|YR<|nX<|nY<|.inl N
 rintro _ _ ⟨_,_,A,az,e,d,g,hcn⟩;obtain⟨_,rfl⟩:=rebK (aC az aN);clear az;refine PT<|Rm (fun f v=>∃(x y:Nat→Prop),Cx X w x y v∧f 1=(P10 H 0)∧ExprParts x v a a1 I B D E F J K∧Own w y v H (ec a a1 I B D E F J K) 31∧Own w y v M [(.int .i64 (sA a.op)),(.int .i64 (sB a.op)),(.int .i64 (sC a.op))] 125∧nameOk a) ?_ ?_
 ·refine Rg<|Ol<|PJ Jw rfl<|Ol<|PO d pl3 r rfl<|Ol<|PW r r (fun aO=>?_)<|fun aO=>?_
  ·refine Om (OgD<|PJ X5 rfl<|OgD<|PO d pl9 r rfl<|OgD<|QF<|PK A cb18 r r (oy A.bd) ?_);intro _ _ G P bk;have e:=e.sp P;have d:=d.spn P;have g:=g.spn P;refine⟨_,bk,fun aP=>?_,fun aP=>?_⟩
   ·refine OgD<|QI rfl<|OT<|Om<|OgD<|PJ Jw rfl<|OgD<|PO d pl3 r rfl<|OgD<|QH r r (fun aQ=>?_)<|fun aQ=>?_
    ·refine OgD<|PP<|OgD<|PJ X5 rfl<|OgD<|PO d pl9 r rfl<|OgD<|RX r r (fun aR=>?_)<|fun aR=>?_
     ·exact OgD<|QD (t:=true) rfl<|OF<|Om<|Oz<|Oz<|Oz<|Oz<|OyD<|OyD<|OyD<|OyD<|Oz<|OT<|Nl<|Uf<|Ua<|PS<|Wq r r G<|YR<|θ
     refine OgD<|QD (t:=true) rfl<|OF<|Om<|OgD<|PJ Jw rfl<|OgD<|PO d pl3 r rfl<|OgD<|QH r r (fun aS=>?_)<|fun aS=>?_
     ·refine OgD (PP<|OgD<|PJ Yv rfl<|OgD<|Uo (vs:=(qqC a.c B D E F)) d ag28<|OgD<|PK G nh r r (Q8 G.bd (a:=a.c) (Jz e.num e.den) o o) ?_);intro _ _ aA Q bl;have e:=e.sp Q;have d:=d.spn Q;have g:=g.spn Q;subst bl;refine OgD<|QH r r (fun aT=>?_)<|fun aT=>?_
      ·exact OgD<|QD (t:=true) rfl<|OF<|Nl<|Uf<|Ua<|PS<|Wq r r aA<|YR<|θ
      refine OgD<|QD (t:=true) rfl<|OF<|Nl<|Uc<|⟨_,_,aA,rfl,e,d,g,π⟩
     refine OgD<|PP<|Oz<|Oz<|Oz<|Oz<|OgD<|QD (t:=false) rfl<|OF<|Nl<|Uc<|⟨_,_,G,rfl,e,d,g,π⟩
    refine OgD<|PP<|Oz<|Oz<|Oz<|OgD<|QD (t:=false) rfl<|OF<|Om<|OgD<|PJ Jw rfl<|OgD<|PO d pl3 r rfl<|OgD<|QH r r (fun aU=>?_)<|fun aU=>?_
    ·refine OgD (PP<|OgD<|PJ Yv rfl<|OgD<|Uo (vs:=(qqC a.c B D E F)) d ag28<|OgD<|PK G nh r r (Q8 G.bd (a:=a.c) (Jz e.num e.den) o o) ?_);intro _ _ aB R bm;have e:=e.sp R;have d:=d.spn R;have g:=g.spn R;subst bm;refine OgD<|QH r r (fun aV=>?_)<|fun aV=>?_
     ·exact OgD<|QD (t:=true) rfl<|OF<|Nl<|Uf<|Ua<|PS<|Wq r r aB<|YR<|θ
     refine OgD<|QD (t:=true) rfl<|OF<|Nl<|Uc<|⟨_,_,aB,rfl,e,d,g,π⟩
    refine OgD<|PP<|Oz<|Oz<|Oz<|Oz<|OgD<|QD (t:=false) rfl<|OF<|Nl<|Uc<|⟨_,_,G,rfl,e,d,g,π⟩
   refine OgD (QI rfl<|OT<|Om<|Oz<|Oz<|Oz<|Oz<|OyD<|OyD<|OyD<|Oz<|OT<|Om<|Oz<|Oz<|Oz<|Oz<|OyD<|OyD<|OyD<|Oy r r ?_);exact Oz<|OT<|Nl<|Uf<|Ua<|PS<|Wq r r G<|YR<|θ
  refine Om<|Oz<|Oz<|Oz<|Oz<|OF<|Om<|OgD<|PJ Jw rfl<|OgD<|PO d pl3 r rfl<|OgD<|QH r r (fun aW=>?_)<|fun aW=>?_
  ·refine OgD<|PP<|OgD<|PJ X5 rfl<|OgD<|PO d pl9 r rfl<|OgD<|RX r r (fun aX=>?_)<|fun aX=>?_
   ·exact OgD<|QD (t:=true) rfl<|OF<|Om<|Oz<|Oz<|Oz<|Oz<|OyD<|OyD<|OyD<|OyD<|Oz<|OT<|Nl<|Uf<|Ua<|PS<|Wq r r A<|YR<|θ
   refine OgD<|QD (t:=true) rfl<|OF<|Om<|OgD<|PJ Jw rfl<|OgD<|PO d pl3 r rfl<|OgD<|QH r r (fun aY=>?_)<|fun aY=>?_
   ·refine OgD (PP<|OgD<|PJ Yv rfl<|OgD<|Uo (vs:=(qqC a.c B D E F)) d ag28<|OgD<|PK A nh r r (Q8 A.bd (a:=a.c) (Jz e.num e.den) o o) ?_);intro _ _ aD S bn;have e:=e.sp S;have d:=d.spn S;have g:=g.spn S;subst bn;refine OgD<|QH r r (fun aZ=>?_)<|fun aZ=>?_
    ·exact OgD<|QD (t:=true) rfl<|OF<|Nl<|Uf<|Ua<|PS<|Wq r r aD<|YR<|θ
    refine OgD<|QD (t:=true) rfl<|OF<|Nl<|Uc<|⟨_,_,aD,rfl,e,d,g,π⟩
   refine OgD<|PP<|Oz<|Oz<|Oz<|Oz<|OgD<|QD (t:=false) rfl<|OF<|Nl<|Uc<|⟨_,_,A,rfl,e,d,g,π⟩
  refine OgD<|PP<|Oz<|Oz<|Oz<|OgD<|QD (t:=false) rfl<|OF<|Om<|OgD<|PJ Jw rfl<|OgD<|PO d pl3 r rfl<|OgD<|QH r r (fun a0=>?_)<|fun a0=>?_
  ·refine OgD (PP<|OgD<|PJ Yv rfl<|OgD<|Uo (vs:=(qqC a.c B D E F)) d ag28<|OgD<|PK A nh r r (Q8 A.bd (a:=a.c) (Jz e.num e.den) o o) ?_);intro _ _ aE T bo;have e:=e.sp T;have d:=d.spn T;have g:=g.spn T;subst bo;refine OgD<|QH r r (fun a4=>?_)<|fun a4=>?_
   ·exact OgD<|QD (t:=true) rfl<|OF<|Nl<|Uf<|Ua<|PS<|Wq r r aE<|YR<|θ
   refine OgD<|QD (t:=true) rfl<|OF<|Nl<|Uc<|⟨_,_,aE,rfl,e,d,g,π⟩
  refine OgD<|PP<|Oz<|Oz<|Oz<|Oz<|OgD<|QD (t:=false) rfl<|OF<|Nl<|Uc<|⟨_,_,A,rfl,e,d,g,π⟩
 rintro _ _ ⟨_,_,s,U,e,l,z,hnm⟩;obtain⟨_,rfl⟩:=rebK (aC U aN);clear U;refine Rg<|Oa<|Ua<|PT<|Rm (fun f v=>∃(x y:Nat→Prop),Cx X w x y v∧f 1=(P10 H 0)∧f 5=(.int .i64 (lA a.op))∧f 6=(.int .i64 (lB a.op))∧ExprParts x v a a1 I B D E F J K∧Own w y v H (ec a a1 I B D E F J K) 31∧Own w y v M [(.int .i64 (sA a.op)),(.int .i64 (sB a.op)),(.int .i64 (sC a.op))] 125) ?_ ?_
 ·refine Rg<|Ol<|PJ Jw rfl<|Ol<|PO l pl3 r rfl<|Nl<|W.block<|Rg<|Ol<|PW r r (fun ah=>?_)<|fun ah=>?_
  ·refine Ua<|Uk<|Oa<|Ua<|⟨_,_,s,rfl,(YR r'),(YR n'),e,l,z⟩
  refine Ua<|Ue<|Rh<|Ol<|PW r r (fun ai=>?_)<|fun ai=>?_
  ·refine Ua<|Ud<|PR<|Uk<|Oa<|Ua<|⟨_,_,s,rfl,(YR r'),(YR n'),e,l,z⟩
  refine Ua<|Ug<|Ol<|PW r r (fun aj=>?_)<|fun aj=>?_
  ·refine Ua<|Ud<|PR<|Uk<|Oa<|Ua<|⟨_,_,s,rfl,(YR r'),(YR n'),e,l,z⟩
  refine Ua<|Ue<|PN<|Ol<|PW r r (fun ak=>?_)<|fun ak=>?_
  ·refine Ua<|Uk<|Oa<|Ua<|⟨_,_,s,rfl,(YR r'),(YR n'),e,l,z⟩
  refine Ua<|Ug<|Ol<|PW r r (fun am=>?_)<|fun am=>?_
  ·refine Ua<|Uk<|Oa<|Ua<|⟨_,_,s,rfl,(YR r'),(YR n'),e,l,z⟩
  refine Ua<|Ug<|Ol<|PW r r (fun an=>?_)<|fun an=>?_
  ·refine Ua<|Uk<|Ua<|⟨_,_,s,rfl,(YR r'),(YR n'),e,l,z⟩
  refine Ua<|Uc<|⟨_,_,s,rfl,(YR r'),(YR n'),e,l,z⟩
 rintro _ _ ⟨_,_,a6,V,Y,Z,e,aa,a8⟩;obtain⟨_,rfl⟩:=rebK (aC V<|aC Y<|aC Z aN);clear V Y Z;refine Rh (Ol<|PJ Zi rfl<|Ol<|PO aa pl23 r rfl<|Ol<|St.len sl23 rfl<|Om<|Nl<|W.block<|P7 (fun μ f v=>∃(x y:Nat→Prop) (i:Nat),Cx X w x y v∧f 5=(.int .i64 (lA a.op))∧f 6=(.int .i64 (lB a.op))∧f 100=(S12 a1 a.n I)∧f 101=(.int .i64 a.n.length)∧f 102=(.int .i64 i)∧ExprParts x v a a1 I B D E F J K∧Own w y v H (ec a a1 I B D E F J K) 31∧Own w y v M [(.int .i64 (sA a.op)),(.int .i64 (sB a.op)),(.int .i64 (sC a.op))] 125∧i≤a.n.length∧(∀j,j<i→lA a.op≤a.n.getD j 0∧a.n.getD j 0≤lB a.op)∧μ=(a.n.length-i)) _ ⟨_,_,0,a6,rfl,rfl,rfl,rfl,rfl,e,aa,a8,(Tv _),(fun _ h=>absurd h<|TC _),rfl⟩ ?_);rintro _ _ _ ⟨_,_,i,L,ab,ac,ad,ae,af,e,a9,ba,_,hall,_⟩;obtain⟨_,rfl⟩:=rebK (aC ab<|aC ac<|aC ad<|aC ae<|aC af aN);clear ab ac ad ae af;refine Rg<|Ol<|P2 r r (fun ao=>?_)<|fun ao=>?_
 ·refine Nl (PT<|Ud<|PR<|PT<|W.block<|Rg<|Ol<|P4 (j:=i) (u:=(a.n.getD i 0)) e.n sl23 io3 r r r (Je o) ?_);intro _ _ aq ag;obtain⟨rfl,_⟩:aq=_∧_:=ag.rd;refine Ol<|P0 pl3 r (ag.cell 0 _ r)<|Ua<|Rg<|Om<|Ub<|P2 r r (fun ar=>?_)<|fun ar=>?_
  ·exact Om<|Oz<|Oz<|Oz<|OT<|Nl<|Uf<|Ua<|PS<|Wq r r L<|YR<|Ed hcn hnm (i:=i) o o
  refine Om<|OgD<|PP<|OgD<|PP<|OgD<|QN r r (fun au=>?_)<|fun au=>?_
  ·exact OF<|Nl<|Uf<|Ua<|PS<|Wq r r L<|YR<|Ed hcn hnm (i:=i) o o
  refine OF<|Nl<|Uc<|PN<|Ol<|St.add r r (Ja (a:=i) (b:=1) o)<|Om<|Nl<|⟨_,o,_,_,(i+1),L,rfl,rfl,rfl,rfl,rfl,e,a9,ba,o,(qp hall ⟨by omega,o⟩),rfl⟩
 exact Nl<|PT<|Ue<|QB<|Rg<|Ua<|PS<|Wq r r L<|YR<|Pp hcn hnm (i:=i) o hall
omit hX
theorem vM(N:Nat):∀ {X:Nat→Prop} {w:World} (hX:XB X w) {K:Value} {a:GExpr} (L:RV Jc X w K a) (T:cntE a≤60) (hok:OkO a) (hN:(SizeOf.sizeOf a)<N),CRt 50 #[K] w fun v _=>v=(.int .i64 (errE a)):=by
 induction N with
 |zero=>intro X w hX K a L T hok hN;exact absurd hN<|TC _
 |succ N ih=>
  intro X w hX K a L T hok hN;obtain⟨a1,M,P,Q,R,S,m,p,rfl,d⟩:=SR L;have C:=PV hX;have hal:=L.args_max;have hce:=Z7 a;have hac:=qo a;refine Cgo Tryz.func50 r r r (Rg<|Ol<|QA C r ?_);intro aj _ _ _ _ U ak h;have d:=d.sp ak;refine Oa (Nl<|Rh<|Ol<|Uo (vs:=(ec a a1 M P Q R S m p)) h ag31<|Ol<|PK U cb80 r r (HH U.bd (Mx a d) o hok) ?_);intro _ _ V Y am;have d:=d.sp Y;have h:=h.spn Y;subst am;refine Ua<|Rg<|Ub<|QH r r (fun g=>?_)<|fun g=>?_
  ·exact Nl<|Uf<|Om<|Ua<|PS<|Wq r r V<|YR<|H8 r g
  refine Nl (Uc<|Rh<|Ol<|PJ J8 rfl<|Ol<|PO h pl29 r rfl<|Ol<|St.len sl29 rfl<|Om<|Nl<|W.block<|P7 (fun μ f v=>∃(x y:Nat→Prop) (i:Nat),Cx X w x y v∧f 13=(S12 m a.args p)∧f 14=(.int .i64 a.args.length)∧f 15=(.int .i64 i)∧ExprParts x v a a1 M P Q R S m p∧Own w y v aj (ec a a1 M P Q R S m p) 31∧i≤a.args.length∧errL (a.args.drop i)=errL a.args∧μ=(a.args.length-i)) _ ⟨_,_,0,V,rfl,rfl,rfl,d,h,(Tv _),rfl,rfl⟩ ?_);rintro _ _ _ ⟨_,_,i,Z,aa,ab,ac,d,e,_,hv,_⟩;obtain⟨_,rfl⟩:=rebK (aC aa<|aC ab<|aC ac aN);clear aa ab ac;refine Rg<|Ol<|P2 r r (fun ah=>?_)<|fun ah=>?_
  ·refine Nl (PT<|Ud<|PR<|PT<|W.block<|Rg<|Ol<|P4 (j:=i) (u:=(Ar a i)) d.args sl29 io31 r r r (Je o) ?_);intro _ _ _ ad;obtain⟨s,z,A,B,D,E,F,G,rfl,H⟩:=Jb ad.rd;refine Ol (QE (cs:=(ec (Ar a i) s z A B D E F G)) ag31 r r ad.cell<|Ol<|PU Z io31 r ?_);intro _ _ _ _ ai an I ao;have aq:=ai _ e.blk.lt;have d:=d.sp I;have e:=e.spn I;refine On (Us (cs':=(ec (Ar a i) s z A B D E F G)) an ao io31 ?_);intro _ ae J ar;have H:=(H.sp I).sp J;refine Nl (Rg<|Ol<|Uo (vs:=(ec (Ar a i) s z A B D E F G)) ar ag31<|Ol<|PK ae cb50 r r (ih ae.bd (Mx (Ar a i) H) (by have h7:=yb (l:=a.args) (i:=i) o;unfold Ar;omega) (hok.arg o)<|Ti (Kz o)<|Nat.le_of_lt_succ hN) ?_);intro _ _ af ag au;have d:=(d.sp J).sp ag;have e:=(e.spo J aq).spn ag;subst au;refine Ua<|Rg<|Ub<|QH r r (fun k=>?_)<|fun k=>?_
   ·exact Nl<|Uf<|Om<|Ua<|PS<|Wq r r af<|YR<|Iy g o hv k
   refine Nl<|Uc<|PN<|Ol<|St.add r r (Ja (a:=i) (b:=1) o)<|Om<|Nl<|⟨_,o,_,_,(i+1),af,rfl,rfl,rfl,d,e,o,(FY o hv k),rfl⟩
  exact Nl<|PT<|Ue<|QB<|Rg<|Ua<|PS<|Wq r r Z<|YR<|Lq g o hv
include hX
theorem DR(e:RV Jc X w b a)(d:cntE a≤60)(hok:OkO a):CRt 50 #[b] w fun v _=>v=(.int .i64 (errE a)):=vM ((SizeOf.sizeOf a)+1) hX e d hok (VM _)
theorem uH{y:Value}(E:RV Jc X w y a)(hok:OkO a):CRt 20 #[y] w fun v _=>v=(.int .i64 (Jn a)):=by
 obtain⟨a1,j,k,l,m,p,s,x,rfl,e⟩:=SR E;have C:=PV hX;refine Cgo Tryz.func20 r r r (Rg<|Ol<|QA C r ?_);intro _ _ _ _ _ h z d;have e:=e.sp z;refine Oa (Nl<|Rh<|Ol<|Uo (vs:=(ec a a1 j k l m p s x)) d ag31<|Ol<|QF<|PK h cb49 r r (Bl h.bd<|Mx a e) ?_);intro _ _ g i A;have e:=e.sp i;have d:=d.spn i;refine⟨_,A,fun b=>?_,fun b=>?_⟩
 ·refine Ol (QI rfl<|Nl<|Uc<|Rg<|Ol<|Uo (vs:=(ec a a1 j k l m p s x)) d ag31<|Ol<|PK g cb50 r r (DR g.bd (Mx a e) (of_decide_eq_true b).1 hok) ?_);intro _ _ B _ D;subst D;exact Ua<|PS<|Wq r r B<|YR<|GD<|of_decide_eq_true b
 exact Ol<|QI rfl<|Nl<|Uf<|Ua<|PS<|Wq r r g<|YR<|zI<|of_decide_eq_false b
theorem xh(d:RV Jc X w b a)(hok:okE a):CRt 20 #[b] w fun v _=>v=(.int .i64 (Jn a)):=uH hX d hok.o
end
section
variable{X:Nat→Prop}{w:World}(hX:XB X w)
include hX
theorem Nb{P:Value}{a:List Int}(h:RS Zg X w P a){Q:Value}{b:List Int}(k:RS Zg X w Q b)(hab:a=b):CRt 34 #[P,Q] w fun v _=>v=b14:=by
 obtain⟨a1,l,rfl,_,_⟩:=h.len;obtain⟨m,p,rfl,_,_⟩:=k.len;have C:=PV hX;have hlen:a.length=b.length:=by rw[hab]
 have hml:=Es h;refine Cgo Tryz.func34 r r r (Rg<|Ua<|Rh<|Ub<|St.len sl23 rfl<|Ub<|St.len sl23 rfl<|Ol<|Rj (t:=false) r r WQ<|Nl<|PL r ?_);refine PR (Rh<|Ua<|W.block<|P7 (fun μ f v=>∃(x y:Nat→Prop) (i:Nat),Cx X w x y v∧f 0=(S12 a1 a l)∧f 1=(S12 m b p)∧f 5=(.int .i64 i)∧RS Zg x v (S12 a1 a l) a∧RS Zg x v (S12 m b p) b∧i≤a.length∧μ=(a.length-i)) _ ⟨_,_,0,C,rfl,rfl,rfl,h,k,(Tv _),rfl⟩ ?_);rintro _ _ _ ⟨_,_,i,R,s,z,A,h,k,_,_⟩;obtain⟨_,rfl⟩:=rebK (aC s<|aC z<|aC A aN);clear s z A;refine Rh<|Om<|Ub<|St.len sl23 rfl<|Ol<|P2 r r (fun H=>?_)<|fun H=>?_
 ·refine Nl<|Ud<|PR<|PT<|W.block<|PT<|QL mixed 8 [[],[],[0,1],[2],[],[],[4,5],[6]] R [fx<|.slice a1 a.length l,fx<|.int .i64 (i:Int),fE Zg<|a.getD i 0,fx<|.int .i64 (a.getD i 0),fx<|.slice m b.length p,fx<|.int .i64 (i:Int),fE Zg<|b.getD i 0,fx<|.int .i64 (b.getD i 0)] κ ⟨sx,sx,sE,sx,sx,sx,sE,sx,trivial⟩ fun S g _ ⟨e,B⟩ d=>?_
  have h:=h.sp B;have k:=k.sp B;have d:Keep [17,18,19,20,21,22,23,24] _ S:=d;refine⟨⟨fun _=>?_,fun _=>?_,fun⟨T,U,_⟩=>?_,fun⟨V,_⟩=>?_,fun _=>?_,fun _=>?_,fun⟨Y,Z,_⟩=>?_,fun⟨aa,_⟩=>?_,trivial⟩,fun⟨ab,ac,ad,ae,af,ag,ah,ai,_⟩=>?_⟩
  ·exact Sd0 d fun _=>PP ⟨g,PQ e,rfl⟩
  ·exact Sd0 d fun _=>PP ⟨g,PQ e,rfl⟩
  ·refine Jf d (aC T<|aC U aN) fun _=>P1 (P4 (j:=i) (u:=(a.getD i 0)) h sl23 io3 r r r (Je o) ?_);intro _ _ I D;obtain⟨rfl,_⟩:I=_∧_:=D.rd;exact⟨g,PQ e,⟨_,_,_,rfl,D⟩⟩
  ·obtain⟨_,_,J,aj,E⟩:=V;obtain⟨rfl,_⟩:J=_∧_:=E.rd;exact Sd1 d aj fun _=>P0 pl3 r (E.cell 0 _ r) ⟨g,PQ e,rfl⟩
  ·exact Sd0 d fun _=>PP ⟨g,PQ e,rfl⟩
  ·exact Sd0 d fun _=>PP ⟨g,PQ e,rfl⟩
  ·refine Jf d (aC Y<|aC Z aN) fun _=>P1 (P4 (j:=i) (u:=(b.getD i 0)) k sl23 io3 r r r (Je o) ?_);intro _ _ K F;obtain⟨rfl,_⟩:K=_∧_:=F.rd;exact⟨g,PQ e,⟨_,_,_,rfl,F⟩⟩
  ·obtain⟨_,_,L,ak,G⟩:=aa;obtain⟨rfl,_⟩:L=_∧_:=G.rd;exact Sd1 d ak fun _=>P0 pl3 r (G.cell 0 _ r) ⟨g,PQ e,rfl⟩
  obtain⟨_,_,M,am,an⟩:=ad;obtain⟨rfl,_⟩:M=_∧_:=an.rd;obtain⟨_,_,N,ao,aq⟩:=ah;obtain⟨rfl,_⟩:N=_∧_:=aq.rd;obtain⟨_,rfl⟩:=mixK d (aC ab<|aC ac<|aC am<|aC ae<|aC af<|aC ag<|aC ao<|aC ai aN);refine Ol<|Rj (t:=false) r r Wt<|Nl<|Uc<|PN<|Ub<|St.add r r (Ja (a:=i) (b:=1) o)<|Ua<|⟨_,o,_,_,(i+1),e,rfl,rfl,rfl,h,k,o,rfl⟩
 refine Nl<|Ue<|QB<|Rg<|Ua<|PS<|Wq r r R ?_
 rfl
theorem w2{v0:Value}{a:GInt}(r0:RV Z0 X w v0 a){v1:Value}{b:GInt}(r1:RV Z0 X w v1 b)(hab:a=b):CRt 72 #[v0,v1] w fun v _=>v=b14:=by
 obtain⟨a1,D,rfl,h⟩:=RV.int r0;obtain⟨E,F,rfl,k⟩:=RV.int r1;have C:=PV hX;have hlen:a.mag.length=b.mag.length:=by rw[hab]
 have hml:=JL r0;refine Cgo Tryz.func72 r r r (Rg<|Ol<|QA C r ?_);intro S _ _ _ _ ag I l;refine Ol (QA ag r ?_);intro z _ _ _ _ ah A B;have h:=(h.sp I).sp A;have k:=(k.sp I).sp A;have l:=l.spn A;refine Oa (Nl<|Rh<|Ol<|PJ Xc rfl<|Ol<|PO l pl4 r rfl<|Ol<|PJ Xc rfl<|Ol<|PO B pl4 r rfl<|Ol<|RP (u:=false) un4 r r (by rw[hab];exact bne_self_eq_false _)<|Om<|OgD<|PJ Yu rfl<|OgD<|PO l pl24 r r ?_);refine OgD (St.len sl24 rfl<|OgD<|PJ Yu rfl<|OgD<|PO B pl24 r rfl<|OgD<|St.len sl24 rfl<|OgD<|Rj (t:=false) r r WQ<|OF<|Nl<|Uc<|Rh<|Ua<|W.block<|P7 (fun μ f v=>∃(x y:Nat→Prop) (i:Nat),Cx X w x y v∧f 2=(P10 S 0)∧f 3=(P10 z 0)∧f 5=(.int .i64 i)∧RS Jh x v (S12 a1 a.mag D) a.mag∧RS Jh x v (S12 E b.mag F) b.mag∧Own w y v S (zzC a a1 D) 26∧Own w y v z (zzC b E F) 26∧i≤a.mag.length∧μ=(a.mag.length-i)) _ ⟨_,_,0,ah,rfl,rfl,rfl,h,k,l,B,(Tv _),rfl⟩ ?_);rintro _ _ _ ⟨_,_,i,J,K,L,M,h,k,m,p,_,_⟩;obtain⟨_,rfl⟩:=rebK (aC K<|aC L<|aC M aN);clear K L M;refine Rh<|Ub<|PJ Yu rfl<|Ol<|PO m pl24 r rfl<|Ol<|St.len sl24 rfl<|Ol<|P2 r r (fun T=>?_)<|fun T=>?_
 ·refine Nl<|Ud<|PR<|PT<|W.block<|PT<|QL mixed 10 [[],[0],[],[1,2],[3],[],[5],[],[6,7],[8]] J [fx<|.pointer (some ⟨S,1,none⟩),fx<|.slice a1 a.mag.length D,fx<|.int .i64 (i:Int),fE Jh<|a.mag.getD i 0,fx<|.int .u32 (((a.mag.getD i 0):Nat):Int),fx<|.pointer (some ⟨z,1,none⟩),fx<|.slice E b.mag.length F,fx<|.int .i64 (i:Int),fE Jh<|b.mag.getD i 0,fx<|.int .u32 (((b.mag.getD i 0):Nat):Int)] κ ⟨sx,sx,sx,sE,sx,sx,sx,sx,sE,sx,trivial⟩ fun ai g _ ⟨e,s⟩ d=>?_
  have h:=h.sp s;have k:=k.sp s;have m:=m.spn s;have p:=p.spn s;have d:Keep [27,28,29,30,31,32,33,34,35,36] _ ai:=d;refine⟨⟨fun _=>?_,fun⟨aj,_⟩=>?_,fun _=>?_,fun⟨ak,am,_⟩=>?_,fun⟨an,_⟩=>?_,fun _=>?_,fun⟨ao,_⟩=>?_,fun _=>?_,fun⟨aq,ar,_⟩=>?_,fun⟨au,_⟩=>?_,trivial⟩,fun⟨av,aw,ax,ay,az,aA,aB,aD,aE,aF,_⟩=>?_⟩
  ·exact Sd0 d fun _=>PJ Yu r ⟨g,PQ e,rfl⟩
  ·exact Sd1 d aj fun _=>PO m pl24 r r ⟨g,PQ e,rfl⟩
  ·exact Sd0 d fun _=>PP ⟨g,PQ e,rfl⟩
  ·refine Jf d (aC ak<|aC am aN) fun _=>P1 (P4 (j:=i) (u:=(a.mag.getD i 0)) h sl24 Js r r r (Je o) ?_);intro _ _ U N;obtain⟨rfl,_⟩:U=_∧_:=N.rd;exact⟨g,PQ e,⟨_,_,_,rfl,N⟩⟩
  ·obtain⟨_,_,V,aG,P⟩:=an;obtain⟨rfl,_⟩:V=_∧_:=P.rd;exact Sd1 d aG fun _=>P0 Yj r (P.cell 0 _ r) ⟨g,PQ e,rfl⟩
  ·exact Sd0 d fun _=>PJ Yu r ⟨g,PQ e,rfl⟩
  ·exact Sd1 d ao fun _=>PO p pl24 r r ⟨g,PQ e,rfl⟩
  ·exact Sd0 d fun _=>PP ⟨g,PQ e,rfl⟩
  ·refine Jf d (aC aq<|aC ar aN) fun _=>P1 (P4 (j:=i) (u:=(b.mag.getD i 0)) k sl24 Js r r r (Je o) ?_);intro _ _ Y Q;obtain⟨rfl,_⟩:Y=_∧_:=Q.rd;exact⟨g,PQ e,⟨_,_,_,rfl,Q⟩⟩
  ·obtain⟨_,_,Z,aH,R⟩:=au;obtain⟨rfl,_⟩:Z=_∧_:=R.rd;exact Sd1 d aH fun _=>P0 Yj r (R.cell 0 _ r) ⟨g,PQ e,rfl⟩
  obtain⟨_,_,G,aI,aa⟩:=ay;obtain⟨rfl,_⟩:G=_∧_:=aa.rd;obtain⟨_,_,H,ab,ac⟩:=aE;obtain⟨rfl,_⟩:H=_∧_:=ac.rd;obtain⟨_,rfl⟩:=mixK d (aC av<|aC aw<|aC ax<|aC aI<|aC az<|aC aA<|aC aB<|aC aD<|aC ab<|aC aF aN);refine Ol<|Rj (t:=false) r r Wt<|Nl<|Uc<|PN<|Ub<|St.add r r (Ja (a:=i) (b:=1) o)<|Ua<|⟨_,o,_,_,(i+1),e,rfl,rfl,rfl,h,k,m,p,o,rfl⟩
 refine Nl<|Ue<|QB<|Rg<|Ua<|PS<|Wq r r J ?_
 rfl
theorem Gi{y:Value}{a:GRat}(L:RV Y6 X w y a){z:Value}{b:GRat}(M:RV Y6 X w z b)(hab:a=b):CRt 35 #[y,z] w fun v _=>v=b14:=by
 obtain⟨a1,A,B,D,rfl,x,k⟩:=ST L;obtain⟨E,F,G,m,rfl,l,e⟩:=ST M;have C:=PV hX;refine Cgo Tryz.func35 r r r (Rg<|Ol<|QA C r ?_);intro _ _ _ _ _ H h d;have k:=k.sp h;have e:=e.sp h;refine Ol (QA H r ?_);intro _ _ _ _ _ p g i;have x:=(x.sp h).sp g;have l:=(l.sp h).sp g;have d:=d.spn g;refine Oa (Nl<|Rg<|Ol<|PJ Y7 rfl<|Ol<|Uo (vs:=(zzC a.num a1 A)) d ag26<|Ol<|PJ Y7 rfl<|Ol<|Uo (vs:=(zzC b.num E F)) i ag26<|Ol<|PK p cb72 r r (w2 p.bd (a:=a.num) (Jl x) (b:=b.num) (Jl l) W1) ?_);intro _ _ s j I;have k:=(k.sp g).sp j;have e:=(e.sp g).sp j;have d:=d.spn j;have i:=i.spn j;subst I;refine Om (OgD<|PJ Yy rfl<|OgD<|Uo (vs:=(zzC a.den B D)) d ag26<|OgD<|PJ Yy rfl<|OgD<|Uo (vs:=(zzC b.den G m)) i ag26<|OgD<|PK s cb72 r r (w2 s.bd (a:=a.den) (Jl k) (b:=b.den) (Jl e) W1) ?_);intro _ _ J _ K;subst K;refine OT<|Ua<|PS<|Wq r r J ?_
 rfl
omit hX
theorem xH(N:Nat):∀ {X:Nat→Prop} {w:World} (hX:XB X w) {Y:Value} {a:GExpr} (Z:RV Jc X w Y a) {v1:Value} {b:GExpr} (r1:RV Jc X w v1 b) (hab:a=b) (hN:(SizeOf.sizeOf a)<N),CRt 12 #[Y,v1] w fun v _=>v=b14:=by
 induction N with
 |zero=>intro X w hX Y a Z v1 b r1 hab hN;exact absurd hN<|TC _
 |succ N ih=>
  intro X w hX Y a Z v1 b r1 hab hN;obtain⟨a1,c2,a3,c4,a5,c6,a7,c8,rfl,k⟩:=SR Z;obtain⟨K,L,A,B,D,E,F,G,rfl,d⟩:=SR r1;have C:=PV hX;have hal:=Z.args_max;have hlen:a.args.length=b.args.length:=by rw[hab]
  refine Cgo Tryz.func12 r r r (Rg<|Ol<|QA C r ?_);intro M _ _ _ _ bm ah g;refine Ol (QA bm r ?_);intro P _ _ _ _ ai Q l;have k:=(k.sp ah).sp Q;have d:=(d.sp ah).sp Q;have g:=g.spn Q;refine Oa (Nl<|Rh<|Ol<|PJ Jw rfl<|Ol<|PO g pl3 r rfl<|Ol<|PJ Jw rfl<|Ol<|PO l pl3 r rfl<|Ol<|Rj (t:=false) r r Wt<|Om<|OgD<|PJ Zi rfl<|OgD<|PO g pl23 r r ?_);refine OgD (PJ Zi rfl<|OgD<|PO l pl23 r rfl<|OgD<|PK ai cb34 r r (Nb ai.bd k.n d.n W1) ?_);intro _ _ aj H bn;have k:=k.sp H;have d:=d.sp H;have g:=g.spn H;have l:=l.spn H;subst bn;refine OgD (QI rfl<|OF<|Om<|OgD<|PJ Yv rfl<|OgD<|Uo (vs:=(qqC a.c a3 c4 a5 c6)) g ag28<|OgD<|PJ Yv rfl<|OgD<|Uo (vs:=(qqC b.c A B D E)) l ag28 ?_);refine OgD (PK aj cb35 r r (Gi aj.bd (a:=a.c) (Jz k.num k.den) (b:=b.c) (Jz d.num d.den) W1) ?_);intro _ _ bo I bp;have k:=k.sp I;have d:=d.sp I;have g:=g.spn I;have l:=l.spn I;subst bp;refine OgD (QI rfl<|OF<|Om<|OgD<|PJ X5 rfl<|OgD<|PO g pl9 r rfl<|OgD<|PJ X5 rfl<|OgD<|PO l pl9 r rfl<|OgD<|RX r r (fun R=>absurd W1 R)<|fun R=>(OF<|Om ?_));refine OgD (PJ J8 rfl<|OgD<|PO g pl29 r rfl<|OgD<|St.len sl29 rfl<|OgD<|PJ J8 rfl<|OgD<|PO l pl29 r rfl<|OgD<|St.len sl29 rfl<|OgD<|Rj (t:=false) r r WQ<|OF<|Nl<|Ue<|PR ?_);refine Rh (Ua<|W.block<|P7 (fun μ f v=>∃(x y:Nat→Prop) (i:Nat),Cx X w x y v∧f 2=(P10 M 0)∧f 3=(P10 P 0)∧f 5=(.int .i64 i)∧ExprParts x v a a1 c2 a3 c4 a5 c6 a7 c8∧ExprParts x v b K L A B D E F G∧Own w y v M (ec a a1 c2 a3 c4 a5 c6 a7 c8) 31∧Own w y v P (ec b K L A B D E F G) 31∧i≤a.args.length∧μ=(a.args.length-i)) _ ⟨_,_,0,bo,rfl,rfl,rfl,k,d,g,l,(Tv _),rfl⟩ ?_);rintro _ _ _ ⟨_,_,i,ak,am,an,ao,k,d,p,s,_,_⟩;obtain⟨_,rfl⟩:=rebK (aC am<|aC an<|aC ao aN);clear am an ao;refine Rh<|Ub<|PJ J8 rfl<|Ol<|PO p pl29 r rfl<|Ol<|St.len sl29 rfl<|Ol<|P2 r r (fun au=>?_)<|fun au=>?_
  ·refine Nl<|Ud<|PR<|PT<|W.block<|PT<|QL mixed 10 [[],[0],[],[1,2],[3],[],[5],[],[6,7],[8]] ak [fx<|.pointer (some ⟨M,7,none⟩),fx<|.slice a7 a.args.length c8,fx<|.int .i64 (i:Int),fE Jc<|Ar a i,fr Jc<|Ar a i,fx<|.pointer (some ⟨P,7,none⟩),fx<|.slice F b.args.length G,fx<|.int .i64 (i:Int),fE Jc<|Ar b i,fr Jc<|Ar b i] κ ⟨sx,sx,sx,sE,sr,sx,sx,sx,sE,sr,trivial⟩ fun bq m _ ⟨h,J⟩ e=>?_
   have k:=k.sp J;have d:=d.sp J;have p:=p.spn J;have s:=s.spn J;have e:Keep [50,51,52,53,54,55,56,57,58,59] _ bq:=e;refine⟨⟨fun _=>?_,fun⟨br,_⟩=>?_,fun _=>?_,fun⟨bs,bt,_⟩=>?_,fun⟨av,_⟩=>?_,fun _=>?_,fun⟨aw,_⟩=>?_,fun _=>?_,fun⟨ax,ay,_⟩=>?_,fun⟨az,_⟩=>?_,trivial⟩,fun⟨aA,aB,aD,aE,aF,aG,aH,aI,aJ,aK,_⟩=>?_⟩
   ·exact Sd0 e fun _=>PJ J8 r ⟨m,PQ h,rfl⟩
   ·exact Sd1 e br fun _=>PO p pl29 r r ⟨m,PQ h,rfl⟩
   ·exact Sd0 e fun _=>PP ⟨m,PQ h,rfl⟩
   ·refine Jf e (aC bs<|aC bt aN) fun _=>P1 (P4 (j:=i) (u:=(Ar a i)) k.args sl29 io31 r r r (Je o) ?_);intro _ _ _ S;obtain⟨_,_,_,_,_,_,_,_,rfl,_⟩:=Jb S.rd;exact⟨m,PQ h,⟨_,_,_,rfl,S⟩⟩
   ·obtain⟨_,_,_,aL,T⟩:=av;obtain⟨aM,aO,aP,aQ,aR,aS,aT,aU,rfl,aV⟩:=Jb T.rd;exact Sd1 e aL fun _=>QE (cs:=(ec (Ar a i) aM aO aP aQ aR aS aT aU)) ag31 r r T.cell ⟨m,PQ h,(Mx (Ar a i) aV)⟩
   ·exact Sd0 e fun _=>PJ J8 r ⟨m,PQ h,rfl⟩
   ·exact Sd1 e aw fun _=>PO s pl29 r r ⟨m,PQ h,rfl⟩
   ·exact Sd0 e fun _=>PP ⟨m,PQ h,rfl⟩
   ·refine Jf e (aC ax<|aC ay aN) fun _=>P1 (P4 (j:=i) (u:=(Ar b i)) d.args sl29 io31 r r r (Je o) ?_);intro _ _ _ U;obtain⟨_,_,_,_,_,_,_,_,rfl,_⟩:=Jb U.rd;exact⟨m,PQ h,⟨_,_,_,rfl,U⟩⟩
   ·obtain⟨_,_,_,aW,V⟩:=az;obtain⟨aX,aY,aZ,a0,a4,a6,a8,a9,rfl,ba⟩:=Jb V.rd;exact Sd1 e aW fun _=>QE (cs:=(ec (Ar b i) aX aY aZ a0 a4 a6 a8 a9)) ag31 r r V.cell ⟨m,PQ h,(Mx (Ar b i) ba)⟩
   obtain⟨_,_,_,bb,bc⟩:=aE;obtain⟨_,_,_,_,_,_,_,_,rfl,_⟩:=Jb bc.rd;obtain⟨_,_,_,_,_,_,_,_,be,bf⟩:=SR aF;obtain⟨_,_,_,bg,bh⟩:=aJ;obtain⟨_,_,_,_,_,_,_,_,rfl,_⟩:=Jb bh.rd;obtain⟨_,_,_,_,_,_,_,_,bi,bj⟩:=SR aK;obtain⟨_,rfl⟩:=mixK e (aC aA<|aC aB<|aC aD<|aC bb<|aC be<|aC aG<|aC aH<|aC aI<|aC bg<|aC bi aN);refine Ol (PK h cb12 r r (ih h.bd (Mx (Ar a i) bf) (Mx (Ar b i) bj) W1<|Ti (Kz o)<|Nat.le_of_lt_succ hN) ?_);intro _ _ bk z bl;have k:=k.sp z;have d:=d.sp z;have p:=p.spn z;have s:=s.spn z;subst bl;refine Ol<|QI rfl<|Nl<|Uc<|PN<|Ub<|St.add r r (Ja (a:=i) (b:=1) o)<|Ua<|⟨_,o,_,_,(i+1),bk,rfl,rfl,rfl,k,d,p,s,o,rfl⟩
  refine Nl<|Ue<|QB<|Rg<|Ua<|PS<|Wq r r ak ?_
  rfl
include hX
theorem q7{d:Value}(g:RV Jc X w d a){e:Value}{b:GExpr}(h:RV Jc X w e b)(hab:a=b):CRt 12 #[d,e] w fun v _=>v=b14:=xH ((SizeOf.sizeOf a)+1) hX g h hab (VM _)
theorem CP{e:Value}{m:List Int}(a:RS Zg X w e m)(hm:m.length≤1000):CRt 91 #[e] w fun v w'=>RS Zg X w' v m:=by
 obtain⟨a1,h,rfl,_,_⟩:=a.len;have C:=PV hX;refine Cgo Tryz.func91 r r rfl<|Rg<|Ua<|Rh<|Ub<|R8 sl23 a r r (fun g=>?_) ?_
 ·exact Nl<|Uf<|Ua<|PS<|Wq r r C<|SX ((RS.nil:RS _ _ _ _ _).tr C.wb)<|g.symm
 refine Nl (Uc<|Rg<|Ol<|Ta C sl23 io3 ?_);intro _ _ i j;have a:=a.sp j;refine Om (Ol<|R5 (T:=Zg) i sl23 io3 r r a (Tj hm δ) o r ?_);intro _ _ b _ d;obtain⟨_,_,rfl,_,_⟩:=d.len;exact Ua<|PS<|Wq r r b<|SX ((d:RS _ _ _ _ _).tr b.wb)<|rfl
omit hX
theorem An(N:Nat):∀ {X:Nat→Prop} {w:World} (hX:XB X w) {v0:Value} {a:GExpr} (r0:RV Jc X w v0 a) (hpl:Sz a) (hl:cntE a≤10000) (hN:(SizeOf.sizeOf a)<N),CRt 63 #[v0] w fun v w'=>RV Jc X w' v (lowE a):=by
 induction N with
 |zero=>intro X w hX v0 a r0 hpl hl hN;exact absurd hN<|TC _
 |succ N ih=>
  intro X w hX v0 a r0 hpl hl hN;obtain⟨a1,c2,a3,c4,a5,c6,a7,c8,rfl,d⟩:=SR r0;have C:=PV hX;have hal:=r0.args_max;have hce:=Z7 a;have hac:=qo a;obtain⟨_,_,_,_,_⟩:=Qi.1 hpl;refine Cgo Tryz.func63 ϱ ϱ ϱ (Rg<|Ol<|QA C ϱ ?_);intro ae _ _ _ _ ch ci m;have d:=d.sp ci;refine Ol (PU ch io31 ϱ ?_);intro aD cj _ _ _ ck bt af;have m:=m.spn bt;refine Nl<|PT<|QL mixed 9 [[],[0],[],[2],[3],[],[5],[1,4,6],[]] ck [fx<|.pointer (some ⟨ae,0,none⟩),fx<|.int .i64 a.op,fx<|.pointer (some ⟨ae,1,none⟩),fx<|.slice a1 a.n.length c2,fs Zg a.n,fx<|.pointer (some ⟨ae,6,none⟩),fx<|str a.name,fun(s:Gh) (v:Value) (w':World)=>∃(a1':Option Addr) (c1':Nat),v= .agg #[(.int .i64 a.op),(S12 a1' a.n c1'),b13,n11,b13,n11,(str a.name),n11]∧RS Zg s.1 w' (S12 a1' a.n c1') a.n,fun(s:Gh) (v:Value) (w':World)=>∃g':Nat,v= .pointer (some ⟨g',0,none⟩)∧Own w s.2 w' g' zX 31∧cj.heap.size≤g'] κ ⟨sx,sx,sx,sx,ss,sx,sx,(fun _ _ _ _ _ ⟨a1,c1,e,h1⟩ r=>⟨a1,c1,e,h1.tr r.sp.tx⟩),(fun _ _ _ _ _ ⟨g,e,o,l⟩ r=>⟨g,e,o.spn r.sp,l⟩),trivial⟩ fun cm J _ ⟨K,aK⟩ G=>?_
  have bw:=m.blk.lt;have bx:=af.blk.lt;have aT:=aK.tx.size;have d:=(d.sp bt).sp aK;have m:=m.spn aK;have G:Keep [6,7,8,9,10,11,12,13,3] _ cm:=G;refine⟨⟨fun _=>?_,fun⟨cn,_⟩=>?_,fun _=>?_,fun⟨co,_⟩=>?_,fun⟨cp,_⟩=>?_,fun _=>?_,fun⟨cq,_⟩=>?_,fun⟨cr,aU,ct,_⟩=>?_,fun _=>?_,trivial⟩,fun⟨cu,cv,cw,cx,bu,cy,cz,cE,cF,_⟩=>?_⟩
  ·exact Sd0 G fun _=>PJ Jw ϱ ⟨J,PQ K,rfl⟩
  ·exact Sd1 G cn fun _=>PO m pl3 ϱ ϱ ⟨J,PQ K,rfl⟩
  ·exact Sd0 G fun _=>PJ Zi ϱ ⟨J,PQ K,rfl⟩
  ·exact Sd1 G co fun _=>PO m pl23 ϱ ϱ ⟨J,PQ K,rfl⟩
  ·refine Sd1 G cp fun _=>PK K cb91 ϱ ϱ (CP K.bd d.n ω) ?_;intro _ _ cG cH cI;exact⟨J,⟨cG,cH⟩,cI⟩
  ·exact Sd0 G fun _=>PJ X5 ϱ ⟨J,PQ K,rfl⟩
  ·exact Sd1 G cq fun _=>PO m pl9 ϱ ϱ ⟨J,PQ K,rfl⟩
  ·obtain⟨cJ,cK,cL,aU⟩:=RS.opn aU;exact Jf G (aC cr<|aC cL<|aC ct aN) fun _=>P1<|PX (cs:=[(.int .i64 a.op),(S12 cJ a.n cK),b13,n11,b13,n11,(str a.name),n11]) ϱ κ<|⟨J,PQ K,⟨_,_,rfl,aU⟩⟩
  ·refine Sd0 G fun _=>PU K io31 ϱ ?_;intro cM _ cN cO bz cP cQ cR;exact⟨(cN,cO),⟨cP,cQ⟩,cM,rfl,cR,VJ fun hh=>bz _ (Ti hh aT) ϱ⟩
  obtain⟨_,_,cS,bu⟩:=RS.opn bu;obtain⟨P,Q,cT,k⟩:=cE;obtain⟨Z,cU,cV,bv⟩:=cF;have aE:ae≠Z:=VV (Ti bw bv);have aF:aD≠Z:=VV (Ti bx bv);obtain⟨_,rfl⟩:=mixK G (aC cu<|aC cv<|aC cw<|aC cx<|aC cS<|aC cy<|aC cz<|aC cT<|aC cU aN);refine On (Us (cs':=[(.int .i64 a.op),(S12 P a.n Q),b13,n11,b13,n11,(str a.name),n11]) K cV io31 ?_);intro aG aH aj ak;have d:=d.sp aj;have k:=k.sp aj;have m:=m.spo aj aE;have af:=(af.spn aK).spo aj aF;refine Nl<|PT<|Rm (fun f v=>∃(x y:Nat→Prop) (aa:Option Addr) (ab:Nat) (ac:Option Addr) (ad:Nat),Cx X w x y v∧f 1=(P10 ae 0)∧f 2=(P10 aD 0)∧f 3=(P10 Z 0)∧ExprParts x v a a1 c2 a3 c4 a5 c6 a7 c8∧RS Zg x v (S12 P a.n Q) a.n∧RS Jh x v (S12 aa (lowC a.op a.c).num.mag ab) (lowC a.op a.c).num.mag∧RS Jh x v (S12 ac (lowC a.op a.c).den.mag ad) (lowC a.op a.c).den.mag∧Own w y v ae (ec a a1 c2 a3 c4 a5 c6 a7 c8) 31∧Own w y v aD zX 31∧Own w y v Z [(.int .i64 a.op),(S12 P a.n Q),(.bool (lowC a.op a.c).num.neg),(S12 aa (lowC a.op a.c).num.mag ab),(.bool (lowC a.op a.c).den.neg),(S12 ac (lowC a.op a.c).den.mag ad),(str a.name),n11] 31) ?_ ?_
  ·refine Rg<|Ol<|PJ Jw rfl<|Ol<|PO m pl3 ϱ rfl<|Ol<|PW ϱ ϱ (fun am=>?_)<|fun am=>?_
   ·refine Nl (Uk<|Ol<|PJ Yv rfl<|Ol<|Uo (vs:=(qqC a.c a3 c4 a5 c6)) m ag28<|Ol<|PK aH cb92 ϱ ϱ (Qu aH.bd (a:=a.c) (Jz d.num d.den) ω ω) ?_);intro _ _ bA ag bB;have ak:=ak.spn ag;obtain⟨aV,aW,aX,aY,rfl,an,ao⟩:=ST bB;refine Ol (PJ Yv rfl<|On<|Us (cs':=[(.int .i64 a.op),(S12 P a.n Q),(.bool (ofQ a.c.q).num.neg),(S12 aV (ofQ a.c.q).num.mag aW),(.bool (ofQ a.c.q).den.neg),(S12 aX (ofQ a.c.q).den.mag aY),(str a.name),n11]) bA ak io28 ?_);intro _ bC V aZ;have d:=(d.sp ag).sp V;have k:=(k.sp ag).sp V;have an:=an.sp V;have ao:=ao.sp V;have m:=(m.spn ag).spo V aE;have af:=(af.spn ag).spo V aF;refine Nl ?_;have bD:ofQ a.c.q=lowC a.op a.c:=(if_pos am).symm;rw[bD] at aZ an ao;refine⟨_,_,aV,aW,aX,aY,bC,rfl,rfl,rfl,d,k,an,ao,m,af,aZ⟩
   refine Nl (Ue<|PR ?_);have bE:Y3=lowC a.op a.c:=(if_neg am).symm;have a0:Own w J.2 aG Z [(.int .i64 a.op),(S12 P a.n Q),.bool Y3.num.neg,.slice none Y3.num.mag.length 0,.bool Y3.den.neg,.slice none Y3.den.mag.length 0,(str a.name),n11] 31:=ak;have a4:RS Jh J.1 aG (S12 none Y3.num.mag 0) Y3.num.mag:=RS.nil;have a6:RS Jh J.1 aG (S12 none Y3.den.mag 0) Y3.den.mag:=RS.nil;rw[bE] at a0 a4 a6;refine⟨_,_,none,0,none,0,aH,rfl,rfl,rfl,d,k,a4,a6,m,af,a0⟩
  rintro _ _ ⟨_,_,aa,ab,ac,ad,bF,a8,a9,ba,d,k,H,I,bb,bG,bH⟩;obtain⟨_,rfl⟩:=rebK (aC a8<|aC a9<|aC ba aN);clear a8 a9 ba;refine Rh (Ol<|PJ J8 rfl<|Ol<|PO bb pl29 ϱ rfl<|Ol<|St.len sl29 rfl<|Om<|Nl<|W.block<|P7 (fun μ f v=>∃(x y:Nat→Prop) (i:Nat) (p:List GExpr) (pa:Option Addr) (pc:Nat),Cx X w x y v∧f 2=(P10 aD 0)∧f 3=(P10 Z 0)∧f 22=(S12 a7 a.args c8)∧f 23=(.int .i64 a.args.length)∧f 24=(.int .i64 i)∧ExprParts x v a a1 c2 a3 c4 a5 c6 a7 c8∧RS Zg x v (S12 P a.n Q) a.n∧RS Jh x v (S12 aa (lowC a.op a.c).num.mag ab) (lowC a.op a.c).num.mag∧RS Jh x v (S12 ac (lowC a.op a.c).den.mag ad) (lowC a.op a.c).den.mag∧OS Jc 31 w x y v (S12 pa p pc) p∧Own w y v ae (ec a a1 c2 a3 c4 a5 c6 a7 c8) 31∧Own w y v aD zX 31∧Own w y v Z [(.int .i64 a.op),(S12 P a.n Q),(.bool (lowC a.op a.c).num.neg),(S12 aa (lowC a.op a.c).num.mag ab),(.bool (lowC a.op a.c).den.neg),(S12 ac (lowC a.op a.c).den.mag ad),(str a.name),(S12 pa p pc)] 31∧i≤a.args.length∧p=lowL (a.args.take i)∧μ=(a.args.length-i)) _ ⟨_,_,0,[],none,0,bF,rfl,rfl,rfl,rfl,rfl,d,k,H,I,OS.nil,bb,bG,bH,(Tv _),rfl,rfl⟩ ?_);rintro _ _ _ ⟨_,_,i,p,pa,pc,bc,be,bf,bg,bh,bi,d,k,H,I,hP,D,A,z,hi,hp,_⟩;obtain⟨_,rfl⟩:=rebK (aC be<|aC bf<|aC bg<|aC bh<|aC bi aN);clear be bf bg bh bi;refine Rg<|Ol<|P2 ϱ ϱ (fun bs=>?_)<|fun bs=>?_
  ·refine Nl (PT<|Ud<|PR<|PT<|W.block<|Rg<|Ol<|P4 (j:=i) (u:=(Ar a i)) d.args sl29 io31 ϱ ϱ ϱ (Je ω) ?_);intro _ _ _ bj;obtain⟨aq,ar,au,av,aw,ax,ay,az,rfl,ah⟩:=Jb bj.rd;refine Ol (QE (cs:=(ec (Ar a i) aq ar au av aw ax ay az)) ag31 ϱ ϱ bj.cell<|Ol<|QU bc io31 ϱ ?_);intro _ _ bk _ aA bl E bI bJ;have bK:=aA _ D.blk.lt;have bL:=aA _ A.blk.lt;have bM:=aA _ z.blk.lt;have d:=d.sp E;have k:=k.sp E;have H:=H.sp E;have I:=I.sp E;have hP:=hP.sp E bl bJ;have ah:=ah.sp E;have D:=D.spn E;have A:=A.spn E;have z:=z.spn E;refine On (Us (cs':=(ec (Ar a i) aq ar au av aw ax ay az)) bl bI io31 ?_);intro _ bm F aI;refine Nl<|Rb mixed 5 [[],[0],[],[2],[3]] bm [fx<|.pointer (some ⟨Z,7,none⟩),fx<|.slice pa p.length pc,fx<|ea (Ar a i) aq ar au av aw ax ay az,ur bk Jc<|lowE<|Ar a i,us bk Jc [(lowE<|Ar a i)]] κ ⟨sx,sx,sx,tr,ts,trivial⟩ fun bN _ L B M=>?_
   have d:=(d.sp F).sp B;have k:=(k.sp F).sp B;have H:=(H.sp F).sp B;have I:=(I.sp F).sp B;have hP:=(hP.sp F bm<|fun _ h=>h).sp B L (fun _ h=>h)
   have ah:=(ah.sp F).sp B;have D:=(D.spo F bK).spn B;have A:=(A.spo F bL).spn B;have z:=(z.spo F bM).spn B;have aI:=aI.spn B;have M:Keep [28,29,30,31,32] _ bN:=M;refine⟨⟨fun _=>?_,fun⟨bO,_⟩=>?_,fun _=>?_,fun⟨bP,_⟩=>?_,fun⟨bQ,_⟩=>?_,trivial⟩,fun⟨bR,bS,bT,bU,aJ,_⟩=>?_⟩
   ·exact Sd0 M fun _=>PJ J8 rfl<|⟨(),⟨L,Sp.refl⟩,rfl⟩
   ·exact Sd1 M bO fun _=>PO z pl29 ϱ rfl<|⟨(),⟨L,Sp.refl⟩,rfl⟩
   ·exact Sd0 M fun _=>Uo (vs:=(ec (Ar a i) aq ar au av aw ax ay az)) aI ag31<|⟨(),⟨L,Sp.refl⟩,rfl⟩
   ·refine Sd1 M bP fun _=>PK L cb63 ϱ ϱ (ih L.bd (Mx (Ar a i) ah) (nF hpl ω) (by have h7:=yb (l:=a.args) (i:=i) ω;unfold Ar;omega)<|Ti (Kz ω)<|Nat.le_of_lt_succ hN) ?_;intro _ _ bV bW bX;exact⟨(),⟨bV,bW⟩,bX⟩
   ·obtain⟨bY,bZ,b0,b1,b2,b3,b4,b5,b6,R⟩:=SR bQ;refine Sd1 M b6 fun _=>P5 (T:=Jc) (css:=[(ec (lowE<|Ar a i) bY bZ b0 b1 b2 b3 b4 b5)]) (l:=[(lowE<|Ar a i)]) L sl29 io31 δ δ ϱ κ ⟨(Ju (lowE<|Ar a i) R.lo R.hi R.name R.n R.num R.den R.args),trivial⟩ ?_;intro _ _ b7 b8 b9;exact⟨(),⟨b7,b8⟩,b9⟩
   obtain⟨_,_,_,_,_,_,_,_,ca,_⟩:=SR bU;obtain⟨cb,cc,cd,aJ⟩:=RS.opn aJ;obtain⟨_,rfl⟩:=mixK M (aC bR<|aC bS<|aC bT<|aC ca<|aC cd aN);refine Ol (P8 (T:=Jc) (v:=(S12 pa p pc)) (u:=(.slice cb [(lowE<|Ar a i)].length cc)) L sl29 io31 ϱ ϱ hP (Z5 aJ) (by rw[hp,Kx,UG,To];simp[maxLen];omega) (by rw[hp,Kx,UG,To];simp;omega) ϱ ?_);intro _ _ _ ce S _ aB;replace z:=z.ap S z.mem;obtain⟨bn,bo,rfl,_,_⟩:=aB.len;refine Ol (PJ J8 rfl<|On<|Us (cs':=[(.int .i64 a.op),(S12 P a.n Q),(.bool (lowC a.op a.c).num.neg),(S12 aa (lowC a.op a.c).num.mag ab),(.bool (lowC a.op a.c).den.neg),(S12 ac (lowC a.op a.c).den.mag ad),(str a.name),(.slice bn (p++[(lowE<|Ar a i)]).length bo)]) ce z io29 ?_);intro _ bp U cf;have d:=(d.tr S.tx).sp U;have k:=(k.tr S.tx).sp U;have H:=(H.tr S.tx).sp U;have I:=(I.tr S.tx).sp U;have aB:=aB.sp U bp<|fun _ h=>h
   replace D:=(D.ap S D.mem).spo U aE;replace A:=(A.ap S A.mem).spo U aF;refine Nl<|PN<|Ol<|St.add ϱ ϱ (Ja (a:=i) (b:=1) ω)<|Om<|Nl<|⟨_,ω,_,_,(i+1),(p++[(lowE<|Ar a i)]),bn,bo,bp,rfl,rfl,rfl,rfl,rfl,d,k,H,I,aB,D,A,cf,ω,(Di hp ω),rfl⟩
  refine Nl (PT<|Ue<|QB<|Rg<|Ol<|Uo (vs:=[(.int .i64 a.op),(S12 P a.n Q),(.bool (lowC a.op a.c).num.neg),(S12 aa (lowC a.op a.c).num.mag ab),(.bool (lowC a.op a.c).den.neg),(S12 ac (lowC a.op a.c).den.mag ad),(str a.name),(S12 pa p pc)]) z ag31<|On<|Us (cs':=[(.int .i64 a.op),(S12 P a.n Q),(.bool (lowC a.op a.c).num.neg),(S12 aa (lowC a.op a.c).num.mag ab),(.bool (lowC a.op a.c).den.neg),(S12 ac (lowC a.op a.c).den.mag ad),(str a.name),(S12 pa p pc)]) bc A io31 ?_);intro _ Y ai cg;have d:=d.sp ai;have k:=k.sp ai;have H:=H.sp ai;have I:=I.sp ai;have hP:=hP.sp ai Y<|fun _ h=>h
  refine Nl (PS<|J1 ϱ ϱ cg ag31 Y ?_);exact SS (a:=(GExpr.mk a.op a.n (lowC a.op a.c) a.name p)) (py (GExpr.mk a.op a.n (lowC a.op a.c) a.name p) d.lo d.hi d.name ((k:RS _ _ _ _ _).tr Y.wb) ((H:RS _ _ _ _ _).tr Y.wb) ((I:RS _ _ _ _ _).tr Y.wb)<|hP.toRS Y hX)<|G9 hp ω
include hX
theorem ru(d:RV Jc X w b a)(hpl:Sz a)(hl:cntE a≤10000):CRt 63 #[b] w fun v w'=>RV Jc X w' v (lowE a):=An ((SizeOf.sizeOf a)+1) hX d hpl hl (VM _)
theorem DU(d:RV Jc X w b a)(hpl:Yi a=true)(hl:cntE a≤10000):CRt 63 #[b] w fun v w'=>RV Jc X w' v (lowE a):=ru hX d (Dh _ (VM _) hpl hl) hl
omit hX
theorem IM(N:Nat):∀ {X:Nat→Prop} {w:World} (hX:XB X w) {v0:Value} {a:GExpr} (r0:RV Jc X w v0 a) {nm:List UInt8} {v2:Value} {ye:GExpr} (r2:RV Jc X w v2 ye) (hl:cntE a≤10000) (hpy:Yi ye=true) (hly:cntE ye≤10000) (hN:(SizeOf.sizeOf a)<N),CRt 62 #[v0,(str nm),v2] w fun v w'=>RV Jc X w' v (repE nm (lowE ye) a):=by
 induction N with
 |zero=>intro X w hX v0 a r0 nm v2 ye r2 hl hpy hly hN;exact absurd hN<|TC _
 |succ N ih=>
  intro X w hX v0 a r0 nm v2 ye r2 hl hpy hly hN;obtain⟨a1,V,Y,Z,a5,c6,a7,c8,rfl,e⟩:=SR r0;obtain⟨J,K,L,M,P,Q,R,S,rfl,d⟩:=SR r2;have C:=PV hX;have hal:=r0.args_max;have hce:=Z7 a;have hac:=qo a;refine Cgo Tryz.func62 r r r (Rg<|Ol<|QA C r ?_);intro aJ _ _ _ _ b5 bi ae;have e:=e.sp bi;have d:=d.sp bi;refine Ol (QA b5 r ?_);intro aF _ _ _ _ b6 aK aw;refine Ol (PU b6 io31 r ?_);intro aG _ _ _ _ aH aI ax;have e:=(e.sp aK).sp aI;have d:=(d.sp aK).sp aI;have ae:=(ae.spn aK).spn aI;have aw:=aw.spn aI;refine Nl<|PT<|Rm (fun f v=>∃(x y:Nat→Prop),Cx X w x y v∧f 1=(str nm)∧f 3=(P10 aJ 0)∧f 5=(P10 aF 0)∧f 6=(P10 aG 0)∧ExprParts x v a a1 V Y Z a5 c6 a7 c8∧ExprParts x v ye J K L M P Q R S∧Own w y v aJ (ec a a1 V Y Z a5 c6 a7 c8) 31∧Own w y v aF (ec ye J K L M P Q R S) 31∧Own w y v aG zX 31∧¬(a.op=8∧a.name=nm)) ?_ ?_
  ·refine Rg<|Ol<|PJ Jw rfl<|Ol<|PO ae pl3 r rfl<|Ol<|PW r r (fun bp=>?_)<|fun bp=>?_
   ·refine Om<|OgD<|PJ X5 rfl<|OgD<|PO ae pl9 r rfl<|OgD<|PP<|OgD<|QK r r (fun aL=>?_)<|fun aL=>?_
    ·refine OT (Nl<|Uf<|Ol<|Uo (vs:=(ec ye J K L M P Q R S)) aw ag31<|Ol<|PK aH cb63 r r (DU aH.bd (Mx ye d) hpy hly) ?_);intro _ _ b7 b8 b9;have ax:=ax.spn b8;obtain⟨ca,cb,cc,cd,ce,cf,cg,ch,rfl,aM⟩:=SR b9;refine On (Us (cs':=(ec (lowE ye) ca cb cc cd ce cf cg ch)) b7 ax io31 ?_);intro _ bj ci cj;have aM:=aM.sp ci;refine Nl (PS<|J1 r r cj ag31 bj ?_);exact SS (a:=(lowE ye)) ((Mx (lowE ye) aM).tr bj.wb)<|Gs o aL
    refine OT<|Nl<|Uc<|⟨_,_,aH,rfl,rfl,rfl,rfl,e,d,ae,aw,ax,(fun h=>by first|exact absurd h.1 WM|exact absurd h.2 WM)⟩
   refine Om<|Oz<|Oz<|Oz<|Oz<|OF<|Nl<|Uc<|⟨_,_,aH,rfl,rfl,rfl,rfl,e,d,ae,aw,ax,(fun h=>by first|exact absurd h.1 WM|exact absurd h.2 WM)⟩
  rintro _ _ ⟨_,_,ck,bk,bl,bm,bn,e,d,U,af,ag,hno⟩;obtain⟨_,rfl⟩:=rebK (aC bk<|aC bl<|aC bm<|aC bn aN);clear bk bl bm bn;refine Rg (Ol<|Uo (vs:=(ec a a1 V Y Z a5 c6 a7 c8)) U ag31<|Ol<|PU ck io31 r ?_);intro aO _ _ _ aB cm ay cn;have aP:=aB _ U.blk.lt;have aQ:=aB _ af.blk.lt;have aR:=aB _ ag.blk.lt;have e:=e.sp ay;have d:=d.sp ay;have U:=U.spn ay;have af:=af.spn ay;have ag:=ag.spn ay;refine On (Us (cs':=(ec a a1 V Y Z a5 c6 a7 c8)) cm cn io31 ?_);intro _ co az cp;refine Nl (Rg<|Ol<|PJ J8 rfl<|On<|Us (cs':=[(.int .i64 a.op),(S12 a1 a.n V),(.bool a.c.num.neg),(S12 Y a.c.num.mag Z),(.bool a.c.den.neg),(S12 a5 a.c.den.mag c6),(str a.name),n11]) co cp io29 ?_);intro _ cq aA cr;have e:=(e.sp az).sp aA;have d:=(d.sp az).sp aA;have U:=(U.spo az aP).spo aA aP;have af:=(af.spo az aQ).spo aA aQ;have ag:=(ag.spo az aR).spo aA aR;refine Nl (Rh<|Ol<|PJ J8 rfl<|Ol<|PO U pl29 r rfl<|Ol<|St.len sl29 rfl<|Om<|Nl<|W.block<|P7 (fun μ f v=>∃(x y:Nat→Prop) (i:Nat) (p:List GExpr) (pa:Option Addr) (pc:Nat),Cx X w x y v∧f 1=(str nm)∧f 5=(P10 aF 0)∧f 6=(P10 aG 0)∧f 7=(P10 aO 0)∧f 24=(S12 a7 a.args c8)∧f 25=(.int .i64 a.args.length)∧f 26=(.int .i64 i)∧ExprParts x v a a1 V Y Z a5 c6 a7 c8∧ExprParts x v ye J K L M P Q R S∧OS Jc 31 w x y v (S12 pa p pc) p∧Own w y v aJ (ec a a1 V Y Z a5 c6 a7 c8) 31∧Own w y v aF (ec ye J K L M P Q R S) 31∧Own w y v aG zX 31∧Own w y v aO [(.int .i64 a.op),(S12 a1 a.n V),(.bool a.c.num.neg),(S12 Y a.c.num.mag Z),(.bool a.c.den.neg),(S12 a5 a.c.den.mag c6),(str a.name),(S12 pa p pc)] 31∧i≤a.args.length∧p=repL nm (lowE ye) (a.args.take i)∧μ=(a.args.length-i)) _ ⟨_,_,0,[],none,0,cq,rfl,rfl,rfl,rfl,rfl,rfl,rfl,e,d,OS.nil,U,af,ag,cr,(Tv _),rfl,rfl⟩ ?_);rintro _ _ _ ⟨_,_,i,p,pa,pc,aS,aT,aU,aV,aW,aX,aY,aZ,e,d,hP,A,k,m,g,hi,hp,_⟩;obtain⟨_,rfl⟩:=rebK (aC aT<|aC aU<|aC aV<|aC aW<|aC aX<|aC aY<|aC aZ aN);clear aT aU aV aW aX aY aZ;refine Rg<|Ol<|P2 r r (fun bh=>?_)<|fun bh=>?_
  ·refine Nl (PT<|Ud<|PR<|PT<|W.block<|Rg<|Ol<|P4 (j:=i) (u:=(Ar a i)) e.args sl29 io31 r r r (Je o) ?_);intro _ _ _ a0;obtain⟨ah,ai,aj,ak,am,an,ao,aq,rfl,ad⟩:=Jb a0.rd;refine Ol (QE (cs:=(ec (Ar a i) ah ai aj ak am an ao aq)) ag31 r r a0.cell<|Ol<|QU aS io31 r ?_);intro _ _ a4 _ ac a6 D bq br;have bs:=ac _ A.blk.lt;have bt:=ac _ k.blk.lt;have bu:=ac _ m.blk.lt;have bv:=ac _ g.blk.lt;have e:=e.sp D;have d:=d.sp D;have hP:=hP.sp D a6 br;have ad:=ad.sp D;have A:=A.spn D;have k:=k.spn D;have m:=m.spn D;have g:=g.spn D;refine On (Us (cs':=(ec (Ar a i) ah ai aj ak am an ao aq)) a6 bq io31 ?_);intro _ a8 E aD;refine Nl<|Rb mixed 7 [[],[0],[],[],[],[2,3,4],[5]] a8 [fx<|.pointer (some ⟨aO,7,none⟩),fx<|.slice pa p.length pc,fx<|ea (Ar a i) ah ai aj ak am an ao aq,fx<|str nm,fx<|ea ye J K L M P Q R S,ur a4 Jc<|repE nm (lowE ye)<|Ar a i,us a4 Jc [(repE nm (lowE ye)<|Ar a i)]] κ ⟨sx,sx,sx,sx,sx,tr,ts,trivial⟩ fun bw _ s B z=>?_
   have e:=(e.sp E).sp B;have d:=(d.sp E).sp B;have hP:=(hP.sp E a8<|fun _ h=>h).sp B s (fun _ h=>h)
   have ad:=(ad.sp E).sp B;have A:=(A.spo E bs).spn B;have k:=(k.spo E bt).spn B;have m:=(m.spo E bu).spn B;have g:=(g.spo E bv).spn B;have aD:=aD.spn B;have z:Keep [30,31,32,33,34,35,36] _ bw:=z;refine⟨⟨fun _=>?_,fun⟨bx,_⟩=>?_,fun _=>?_,fun _=>?_,fun _=>?_,fun⟨bz,bA,bB,_⟩=>?_,fun⟨bC,_⟩=>?_,trivial⟩,fun⟨bD,bE,bF,bG,bH,bI,aE,_⟩=>?_⟩
   ·exact Sd0 z fun _=>PJ J8 rfl<|⟨(),⟨s,Sp.refl⟩,rfl⟩
   ·exact Sd1 z bx fun _=>PO g pl29 r rfl<|⟨(),⟨s,Sp.refl⟩,rfl⟩
   ·exact Sd0 z fun _=>Uo (vs:=(ec (Ar a i) ah ai aj ak am an ao aq)) aD ag31<|⟨(),⟨s,Sp.refl⟩,rfl⟩
   ·exact Sd0 z fun _=>PP<|⟨(),⟨s,Sp.refl⟩,rfl⟩
   ·exact Sd0 z fun _=>Uo (vs:=(ec ye J K L M P Q R S)) k ag31<|⟨(),⟨s,Sp.refl⟩,rfl⟩
   ·refine Jf z (aC bz<|aC bA<|aC bB aN) fun _=>P1 (PK s cb62 r r (ih s.bd (Mx (Ar a i) ad) (Mx ye d) (by have h7:=yb (l:=a.args) (i:=i) o;unfold Ar;omega) hpy hly<|Ti (Kz o)<|Nat.le_of_lt_succ hN) ?_);intro _ _ bJ bK bL;exact⟨(),⟨bJ,bK⟩,bL⟩
   ·obtain⟨bM,bN,bO,bP,bQ,bR,bS,bT,bU,F⟩:=SR bC;refine Sd1 z bU fun _=>P5 (T:=Jc) (css:=[(ec (repE nm (lowE ye)<|Ar a i) bM bN bO bP bQ bR bS bT)]) (l:=[(repE nm (lowE ye)<|Ar a i)]) s sl29 io31 δ δ r κ ⟨(Ju (repE nm (lowE ye)<|Ar a i) F.lo F.hi F.name F.n F.num F.den F.args),trivial⟩ ?_;intro _ _ bV bW bX;exact⟨(),⟨bV,bW⟩,bX⟩
   obtain⟨_,_,_,_,_,_,_,_,bY,_⟩:=SR bI;obtain⟨bZ,b0,b1,aE⟩:=RS.opn aE;obtain⟨_,rfl⟩:=mixK z (aC bD<|aC bE<|aC bF<|aC bG<|aC bH<|aC bY<|aC b1 aN);refine Ol (P8 (T:=Jc) (v:=(S12 pa p pc)) (u:=(.slice bZ [(repE nm (lowE ye)<|Ar a i)].length b0)) s sl29 io31 r r hP (Z5 aE) (by rw[hp,Xo,UG,To];simp[maxLen];omega) (by rw[hp,Xo,UG,To];simp;omega) r ?_);intro _ _ _ b2 G _ ar;replace g:=g.ap G g.mem;obtain⟨a9,ba,rfl,_,_⟩:=ar.len;refine Ol (PJ J8 rfl<|On<|Us (cs':=[(.int .i64 a.op),(S12 a1 a.n V),(.bool a.c.num.neg),(S12 Y a.c.num.mag Z),(.bool a.c.den.neg),(S12 a5 a.c.den.mag c6),(str a.name),(.slice a9 (p++[(repE nm (lowE ye)<|Ar a i)]).length ba)]) b2 g io29 ?_);intro _ bb H b3;have e:=(e.tr G.tx).sp H;have d:=(d.tr G.tx).sp H;have ar:=ar.sp H bb<|fun _ h=>h
   replace A:=(A.ap G A.mem).spo H aP;replace k:=(k.ap G k.mem).spo H aQ;replace m:=(m.ap G m.mem).spo H aR;refine Nl<|PN<|Ol<|St.add r r (Ja (a:=i) (b:=1) o)<|Om<|Nl<|⟨_,o,_,_,(i+1),(p++[(repE nm (lowE ye)<|Ar a i)]),a9,ba,bb,rfl,rfl,rfl,rfl,rfl,rfl,rfl,e,d,ar,A,k,m,b3,o,(B5 hp o),rfl⟩
  refine Nl (PT<|Ue<|QB<|Rg<|Ol<|Uo (vs:=[(.int .i64 a.op),(S12 a1 a.n V),(.bool a.c.num.neg),(S12 Y a.c.num.mag Z),(.bool a.c.den.neg),(S12 a5 a.c.den.mag c6),(str a.name),(S12 pa p pc)]) g ag31<|On<|Us (cs':=[(.int .i64 a.op),(S12 a1 a.n V),(.bool a.c.num.neg),(S12 Y a.c.num.mag Z),(.bool a.c.den.neg),(S12 a5 a.c.den.mag c6),(str a.name),(S12 pa p pc)]) aS m io31 ?_);intro _ I bc b4;have e:=e.sp bc;have hP:=hP.sp bc I<|fun _ h=>h
  refine Nl (PS<|J1 r r b4 ag31 I ?_);exact SS (a:=(GExpr.mk a.op a.n a.c a.name p)) (py (GExpr.mk a.op a.n a.c a.name p) e.lo e.hi e.name ((e.n:RS _ _ _ _ _).tr I.wb) ((e.num:RS _ _ _ _ _).tr I.wb) ((e.den:RS _ _ _ _ _).tr I.wb)<|hP.toRS I hX)<|IF hno hp o
include hX
theorem OL(e:RV Jc X w b a){nm:List UInt8}{d:Value}{ye:GExpr}(g:RV Jc X w d ye)(hl:cntE a≤10000)(hpy:Yi ye=true)(hly:cntE ye≤10000):CRt 62 #[b,(str nm),d] w fun v w'=>RV Jc X w' v (repE nm (lowE ye) a):=IM ((SizeOf.sizeOf a)+1) hX e g hl hpy hly (VM _)
end
end Go.Wf
namespace Go.Wf
open Go
variable{α:Type}{x:Rr α}
theorem fp_t{s:List UInt8}{p c:Nat}(h:folB s p c=true):spM s p+1=fpM s p c:=by unfold fpM;rw[if_pos h]
theorem fp_f{s:List UInt8}{p c:Nat}(h:folB s p c=false):spM s p=fpM s p c:=by unfold fpM;rw[if_neg (by rw[h];decide)]
theorem Et{s:List UInt8}{p c:Nat}(h:¬hdM s p=c):folB s p c=false:=Dg fun k=>h k.2
theorem Am{s:List UInt8}{p c:Nat}(h:spM s p=s.length):folB s p c=false:=Dg fun _=>ω
theorem EA{s:List UInt8}{p c:Nat}(h:hdM s p=c)(hn:¬spM s p=s.length)(hp:p≤s.length):folB s p c=true:=Mr (by have:=K2 hp;omega) h
theorem w3(s:List UInt8)(p c:Nat):fpM s (spM s p) c=fpM s p c:=by unfold fpM;rw[pP,we]
theorem w4(s:List UInt8)(p:Nat):dgsM s (spM s p)=dgsM s p:=by unfold dgsM;rw[we]
theorem Rr.le{s:List UInt8}{p q:Nat}{a:α}(h:x.fw s p)(e:x= .ok a q):q≤s.length:=by rw[e] at h;exact h.2
theorem Rr.ge{s:List UInt8}{p q:Nat}{a:α}(h:x.fw s p)(e:x= .ok a q):p≤q:=by rw[e] at h;exact h.1
def vh(s:List UInt8)(o p c:Nat):Rr Unit:=if c=40 then opnM s o p else tkM s p c
def opA(c o:Nat):Nat:=if c=40 then o+1 else if c=41 then o-1 else o
theorem Hd{s:List UInt8}{o p c:Nat}(h:folB s p c=false):vh s o p c= .er 19 (fpM s p c):=by
 rw[←fp_f h];unfold vh opnM tkM;split
 ·rename_i e;subst e;rw[if_neg (by rw[h];decide)]
 ·rw[if_neg (by rw[h];decide)]
theorem GV{s:List UInt8}{o p c:Nat}(h:folB s p c=true)(hc:c=40)(ho:o=64):vh s o p c= .er 7 (fpM s p c-1):=by
 subst hc;rw[←fp_t h,U3];unfold vh opnM;rw[if_pos r,if_pos h,if_pos ho]
theorem G7{s:List UInt8}{o p c:Nat}(h:folB s p c=true)(hc:c=40)(ho:¬o=64):vh s o p c= .ok () (fpM s p c):=by
 subst hc;rw[←fp_t h];unfold vh opnM;rw[if_pos r,if_pos h,if_neg ho]
theorem AL{s:List UInt8}{o p c:Nat}(h:folB s p c=true)(hc:¬c=40):vh s o p c= .ok () (fpM s p c):=by
 rw[←fp_t h];unfold vh tkM;rw[if_neg hc,if_pos h]
theorem JC{c o:Nat}(h:c=40):o+1=opA c o:=by unfold opA;rw[if_pos h]
theorem Mt{c o:Nat}(h:¬c=40)(a:c=41):o-1=opA c o:=by unfold opA;rw[if_neg h,if_pos a]
theorem EI{c o:Nat}(h:¬c=40)(a:¬c=41):o=opA c o:=by unfold opA;rw[if_neg h,if_neg a]
theorem y9{d:List UInt8}{i:Nat}(h:i<d.length):Jm (d.take (i+1))=Jm (d.take i)*10+((d.getD i 0).toNat-48):=by
 unfold Jm;rw[UZ,List.foldl_append,Tq,Tt h]
 rfl
theorem IE{c:UInt8}(h:digB c=true):48≤c.toNat∧c.toNat≤57:=by
 unfold digB Ko at h;simp only[T2,decide_eq_true_eq] at h;omega
theorem Qt{s d:List UInt8}{p q:Nat}(h:dgsM s p= .ok d q):∀c∈d,digB c=true:=by
 unfold dgsM at h;split at h
 ·cases h
 ·cases h;intro c hc;exact Um.1 (List.all_takeWhile (l:=s.drop (spM s p)) (p:=digB)) c hc
theorem Xy{s d:List UInt8}{p q:Nat}(h:dgsM s p= .ok d q):d.length≤s.length:=by
 unfold dgsM at h;split at h
 ·cases h
 ·cases h
  have:=mx digB (s.drop (spM s p))
  rw[Tn] at this;unfold digL;omega
theorem Nk{s d:List UInt8}{p q:Nat}(h:dgsM s p= .ok d q):d≠[]:=by
 unfold dgsM at h;split at h
 ·cases h
 ·rename_i hn;cases h;exact hn
def valM(d:List UInt8):Nat:=min 1000001 (Jm d)
theorem CK{d:List UInt8}{i:Nat}(h:i<d.length)(hd:∀c∈d,digB c=true):((valM (d.take (i+1)):Nat):Int)=if((valM (d.take i)*10+((d.getD i 0).toNat-48):Nat):Int)<1000001 then((valM (d.take i)*10+((d.getD i 0).toNat-48):Nat):Int) else 1000001:=by
 unfold valM;rw[y9 h];split<;>omega
theorem qz{d:List UInt8}{i:Nat}(h:i<d.length)(hd:∀c∈d,digB c=true):48≤(d.getD i 0).toNat∧(d.getD i 0).toNat≤57:=by
 rw[Tq,Tt h];exact IE (hd _ (List.getElem_mem h))
theorem Gz{d:List UInt8}{i:Nat}(h:¬i<d.length):valM (d.take i)=valM d:=by rw[TE ω]
theorem xO(d:List UInt8):valM d≤1000001:=by unfold valM;omega
theorem El{s:List UInt8}{p q:Nat}{e:Int}(h:dgsM s (fpM s (spM s p) 45)= .er e q):intM s p= .er e q:=by
 rw[w3] at h;unfold intM;rw[h];rfl
theorem Ad{s d:List UInt8}{p q:Nat}(h:dgsM s (fpM s (spM s p) 45)= .ok d q)(hb:1000000<((valM d:Nat):Int)):intM s p= .er 2 (spM s p):=by
 rw[w3] at h;unfold intM;rw[h,Rr.th_ok,if_pos (by unfold valM at hb;omega)]
theorem F3{s d:List UInt8}{p q:Nat}(h:dgsM s (fpM s (spM s p) 45)= .ok d q)(hb:¬1000000<((valM d:Nat):Int))(hm:folB s (spM s p) 45=true):intM s p= .ok (-((valM d:Nat):Int)) q:=by
 rw[w3] at h;rw[pP] at hm;unfold intM;unfold valM at hb ⊢;rw[h,Rr.th_ok,if_neg ω,if_pos hm,Nat.min_eq_right ω]
theorem GH{s d:List UInt8}{p q:Nat}(h:dgsM s (fpM s (spM s p) 45)= .ok d q)(hb:¬1000000<((valM d:Nat):Int))(hm:folB s (spM s p) 45=false):intM s p= .ok ((valM d:Nat):Int) q:=by
 rw[w3] at h;rw[pP] at hm;unfold intM;unfold valM at hb ⊢;rw[h,Rr.th_ok,if_neg ω,if_neg (by rw[hm];decide),Nat.min_eq_right ω]
theorem Vd{s:List UInt8}{p q:Nat}{i:Int}(h:intM s p= .ok i q): -1000000≤i∧i≤1000000:=by
 unfold intM at h;cases hd:dgsM s (fpM s p 45) with
 |er e q=>rw[hd] at h;cases h
 |ok d q=>
  rw[hd,Rr.th_ok] at h;split at h
  ·cases h
  ·cases h;split<;>omega
theorem H2{s:List UInt8}{p q c:Nat}{i:Int}(h:intM s p= .ok i q):Vf s c p=Vj s c (s.length+1) [i] q:=by unfold Vf;rw[h];rfl
theorem Cl{s:List UInt8}{p q c:Nat}{e:Int}(h:intM s p= .er e q):Vf s c p= .er e q:=by unfold Vf;rw[h];rfl
section
variable {s:List UInt8} {q q' c k o:Nat} {i e:Int} {l:List Int} {M:Rr (List Int)}
theorem AH(hM:M=Vj s c k l q)(hk:s.length<q+k)(hq:q≤s.length)(hb:folB s q 44=true)(hx:intM s (fpM s q 44)= .ok i q'):M=Vj s c (k-1) (l++[i]) q':=by
 obtain⟨k,rfl⟩:∃j,k=j+1:=⟨k-1,ω⟩;rw[hM,Vj,if_pos hb,fp_t hb,hx];rfl
theorem IG(hM:M=Vj s c k l q)(hk:s.length<q+k)(hq:q≤s.length)(hb:folB s q 44=true)(hx:intM s (fpM s q 44)= .er e q'):M= .er e q':=by
 obtain⟨k,rfl⟩:∃j,k=j+1:=⟨k-1,ω⟩;rw[hM,Vj,if_pos hb,fp_t hb,hx];rfl
theorem uf{x:Rr Unit}(hM:M=Vj s c k l q)(hk:s.length<q+k)(hq:q≤s.length)(hb:folB s q 44=false)(hc:¬c=40)(hx:vh s o (fpM s q 44) c=x):M=x.th fun _ q=> .ok l q:=by
 obtain⟨k,rfl⟩:∃j,k=j+1:=⟨k-1,ω⟩;rw[←hx,hM,Vj,if_neg (by rw[hb];decide),←fp_f hb];unfold vh tkM;rw[if_neg hc,pP,we]
theorem mh(hb:folB s q 44=true)(hq:q≤s.length)(hx:intM s (fpM s q 44)= .ok i q'):q+1≤q'∧q'≤s.length:=by
 have h:=Z9 (s:=s) (p:=fpM s q 44) (Y2 hq);rw[hx] at h;have a:=Xk (s:=s) (p:=q);rw[←fp_t hb] at h;exact⟨by have:=h.1;omega,h.2⟩
end
theorem rg{s:List UInt8}{c:Nat}:∀(k:Nat) (l m:List Int) (p q:Nat),Vj s c k l p= .ok m q→m.length≤l.length+k
 |0,l,m,p,q,h=>by cases h
 |k+1,l,m,p,q,h=>by
  unfold Vj at h;split at h
  ·cases hi:intM s (spM s p+1) with
   |er e q=>rw[hi] at h;cases h
   |ok i r=>rw[hi] at h;have:=rg k (l++[i]) m r q h;rw[Tc,Tf] at this;omega
  ·cases hi:tkM s p c with
   |er e q=>rw[hi] at h;cases h
   |ok i r=>rw[hi] at h;cases h;omega
theorem tF{s:List UInt8}{c p q:Nat}{l:List Int}(h:Vf s c p= .ok l q):l.length≤s.length+2:=by
 unfold Vf at h;cases hi:intM s p with
 |er e q=>rw[hi] at h;cases h
 |ok i r=>rw[hi] at h;have:=rg _ _ _ _ _ h;rw[Tf] at this;omega
theorem tk_o{s:List UInt8}{o p q:Nat}(h:opnM s o p= .ok () q)(ho:o≤64):o+1≤64:=by
 unfold opnM at h;split at h
 ·split at h
  ·cases h
  ·omega
 ·cases h
section
variable {s w:List UInt8} {S:Nat→Nat→Rr GExpr} {o p q0 p1 p2 p3 p4 p5 p6 p7 q:Nat} {op n e:Int} {l:List Int} {a b:GExpr} {M:Rr GExpr} {u u1 u2 u3 u4:Unit}
theorem ls1(hM:M=V5 s op o p)(h:opnM s o p= .er e q):M= .er e q:=by rw[hM,V5,h];rfl
theorem ls2(hM:M=V5 s op o p)(h:opnM s o p= .ok u p1)(d:Vf s 41 p1= .er e q):M= .er e q:=by rw[hM,V5,h,Rr.th_ok,d];rfl
theorem ls3(hM:M=V5 s op o p)(h:opnM s o p= .ok u p1)(d:Vf s 41 p1= .ok l q):M= .ok (eOp op l []) q:=by rw[hM,V5,h,Rr.th_ok,d];rfl
theorem tw1(hM:M=twoM s op o p)(h:opnM s o p= .er e q):M= .er e q:=by rw[hM,twoM,h];rfl
theorem tw2(hM:M=twoM s op o p)(h:opnM s o p= .ok u p1)(d:intM s p1= .er e q):M= .er e q:=by rw[hM,twoM,h,Rr.th_ok,d];rfl
theorem tw3(hM:M=twoM s op o p)(h:opnM s o p= .ok u p1)(d:intM s p1= .ok n p2)(g:tkM s p2 41= .er e q):M= .er e q:=by rw[hM,twoM,h,Rr.th_ok,d,Rr.th_ok,g];rfl
theorem tw4(hM:M=twoM s op o p)(h:opnM s o p= .ok u p1)(d:intM s p1= .ok n p2)(g:tkM s p2 41= .ok u1 p3)(i:tkM s p3 91= .er e q):M= .er e q:=by
 rw[hM,twoM,h,Rr.th_ok,d,Rr.th_ok,g,Rr.th_ok,i];rfl
theorem tw5(hM:M=twoM s op o p)(h:opnM s o p= .ok u p1)(d:intM s p1= .ok n p2)(g:tkM s p2 41= .ok u1 p3)(i:tkM s p3 91= .ok u2 p4)(j:Vf s 93 p4= .er e q):M= .er e q:=by
 rw[hM,twoM,h,Rr.th_ok,d,Rr.th_ok,g,Rr.th_ok,i,Rr.th_ok,j];rfl
theorem tw6(hM:M=twoM s op o p)(h:opnM s o p= .ok u p1)(d:intM s p1= .ok n p2)(g:tkM s p2 41= .ok u1 p3)(i:tkM s p3 91= .ok u2 p4)(j:Vf s 93 p4= .ok l q):M= .ok (eOp op (n::l) []) q:=by
 rw[hM,twoM,h,Rr.th_ok,d,Rr.th_ok,g,Rr.th_ok,i,Rr.th_ok,j];rfl
theorem sr1(hM:M=serM s S o p)(h:opnM s o p= .er e q):M= .er e q:=by rw[hM,serM,h];rfl
theorem sr2(hM:M=serM s S o p)(h:opnM s o p= .ok u p1)(d:S (o+1) p1= .er e q):M= .er e q:=by rw[hM,serM,h,Rr.th_ok,d];rfl
theorem sr3(hM:M=serM s S o p)(h:opnM s o p= .ok u p1)(d:S (o+1) p1= .ok a p2)(g:tkM s p2 41= .er e q):M= .er e q:=by rw[hM,serM,h,Rr.th_ok,d,Rr.th_ok,g];rfl
theorem sr4(hM:M=serM s S o p)(h:opnM s o p= .ok u p1)(d:S (o+1) p1= .ok a p2)(g:tkM s p2 41= .ok u1 q):M= .ok (eOp 17 [] [a]) q:=by rw[hM,serM,h,Rr.th_ok,d,Rr.th_ok,g];rfl
def oneB(s:List UInt8)(S:Nat→Nat→Rr GExpr)(op:Int)(two:Bool)(o p4:Nat)(n:Int)(a:GExpr):Rr GExpr:=
 if two then(tkM s p4 44).th fun _ p5=>(S (o+1) p5).th fun b p6=>(tkM s p6 41).th fun _ p7=> .ok (eOp op [n] [a,b]) p7
 else(tkM s p4 41).th fun _ p5=> .ok (eOp op [n] [a]) p5
variable {t:Bool}
theorem on1(hM:M=oneM s S op t o p)(h:opnM s o p= .er e q):M= .er e q:=by rw[hM,oneM,h];rfl
theorem on2(hM:M=oneM s S op t o p)(h:opnM s o p= .ok u p1)(d:intM s p1= .er e q):M= .er e q:=by rw[hM,oneM,h,Rr.th_ok,d];rfl
theorem on3(hM:M=oneM s S op t o p)(h:opnM s o p= .ok u p1)(d:intM s p1= .ok n p2)(g:tkM s p2 44= .er e q):M= .er e q:=by rw[hM,oneM,h,Rr.th_ok,d,Rr.th_ok,g];rfl
theorem on4(hM:M=oneM s S op t o p)(h:opnM s o p= .ok u p1)(d:intM s p1= .ok n p2)(g:tkM s p2 44= .ok u1 p3)(i:S (o+1) p3= .er e q):M= .er e q:=by
 rw[hM,oneM,h,Rr.th_ok,d,Rr.th_ok,g,Rr.th_ok,i];rfl
theorem on5(hM:M=oneM s S op t o p)(h:opnM s o p= .ok u p1)(d:intM s p1= .ok n p2)(g:tkM s p2 44= .ok u1 p3)(i:S (o+1) p3= .ok a p4):M=oneB s S op t o p4 n a:=by
 rw[hM,oneM,h,Rr.th_ok,d,Rr.th_ok,g,Rr.th_ok,i];rfl
theorem ob1(hM:M=oneB s S op t o p4 n a)(ht:t=true)(h:tkM s p4 44= .er e q):M= .er e q:=by rw[hM,oneB,if_pos ht,h];rfl
theorem ob2(hM:M=oneB s S op t o p4 n a)(ht:t=true)(h:tkM s p4 44= .ok u p5)(d:S (o+1) p5= .er e q):M= .er e q:=by rw[hM,oneB,if_pos ht,h,Rr.th_ok,d];rfl
theorem ob3(hM:M=oneB s S op t o p4 n a)(ht:t=true)(h:tkM s p4 44= .ok u p5)(d:S (o+1) p5= .ok b p6):M=(tkM s p6 41).th fun _ q=> .ok (eOp op [n] [a,b]) q:=by rw[hM,oneB,if_pos ht,h,Rr.th_ok,d];rfl
theorem ob4(hM:M=oneB s S op t o p4 n a)(ht:t=false):M=(tkM s p4 41).th fun _ q=> .ok (eOp op [n] [a]) q:=by rw[hM,oneB,if_neg (by rw[ht];decide)]
theorem oz1{l:List GExpr}(hM:M=(tkM s p6 41).th fun _ q=> .ok (eOp op [n] l) q)(h:tkM s p6 41= .er e q):M= .er e q:=by rw[hM,h];rfl
theorem oz2{l:List GExpr}(hM:M=(tkM s p6 41).th fun _ q=> .ok (eOp op [n] l) q)(h:tkM s p6 41= .ok u q):M= .ok (eOp op [n] l) q:=by rw[hM,h];rfl
end
abbrev wG:List UInt8:=[71]
abbrev wNew:List UInt8:=[110,101,119,102,111,114,109]
abbrev wEta:List UInt8:=[101,116,97]
abbrev Bh:List UInt8:=[116,104,101,116,97]
abbrev yE:List UInt8:=[116,119,105,115,116]
abbrev wBr:List UInt8:=[98,114,97,99,107,101,116]
abbrev wSer:List UInt8:=[115,101,114,114,101]
section
variable {s w:List UInt8} {S:Nat→Nat→Rr GExpr} {o p q0:Nat}
theorem AM{op:Int}(h:(w=wG∧op=3)∨(w=wNew∧op=9)):Zx s S w q0 o p=V5 s op o p:=by rcases h with ⟨rfl,rfl⟩|⟨rfl,rfl⟩<;>rfl
theorem Ek{op:Int}(h:(w=wEta∧op=4)∨(w=Bh∧op=5)):Zx s S w q0 o p=twoM s op o p:=by rcases h with ⟨rfl,rfl⟩|⟨rfl,rfl⟩<;>rfl
def wc(w:List UInt8)(op:Int):Prop:=(w=[86]∧op=13)∨(w=[85]∧op=14)∨(w=[84]∧op=15)∨(w=yE∧op=16)∨(w=wBr∧op=18)
theorem L0{op:Int}(h:wc w op):Zx s S w q0 o p=oneM s S op (decide (w=wBr)) o p:=by rcases h with ⟨rfl,rfl⟩|⟨rfl,rfl⟩|⟨rfl,rfl⟩|⟨rfl,rfl⟩|⟨rfl,rfl⟩<;>rfl
theorem Hk{op:Int}(h:wc w op):13≤op∧op≤18:=by rcases h with ⟨_,rfl⟩|⟨_,rfl⟩|⟨_,rfl⟩|⟨_,rfl⟩|⟨_,rfl⟩<;>decide
def CS(w:List UInt8):Prop:=¬w=[86]∧¬w=[85]∧¬w=[84]∧¬w=yE∧¬w=wBr
def tj(w:List UInt8):Prop:=¬w=wG∧¬w=wNew
def CV(w:List UInt8):Prop:=¬w=wEta∧¬w=Bh
theorem KO{w:List UInt8}(h:∃op,wc w op)(d:¬w=[86])(g:¬w=[85])(i:¬w=[84])(j:¬w=yE):wc w 18:=by
 obtain⟨op,h|h|h|h|h⟩:=h
 ·exact absurd h.1 d
 ·exact absurd h.1 g
 ·exact absurd h.1 i
 ·exact absurd h.1 j
 ·exact .inr (.inr (.inr (.inr ⟨h.1,rfl⟩)))
theorem uo(h:w=wSer):Zx s S w q0 o p=serM s S o p:=by subst h;rfl
theorem B6(h:w=[68,101,108,116,97]):Zx s S w q0 o p= .ok (eOp 6 [] []) p:=by subst h;rfl
theorem rs_j(h:w=[106]):Zx s S w q0 o p= .ok (eOp 7 [] []) p:=by subst h;rfl
theorem LO(i:¬w=[68,101,108,116,97])(j:¬w=[106])(g:tj w)(h:CV w)(d:CS w)(k:¬w=wSer):Zx s S w q0 o p=if Km w then .ok (Bo w) p else .er 19 q0:=by
 unfold Zx;rw[if_neg i,if_neg j,if_neg g.1,if_neg g.2,if_neg h.1,if_neg h.2,if_neg d.1,if_neg d.2.1,if_neg d.2.2.1,if_neg d.2.2.2.1,if_neg d.2.2.2.2,if_neg k]
theorem Hx(d:¬w=[68,101,108,116,97])(g:¬w=[106])(h:tj w)(i:CV w)(j:CS w)(k:¬w=wSer)(m:Km w=true):Zx s S w q0 o p= .ok (Bo w) p:=by
 rw[LO d g h i j k,if_pos m]
theorem JJ(d:¬w=[68,101,108,116,97])(g:¬w=[106])(h:tj w)(i:CV w)(j:CS w)(k:¬w=wSer)(m:Km w=false):Zx s S w q0 o p= .er 19 q0:=by
 rw[LO d g h i j k,if_neg (by rw[m];decide)]
end
section
variable {m:List Nat} {k cy T:Nat}
theorem uC(h:val m*10+cy=T):val m+4294967296^0*cy+9*(4294967296^0*val (m.drop 0))=T:=by
 rw[Uv,Nat.pow_zero];omega
theorem AK(h:val m+4294967296^k*cy+9*(4294967296^k*val (m.drop k))=T)(hk:k<m.length):
  val (m.set k ((m.getD k 0*10+cy)%4294967296))+4294967296^(k+1)*((m.getD k 0*10+cy)/4294967296)+9*(4294967296^(k+1)*val ((m.set k ((m.getD k 0*10+cy)%4294967296)).drop (k+1)))=T:=by
 have a:=oc (l:=m) (d:=(m.getD k 0*10+cy)%4294967296) hk;have i:(m.set k ((m.getD k 0*10+cy)%4294967296)).drop (k+1)=m.drop (k+1):=List.drop_set_of_lt o;have j:val (m.drop k)=m.getD k 0+4294967296*val (m.drop (k+1)):=by
  rw[Uu hk,Tq,Tt hk];rfl
 rw[i];rw[j] at h;have g:=U7 (m.getD k 0*10+cy) 4294967296;generalize (m.getD k 0*10+cy)%4294967296=r at a g ⊢;generalize (m.getD k 0*10+cy)/4294967296=q at g ⊢;generalize val (m.set k r)=V at a ⊢;generalize val (m.drop (k+1))=D at h ⊢;generalize m.getD k 0=u at a g h ⊢;generalize val m=W at h a;rw[TF];generalize 4294967296^k=b at h a ⊢;have e1:b*(4294967296*q+r)=b*(u*10+cy):=by rw[g]
 rw[TH,TH] at e1;rw[TH] at h;have e2:b*4294967296*q=b*(4294967296*q):=TO ..;have v:b*4294967296*D=b*(4294967296*D):=TO ..;have w:b*(u*10)=b*u*10:=(TO ..).symm;rw[e2,v];omega
theorem wv{n:Nat}(h:val m+4294967296^k*cy+9*(4294967296^k*val (m.drop k))=T)(hk:¬k<n)(hm:m.length=n)(hkn:k≤n)(hc:cy<10):val (m++[cy%4294967296])=T:=by
 have:k=m.length:=o
 subst this;rw[List.drop_length] at h;rw[Kf,VO o]
 have:val ([]:List Nat)=0:=rfl
 rw[this] at h;omega
theorem BM{n:Nat}(h:val m+4294967296^k*cy+9*(4294967296^k*val (m.drop k))=T)(hk:¬k<n)(hm:m.length=n)(hkn:k≤n)(hc:¬0<cy):val m=T:=by
 have:=wv h hk hm hkn o
 rw[show cy=0 by omega,Kf] at this;simpa using this
end
theorem NI{x cy:Nat}(hx:x<4294967296)(hc:cy<10):(x*10+cy)/4294967296<10:=o
theorem Eg{m:List Nat}{d:List UInt8}{i:Nat}(hs:Jr m)(h:val m=Jm (d.take i))(hi:¬i<d.length):mkSg false m=ofZ (Jm d:Int):=by
 refine Y4 hs ?_;rw[h,TE o];rfl
theorem yL:∀(i:Nat) (d:List UInt8),(∀c∈d,digB c=true)→i≤d.length→Jm (d.take i)<4294967296^i
 |0,d,_,_=>by simp[Jm]
 |i+1,d,hd,hi=>by
  have h:=yL i d hd o;have a:=qz (i:=i) hi hd;rw[y9 hi,TF];generalize 4294967296^i=b at h ⊢;omega
theorem V3{d:List UInt8}(hd:∀c∈d,digB c=true):(ofZ (Jm d:Int)).mag.length≤d.length:=by
 have h:=yL d.length d hd (Tu _);rw[U1] at h;exact Za h
def zB(n:Nat)(c:UInt8):Bool:=decide (c.toNat=n)
theorem FO{t:List UInt8}{n:Nat}(h:0<t.length)(b:(t.getD 0 0).toNat=n):t.dropWhile (zB n)=(t.drop 1).dropWhile (zB n):=by
 cases t with
 |nil=>cases h
 |cons a t=>rw[List.dropWhile_cons,if_pos (show zB n a=true from decide_eq_true b)];rfl
theorem HB{t:List UInt8}{n:Nat}(b:¬(t.getD 0 0).toNat=n):t.dropWhile (zB n)=t:=by
 cases t with
 |nil=>rfl
 |cons a t=>rw[List.dropWhile_cons,if_neg (by unfold zB;rw[decide_eq_true_eq];exact b)]
theorem JK{t:List UInt8}{n:Nat}(h:¬0<t.length):t.dropWhile (zB n)=t:=by
 cases t with
 |nil=>rfl
 |cons a t=>exact absurd (Nat.succ_pos _) h
theorem Mb{t:List UInt8}{n:Nat}(h:∀c∈t,digB c=true):∀c∈t.dropWhile (zB n),digB c=true:=fun c hc=>h c ((List.dropWhile_sublist _).mem hc)
theorem Lp{t:List UInt8}{n:Nat}:(t.dropWhile (zB n)).length≤t.length:=(List.dropWhile_sublist _).length_le
theorem Bj:∀ {t:List UInt8} {n:Nat},¬t.dropWhile (zB n)=[]→¬((t.dropWhile (zB n)).getD 0 0).toNat=n
 |[],_,h=>absurd ϱ h
 |a::t,n,h=>by
  rw[List.dropWhile_cons] at h ⊢;split
  ·rename_i hz;rw[if_pos hz] at h;exact Bj h
  ·rename_i hz;exact fun e=>hz (decide_eq_true e)
theorem rS:∀(t:List UInt8),Jm (t.dropWhile (zB 48))=Jm t
 |[]=>rfl
 |a::t=>by
  rw[List.dropWhile_cons];split
  ·rename_i hz;rw[rS t];unfold zB at hz;rw[decide_eq_true_eq] at hz;unfold Jm;rw[List.foldl_cons,hz]
  ·rfl
theorem Le{d:List UInt8}(hd:∀c∈d,digB c=true):¬d.take 1=[45]:=by
 intro h
 have:(45:UInt8)∈d:=List.mem_of_mem_take (by rw[h];exact List.mem_singleton.2 ϱ)
 exact absurd (hd _ this) δ
theorem CR{d:List UInt8}(h:∀c∈d,digB c=true):∀c∈([48]:List UInt8),digB c=true:=by intro c hc;rw[List.mem_singleton.1 hc];decide
theorem Mm{d:List UInt8}(h:d.dropWhile (zB 48)=[]):ofZ (Jm [48]:Int)=ofZ (Jm d:Int):=by rw[←rS d,h];rfl
theorem Ns{d:List UInt8}:ofZ (Jm (d.dropWhile (zB 48)):Int)=ofZ (Jm d:Int):=by rw[rS]
section
variable {s n d:List UInt8} {p q q2 r:Nat} {e:Int}
theorem PE(h:dgsM s p= .er e q):numM s p= .er e q:=by unfold numM;rw[h];rfl
theorem KX(h:dgsM s p= .ok n q)(hf:folB s q 47=false):numM s p= .ok (eNum (Jm n) 1) (fpM s q 47):=by unfold numM;rw[h,Rr.th_ok,if_neg WH,fp_f hf]
theorem Li(h:dgsM s p= .ok n q)(hf:folB s q 47=true)(a:dgsM s (spM s (fpM s q 47))= .er e r):numM s p= .er e r:=by
 rw[w4,←fp_t hf] at a;unfold numM;rw[h,Rr.th_ok,if_pos hf,a];rfl
theorem G0(h:dgsM s p= .ok n q)(hf:folB s q 47=true)(a:dgsM s (spM s (fpM s q 47))= .ok d r)(hz:(Jm d:Int).sign=0):numM s p= .er 19 (spM s (fpM s q 47)):=by
 rw[w4,←fp_t hf] at a;unfold numM;rw[h,Rr.th_ok,if_pos hf,a,Rr.th_ok,if_pos (by have:=Uj.1 hz;omega),fp_t hf]
theorem NB(h:dgsM s p= .ok n q)(hf:folB s q 47=true)(a:dgsM s (spM s (fpM s q 47))= .ok d r)(hz:¬(Jm d:Int).sign=0):numM s p= .ok (eNum (Jm n) (Jm d)) r:=by
 rw[w4,←fp_t hf] at a;unfold numM;rw[h,Rr.th_ok,if_pos hf,a,Rr.th_ok,if_neg (fun e=>hz P')]
end
theorem oB{s:List UInt8}{p:Nat}(h:p≤s.length):p+(Zt s p).length≤s.length:=by
 have:=mx okB (s.drop p)
 rw[Tn] at this;unfold Zt;omega
theorem mf{s:List UInt8}{p:Nat}:(Zt s p).length≤s.length:=by
 have:=mx okB (s.drop p)
 rw[Tn] at this;unfold Zt;omega
theorem JZ{s:List UInt8}{p:Nat}(h:Ky (hdM s p)=true):spM s p<s.length:=by
 rcases TN (spM s p) s.length with b|b
 ·exact b
 ·unfold hdM at h;rw[Tq,TQ b] at h;cases h
theorem xK{s:List UInt8}{p:Nat}(h:Ky (hdM s p)=true):Zt s (spM s p)=s.getD (spM s p) 0::Zt s (spM s p+1):=by
 have b:=JZ h;unfold Zt;rw[zg b,List.takeWhile_cons,if_pos (by unfold okB;unfold hdM at h;rw[h];rfl)]
theorem tR{s:List UInt8}{p:Nat}(h:Ky (hdM s p)=true):0<(Zt s (spM s p)).length:=by rw[xK h];exact Nat.succ_pos _
theorem wt_t{w:List UInt8}(d:(((w.getD 0 0).toNat:Nat):Int)=69)(b:((w.drop 1).all digB&&decide (¬w.drop 1=[]))=true):Zj w=true:=by
 simp only[T2,decide_eq_true_eq] at b;unfold Zj;simp only[T2,decide_eq_true_eq];refine⟨⟨?_,UInt8.toNat_inj.1 (by show _=69;omega)⟩,b.1⟩
 have:0<(w.drop 1).length:=UH.2 b.2
 rw[Tn] at this;omega
theorem Nv{w:List UInt8}(b:¬(((w.getD 0 0).toNat:Nat):Int)=69):Zj w=false:=by
 unfold Zj
 have:decide (w.getD 0 0=69)=false:=decide_eq_false fun e=>b P'
 rw[this,Bool.and_false,Bool.false_and]
theorem Md{w:List UInt8}(b:((w.drop 1).all digB&&decide (¬w.drop 1=[]))=false):Zj w=false:=by
 unfold Zj;rcases Bool.and_eq_false_iff.1 b with h|h
 ·rw[h,Bool.and_false]
 ·have h:=of_decide_eq_false h
  have:w.drop 1=[]:=T6 fun e=>h e
  have d:w.length-1=0:=by rw[←Tn,this];rfl
  have g:w.length≤1:=ω
  rw[show decide (1<w.length)=false from decide_eq_false ω,Bool.false_and,Bool.false_and]
theorem KS{w:List UInt8}(b:((w.drop 1).all digB&&decide (¬w.drop 1=[]))=true):∀c∈w.drop 1,digB c=true:=by
 simp only[T2] at b;exact Um.1 b.1
section
variable {s:List UInt8} {S:Nat→Nat→Rr GExpr} {o p q p1 p2 r k:Nat} {a:GExpr} {e n:Int} {u u1:Unit}
theorem NW(hd:Ko (hdM s p)=true)(h:numM s (spM s p)= .er e q):Yg s S o p= .er e q:=by unfold Yg;rw[if_pos hd,h];rfl
theorem O4(hd:Ko (hdM s p)=true)(h:numM s (spM s p)= .ok a q):Yg s S o p= .ok (a,true) q:=by unfold Yg;rw[if_pos hd,h];rfl
theorem OE(hd:Ko (hdM s p)=false)(hh:((hdM s p:Nat):Int)=40)(h:opnM s o (spM s p)= .er e q):Yg s S o p= .er e q:=by
 unfold Yg;rw[if_neg Ws,if_pos ω,h];rfl
theorem Ow(hd:Ko (hdM s p)=false)(hh:((hdM s p:Nat):Int)=40)(h:opnM s o (spM s p)= .ok u p1)(b:S (o+1) p1= .er e q):Yg s S o p= .er e q:=by
 unfold Yg;rw[if_neg Ws,if_pos ω,h,Rr.th_ok,b];rfl
theorem OV(hd:Ko (hdM s p)=false)(hh:((hdM s p:Nat):Int)=40)(h:opnM s o (spM s p)= .ok u p1)(b:S (o+1) p1= .ok a p2)(d:tkM s p2 41= .er e q):Yg s S o p= .er e q:=by
 unfold Yg;rw[if_neg Ws,if_pos ω,h,Rr.th_ok,b,Rr.th_ok,d];rfl
theorem NU(hd:Ko (hdM s p)=false)(hh:((hdM s p:Nat):Int)=40)(h:opnM s o (spM s p)= .ok u p1)(b:S (o+1) p1= .ok a p2)(d:tkM s p2 41= .ok u1 q):Yg s S o p= .ok (a,false) q:=by
 unfold Yg;rw[if_neg Ws,if_pos ω,h,Rr.th_ok,b,Rr.th_ok,d];rfl
theorem at_x(hd:Ko (hdM s p)=false)(hh:¬((hdM s p:Nat):Int)=40)(hl:Ky (hdM s p)=false):Yg s S o p= .er 19 (spM s p):=by
 unfold Yg;rw[if_neg Ws,if_neg ω,if_neg (by rw[hl];decide)]
theorem at_w(hd:Ko (hdM s p)=false)(hh:¬((hdM s p:Nat):Int)=40)(hl:Ky (hdM s p)=true):Yg s S o p=
  if Zj (Zt s (spM s p)) then(if 1000000<Jm ((Zt s (spM s p)).drop 1) then .er 2 (spM s p+1) else .ok (eOp 2 [(Jm ((Zt s (spM s p)).drop 1):Int)] [],false) (spM s p+(Zt s (spM s p)).length))
  else(Zx s S (Zt s (spM s p)) (spM s p) o (spM s p+(Zt s (spM s p)).length)).th fun a q=> .ok (a,false) q:=by
 unfold Yg;rw[if_neg Ws,if_neg ω,if_pos hl]
variable (hd:Ko (hdM s p)=false) (hh:¬((hdM s p:Nat):Int)=40) (hl:Ky (hdM s p)=true)
include hd hh hl
theorem JO(hw:Zj (Zt s (spM s p))=true)(hb:1000000<((valM ((Zt s (spM s p)).drop 1):Nat):Int)):Yg s S o p= .er 2 (spM s p+1):=by
 rw[at_w hd hh hl,if_pos hw,if_pos (by unfold valM at hb;omega)]
theorem at_E(hw:Zj (Zt s (spM s p))=true)(hb:¬1000000<((valM ((Zt s (spM s p)).drop 1):Nat):Int)):
  Yg s S o p= .ok (eOp 2 [((valM ((Zt s (spM s p)).drop 1):Nat):Int)] [],false) (spM s p+(Zt s (spM s p)).length):=by
 unfold valM at hb ⊢;rw[at_w hd hh hl,if_pos hw,if_neg ω,Nat.min_eq_right ω]
theorem Nx(hw:Zj (Zt s (spM s p))=false)(h:Zx s S (Zt s (spM s p)) (spM s p) o (spM s p+(Zt s (spM s p)).length)= .er e q):Yg s S o p= .er e q:=by
 rw[at_w hd hh hl,if_neg (by rw[hw];decide),h];rfl
theorem My(hw:Zj (Zt s (spM s p))=false)(h:Zx s S (Zt s (spM s p)) (spM s p) o (spM s p+(Zt s (spM s p)).length)= .ok a q):Yg s S o p= .ok (a,false) q:=by
 rw[at_w hd hh hl,if_neg (by rw[hw];decide),h];rfl
end
section
variable (s:List UInt8) (S:Nat→Nat→Rr GExpr) (o:Nat)
def Qy:Nat→List GExpr→Bool→Nat→Rr (List GExpr×Bool)
 |0,_,_,p=>(powM s S o p).th fun _ q=> .er 0 q
 |k+1,l,pl,p=>(powM s S o p).th fun a q=>
  if folB s q 42 then Qy k (l++[a.1]) (if l.length=0 then a.2 else pl) (spM s q+1) else .ok (l++[a.1],if l.length=0 then a.2 else pl) (spM s q)
end
section
variable {s:List UInt8} {S:Nat→Nat→Rr GExpr} {o p q r k q1:Nat} {a:GExpr×Bool} {e n:Int} {l m:List GExpr} {pl pl2 minus:Bool} {M:Rr (List GExpr×Bool)}
theorem Rr.th_th{β γ:Type}(x:Rr α)(f:α→Nat→Rr β)(g:β→Nat→Rr γ):(x.th f).th g=x.th fun a p=>(f a p).th g:=by cases x<;>rfl
theorem uO:∀(k:Nat) (l:List GExpr) (pl:Bool) (p:Nat),Qy s S o k l pl p=(powM s S o p).th fun a q=>(yj s S o k (l++[a.1]) q).th fun m q'=> .ok (m,if l.length=0 then a.2 else pl) q'
 |0,l,pl,p=>rfl
 |k+1,l,pl,p=>by
  unfold Qy
  congr 1
  funext a q
  rw[yj];split
  ·rw[uO k,Rr.th_th]
   congr 1
   funext b r
   rw[if_neg (by rw[Tc];simp)]
  ·rfl
theorem uP(minus:Bool):Kw s S minus o p=(Qy s S o (s.length+1) [] false p).th fun x q=> .ok (Ki 11 (negL minus x.2 x.1)) q:=by
 rw[uO,Rr.th_th];unfold Kw
 congr 1
 funext a q
 rw[Rr.th_th];rfl
theorem KK(h:Yg s S o q= .er e r):powM s S o q= .er e r:=by unfold powM;rw[h];rfl
theorem JV(h:Yg s S o q= .ok a q1)(hf:folB s q1 94=true)(d:intM s (fpM s q1 94)= .er e r):powM s S o q= .er e r:=by
 unfold powM;rw[h,Rr.th_ok,if_pos hf,fp_t hf,d];rfl
theorem Q6(h:Yg s S o q= .ok a q1)(hf:folB s q1 94=true)(d:intM s (fpM s q1 94)= .ok n r):powM s S o q= .ok (eOp 12 [n] [a.1],false) r:=by
 unfold powM;rw[h,Rr.th_ok,if_pos hf,fp_t hf,d];rfl
theorem qi(h:Yg s S o q= .ok a q1)(hf:folB s q1 94=false):powM s S o q= .ok a (fpM s q1 94):=by
 unfold powM;rw[h,Rr.th_ok,if_neg WH,fp_f hf]
theorem L8(hM:M=Qy s S o k l pl q)(h:powM s S o q= .er e r):M= .er e r:=by
 rw[hM];cases k<;>(unfold Qy;rw[h];rfl)
theorem pr(hM:M=Qy s S o k l pl q)(hk:s.length<q+k)(hq:q≤s.length)(h:powM s S o q= .ok a r)(hf:folB s r 42=true)(hpl:pl2=if l.length=0 then a.2 else pl):M=Qy s S o (k-1) (l++[a.1]) pl2 (fpM s r 42):=by
 obtain⟨k,rfl⟩:∃j,k=j+1:=⟨k-1,ω⟩;rw[hM,Qy,h,Rr.th_ok,if_pos hf,fp_t hf,hpl];rfl
theorem ol(hM:M=Qy s S o k l pl q)(hk:s.length<q+k)(hq:q≤s.length)(h:powM s S o q= .ok a r)(hf:folB s r 42=false)(hpl:pl2=if l.length=0 then a.2 else pl):M= .ok (l++[a.1],pl2) (fpM s r 42):=by
 obtain⟨k,rfl⟩:∃j,k=j+1:=⟨k-1,ω⟩;rw[hM,Qy,h,Rr.th_ok,if_neg WH,fp_f hf,hpl]
theorem Z6(hS:∀o p,p≤s.length→(S o p).fw s p)(hq:q≤s.length)(h:powM s S o q= .ok a r)(hf:folB s r 42=true):q+1≤fpM s r 42∧fpM s r 42≤s.length:=by
 have d:=mT hS (o:=o) hq;rw[h] at d;have g:=Xk (s:=s) (p:=r);refine⟨?_,Y2 d.2⟩;rw[←fp_t hf]
 have:=d.1;omega
theorem D9(h:Qy s S o (s.length+1) [] false p= .er e r):Kw s S minus o p= .er e r:=by rw[uP,h];rfl
theorem ND(h:Qy s S o (s.length+1) [] false p= .ok (m,pl) r)(hp:pl=true):Kw s S true o p= .ok (Ki 11 (negE (m.getD 0 Δ)::m.drop 1)) r:=by rw[uP,h,hp];rfl
theorem L1(h:Qy s S o (s.length+1) [] false p= .ok (m,pl) r)(hp:pl=false):Kw s S true o p= .ok (Ki 11 (eNum (-1) 1::m)) r:=by rw[uP,h,hp];rfl
theorem LX(h:Qy s S o (s.length+1) [] false p= .ok (m,pl) r):Kw s S false o p= .ok (Ki 11 m) r:=by rw[uP,h];rfl
theorem CJ{op:Int}{m:List GExpr}(h:m.length=1):Ki op m=m.getD 0 Δ:=by
 cases m with
 |nil=>cases h
 |cons a m=>
  cases m with
  |nil=>rfl
  |cons b m=>simp at h
theorem Hj{op:Int}{m:List GExpr}(h:¬m.length=1):Ki op m=eOp op [] m:=by
 unfold Ki;split
 ·exact absurd ϱ h
 ·rfl
theorem Gq{m:List GExpr}(h:0<m.length):∃a l,m=a::l:=by
 cases m with
 |nil=>cases h
 |cons a l=>exact⟨a,l,rfl⟩
def cBd(s:List UInt8)(a:GExpr):Prop:=a.c.num.mag.length≤s.length∧a.c.den.mag.length≤s.length+1
theorem nu_c{a:GExpr}(h:numM s p= .ok a q):cBd s a:=by
 have key:∀n d:Int,(ofZ n).mag.length≤s.length→(ofZ d).mag.length≤s.length→cBd s (eNum n d):=fun n d hn hd=>⟨Tj (Qv n d) hn,Tj (Ql n d) ω⟩;unfold numM at h;cases hn:dgsM s p with
 |er e q=>rw[hn] at h;cases h
 |ok n q1=>
  have l1:(ofZ (Jm n:Int)).mag.length≤s.length:=Tj (V3 (Qt hn)) (Xy hn);rw[hn,Rr.th_ok] at h;split at h
  ·cases hd:dgsM s (spM s q1+1) with
   |er e q=>rw[hd] at h;cases h
   |ok d g=>
    rw[hd,Rr.th_ok] at h;split at h
    ·cases h
    ·cases h;exact key _ _ l1 (Tj (V3 (Qt hd)) (Xy hd))
  ·cases h;have l2:(ofZ 1).mag.length≤s.length:=by
    have i:=Xy hn;have j:=UH.2 (Nk hn)
    have:(ofZ 1).mag.length=1:=zf
    omega
   exact key _ _ l1 l2
theorem at_c(h:Yg s S o p= .ok a q)(hp:a.2=true):cBd s a.1:=by
 unfold Yg at h;split at h
 ·cases hn:numM s (spM s p) with
  |er e q=>rw[hn] at h;cases h
  |ok b q1=>rw[hn] at h;cases h;exact nu_c hn
 split at h
 ·cases d:opnM s o (spM s p) with
  |er e q=>rw[d] at h;cases h
  |ok u q1=>
   rw[d,Rr.th_ok] at h;cases g:S (o+1) q1 with
   |er e q=>rw[g] at h;cases h
   |ok b j=>
    rw[g,Rr.th_ok] at h;cases i:tkM s j 41 with
    |er e q=>rw[i] at h;cases h
    |ok u v=>rw[i] at h;cases h;cases hp
 split at h
 ·dsimp only at h;split at h
  ·split at h
   ·cases h
   ·cases h;cases hp
  ·cases d:Zx s S (Zt s (spM s p)) (spM s p) o (spM s p+(Zt s (spM s p)).length) with
   |er e q=>rw[d] at h;cases h
   |ok b q1=>rw[d] at h;cases h;cases hp
 ·cases h
theorem pw_c(h:powM s S o p= .ok a q)(hp:a.2=true):cBd s a.1:=by
 unfold powM at h;cases d:Yg s S o p with
 |er e q=>rw[d] at h;cases h
 |ok b q1=>
  rw[d,Rr.th_ok] at h;split at h
  ·cases g:intM s (spM s q1+1) with
   |er e q=>rw[g] at h;cases h
   |ok n i=>rw[g] at h;cases h;cases hp
  ·cases h;exact at_c d hp
theorem Ln:∀(k:Nat) (l:List GExpr) (pl:Bool) (p:Nat) (m:List GExpr) (pl2:Bool) (r:Nat),Qy s S o k l pl p= .ok (m,pl2) r→(0<l.length→pl=true→cBd s (l.getD 0 Δ))→pl2=true→cBd s (m.getD 0 Δ)
 |0,l,pl,p,m,pl2,r,h,_,_=>by
  unfold Qy at h;cases d:powM s S o p with
  |er e q=>rw[d] at h;cases h
  |ok a q=>rw[d] at h;cases h
 |k+1,l,pl,p,m,pl2,r,h,hl,hp=>by
  unfold Qy at h;cases d:powM s S o p with
  |er e q=>rw[d] at h;cases h
  |ok a q=>
   rw[d,Rr.th_ok] at h;have key:(if l.length=0 then a.2 else pl)=true→cBd s ((l++[a.1]).getD 0 Δ):=by
    intro hx;cases l with
    |nil=>exact pw_c d hx
    |cons b l=>exact hl (Nat.succ_pos _) hx
   split at h
   ·exact Ln k _ _ _ m pl2 r h (fun _=>key) hp
   ·cases h;exact key hp
theorem pr_c{m:List GExpr}(h:Qy s S o k [] false p= .ok (m,pl) r)(hp:pl=true):cBd s (m.getD 0 Δ):=Ln k [] false p m pl r h (fun h=>by cases h) hp
end
section
variable {s:List UInt8} {S:Nat→Nat→Rr GExpr} {o p q r k q1:Nat} {a:GExpr} {e n:Int} {l m:List GExpr} {M:Rr GExpr} {b:Bool}
theorem LU(h:Kw s S (folB s p 45) o (fpM s p 45)= .er e r):sumF s S o p= .er e r:=by unfold sumF;rw[h];rfl
theorem Ob(h:Kw s S (folB s p 45) o (fpM s p 45)= .ok a q):sumF s S o p=(sumL s S o (s.length+1) [a] q).th fun l q=> .ok (Ki 10 l) q:=by unfold sumF;rw[h];rfl
theorem A8(c d:Nat)(h:folB s q c=false):folB s (fpM s q c) d=folB s q d:=by rw[←fp_f h,pP]
theorem Hh(c d:Nat)(h:folB s q c=false):fpM s (fpM s q c) d=fpM s q d:=by rw[←fp_f h,w3]
theorem NO(hM:M=(sumL s S o k l q).th fun l q=> .ok (Ki 10 l) q)(hk:s.length<q+k)(hq:q≤s.length)(hf:folB s q 43=true)(h:Kw s S false o (fpM s q 43)= .er e r):M= .er e r:=by
 obtain⟨k,rfl⟩:∃j,k=j+1:=⟨k-1,ω⟩;rw[hM,sumL,if_pos hf,fp_t hf,h];rfl
theorem Pd(hM:M=(sumL s S o k l q).th fun l q=> .ok (Ki 10 l) q)(hk:s.length<q+k)(hq:q≤s.length)(hf:folB s q 43=true)(h:Kw s S false o (fpM s q 43)= .ok a r):M=(sumL s S o (k-1) (l++[a]) r).th fun l q=> .ok (Ki 10 l) q:=by
 obtain⟨k,rfl⟩:∃j,k=j+1:=⟨k-1,ω⟩;rw[hM,sumL,if_pos hf,fp_t hf,h];rfl
theorem Of(hM:M=(sumL s S o k l q).th fun l q=> .ok (Ki 10 l) q)(hk:s.length<q+k)(hq:q≤s.length)(d:folB s q 43=false)(hf:folB s (fpM s q 43) 45=true)(h:Kw s S true o (fpM s (fpM s q 43) 45)= .er e r):M= .er e r:=by
 obtain⟨k,rfl⟩:∃j,k=j+1:=⟨k-1,ω⟩;rw[Hh _ _ d] at h;rw[A8 _ _ d] at hf;rw[hM,sumL,if_neg Wv,if_pos hf,fp_t hf,h];rfl
theorem ON(hM:M=(sumL s S o k l q).th fun l q=> .ok (Ki 10 l) q)(hk:s.length<q+k)(hq:q≤s.length)(d:folB s q 43=false)(hf:folB s (fpM s q 43) 45=true)(h:Kw s S true o (fpM s (fpM s q 43) 45)= .ok a r):
  M=(sumL s S o (k-1) (l++[a]) r).th fun l q=> .ok (Ki 10 l) q:=by
 obtain⟨k,rfl⟩:∃j,k=j+1:=⟨k-1,ω⟩;rw[Hh _ _ d] at h;rw[A8 _ _ d] at hf;rw[hM,sumL,if_neg Wv,if_pos hf,fp_t hf,h];rfl
theorem FG(hM:M=(sumL s S o k l q).th fun l q=> .ok (Ki 10 l) q)(hk:s.length<q+k)(hq:q≤s.length)(d:folB s q 43=false)(hf:folB s (fpM s q 43) 45=false):M= .ok (Ki 10 l) (fpM s (fpM s q 43) 45):=by
 obtain⟨k,rfl⟩:∃j,k=j+1:=⟨k-1,ω⟩;rw[Hh _ _ d];rw[A8 _ _ d] at hf;rw[hM,sumL,if_neg Wv,if_neg WH,fp_f hf];rfl
theorem w1{op:Int}(h:M= .ok (Ki op l) q)(hl:((l.length:Nat):Int)=1):M= .ok (l.getD 0 Δ) q:=by rw[h,CJ ω]
theorem HP{op:Int}(h:M= .ok (Ki op l) q)(hl:¬((l.length:Nat):Int)=1):M= .ok (eOp op [] l) q:=by rw[h,Hj ω]
theorem Q9(hfw:∀p,p≤s.length→∀a q,Kw s S b o p= .ok a q→p≤q∧q≤s.length)(hq:q≤s.length){c:Nat}(hf:folB s q c=true)(h:Kw s S b o (fpM s q c)= .ok a r):q+1≤r∧r≤s.length:=by
 have d:=hfw _ (Y2 hq) a r h;have g:=Xk (s:=s) (p:=q);rw[←fp_t hf] at d;exact⟨by omega,d.2⟩
end
def Rr.u{α:Type}:Rr α→Rr Unit
 |.ok _ p=> .ok () p
 |.er e p=> .er e p
def Rr.fine{α:Type}(s:List UInt8):Rr α→Prop
 |.ok _ p=>p≤s.length
 |.er e p=>e≠0∧p≤s.length
section
variable {s:List UInt8} {t:Rr Unit} {c:Nat}
end
def rdT(s:List UInt8):GExpr×Nat×Int:=match Ve s with
 |.er e p=>(Xu,p,e)
 |.ok a _=>(a,0,0)
section
variable {s:List UInt8} {a:GExpr} {q p:Nat} {e:Int}
theorem Pl(h:sumF s (sumM s s.length) 0 0= .er e p):rdT s=(Xu,p,e):=by
 have h:sumM s (s.length+1) 0 0= .er e p:=h;unfold rdT Ve;rw[h];rfl
theorem G2(h:sumF s (sumM s s.length) 0 0= .ok a q)(hl:((spM s q:Nat):Int)<((s.length:Nat):Int)):rdT s=(Xu,spM s q,19):=by
 have h:sumM s (s.length+1) 0 0= .ok a q:=h;unfold rdT Ve;rw[h,Rr.th_ok,if_pos o]
theorem NY(h:sumF s (sumM s s.length) 0 0= .ok a q)(hl:¬((spM s q:Nat):Int)<((s.length:Nat):Int)):rdT s=(a,0,0):=by
 have h:sumM s (s.length+1) 0 0= .ok a q:=h;unfold rdT Ve;rw[h,Rr.th_ok,if_neg o]
theorem OP(h:sumF s (sumM s s.length) 0 0= .ok a q):q≤s.length:=by
 have b:=xz (s:=s) (s.length+1) 0 0 (Tv _);have h:sumM s (s.length+1) 0 0= .ok a q:=h;rw[h] at b;exact b.2
end
theorem Jy{β:Type}{g:α→Nat→Rr β}{a:β}{q:Nat}(h:x.th g= .ok a q):∃b r,x= .ok b r∧g b r= .ok a q:=by
 cases x with
 |er e p=>cases h
 |ok b r=>exact⟨b,r,rfl,h⟩
theorem Kb{c:Prop}[Decidable c]{x y z:α}(h:(if c then x else y)=z):(c∧x=z)∨(¬c∧y=z):=by
 by_cases hc:c
 ·rw[if_pos hc] at h;exact .inl ⟨hc,h⟩
 ·rw[if_neg hc] at h;exact .inr ⟨hc,h⟩
theorem m7{op:Int}{n:List Int}{l:List GExpr}(h:okL l):okE (eOp op n l):=by
 rw[Qo];exact⟨Tv _,Tv _,Tv _,h⟩
theorem Ej{l m:List GExpr}:okL (l++m)↔okL l∧okL m:=by
 induction l with
 |nil=>simp[okL]
 |cons a l ih=>simp only[Un,okL,ih,and_assoc]
theorem AQ{l m:List GExpr}:cntL (l++m)=cntL l+cntL m:=by
 induction l with
 |nil=>simp[cntL]
 |cons a l ih=>simp only[Un,cntL,ih,Nat.add_assoc]
theorem qm{op:Int}{n:List Int}{l:List GExpr}:cntE (eOp op n l)=1+cntL l:=by unfold eOp;rw[cntE]
def nuB(k:Nat)(m:GExpr):Prop:=∃n d:Int,m=eNum n d∧(ofZ n).mag.length≤k∧(ofZ d).mag.length≤k
theorem nuB.ok{k:Nat}{m:GExpr}(h:nuB k m)(hk:k≤999):okE m∧okE (negE m)∧cntE m=1∧cntE (negE m)=1:=by
 obtain⟨n,d,rfl,_,_⟩:=h;have e2:(ofZ (-n)).mag.length=(ofZ n).mag.length:=by show(digs (-n).natAbs).length=(digs n.natAbs).length;rw[Int.natAbs_neg]
 have e: -(eNum n d).c.q=Rat.divInt (-n) d:=by
  show -(ofQ (Rat.divInt n d)).q=_;rw[J9,Rat.neg_divInt]
 have b:=Qv n d;have g:=Ql n d;have i:=Qv (-n) d;have j:=Ql (-n) d;refine⟨?_,?_,rfl,rfl⟩
 ·rw[Qo];exact⟨Tj b ω,Tj g ω,Tv _,trivial⟩
 ·unfold negE;rw[e,Qo];exact⟨Tj i ω,Tj j ω,Tv _,trivial⟩
abbrev Sn(p q d:Nat)(a:GExpr):Prop:=okE a∧cntE a+4*p≤4*q+d
section
variable {s:List UInt8} {S:Nat→Nat→Rr GExpr} {o p q k:Nat} {op:Int} {a:GExpr} {l m:List GExpr}
theorem MD(h:numM s p= .ok a q):nuB (s.length+1) a:=by
 have key:∀n:List UInt8,∀q p:Nat,dgsM s p= .ok n q→(ofZ (Jm n:Int)).mag.length≤s.length+1:=fun n q p hn=>Tj (Tj (V3 (Qt hn)) (Xy hn)) (Nat.le_succ _);obtain⟨n,_,hn,h⟩:=Jy h;split at h
 ·obtain⟨_,_,hd,h⟩:=Jy h;split at h
  ·cases h
  ·cases h;exact⟨_,_,rfl,key _ _ _ hn,key _ _ _ hd⟩
 ·cases h;exact⟨_,1,rfl,key _ _ _ hn,Tj (Nat.le_of_eq zf) ω⟩
variable (hS:∀o p,p≤s.length→(S o p).fw s p) (hN:∀o p a q,p≤s.length→S o p= .ok a q→Sn p q 0 a)
theorem Yc{p q:Nat}{a:α}(h:x.fw s p)(e:x= .ok a q):p≤q∧q≤s.length:=by rw[e] at h;exact h
theorem As(hp:p≤s.length)(h:V5 s op o p= .ok a q):Sn p q 0 a:=by
 obtain⟨_,_,b,h⟩:=Jy h;obtain⟨_,_,d,h⟩:=Jy h;cases h;have k1:=Yc (Zp hp) b;have k2:=Yc (oh k1.2) d;exact⟨m7 trivial,by rw[qm,cntL];omega⟩
theorem FE(hp:p≤s.length)(h:twoM s op o p= .ok a q):Sn p q 0 a:=by
 obtain⟨_,_,b,h⟩:=Jy h;obtain⟨_,_,d,h⟩:=Jy h;obtain⟨_,_,e,h⟩:=Jy h;obtain⟨_,_,g,h⟩:=Jy h;obtain⟨_,_,i,h⟩:=Jy h;cases h;have k1:=Yc (Zp hp) b;have k2:=Yc (Z9 k1.2) d;have j:=Yc (Kh k2.2) e;have v:=Yc (Kh j.2) g;have w:=Yc (oh v.2) i;exact⟨m7 trivial,by rw[qm,cntL];omega⟩
include hS hN
theorem JM(hp:p≤s.length)(h:serM s S o p= .ok a q):Sn p q 0 a:=by
 obtain⟨_,_,d,h⟩:=Jy h;obtain⟨_,_,b,h⟩:=Jy h;obtain⟨_,_,e,h⟩:=Jy h;cases h;have k1:=Yc (Zp hp) d;have k2:=hN _ _ _ _ k1.2 b;have g:=Yc (Kh (Yc (hS _ _ k1.2) b).2) e;exact⟨m7 ⟨k2.1,trivial⟩,by rw[qm,cntL,cntL];have:=k2.2;omega⟩
theorem MR{two:Bool}(hp:p≤s.length)(h:oneM s S op two o p= .ok a q):Sn p q 0 a:=by
 obtain⟨_,_,x,h⟩:=Jy h;obtain⟨_,_,y,h⟩:=Jy h;obtain⟨_,_,z,h⟩:=Jy h;obtain⟨_,_,g,h⟩:=Jy h;have k1:=Yc (Zp hp) x;have k2:=Yc (Z9 k1.2) y;have i:=Yc (Kh k2.2) z;have b:=hN _ _ _ _ i.2 g;have j:=Yc (hS _ _ i.2) g;have D:=b.2;split at h
 ·obtain⟨_,A,d,h⟩:=Jy h;obtain⟨_,_,v,h⟩:=Jy h;obtain⟨_,_,B,h⟩:=Jy h;cases h;have e:=Yc (Kh j.2) d;have w:=hN _ _ _ _ e.2 v;have E:=Yc (Kh (Yc (hS _ _ e.2) v).2) B;have C:=w.2;exact⟨m7 ⟨b.1,w.1,trivial⟩,by rw[qm,cntL,cntL,cntL];omega⟩
 ·obtain⟨_,A,d,h⟩:=Jy h;cases h;have e:=Yc (Kh j.2) d;exact⟨m7 ⟨b.1,trivial⟩,by rw[qm,cntL,cntL];omega⟩
theorem GA{w:List UInt8}{q0:Nat}(hw:w.length≤1000)(hp:p≤s.length)(h:Zx s S w q0 o p= .ok a q):Sn p q 1 a:=by
 have wk:∀ {a:GExpr},Sn p q 0 a→Sn p q 1 a:=fun k=>⟨k.1,Tj k.2 (Nat.le_succ _)⟩;have z:∀ {op:Int},Sn p p 1 (eOp op [] []):=⟨m7 trivial,by rw[qm,cntL];omega⟩;unfold Zx at h;rcases Kb h with ⟨_,h⟩|⟨_,h⟩
 ·cases h;exact z
 rcases Kb h with ⟨_,h⟩|⟨_,h⟩
 ·cases h;exact z
 rcases Kb h with ⟨_,h⟩|⟨_,h⟩
 ·exact wk (As hp h)
 rcases Kb h with ⟨_,h⟩|⟨_,h⟩
 ·exact wk (As hp h)
 rcases Kb h with ⟨_,h⟩|⟨_,h⟩
 ·exact wk (FE hp h)
 rcases Kb h with ⟨_,h⟩|⟨_,h⟩
 ·exact wk (FE hp h)
 iterate 5
  rcases Kb h with ⟨_,h⟩|⟨_,h⟩
  ·exact wk (MR hS hN hp h)
 rcases Kb h with ⟨_,h⟩|⟨_,h⟩
 ·exact wk (JM hS hN hp h)
 rcases Kb h with ⟨_,h⟩|⟨_,h⟩
 ·cases h;exact⟨by rw[Qo];exact⟨Tv _,Tv _,hw,trivial⟩,by show 1+0+_≤_;omega⟩
 ·cases h
theorem HD{x:GExpr×Bool}(hs:s.length≤900)(hp:p≤s.length)(h:Yg s S o p= .ok x q):Sn p q 0 x.1∧(x.2=true→nuB (s.length+1) x.1):=by
 unfold Yg at h;have hsp:=K2 hp;have hge:=Xk (s:=s) (p:=p);split at h
 ·obtain⟨b,r,d,h⟩:=Jy h;cases h;have k1:=Yc (D6 hsp) d;have k2:=MD d;have g:=k2.ok ω;refine⟨⟨g.1,?_⟩,fun _=>k2⟩
  obtain⟨_,i,hn,_⟩:=Jy d;have j:=Yc (x1 hsp) hn;have A:spM s p+1≤q:=by
   have:(numM s (spM s p)).fw s (spM s p+1):=by
    unfold numM;rw[hn,Rr.th_ok];split
    ·rename_i hf;have v:=(Kc.1 hf).1;have w:=Xk (s:=s) (p:=i);refine Rr.fw_mono (Rr.fw_th (Rr.fw_mono (x1 (p:=spM s i+1) v) (Nat.le_succ _)) fun _ r _ z=>?_) ω;split
     ·exact K2 v
     ·exact⟨Tu _,z⟩
    ·exact⟨Tj j.1 Xk,K2 j.2⟩
   exact(Yc this d).1
  rw[g.2.2.1];omega
 split at h
 ·obtain⟨_,_,d,h⟩:=Jy h;obtain⟨b,_,y,h⟩:=Jy h;obtain⟨_,_,w,h⟩:=Jy h;cases h;have k1:=Yc (Zp hsp) d;have k2:=hN _ _ _ _ k1.2 y;have g:=Yc (Kh (Yc (hS _ _ k1.2) y).2) w;exact⟨⟨k2.1,by have:=k2.2;show cntE b+_≤_;omega⟩,fun e=>by cases e⟩
 split at h
 ·rename_i hl;have hw:=tR hl;have hwl:=oB hsp;have hwn:=mf (s:=s) (p:=spM s p);dsimp only at h;split at h
  ·split at h
   ·cases h
   ·cases h;exact⟨⟨m7 trivial,by rw[qm,cntL];omega⟩,fun e=>by cases e⟩
  ·obtain⟨b,r,d,h⟩:=Jy h;cases h;have k1:=GA hS hN ω hwl d;exact⟨⟨k1.1,by have:=k1.2;show cntE b+_≤_;omega⟩,fun e=>by cases e⟩
 ·cases h
theorem E2{x:GExpr×Bool}(hs:s.length≤900)(hp:p≤s.length)(h:powM s S o p= .ok x q):Sn p q 0 x.1∧(x.2=true→nuB (s.length+1) x.1):=by
 obtain⟨_,r,b,h⟩:=Jy h;have k1:=HD hS hN hs hp b;have k2:=Yc (X2 hS hp) b;have g:=Xk (s:=s) (p:=r);split at h
 ·rename_i hf;obtain⟨_,_,d,h⟩:=Jy h;cases h;have i:=Yc (Z9 (p:=spM s r+1) (Kc.1 hf).1) d;exact⟨⟨m7 ⟨k1.1.1,trivial⟩,by rw[qm,cntL,cntL];have:=k1.1.2;omega⟩,fun e=>by cases e⟩
 ·cases h;exact⟨⟨k1.1.1,by have:=k1.1.2;omega⟩,k1.2⟩
theorem tL(hs:s.length≤900):∀(k:Nat) (l m:List GExpr) (p q:Nat),p≤s.length→yj s S o k l p= .ok m q→okL l→okL m∧cntL m+m.length+4*p≤cntL l+l.length+4*q∧l.length≤m.length∧(0<l.length→m.getD 0 Δ=l.getD 0 Δ)
 |0,l,m,p,q,hp,h,hl=>by cases h
 |k+1,l,m,p,q,hp,h,hl=>by
  unfold yj at h;have j:=Xk (s:=s) (p:=p);split at h
  ·rename_i hf;obtain⟨_,r,d,h⟩:=Jy h;have hp':spM s p+1≤s.length:=(Kc.1 hf).1;have k1:=E2 hS hN hs hp' d;have k2:=Yc (mT hS hp') d;have b:=tL hs k _ m r q k2.2 h (Ej.2 ⟨hl,k1.1.1,trivial⟩);have v:=k1.1.2;have e:=b.2.1;have g:=b.2.2.1;rw[AQ,Tc,Tf,cntL,cntL] at e;rw[Tc,Tf] at g;refine⟨b.1,ω,ω,fun i=>?_⟩
   rw[b.2.2.2 (by rw[Tc];omega)];cases l with
   |nil=>cases i
   |cons c l=>rfl
  ·cases h;exact⟨hl,ω,Tu _,fun _=>rfl⟩
omit hS hN in
theorem o5{d:Nat}(hl:okL l)(e:1≤l.length)(hc:cntL l+l.length+4*p≤4*q+d+1):Sn p q d (Ki op l):=by
 cases l with
 |nil=>cases e
 |cons a l=>
  cases l with
  |nil=>exact⟨hl.1,by show cntE a+_≤_;rw[cntL,cntL,Tf] at hc;omega⟩
  |cons b l=>
   refine⟨m7 hl,?_⟩;show cntE (eOp op [] (a::b::l))+_≤_;rw[qm];simp only[Td] at hc;omega
theorem BA{minus:Bool}(hs:s.length≤900)(hp:p≤s.length)(h:Kw s S minus o p= .ok a q):Sn p q (if minus then 2 else 0) a:=by
 obtain⟨x,r,i,h⟩:=Jy h;obtain⟨m,_,v,h⟩:=Jy h;cases h;have k1:=E2 hS hN hs hp i;have k2:=Yc (mT hS hp) i;have w:=tL hS hN hs _ _ m r q k2.2 v ⟨k1.1.1,trivial⟩;have z:=k1.1.2;obtain⟨d,j,g,y⟩:=w;rw[cntL,cntL,Tf] at j;rw[Tf] at g;cases minus with
 |false=>exact o5 d g (by show cntL m+m.length+4*p≤_;omega)
 |true=>
  cases hx:x.2 with
  |false=>
   show Sn p _ 2 (Ki 11 (eNum (-1) 1::m));have b:=nuB.ok (k:=1) (m:=eNum (-1) 1) ⟨-1,1,rfl,Nat.le_of_eq zf,Nat.le_of_eq zf⟩ δ;refine o5 ⟨b.1,d⟩ χ ?_;rw[cntL,b.2.2.1,Td];omega
  |true=>
   show Sn p _ 2 (Ki 11 (negE (m.getD 0 Δ)::m.drop 1));have b:=(k1.2 hx).ok ω;have e:m.getD 0 Δ=x.1:=y (Nat.succ_pos 0);cases m with
   |nil=>cases g
   |cons c m=>
    have e:c=x.1:=e;subst e;refine o5 ⟨b.2.1,d.2⟩ χ ?_;show cntL (negE x.1::m)+(m.length+1)+_≤_;rw[cntL,Td,b.2.2.1] at j;rw[cntL,b.2.2.2];omega
theorem wO(hs:s.length≤900):∀(k:Nat) (l m:List GExpr) (p q:Nat),p≤s.length→sumL s S o k l p= .ok m q→okL l→okL m∧cntL m+m.length+4*p≤cntL l+l.length+4*q∧l.length≤m.length
 |0,l,m,p,q,hp,h,hl=>by cases h
 |k+1,l,m,p,q,hp,h,hl=>by
  unfold sumL at h;have j:=Xk (s:=s) (p:=p);have go:∀b,spM s p+1≤s.length→((Kw s S b o (spM s p+1)).th fun a q=>sumL s S o k (l++[a]) q)= .ok m q→okL m∧cntL m+m.length+4*p≤cntL l+l.length+4*q∧l.length≤m.length:=by
   intro b hp' h;obtain⟨c,r,e,h⟩:=Jy h;have k1:=BA hS hN hs hp' e;have k2:=Yc (Y5 hS hp') e;have d:=wO hs k _ m r q k2.2 h (Ej.2 ⟨hl,k1.1,trivial⟩);have v:cntE c+4*(spM s p+1)≤4*r+2:=Tj k1.2 D';have g:=d.2.1;have i:=d.2.2;rw[AQ,Tc,Tf,cntL,cntL] at g;rw[Tc,Tf] at i;exact⟨d.1,ω,ω⟩
  split at h
  ·rename_i hf;exact go _ (Kc.1 hf).1 h
  split at h
  ·rename_i hf;exact go _ (Kc.1 hf).1 h
  ·cases h;exact⟨hl,ω,Tu _⟩
theorem Ha(hs:s.length≤900)(hp:p≤s.length)(h:sumF s S o p= .ok a q):Sn p q 0 a:=by
 obtain⟨c,r,d,h⟩:=Jy h;obtain⟨m,_,g,h⟩:=Jy h;cases h;have hp':=Y2 (c:=45) hp;have k1:=BA hS hN hs hp' d;have k2:=Yc (Y5 hS hp') d;have i:=wO hS hN hs _ _ m r q k2.2 g ⟨k1.1,trivial⟩;have w:cntE c+4*p≤4*r:=by
  have b:=k1.2;have x:=Xk (s:=s) (p:=p);cases hf:folB s p 45 with
  |true=>rw[hf] at b;rw[←fp_t hf] at b;simp only[if_true] at b;omega
  |false=>rw[hf] at b;rw[←fp_f hf] at b;simp only[Bool.false_eq_true,if_false] at b;omega
 obtain⟨j,v,e⟩:=i;rw[cntL,cntL,Tf] at v;rw[Tf] at e;exact o5 j e ω
end
theorem A7{s:List UInt8}(hs:s.length≤900):∀(k o p:Nat) (a:GExpr) (q:Nat),p≤s.length→sumM s k o p= .ok a q→Sn p q 0 a
 |0,o,p,a,q,hp,h=>by cases h
 |k+1,o,p,a,q,hp,h=>Ha (xz k) (fun o p a q=>A7 hs k o p a q) hs hp h
section
variable {s:List UInt8} {a m:GExpr} {q p:Nat} {e:Int} {T:Rr Unit}
theorem Cy(hs:s.length≤900):okE (rdT s).1∧cntE (rdT s).1≤3601:=by
 unfold rdT Ve;cases h:sumM s (s.length+1) 0 0 with
 |er e p=>exact⟨by rw[Qo];exact⟨Tv _,Tv _,Tv _,trivial⟩,by show 1+0≤3601;decide⟩
 |ok a q=>
  rw[Rr.th_ok];split
  ·exact⟨by rw[Qo];exact⟨Tv _,Tv _,Tv _,trivial⟩,by show 1+0≤3601;decide⟩
  ·rename_i b;split at b
   ·cases b
   ·cases b;have k:=A7 hs _ _ _ _ _ (Tv _) h;have k2:=Yc (xz (s:=s) (s.length+1) 0 0 (Tv _)) h;exact⟨k.1,by have:=k.2;show cntE a≤_;omega⟩
theorem zQ(h:((4000:Int))<((s.length:Nat):Int)):(Xu,0,7)=Jj s:=by unfold Jj;rw[if_pos o]
def RdF(s:List UInt8):Prop:=(Ve s).fine s
theorem wV(hf:RdF s)(hl:¬(4000:Int)<((s.length:Nat):Int))(h:¬(rdT s).2.2=0):(Xu,(rdT s).2.1,(rdT s).2.2)=Jj s:=by
 unfold Jj;rw[if_neg o];unfold rdT at h ⊢;cases hr:Ve s with
 |er e p=>rfl
 |ok a q=>rw[hr] at h;exact absurd r h
theorem zA(hf:RdF s)(hl:¬(4000:Int)<((s.length:Nat):Int))(h:(rdT s).2.2=0)(hc:¬Jn (rdT s).1=0):(Xu,0,Jn (rdT s).1)=Jj s:=by
 unfold Jj;rw[if_neg o];unfold RdF at hf;unfold rdT at h hc ⊢;cases hr:Ve s with
 |er e p=>rw[hr] at h hf;exact absurd h hf.1
 |ok a q=>rw[hr] at hc;exact(if_neg hc).symm
theorem Gp(hf:RdF s)(hl:¬(4000:Int)<((s.length:Nat):Int))(h:(rdT s).2.2=0)(hc:Jn (rdT s).1=0):((rdT s).1,0,0)=Jj s:=by
 unfold Jj;rw[if_neg o];unfold RdF at hf;unfold rdT at h hc ⊢;cases hr:Ve s with
 |er e p=>rw[hr] at h hf;exact absurd h hf.1
 |ok a q=>rw[hr] at hc;exact(if_pos hc).symm
end
section
variable {s:List UInt8} {S:Nat→Nat→Rr GExpr} {o p q k:Nat} {op:Int} {a:GExpr} {l m:List GExpr}
theorem mu{n:List Int}(b:op≠1)(h:∀x∈l,Lwe x):Lwe (eOp op n l):=by
 rw[Ya];refine⟨?_,h⟩;show lowC op Y3=Y3;unfold lowC;rw[if_neg b]
theorem qV{n:List Int}(b:op≠1):Lwe (eOp op n []):=mu b fun _ hx=>by cases hx
theorem wn{n d:Int}:Lwe (eNum n d)∧(eNum n d).op=1∧(eNum n d).args=[]:=by
 refine⟨?_,rfl,rfl⟩;rw[Ya];refine⟨?_,fun _ hx=>by cases hx⟩;show lowC 1 (ofQ (Rat.divInt n d))=ofQ (Rat.divInt n d);unfold lowC;rw[if_pos r,J9]
theorem LQ(b:a.op=1)(d:a.args=[]):Lwe (negE a):=by
 rw[Ya];refine⟨?_,fun x hx=>?_⟩
 ·show lowC a.op (ofQ (-a.c.q))=ofQ (-a.c.q);unfold lowC;rw[if_pos b,J9]
 ·have:x∈a.args:=hx
  rw[d] at this;cases this
abbrev Lnu(a:GExpr):Prop:=Lwe a∧a.op=1∧a.args=[]
theorem Nw(h:numM s p= .ok a q):Lnu a:=by
 obtain⟨_,_,_,h⟩:=Jy h;split at h
 ·obtain⟨_,_,_,h⟩:=Jy h;split at h
  ·cases h
  ·cases h;exact wn
 ·cases h;exact wn
theorem w7(b:op≠1)(h:V5 s op o p= .ok a q):Lwe a:=by
 obtain⟨_,_,_,h⟩:=Jy h;obtain⟨_,_,_,h⟩:=Jy h;cases h;exact qV b
theorem E8(b:op≠1)(h:twoM s op o p= .ok a q):Lwe a:=by
 obtain⟨_,_,_,h⟩:=Jy h;obtain⟨_,_,_,h⟩:=Jy h;obtain⟨_,_,_,h⟩:=Jy h;obtain⟨_,_,_,h⟩:=Jy h;obtain⟨_,_,_,h⟩:=Jy h;cases h;exact qV b
variable (hN:∀o p a q,S o p= .ok a q→Lwe a)
include hN
theorem MY(h:serM s S o p= .ok a q):Lwe a:=by
 obtain⟨_,_,_,h⟩:=Jy h;obtain⟨_,_,b,h⟩:=Jy h;obtain⟨_,_,_,h⟩:=Jy h;cases h;have k2:=hN _ _ _ _ b;exact mu d fun _ hx=>by simp at hx;subst hx;exact k2
theorem IW{two:Bool}(b:op≠1)(h:oneM s S op two o p= .ok a q):Lwe a:=by
 obtain⟨_,_,_,h⟩:=Jy h;obtain⟨_,_,_,h⟩:=Jy h;obtain⟨_,_,_,h⟩:=Jy h;obtain⟨_,_,e,h⟩:=Jy h;have d:=hN _ _ _ _ e;split at h
 ·obtain⟨_,g,_,h⟩:=Jy h;obtain⟨_,_,i,h⟩:=Jy h;obtain⟨_,_,_,h⟩:=Jy h;cases h;have j:=hN _ _ _ _ i;refine mu b fun x hx=>?_
  simp at hx;rcases hx with rfl|rfl
  ·exact d
  ·exact j
 ·obtain⟨_,g,_,h⟩:=Jy h;cases h;exact mu b fun x hx=>by simp at hx;subst hx;exact d
theorem H6{w:List UInt8}{q0:Nat}(h:Zx s S w q0 o p= .ok a q):Lwe a:=by
 unfold Zx at h;rcases Kb h with ⟨_,h⟩|⟨_,h⟩
 ·cases h;exact qV d
 rcases Kb h with ⟨_,h⟩|⟨_,h⟩
 ·cases h;exact qV d
 rcases Kb h with ⟨_,h⟩|⟨_,h⟩
 ·exact w7 d h
 rcases Kb h with ⟨_,h⟩|⟨_,h⟩
 ·exact w7 d h
 rcases Kb h with ⟨_,h⟩|⟨_,h⟩
 ·exact E8 d h
 rcases Kb h with ⟨_,h⟩|⟨_,h⟩
 ·exact E8 d h
 iterate 5
  rcases Kb h with ⟨_,h⟩|⟨_,h⟩
  ·exact IW hN d h
 rcases Kb h with ⟨_,h⟩|⟨_,h⟩
 ·exact MY hN h
 rcases Kb h with ⟨_,h⟩|⟨_,h⟩
 ·cases h;rw[Ya];refine⟨?_,fun _ hx=>by cases hx⟩;show lowC 8 Y3=Y3;unfold lowC;rw[if_neg d]
 ·cases h
theorem Ge{x:GExpr×Bool}(h:Yg s S o p= .ok x q):Lwe x.1∧(x.2=true→Lnu x.1):=by
 unfold Yg at h;split at h
 ·obtain⟨b,r,d,h⟩:=Jy h;cases h;have k2:=Nw d;exact⟨k2.1,fun _=>k2⟩
 split at h
 ·obtain⟨_,_,_,h⟩:=Jy h;obtain⟨b,_,g,h⟩:=Jy h;obtain⟨_,_,_,h⟩:=Jy h;cases h;exact⟨hN _ _ _ _ g,fun e=>by cases e⟩
 split at h
 ·dsimp only at h;split at h
  ·split at h
   ·cases h
   ·cases h;exact⟨qV δ,fun e=>by cases e⟩
  ·obtain⟨b,r,d,h⟩:=Jy h;cases h;exact⟨H6 hN d,fun e=>by cases e⟩
 ·cases h
theorem xD{x:GExpr×Bool}(h:powM s S o p= .ok x q):Lwe x.1∧(x.2=true→Lnu x.1):=by
 obtain⟨_,_,b,h⟩:=Jy h;have k1:=Ge hN b;split at h
 ·obtain⟨_,_,_,h⟩:=Jy h;cases h;exact⟨mu d fun x hx=>by simp at hx;subst hx;exact k1.1,fun e=>by cases e⟩
 ·cases h;exact k1
theorem uY:∀(k:Nat) (l m:List GExpr) (p q:Nat),yj s S o k l p= .ok m q→(∀x∈l,Lwe x)→(∀x∈m,Lwe x)∧(0<l.length→m.getD 0 Δ=l.getD 0 Δ∧0<m.length)
 |0,l,m,p,q,h,hl=>by cases h
 |k+1,l,m,p,q,h,hl=>by
  unfold yj at h;split at h
  ·obtain⟨_,r,e,h⟩:=Jy h;have k1:=(xD hN e).1;have d:=uY k _ m r q h fun x hx=>by
    rcases List.mem_append.1 hx with hx|hx
    ·exact hl x hx
    ·simp at hx;subst hx;exact k1
   refine⟨d.1,fun b=>?_⟩
   obtain⟨e1,e2⟩:=d.2 (by rw[Tc];omega);refine⟨e1.trans ?_,e2⟩;cases l with
   |nil=>cases b
   |cons c l=>rfl
  ·cases h;exact⟨hl,fun b=>⟨rfl,b⟩⟩
omit hN in
theorem wB(d:op≠1)(hl:∀x∈l,Lwe x):Lwe (Ki op l):=by
 match l,hl with
 |[],hl=>exact mu d hl
 |[a],hl=>exact hl a χ
 |a::b::r,hl=>exact mu d hl
theorem uV{minus:Bool}(h:Kw s S minus o p= .ok a q):Lwe a:=by
 obtain⟨x,r,d,h⟩:=Jy h;obtain⟨m,_,g,h⟩:=Jy h;cases h;have k1:=xD hN d;obtain⟨k2,i⟩:=uY hN _ _ m r q g fun y hy=>by simp at hy;subst hy;exact k1.1
 obtain⟨j,_⟩:=i (Nat.succ_pos 0);refine wB δ ?_;unfold negL;split
 ·split
  ·rename_i hx;have b:=k1.2 hx;have e:m.getD 0 Δ=x.1:=j;intro y hy;rcases UL.1 hy with rfl|hy
   ·rw[e];exact LQ b.2.1 b.2.2
   ·exact k2 y (List.mem_of_mem_drop hy)
  ·intro y hy;rcases UL.1 hy with rfl|hy
   ·exact wn.1
   ·exact k2 y hy
 ·exact k2
theorem zG:∀(k:Nat) (l m:List GExpr) (p q:Nat),sumL s S o k l p= .ok m q→(∀x∈l,Lwe x)→∀x∈m,Lwe x
 |0,l,m,p,q,h,hl=>by cases h
 |k+1,l,m,p,q,h,hl=>by
  unfold sumL at h;have go:∀b,((Kw s S b o (spM s p+1)).th fun a q=>sumL s S o k (l++[a]) q)= .ok m q→∀x∈m,Lwe x:=by
   intro b h;obtain⟨_,r,d,h⟩:=Jy h;have k1:=uV hN d;exact zG k _ m r q h fun x hx=>by
    rcases List.mem_append.1 hx with hx|hx
    ·exact hl x hx
    ·simp at hx;subst hx;exact k1
  split at h
  ·exact go _ h
  split at h
  ·exact go _ h
  ·cases h;exact hl
theorem Ih(h:sumF s S o p= .ok a q):Lwe a:=by
 obtain⟨_,r,b,h⟩:=Jy h;obtain⟨m,_,d,h⟩:=Jy h;cases h;have k1:=uV hN b;exact wB δ (zG hN _ _ m r q d fun _ hx=>by simp at hx;subst hx;exact k1)
end
theorem AC{s:List UInt8}:∀(k o p:Nat) (a:GExpr) (q:Nat),sumM s k o p= .ok a q→Lwe a
 |0,o,p,a,q,h=>by cases h
 |k+1,o,p,a,q,h=>Ih (fun o p a q=>AC k o p a q) h
theorem DQ{s:List UInt8}(hs:s.length≤900)(hf:RdF s)(h:(Jj s).2.2=0):Jn (Jj s).1=0∧Lwe (Jj s).1∧okE (Jj s).1:=by
 unfold Jj at h ⊢;rw[if_neg ω] at h ⊢;unfold RdF at hf;cases hr:Ve s with
 |er e p=>
  rw[hr] at h hf;exact absurd h hf.1
 |ok a p=>
  rw[hr] at h;dsimp only at h ⊢;by_cases hc:Jn a=0
  ·rw[if_pos hc];unfold Ve at hr;obtain⟨_,_,d,b⟩:=Jy hr;split at b
   ·cases b
   ·cases b;exact⟨hc,AC _ _ _ _ _ d,(A7 hs _ _ _ _ _ (Tv _) d).1⟩
  ·rw[if_neg hc] at h;exact absurd h hc
theorem Df{s:List UInt8}(h:¬(Jj s).2.2=0):(Jj s).1=Xu:=by
 unfold Jj at h ⊢;split
 ·rfl
 ·rename_i hl;rw[if_neg hl] at h;cases hr:Ve s with
  |er e p=>rfl
  |ok a p=>
   rw[hr] at h;dsimp only at h ⊢;by_cases hc:Jn a=0
   ·rw[if_pos hc] at h;exact absurd r h
   ·rw[if_neg hc]
end Go.Wf
namespace Go.Proofs
open Go.Shelf
def Tryz.lays190_ren:Go.Shelf.Ren:=⟨fun|190=>59|125=>90|258=>89|128=>135|129=>136|302=>126|303=>127|304=>128|305=>129|306=>130|307=>131|308=>132|309=>133|310=>134|333=>176|329=>177|330=>178|334=>179|335=>180|336=>181|344=>220|n=>n,fun|31=>50|9=>9|3=>3|46=>110|0=>0|51=>118|53=>140|4=>4|183=>131|182=>130|131=>136|5=>5|218=>174|222=>99|228=>198|229=>103|n=>n,fun|n=>n⟩
theorem Tryz.lays190:Go.Proofs.Lays.n190 Tryz.prog Tryz.lays190_ren:={
 mixed:=k
 f125:=Tryz.func90.trans (congrArg some k)
 f128:=Tryz.func135.trans (congrArg some k)
 f129:=Tryz.func136.trans (congrArg some k)
 f190:=Tryz.func59.trans (congrArg some k)
 f258:=Tryz.func89.trans (congrArg some k)
 f302:=Tryz.func126.trans (congrArg some k)
 f303:=Tryz.func127.trans (congrArg some k)
 f304:=Tryz.func128.trans (congrArg some k)
 f305:=Tryz.func129.trans (congrArg some k)
 f306:=Tryz.func130.trans (congrArg some k)
 f307:=Tryz.func131.trans (congrArg some k)
 f308:=Tryz.func132.trans (congrArg some k)
 f309:=Tryz.func133.trans (congrArg some k)
 f310:=Tryz.func134.trans (congrArg some k)
 f329:=Tryz.func177.trans (congrArg some k)
 f330:=Tryz.func178.trans (congrArg some k)
 f333:=Tryz.func176.trans (congrArg some k)
 f334:=Tryz.func179.trans (congrArg some k)
 f335:=Tryz.func180.trans (congrArg some k)
 f336:=Tryz.func181.trans (congrArg some k)
 f344:=Tryz.func220.trans (congrArg some k)
 t0:=Tryz.underlying0
 a0:=Tryz.isAgg0
 z0:=Tryz.sizeOf0
 v0:=Tryz.zeroValue0
 t3:=Tryz.underlying3
 a3:=Tryz.isAgg3
 z3:=Tryz.sizeOf3
 v3:=Tryz.zeroValue3
 t4:=Tryz.underlying4
 a4:=Tryz.isAgg4
 z4:=Tryz.sizeOf4
 v4:=Tryz.zeroValue4
 t5:=Tryz.underlying5
 a5:=Tryz.isAgg5
 z5:=Tryz.sizeOf5
 v5:=Tryz.zeroValue5
 t9:=Tryz.underlying9
 a9:=Tryz.isAgg9
 z9:=Tryz.sizeOf9
 v9:=Tryz.zeroValue9
 t31:=Tryz.underlying50
 a31:=Tryz.isAgg50
 z31:=Tryz.sizeOf50
 v31:=Tryz.zeroValue50
 t46:=Tryz.underlying110
 a46:=Tryz.isAgg110
 z46:=Tryz.sizeOf110
 v46:=Tryz.zeroValue110
 t51:=Tryz.underlying118
 a51:=Tryz.isAgg118
 z51:=Tryz.sizeOf118
 v51:=Tryz.zeroValue118
 t53:=Tryz.underlying140
 a53:=Tryz.isAgg140
 z53:=Tryz.sizeOf140
 v53:=Tryz.zeroValue140
 t131:=Tryz.underlying136
 a131:=Tryz.isAgg136
 z131:=Tryz.sizeOf136
 v131:=Tryz.zeroValue136
 t182:=Tryz.underlying130
 a182:=Tryz.isAgg130
 z182:=Tryz.sizeOf130
 v182:=Tryz.zeroValue130
 t183:=Tryz.underlying131
 a183:=Tryz.isAgg131
 z183:=Tryz.sizeOf131
 v183:=Tryz.zeroValue131
 t218:=Tryz.underlying174
 a218:=Tryz.isAgg174
 z218:=Tryz.sizeOf174
 v218:=Tryz.zeroValue174
 t222:=Tryz.underlying99
 a222:=Tryz.isAgg99
 z222:=Tryz.sizeOf99
 v222:=Tryz.zeroValue99
 t228:=Tryz.underlying198
 a228:=Tryz.isAgg198
 z228:=Tryz.sizeOf198
 v228:=Tryz.zeroValue198
 t229:=Tryz.underlying103
 a229:=Tryz.isAgg103
 z229:=Tryz.sizeOf103
 v229:=Tryz.zeroValue103}
def Tryz.lays194_ren:Go.Shelf.Ren:=⟨fun|194=>60|n=>n,fun|31=>50|9=>9|3=>3|4=>4|0=>0|n=>n,fun|n=>n⟩
theorem Tryz.lays194:Go.Proofs.Lays.n194 Tryz.prog Tryz.lays194_ren:={
 mixed:=k
 f194:=Tryz.func60.trans (congrArg some k)
 t0:=Tryz.underlying0
 a0:=Tryz.isAgg0
 z0:=Tryz.sizeOf0
 v0:=Tryz.zeroValue0
 t3:=Tryz.underlying3
 a3:=Tryz.isAgg3
 z3:=Tryz.sizeOf3
 v3:=Tryz.zeroValue3
 t4:=Tryz.underlying4
 a4:=Tryz.isAgg4
 z4:=Tryz.sizeOf4
 v4:=Tryz.zeroValue4
 t9:=Tryz.underlying9
 a9:=Tryz.isAgg9
 z9:=Tryz.sizeOf9
 v9:=Tryz.zeroValue9
 t31:=Tryz.underlying50
 a31:=Tryz.isAgg50
 z31:=Tryz.sizeOf50
 v31:=Tryz.zeroValue50}
end Go.Proofs
namespace Go.Wf
open Go Go.Proofs Go.RowKit Go.Sort
def ph(l:List (List UInt8)):List (List UInt8):=l.mergeSort fun x y=>decide (x≤y)
section
variable {X:Nat→Prop} {w:World} {v:Value} {l:List (List UInt8)} {E:TypeId}
theorem OW.strs(h:OW Y1 E X w v l):w.ownsRow 0 E 1 v l.length (l.map encStr)∧∀s∈l,s.length≤maxLen:=by
 obtain⟨⟨css,d,g,b⟩⟩:=h;have e:∀(css:List (List Value)) (l:List (List UInt8)),css.length=l.length→(∀(i:Nat) (cs:List Value) (u:List UInt8),css[i]? =some cs→l[i]? =some u→cs=[str u]∧u.length≤maxLen)→css.flatten=l.map encStr∧∀s∈l,s.length≤maxLen:=by
  intro css
  induction css with
  |nil=>intro l hl _;cases l with
   |nil=>exact⟨rfl,fun s hs=>by cases hs⟩
   |cons a l=>simp at hl
  |cons c css ih=>
   intro l hl hh;cases l with
   |nil=>simp at hl
   |cons a l=>
    obtain⟨j,k⟩:=hh 0 c a r r;obtain⟨m,p⟩:=ih l YO fun i cs u hi hu=>hh (i+1) cs u ς YM;refine⟨by rw[Uy,j,m];rfl,fun s hs=>?_⟩
    rcases UL.1 hs with rfl|hs
    ·exact k
    ·exact p s hs
 obtain⟨e1,e2⟩:=e css l d g;rw[e1] at b;exact⟨b,e2⟩
theorem OW.ofStrs(h:w.ownsRow 0 E 1 v l.length (l.map encStr))(hs:∀s∈l,s.length≤maxLen):OW Y1 E X w v l:=by
 refine⟨⟨l.map fun s=>[encStr s],by simp,fun _ _ u hi hu=>?_,?_⟩⟩
 ·rw[TV,hu] at hi;injection hi with hi;exact⟨hi.symm,hs u (US hu)⟩
 ·have:(l.map fun s=>[encStr s]).flatten=l.map encStr:=by
   clear h hs
   induction l with
   |nil=>rfl
   |cons a l ih=>rw[TU,Uy,ih];rfl
  rw[this];exact h
theorem mw(l:List (List UInt8)):(ph l).length=l.length:=List.length_mergeSort l
theorem qE{l:List (List UInt8)}{s:List UInt8}:s∈ph l↔s∈l:=List.mem_mergeSort
theorem x8{l:List (List UInt8)}{s:List UInt8}(h:s∈Lib.compact l):s∈l:=by
 unfold Lib.compact Lib.compactUpTo at h;obtain⟨j,hj,rfl⟩:=UR.1 h;have a:j<l.length:=by simpa using (UN.1 hj).1
 have:l.toArray[j]! =l[j]:=by simp[a]
 rw[this];exact List.getElem_mem a
theorem sJ(l:List (List UInt8)):(Lib.compact l).length≤l.length:=by
 unfold Lib.compact Lib.compactUpTo;rw[UG];exact Tj (List.length_filter_le _ _) χ
theorem It(hX:∀b,X b→b<w.heap.size)(i:OW Y1 9 X w v l)(y:∀k,v.ownBlock=some k→X k)(hl:l.length≤10000):
  Calls Tryz.prog 59 #[v] w (RetO w v.ownBlock fun _ w'=>OWr Y1 9 X w v.ownBlock v w' (ph l)):=by
 obtain⟨h,hs⟩:=i.strs;by_cases hv:v= .slice none 0 0
 ·subst hv;have a:l=[]:=by
   obtain⟨_,_,e,_,_⟩:=i.opn;injection e with _ e2 _;exact TD e2.symm
  subst a
  refine(Any.slices_Sort_string_none Tryz.lays190 none 0 w).mono ?_
  rintro e w' ⟨rfl,rfl⟩;have a:ph []=[]:=by simp[ph]
  rw[a];exact⟨⟨OW.ofStrs (World.ownsRow_nil _ _ _ _) (fun _ h=>by cases h),fun k hk=> .inl hk⟩,Bel.refl _⟩
 ·obtain⟨g,cap,rfl,_,hlt,_,_,_,hH⟩:=Lib.holds_of_ownsRow h hv;rcases h.2 with ⟨d,_⟩|⟨_,_,_,d,_,hb,j,m,p,_⟩
  ·cases d
  injection d with e1 _ x;injection e1 with e1;injection e1 with e1 _ _;subst e1;subst x
  refine(calls_of_every_depth fun D=>AnyS.slices_Sort_string_alone Tryz.lays190 D g 0 cap l w hH hlt o).mono ?_
  rintro e w' ⟨rfl,n,os,rfl⟩;have hr:=ownsRow_sorted (n:=n) (os:=os) (base:=0) (ss:=l) (ts:=ph l) (mw l) (Tv _) hb j m p;have hg:=grownBy_sorted (w:=w) (g:=g) (n:=n) (os:=os) (ph l).toArray;refine⟨⟨OW.ofStrs (by rw[mw];exact hr) fun s q=>hs s (qE.1 q),fun k hk=> .inl hk⟩,⟨hg.os,hg.tape,hg.output,hg.size,fun k hk hm=>hg.block k hk fun e=>hm (by simp[Value.ownBlock];injection e with e;exact e.symm)⟩⟩
theorem Iu(hX:∀b,X b→b<w.heap.size)(d:OW Y1 9 X w v l)(i:∀k,v.ownBlock=some k→X k)(hl:l.length≤10000):
  Calls Tryz.prog 60 #[v] w (RetO w v.ownBlock fun v' w'=>OWr Y1 9 X w v.ownBlock v' w' (Lib.compact l)):=by
 obtain⟨h,hs⟩:=d.strs;by_cases hv:v= .slice none 0 0
 ·subst hv;have a:l=[]:=by
   obtain⟨_,_,e,_,_⟩:=d.opn;injection e with _ e2 _;exact TD e2.symm
  subst a
  refine(Any.slices_Compact_string_empty Tryz.lays194 none 0 w).mono ?_
  rintro e w' ⟨rfl,rfl⟩;have a:Lib.compact ([]:List (List UInt8))=[]:=rfl;rw[a];exact⟨⟨OW.ofStrs (World.ownsRow_nil _ _ _ _) (fun _ h=>by cases h),fun k hk=> .inl hk⟩,Bel.refl _⟩
 ·obtain⟨g,cap,rfl,_,_,hn,_,_,hH⟩:=Lib.holds_of_ownsRow h hv
  refine(Any.slices_Compact_string Tryz.lays194 g 0 cap l w hH o hn).mono ?_
  rintro e w' ⟨rfl,q,rfl⟩;have hcl:=sJ l;have hr:=Lib.ownsRow_putRow (q:=q) (k:=(Lib.compact l).length) (ys:=Lib.compact l++List.replicate (l.length-(Lib.compact l).length) []) h B' hcl;rw[List.take_left] at hr;refine⟨⟨OW.ofStrs hr fun s q=>hs s (x8 q),fun k hk=> .inl hk⟩,⟨rfl,rfl,rfl,by simp[putRow,mapBlock,Sort.ahead],fun k hk hm=>?_⟩⟩
  have hgk:g≠k:=fun e=>hm WU;simp[putRow,mapBlock,Sort.ahead,Array.getElem?_modify,hgk]
end
end Go.Wf
namespace Go.Wf
open Go Go.Proofs
abbrev Bt:=List UInt8
mutual
def Yx:GExpr→List Bt
 |.mk o _ _ s l=>(if o=8 then [s] else [])++Xb l
def Xb:List GExpr→List Bt
 |[]=>[]
 |a::l=>Yx a++Xb l
end
def insN(s:Bt):List Bt→List Bt
 |[]=>[s]
 |x::l=>if x<s then x::insN s l else if x=s then x::l else s::x::l
mutual
def insE:GExpr→List Bt→List Bt
 |.mk o _ _ s l,m=>insL l (if o=8 then insN s m else m)
def insL:List GExpr→List Bt→List Bt
 |[],m=>m
 |a::l,m=>insL l (insE a m)
end
theorem qr(a:GExpr):Yx a=(if a.op=8 then [a.name] else [])++Xb a.args:=by cases a;rw[Yx];rfl
theorem II(a:GExpr)(m:List Bt):insE a m=insL a.args (if a.op=8 then insN a.name m else m):=by cases a;rw[insE];rfl
section
variable {a:GExpr} {p l:List Bt} {i:Nat}
theorem KZ(h:a.op=8):(l++[a.name])++Xb (a.args.drop 0)=l++Yx a:=by rw[qr,if_pos h,Uv,Tm]
theorem LB(h:¬a.op=8):l++Xb (a.args.drop 0)=l++Yx a:=by rw[qr,if_neg h,Uv,TJ]
theorem xR(hi:i<a.args.length)(hp:p++Xb (a.args.drop i)=l++Yx a):(p++Yx (a.args.getD i Δ))++Xb (a.args.drop (i+1))=l++Yx a:=by
 rw[←hp,Zv hi,Xb,Tm]
theorem ES(hp:p++Xb (a.args.drop i)=l++Yx a)(hi:a.args.length≤i):p=l++Yx a:=by
 rw[←hp,TI hi,Xb,TT]
end
theorem lX{l:List GExpr}{i:Nat}(h:i<l.length):cntL (l.drop i)=cntE (l.getD i Δ)+cntL (l.drop (i+1)):=by
 rw[Zv h,cntL]
theorem nR:∀l:List GExpr,(∀i,i<l.length→(Yx (l.getD i Δ)).length≤cntE (l.getD i Δ))→(Xb l).length≤cntL l
 |[],_=>Tu _
 |a::l,h=>by
  rw[Xb,Tc,cntL]
  have:=h 0 χ
  have:=nR l fun i _=>h (i+1) B'
  simp only[TK] at *;omega
theorem y6:∀a:GExpr,(Yx a).length≤cntE a:=Vo fun a ih=>by
 rw[qr,Tc,Z7]
 have:=nR a.args ih
 split<;>simp<;>omega
theorem Ds(s:Bt):∀l:List Bt,(insN s l).length≤l.length+1
 |[]=>Tu _
 |x::l=>by
  rw[insN]
  have:=Ds s l
  split
  ·simp;omega
  ·split<;>simp
theorem zP(a:Bt):¬a<a:=List.lt_irrefl a
theorem Mc{a b c:Bt}(h:a<b)(k:b<c):a<c:=List.lt_trans h k
theorem MN{a b:Bt}(h:¬a<b)(k:¬a=b):b<a:=by
 rcases Classical.em (b<a) with d|d
 ·exact d
 ·exact absurd (List.le_antisymm (List.not_lt.1 d) (List.not_lt.1 h)) k
def Asc(l:List Bt):Prop:=l.Pairwise (· < ·)
theorem pk{s x:Bt}:∀ {l:List Bt},x∈insN s l↔x=s∨x∈l
 |[]=>by simp[insN]
 |y::l=>by
  rw[insN];split
  ·simp only[UL,pk (l:=l)];constructor
   ·rintro(h|h|h)
    ·exact .inr (.inl h)
    ·exact .inl h
    ·exact .inr (.inr h)
   ·rintro(h|h|h)
    ·exact .inr (.inl h)
    ·exact .inl h
    ·exact .inr (.inr h)
  ·split
   ·rename_i e;simp only[UL];constructor
    ·rintro(h|h)
     ·exact .inl (h.trans e)
     ·exact .inr (.inr h)
    ·rintro(h|h|h)
     ·exact .inl (h.trans e.symm)
     ·exact .inl h
     ·exact .inr h
   ·simp only[UL]
theorem uM{s:Bt}:∀ {l:List Bt},Asc l→Asc (insN s l)
 |[],_=>by simp[insN,Asc]
 |y::l,h=>by
  unfold Asc at h;obtain⟨b,d⟩:=List.pairwise_cons.1 h;rw[insN];split
  ·rename_i hlt;refine List.pairwise_cons.2 ⟨fun x hx=>?_,uM d⟩;rcases pk.1 hx with rfl|hx
   ·exact hlt
   ·exact b x hx
  ·split
   ·exact h
   ·rename_i hn he;have hsy:=MN hn he;refine List.pairwise_cons.2 ⟨fun x hx=>?_,h⟩
    rcases UL.1 hx with rfl|hx
    ·exact hsy
    ·exact Mc hsy (b x hx)
theorem rp:∀(l:List GExpr),(∀i,i<l.length→∀m,(∀x,x∈insE (l.getD i Δ) m↔x∈Yx (l.getD i Δ)∨x∈m)∧(Asc m→Asc (insE (l.getD i Δ) m)))→
  ∀m,(∀x,x∈insL l m↔x∈Xb l∨x∈m)∧(Asc m→Asc (insL l m))
 |[],_,m=>⟨fun x=>by rw[insL,Xb];simp,fun h=>by rw[insL];exact h⟩
 |a::l,h,m=>by
  obtain⟨b,d⟩:=h 0 χ m;obtain⟨e,g⟩:=rp l (fun i _=>h (i+1) B') (insE a m);simp only[TK] at b d;refine⟨fun x=>?_,fun hm=>by rw[insL];exact g (d hm)⟩;rw[insL,e,Xb,List.mem_append,b];constructor
  ·rintro(h|h|h)
   ·exact .inl (.inr h)
   ·exact .inl (.inl h)
   ·exact .inr h
  ·rintro((h|h)|h)
   ·exact .inr (.inl h)
   ·exact .inl h
   ·exact .inr (.inr h)
theorem pE:∀(a:GExpr),∀m,(∀x,x∈insE a m↔x∈Yx a∨x∈m)∧(Asc m→Asc (insE a m)):=Vo fun a ih m=>by
 obtain⟨b,d⟩:=rp a.args ih (if a.op=8 then insN a.name m else m);rw[II];refine⟨fun x=>?_,fun hm=>d ?_⟩
 ·rw[b,qr];by_cases h:a.op=8
  ·rw[if_pos h,if_pos h,pk,List.mem_append,List.mem_singleton];constructor
   ·rintro(q|q|q)
    ·exact .inl (.inr q)
    ·exact .inl (.inl q)
    ·exact .inr q
   ·rintro((q|q)|q)
    ·exact .inr (.inl q)
    ·exact .inl q
    ·exact .inr (.inr q)
  ·rw[if_neg h,if_neg h,TJ]
 ·by_cases h:a.op=8
  ·rw[if_pos h];exact uM hm
  ·rw[if_neg h];exact hm
theorem wW:∀ {l m:List Bt},Asc l→Asc m→(∀x,x∈l↔x∈m)→l=m
 |[],[],_,_,_=>rfl
 |[],b::m,_,_,h=>by have:=(h b).2 χ;cases this
 |a::l,[],_,_,h=>by have:=(h a).1 χ;cases this
 |a::l,b::m,hl,hm,h=>by
  obtain⟨l1,l2⟩:=List.pairwise_cons.1 hl;obtain⟨m1,m2⟩:=List.pairwise_cons.1 hm;have hab:a=b:=by
   rcases UL.1 ((h a).1 χ) with e|e
   ·exact e
   ·rcases UL.1 ((h b).2 χ) with e2|e2
    ·exact e2.symm
    ·exact absurd (Mc (m1 a e) (l1 b e2)) (zP b)
  subst hab;rw[wW l2 m2 fun x=>?_]
  constructor
  ·intro hx;rcases UL.1 ((h x).1 (UM _ hx)) with e|e
   ·subst e;exact absurd (l1 x hx) (zP x)
   ·exact e
  ·intro hx;rcases UL.1 ((h x).2 (UM _ hx)) with e|e
   ·subst e;exact absurd (m1 x hx) (zP x)
   ·exact e
theorem r6{l:List Bt}(hs:l.Pairwise (· ≤ ·)):Asc (Lib.compact l)∧∀x,x∈Lib.compact l↔x∈l:=by
 have hle:∀i j,i≤j→j<l.length→l.toArray[i]! ≤l.toArray[j]! :=by
  intro i j hij hj;have e1:l.toArray[i]! =l[i]:=by simp[show i<l.length by omega]
  have e2:l.toArray[j]! =l[j]:=by simp[hj]
  rw[e1,e2];rcases VD hij with e|hlt
  ·subst e;exact List.le_refl _
  ·exact List.pairwise_iff_getElem.1 hs i j o hj hlt
 constructor
 ·unfold Asc Lib.compact Lib.compactUpTo;rw[List.pairwise_map];refine List.Pairwise.imp_of_mem ?_ (List.Pairwise.filter _ (List.pairwise_lt_range (n:=l.length)));intro i j _ hj hij;obtain⟨b,d⟩:=UN.1 hj;have hjl:j<l.length:=by simpa using b
  have hk:l.toArray[j]! ≠l.toArray[j-1]! :=by
   rcases of_decide_eq_true d with h|h
   ·omega
   ·exact h
  have g:=hle i (j-1) o o;have k:=hle (j-1) j o hjl;have m:l.toArray[j-1]!<l.toArray[j]! :=by
   rcases Classical.em (l.toArray[j-1]!<l.toArray[j]!) with h|h
   ·exact h
   ·exact absurd (List.le_antisymm (List.not_lt.1 h) k) hk
  rcases Classical.em (l.toArray[i]!<l.toArray[j]!) with h|h
  ·exact h
  ·exact absurd m (List.not_lt.2 (List.le_trans (List.not_lt.1 h) g))
 ·intro x;refine⟨x8,fun hx=>?_⟩
  obtain⟨j,hj,rfl⟩:=UP.1 hx;have key:∀j,j<l.length→l.toArray[j]!∈Lib.compact l:=by
   intro j
   induction j with
   |zero=>
    intro hj;exact UR.2 ⟨0,UN.2 ⟨by simpa using hj,by simp[Lib.keeps]⟩,rfl⟩
   |succ j ih=>
    intro hj;by_cases h:l.toArray[j+1]! =l.toArray[j]!
    ·rw[h];exact ih o
    ·exact UR.2 ⟨j+1,UN.2 ⟨by simpa using hj,decide_eq_true (.inr h)⟩,rfl⟩
  have e:l.toArray[j]! =l[j]:=by simp[hj]
  rw[←e];exact key j hj
theorem rn(l:List Bt):(ph l).Pairwise (· ≤ ·):=by
 have h:=List.pairwise_mergeSort (le:=fun x y:Bt=>decide (x≤y)) (fun a b _ d e=>decide_eq_true (List.le_trans (of_decide_eq_true d) (of_decide_eq_true e)))
  (fun a b=>by rcases List.le_total a b with h|h<;>simp[h]) l
 exact h.imp fun h=>of_decide_eq_true h
theorem vZ(a:GExpr):Lib.compact (ph ([]++Yx a))=insE a []:=by
 obtain⟨b,d⟩:=r6 (rn ([]++Yx a));obtain⟨e,g⟩:=pE a [];refine wW b (g List.Pairwise.nil) fun _=>?_
 rw[d,qE,e];simp
def nmR(a:GExpr):List Bt:=if Jn a=0 then insE a [] else []
theorem EN{a:GExpr}(h:Jn a=0):insE a []=nmR a:=by unfold nmR;rw[if_pos h]
theorem GJ{a:GExpr}(h:¬Jn a=0):[]=nmR a:=by unfold nmR;rw[if_neg h]
theorem Ku{a:GExpr}(h:Jn a=0):(cntE a≤60∧lvlE a≤12)∧errE a=0:=by
 unfold Jn at h;by_cases b:cntE a≤60∧lvlE a≤12
 ·rw[if_pos b] at h;exact⟨b,h⟩
 ·rw[if_neg b] at h;cases h
def subE(a:GExpr)(nm:Bt)(y:GExpr):GExpr×Int:=
 if Jn a=0 then if Km nm=true then if Jn y=0 then if Jn (repE nm (lowE y) (lowE a))=0 then(repE nm (lowE y) (lowE a),0) else(Xu,7) else(Xu,Jn y) else(Xu,3) else(Xu,Jn a)
section
variable {a y:GExpr} {nm:Bt}
theorem sub1(h:¬Jn a=0):(Xu,Jn a)=subE a nm y:=by unfold subE;rw[if_neg h]
theorem sub2(h:Jn a=0)(b:Km nm=false):(Xu,(3:Int))=subE a nm y:=by unfold subE;rw[if_pos h,if_neg (by rw[b];simp)]
theorem sub3(h:Jn a=0)(b:Km nm=true)(d:¬Jn y=0):(Xu,Jn y)=subE a nm y:=by unfold subE;rw[if_pos h,if_pos b,if_neg d]
theorem sub4(h:Jn a=0)(b:Km nm=true)(d:Jn y=0)(e:¬Jn (repE nm (lowE y) (lowE a))=0):(Xu,(7:Int))=subE a nm y:=by unfold subE;rw[if_pos h,if_pos b,if_pos d,if_neg e]
theorem sub5(h:Jn a=0)(b:Km nm=true)(d:Jn y=0)(e:Jn (repE nm (lowE y) (lowE a))=0):(repE nm (lowE y) (lowE a),(0:Int))=subE a nm y:=by unfold subE;rw[if_pos h,if_pos b,if_pos d,if_pos e]
theorem zO(h:Jn a=0)(b:Jn y=0)(hs:cntE (repE nm (lowE y) (lowE a))≤60∧lvlE (repE nm (lowE y) (lowE a))≤12):Jn (repE nm (lowE y) (lowE a))=0:=by
 unfold Jn;rw[if_pos hs];exact xS (rL _ (Ku b).2) _ (rL _ (Ku h).2)
theorem pB(hs:¬(cntE (repE nm (lowE y) (lowE a))≤60∧lvlE (repE nm (lowE y) (lowE a))≤12)):¬Jn (repE nm (lowE y) (lowE a))=0:=by
 unfold Jn;rw[if_neg hs];decide
end
end Go.Wf
namespace Go.Wf
open Go Go.Lib
variable{b:UInt8}
abbrev By:=List UInt8
def qTxt(q:Rat):By:=if q.den=1 then itoa q.num else itoa q.num++[47]++itoa (q.den:Int)
structure Tx where
 op:Int
 q:Rat
 neg:Bool
 w:By
 sg:By
 mi:Bool
 p:By
def Tx.f(t:Tx):By:=if t.op=10∨t.op=11∨t.neg=true then [40]++t.w++[41] else t.p
def yi(l:List Int):List By:=l.map itoa
def zp(l:List Int):By:=join (yi l) [44,32]
def Vr(ne:Bool):List Tx→By
 |[]=>[]
 |t::l=>(if ne then [44,32] else [])++t.w++Vr true l
def Zr(nm:By)(n:List Int)(ts:List Tx):By:=(nm++[40])++(if n=[] then [] else zp n)++Vr (decide (¬n=[])) ts++[41]
def etaT(nm:By)(n:List Int):By:=nm++itoa (n.getD 0 0)++[41,91]++zp (n.drop 1)++[93]
def xe(t:Tx):By:=if t.op=10∨t.op=11∨t.op=12∨t.op=1 then [40]++t.w++[41] else t.w
def Tx0:Tx:=⟨0,0,false,[],[],false,[]⟩
def mz(op:Int)(n:List Int)(q:Rat)(nm:By)(ts:List Tx):By:=
 if op=1 then qTxt q else if op=2 then [69]++itoa (n.getD 0 0) else if op=3 then Zr [71] n ts
 else if op=4 then etaT [101,116,97,40] n else if op=5 then etaT [116,104,101,116,97,40] n
 else if op=6 then [68,101,108,116,97] else if op=7 then [106] else if op=8 then nm
 else if op=9 then Zr [110,101,119,102,111,114,109] n ts else if op=13 then Zr [86] n ts else if op=14 then Zr [85] n ts
 else if op=15 then Zr [84] n ts else if op=16 then Zr [116,119,105,115,116] n ts else if op=17 then Zr [115,101,114,114,101] n ts
 else if op=18 then Zr [98,114,97,99,107,101,116] n ts
 else xe (ts.getD 0 Tx0)++[94]++itoa (n.getD 0 0)
def facT(ts:List Tx):List By:=ts.map Tx.f
def sN(ts:List Tx):By:=
 if(ts.getD 0 Tx0).neg then join ((if ¬(-(ts.getD 0 Tx0).q=1)∨(ts.getD 1 Tx0).op=1 then [qTxt (-(ts.getD 0 Tx0).q)] else [])++facT (ts.drop 1)) [42] else join (facT ts) [42]
def sumR:List Tx→By
 |[]=>[]
 |t::l=>(if t.mi then [32,45,32] else [32,43,32])++t.sg++sumR l
def sumT:List Tx→By
 |[]=>[]
 |t::l=>(if t.mi then [45] else [])++t.sg++sumR l
def negB(op:Int)(q:Rat):Bool:=decide (op=1)&&decide (Xr q<0)
def sgT(op:Int)(n:List Int)(q:Rat)(nm:By)(ts:List Tx):By:=
 if op=10 then [40]++sumT ts++[41] else if negB op q=true then qTxt (-q) else if op=11 then sN ts else mz op n q nm ts
def miT(op:Int)(q:Rat)(ts:List Tx):Bool:=
 if op=10 then false else if negB op q=true then true else if op=11 then(ts.getD 0 Tx0).neg else false
def mkT(op:Int)(n:List Int)(q:Rat)(nm:By)(ts:List Tx):Tx:=
 ⟨op,q,negB op q,if op=10 then sumT ts else(if miT op q ts then [45] else [])++sgT op n q nm ts,sgT op n q nm ts,miT op q ts,mz op n q nm ts⟩
mutual
def txE:GExpr→Tx
 |.mk o n c s l=>mkT o n c.q s (txL l)
def txL:List GExpr→List Tx
 |[]=>[]
 |a::l=>txE a::txL l
end
theorem xq(a:GExpr):txE a=mkT a.op a.n a.c.q a.name (txL a.args):=by cases a;rw[txE];rfl
theorem oq:∀l:List GExpr,txL l=l.map txE
 |[]=>rfl
 |a::l=>by rw[txL,oq l];rfl
theorem qP{l:List GExpr}{i:Nat}(h:i<l.length):(txL l).getD i Tx0=txE (l.getD i Δ):=by
 rw[oq,Tq,Tq,TV,Tt h];rfl
def wrE(a:GExpr):By:=(txE a).w
def plE(a:GExpr):By:=(txE a).p
def sgE(a:GExpr):By:=(txE a).sg
def miE(a:GExpr):Bool:=(txE a).mi
theorem vf(a:GExpr):(txE a).op=a.op:=by rw[xq];rfl
theorem tx_q(a:GExpr):(txE a).q=a.c.q:=by rw[xq];rfl
theorem nN(a:GExpr):(txE a).neg=negB a.op a.c.q:=by rw[xq];rfl
theorem mK{a:GExpr}(h:a.op=10):wrE a=sumT (txL a.args):=by unfold wrE;rw[xq];exact if_pos h
theorem pA{a:GExpr}(h:¬a.op=10):wrE a=(if miE a then [45] else [])++sgE a:=by
 unfold wrE miE sgE;rw[xq];exact if_neg h
theorem xA(a:GExpr):plE a=mz a.op a.n a.c.q a.name (txL a.args):=by unfold plE;rw[xq];rfl
theorem CZ(a:GExpr):sgE a=sgT a.op a.n a.c.q a.name (txL a.args):=by unfold sgE;rw[xq];rfl
theorem CU(a:GExpr):miE a=miT a.op a.c.q (txL a.args):=by unfold miE;rw[xq];rfl
theorem mR{a:GExpr}(h:a.op=10):sgE a=[40]++wrE a++[41]∧miE a=false:=by
 rw[CZ,CU,mK h];exact⟨if_pos h,if_pos h⟩
theorem mq{a:GExpr}(h:negB a.op a.c.q=true):sgE a=qTxt (-a.c.q)∧miE a=true:=by
 have b:¬a.op=10:=fun e=>by unfold negB at h;rw[e] at h;cases h
 rw[CZ,CU];exact⟨by unfold sgT;rw[if_neg b,if_pos h],by unfold miT;rw[if_neg b,if_pos h]⟩
theorem rf{a:GExpr}(h:¬a.op=10)(b:negB a.op a.c.q=false)(d:¬a.op=11):sgE a=plE a∧miE a=false:=by
 rw[CZ,CU,xA];exact⟨by unfold sgT;rw[if_neg h,if_neg (by rw[b];decide),if_neg d],by unfold miT;rw[if_neg h,if_neg (by rw[b];decide),if_neg d]⟩
theorem BG{a:GExpr}(b:a.op=11):sgE a=sN (txL a.args)∧miE a=((txL a.args).getD 0 Tx0).neg:=by
 have h:¬a.op=10:=o
 have d:negB a.op a.c.q=false:=by unfold negB;rw[b];rfl
 rw[CZ,CU];exact⟨by unfold sgT;rw[if_neg h,if_neg Wv,if_pos b],by unfold miT;rw[if_neg h,if_neg Wv,if_pos b]⟩
def dgB(n:Nat):UInt8:=UInt8.ofNat (48+n%10)
theorem rH(n:Nat):(dgB n).toNat=48+n%10:=by
 have:=Tp n (show 0<10 by decide)
 exact UInt8.toNat_ofNat_of_lt' (by show 48+n%10<256;omega)
theorem FX{m n:Nat}(h:m%10=n%10):dgB m=dgB n:=by unfold dgB;rw[h]
def lsd:Nat→Nat→List UInt8
 |0,_=>[]
 |k+1,n=>dgB n::lsd k (n/10)
theorem yd:∀k n:Nat,(lsd k n).length=k
 |0,_=>rfl
 |k+1,n=>by rw[lsd,Td,yd]
theorem v6:∀k n:Nat,lsd (k+1) n=lsd k n++[dgB (n/10^k)]
 |0,n=>by rw[lsd,lsd,lsd,Nat.pow_zero,Nat.div_one];rfl
 |k+1,n=>by rw[lsd,v6 k,lsd,Un,U8,TF,TR]
theorem tz{k n:Nat}(hk:0<k):(lsd k n).getD (k-1) 0=dgB (n/10^(k-1)):=by
 obtain⟨j,rfl⟩:∃j,k=j+1:=⟨k-1,o⟩;rw[v6,U3,Tq,UA (by rw[yd];exact Tu _),yd,Wa];rfl
theorem DN{k n:Nat}(hk:0<k):(lsd k n).take (k-1)=lsd (k-1) n:=by
 obtain⟨j,rfl⟩:∃j,k=j+1:=⟨k-1,o⟩;rw[v6,U3,List.take_left' (yd _ _)]
theorem Av:∀k n:Nat,n<10^(k+1)→10^k≤n∨k=0→(lsd (k+1) n).reverse=decDigits n
 |0,n,h,_=>by
  have h:n<10:=by simpa using h
  rw[lsd,lsd,decDigits_one h,List.reverse_singleton,dgB,VO h]
 |k+1,n,h,a=>by
  have a:10^(k+1)≤n:=by rcases a with a|a;exact a;omega
  have hk:0<10^k:=VY δ;rw[TF] at h a;rw[TF] at h;have e:decDigits n=decDigits (n/10)++[UInt8.ofNat (48+n%10)]:=by
   conv=>lhs;rw[decDigits,dif_neg o]
  rw[e,lsd,List.reverse_cons,Av k (n/10) (by rw[TF];omega) (.inl o),dgB]
theorem NA(n:Nat):(4294967296:Nat)^n≤10^(10*n):=by rw[Nat.pow_mul];exact Nat.pow_le_pow_left δ n
section
variable {N i j k r:Nat} {m:List Nat} {d:List UInt8}
theorem fm_0(hs:Jr m):trim m=digs (val m/10^(9*0)):=by rw[V0 hs,VU,Nat.pow_zero,Nat.div_one]
theorem KM:(10:Nat)^(9*(i+1))=10^(9*i)*1000000000:=by rw[show 9*(i+1)=9*i+9 by omega,VX]
theorem fm_q(h:m=digs (N/10^(9*i))):trim (Zc m.length (val m/1000000000))=digs (N/10^(9*(i+1))):=by
 subst h;have a:=Vv (N/10^(9*i));rw[Z3,Vi (TS (VA _ _) a),U8,KM]
theorem fm_r(h:m=digs (N/10^(9*i))):val m%1000000000=N/10^(9*i)%1000000000/10^0:=by rw[h,Z3,Nat.pow_zero,Nat.div_one]
theorem KD(hr:r=N/10^(9*i)%1000000000/10^j)(hj:j<9):dgB r=dgB (N/10^(9*i+j)):=by
 refine FX ?_;have e:(1000000000:Nat)=10^j*10^(9-j):=by rw[←VX,show j+(9-j)=9 by omega]
 have e2:(10:Nat)^(9-j)=10*10^(8-j):=by rw[show 9-j=(8-j)+1 by omega,TF,TR]
 rw[hr,e,Nat.mod_mul_right_div_self,e2,Nat.mod_mul_right_mod,U8,←VX]
theorem Gr(hr:r=N/10^(9*i)%1000000000/10^j)(hj:j<9)(hd:d=lsd (9*i+j) N):d++[dgB r]=lsd (9*i+(j+1)) N:=by
 rw[hd,KD hr hj,←Nat.add_assoc,v6]
theorem Is(hr:r=N/10^(9*i)%1000000000/10^j):r/10=N/10^(9*i)%1000000000/10^(j+1):=by
 rw[hr,U8,TF]
theorem HO:IntKind.u8.wrap (48+((r%10%256:Nat):Int))=(((dgB r).toNat:Nat):Int):=by
 have:=Tp r (show 0<10 by decide)
 rw[rH];rw[IntWalk.u8_in _ o];omega
theorem L6{L:Nat}(hN:N<4294967296^L)(hm:m=digs (N/10^(9*i)))(h:(0:Int)<((m.length:Nat):Int)):9*i<10*L:=by
 have g:¬N/10^(9*i)=0:=fun e=>by rw[hm,e] at h;simp[mj] at h
 have l:10^(9*i)≤N:=by
  rcases TN N (10^(9*i)) with a|a
  ·exact absurd (U9 a) g
  ·exact a
 have a:=NA L;rcases TN (9*i) (10*L) with b|b
 ·exact b
 ·have:=TM (show 0<10 by decide) b
  omega
theorem MH(hm:m=digs (N/10^(9*i)))(h:¬(0:Int)<((m.length:Nat):Int)):N<10^(9*i):=by
 have a:m=[]:=TD o;rw[hm] at a;have b:=(Q2 _).1 a;have hp:0<10^(9*i):=VY δ
 have:=U7 N (10^(9*i))
 have:=Tp N hp
 rw[b,VU] at *;omega
theorem ud(hN:0<N)(hk:N<10^k):0<k:=by
 rcases VE k with h|h
 ·subst h;rw[Nat.pow_zero] at hk;omega
 ·exact h
theorem vI(hN:0<N)(hk:N<10^k)(hd:d=lsd k N):d.length-1<d.length∧d.length=k:=by
 have:=ud hN hk
 rw[hd,yd];omega
theorem L7(hk:N<10^k)(a:0<k):N/10^(k-1)<10:=by
 obtain⟨j,rfl⟩:∃j,k=j+1:=⟨k-1,o⟩;rw[U3];rw[TF] at hk;exact VB hk
theorem fm_z(hN:0<N)(hk:N<10^k)(hd:d=lsd k N)(h:(((d.getD (d.length-1) 0).toNat:Nat):Int)=48):N<10^(k-1)∧d.take (d.length-1)=lsd (k-1) N:=by
 have a:=ud hN hk;have hl:=(vI hN hk hd).2;have hv:=L7 hk a;rw[hl] at h ⊢;subst hd;rw[tz a,rH,VO hv] at h;refine⟨?_,DN a⟩;have b:N/10^(k-1)=0:=o
 have hp:0<10^(k-1):=VY δ
 have:=U7 N (10^(k-1))
 have:=Tp N hp
 rw[b,VU] at *;omega
theorem Ea(hN:0<N)(hk:N<10^k)(hd:d=lsd k N)(h:¬(((d.getD (d.length-1) 0).toNat:Nat):Int)=48):d.reverse=decDigits N:=by
 have b:=ud hN hk;have hl:=(vI hN hk hd).2;have hv:=L7 hk b;rw[hl] at h;subst hd;rw[tz b,rH,VO hv] at h;obtain⟨j,rfl⟩:∃j,k=j+1:=⟨k-1,o⟩;rw[U3] at h;refine Av j N hk (.inl ?_);rcases TN N (10^j) with a|a
 ·rw[U9 a] at h;omega
 ·exact a
end
theorem fm_N{a:GInt}(hs:Jr a.mag)(h:¬(((trim a.mag).length:Nat):Int)=0):0<val a.mag:=by
 rcases VE (val a.mag) with e|e
 ·rw[V0 hs,e,mj] at h;exact absurd ϱ h
 ·exact e
theorem Ng{a:GInt}(hs:Jr a.mag)(h:(((trim a.mag).length:Nat):Int)=0):[48]=itoa a.toZ:=by
 have b:trim a.mag=[]:=TD o;rw[V0 hs] at b;have e:=(Q2 _).1 b;unfold GInt.toZ Yh;rw[e]
 have:(if a.neg=true then -((0:Nat):Int) else((0:Nat):Int))=((0:Nat):Int):=by split<;>rfl
 rw[this,itoa_nonneg,decDigits_one δ];rfl
theorem N2{a:GInt}{d:List UInt8}(hn:a.neg=false)(h:d.reverse=decDigits (val a.mag)):d.reverse=itoa a.toZ:=by
 unfold GInt.toZ Yh;rw[hn,if_neg δ,itoa_nonneg];exact h
theorem PA{a:GInt}{d:List UInt8}(hn:a.neg=true)(hN:0<val a.mag)(h:d.reverse=decDigits (val a.mag)):(d++[45]).reverse=itoa a.toZ:=by
 unfold GInt.toZ Yh;rw[hn,if_pos ϱ,itoa_neg _ hN,List.reverse_append,h];rfl
theorem NM{m:List Nat}{n q:Nat}(h:m.length≤n):(trim (Zc m.length q)).length≤n:=Tj (Jx _) (by rw[Jt];exact h)
theorem Fk:∀k u:Nat,u<10^(k+1)→(decDigits u).length≤k+1
 |0,u,h=>by rw[decDigits_one d'];exact Tu _
 |k+1,u,h=>by
  rw[TF] at h;rw[decDigits];split
  ·simp
  ·rw[Tc,Tf]
   have:=Fk k (u/10) o
   omega
theorem yF(n:Int)(k:Nat)(h:n.natAbs<10^(k+1)):(itoa n).length≤k+2:=by
 have:=Fk k n.natAbs h
 unfold itoa;split
 ·rw[Td];omega
 ·rw[show n.toNat=n.natAbs by omega];omega
theorem mQ(n:Int):(itoa n).length≤10*(ofZ n).mag.length+2:=by
 have h:n.natAbs<4294967296^(ofZ n).mag.length:=by
  have b:=Jo n;have a:Jr (ofZ n).mag:=by unfold ofZ;exact Yd _
  have e:=Yk _ a;unfold GInt.toZ Yh at b;split at b<;>omega
 have a:=NA (ofZ n).mag.length;refine yF n _ (Ti (Ti h a) (TM δ (Nat.le_succ _)))
theorem Nr{n:Int}(a: -9223372036854775808≤n)(b:n≤9223372036854775807):(itoa n).length≤maxLen:=by
 have:=itoa_length_le n a b
 unfold maxLen;omega
section
variable {q:Rat}
theorem yH:(ofQ q).num.toZ=q.num:=Jo _
theorem AZ:(ofQ q).den.toZ=(q.den:Int):=Jo _
theorem KL(h:(ofQ q).den=ofZ 1):itoa (ofQ q).num.toZ=qTxt q:=by
 have a:(q.den:Int)=1:=by rw[←AZ,h,Jo]
 unfold qTxt;rw[if_pos o,yH]
theorem Mo(h:¬(ofQ q).den=ofZ 1):(itoa (ofQ q).num.toZ++[47])++itoa (ofQ q).den.toZ=qTxt q:=by
 have a:¬q.den=1:=fun e=>h (by show ofZ (q.den:Int)=ofZ 1;rw[e];rfl);unfold qTxt;rw[if_neg a,yH,AZ]
theorem MP:(itoa (ofQ q).num.toZ).length≤10*(ofQ q).num.mag.length+2:=by rw[yH];exact mQ _
theorem NT:(itoa (ofQ q).den.toZ).length≤10*(ofQ q).den.mag.length+2:=by rw[AZ];exact mQ _
end
theorem AO{m:List Nat}(hs:Jr m):val m<4294967296^m.length:=Yk m hs
def lnI:List Int→Nat
 |[]=>0
 |x::l=>(itoa x).length+2+lnI l
def lnQ(q:Rat):Nat:=(itoa q.num).length+(itoa (-q.num)).length+(itoa (q.den:Int)).length
mutual
def lnE:GExpr→Nat
 |.mk _ n c s l=>60+lnI n+lnQ c.q+s.length+lnL l
def lnL:List GExpr→Nat
 |[]=>0
 |a::l=>lnE a+8+lnL l
end
theorem x5(a:GExpr):lnE a=60+lnI a.n+lnQ a.c.q+a.name.length+lnL a.args:=by cases a;rw[lnE];rfl
theorem BW:∀ {l:List GExpr} {i:Nat},i<l.length→lnE (l.getD i Δ)+8≤lnL l
 |[],i,h=>absurd h (TC _)
 |a::l,0,h=>by rw[lnL,TK];omega
 |a::l,i+1,h=>by
  rw[lnL]
  have:=BW (l:=l) (i:=i) d'
  simp only[List.getD_cons_succ];omega
theorem wD(q:Rat):(-q).num= -q.num∧(-q).den=q.den:=⟨Rat.neg_num q,Rat.neg_den q⟩
theorem tJ(q:Rat):(qTxt q).length≤1+lnQ q∧(qTxt (-q)).length≤1+lnQ q:=by
 unfold qTxt lnQ;rw[(wD q).1,(wD q).2];split
 ·exact⟨by omega,o⟩
 ·simp only[Tc,Td,Te];exact⟨by omega,o⟩
def lns:List By→Nat
 |[]=>0
 |x::l=>x.length+lns l
theorem Hz(l:List By):Lib.lens l=lns l:=by
 induction l with
 |nil=>rfl
 |cons x l ih=>simp only[Lib.lens,TU,List.sum_cons] at ih ⊢;rw[lns];omega
theorem s6(l:List By)(s:By):(join l s).length≤lns l+s.length*l.length:=by
 cases l with
 |nil=>simp[join_nil]
 |cons x r=>
  rw[join_length,Hz,Td,TH];omega
theorem vw(l:List Int):(zp l).length≤lnI l:=by
 have h:=s6 (yi l) [44,32];have e:∀l:List Int,lns (yi l)+2*(yi l).length=lnI l:=by
  intro l
  induction l with
  |nil=>rfl
  |cons x l ih=>unfold yi at *;rw[TU,lns,lnI,Td];omega
 rw[←e l];exact h
theorem Ft:∀ {l:List Int} {i:Nat},i<l.length→(itoa (l.getD i 0)).length≤lnI l
 |[],i,h=>absurd h (TC _)
 |a::l,0,h=>by rw[lnI];simp only[TK];omega
 |a::l,i+1,h=>by
  rw[lnI]
  have:=Ft (l:=l) (i:=i) d'
  simp only[List.getD_cons_succ];omega
theorem tZ(l:List Int):lnI (l.drop 1)≤lnI l:=by
 cases l with
 |nil=>exact Tu _
 |cons x l=>rw[List.drop_succ_cons,Uv,lnI];omega
structure TL (t:Tx) (k:Nat):Prop where
 w:t.w.length+5≤k
 s:t.sg.length+10≤k
 p:¬t.op=10→¬t.op=11→t.p.length+10≤k
 q:(qTxt (-t.q)).length+10≤k
theorem TL.f{t:Tx}{k:Nat}(h:TL t k):t.f.length+3≤k:=by
 have b:=h.w;unfold Tx.f;split
 ·simp only[Tc,Td,Te];omega
 ·rename_i hh;have d:=h.p (fun e=>hh (.inl e)) (fun e=>hh (.inr (.inl e)));omega
section
variable {l:List GExpr} (h:∀i,i<l.length→TL (txE (l.getD i Δ)) (lnE (l.getD i Δ)))
include h
theorem mG{a:GExpr}{r:List GExpr}(e:l=a::r):TL (txE a) (lnE a)∧∀i,i<r.length→TL (txE (r.getD i Δ)) (lnE (r.getD i Δ)):=by
 subst e;exact⟨h 0 χ,fun i hi=>h (i+1) ς⟩
end
theorem sI:∀ {l:List GExpr},(∀i,i<l.length→TL (txE (l.getD i Δ)) (lnE (l.getD i Δ)))→lns (facT (txL l))+(facT (txL l)).length≤lnL l
 |[],_=>Tu _
 |a::l,h=>by
  obtain⟨b,d⟩:=mG h r
  have:=sI d
  have e:=b.f;rw[txL,facT,TU,lns,lnL,Td];unfold facT at this;omega
theorem BV:∀ {l:List GExpr},(∀i,i<l.length→TL (txE (l.getD i Δ)) (lnE (l.getD i Δ)))→(sumR (txL l)).length≤lnL l
 |[],_=>Tu _
 |a::l,h=>by
  obtain⟨b,d⟩:=mG h r
  have:=BV d
  have e:=b.s;rw[txL,sumR,lnL,Tc,Tc]
  have:(if(txE a).mi=true then([32,45,32]:By) else [32,43,32]).length=3:=by split<;>rfl
  omega
theorem AR:∀ {l:List GExpr},(∀i,i<l.length→TL (txE (l.getD i Δ)) (lnE (l.getD i Δ)))→(sumT (txL l)).length≤lnL l
 |[],_=>Tu _
 |a::l,h=>by
  obtain⟨b,d⟩:=mG h r
  have:=BV d
  have e:=b.s;rw[txL,sumT,lnL,Tc,Tc]
  have:(if(txE a).mi=true then([45]:By) else []).length≤1:=by split<;>simp
  omega
theorem uA:∀ {l:List GExpr} (b:Bool),(∀i,i<l.length→TL (txE (l.getD i Δ)) (lnE (l.getD i Δ)))→(Vr b (txL l)).length≤lnL l
 |[],_,_=>Tu _
 |a::l,b,h=>by
  obtain⟨d,e⟩:=mG h r
  have:=uA true e
  have g:=d.w;rw[txL,Vr,lnL,Tc,Tc]
  have:(if b=true then([44,32]:By) else []).length≤2:=by split<;>simp
  omega
theorem CE{l:List GExpr}(h:∀i,i<l.length→TL (txE (l.getD i Δ)) (lnE (l.getD i Δ)))(hl:0<l.length):(sN (txL l)).length≤lnL l:=by
 cases l with
 |nil=>simp at hl
 |cons a l=>
  obtain⟨b,d⟩:=mG h r;have e:=sI d;have g:=sI h;unfold sN;split
  ·refine Tj (s6 _ _) ?_;rw[txL,List.drop_succ_cons,Uv,lnL];have j:=b.q;have e1:∀x y:List By,lns (x++y)=lns x+lns y:=by
    intro x y
    induction x with
    |nil=>simp[lns]
    |cons a x ih=>rw[Un,lns,lns,ih];omega
   rw[e1,Tc,TH];simp only[TK,Tf];split<;>simp only[lns,Td,Te]<;>omega
  ·refine Tj (s6 _ _) ?_;rw[Tf];omega
theorem X9{nm:By}{a:GExpr}(h:∀i,i<a.args.length→TL (txE (a.args.getD i Δ)) (lnE (a.args.getD i Δ))):(Zr nm a.n (txL a.args)).length+58≤nm.length+lnE a:=by
 have e:=uA (decide (¬a.n=[])) h;have b:=vw a.n;unfold Zr;rw[x5];have d:(if a.n=[] then [] else zp a.n).length≤lnI a.n:=by
  split
  ·exact Tv _
  ·exact b
 simp only[Tc,Tf] at d ⊢;omega
theorem rQ{nm:By}{a:GExpr}(hn:0<a.n.length):(etaT nm a.n).length+50≤nm.length+lnE a:=by
 have e:a.n=a.n.getD 0 0::a.n.drop 1:=by
  cases hh:a.n with
  |nil=>rw[hh] at hn;simp at hn
  |cons x l=>rfl
 have b:=vw (a.n.drop 1);have d:lnI a.n=(itoa (a.n.getD 0 0)).length+2+lnI (a.n.drop 1):=by conv=>lhs;rw[e,lnI]
 unfold etaT;rw[x5];simp only[Tc,Td,Te];omega
structure Gd (a:GExpr):Prop where
 er:errE a=0
 ok:okE a
 ln:lnE a≤1000000000
 sm:smE a
theorem mX:∀ {l:List GExpr} {i:Nat},errL l=0→i<l.length→errE (l.getD i Δ)=0
 |[],i,_,h=>absurd h (TC _)
 |a::l,i,b,h=>by
  rw[errL] at b;split at b
  ·rename_i d;cases i with
   |zero=>exact d
   |succ i=>exact mX (l:=l) (i:=i) b d'
  ·rename_i d;exact absurd b d
section
variable {a:GExpr} {i:Nat}
theorem Q1(h:errE a=0):Xm a=0∧errL a.args=0:=by
 rw[xd] at h;split at h
 ·rename_i b;exact⟨b,h⟩
 ·rename_i b;exact absurd h b
theorem zz(h:Xm a=0):cntOk a∧nameOk a∧mH a:=by
 unfold Xm at h;split at h
 ·rename_i b;split at h
  ·rename_i d;exact⟨b.1,b.2,d⟩
  ·simp at h
 ·simp at h
theorem Gd.arg(h:Gd a)(hi:i<a.args.length):Gd (a.args.getD i Δ):=by
 refine⟨mX (Q1 h.er).2 hi,xL h.ok hi,?_,E3 h.sm hi⟩
 have:=BW hi
 have b:=h.ln;rw[x5] at b;omega
theorem Gd.parts(h:Gd a):cntOk a∧nameOk a∧mH a:=zz (Q1 h.er).1
theorem cn1(h:cntOk a)(ho:a.op=2∨a.op=4∨a.op=5∨(12≤a.op∧a.op≤16)∨a.op=18):0<a.n.length:=by
 have b:=h.n1;unfold cA at b
 (repeat' split at b)<;>omega
theorem ca2(h:cntOk a)(ho:a.op=10∨a.op=11∨a.op=18):2≤a.args.length:=by
 have b:=h.a1;unfold cC at b
 (repeat' split at b)<;>omega
theorem ca1(h:cntOk a)(ho:12≤a.op):1≤a.args.length:=by
 have b:=h.a1;have d:=h.o2;unfold cC at b
 (repeat' split at b)<;>omega
theorem Gd.n(h:Gd a)(ho:a.op=2∨a.op=4∨a.op=5∨(12≤a.op∧a.op≤16)∨a.op=18):0<a.n.length:=cn1 h.parts.1 ho
theorem Gd.a2(h:Gd a)(ho:a.op=11):2≤a.args.length:=ca2 h.parts.1 (.inr (.inl ho))
theorem Gd.a1(h:Gd a)(ho:a.op=12):1≤a.args.length:=ca1 h.parts.1 o
theorem Gd.m1(h:Gd a):a.c.num.mag.length≤1000:=by have:=h.ok;rw[Qo] at this;exact this.1
theorem Gd.m2(h:Gd a):a.c.den.mag.length≤1000:=by have:=h.ok;rw[Qo] at this;exact this.2.1
theorem ok_n{l:List Int}:l.length≤lnI l:=by
 induction l with
 |nil=>exact Tu _
 |cons x l ih=>rw[lnI,Td];omega
theorem ny(h:cntOk a)(hq:(a.op=1→True))(hs:∀i,i<a.args.length→TL (txE (a.args.getD i Δ)) (lnE (a.args.getD i Δ)))(E:¬a.op=10)(F:¬a.op=11):(plE a).length+10≤lnE a:=by
 rw[xA];have e:=x5 a;have hq:=(tJ a.c.q).1;have o1:=h.o1;have o2:=h.o2;have x:∀hn:0<a.n.length,(itoa (a.n.getD 0 0)).length≤lnI a.n:=fun hn=>Ft hn;unfold mz;by_cases p:a.op=1
 ·rw[if_pos p];omega
 rw[if_neg p];by_cases s:a.op=2
 ·rw[if_pos s];rw[Tc,Tf];have:=x (cn1 h o);omega
 rw[if_neg s];by_cases v:a.op=3
 ·rw[if_pos v]
  have:=X9 (nm:=[71]) hs;simp only[Td,Te] at this;omega
 rw[if_neg v];by_cases y:a.op=4
 ·rw[if_pos y]
  have:=rQ (nm:=[101,116,97,40]) (cn1 h o);simp only[Td,Te] at this;omega
 rw[if_neg y];by_cases z:a.op=5
 ·rw[if_pos z]
  have:=rQ (nm:=[116,104,101,116,97,40]) (cn1 h o);simp only[Td,Te] at this;omega
 rw[if_neg z];by_cases A:a.op=6
 ·rw[if_pos A];simp only[Td,Te];omega
 rw[if_neg A];by_cases B:a.op=7
 ·rw[if_pos B];simp only[Td,Te];omega
 rw[if_neg B];by_cases C:a.op=8
 ·rw[if_pos C];omega
 rw[if_neg C];by_cases D:a.op=9
 ·rw[if_pos D]
  have:=X9 (nm:=[110,101,119,102,111,114,109]) hs;simp only[Td,Te] at this;omega
 rw[if_neg D];by_cases b:a.op=13
 ·rw[if_pos b]
  have:=X9 (nm:=[86]) hs;simp only[Td,Te] at this;omega
 rw[if_neg b];by_cases d:a.op=14
 ·rw[if_pos d]
  have:=X9 (nm:=[85]) hs;simp only[Td,Te] at this;omega
 rw[if_neg d];by_cases g:a.op=15
 ·rw[if_pos g]
  have:=X9 (nm:=[84]) hs;simp only[Td,Te] at this;omega
 rw[if_neg g];by_cases j:a.op=16
 ·rw[if_pos j]
  have:=X9 (nm:=[116,119,105,115,116]) hs;simp only[Td,Te] at this;omega
 rw[if_neg j];by_cases k:a.op=17
 ·rw[if_pos k]
  have:=X9 (nm:=[115,101,114,114,101]) hs;simp only[Td,Te] at this;omega
 rw[if_neg k];by_cases m:a.op=18
 ·rw[if_pos m]
  have:=X9 (nm:=[98,114,97,99,107,101,116]) hs;simp only[Td,Te] at this;omega
 rw[if_neg m];have hop:a.op=12:=o
 have hl:=ca1 h o;rw[qP hl];have p:=(hs 0 hl).w;have s:=BW hl;have v:=x (cn1 h o);unfold xe;split<;>simp only[Tc,Td,Te]<;>omega
end
theorem rr:∀a:GExpr,errE a=0→TL (txE a) (lnE a):=Vo fun a ih=>by
 intro h;obtain⟨g,j⟩:=Q1 h;have hc:=(zz g).1;have hs:∀i,i<a.args.length→TL (txE (a.args.getD i Δ)) (lnE (a.args.getD i Δ)):=fun i hi=>ih i hi (mX j hi);have e:=x5 a;have hq:=(tJ a.c.q).2;have hs':(sgE a).length+10≤lnE a:=by
  by_cases b:a.op=10
  ·rw[(mR b).1,mK b]
   have:=AR hs
   simp only[Tc,Td,Te];omega
  by_cases hn:negB a.op a.c.q=true
  ·rw[(mq hn).1];omega
  by_cases d:a.op=11
  ·rw[(BG d).1]
   have:=CE hs (by have:=ca2 hc o;omega)
   omega
  ·rw[(rf b YN d).1];exact ny hc (fun _=>trivial) hs b d
 refine⟨?_,hs',fun b d=>?_,?_⟩
 ·show(wrE a).length+5≤lnE a
  by_cases b:a.op=10
  ·rw[mK b]
   have:=AR hs
   omega
  ·rw[pA b,Tc]
   have:(if miE a=true then([45]:By) else []).length≤1:=by split<;>simp
   omega
 ·rw[vf] at b d;exact ny hc (fun _=>trivial) hs b d
 ·rw[tx_q];omega
section
variable {a:GExpr} {i:Nat}
theorem Gd.wl(h:Gd a):(wrE a).length≤1000000000:=by have:=(rr a h.er).w;have:=h.ln;unfold wrE;omega
theorem Gd.sl(h:Gd a):(sgE a).length≤1000000000:=by have:=(rr a h.er).s;have:=h.ln;unfold sgE;omega
theorem Gd.pl(h:Gd a)(b:¬a.op=10)(d:¬a.op=11):(plE a).length≤1000000000:=by
 have:=(rr a h.er).p (by rw[vf];exact b) (by rw[vf];exact d);have:=h.ln;unfold plE;omega
theorem Gd.ql(h:Gd a):(qTxt (-a.c.q)).length≤1000000000:=by have:=(rr a h.er).q;rw[tx_q] at this;have:=h.ln;omega
theorem Gd.al(h:Gd a):8*a.args.length≤1000000000:=by
 have b:=h.ln;rw[x5] at b
 have:∀l:List GExpr,8*l.length≤lnL l:=by
  intro l
  induction l with
  |nil=>exact Tu _
  |cons x l ih=>rw[lnL,Td];omega
 have:=this a.args
 omega
theorem Gd.il(h:Gd a):lnI a.n≤1000000000:=by have b:=h.ln;rw[x5] at b;omega
theorem Gd.sms(h:Gd a):Jr a.c.num.mag∧Jr a.c.den.mag:=by
 obtain⟨_,_,_,hr⟩:=h.sm;obtain⟨_,_,_,_,_,_,_,_,_,h'⟩:=SR hr;exact⟨h'.num.u32_small,h'.den.u32_small⟩
theorem Gd.n1(h:Gd a):(ofQ (-a.c.q)).num.mag.length≤1000:=by rw[Vw];exact Tj (Xp h.sms.1) h.m1
theorem Gd.n2(h:Gd a):(ofQ (-a.c.q)).den.mag.length≤1001:=by rw[yo];exact Tj (Xs h.sms.2) (Nat.succ_le_succ h.m2)
theorem np{x y t:By}{k:Nat}(h:x++y=t)(hk:t.length≤k):x.length≤k:=by rw[←h,Tc] at hk;omega
theorem H7{l:List Int}{p:List By}(hi:i<l.length)(hp:p=yi (l.take i)):p++[itoa (l.getD i 0)]=yi (l.take (i+1)):=by
 rw[hp];unfold yi;rw[List.take_succ_eq_append_getElem hi,UK,Tq,Tt hi];rfl
theorem Em{l:List Int}{p:List By}(hi:l.length≤i)(hp:p=yi (l.take i)):join p [44,32]=zp l:=by
 rw[hp,TE hi];rfl
theorem AB{l:List Int}{p:List By}(hi:i≤l.length)(hp:p=yi (l.take i)):p.length=i:=by
 rw[hp];unfold yi;rw[UG,To];omega
theorem ng_t(h:a.op=1):decide (Xr a.c.q<0)=negB a.op a.c.q:=by unfold negB;rw[decide_eq_true h,Bool.true_and]
theorem ng_f(h:¬a.op=1):false=negB a.op a.c.q:=by unfold negB;rw[decide_eq_false h,Bool.false_and]
def caR(a:GExpr)(i:Nat):By:=Vr (decide (0<i∨¬a.n=[])) (txL (a.args.drop i))++[41]
section
variable {nm out T:By}
theorem te:(0:Int)<((a.n.length:Nat):Int)↔¬a.n=[]:=by
 have h:0<a.n.length↔¬a.n=[]:=UH;rw[←h];omega
theorem ca_0(h:¬(0:Int)<((a.n.length:Nat):Int)):(nm++[40])++caR a 0=Zr nm a.n (txL a.args):=by
 have b:a.n=[]:=by
  rcases VE a.n.length with e|e
  ·exact TD e
  ·omega
 unfold caR Zr;rw[b,if_pos r,Uv,TT,Tm (nm++[40])];rfl
theorem ca_1(h:(0:Int)<((a.n.length:Nat):Int)):((nm++[40])++zp a.n)++caR a 0=Zr nm a.n (txL a.args):=by
 have b:=te.1 h;unfold caR Zr;rw[if_neg b,Uv,←Tm];simp[b]
theorem ux(hM:out++caR a i=T)(hi:i<a.args.length)(h:(0:Int)<(i:Int)∨(0:Int)<((a.n.length:Nat):Int)):((out++[44,32])++wrE (a.args.getD i Δ))++caR a (i+1)=T:=by
 have b:0<i∨¬a.n=[]:=h.imp o te.1;rw[←hM];unfold caR;rw[Zv hi,txL,Vr,decide_eq_true b,decide_eq_true (show 0<i+1∨¬a.n=[] from .inl (Nat.succ_pos _)),if_pos rfl];simp only[Tm];rfl
theorem D2(hM:out++caR a i=T)(hi:i<a.args.length)(e:¬(0:Int)<(i:Int))(b:¬(0:Int)<((a.n.length:Nat):Int)):(out++wrE (a.args.getD i Δ))++caR a (i+1)=T:=by
 have d:¬(0<i∨¬a.n=[]):=fun h=>h.elim o (fun h=>b (te.2 h));rw[←hM];unfold caR;rw[Zv hi,txL,Vr,decide_eq_false d,decide_eq_true (show 0<i+1∨¬a.n=[] from .inl (Nat.succ_pos _)),if_neg δ,TJ];simp only[Tm];rfl
theorem Fn(hM:out++caR a i=T)(hi:a.args.length≤i):out++[41]=T:=by
 rw[←hM];unfold caR;rw[TI hi,txL,Vr,TJ]
theorem L9(h:Gd a)(hn:nm.length≤100):(Zr nm a.n (txL a.args)).length≤1000000100:=by
 have b:=X9 (nm:=nm) (a:=a) fun _ hi=>rr _ (h.arg hi).er
 have:=h.ln;omega
end
theorem pl_1(h:a.op=1):qTxt a.c.q=plE a:=by rw[xA];unfold mz;rw[if_pos h]
theorem yh{k:Int}(h:a.op=k):mz k a.n a.c.q a.name (txL a.args)=plE a:=by rw[xA,h]
theorem pl_2(h:a.op=2):[69]++itoa (a.n.getD 0 0)=plE a:=by rw[←yh h];rfl
theorem pl_3(h:a.op=3):Zr [71] a.n (txL a.args)=plE a:=by rw[←yh h];rfl
theorem pl_4(h:a.op=4):etaT [101,116,97,40] a.n=plE a:=by rw[←yh h];rfl
theorem pl_5(h:a.op=5):etaT [116,104,101,116,97,40] a.n=plE a:=by rw[←yh h];rfl
theorem pl_6(h:a.op=6):[68,101,108,116,97]=plE a:=by rw[←yh h];rfl
theorem pl_7(h:a.op=7):[106]=plE a:=by rw[←yh h];rfl
theorem pl_8(h:a.op=8):a.name=plE a:=by rw[←yh h];rfl
theorem pl_9(h:a.op=9):Zr [110,101,119,102,111,114,109] a.n (txL a.args)=plE a:=by rw[←yh h];rfl
theorem G5(h:a.op=13):Zr [86] a.n (txL a.args)=plE a:=by rw[←yh h];rfl
theorem Hw(h:a.op=14):Zr [85] a.n (txL a.args)=plE a:=by rw[←yh h];rfl
theorem F7(h:a.op=15):Zr [84] a.n (txL a.args)=plE a:=by rw[←yh h];rfl
theorem Ir(h:a.op=16):Zr [116,119,105,115,116] a.n (txL a.args)=plE a:=by rw[←yh h];rfl
theorem GF(h:a.op=17):Zr [115,101,114,114,101] a.n (txL a.args)=plE a:=by rw[←yh h];rfl
theorem Gg(h:a.op=18):Zr [98,114,97,99,107,101,116] a.n (txL a.args)=plE a:=by rw[←yh h];rfl
theorem Hv(h:a.op=12)(hl:0<a.args.length){t:By}(ht:t=xe (txE (a.args.getD 0 Δ))):(t++[94])++itoa (a.n.getD 0 0)=plE a:=by
 rw[←yh h,ht,←qP hl];rfl
theorem bs_t(h:a.op=10∨a.op=11∨a.op=12∨a.op=1):([40]++wrE a)++[41]=xe (txE a):=by
 unfold xe;rw[vf,if_pos h];rfl
theorem bs_f(h:¬(a.op=10∨a.op=11∨a.op=12∨a.op=1)):wrE a=xe (txE a):=by
 unfold xe;rw[vf,if_neg h];rfl
theorem FJ{nm:By}(h:Gd a)(hn:nm.length≤10)(b:0<a.n.length):(etaT nm a.n).length≤1000000000:=by
 have:=rQ (nm:=nm) b;have:=h.ln;omega
theorem fa_1(h:a.op=10∨a.op=11∨negB a.op a.c.q=true):([40]++wrE a)++[41]=(txE a).f:=by
 unfold Tx.f;rw[vf,nN,if_pos h];rfl
theorem fa_0(b:¬a.op=10)(d:¬a.op=11)(e:negB a.op a.c.q=false):plE a=(txE a).f:=by
 unfold Tx.f;rw[vf,nN,if_neg (by rw[e];simp[b,d])];rfl
theorem A4{p:Rat}:qcmp p (Rat.divInt 1 1)=0↔p=1:=by
 have e:Rat.divInt 1 1=1:=by rfl
 rw[e];unfold qcmp Xr;rw[Uj,Rat.num_eq_zero];constructor
 ·intro h;have b:p=p-1+1:=by rw[Rat.sub_eq_add_neg,Rat.add_assoc,Rat.neg_add_cancel,Rat.add_zero]
  rw[b,h,Rat.zero_add]
 ·intro h;rw[h,Rat.sub_eq_add_neg,Rat.add_neg_cancel]
section
variable {p:List By} {l:List GExpr}
theorem p9(h:a.op=11)(hl:2≤a.args.length):((txL a.args).getD 0 Tx0).neg=negB (a.args.getD 0 Δ).op (a.args.getD 0 Δ).c.q∧((txL a.args).getD 0 Tx0).q=(a.args.getD 0 Δ).c.q∧((txL a.args).getD 1 Tx0).op=(a.args.getD 1 Δ).op:=by
 rw[qP o,qP o,nN,tx_q,vf];exact⟨rfl,rfl,rfl⟩
theorem CN(h:a.op=11)(hl:2≤a.args.length):negB (a.args.getD 0 Δ).op (a.args.getD 0 Δ).c.q=miE a:=by
 rw[(BG h).2,(p9 h hl).1]
theorem sg_p(h:a.op=11)(hl:2≤a.args.length)(hn:negB (a.args.getD 0 Δ).op (a.args.getD 0 Δ).c.q=false):sgE a=join ([]++facT (txL a.args)) [42]:=by
 rw[(BG h).1];unfold sN;rw[(p9 h hl).1,hn,if_neg d];rfl
theorem uT:(txL a.args).drop 1=txL (a.args.drop 1):=by rw[oq,oq,List.map_drop]
theorem wo(h:a.op=11)(hl:2≤a.args.length)(hn:negB (a.args.getD 0 Δ).op (a.args.getD 0 Δ).c.q=true)(hc:¬(-(a.args.getD 0 Δ).c.q=1)∨(a.args.getD 1 Δ).op=1):
  sgE a=join ([qTxt (-(a.args.getD 0 Δ).c.q)]++facT (txL (a.args.drop 1))) [42]:=by
 rw[(BG h).1];unfold sN;rw[(p9 h hl).1,(p9 h hl).2.1,(p9 h hl).2.2,hn,if_pos r,if_pos hc,uT]
theorem Dx(h:a.op=11)(hl:2≤a.args.length)(hn:negB (a.args.getD 0 Δ).op (a.args.getD 0 Δ).c.q=true)(hc: -(a.args.getD 0 Δ).c.q=1)(b:¬(a.args.getD 1 Δ).op=1):
  sgE a=join ([]++facT (txL (a.args.drop 1))) [42]:=by
 rw[(BG h).1];unfold sN;rw[(p9 h hl).1,(p9 h hl).2.1,(p9 h hl).2.2,hn,if_pos r,if_neg (fun h=>h.elim (fun k=>k hc) b),uT]
theorem Dq(hQ:sgE a=join (p++facT (txL (l.drop i))) [42])(hi:i<l.length){x:By}(hx:x=(txE (l.getD i Δ)).f):sgE a=join ((p++[x])++facT (txL (l.drop (i+1)))) [42]:=by
 rw[hQ,Zv hi,txL,facT,TU,←hx,Tm];rfl
theorem FD(hQ:sgE a=join (p++facT (txL (l.drop i))) [42])(hi:l.length≤i):sgE a=join p [42]:=by
 rw[hQ,TI hi,txL,facT,List.map_nil,TT]
theorem vj{P:GExpr→Prop}(h:∀i,i<a.args.length→P (a.args.getD i Δ)):∀i,i<(a.args.drop 1).length→P ((a.args.drop 1).getD i Δ):=by
 intro i hi;rw[Tn] at hi
 have:=h (i+1) o
 rwa [Tq,UB,Nat.add_comm 1 i,←Tq]
end
def sumX(i:Nat)(l:List GExpr):By:=if i=0 then sumT (txL l) else sumR (txL l)
section
variable {l:List GExpr} {out:By}
theorem Lu(h:a.op=10):[]++sumX 0 (a.args.drop 0)=wrE a:=by rw[mK h,Uv];rfl
theorem su_w(h:¬a.op=10):[]++sumX 0 ([a].drop 0)=wrE a:=by
 rw[pA h,Uv];unfold sumX;rw[if_pos r,txL,txL,sumT,sumR,TT,TJ];rfl
theorem PF(hM:out++sumX i (l.drop i)=wrE a)(hi:i<l.length)(b:((i:Nat):Int)=0)(ho:i=0→out=[])(hm:miE (l.getD i Δ)=true):([45]++sgE (l.getD i Δ))++sumX (i+1) (l.drop (i+1))=wrE a:=by
 obtain rfl:i=0:=o
 rw[←hM,ho rfl];unfold sumX;rw[if_pos r,if_neg o,Zv hi,txL,sumT];unfold miE at hm;rw[hm,if_pos rfl];simp only[TJ,Tm];rfl
theorem O6(hM:out++sumX i (l.drop i)=wrE a)(hi:i<l.length)(b:((i:Nat):Int)=0)(hm:miE (l.getD i Δ)=false):(out++sgE (l.getD i Δ))++sumX (i+1) (l.drop (i+1))=wrE a:=by
 obtain rfl:i=0:=o
 rw[←hM];unfold sumX;rw[if_pos r,if_neg o,Zv hi,txL,sumT];unfold miE at hm;rw[hm,if_neg d];simp only[TJ,Tm];rfl
theorem OM(hM:out++sumX i (l.drop i)=wrE a)(hi:i<l.length)(b:¬((i:Nat):Int)=0)(hm:miE (l.getD i Δ)=true):((out++[32,45,32])++sgE (l.getD i Δ))++sumX (i+1) (l.drop (i+1))=wrE a:=by
 rw[←hM];unfold sumX;rw[if_neg (show ¬i=0 by omega),if_neg o,Zv hi,txL,sumR];unfold miE at hm;rw[hm,if_pos rfl];simp only[Tm];rfl
theorem Pc(hM:out++sumX i (l.drop i)=wrE a)(hi:i<l.length)(b:¬((i:Nat):Int)=0)(hm:miE (l.getD i Δ)=false):((out++[32,43,32])++sgE (l.getD i Δ))++sumX (i+1) (l.drop (i+1))=wrE a:=by
 rw[←hM];unfold sumX;rw[if_neg (show ¬i=0 by omega),if_neg o,Zv hi,txL,sumR];unfold miE at hm;rw[hm,if_neg d];simp only[Tm];rfl
theorem JX(hM:out++sumX i (l.drop i)=wrE a)(hi:l.length≤i):out=wrE a:=by
 rw[←hM,TI hi];unfold sumX;rw[txL];split<;>simp[sumT,sumR]
end
end
def prE(a:GExpr):By×Int:=if Jn a=0 then(if 4000<(wrE a).length then([],7) else(wrE a,0)) else([],Jn a)
theorem Ma{a:GExpr}(h:¬Jn a=0):([],Jn a)=prE a:=by unfold prE;rw[if_neg h]
theorem Mq{a:GExpr}(h:Jn a=0)(b:(4000:Int)<(((wrE a).length:Nat):Int)):([],7)=prE a:=by unfold prE;rw[if_pos h,if_pos o]
theorem Lh{a:GExpr}(h:Jn a=0)(b:¬(4000:Int)<(((wrE a).length:Nat):Int)):(wrE a,0)=prE a:=by unfold prE;rw[if_pos h,if_neg o]
theorem LV(o:Int): -1000000≤lA o:=by unfold lA;(repeat' split)<;>omega
theorem KN(o:Int):lB o≤1000000:=by unfold lB;(repeat' split)<;>omega
theorem Ph{o:Int}(h:1≤o)(b:o≤18):cB o≤65:=by unfold cB;(repeat' split)<;>omega
theorem DS:∀ {l:List Int},(∀i,i<l.length→ -1000000≤l.getD i 0∧l.getD i 0≤1000000)→lnI l≤12*l.length
 |[],_=>Tu _
 |x::l,h=>by
  have b:=h 0 χ;simp only[TK] at b;have d:=yF x 7 (by have:(10:Nat)^(7+1)=100000000:=δ;omega)
  have e:=DS (l:=l) fun i hi=>by
   have:=h (i+1) ς
   simpa only[List.getD_cons_succ] using this
  rw[lnI,Td];omega
theorem M3{a:GExpr}(h:okE a)(hs:Jr a.c.num.mag∧Jr a.c.den.mag):lnQ a.c.q≤30100:=by
 rw[Qo] at h;have d:=Xp hs.1;have e:=Xs hs.2;have e1:(ofZ (a.c.q).num).mag=(ofQ a.c.q).num.mag:=rfl;have e2:(ofZ (-(a.c.q).num)).mag=(ofQ (-a.c.q)).num.mag:=by rw[←(wD a.c.q).1];rfl
 have b:(ofZ ((a.c.q).den:Int)).mag=(ofQ a.c.q).den.mag:=rfl;have i1:=mQ (a.c.q).num;have i2:=mQ (-(a.c.q).num);have i3:=mQ ((a.c.q).den:Int);rw[e1] at i1;rw[e2,Vw] at i2;rw[b] at i3;unfold lnQ;omega
theorem sm_s{a:GExpr}(h:smE a):Jr a.c.num.mag∧Jr a.c.den.mag:=by
 obtain⟨_,_,_,hr⟩:=h;obtain⟨_,_,_,_,_,_,_,_,_,h'⟩:=SR hr;exact⟨h'.num.u32_small,h'.den.u32_small⟩
theorem uk:∀ {l:List GExpr},(∀i,i<l.length→lnE (l.getD i Δ)+8≤40000*cntE (l.getD i Δ))→lnL l≤40000*cntL l
 |[],_=>Tu _
 |a::l,h=>by
  have b:=h 0 χ;simp only[TK] at b;have d:=uk (l:=l) fun i hi=>by
   have:=h (i+1) ς
   simpa only[List.getD_cons_succ] using this
  rw[lnL,cntL,TH];omega
theorem Gt:∀a:GExpr,errE a=0→okE a→smE a→lnE a+8≤40000*cntE a:=Vo fun a ih=>by
 intro he ho hs;obtain⟨b,d⟩:=Q1 he;obtain⟨hc,_,hr⟩:=zz b;have hl:=uk (l:=a.args) fun i hi=>ih i hi (mX d hi) (xL ho hi) (E3 hs hi);have hq:=M3 ho (sm_s hs);have hn:=DS (l:=a.n) fun i hi=>⟨Int.le_trans (LV _) (hr i hi).1,Int.le_trans (hr i hi).2 (KN _)⟩;have hb:=Ph hc.o1 hc.o2;have e:=hc.n2;have hnm:a.name.length≤1000:=by rw[Qo] at ho;exact ho.2.2.1
 rw[x5,Z7,TH];omega
theorem rG{a:GExpr}(h:Jn a=0)(ho:okE a)(hs:smE a):Gd a:=by
 unfold Jn at h;split at h
 ·rename_i hc;refine⟨h,ho,?_,hs⟩
  have:=Gt a h ho hs
  omega
 ·simp at h
def db(u:By):By:=u.dropWhile fun c=>decide (c.toNat=32)
def Yt(s:By)(p:Nat)(t:By):Prop:=s.drop (spM s p)=t
def hd0(t:By):Nat:=(t.getD 0 0).toNat
theorem Bm{α:Type}(f:α→Bool):∀l:List α,l.dropWhile f=l.drop (l.takeWhile f).length
 |[]=>rfl
 |a::l=>by
  rw[List.dropWhile_cons,List.takeWhile_cons];split
  ·rw[Td,List.drop_succ_cons,Bm f l]
  ·rfl
section
variable {s t u v w:By} {p q c:Nat}
theorem Yt.of(h:s.drop q=u):Yt s q (db u):=by
 unfold Yt db spM;rw[Bm,←h,List.drop_drop]
theorem Yt.le(h:Yt s p t):t.length≤s.length:=by unfold Yt at h;rw[←h,Tn];omega
theorem Yt.hd(h:Yt s p t):hdM s p=hd0 t:=by
 unfold Yt at h;unfold hdM hd0;rw[←h,Tq,Tq,UB,U5]
theorem Yt.sp(h:Yt s p t):Yt s (spM s p) t:=by unfold Yt at *;rw[we];exact h
theorem Yt.lt(h:Yt s p (b::t)):spM s p<s.length:=by
 unfold Yt at h;rcases TN (spM s p) s.length with a|a
 ·exact a
 ·rw[TI a] at h;cases h
theorem Yt.fol(h:Yt s p t)(hc:0<c):folB s p c=decide (hd0 t=c):=by
 cases t with
 |nil=>
  have a:s.length≤spM s p:=by
   unfold Yt at h;exact List.drop_eq_nil_iff.1 h
  rw[Dg (fun k=>by omega),decide_eq_false];show ¬(0:Nat)=c;omega
 |cons b t=>
  have a:=h.lt;have d:=h.hd;by_cases hb:hd0 (b::t)=c
  ·rw[Mr a (by rw[d];exact hb),decide_eq_true hb]
  ·rw[Dg (fun k=>hb (by rw[←d];exact k.2)),decide_eq_false hb]
theorem Yt.nx(h:Yt s p (b::t)):s.drop (spM s p+1)=t:=by
 unfold Yt at h;rw[←List.drop_drop,h];rfl
theorem Yt.next(h:Yt s p (b::t)):Yt s (spM s p+1) (db t):=Yt.of h.nx
theorem Yt.mv(h:Yt s p (u++t)):s.drop (spM s p+u.length)=t:=by
 unfold Yt at h;rw[←List.drop_drop,h,List.drop_left]
theorem Kr(h:hd0 t≠32):db t=t:=by
 cases t with
 |nil=>rfl
 |cons b t=>unfold db;rw[List.dropWhile_cons,if_neg (by rw[decide_eq_true_eq];exact h)]
theorem vU:db (32::t)=db t:=by unfold db;rw[List.dropWhile_cons,if_pos d]
def Rds{α:Type}(s:By)(x:Rr α)(a:α)(t:By):Prop:=∃q,x= .ok a q∧Yt s q t
theorem Rds.th{α β:Type}{x:Rr α}{f:α→Nat→Rr β}{a:α}{b:β}{t t':By}(h:Rds s x a t)(hf:∀q,Yt s q t→Rds s (f a q) b t'):Rds s (x.th f) b t':=by
 obtain⟨q,rfl,hq⟩:=h;exact hf q hq
theorem Rds.ok{α:Type}{a:α}(h:Yt s p t):Rds s (.ok a p) a t:=⟨p,rfl,h⟩
theorem ng(h:Yt s p (b::t))(hc:b.toNat=c)(a:0<c):Rds s (tkM s p c) () (db t):=by
 unfold tkM;rw[h.fol a,decide_eq_true (show hd0 (b::t)=c from hc),if_pos rfl];exact Rds.ok h.next
theorem n6{o:Nat}(h:Yt s p (40::t))(ho:o<64):Rds s (opnM s o p) () (db t):=by
 unfold opnM;rw[h.fol d,decide_eq_true (show hd0 (40::t)=40 from rfl),if_pos r,if_neg ω];exact Rds.ok h.next
theorem Fi{f:UInt8→Bool}(hu:∀c∈u,f c=true)(ht:∀b r,t=b::r→f b=false):(u++t).takeWhile f=u:=by
 induction u with
 |nil=>
  cases t with
  |nil=>rfl
  |cons b r=>rw[TJ,List.takeWhile_cons,if_neg (by rw[ht b r rfl];decide)]
 |cons a u ih=>
  rw[Un,List.takeWhile_cons,if_pos (hu a χ),ih fun c hc=>hu c (by simp[hc])]
def nok(f:UInt8→Bool)(t:By):Prop:=∀b r,t=b::r→f b=false
theorem qM(h:Yt s p (u++t))(a:u≠[])(hu:∀c∈u,digB c=true)(ht:nok digB t):Rds s (dgsM s p) u (db t):=by
 have e:digL s (spM s p)=u:=by
  unfold digL;have h:=h;unfold Yt at h;rw[h,Fi hu ht]
 unfold dgsM;rw[e,if_neg a];exact Rds.ok (Yt.of h.mv)
theorem N3(h:Yt s p (u++t))(hu:∀c∈u,okB c=true)(ht:nok okB t):Zt s (spM s p)=u:=by
 unfold Zt;have h:=h;unfold Yt at h;rw[h,Fi hu ht]
theorem wP:∀(k n:Nat),n<10^(k+1)→∀c∈decDigits n,digB c=true
 |0,n,h,c,hc=>by
  have h:n<10:=by simpa using h
  rw[decDigits_one h,List.mem_singleton] at hc;subst hc;exact a h
 |k+1,n,h,c,hc=>by
  rw[TF] at h;rw[decDigits] at hc;split at hc
  ·rename_i b;rw[List.mem_singleton] at hc;subst hc;exact a b
  ·rw[List.mem_append,List.mem_singleton] at hc;rcases hc with hc|rfl
   ·exact wP k (n/10) o c hc
   ·exact a (Tp _ d)
where
 a {n:Nat} (h:n<10):digB (UInt8.ofNat (48+n))=true:=by
  have e:(UInt8.ofNat (48+n)).toNat=48+n:=UInt8.toNat_ofNat_of_lt' W6;unfold digB Ko;rw[e];exact decide_eq_true o
theorem DW(n:Nat):n<10^(n+1):=by
 induction n with
 |zero=>decide
 |succ n ih=>rw[TF];omega
theorem xy{n:Nat}:∀c∈decDigits n,digB c=true:=wP n n (DW n)
theorem rM(n:Nat):decDigits n≠[]:=by
 rw[decDigits];split<;>simp
theorem Lb(u:By)(c:UInt8):Jm (u++[c])=Jm u*10+(c.toNat-48):=by unfold Jm;rw[List.foldl_append];rfl
theorem yA:∀(k n:Nat),n<10^(k+1)→Jm (decDigits n)=n
 |0,n,h=>by
  have h:n<10:=by simpa using h
  rw[decDigits_one h];show 0*10+((UInt8.ofNat (48+n)).toNat-48)=n;rw[UInt8.toNat_ofNat_of_lt' W6];omega
 |k+1,n,h=>by
  rw[TF] at h;rw[decDigits];split
  ·rename_i a;show 0*10+((UInt8.ofNat (48+n)).toNat-48)=n;rw[UInt8.toNat_ofNat_of_lt' W6];omega
  ·rw[Lb,yA k (n/10) o,UInt8.toNat_ofNat_of_lt' (by show 48+n%10<256;omega)];omega
theorem nH(n:Nat):Jm (decDigits n)=n:=yA n n (DW n)
theorem JQ{c:UInt8}(h:digB c=true):48≤c.toNat∧c.toNat≤57:=of_decide_eq_true h
theorem wi(n:Nat):∃c r,decDigits n=c::r∧48≤c.toNat∧c.toNat≤57:=by
 cases h:decDigits n with
 |nil=>exact absurd h (rM n)
 |cons c r=>exact⟨c,r,rfl,JQ (xy c (by rw[h];simp))⟩
theorem nA{n:Int}(h:Yt s p (itoa n++t))(ht:nok digB t)(i: -1000000≤n)(j:n≤1000000):Rds s (intM s p) n (db t):=by
 unfold intM;by_cases hn:n<0
 ·have e:itoa n=45::decDigits n.natAbs:=by unfold itoa;rw[if_pos hn]
  rw[e,Un] at h;have hf:folB s p 45=true:=by rw[h.fol δ];rfl
  have e2:fpM s p 45=spM s p+1:=by unfold fpM;rw[if_pos hf]
  obtain⟨c,r,ec,a,b⟩:=wi n.natAbs;have g:Yt s (fpM s p 45) (decDigits n.natAbs++t):=by
   have d:=h.next;rw[Kr (by rw[ec];show c.toNat≠32;omega)] at d;rw[e2];exact d
  refine(qM g (rM _) xy ht).th fun q hq=>?_
  rw[nH,if_neg o,hf,if_pos rfl]
  have: -((n.natAbs:Nat):Int)=n:=o
  rw[this];exact Rds.ok hq
 ·have e:itoa n=decDigits n.toNat:=by unfold itoa;rw[if_neg hn]
  rw[e] at h;obtain⟨c,r,ec,a,b⟩:=wi n.toNat;have hf:folB s p 45=false:=by
   rw[h.fol δ,ec];exact decide_eq_false (by show ¬c.toNat=45;omega)
  have e2:fpM s p 45=spM s p:=by unfold fpM;rw[if_neg WH]
  rw[e2]
  refine(qM h.sp (rM _) xy ht).th fun q hq=>?_
  rw[nH,if_neg o,hf,if_neg δ]
  have:((n.toNat:Nat):Int)=n:=o
  rw[this];exact Rds.ok hq
def vb:List Int→By
 |[]=>[]
 |n::l=>[44,32]++itoa n++vb l
theorem mY{f:UInt8→Bool}(h:f b=false):nok f (b::t):=fun _ _ e=>by cases e;exact h
theorem rz(n:Int):∃c r,itoa n=c::r∧c.toNat≠32:=by
 unfold itoa;split
 ·exact⟨45,_,rfl,d⟩
 ·obtain⟨c,r,e,_,_⟩:=wi n.toNat;exact⟨c,r,e,o⟩
theorem tU{l:List Int}(hb:digB b=false):nok digB (vb l++b::t):=by
 cases l with
 |nil=>exact mY hb
 |cons n l=>exact mY d
theorem tH{b:UInt8}(hb:digB b=false)(a:b.toNat≠44)(d:b.toNat≠32)(e:0<b.toNat):∀(l acc:List Int) (k p:Nat),l.length<k→Yt s p (vb l++b::t)→(∀n∈l,-1000000≤n∧n≤1000000)→Rds s (Vj s b.toNat k acc p) (acc++l) (db t)
 |l,acc,0,p,hk,_,_=>absurd hk (TC _)
 |[],acc,k+1,p,_,h,_=>by
  unfold Vj;rw[h.fol δ,decide_eq_false (show ¬hd0 (vb []++b::t)=44 from a),if_neg δ,TT]
  exact(ng h r e).th fun q hq=>Rds.ok hq
 |n::l,acc,k+1,p,hk,h,hr=>by
  unfold Vj;have h':Yt s p (44::32::(itoa n++(vb l++b::t))):=by simpa[vb] using h
  rw[h'.fol δ,decide_eq_true (show hd0 (44::_)=44 from rfl),if_pos rfl];obtain⟨_,_,ec,hc⟩:=rz n;have g:=h'.next;rw[vU,Kr Wz] at g
  refine(nA g (tU hb) (hr n χ).1 (hr n χ).2).th fun q hq=>?_
  rw[Kr (by cases l with
   |nil=>exact d
   |cons m l=>show(44:UInt8).toNat≠32;decide)] at hq
  have:=tH hb a d e l (acc++[n]) k q WT hq fun m hm=>hr m (by simp[hm])
  rwa [Tm] at this
end
end Go.Wf
