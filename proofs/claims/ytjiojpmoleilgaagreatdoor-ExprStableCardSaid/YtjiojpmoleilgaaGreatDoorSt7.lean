/- Part 7. -/
import Derived.Test.YtjiojpmoleilgaaGreatDoorSt6
set_option linter.unusedVariables false
set_option linter.unusedSimpArgs false
set_option maxRecDepth 100000
set_option maxHeartbeats 4000000
noncomputable section
namespace Go.Wf
open Go Go.Proofs Go.RowKit
variable{X:Nat→Prop}{a:GExpr}{v0:Value}{w:World}
set_option maxHeartbeats 8000000 in
theorem Dc(hX:XB X w)(r0:RV Jc X w v0 a)(hT:T10 X w)(hg:Gd a)(hW:∀i,i<a.args.length→WrA (Ar a i))(cH:¬a.op=10)(cI:¬a.op=11):CRt 107 #[v0] w fun v _=>v=(str (plE a)):=by
 obtain⟨a1,K,a3,c4,a5,c6,a7,c8,rfl,b⟩:=SR r0;have C:=PV hX;have cF:=hg.m1;have cG:=hg.m2;have hil:=hg.il;have hal:=hg.al;refine Cgo Tryz.func107 r r r (Rg<|Ol<|QA C r ?_);intro g _ _ _ _ e aQ d;have b:=b.sp aQ;have hT:=hT.sp aQ;refine Ua<|Rg<|Ol<|R9 (cs:=[(P10 g 0)]) rfl<|Ua<|Rh<|Ol<|PJ Jw rfl<|Ol<|PO d pl3 r rfl<|Nl<|W.block<|Rg<|Ol<|PW r r (fun am=>?_)<|fun am=>?_
 ·refine Oa (Nl<|Uf<|Ol<|PJ Yv rfl<|Ol<|Uo (vs:=(qqC a.c a3 c4 a5 c6)) d ag28<|Ol<|PK e DK r r (vF e.bd (a:=a.c) (Jz b.num b.den) o o) ?_);intro _ _ b9 _ ca;subst ca;exact Ua<|PS<|Wq r r b9<|congrArg (str)<|(pl_1 am)
 refine Ua<|Ug<|Ol<|PW r r (fun an=>?_)<|fun an=>?_
 ·refine Oa (Nl<|Ud<|PT ?_);have hpn:0<a.n.length:=hg.n o;have hrn:=r0.n_rng hpn;refine PN (Ol<|PJ Zi rfl<|Ol<|PO d pl23 r rfl<|Ol<|P4 (j:=0) (u:=(a.n.getD 0 0)) b.n sl23 io3 r r r (Je o) ?_);intro _ _ aX aR;obtain⟨rfl,_⟩:aX=_∧_:=aR.rd;refine Ol (P0 pl3 r (aR.cell 0 _ r)<|Ol<|PK e ww r r (rh e.bd hT hrn.1 hrn.2) ?_);intro _ _ cb _ cc;subst cc;exact Ol<|QG r r (by have:=Lib.itoa_length_le _ hrn.1 hrn.2;simp only[Tc,Td,Te];omega)<|Ua<|PS<|Wq r r cb<|congrArg (str)<|(pl_2 an)
 refine Ua<|Ug<|Ol<|PW r r (fun ao=>?_)<|fun ao=>?_
 ·refine Oa (Nl<|Uf<|Ub<|Rs (vs:=[(str [71]),(P10 g 0)]) (cap:=[(P10 g 0)]) e qT r r (xu e.bd (a:=a) d.blk (Ju a b.lo b.hi b.name b.n b.num b.den b.args) hT hg δ hW) ?_);intro _ _ cd _ ce;subst ce;exact Ua<|PS<|Wq r r cd<|congrArg (str)<|(pl_3 ao)
 refine Ua<|Ug<|Ol<|PW r r (fun aq=>?_)<|fun aq=>?_
 ·refine Oa (Nl<|Ud<|PT ?_);have hpn:0<a.n.length:=hg.n o;have hrn:=r0.n_rng hpn;have hel:=FJ (nm:=[101,116,97,40]) hg δ hpn;unfold etaT at hel;simp only[Tc,Td,Te] at hel;refine QL mixed 11 [[],[0],[1],[2],[3],[4],[5],[],[7],[8],[9]] e [fx<|.pointer (some ⟨g,1,none⟩),fx<|.slice a1 a.n.length K,fE Zg<|a.n.getD 0 0,fx<|.int .i64 (a.n.getD 0 0),fx<|str<|Lib.itoa<|a.n.getD 0 0,fx<|str<|[101,116,97,40]++(Lib.itoa<|a.n.getD 0 0),fx<|str<|([101,116,97,40]++(Lib.itoa<|a.n.getD 0 0))++[41,91],fx<|.pointer (some ⟨g,1,none⟩),fx<|.slice a1 a.n.length K,fs Zg<|a.n.drop 1,fx<|str<|zp<|a.n.drop 1] κ ⟨sx,sx,sE,sx,sx,sx,sx,sx,sx,ss,sx,trivial⟩ fun cf z _ ⟨p,ar⟩ s=>?_
  have b:=b.sp ar;have hT:=hT.sp ar;have d:=d.spn ar;have s:Keep [28,29,30,31,32,33,34,35,36,37,38] _ cf:=s;refine⟨⟨fun _=>?_,fun⟨cg,_⟩=>?_,fun⟨ch,_⟩=>?_,fun⟨ci,_⟩=>?_,fun⟨cj,_⟩=>?_,fun⟨ck,_⟩=>?_,fun⟨cm,_⟩=>?_,fun _=>?_,fun⟨cn,_⟩=>?_,fun⟨co,_⟩=>?_,fun⟨au,_⟩=>?_,trivial⟩,fun⟨cp,cq,cr,ct,cu,cv,cw,cx,cy,aS,cz,_⟩=>?_⟩
  ·exact Sd0 s fun _=>PJ Zi r ⟨z,PQ p,rfl⟩
  ·exact Sd1 s cg fun _=>PO d pl23 r r ⟨z,PQ p,rfl⟩
  ·refine Sd1 s ch fun _=>P4 (j:=0) (u:=(a.n.getD 0 0)) b.n sl23 io3 r r r (Je o) ?_;intro _ _ aY aT;obtain⟨rfl,_⟩:aY=_∧_:=aT.rd;exact⟨z,PQ p,⟨_,_,_,rfl,aT⟩⟩
  ·obtain⟨_,_,aZ,cE,aU⟩:=ci;obtain⟨rfl,_⟩:aZ=_∧_:=aU.rd;exact Sd1 s cE fun _=>P0 pl3 r (aU.cell 0 _ r) ⟨z,PQ p,rfl⟩
  ·refine Sd1 s cj fun _=>PK p ww r r (rh p.bd hT hrn.1 hrn.2) ?_;intro _ _ a0 a4 a6;exact⟨z,⟨a0,a4⟩,a6⟩
  ·exact Sd1 s ck fun _=>QG r r η ⟨z,PQ p,rfl⟩
  ·exact Sd1 s cm fun _=>QG r r ζ ⟨z,PQ p,rfl⟩
  ·exact Sd0 s fun _=>PJ Zi r ⟨z,PQ p,rfl⟩
  ·exact Sd1 s cn fun _=>PO d pl23 r r ⟨z,PQ p,rfl⟩
  ·refine Sd1 s co fun _=>R2 (i:=1) b.n sl23 io3 r r r hpn ?_;intro _ a8;exact⟨z,PQ p,a8⟩
  ·obtain⟨_,_,a9,au⟩:=RS.opn au;refine Sd1 s a9 fun _=>PK p Gn r r (xI p.bd au hT<|Tj (tZ _) hil) ?_;intro _ _ ba bb bc;exact⟨z,⟨ba,bb⟩,bc⟩
  obtain⟨_,_,aJ,be,bf⟩:=cr;obtain⟨rfl,_⟩:aJ=_∧_:=bf.rd;obtain⟨_,_,bg,aS⟩:=RS.opn aS;obtain⟨_,rfl⟩:=mixK s (aC cp<|aC cq<|aC be<|aC ct<|aC cu<|aC cv<|aC cw<|aC cx<|aC cy<|aC bg<|aC cz aN);exact Ol<|QG r r ζ<|Ol<|QG r r ζ<|Ua<|PS<|Wq r r p<|congrArg (str)<|(pl_4 aq)
 refine Ua<|Ug<|Ol<|PW r r (fun Z=>?_)<|fun Z=>?_
 ·refine Oa (Nl<|Ud<|PT ?_);have hpn:0<a.n.length:=hg.n o;have hrn:=r0.n_rng hpn;have hel:=FJ (nm:=[116,104,101,116,97,40]) hg δ hpn;unfold etaT at hel;simp only[Tc,Td,Te] at hel;refine QL mixed 11 [[],[0],[1],[2],[3],[4],[5],[],[7],[8],[9]] e [fx<|.pointer (some ⟨g,1,none⟩),fx<|.slice a1 a.n.length K,fE Zg<|a.n.getD 0 0,fx<|.int .i64 (a.n.getD 0 0),fx<|str<|Lib.itoa<|a.n.getD 0 0,fx<|str<|[116,104,101,116,97,40]++(Lib.itoa<|a.n.getD 0 0),fx<|str<|([116,104,101,116,97,40]++(Lib.itoa<|a.n.getD 0 0))++[41,91],fx<|.pointer (some ⟨g,1,none⟩),fx<|.slice a1 a.n.length K,fs Zg<|a.n.drop 1,fx<|str<|zp<|a.n.drop 1] κ ⟨sx,sx,sE,sx,sx,sx,sx,sx,sx,ss,sx,trivial⟩ fun bh m _ ⟨h,L⟩ l=>?_
  have b:=b.sp L;have hT:=hT.sp L;have d:=d.spn L;have l:Keep [43,44,45,46,47,48,49,50,51,52,53] _ bh:=l;refine⟨⟨fun _=>?_,fun⟨bi,_⟩=>?_,fun⟨bj,_⟩=>?_,fun⟨bk,_⟩=>?_,fun⟨bl,_⟩=>?_,fun⟨bm,_⟩=>?_,fun⟨bn,_⟩=>?_,fun _=>?_,fun⟨bo,_⟩=>?_,fun⟨bp,_⟩=>?_,fun⟨M,_⟩=>?_,trivial⟩,fun⟨bq,br,bs,bt,bu,bv,bw,bx,bz,av,bA,_⟩=>?_⟩
  ·exact Sd0 l fun _=>PJ Zi r ⟨m,PQ h,rfl⟩
  ·exact Sd1 l bi fun _=>PO d pl23 r r ⟨m,PQ h,rfl⟩
  ·refine Sd1 l bj fun _=>P4 (j:=0) (u:=(a.n.getD 0 0)) b.n sl23 io3 r r r (Je o) ?_;intro _ _ aK aw;obtain⟨rfl,_⟩:aK=_∧_:=aw.rd;exact⟨m,PQ h,⟨_,_,_,rfl,aw⟩⟩
  ·obtain⟨_,_,aL,bB,ax⟩:=bk;obtain⟨rfl,_⟩:aL=_∧_:=ax.rd;exact Sd1 l bB fun _=>P0 pl3 r (ax.cell 0 _ r) ⟨m,PQ h,rfl⟩
  ·refine Sd1 l bl fun _=>PK h ww r r (rh h.bd hT hrn.1 hrn.2) ?_;intro _ _ bC bD bE;exact⟨m,⟨bC,bD⟩,bE⟩
  ·exact Sd1 l bm fun _=>QG r r ζ ⟨m,PQ h,rfl⟩
  ·exact Sd1 l bn fun _=>QG r r ζ ⟨m,PQ h,rfl⟩
  ·exact Sd0 l fun _=>PJ Zi r ⟨m,PQ h,rfl⟩
  ·exact Sd1 l bo fun _=>PO d pl23 r r ⟨m,PQ h,rfl⟩
  ·refine Sd1 l bp fun _=>R2 (i:=1) b.n sl23 io3 r r r hpn ?_;intro _ bF;exact⟨m,PQ h,bF⟩
  ·obtain⟨_,_,bG,M⟩:=RS.opn M;refine Sd1 l bG fun _=>PK h Gn r r (xI h.bd M hT<|Tj (tZ _) hil) ?_;intro _ _ bH bI bJ;exact⟨m,⟨bH,bI⟩,bJ⟩
  obtain⟨_,_,aM,bK,bL⟩:=bs;obtain⟨rfl,_⟩:aM=_∧_:=bL.rd;obtain⟨_,_,bM,av⟩:=RS.opn av;obtain⟨_,rfl⟩:=mixK l (aC bq<|aC br<|aC bK<|aC bt<|aC bu<|aC bv<|aC bw<|aC bx<|aC bz<|aC bM<|aC bA aN);exact Ol<|QG r r ζ<|Ol<|QG r r ζ<|Ua<|PS<|Wq r r h<|congrArg (str)<|(pl_5 Z)
 refine Ua<|Ug<|Ol<|PW r r (fun aa=>?_)<|fun aa=>?_
 ·exact Ua<|Uf<|Ua<|PS<|Wq r r e<|congrArg (str)<|(pl_6 aa)
 refine Ua<|Ug<|Ol<|PW r r (fun ab=>?_)<|fun ab=>?_
 ·exact Ua<|Uf<|Ua<|PS<|Wq r r e<|congrArg (str)<|(pl_7 ab)
 refine Ua<|Ug<|Ol<|PW r r (fun ac=>?_)<|fun ac=>?_
 ·exact Ua<|Uf<|Ol<|PJ X5 rfl<|Ol<|PO d pl9 r rfl<|Ua<|PS<|Wq r r e<|congrArg (str)<|(pl_8 ac)
 refine Ua<|Ug<|Ol<|PW r r (fun ad=>?_)<|fun ad=>?_
 ·refine Oa (Nl<|Uf<|Ub<|Rs (vs:=[(str [110,101,119,102,111,114,109]),(P10 g 0)]) (cap:=[(P10 g 0)]) e qT r r (xu e.bd (a:=a) d.blk (Ju a b.lo b.hi b.name b.n b.num b.den b.args) hT hg δ hW) ?_);intro _ _ bN _ bO;subst bO;exact Ua<|PS<|Wq r r bN<|congrArg (str)<|(pl_9 ad)
 refine Ua<|Ug<|Ol<|PW r r (fun ae=>?_)<|fun ae=>?_
 ·refine Oa (Nl<|Uf<|Ub<|Rs (vs:=[(str [86]),(P10 g 0)]) (cap:=[(P10 g 0)]) e qT r r (xu e.bd (a:=a) d.blk (Ju a b.lo b.hi b.name b.n b.num b.den b.args) hT hg δ hW) ?_);intro _ _ bP _ bQ;subst bQ;exact Ua<|PS<|Wq r r bP<|congrArg (str)<|(G5 ae)
 refine Ua<|Ug<|Ol<|PW r r (fun af=>?_)<|fun af=>?_
 ·refine Oa (Nl<|Uf<|Ub<|Rs (vs:=[(str [85]),(P10 g 0)]) (cap:=[(P10 g 0)]) e qT r r (xu e.bd (a:=a) d.blk (Ju a b.lo b.hi b.name b.n b.num b.den b.args) hT hg δ hW) ?_);intro _ _ bR _ bS;subst bS;exact Ua<|PS<|Wq r r bR<|congrArg (str)<|(Hw af)
 refine Ua<|Ug<|Ol<|PW r r (fun ag=>?_)<|fun ag=>?_
 ·refine Oa (Nl<|Uf<|Ub<|Rs (vs:=[(str [84]),(P10 g 0)]) (cap:=[(P10 g 0)]) e qT r r (xu e.bd (a:=a) d.blk (Ju a b.lo b.hi b.name b.n b.num b.den b.args) hT hg δ hW) ?_);intro _ _ bT _ bU;subst bU;exact Ua<|PS<|Wq r r bT<|congrArg (str)<|(F7 ag)
 refine Ua<|Ug<|Ol<|PW r r (fun ah=>?_)<|fun ah=>?_
 ·refine Oa (Nl<|Uf<|Ub<|Rs (vs:=[(str [116,119,105,115,116]),(P10 g 0)]) (cap:=[(P10 g 0)]) e qT r r (xu e.bd (a:=a) d.blk (Ju a b.lo b.hi b.name b.n b.num b.den b.args) hT hg δ hW) ?_);intro _ _ bV _ bW;subst bW;exact Ua<|PS<|Wq r r bV<|congrArg (str)<|(Ir ah)
 refine Ua<|Ug<|Ol<|PW r r (fun ai=>?_)<|fun ai=>?_
 ·refine Oa (Nl<|Uf<|Ub<|Rs (vs:=[(str [115,101,114,114,101]),(P10 g 0)]) (cap:=[(P10 g 0)]) e qT r r (xu e.bd (a:=a) d.blk (Ju a b.lo b.hi b.name b.n b.num b.den b.args) hT hg δ hW) ?_);intro _ _ bX _ bY;subst bY;exact Ua<|PS<|Wq r r bX<|congrArg (str)<|(GF ai)
 refine Ua<|Ug<|Ol<|PW r r (fun aj=>?_)<|fun aj=>?_
 ·refine Oa (Nl<|Uf<|Ub<|Rs (vs:=[(str [98,114,97,99,107,101,116]),(P10 g 0)]) (cap:=[(P10 g 0)]) e qT r r (xu e.bd (a:=a) d.blk (Ju a b.lo b.hi b.name b.n b.num b.den b.args) hT hg δ hW) ?_);intro _ _ bZ _ b0;subst b0;exact Ua<|PS<|Wq r r bZ<|congrArg (str)<|(Gg aj)
 refine Oa (Nl<|Uc<|PT ?_);have hop:a.op=12:=by have:=hg.parts.1.o1;have:=hg.parts.1.o2;omega
 have hpl:0<a.args.length:=hg.a1 hop;have hpn:0<a.n.length:=hg.n o;have hrn:=r0.n_rng hpn;refine PN (Ol<|PJ J8 rfl<|Ol<|PO d pl29 r rfl<|Ol<|P4 (j:=0) (u:=(Ar a 0)) b.args sl29 io31 r r r (Je o) ?_);intro _ _ _ ay;obtain⟨N,P,Q,R,S,T,U,V,rfl,Y⟩:=Jb ay.rd;refine Ol (QE (cs:=(ec (Ar a 0) N P Q R S T U V)) ag31 r r ay.cell<|Ol<|PU e io31 r ?_);intro _ _ _ _ aO b1 D b2;have b3:=aO _ d.blk.lt;have b:=b.sp D;have d:=d.spn D;refine On (Us (cs':=(ec (Ar a 0) N P Q R S T U V)) b1 b2 io31 ?_);intro _ az E A;have hT:=(hT.sp D).sp E;have Y:=(Y.sp D).sp E;refine Nl (Rg<|Ol<|Uo (vs:=(ec (Ar a 0) N P Q R S T U V)) A ag31<|Ol<|PK az cb39 r r (hW 0 o az.bd (Mx (Ar a 0) Y) hT) ?_);intro _ _ B F b4;have b:=(b.sp E).sp F;have hT:=hT.sp F;have d:=(d.spo E b3).spn F;have A:=A.spn F;subst b4;refine Ua<|PT<|Rm (fun f v=>∃(x y:Nat→Prop) (sb:List UInt8),Cx X w x y v∧f 1=(P10 g 0)∧f 5=(str sb)∧ExprParts x v a a1 K a3 c4 a5 c6 a7 c8∧T10 x v∧Own w y v g (ec a a1 K a3 c4 a5 c6 a7 c8) 31∧sb=xe (txE<|Ar a 0)∧sb.length≤1000000002) ?_ ?_
 ·refine PT ?_;have hwl:=(hg.arg (i:=0) hpl).wl;refine PN<|Ol<|PJ Jw rfl<|Ol<|PO A pl3 r rfl<|Ol<|PW r r (fun G=>?_)<|fun G=>?_
  ·refine Om (Oz<|Oz<|Oz<|OT<|Om<|Oz<|Oz<|Oz<|OT<|Om<|Oz<|Oz<|Oz<|OT<|Nl<|Uk<|Ub<|QG r r (by unfold Ar;(try simp only[Tc,Td,Te]);omega) ?_);refine Ol<|QG r r (by unfold Ar;(try simp only[Tc,Td,Te]);omega)<|Ua<|⟨_,_,(([40]++(wrE<|Ar a 0))++[41]),B,rfl,rfl,b,hT,d,(bs_t<|.inl G),(by unfold Ar;simp only[Tc,Td,Te];omega)⟩
  refine Om<|OgD<|PJ Jw rfl<|OgD<|PO A pl3 r rfl<|OgD<|PW r r (fun H=>?_)<|fun H=>?_
  ·refine OF (Om<|Oz<|Oz<|Oz<|OT<|Om<|Oz<|Oz<|Oz<|OT<|Nl<|Uk<|Ub<|QG r r (by unfold Ar;(try simp only[Tc,Td,Te]);omega) ?_);refine Ol<|QG r r (by unfold Ar;(try simp only[Tc,Td,Te]);omega)<|Ua<|⟨_,_,(([40]++(wrE<|Ar a 0))++[41]),B,rfl,rfl,b,hT,d,(bs_t<|.inr (.inl H)),(by unfold Ar;simp only[Tc,Td,Te];omega)⟩
  refine OF<|Om<|OgD<|PJ Jw rfl<|OgD<|PO A pl3 r rfl<|OgD<|PW r r (fun I=>?_)<|fun I=>?_
  ·refine OF (Om<|Oz<|Oz<|Oz<|OT<|Nl<|Uk<|Ub<|QG r r (by unfold Ar;(try simp only[Tc,Td,Te]);omega)<|Ol<|QG r r (by unfold Ar;(try simp only[Tc,Td,Te]);omega) ?_);refine Ua<|⟨_,_,(([40]++(wrE<|Ar a 0))++[41]),B,rfl,rfl,b,hT,d,(bs_t<|.inr (.inr (.inl I))),(by unfold Ar;simp only[Tc,Td,Te];omega)⟩
  refine OF<|Om<|OgD<|PJ Jw rfl<|OgD<|PO A pl3 r rfl<|OgD<|PW r r (fun J=>?_)<|fun J=>?_
  ·refine OF<|Nl<|Uk<|Ub<|QG r r (by unfold Ar;(try simp only[Tc,Td,Te]);omega)<|Ol<|QG r r (by unfold Ar;(try simp only[Tc,Td,Te]);omega)<|Ua<|⟨_,_,(([40]++(wrE<|Ar a 0))++[41]),B,rfl,rfl,b,hT,d,(bs_t<|.inr (.inr (.inr J))),(by unfold Ar;simp only[Tc,Td,Te];omega)⟩
  refine OF<|Nl<|Uc<|⟨_,_,(wrE<|Ar a 0),B,rfl,rfl,b,hT,d,(bs_f<|fun k=>k.elim G fun k=>k.elim H fun k=>k.elim I J),(by unfold Ar;omega)⟩
 rintro _ _ ⟨_,_,sb,aA,aB,aD,b,hT,b5,hsb,_⟩;obtain⟨_,rfl⟩:=rebK (aC aB<|aC aD aN);clear aB aD;refine Rg (Ub<|QG r r ζ<|Ol<|PJ Zi rfl<|Ol<|PO b5 pl23 r rfl<|Ol<|P4 (j:=0) (u:=(a.n.getD 0 0)) b.n sl23 io3 r r r (Je o) ?_);intro _ _ aP aE;obtain⟨rfl,_⟩:aP=_∧_:=aE.rd;refine Ol (P0 pl3 r (aE.cell 0 _ r)<|Ol<|PK aA ww r r (rh aA.bd hT hrn.1 hrn.2) ?_);intro _ _ b6 _ b7;subst b7;exact Ol<|QG r r (by have:=Lib.itoa_length_le _ hrn.1 hrn.2;simp only[Tc,Td,Te];omega)<|Ua<|PS<|Wq r r b6<|congrArg (str)<|(Hv hop hpl hsb)
set_option maxHeartbeats 8000000 in
theorem ra(hX:XB X w)(r0:RV Jc X w v0 a)(hT:T10 X w)(hg:Gd a)(hW:∀i,i<a.args.length→WrA (Ar a i))(hP:∀i,i<a.args.length→PlA (Ar a i))(hS:a.op=10→WrA a)(hPa:PlA a):CRt 73 #[v0] w fun v _=>(∃v0 v1,v= .tuple #[v0,v1]∧(v0=(str (sgE a)))∧(v1=(.bool (miE a)))):=by
 obtain⟨a1,c2,a3,c4,a5,c6,a7,N,rfl,d⟩:=SR r0;have C:=PV hX;have ch:=hg.m1;have ci:=hg.m2;have hal:=hg.al;refine Cgo Tryz.func73 r r r (Rg<|Ol<|QA C r ?_);intro bl _ _ _ _ bm cd k;have d:=d.sp cd;have hT:=hT.sp cd;refine Oa<|Ua<|PT<|W.block<|Rg<|Ol<|PJ Jw rfl<|Ol<|PO k pl3 r rfl<|Ol<|PW r r (fun S=>?_)<|fun S=>?_
 ·refine Oa (Nl<|Ud<|PT ?_);have hwl:=hg.wl;refine PN (Ol<|Uo (vs:=(ec a a1 c2 a3 c4 a5 c6 a7 N)) k ag31<|Ol<|PK bm cb39 r r (hS S bm.bd (Mx a d) hT) ?_);intro _ _ eb _ ed;subst ed;refine Ol (QG r r ζ<|Ol<|QG r r ζ<|Oa<|Ua<|PS<|Xi r r r eb ?_);refine⟨_,_,rfl,?_,?_⟩
  ·exact congrArg (str)<|(mR S).1.symm
  ·exact YS<|(mR S).2.symm
 refine Oa (Nl<|Ug<|Ol<|Uo (vs:=(ec a a1 c2 a3 c4 a5 c6 a7 N)) k ag31<|Ol<|QF<|PK bm GI r r (HT bm.bd (Mx a d) ch ci) ?_);intro _ _ a0 br ee;have d:=d.sp br;have hT:=hT.sp br;have k:=k.spn br;refine⟨_,ee,fun au=>?_,fun au=>?_⟩
 ·refine Oa (Nl<|Uf<|Ol<|PJ Yv rfl<|Ol<|Uo (vs:=(qqC a.c a3 c4 a5 c6)) k ag28<|Ol<|PK a0 Cp r r (tm a0.bd (a:=a.c) (Jz d.num d.den) o o) ?_);intro _ _ ce _ ef;obtain⟨_,_,_,_,rfl,eg,eh⟩:=ST ef;refine Ol (PK ce DK r r (vF ce.bd (a:=(ofQ<|-a.c.q)) (Jz eg eh) (Tj hg.n1 δ)<|Tj hg.n2 δ) ?_);intro _ _ ei _ cf;simp only[Jo,J9] at cf;subst cf;refine Oa (Ua<|PS<|Xi r r r ei ?_);refine⟨_,_,rfl,?_,?_⟩
  ·exact congrArg (str)<|(mq au).1.symm
  ·exact YS<|(mq au).2.symm
 refine Ua<|Ug<|Ol<|PJ Jw rfl<|Ol<|PO k pl3 r rfl<|Ol<|QH r r (fun aT=>?_)<|fun aT=>?_
 ·refine Oa (Nl<|Uf<|Ol<|Uo (vs:=(ec a a1 c2 a3 c4 a5 c6 a7 N)) k ag31<|Ol<|PK a0 KF r r (hPa S aT a0.bd (Mx a d) hT) ?_);intro _ _ ej _ ek;subst ek;refine Oa (Ua<|PS<|Xi r r r ej ?_);refine⟨_,_,rfl,?_,?_⟩
  ·exact congrArg (str)<|(rf S au aT).1.symm
  ·exact YS<|(rf S au aT).2.symm
 refine Oa (Nl<|Uc<|PT ?_);have aO:a.op=11:=o
 have a4:2≤a.args.length:=hg.a2 aO;have hgl:∀i,i<a.args.length→Gd (Ar a i)∧WrA (Ar a i)∧PlA (Ar a i):=fun i hi=>⟨hg.arg hi,hW i hi,hP i hi⟩;have E:Gd (Ar a 0):=hg.arg o;have cj:=E.m1;have ck:=E.m2;refine QL mixed 7 [[],[0],[],[2],[3],[4],[5]] a0 [fx<|.pointer (some ⟨bl,7,none⟩),fx<|.slice a7 a.args.length N,fx<|.pointer (some ⟨bl,7,none⟩),fx<|.slice a7 a.args.length N,fE Jc<|Ar a 0,fr Jc<|Ar a 0,fx<|.bool (negB (Ar a 0).op (Ar a 0).c.q)] κ ⟨sx,sx,sx,sx,sE,sr,sx,trivial⟩ fun el av _ ⟨Q,bs⟩ R=>?_
 have d:=d.sp bs;have hT:=hT.sp bs;have k:=k.spn bs;have R:Keep [31,32,33,34,35,36,37] _ el:=R;refine⟨⟨fun _=>?_,fun⟨em,_⟩=>?_,fun _=>?_,fun⟨en,_⟩=>?_,fun⟨eo,_⟩=>?_,fun⟨ep,_⟩=>?_,fun⟨eq,_⟩=>?_,trivial⟩,fun⟨er,es,et,eu,ev,ew,ex,_⟩=>?_⟩
 ·exact Sd0 R fun _=>PJ J8 r ⟨av,PQ Q,rfl⟩
 ·exact Sd1 R em fun _=>PO k pl29 r r ⟨av,PQ Q,rfl⟩
 ·exact Sd0 R fun _=>PJ J8 r ⟨av,PQ Q,rfl⟩
 ·exact Sd1 R en fun _=>PO k pl29 r r ⟨av,PQ Q,rfl⟩
 ·refine Sd1 R eo fun _=>P4 (j:=0) (u:=(Ar a 0)) d.args sl29 io31 r r r (Je o) ?_;intro _ _ _ cg;obtain⟨_,_,_,_,_,_,_,_,rfl,_⟩:=Jb cg.rd;exact⟨av,PQ Q,⟨_,_,_,rfl,cg⟩⟩
 ·obtain⟨_,_,_,cm,bt⟩:=ep;obtain⟨cn,co,cp,cq,cr,ct,cu,cv,rfl,cw⟩:=Jb bt.rd;exact Sd1 R cm fun _=>QE (cs:=(ec (Ar a 0) cn co cp cq cr ct cu cv)) ag31 r r bt.cell ⟨av,PQ Q,(Mx (Ar a 0) cw)⟩
 ·obtain⟨_,_,_,_,_,_,_,_,cx,cy⟩:=SR eq;refine Sd1 R cx fun _=>PK Q GI r r (HT Q.bd (Mx (Ar a 0) cy) cj ck) ?_;intro _ _ cz cE cF;exact⟨av,⟨cz,cE⟩,cF⟩
 obtain⟨_,_,_,cG,cH⟩:=ev;obtain⟨_,_,_,_,_,_,_,_,rfl,_⟩:=Jb cH.rd;obtain⟨_,_,_,_,_,_,_,_,cI,_⟩:=SR ew;obtain⟨_,rfl⟩:=mixK R (aC er<|aC es<|aC et<|aC eu<|aC cG<|aC cI<|aC ex aN);refine Oa<|Ua<|Rg<|Ua<|PT<|Rm (fun f v=>∃(x y:Nat→Prop) (p0:List (List UInt8)) (bn:Option Addr) (bo:Nat) (l:List GExpr) (la:Option Addr) (lc:Nat),Cx X w x y v∧f 5=(.bool (negB (Ar a 0).op (Ar a 0).c.q))∧f 6=(S12 bn p0 bo)∧f 4=(S12 la l lc)∧ExprParts x v a a1 c2 a3 c4 a5 c6 a7 N∧T10 x v∧OS Y1 9 w x y v (S12 bn p0 bo) p0∧RS Jc x v (S12 la l lc) l∧Own w y v bl (ec a a1 c2 a3 c4 a5 c6 a7 N) 31∧sgE a=Lib.join (p0++facT (txL l)) [42]∧(∀i,i<l.length→Gd (l.getD i Δ)∧WrA (l.getD i Δ)∧PlA (l.getD i Δ))∧p0.length≤1∧l.length≤1000000000) ?_ ?_
 ·refine Rg<|Ol<|QF<|PP ⟨_,rfl,fun af=>?_,fun af=>?_⟩
  ·refine Nl (Uf<|Ub<|P4 (j:=0) (u:=(Ar a 0)) d.args sl29 io31 r r r (Je o) ?_);intro _ _ _ bu;obtain⟨_,_,cJ,cK,cL,cM,_,_,rfl,bv⟩:=Jb bu.rd;refine Ol (PJ Yv rfl<|Ol<|QE (cs:=(qqC ((Ar a 0).c) cJ cK cL cM)) ag28 r r (l9 bu.cell r)<|Ol<|PK Q Cp r r (tm Q.bd (a:=(Ar a 0).c) (Jz bv.num bv.den) o o) ?_);intro _ _ cN a9 cO;have d:=d.sp a9;have hT:=hT.sp a9;have k:=k.spn a9;obtain⟨F,G,H,I,rfl,s,z⟩:=ST cO;refine Ol (PU cN io28 r ?_);intro _ _ _ _ ca cP aw cQ;have cR:=ca _ k.blk.lt;have s:=s.sp aw;have z:=z.sp aw;refine On (Us (cs':=(qqC (ofQ<|-(Ar a 0).c.q) F G H I)) cP cQ io28 ?_);intro _ ba J B;have d:=(d.sp aw).sp J;have hT:=(hT.sp aw).sp J;have k:=(k.spn aw).spo J cR;refine Nl (PT<|PT ?_);by_cases a6: -(Ar a 0).c.q=1
   ·by_cases bp:(Ar a 1).op=1
    ·refine QL mixed 2 [[],[]] ba [fx<|.agg #[(.bool (ofQ<|-(Ar a 0).c.q).num.neg),(S12 F (ofQ<|-(Ar a 0).c.q).num.mag G),(.bool (ofQ<|-(Ar a 0).c.q).den.neg),(S12 H (ofQ<|-(Ar a 0).c.q).den.mag I)],fr Y6<|YU] κ ⟨sx,sr,trivial⟩ fun cS bw _ ⟨ax,ai⟩ ay=>?_
     have hT:=hT.sp ai;have s:=(s.sp J).sp ai;have z:=(z.sp J).sp ai;have B:=B.spn ai;have ay:Keep [44,45] _ cS:=ay;refine⟨⟨fun _=>?_,fun _=>?_,trivial⟩,fun⟨cT,cU,_⟩=>?_⟩
     ·exact Sd0 ay fun _=>QC (vs:=(qqC (ofQ<|-(Ar a 0).c.q) F G H I)) B ag28 r r r ⟨bw,PQ ax,rfl⟩
     ·refine Sd0 ay fun _=>PK ax oA r r (oK ax.bd δ δ) ?_;intro _ _ cV cW cX;exact⟨bw,⟨cV,cW⟩,cX⟩
     obtain⟨_,_,_,_,cY,cZ,c0⟩:=ST cU;obtain⟨_,rfl⟩:=mixK ay (aC cT<|aC cY aN);refine Ol (PK ax cb85 r r (qS ax.bd (a:=(ofQ<|-(Ar a 0).c.q)) (Jz s z) (b:=YU) (Jz cZ c0) (Tj E.n1 δ) (Tj E.n2 δ) δ δ) ?_);intro _ _ bx aj bz;have d:=(d.sp ai).sp aj;have s:=s.sp aj;have z:=z.sp aj;have k:=(k.spn ai).spn aj;have B:=B.spn aj;simp only[Jo,J9] at bz;subst bz;refine Ol (Rj (t:=false) r r YF<|Om<|OgD<|PP<|OgD<|P4 (j:=1) (u:=(Ar a 1)) d.args sl29 io31 r r r (Je o) ?_);intro _ _ _ bA;obtain⟨_,_,_,_,_,_,_,_,rfl,_⟩:=Jb bA.rd;refine OgD (PJ Jw rfl<|OgD<|P0 pl3 r (bA.cell 0 _ r)<|OgD<|QZ (t:=true) r r (decide_eq_true bp)<|OF<|Nl<|Uk<|Ub<|Uo (vs:=(qqC (ofQ<|-(Ar a 0).c.q) F G H I)) B ag28 ?_);refine Ol (PK bx DK r r (vF bx.bd (a:=(ofQ<|-(Ar a 0).c.q)) (Jz s z) (Tj E.n1 δ)<|Tj E.n2 δ) ?_);intro _ _ c1 bb bB;have d:=d.sp bb;have hT:=(hT.sp aj).sp bb;simp only[Jo,J9] at bB;subst bB;refine Ol (P5 (T:=Y1) (css:=[[(str<|qTxt<|-(Ar a 0).c.q)]]) (l:=[(qTxt<|-(Ar a 0).c.q)]) c1 sl50 io9 δ δ r κ ⟨⟨rfl,(by have:=E.ql;simp only[maxLen];omega)⟩,trivial⟩ ?_);intro _ _ c3 bc c5;have k:=(k.spn bb).spn bc;refine Ol (P8 (T:=Y1) c3 sl50 io9 r r OS.nil (Z5 c5) (by simp only[Te,Tf,maxLen];omega) (by simp only[Te,Tf];omega) r ?_);intro _ _ _ c7 be _ bf;have d:=(d.sp bc).tr be.tx;have hT:=(hT.sp bc).tr be.tx;replace k:=k.ap be k.mem;rw[TJ] at bf;obtain⟨c9,da,rfl,_,_⟩:=bf.len;refine Oa (Nl<|PN<|Ub<|R2 (i:=1) d.args sl29 io31 r r r o ?_);intro bC dc;refine Ua<|⟨_,_,[(qTxt<|-(Ar a 0).c.q)],c9,da,(a.args.drop 1),bC,(N-1),c7,rfl,rfl,(congrArg (fun n=>Value.slice bC n<|N-1) Tn.symm),d,hT,bf,(rs_n dc Tn.symm),k,(wo aO a4 af<|.inr bp),(vj (P:=fun e=>Gd e∧WrA e∧PlA e) hgl),χ,Y'⟩
    refine QL mixed 2 [[],[]] ba [fx<|.agg #[(.bool (ofQ<|-(Ar a 0).c.q).num.neg),(S12 F (ofQ<|-(Ar a 0).c.q).num.mag G),(.bool (ofQ<|-(Ar a 0).c.q).den.neg),(S12 H (ofQ<|-(Ar a 0).c.q).den.mag I)],fr Y6<|YU] κ ⟨sx,sr,trivial⟩ fun dd bD _ ⟨az,ak⟩ aA=>?_
    have s:=(s.sp J).sp ak;have z:=(z.sp J).sp ak;have B:=B.spn ak;have aA:Keep [44,45] _ dd:=aA;refine⟨⟨fun _=>?_,fun _=>?_,trivial⟩,fun⟨de,df,_⟩=>?_⟩
    ·exact Sd0 aA fun _=>QC (vs:=(qqC (ofQ<|-(Ar a 0).c.q) F G H I)) B ag28 r r r ⟨bD,PQ az,rfl⟩
    ·refine Sd0 aA fun _=>PK az oA r r (oK az.bd δ δ) ?_;intro _ _ dg dh di;exact⟨bD,⟨dg,dh⟩,di⟩
    obtain⟨_,_,_,_,dj,dk,dl⟩:=ST df;obtain⟨_,rfl⟩:=mixK aA (aC de<|aC dj aN);refine Ol (PK az cb85 r r (qS az.bd (a:=(ofQ<|-(Ar a 0).c.q)) (Jz s z) (b:=YU) (Jz dk dl) (Tj E.n1 δ) (Tj E.n2 δ) δ δ) ?_);intro _ _ dm bg bE;have d:=(d.sp ak).sp bg;have hT:=(hT.sp ak).sp bg;have k:=(k.spn ak).spn bg;simp only[Jo,J9] at bE;subst bE;refine Ol (Rj (t:=false) r r YF<|Om<|OgD<|PP<|OgD<|P4 (j:=1) (u:=(Ar a 1)) d.args sl29 io31 r r r (Je o) ?_);intro _ _ _ bF;obtain⟨_,_,_,_,_,_,_,_,rfl,_⟩:=Jb bF.rd;refine OgD (PJ Jw rfl<|OgD<|P0 pl3 r (bF.cell 0 _ r)<|OgD<|QZ (t:=false) r r (decide_eq_false bp)<|OF<|Nl<|Uc<|PN<|Ub<|R2 (i:=1) d.args sl29 io31 r r r o ?_);intro bG dn;refine Ua<|⟨_,_,[],none,0,(a.args.drop 1),bG,(N-1),dm,rfl,rfl,(congrArg (fun n=>Value.slice bG n<|N-1) Tn.symm),d,hT,OS.nil,(rs_n dn Tn.symm),k,(Dx aO a4 af a6 bp),(vj (P:=fun e=>Gd e∧WrA e∧PlA e) hgl),χ,Y'⟩
   refine QL mixed 2 [[],[]] ba [fx<|.agg #[(.bool (ofQ<|-(Ar a 0).c.q).num.neg),(S12 F (ofQ<|-(Ar a 0).c.q).num.mag G),(.bool (ofQ<|-(Ar a 0).c.q).den.neg),(S12 H (ofQ<|-(Ar a 0).c.q).den.mag I)],fr Y6<|YU] κ ⟨sx,sr,trivial⟩ fun dp bH _ ⟨aB,am⟩ aD=>?_
   have d:=d.sp am;have hT:=hT.sp am;have s:=(s.sp J).sp am;have z:=(z.sp J).sp am;have B:=B.spn am;have aD:Keep [44,45] _ dp:=aD;refine⟨⟨fun _=>?_,fun _=>?_,trivial⟩,fun⟨dq,dr,_⟩=>?_⟩
   ·exact Sd0 aD fun _=>QC (vs:=(qqC (ofQ<|-(Ar a 0).c.q) F G H I)) B ag28 r r r ⟨bH,PQ aB,rfl⟩
   ·refine Sd0 aD fun _=>PK aB oA r r (oK aB.bd δ δ) ?_;intro _ _ ds dt du;exact⟨bH,⟨ds,dt⟩,du⟩
   obtain⟨_,_,_,_,dv,dw,dx⟩:=ST dr;obtain⟨_,rfl⟩:=mixK aD (aC dq<|aC dv aN);refine Ol (PK aB cb85 r r (qS aB.bd (a:=(ofQ<|-(Ar a 0).c.q)) (Jz s z) (b:=YU) (Jz dw dx) (Tj E.n1 δ) (Tj E.n2 δ) δ δ) ?_);intro _ _ bI an bJ;have s:=s.sp an;have z:=z.sp an;have k:=(k.spn am).spn an;have B:=B.spn an;simp only[Jo,J9] at bJ;subst bJ;refine Ol (Rj (t:=true) r r (by rw[decide_eq_false<|fun e=>a6<|A4.1 e];rfl)<|Om<|Oz<|Oz<|Oz<|Oz<|Oz<|OT<|Nl<|Uk<|Ub<|Uo (vs:=(qqC (ofQ<|-(Ar a 0).c.q) F G H I)) B ag28 ?_);refine Ol (PK bI DK r r (vF bI.bd (a:=(ofQ<|-(Ar a 0).c.q)) (Jz s z) (Tj E.n1 δ)<|Tj E.n2 δ) ?_);intro _ _ dy bh bK;have d:=(d.sp an).sp bh;have hT:=(hT.sp an).sp bh;simp only[Jo,J9] at bK;subst bK;refine Ol (P5 (T:=Y1) (css:=[[(str<|qTxt<|-(Ar a 0).c.q)]]) (l:=[(qTxt<|-(Ar a 0).c.q)]) dy sl50 io9 δ δ r κ ⟨⟨rfl,(by have:=E.ql;simp only[maxLen];omega)⟩,trivial⟩ ?_);intro _ _ dz bi dA;have k:=(k.spn bh).spn bi;refine Ol (P8 (T:=Y1) dz sl50 io9 r r OS.nil (Z5 dA) (by simp only[Te,Tf,maxLen];omega) (by simp only[Te,Tf];omega) r ?_);intro _ _ _ dB bj _ bk;have d:=(d.sp bi).tr bj.tx;have hT:=(hT.sp bi).tr bj.tx;replace k:=k.ap bj k.mem;rw[TJ] at bk;obtain⟨dC,dD,rfl,_,_⟩:=bk.len;refine Oa (Nl<|PN<|Ub<|R2 (i:=1) d.args sl29 io31 r r r o ?_);intro bL dE;refine Ua<|⟨_,_,[(qTxt<|-(Ar a 0).c.q)],dC,dD,(a.args.drop 1),bL,(N-1),dB,rfl,rfl,(congrArg (fun n=>Value.slice bL n<|N-1) Tn.symm),d,hT,bk,(rs_n dE Tn.symm),k,(wo aO a4 af<|.inl a6),(vj (P:=fun e=>Gd e∧WrA e∧PlA e) hgl),χ,Y'⟩
  refine Nl<|Uc<|⟨_,_,[],none,0,a.args,a7,N,Q,rfl,rfl,rfl,d,hT,OS.nil,d.args,k,(sg_p aO a4 af),hgl,χ,o⟩
 rintro _ _ ⟨_,_,p0,bn,bo,l,la,lc,dF,bM,bN,bO,d,hT,ey,m,dG,ez,A,dH,_⟩;obtain⟨_,rfl⟩:=rebK (aC bM<|aC bN<|aC bO aN);clear bM bN bO;refine Rh (Ub<|St.len sl29 rfl<|Om<|Nl<|W.block<|P7 (fun μ f v=>∃(x y:Nat→Prop) (i:Nat) (p:List (List UInt8)) (pa:Option Addr) (pc:Nat),Cx X w x y v∧f 5=(.bool (negB (Ar a 0).op (Ar a 0).c.q))∧f 62=(S12 la l lc)∧f 63=(.int .i64 l.length)∧f 64=(.int .i64 i)∧f 6=(S12 pa p pc)∧ExprParts x v a a1 c2 a3 c4 a5 c6 a7 N∧T10 x v∧RS Jc x v (S12 la l lc) l∧OS Y1 9 w x y v (S12 pa p pc) p∧Own w y v bl (ec a a1 c2 a3 c4 a5 c6 a7 N) 31∧i≤l.length∧sgE a=Lib.join (p++facT (txL<|l.drop i)) [42]∧p.length≤i+1∧μ=(l.length-i)) _ ⟨_,_,0,p0,bn,bo,dF,rfl,rfl,rfl,rfl,rfl,d,hT,m,ey,dG,(Tv _),ez,dH,rfl⟩ ?_);rintro _ _ _ ⟨_,_,i,p,pa,pc,bP,bQ,bR,bS,bT,bU,d,hT,m,D,g,hi,hQ,_,_⟩;obtain⟨_,rfl⟩:=rebK (aC bQ<|aC bR<|aC bS<|aC bT<|aC bU aN);clear bQ bR bS bT bU;refine Rg<|Ol<|P2 r r (fun cb=>?_)<|fun cb=>?_
 ·refine Nl (PT<|Ud<|PR<|PT<|W.block<|Rg<|Ol<|P4 (j:=i) (u:=(l.getD i Δ)) m sl29 io31 r r r (Je o) ?_);intro _ _ _ bV;obtain⟨U,V,Y,Z,aa,ab,ac,ad,rfl,K⟩:=Jb bV.rd;refine Ol (QE (cs:=(ec (l.getD i Δ) U V Y Z aa ab ac ad)) ag31 r r bV.cell<|Ol<|QU bP io31 r ?_);intro _ _ _ _ cc bW ao dI dJ;have dK:=cc _ g.blk.lt;refine On (Us (cs':=(ec (l.getD i Δ) U V Y Z aa ab ac ad)) bW dI io31 ?_);intro _ ae aq L;have d:=(d.sp ao).sp aq;have hT:=(hT.sp ao).sp aq;have m:=(m.sp ao).sp aq;have D:=(D.sp ao bW dJ).sp aq ae (fun _ h=>h)
  have K:=(K.sp ao).sp aq;have g:=(g.spn ao).spo aq dK;refine Nl<|Rh<|Ol<|PJ Jw rfl<|Ol<|PO L pl3 r rfl<|Ol<|PW r r (fun ag=>?_)<|fun ag=>?_
  ·refine Om (Oz<|Oz<|Oz<|OT<|Om<|Oz<|Oz<|OT<|Nl<|Uf<|Ub<|Uo (vs:=(ec (l.getD i Δ) U V Y Z aa ab ac ad)) L ag31<|Ol<|PK ae cb39 r r ((A i o).2.1 ae.bd (Mx (l.getD i Δ) K) hT) ?_);intro _ _ bX aE dL;have d:=d.sp aE;have hT:=hT.sp aE;have m:=m.sp aE;subst dL;refine Ol (QG r r (by have:=(A i o).1.wl;simp only[Td,Te];omega)<|Ol<|QG r r (by have:=(A i o).1.wl;simp only[Tc,Td,Te];omega)<|Ol<|P5 (T:=Y1) (css:=[[(str<|([40]++(wrE<|l.getD i Δ))++[41])]]) (l:=[(([40]++(wrE<|l.getD i Δ))++[41])]) bX sl50 io9 δ δ r κ ⟨⟨rfl,(by have:=(A i o).1.wl;simp only[maxLen,Tc,Td,Te];omega)⟩,trivial⟩ ?_);intro _ _ bY aF dM;have D:=(D.sp aE bX<|fun _ h=>h).sp aF bY (fun _ h=>h)
   have g:=(g.spn aE).spn aF;refine Ol (P8 (T:=Y1) bY sl50 io9 r r D (Z5 dM) F' Z' r ?_);intro _ _ _ dN aU _ bZ;have d:=(d.sp aF).tr aU.tx;have hT:=(hT.sp aF).tr aU.tx;have m:=(m.sp aF).tr aU.tx;replace g:=g.ap aU g.mem;obtain⟨dO,dP,rfl,_,_⟩:=bZ.len;refine Ua<|QB<|PN<|Ol<|St.add r r (Ja (a:=i) (b:=1) o)<|Om<|Nl<|⟨_,o,_,_,(i+1),(p++[(([40]++(wrE<|l.getD i Δ))++[41])]),dO,dP,dN,rfl,rfl,rfl,rfl,rfl,d,hT,m,bZ,g,o,(Dq hQ o<|fa_1<|.inl ag),i',rfl⟩
  refine Om<|OgD<|PJ Jw rfl<|OgD<|PO L pl3 r rfl<|OgD<|PW r r (fun ah=>?_)<|fun ah=>?_
  ·refine OF (Om<|Oz<|Oz<|OT<|Nl<|Uf<|Ub<|Uo (vs:=(ec (l.getD i Δ) U V Y Z aa ab ac ad)) L ag31<|Ol<|PK ae cb39 r r ((A i o).2.1 ae.bd (Mx (l.getD i Δ) K) hT) ?_);intro _ _ b0 aG dQ;have d:=d.sp aG;have hT:=hT.sp aG;have m:=m.sp aG;subst dQ;refine Ol (QG r r (by have:=(A i o).1.wl;simp only[Td,Te];omega)<|Ol<|QG r r (by have:=(A i o).1.wl;simp only[Tc,Td,Te];omega)<|Ol<|P5 (T:=Y1) (css:=[[(str<|([40]++(wrE<|l.getD i Δ))++[41])]]) (l:=[(([40]++(wrE<|l.getD i Δ))++[41])]) b0 sl50 io9 δ δ r κ ⟨⟨rfl,(by have:=(A i o).1.wl;simp only[maxLen,Tc,Td,Te];omega)⟩,trivial⟩ ?_);intro _ _ b1 aH dR;have D:=(D.sp aG b0<|fun _ h=>h).sp aH b1 (fun _ h=>h)
   have g:=(g.spn aG).spn aH;refine Ol (P8 (T:=Y1) b1 sl50 io9 r r D (Z5 dR) F' Z' r ?_);intro _ _ _ dS aV _ b2;have d:=(d.sp aH).tr aV.tx;have hT:=(hT.sp aH).tr aV.tx;have m:=(m.sp aH).tr aV.tx;replace g:=g.ap aV g.mem;obtain⟨dT,dU,rfl,_,_⟩:=b2.len;refine Ua<|QB<|PN<|Ol<|St.add r r (Ja (a:=i) (b:=1) o)<|Om<|Nl<|⟨_,o,_,_,(i+1),(p++[(([40]++(wrE<|l.getD i Δ))++[41])]),dT,dU,dS,rfl,rfl,rfl,rfl,rfl,d,hT,m,b2,g,o,(Dq hQ o<|fa_1<|.inr (.inl ah)),i',rfl⟩
  refine OF (Om<|OgD<|Uo (vs:=(ec (l.getD i Δ) U V Y Z aa ab ac ad)) L ag31<|OgD<|QF<|PK ae GI r r (HT ae.bd (Mx (l.getD i Δ) K) (A i o).1.m1 (A i o).1.m2) ?_);intro _ _ aI M dV;have hT:=hT.sp M;have D:=D.sp M aI<|fun _ h=>h
  have K:=K.sp M;have g:=g.spn M;have L:=L.spn M;refine⟨_,dV,fun aW=>?_,fun aW=>?_⟩
  ·refine OF (Nl<|Uf<|Ub<|Uo (vs:=(ec (l.getD i Δ) U V Y Z aa ab ac ad)) L ag31<|Ol<|PK aI cb39 r r ((A i o).2.1 aI.bd (Mx (l.getD i Δ) K) hT) ?_);intro _ _ b3 aJ dW;have d:=(d.sp M).sp aJ;have hT:=hT.sp aJ;have m:=(m.sp M).sp aJ;subst dW;refine Ol (QG r r (by have:=(A i o).1.wl;simp only[Td,Te];omega)<|Ol<|QG r r (by have:=(A i o).1.wl;simp only[Tc,Td,Te];omega)<|Ol<|P5 (T:=Y1) (css:=[[(str<|([40]++(wrE<|l.getD i Δ))++[41])]]) (l:=[(([40]++(wrE<|l.getD i Δ))++[41])]) b3 sl50 io9 δ δ r κ ⟨⟨rfl,(by have:=(A i o).1.wl;simp only[maxLen,Tc,Td,Te];omega)⟩,trivial⟩ ?_);intro _ _ b4 aK dX;have D:=(D.sp aJ b3<|fun _ h=>h).sp aK b4 (fun _ h=>h)
   have g:=(g.spn aJ).spn aK;refine Ol (P8 (T:=Y1) b4 sl50 io9 r r D (Z5 dX) F' Z' r ?_);intro _ _ _ dY aX _ b5;have d:=(d.sp aK).tr aX.tx;have hT:=(hT.sp aK).tr aX.tx;have m:=(m.sp aK).tr aX.tx;replace g:=g.ap aX g.mem;obtain⟨dZ,d0,rfl,_,_⟩:=b5.len;refine Ua<|QB<|PN<|Ol<|St.add r r (Ja (a:=i) (b:=1) o)<|Om<|Nl<|⟨_,o,_,_,(i+1),(p++[(([40]++(wrE<|l.getD i Δ))++[41])]),dZ,d0,dY,rfl,rfl,rfl,rfl,rfl,d,hT,m,b5,g,o,(Dq hQ o<|fa_1<|.inr (.inr aW)),i',rfl⟩
  refine OF (Nl<|Uc<|PN<|Ub<|Uo (vs:=(ec (l.getD i Δ) U V Y Z aa ab ac ad)) L ag31<|Ol<|PK aI KF r r ((A i o).2.2 ag ah aI.bd (Mx (l.getD i Δ) K) hT) ?_);intro _ _ b6 aL d1;have d:=(d.sp M).sp aL;have hT:=hT.sp aL;have m:=(m.sp M).sp aL;subst d1;refine Ol (P5 (T:=Y1) (css:=[[(str<|plE<|l.getD i Δ)]]) (l:=[(plE<|l.getD i Δ)]) b6 sl50 io9 δ δ r κ ⟨⟨rfl,(by have:=(A i o).1.pl ag ah;simp only[maxLen];omega)⟩,trivial⟩ ?_);intro _ _ b7 aM d2;have D:=(D.sp aL b6<|fun _ h=>h).sp aM b7 (fun _ h=>h)
  have g:=(g.spn aL).spn aM;refine Ol (P8 (T:=Y1) b7 sl50 io9 r r D (Z5 d2) F' Z' r ?_);intro _ _ _ d3 aY _ b8;have d:=(d.sp aM).tr aY.tx;have hT:=(hT.sp aM).tr aY.tx;have m:=(m.sp aM).tr aY.tx;replace g:=g.ap aY g.mem;obtain⟨d4,d5,rfl,_,_⟩:=b8.len;refine Ua<|PN<|Ol<|St.add r r (Ja (a:=i) (b:=1) o)<|Om<|Nl<|⟨_,o,_,_,(i+1),(p++[(plE<|l.getD i Δ)]),d4,d5,d3,rfl,rfl,rfl,rfl,rfl,d,hT,m,b8,g,o,(Dq hQ o<|fa_0 ag ah aW),i',rfl⟩
 refine Nl (PT<|Ue<|QB<|Rg<|Om ?_);obtain⟨_,b9,_,d6⟩:=D.freeze bP hX;refine Ol (PK b9 Ml r r (Fb b9.bd d6 o (by rw[←FD hQ o];exact Tj hg.sl o)) ?_);intro _ _ d7 _ d8;subst d8;refine Om (Oa<|Ua<|PS<|Xi r r r d7 ?_);refine⟨_,_,rfl,?_,?_⟩
 ·exact congrArg (str)<|(FD hQ o).symm
 ·exact YS<|(CN aO a4)
theorem LL(h:SgA a)(hl:(sgE a).length≤1000000000):∀i,i<[a].length→SgA ([a].getD i Δ)∧(sgE ([a].getD i Δ)).length≤1000000000:=by
 intro i hi
 have:i=0:=by simp at hi;exact hi
 subst this;exact⟨h,hl⟩
set_option maxHeartbeats 8000000 in
theorem nE(hX:XB X w)(r0:RV Jc X w v0 a)(hT:T10 X w)(hg:Gd a)(hG:a.op=10→∀i,i<a.args.length→SgA (Ar a i))(hN:¬a.op=10→SgA a):CRt 39 #[v0] w fun v _=>v=(str (wrE a)):=by
 obtain⟨a1,D,E,F,G,H,s,z,rfl,d⟩:=SR r0;have C:=PV hX;have hal:=hg.al;refine Cgo Tryz.func39 r r r (Rg<|Ol<|QA C r ?_);intro aa _ _ _ _ aq ab k;have d:=d.sp ab;refine Oa (Nl<|Rg<|Ol<|Uo (vs:=(ec a a1 D E F G H s z)) k ag31<|Ol<|P5 (T:=Jc) (css:=[(ec a a1 D E F G H s z)]) (l:=[a]) aq sl29 io31 δ δ r κ ⟨(Ju a d.lo d.hi d.name d.n d.num d.den d.args),trivial⟩ ?_);intro ar _ ac M au;have d:=d.sp M;have hT:=(hT.sp ab).sp M;have k:=k.spn M;refine Ua<|PT<|Rm (fun f v=>∃(x y:Nat→Prop) (l:List GExpr) (la:Option Addr) (lc:Nat),Cx X w x y v∧f 3=(S12 la l lc)∧ExprParts x v a a1 D E F G H s z∧T10 x v∧RS Jc x v (S12 la l lc) l∧Own w y v aa (ec a a1 D E F G H s z) 31∧[]++sumX 0 (l.drop 0)=wrE a∧(∀i,i<l.length→SgA (l.getD i Δ)∧(sgE<|l.getD i Δ).length≤1000000000)∧l.length≤1000000000) ?_ ?_
 ·refine Rg<|Ol<|PJ Jw rfl<|Ol<|PO k pl3 r rfl<|Ol<|PW r r (fun m=>?_)<|fun m=>?_
  ·refine Nl<|Uk<|Ol<|PJ J8 rfl<|Ol<|PO k pl29 r rfl<|Ua<|⟨_,_,a.args,s,z,ac,rfl,d,hT,d.args,k,(Lu m),(fun i hi=>⟨hG m i hi,(hg.arg hi).sl⟩),o⟩
  refine Nl<|Uc<|⟨_,_,[a],(some ⟨ar,0,none⟩),1,ac,rfl,d,hT,au,k,(su_w m),(LL (hN m) hg.sl),(by rw[Tf];decide)⟩
 rintro _ _ ⟨_,_,l,la,lc,av,ad,d,hT,e,aw,ax,hGl,_⟩;obtain⟨_,rfl⟩:=rebK (aC ad aN);clear ad;refine Rg (Ua<|Rh<|Ub<|St.len sl29 rfl<|Om<|Nl<|W.block<|P7 (fun μ f v=>∃(x y:Nat→Prop) (i:Nat) (out:List UInt8),Cx X w x y v∧f 16=(S12 la l lc)∧f 17=(.int .i64 l.length)∧f 18=(.int .i64 i)∧f 4=(str out)∧ExprParts x v a a1 D E F G H s z∧T10 x v∧RS Jc x v (S12 la l lc) l∧Own w y v aa (ec a a1 D E F G H s z) 31∧i≤l.length∧out++sumX i (l.drop i)=wrE a∧(i=0→out=[])∧μ=(l.length-i)) _ ⟨_,_,0,[],av,rfl,rfl,rfl,rfl,d,hT,e,aw,(Tv _),ax,(fun _=>rfl),rfl⟩ ?_);rintro _ _ _ ⟨_,_,i,out,ae,af,ag,ah,ai,d,hT,e,g,hi,hM,ho,_⟩;obtain⟨_,rfl⟩:=rebK (aC af<|aC ag<|aC ah<|aC ai aN);clear af ag ah ai;refine Rg<|Ol<|P2 r r (fun am=>?_)<|fun am=>?_
 ·refine Nl (PT<|Ud<|PR<|PT<|W.block<|Rg<|Ub<|P4 (j:=i) (u:=(l.getD i Δ)) e sl29 io31 r r r (Je o) ?_);intro _ _ _ aj;obtain⟨N,P,Q,R,S,U,V,Y,rfl,Z⟩:=Jb aj.rd;refine Ol (QE (cs:=(ec (l.getD i Δ) N P Q R S U V Y)) ag31 r r aj.cell<|Ol<|PU ae io31 r ?_);intro _ _ _ _ an ay A az;have aA:=an _ g.blk.lt;have d:=d.sp A;have e:=e.sp A;have g:=g.spn A;refine Oa (On<|Us (cs':=(ec (l.getD i Δ) N P Q R S U V Y)) ay az io31 ?_);intro _ ak B aB;have hT:=(hT.sp A).sp B;have Z:=(Z.sp A).sp B;refine Nl (Rg<|Ol<|Uo (vs:=(ec (l.getD i Δ) N P Q R S U V Y)) aB ag31<|Ol<|PK ak cb73 r r ((hGl i o).1 ak.bd (Mx (l.getD i Δ) Z) hT) ?_);intro _ _ K L aD;have d:=(d.sp B).sp L;have hT:=hT.sp L;have e:=(e.sp B).sp L;have g:=(g.spo B aA).spn L;obtain⟨_,_,rfl,rfl,rfl⟩:=aD;refine Ub<|St.extract r rfl<|Ol<|St.extract r rfl<|Oa<|Ua<|PT<|W.block<|Rg<|Ub<|PW r r (fun p=>?_)<|fun p=>?_
  ·refine Om<|OgD<|QF<|PP ⟨_,rfl,fun I=>?_,fun I=>?_⟩
   ·refine OT (Ua<|Uk<|Ua<|PN<|Om<|Ub<|QG r r (by have:=np hM hg.wl;have:=(hGl i o).2;(try simp only[Tc,Td,Te]);omega)<|Ua<|PN<|Ol<|St.add r r (Ja (a:=i) (b:=1) o) ?_);refine Om<|Nl<|⟨_,o,_,_,(i+1),([45]++(sgE<|l.getD i Δ)),K,rfl,rfl,rfl,rfl,d,hT,e,g,o,(PF hM o p ho I),(fun h=>absurd h<|Nat.succ_ne_zero _),rfl⟩
   refine OT (Ua<|Ug<|Ub<|Rw (t:=false) r r (decide_eq_false o)<|Om<|Oz<|OF<|Ua<|Ug<|Ub<|Rw (t:=false) r r (decide_eq_false o) ?_);refine Oa (Nl<|Uc<|PN<|Om<|Ub<|QG r r (by have:=np hM hg.wl;have:=(hGl i o).2;(try simp only[Tc,Td,Te]);omega)<|Ua<|PN<|Ol<|St.add r r (Ja (a:=i) (b:=1) o)<|Om ?_);refine Nl<|⟨_,o,_,_,(i+1),(out++(sgE<|l.getD i Δ)),K,rfl,rfl,rfl,rfl,d,hT,e,g,o,(O6 hM o p I),(fun h=>absurd h<|Nat.succ_ne_zero _),rfl⟩
  refine Om<|Oz<|OF<|Ua<|Ug<|Ub<|Rw (t:=true) r r (decide_eq_true o)<|Om<|OgD<|QF<|PP ⟨_,rfl,fun J=>?_,fun J=>?_⟩
  ·refine OT (Ua<|Uk<|Ub<|QG r r (by have:=np hM hg.wl;have:=(hGl i o).2;(try simp only[Tc,Td,Te]);omega)<|Ua<|PN<|Om<|Ub<|QG r r (by have:=np hM hg.wl;have:=(hGl i o).2;(try simp only[Tc,Td,Te]);omega) ?_);refine Ua<|PN<|Ol<|St.add r r (Ja (a:=i) (b:=1) o)<|Om<|Nl<|⟨_,o,_,_,(i+1),((out++[32,45,32])++(sgE<|l.getD i Δ)),K,rfl,rfl,rfl,rfl,d,hT,e,g,o,(OM hM o p J),(fun h=>absurd h<|Nat.succ_ne_zero _),rfl⟩
  refine OT (Ua<|Ug<|Ub<|Rw (t:=true) r r (decide_eq_true o)<|Ua<|Uk<|Ub<|QG r r (by have:=np hM hg.wl;have:=(hGl i o).2;(try simp only[Tc,Td,Te]);omega) ?_);refine Oa (Nl<|PN<|Om<|Ub<|QG r r (by have:=np hM hg.wl;have:=(hGl i o).2;(try simp only[Tc,Td,Te]);omega)<|Ua<|PN<|Ol<|St.add r r (Ja (a:=i) (b:=1) o)<|Om<|Nl ?_);refine⟨_,o,_,_,(i+1),((out++[32,43,32])++(sgE<|l.getD i Δ)),K,rfl,rfl,rfl,rfl,d,hT,e,g,o,(Pc hM o p J),(fun h=>absurd h<|Nat.succ_ne_zero _),rfl⟩
 exact Nl<|PT<|Ue<|QB<|Rg<|Om<|Ua<|PS<|Wq r r ae<|congrArg (str)<|(JX hM o)
theorem FT:∀a:GExpr,Gd a→WrA a∧PlA a∧SgA a:=Vo fun a ih=>by
 intro hg;have hW:∀i,i<a.args.length→WrA (Ar a i):=fun i hi=>(ih i hi<|hg.arg hi).1;have hP:∀i,i<a.args.length→PlA (Ar a i):=fun i hi=>(ih i hi<|hg.arg hi).2.1;have hS:∀i,i<a.args.length→SgA (Ar a i):=fun i hi=>(ih i hi<|hg.arg hi).2.2;have pl:PlA a:=fun b d X w hX v r hT=>Dc hX r hT hg hW b d;by_cases h:a.op=10
 ·have wr:WrA a:=fun {X w} hX {v} r hT=>nE hX r hT hg (fun _=>hS) (fun h'=>absurd h h');exact⟨wr,pl,fun {X w} hX {v} r hT=>ra hX r hT hg hW hP (fun _=>wr) pl⟩
 ·have sg:SgA a:=fun {X w} hX {v} r hT=>ra hX r hT hg hW hP (fun h'=>absurd h' h) pl;exact⟨fun {X w} hX {v} r hT=>nE hX r hT hg (fun h'=>absurd h' h)<|fun _=>sg,pl,sg⟩
theorem KY(h:Gd a):WrA a:=(FT a h).1
theorem zM(hX:XB X w){i:Value}(E:RV Jc X w i a)(hT:T10 X w)(hok:okE a):CRt 14 #[i] w fun v _=>(∃i F,v= .tuple #[i,F]∧(i=(str ((prE a).1)))∧(F=(.int .i64 ((prE a).2)))):=by
 obtain⟨a1,s,x,y,z,A,B,D,rfl,g⟩:=SR E;have C:=PV hX;have hgd:Jn a=0→Gd a:=fun h=>rG h hok ⟨_,_,_,E⟩;refine Cgo Tryz.func14 r r r (Rg<|Ol<|QA C r ?_);intro _ _ _ _ _ l m e;have g:=g.sp m;refine Oa (Ua<|Rh<|Ol<|Uo (vs:=(ec a a1 s x y z A B D)) e ag31<|Ol<|PK l cb20 r r (xh l.bd (Mx a g) hok) ?_);intro _ _ j k G;have g:=g.sp k;have hT:=(hT.sp m).sp k;have e:=e.spn k;subst G;refine Ua<|Rg<|Ub<|QH r r (fun b=>?_)<|fun b=>?_
 ·refine Nl (Uf<|Om<|Oa<|Ua<|PS<|Xi r r r j ?_);refine⟨_,_,rfl,?_,?_⟩
  ·exact congrArg (str)<|(congrArg Prod.fst<|Ma b)
  ·exact YR<|(congrArg Prod.snd<|Ma b)
 refine Nl (Uc<|Rg<|Ol<|Uo (vs:=(ec a a1 s x y z A B D)) e ag31<|Ol<|PK j cb39 r r (KY (hgd o) j.bd (Mx a g) hT) ?_);intro _ _ p _ H;subst H;refine Ua<|Rh<|Ub<|QW un9 rfl<|Ol<|QN r r (fun d=>?_)<|fun d=>?_
 ·refine Nl (Uf<|Oa<|Ua<|PS<|Xi r r r p ?_);refine⟨_,_,rfl,?_,?_⟩
  ·exact congrArg (str)<|(congrArg Prod.fst<|Mq b d)
  ·exact YR<|(congrArg Prod.snd<|Mq b d)
 refine Nl (Uc<|Rg<|Om<|Oa<|Ua<|PS<|Xi r r r p ?_);refine⟨_,_,rfl,?_,?_⟩
 ·exact congrArg (str)<|(congrArg Prod.fst<|Lh b d)
 ·exact YR<|(congrArg Prod.snd<|Lh b d)
end Go.Wf
namespace Go.Wf
open Go Go.Lib
variable{b:GExpr}
def tA1:By:=[69,52,94,51,32,45,32,69,54,94,50]
def tA2:By:=[69,52,32,43]
def eA3:GExpr:=eOp 12 [3] [eOp 2 [4] []]
def eA2:GExpr:=eOp 12 [2] [eOp 2 [6] []]
def eAp:GExpr:=eOp 11 [] [eNum (-1) 1,eA2]
def eA1:GExpr:=eOp 10 [] [eA3,eAp]
theorem rdA1:Ve tA1= .ok eA1 0:=k
theorem rdA2:Ve tA2= .er 19 4:=k
section
variable {a:GExpr}
theorem BL(b:cntOk a)(d:nameOk a)(e:mH a)(g:errL a.args=0):errE a=0:=by
 rw[xd]
 have:Xm a=0:=by unfold Xm;rw[if_pos ⟨b,d⟩,if_pos e]
 rw[if_pos this];exact g
theorem Hc(h:a.n=[]):mH a:=fun _ hi=>by rw[h] at hi;simp at hi
theorem LS{k:Int}(h:a.n=[k])(b:lA a.op≤k)(d:k≤lB a.op):mH a:=fun i hi=>by
 have:i=0:=by rw[h] at hi;simp at hi;exact hi
 subst this;rw[h];exact⟨b,d⟩
theorem nm_0(b:¬a.op=8)(h:a.name=[])(hc:a.op=1∨a.c=Y3):nameOk a:=
 ⟨by rw[decide_eq_false b,h];rfl,.inr h,hc.imp_right fun e=>by rw[e];rfl⟩
theorem Fx(h:errE b=0):errL [b]=0:=by rw[errL,if_pos h,errL]
theorem FA{c:GExpr}(h:errE b=0)(d:errE c=0):errL [b,c]=0:=by rw[errL,if_pos h];exact Fx d
end
theorem rj{a:GExpr}{o:Int}{n l:Nat}(ho:a.op=o)(hn:a.n.length=n)(hl:a.args.length=l)(h:decide (1≤o∧o≤18∧cA o≤(n:Int)∧(n:Int)≤cB o∧cC o≤(l:Int)∧(l:Int)≤cD o)=true):cntOk a:=by
 subst ho;subst hn;subst hl;obtain⟨b,d,e,g,i,j⟩:=of_decide_eq_true h;exact⟨b,d,e,g,i,j⟩
theorem n8{o k:Int}(h:o=k)(hk:decide (k=8)=false):¬o=8:=by rw[h];exact of_decide_eq_false hk
theorem EO:errL []=0:=by rw[errL]
theorem erE4{k:Int}(b:0≤k)(d:k≤1000000):errE (eOp 2 [k] [])=0:=
 BL (rj (o:=2) (n:=1) (l:=0) r r r δ) (nm_0 (n8 (k:=2) r r) r (.inr r)) (LS r b d) EO
theorem erPw{k:Int}(d: -200≤k)(e:k≤200)(hb:errE b=0):errE (eOp 12 [k] [b])=0:=
 BL (rj (o:=12) (n:=1) (l:=1) r r r δ) (nm_0 (n8 (k:=12) r r) r (.inr r)) (LS r d e) (Fx hb)
theorem erNu:errE (eNum (-1) 1)=0:=
 BL (rj (o:=1) (n:=0) (l:=0) r r r d) (nm_0 (n8 (k:=1) r r) r (.inl r)) (Hc r) EO
theorem erPr{c:GExpr}{op:Int}(ho:op=10∨op=11)(hb:errE b=0)(hc:errE c=0):errE (eOp op [] [b,c])=0:=by
 rcases ho with rfl|rfl
 ·exact BL (rj (o:=10) (n:=0) (l:=2) r r r d) (nm_0 (n8 (k:=10) r r) r (.inr r)) (Hc r) (FA hb hc)
 ·exact BL (rj (o:=11) (n:=0) (l:=2) r r r d) (nm_0 (n8 (k:=11) r r) r (.inr r)) (Hc r) (FA hb hc)
theorem erA1:errE eA1=0:=erPr (.inl r) (erPw d d (erE4 d d)) (erPr (.inr r) erNu (erPw d d (erE4 d d)))
theorem ckA1:Jn eA1=0:=by
 unfold Jn;rw[if_pos ⟨by decide +kernel,by decide +kernel⟩];exact erA1
theorem it1{n:Nat}(h:n<10):itoa (n:Int)=[UInt8.ofNat (48+n)]:=by rw[itoa_nonneg,decDigits_one h]
theorem wrA1:wrE eA1=tA1:=by
 have e:wrE eA1=[69]++itoa ((4:Nat):Int)++[94]++itoa ((3:Nat):Int)++([32,45,32]++(([69]++itoa ((6:Nat):Int)++[94]++itoa ((2:Nat):Int))++[])):=k
 rw[e,it1 d,it1 d,it1 d,it1 d];rfl
theorem okA1:okE eA1:=by
 have h:∀op n l,okL l→okE (eOp op n l):=fun op n l h=>m7 h;have hn:okE (eNum (-1) 1):=by
  rw[Qo];exact⟨by decide +kernel,by decide +kernel,by decide +kernel,by rw[qK];intro i hi;exact absurd hi (TC _)⟩
 have d:okL []:=by rw[qK];intro i hi;exact absurd hi (TC _)
 have e:∀ {b},okE b→okL [b]:=fun hb=>by unfold okL;exact⟨hb,d⟩
 have g:∀ {b c},okE b→okE c→okL [b,c]:=fun hb hc=>by unfold okL;exact⟨hb,e hc⟩
 exact h _ _ _ (g (h _ _ _ (e (h _ _ _ d))) (h _ _ _ (g hn (h _ _ _ (e (h _ _ _ d))))))
theorem prA1:prE eA1=(tA1,0):=by
 unfold prE;rw[if_pos ckA1,wrA1,if_neg d]
theorem paA1:Jj tA1=(eA1,0,0):=by
 unfold Jj;rw[if_neg d,rdA1]
 show(if Jn eA1=0 then(eA1,0,0) else(Xu,0,Jn eA1))=_
 rw[if_pos ckA1]
theorem paA2:Jj tA2=(Xu,4,19):=by
 unfold Jj;rw[if_neg d,rdA2]
theorem rfA1:RdF tA1:=by unfold RdF;rw[rdA1];exact Tv _
theorem rfA2:RdF tA2:=by unfold RdF;rw[rdA2];exact⟨by decide,d⟩
theorem rkA1:okE (rdT tA1).1:=by unfold rdT;rw[rdA1];exact okA1
theorem rkA2:okE (rdT tA2).1:=by
 unfold rdT;rw[rdA2];show okE Xu;rw[Qo];exact⟨Tv _,Tv _,Tv _,trivial⟩
end Go.Wf
namespace Go.Wf
open Go Go.Proofs Go.RowKit
variable{a:GExpr}
abbrev P3(a:GExpr)(n e:Int)(X:Nat→Prop)(w:World):Ending→World→Prop:=Ret w fun v w'=>∃v0 v1 v2,v= .tuple #[v0,v1,v2]∧(RV Jc X w' v0 a)∧(v1= .int .i64 n)∧(v2= .int .i64 e)
section
variable{X:Nat→Prop}{w:World}(hX:XB X w)
include hX
theorem pA1:Calls Tryz.prog 10 #[str tA1] w (P3 eA1 0 0 X w):=by
 have h:=l5 hX (s:=tA1) d rfA1 rkA1;rw[paA1] at h;exact h
theorem pA2:Calls Tryz.prog 10 #[str tA2] w (P3 Xu 4 19 X w):=by
 have h:=l5 hX (s:=tA2) d rfA2 rkA2;rw[paA2] at h;exact h
theorem pA3{v:Value}(d:RV Jc X w v eA1)(hT:T10 X w):Calls Tryz.prog 14 #[v] w (Ret w fun v' _=>∃a b,v'= .tuple #[a,b]∧(a=str tA1)∧(b= .int .i64 0)):=by
 have h:=zM hX d hT okA1;rw[prA1] at h;exact h
theorem zk  (hT:T10 X w):CRt 9 #[] w fun v _=>v=b14:=by
 have C:=PV hX;refine Cgo Tryz.func9 r r r (Rg<|Ua<|Rg<|Ol<|PK C cb10 r r (pA1 C.bd) ?_);intro _ _ S T U;have hT:=hT.sp T;obtain⟨_,_,_,rfl,V,rfl,rfl⟩:=U;obtain⟨d,e,g,h,i,j,k,l,rfl,a⟩:=SR V;refine Om (Ol<|St.extract r rfl<|Ol<|St.extract r rfl<|Ol<|St.extract r rfl<|Ol<|PU S io31 r ?_);intro _ _ _ _ _ y m z;refine On (Us (cs':=(ec eA1 d e g h i j k l)) y z io31 ?_);intro _ p s A;have hT:=(hT.sp m).sp s;have a:=(a.sp m).sp s;refine Oa (Ua<|Rg<|Ol<|Uo (vs:=(ec eA1 d e g h i j k l)) A ag31<|Ol<|PK p cb14 r r (pA3 p.bd (Mx eA1 a) hT) ?_);intro _ _ x _ B;obtain⟨_,_,rfl,rfl,rfl⟩:=B;refine Om (Ol<|St.extract r rfl<|Ol<|St.extract r rfl<|Oa<|Ua<|Rg<|Ol<|PK x cb10 r r (pA2 x.bd) ?_);intro _ _ D _ E;obtain⟨_,_,_,rfl,F,rfl,rfl⟩:=E;obtain⟨G,H,I,J,K,L,M,N,rfl,_⟩:=SR F;refine Om (Ol<|St.extract r rfl<|Ol<|St.extract r rfl<|Ol<|St.extract r rfl<|Ol<|PU D io31 r ?_);intro _ _ _ _ _ P _ Q;refine On (Us (cs':=(ec Xu G H I J K L M N)) P Q io31 ?_);intro _ R _ _;refine Oa (Ua<|Rg<|Ub<|QZ (t:=true) r r (decide_eq_true r)<|Om<|OgD<|PP<|OgD<|QZ (t:=true) r r (decide_eq_true r)<|OT<|Om<|OgD<|PP<|OgD<|QZ (t:=true) r r (decide_eq_true r) ?_);refine OT (Om<|OgD<|PP<|OgD<|QK r r (fun b=>?_)<|fun b=>absurd r b);refine OT<|Om<|OgD<|PP<|OgD<|QZ (t:=true) r r (decide_eq_true r)<|OT<|Om<|OgD<|PP<|OgD<|QZ (t:=true) r r (decide_eq_true r)<|OT<|Ua<|PS<|Wq r r R ?_
 rfl
end
theorem yX(N:Nat):∀ {X:Nat→Prop} {w:World} (hX:XB X w) {v0:Value} {a:GExpr} (r0:RV Jc X w v0 a) {A:Value} {l:List (List UInt8)} (o1:OW Y1 9 X w A l) (m1:∀k,A.ownBlock=some k→X k) (hln:l.length+cntE a≤10000) (hN:(SizeOf.sizeOf a)<N),Calls Tryz.prog 58 #[v0,A] w (RetO w A.ownBlock fun v w'=>OWr Y1 9 X w A.ownBlock v w' (l++Yx a)):=by
 induction N with
 |zero=>intro X w hX v0 a r0 A l o1 m1 hln hN;exact absurd hN<|TC _
 |succ N ih=>
  intro X w hX v0 a r0 A l o1 m1 hln hN;obtain⟨a1,V,Y,Z,a5,c6,B,D,rfl,d⟩:=SR r0;obtain⟨va,vc,rfl,_,_⟩:=OW.opn o1;obtain⟨M,C,hOw,hM⟩:=OW.start o1 hX m1;have hal:=r0.args_max;have hce:=Z7 a;have hac:=qo a;refine Cgo Tryz.func58 r r r (Rg<|Ol<|S4 C r ?_);intro aA _ _ _ _ ac aB e bb;have d:=d.sp aB;have hOw:=hOw.sp aB ac bb;refine Ua<|Rh<|Ol<|PJ Jw rfl<|Ol<|PO e pl3 r rfl<|Ol<|PW r r (fun E=>?_)<|fun E=>?_
  ·refine Nl (Uk<|Ub<|PJ X5 rfl<|Ol<|PO e pl9 r rfl<|Ol<|P5 (T:=Y1) (css:=[[(str a.name)]]) (l:=[a.name]) ac sl50 io9 δ δ r κ ⟨⟨rfl,d.name⟩,trivial⟩ ?_);intro _ _ aD ad bc;have hOw:=hOw.sp ad aD<|fun _ h=>h
   have e:=e.spn ad;refine Ol (P8 (T:=Y1) aD sl50 io9 r r hOw (Z5 bc) (by have:maxLen=9223372036854775807:=rfl;simp only[Td,Te];omega) ι r ?_);intro _ _ _ be aE _ aF;have d:=(d.sp ad).tr aE.tx;replace e:=e.ap aE e.mem;obtain⟨bf,bg,rfl,_,_⟩:=aF.len;refine Oa (Nl<|Rh<|Ol<|PJ J8 rfl<|Ol<|PO e pl29 r rfl<|Ol<|St.len sl29 rfl<|Om<|Nl<|W.block<|P7 (fun μ f v=>∃(x y:Nat→Prop) (i:Nat) (p:List (List UInt8)) (pa:Option Addr) (pc:Nat),Cx X ⟨w,M⟩ x y v∧f 16=(S12 B a.args D)∧f 17=(.int .i64 a.args.length)∧f 18=(.int .i64 i)∧f 1=(S12 pa p pc)∧ExprParts x v a a1 V Y Z a5 c6 B D∧OS Y1 9 ⟨w,M⟩ x y v (S12 pa p pc) p∧Own ⟨w,M⟩ y v aA (ec a a1 V Y Z a5 c6 B D) 31∧i≤a.args.length∧p++Xb (a.args.drop i)=l++Yx a∧p.length+cntL (a.args.drop i)≤l.length+cntE a∧μ=(a.args.length-i)) _ ⟨_,_,0,(l++[a.name]),bf,bg,be,rfl,rfl,rfl,rfl,d,aF,e,(Tv _),(KZ E),(by rw[Uv,Tc,Tf];omega),rfl⟩ ?_);rintro _ _ _ ⟨_,_,i,p,pa,pc,aG,aH,aI,aJ,aK,d,hP,g,hi,hp,hpl,_⟩;obtain⟨_,rfl⟩:=rebK (aC aH<|aC aI<|aC aJ<|aC aK aN);clear aH aI aJ aK;refine Rg<|Ol<|P2 r r (fun aV=>?_)<|fun aV=>?_
   ·refine Nl (PT<|Ud<|PR<|PT<|W.block<|Rg<|Ol<|P4 (j:=i) (u:=(Ar a i)) d.args sl29 io31 r r r (Je o) ?_);intro _ _ _ aL;obtain⟨ae,af,ag,ah,ai,aj,ak,am,rfl,an⟩:=Jb aL.rd;refine Ol (QE (cs:=(ec (Ar a i) ae af ag ah ai aj ak am)) ag31 r r aL.cell<|Ol<|QU aG io31 r ?_);intro _ _ _ _ aW aM S bh bi;have bj:=aW _ g.blk.lt;have d:=d.sp S;refine On (Us (cs':=(ec (Ar a i) ae af ag ah ai aj ak am)) aM bh io31 ?_);intro _ ao U bk;have hP:=(hP.sp S aM bi).sp U ao (fun _ h=>h)
    have an:=(an.sp S).sp U;have g:=(g.spn S).spo U bj;refine Nl (PN<|Ol<|Uo (vs:=(ec (Ar a i) ae af ag ah ai aj ak am)) bk ag31<|Ub<|RO ao hP cb58 r r (ih ao.bd (Mx (Ar a i) an) hP.ow (fun k hk=>(hP.mem k hk).1.1) (by unfold Ar at *;have h7:=lX (l:=a.args) (i:=i) o;omega)<|Ti (Kz o)<|Nat.le_of_lt_succ hN) ?_);intro _ _ _ bl aO _ aP;have d:=(d.sp U).tr aO.tx;replace g:=g.ap aO g.mem;obtain⟨bm,bn,rfl,_,_⟩:=aP.len;refine Ua<|PN<|Ol<|St.add r r (Ja (a:=i) (b:=1) o)<|Om<|Nl<|⟨_,o,_,_,(i+1),(p++Yx (Ar a i)),bm,bn,bl,rfl,rfl,rfl,rfl,d,aP,g,o,(xR o hp),(by have h7:=lX (l:=a.args) (i:=i) o;have h8:=y6 (Ar a i);rw[Tc];unfold Ar at *;omega),rfl⟩
   exact Nl<|PT<|Ue<|QB<|Rg<|Om<|Ua<|PS<|Kd r (SV r)<|RetO.fin aG hM hP<|ES hp o
  refine Nl (Uc<|Rh<|Ol<|PJ J8 rfl<|Ol<|PO e pl29 r rfl<|Ol<|St.len sl29 rfl<|Om<|Nl<|W.block<|P7 (fun μ f v=>∃(x y:Nat→Prop) (i:Nat) (p:List (List UInt8)) (pa:Option Addr) (pc:Nat),Cx X ⟨w,M⟩ x y v∧f 16=(S12 B a.args D)∧f 17=(.int .i64 a.args.length)∧f 18=(.int .i64 i)∧f 1=(S12 pa p pc)∧ExprParts x v a a1 V Y Z a5 c6 B D∧OS Y1 9 ⟨w,M⟩ x y v (S12 pa p pc) p∧Own ⟨w,M⟩ y v aA (ec a a1 V Y Z a5 c6 B D) 31∧i≤a.args.length∧p++Xb (a.args.drop i)=l++Yx a∧p.length+cntL (a.args.drop i)≤l.length+cntE a∧μ=(a.args.length-i)) _ ⟨_,_,0,l,va,vc,ac,rfl,rfl,rfl,rfl,d,hOw,e,(Tv _),(LB E),(by rw[Uv];omega),rfl⟩ ?_);rintro _ _ _ ⟨_,_,i,p,pa,pc,aQ,aR,aS,aT,aU,d,hP,m,hi,hp,hpl,_⟩;obtain⟨_,rfl⟩:=rebK (aC aR<|aC aS<|aC aT<|aC aU aN);clear aR aS aT aU;refine Rg<|Ol<|P2 r r (fun aY=>?_)<|fun aY=>?_
  ·refine Nl (PT<|Ud<|PR<|PT<|W.block<|Rg<|Ol<|P4 (j:=i) (u:=(Ar a i)) d.args sl29 io31 r r r (Je o) ?_);intro _ _ _ aq;obtain⟨F,G,H,I,J,K,L,P,rfl,Q⟩:=Jb aq.rd;refine Ol (QE (cs:=(ec (Ar a i) F G H I J K L P)) ag31 r r aq.cell<|Ol<|QU aQ io31 r ?_);intro _ _ _ _ az ar s aZ a0;have a4:=az _ m.blk.lt;have d:=d.sp s;refine On (Us (cs':=(ec (Ar a i) F G H I J K L P)) ar aZ io31 ?_);intro _ R z a6;have hP:=(hP.sp s ar a0).sp z R (fun _ h=>h)
   have Q:=(Q.sp s).sp z;have m:=(m.spn s).spo z a4;refine Nl (PN<|Ol<|Uo (vs:=(ec (Ar a i) F G H I J K L P)) a6 ag31<|Ub<|RO R hP cb58 r r (ih R.bd (Mx (Ar a i) Q) hP.ow (fun k hk=>(hP.mem k hk).1.1) (by unfold Ar at *;have h7:=lX (l:=a.args) (i:=i) o;omega)<|Ti (Kz o)<|Nat.le_of_lt_succ hN) ?_);intro _ _ _ a8 au _ av;have d:=(d.sp z).tr au.tx;replace m:=m.ap au m.mem;obtain⟨a9,ba,rfl,_,_⟩:=av.len;refine Ua<|PN<|Ol<|St.add r r (Ja (a:=i) (b:=1) o)<|Om<|Nl<|⟨_,o,_,_,(i+1),(p++Yx (Ar a i)),a9,ba,a8,rfl,rfl,rfl,rfl,d,av,m,o,(xR o hp),(by have h7:=lX (l:=a.args) (i:=i) o;have h8:=y6 (Ar a i);rw[Tc];unfold Ar at *;omega),rfl⟩
  exact Nl<|PT<|Ue<|QB<|Rg<|Om<|Ua<|PS<|Kd r (SV r)<|RetO.fin aQ hM hP<|ES hp o
theorem Hf{X:Nat→Prop}{w:World}(hX:XB X w){d:Value}(e:RV Jc X w d a){b:Value}{l:List (List UInt8)}(g:OW Y1 9 X w b l)(m1:∀k,b.ownBlock=some k→X k)(hln:l.length+cntE a≤10000):Calls Tryz.prog 58 #[d,b] w (RetO w b.ownBlock fun v w'=>OWr Y1 9 X w b.ownBlock v w' (l++Yx a)):=yX ((SizeOf.sizeOf a)+1) hX e g m1 hln (VM _)
section
variable{X:Nat→Prop}{w:World}(hX:XB X w)
include hX
theorem BN{i:Value}(N:RV Jc X w i a)(hok:okE a)(hcn:cntE a≤10000):CRt 25 #[i] w fun v w'=>(∃i K,v= .tuple #[i,K]∧(RS Y1 X w' i (nmR a))∧(K=(.int .i64 (Jn a)))):=by
 obtain⟨a1,D,E,F,G,H,I,J,rfl,h⟩:=SR N;have C:=PV hX;refine Cgo Tryz.func25 r r r (Rg<|Ol<|QA C r ?_);intro _ _ j l _ s L d;have h:=h.sp L;refine Oa (Ua<|Rh<|Ol<|Uo (vs:=(ec a a1 D E F G H I J)) d ag31<|Ol<|PK s cb20 r r (xh s.bd (Mx a h) hok) ?_);intro _ m e x M;have h:=h.sp x;have d:=d.spn x;subst M;refine Ua<|Rg<|Ub<|QH r r (fun b=>?_)<|fun b=>?_
 ·refine Nl (Uf<|Om<|Oa<|Ua<|PS<|Xi r r r e ?_);refine⟨_,_,rfl,?_,?_⟩
  ·exact SX ((RS.nil:RS _ _ _ _ _).tr e.wb)<|GJ b
  ·skip
   rfl
 refine Nl (Uc<|Rg<|Ol<|Uo (vs:=(ec a a1 D E F G H I J)) d ag31<|Ol<|RO e (OS.nil:OS Y1 9 w j l m n11 []) cb58 r r (Hf e.bd (Mx a h) (OS.nil:OS Y1 9 w j l m n11 []).ow (fun k hk=>((OS.nil:OS Y1 9 w j l m n11 []).mem k hk).1.1) (by simp only[Te];omega)) ?_);intro _ _ _ y _ _ g;obtain⟨_,_,rfl,_,_⟩:=g.len;refine Oa (Nl<|Rg<|Ub<|RQ y g cb59 r r (It y.bd g.ow (fun k hk=>(g.mem k hk).1.1) (by rw[TJ];exact Tj (y6 a) hcn)) ?_);intro _ _ _ z _ _ p;refine Nl (Rg<|Ub<|RO z p cb60 r r (Iu z.bd p.ow (fun k hk=>(p.mem k hk).1.1) (by rw[mw,TJ];exact Tj (y6 a) hcn)) ?_);intro _ _ _ A _ _ B;obtain⟨_,_,rfl,_,_⟩:=B.len;refine Oa (Ua<|PS<|Xi r r r A ?_);refine⟨_,_,rfl,?_,?_⟩
 ·exact SX (B.toRS A hX)<|(vZ a).trans (EN b)
 ·exact YR<|b.symm
theorem Mn{v0:Value}(r0:RV Jc X w v0 a){nm:List UInt8}{v2:Value}{ye:GExpr}(r2:RV Jc X w v2 ye)(hpa:Yi a=true)(hla:cntE a≤80)(hpy:Yi ye=true)(hly:cntE ye≤80):CRt 27 #[v0,(str nm),v2] w fun v w'=>(∃v0 v1,v= .tuple #[v0,v1]∧(RV Jc X w' v0 ((subE a nm ye).1))∧(v1=(.int .i64 ((subE a nm ye).2)))):=by
 obtain⟨a1,c2,a3,c4,a5,c6,a7,c8,rfl,D⟩:=SR r0;obtain⟨U,V,Y,Z,aa,ab,ac,ad,rfl,x⟩:=SR r2;have C:=PV hX;refine Cgo Tryz.func27 ϱ ϱ ϱ (Rg<|Ol<|QA C ϱ ?_);intro bt _ _ _ _ bu aG m;have D:=D.sp aG;have x:=x.sp aG;refine Ol (QA bu ϱ ?_);intro bv _ _ _ _ bw ah p;refine Ol (PU bw io31 ϱ ?_);intro bx _ _ _ _ aH ae d;have D:=(D.sp ah).sp ae;have x:=(x.sp ah).sp ae;have m:=(m.spn ah).spn ae;have p:=p.spn ae;refine Oa (Nl<|Rh<|Ol<|Uo (vs:=(ec a a1 c2 a3 c4 a5 c6 a7 c8)) m ag31<|Ol<|PK aH cb20 ϱ ϱ (xh aH.bd (Mx a D)<|ue hpa) ?_);intro _ _ ai N bz;have m:=m.spn N;have d:=d.spn N;subst bz;refine Ua<|Rg<|Ub<|QH ϱ ϱ (fun b=>?_)<|fun b=>?_
 ·refine Nl (Uf<|Ol<|PX (cs:=zX) ϱ κ<|Om<|On<|Us (cs':=zX) ai d io31 ?_);intro _ aI _ bA;refine Oa (Nl<|PS<|Jg ϱ ϱ ϱ bA ag31 aI ?_);refine⟨_,_,rfl,?_,?_⟩
  ·exact SS (a:=(.mk 0 [] YT [] [])) ((Zb ω ω ξ RS.nil RS.nil RS.nil RS.nil).tr aI.wb)<|congrArg Prod.fst<|sub1 b
  ·exact YR<|congrArg Prod.snd<|sub1 b
 refine Nl (Uc<|Rh<|Ub<|QF<|PK ai cb18 ϱ ϱ (oy ai.bd) ?_);intro _ _ aj P bB;have D:=(D.sp N).sp P;have x:=(x.sp N).sp P;have p:=(p.spn N).spn P;have d:=d.spn P;refine⟨_,bB,fun h=>?_,fun h=>?_⟩
 ·refine Ol (QI rfl<|Nl<|Uc<|Rh<|Ol<|Uo (vs:=(ec ye U V Y Z aa ab ac ad)) p ag31<|Ol<|PK aj cb20 ϱ ϱ (xh aj.bd (Mx ye x)<|ue hpy) ?_);intro _ bC aJ Q bD;have m:=(m.spn P).spn Q;have p:=p.spn Q;have d:=d.spn Q;subst bD;refine Ua<|Rg<|Ub<|QH ϱ ϱ (fun i=>?_)<|fun i=>?_
  ·refine Nl (Uf<|Ol<|PX (cs:=zX) ϱ κ<|Om<|On<|Us (cs':=zX) aJ d io31 ?_);intro _ aK _ bE;refine Oa (Nl<|PS<|Jg ϱ ϱ ϱ bE ag31 aK ?_);refine⟨_,_,rfl,?_,?_⟩
   ·exact SS (a:=(.mk 0 [] YT [] [])) ((Zb ω ω ξ RS.nil RS.nil RS.nil RS.nil).tr aK.wb)<|congrArg Prod.fst<|sub3 b h i
   ·exact YR<|congrArg Prod.snd<|sub3 b h i
  refine Nl<|Uc<|PT<|QL mixed 6 [[],[0],[],[],[1,2,3],[]] aJ [fx<|ea a a1 c2 a3 c4 a5 c6 a7 c8,fr Jc<|lowE a,fx<|str nm,fx<|ea ye U V Y Z aa ab ac ad,fr Jc<|repE nm (lowE ye)<|lowE a,fun(s:Gh) (v:Value) (w':World)=>∃g':Nat,v= .pointer (some ⟨g',0,none⟩)∧Own w s.2 w' g' zX 31∧bC.heap.size≤g'] κ ⟨sx,sr,sx,sx,sr,(fun _ _ _ _ _ ⟨g,e,o,l⟩ r=>⟨g,e,o.spn r.sp,l⟩),trivial⟩ fun aL B _ ⟨j,z⟩ k=>?_
  have aB:=m.blk.lt;have aD:=p.blk.lt;have aE:=d.blk.lt;have af:=z.tx.size;have D:=(D.sp Q).sp z;have x:=(x.sp Q).sp z;have m:=m.spn z;have p:=p.spn z;have d:=d.spn z;have k:Keep [27,28,29,30,31,10] _ aL:=k;refine⟨⟨fun _=>?_,fun⟨aM,_⟩=>?_,fun _=>?_,fun _=>?_,fun⟨aO,aP,aQ,_⟩=>?_,fun _=>?_,trivial⟩,fun⟨aR,aS,aT,aU,aV,aW,_⟩=>?_⟩
  ·exact Sd0 k fun _=>QC (vs:=(ec a a1 c2 a3 c4 a5 c6 a7 c8)) m ag31 ϱ ϱ ϱ ⟨B,PQ j,rfl⟩
  ·refine Sd1 k aM fun _=>PK j cb63 ϱ ϱ (DU j.bd (Mx a D) hpa ω) ?_;intro _ _ aX aY aZ;exact⟨B,⟨aX,aY⟩,aZ⟩
  ·exact Sd0 k fun _=>PP ⟨B,PQ j,rfl⟩
  ·exact Sd0 k fun _=>QC (vs:=(ec ye U V Y Z aa ab ac ad)) p ag31 ϱ ϱ ϱ ⟨B,PQ j,rfl⟩
  ·obtain⟨_,_,_,_,_,_,_,_,a0,a4⟩:=SR aO;refine Jf k (aC a0<|aC aP<|aC aQ aN) fun _=>P1 (PK j cb62 ϱ ϱ (OL j.bd (Mx (lowE a) a4) (Mx ye x) (Tj (xV a) ω) hpy ω) ?_);intro _ _ a6 a8 a9;exact⟨B,⟨a6,a8⟩,a9⟩
  ·refine Sd0 k fun _=>PU j io31 ϱ ?_;intro ba _ bb bc aF be bf bg;exact⟨(bb,bc),⟨be,bf⟩,ba,rfl,bg,VJ fun hh=>aF _ (Ti hh af) ϱ⟩
  obtain⟨_,_,_,_,_,_,_,_,bh,_⟩:=SR aS;obtain⟨E,F,G,H,I,J,K,L,bi,A⟩:=SR aV;obtain⟨R,bj,bk,S⟩:=aW;have bH:bt≠R:=VV (Ti aB S);have bI:bv≠R:=VV (Ti aD S);have bl:bx≠R:=VV (Ti aE S);obtain⟨_,rfl⟩:=mixK k (aC aR<|aC bh<|aC aT<|aC aU<|aC bi<|aC bj aN);refine On (Us (cs':=(ec (repE nm (lowE ye)<|lowE a) E F G H I J K L)) j bk io31 ?_);intro _ ak am M;have A:=A.sp am;refine Nl (Rh<|Ol<|Uo (vs:=(ec (repE nm (lowE ye)<|lowE a) E F G H I J K L)) M ag31<|Ol<|QF<|PK ak cb49 ϱ ϱ (Bl ak.bd<|Mx (repE nm (lowE ye)<|lowE a) A) ?_);intro _ _ an T bm;have d:=(d.spo am bl).spn T;have M:=M.spn T;refine⟨_,bm,fun y=>?_,fun y=>?_⟩
  ·refine Ol (QI rfl<|Nl<|Uc<|Rg<|Ol<|Uo (vs:=(ec (repE nm (lowE ye)<|lowE a) E F G H I J K L)) M ag31<|On<|Us (cs':=(ec (repE nm (lowE ye)<|lowE a) E F G H I J K L)) an d io31 ?_);intro _ ao bn bo;have A:=(A.sp T).sp bn;refine Oa (Nl<|PS<|Jg ϱ ϱ ϱ bo ag31 ao ?_);refine⟨_,_,rfl,?_,?_⟩
   ·exact SS (a:=(repE nm (lowE ye)<|lowE a)) ((Mx (repE nm (lowE ye)<|lowE a) A).tr ao.wb)<|congrArg Prod.fst<|sub5 b h i<|zO b i<|of_decide_eq_true y
   ·exact YR<|congrArg Prod.snd<|sub5 b h i<|zO b i<|of_decide_eq_true y
  refine Ol (QI rfl<|Nl<|Uf<|Ol<|PX (cs:=zX) ϱ κ<|On<|Us (cs':=zX) an d io31 ?_);intro _ aq _ bp;refine Oa (Nl<|PS<|Jg ϱ ϱ ϱ bp ag31 aq ?_);refine⟨_,_,rfl,?_,?_⟩
  ·exact SS (a:=(.mk 0 [] YT [] [])) ((Zb ω ω ξ RS.nil RS.nil RS.nil RS.nil).tr aq.wb)<|congrArg Prod.fst<|sub4 b h i<|pB<|of_decide_eq_false y
  ·exact YR<|congrArg Prod.snd<|sub4 b h i<|pB<|of_decide_eq_false y
 refine Ol (QI rfl<|Nl<|Uf<|Ol<|PX (cs:=zX) ϱ κ<|On<|Us (cs':=zX) aj d io31 ?_);intro _ ar _ bq;refine Oa (Nl<|PS<|Jg ϱ ϱ ϱ bq ag31 ar ?_);refine⟨_,_,rfl,?_,?_⟩
 ·exact SS (a:=(.mk 0 [] YT [] [])) ((Zb ω ω ξ RS.nil RS.nil RS.nil RS.nil).tr ar.wb)<|congrArg Prod.fst<|sub2 b h
 ·exact YR<|congrArg Prod.snd<|sub2 b h
end
end Go.Wf
namespace Go.Wf
open Go
def Nz{α:Type}(x:Rr α):Prop:=∀p,x≠ .er 0 p
section
variable {α β:Type}
theorem Xv{a:α}{q:Nat}:Nz (Rr.ok a q):=fun _ h=>by cases h
theorem nz_e{e:Int}{q:Nat}(h:e≠0):Nz (Rr.er (α:=α) e q):=fun _ k=>by injection k with k1;exact h k1
theorem Y9{x:Rr α}{f:α→Nat→Rr β}(hx:Nz x)(hf:∀a q,x= .ok a q→Nz (f a q)):Nz (x.th f):=by
 cases x with
 |ok a q=>exact hf a q r
 |er e q=>
  intro p h;have h:Rr.er (α:=β) e q= .er 0 p:=h;injection h with b;exact hx q (by rw[b])
theorem Vk{d:Prop}[Decidable d]{x y:Rr α}(hx:Nz x)(hy:Nz y):Nz (if d then x else y):=by
 by_cases h:d
 ·rw[if_pos h];exact hx
 ·rw[if_neg h];exact hy
end
section
variable {s:List UInt8} {S:Nat→Nat→Rr GExpr} {o p q k c:Nat} {op:Int} {l:List GExpr}
theorem oQ:Nz (tkM s p c):=by
 unfold tkM;split
 ·exact Xv
 ·exact nz_e d
theorem qN:Nz (opnM s o p):=by
 unfold opnM;split
 ·split
  ·exact nz_e d
  ·exact Xv
 ·exact nz_e d
theorem xT:Nz (dgsM s p):=by
 unfold dgsM;split
 ·exact nz_e d
 ·exact Xv
theorem qD:Nz (intM s p):=Y9 xT fun _ _ _=>by
 split
 ·exact nz_e d
 ·exact Xv
theorem uL:∀(k:Nat) (l:List Int) (p:Nat),p≤s.length→s.length-p<k→Nz (Vj s c k l p)
 |0,l,p,_,h=>ω
 |k+1,l,p,hp,h=>by
  unfold Vj;have b:=Xk (s:=s) (p:=p);split
  ·rename_i hf;have a:=(Kc.1 hf).1;exact Y9 qD fun _ q hq=>by
    have k1:=Yc (Z9 (p:=spM s p+1) a) hq;exact uL k _ q k1.2 ω
  ·exact Y9 oQ fun _ _ _=>Xv
theorem Bz(hp:p≤s.length):Nz (Vf s c p):=Y9 qD fun _ q hq=>uL _ _ q (Yc (Z9 hp) hq).2 ω
theorem JN:Nz (numM s p):=Y9 xT fun _ _ _=>by
 split
 ·exact Y9 xT fun _ _ _=>by
   split
   ·exact nz_e d
   ·exact Xv
 ·exact Xv
theorem Bi(hp:p≤s.length):Nz (V5 s op o p):=Y9 qN fun _ _ a=>Y9 (Bz (Yc (Zp hp) a).2) fun _ _ _=>Xv
theorem Ep(hp:p≤s.length):Nz (twoM s op o p):=
 Y9 qN fun _ _ a=>Y9 qD fun _ _ b=>Y9 oQ fun _ _ d=>Y9 oQ fun _ _ e=>by
  have k1:=Yc (Zp hp) a;have k2:=Yc (Z9 k1.2) b;have g:=Yc (Kh k2.2) d;have h:=Yc (Kh g.2) e;exact Y9 (Bz h.2) fun _ _ _=>Xv
variable (hS:∀o p,p≤s.length→(S o p).fw s p)
theorem Mk(hp:p≤s.length)(hZ:∀o p',p<p'→p'≤s.length→Nz (S o p')):Nz (serM s S o p):=
 Y9 qN fun _ _ a=>by
  have k1:=Yc (Zp hp) a;exact Y9 (hZ _ _ ω k1.2) fun _ _ _=>Y9 oQ fun _ _ _=>Xv
include hS
theorem pI{two:Bool}(hp:p≤s.length)(hZ:∀o p',p<p'→p'≤s.length→Nz (S o p')):Nz (oneM s S op two o p):=
 Y9 qN fun _ _ b=>Y9 qD fun _ _ d=>Y9 oQ fun _ _ e=>by
  have k1:=Yc (Zp hp) b;have k2:=Yc (Z9 k1.2) d;have a:=Yc (Kh k2.2) e;refine Y9 (hZ _ _ ω a.2) fun _ _ g=>?_
  have h:=Yc (hS _ _ a.2) g;split
  ·refine Y9 oQ fun _ _ i=>?_
   have j:=Yc (Kh h.2) i;exact Y9 (hZ _ _ ω j.2) fun _ _ _=>Y9 oQ fun _ _ _=>Xv
  ·exact Y9 oQ fun _ _ _=>Xv
theorem Gw{w:List UInt8}{q0:Nat}(hp:p≤s.length)(hZ:∀o p',p<p'→p'≤s.length→Nz (S o p')):Nz (Zx s S w q0 o p):=by
 unfold Zx;exact Vk Xv (Vk Xv (Vk (Bi hp) (Vk (Bi hp) (Vk (Ep hp) (Vk (Ep hp) (Vk (pI hS hp hZ) (Vk (pI hS hp hZ) (Vk (pI hS hp hZ) (Vk (pI hS hp hZ) (Vk (pI hS hp hZ) (Vk (Mk hp hZ) (Vk Xv (nz_e d)))))))))))))
theorem GK(hp:p≤s.length)(hZ:∀o p',p<p'→p'≤s.length→Nz (S o p')):Nz (Yg s S o p):=by
 have hsp:=K2 hp;have hge:=Xk (s:=s) (p:=p);unfold Yg;split
 ·exact Y9 JN fun _ _ _=>Xv
 split
 ·refine Y9 qN fun _ _ a=>?_
  have k1:=Yc (Zp hsp) a;exact Y9 (hZ _ _ ω k1.2) fun _ _ _=>Y9 oQ fun _ _ _=>Xv
 split
 ·dsimp only;split
  ·split
   ·exact nz_e d
   ·exact Xv
  ·exact Y9 (Gw hS (oB hsp) fun o p' _=>hZ o p' ω) fun _ _ _=>Xv
 ·exact nz_e d
theorem Fa(hp:p≤s.length)(hZ:∀o p',p<p'→p'≤s.length→Nz (S o p')):Nz (powM s S o p):=
 Y9 (GK hS hp hZ) fun _ _ _=>by
  split
  ·exact Y9 qD fun _ _ _=>Xv
  ·exact Xv
theorem uN:∀(k:Nat) (l:List GExpr) (p:Nat),p≤s.length→s.length-p<k→(∀o p',p<p'→p'≤s.length→Nz (S o p'))→Nz (yj s S o k l p)
 |0,l,p,_,h,_=>ω
 |k+1,l,p,hp,h,hZ=>by
  unfold yj;have b:=Xk (s:=s) (p:=p);split
  ·rename_i hf;have a:spM s p+1≤s.length:=(Kc.1 hf).1;refine Y9 (Fa hS a fun o p' h=>hZ o p' ω) fun _ q hq=>?_
   have k1:=Yc (mT hS a) hq;exact uN k _ q k1.2 ω fun o p' h=>hZ o p' ω
  ·exact Xv
theorem wQ{minus:Bool}(hp:p≤s.length)(hZ:∀o p',p<p'→p'≤s.length→Nz (S o p')):Nz (Kw s S minus o p):=
 Y9 (Fa hS hp hZ) fun _ q hq=>by
  have k1:=Yc (mT hS hp) hq;exact Y9 (uN hS _ _ q k1.2 ω fun o p' _=>hZ o p' ω) fun _ _ _=>Xv
theorem Ba:∀(k:Nat) (l:List GExpr) (p:Nat),p≤s.length→s.length-p<k→(∀o p',p<p'→p'≤s.length→Nz (S o p'))→Nz (sumL s S o k l p)
 |0,l,p,_,h,_=>ω
 |k+1,l,p,hp,h,hZ=>by
  unfold sumL;have e:=Xk (s:=s) (p:=p);have go:∀b,spM s p+1≤s.length→Nz ((Kw s S b o (spM s p+1)).th fun a q=>sumL s S o k (l++[a]) q):=fun b d=>by
   refine Y9 (wQ hS d fun o p' h=>hZ o p' ω) fun a q hq=>?_
   have k1:=Yc (Y5 hS d) hq;exact Ba k _ q k1.2 ω fun o p' h=>hZ o p' ω
  split
  ·rename_i hf;exact go _ (Kc.1 hf).1
  split
  ·rename_i hf;exact go _ (Kc.1 hf).1
  ·exact Xv
theorem HU(hp:p≤s.length)(hZ:∀o p',p<p'→p'≤s.length→Nz (S o p')):Nz (sumF s S o p):=by
 have a:=Y2 (c:=45) hp;have b:=vd (s:=s) (p:=p) (c:=45);refine Y9 (wQ hS a fun o p' h=>hZ o p' ω) fun _ q hq=>?_
 have k1:=Yc (Y5 hS a) hq;exact Y9 (Ba hS _ _ q k1.2 ω fun o p' h=>hZ o p' ω) fun _ _ _=>Xv
end
theorem E7{s:List UInt8}:∀(k o p:Nat),p≤s.length→s.length-p<k→Nz (sumM s k o p)
 |0,o,p,_,h=>ω
 |k+1,o,p,hp,h=>HU (fun o p h=>xz k o p h) hp fun o p' _ a=>E7 k o p' a ω
theorem Ae(s:List UInt8):RdF s:=by
 have h:Nz (Ve s):=Y9 (E7 _ _ _ (Tv _) ω) fun a _ _=>by
  split
  ·exact nz_e δ
  ·exact Xv
 unfold RdF;unfold Ve at h ⊢;have b:=xz (s:=s) (s.length+1) 0 0 (Tv _);cases hx:sumM s (s.length+1) 0 0 with
 |er e q=>
  rw[hx] at h b;exact⟨fun d=>h q W4,b⟩
 |ok a q=>
  rw[hx] at b;rw[Rr.th_ok];by_cases hl:spM s q<s.length
  ·rw[if_pos hl];exact⟨by decide,VI hl⟩
  ·rw[if_neg hl];exact Tv _
end Go.Wf
namespace Go.Wf
open Go Go.Proofs Go.RowKit
theorem Eh{l:List (List UInt8)}{x:List UInt8}{k:Nat}(h:∀j,j<k→¬l.getD j []=x)(hk:l.length≤k):¬x∈l:=fun hm=>by
 obtain⟨i,hi,e⟩:=List.getElem_of_mem hm;refine h i o ?_;rw[Tq,Tt hi];exact e
set_option maxHeartbeats 8000000 in
theorem rb{X:Nat→Prop}{w:World}(hX:XB X w){s:List UInt8}(hT:T10 X w):CRt 8 #[(str s)] w fun v _=>v=b14:=by
 have C:=PV hX
 have:maxLen=9223372036854775807:=rfl
 refine Cgo Tryz.func8 r r rfl<|Rg<|Ua<|Rh<|Ub<|QW un9 rfl<|Ol<|QN r r (fun eH=>?_)<|fun eH=>?_
 ·refine Nl (Uf<|Ol<|PK C cb9 r r (zk C.bd hT) ?_);intro _ _ C4 _ h6;subst h6;refine Ua<|PS<|Wq r r C4 ?_
  rfl
 refine Nl (Uc<|Rg<|Ub<|PK C cb10 r r (l5 C.bd o (Ae s) (Cy o).1) ?_);intro _ _ C9 eI eJ;have hT:=hT.sp eI;obtain⟨_,_,_,rfl,eK,rfl,rfl⟩:=eJ;obtain⟨i,l,m,p,z,A,B,D,rfl,d⟩:=SR eK;refine Om (Ol<|St.extract r rfl<|Ol<|St.extract r rfl<|Ol<|St.extract r rfl<|Ol<|PU C9 io31 r ?_);intro R _ _ _ _ eL di eM;refine On (Us (cs':=(ec ((Jj s).1) i l m p z A B D)) eL eM io31 ?_);intro _ bF dj I;have hT:=(hT.sp di).sp dj;have d:=(d.sp di).sp dj;refine Oa<|Ua<|Rh<|Ub<|QH r r (fun bn=>?_)<|fun bn=>?_
 ·refine Nl (Uf<|Ol<|Uo (vs:=(ec ((Jj s).1) i l m p z A B D)) I ag31<|Ol<|PX (cs:=zX) r κ<|Ol<|PK bF cb12 r r (q7 bF.bd (Mx ((Jj s).1) d) (b:=(.mk 0 [] YT [] [])) (Zb o o ξ RS.nil RS.nil RS.nil RS.nil)<|Df bn) ?_);intro _ _ dk eN eO;have hT:=hT.sp eN;subst eO;refine Om (OgD<|PK dk cb9 r r (zk dk.bd hT) ?_);intro _ _ eP _ eQ;subst eQ;refine OT<|Ua<|PS<|Wq r r eP ?_
  rfl
 refine Nl (Uc<|PT ?_);obtain⟨hck,hlw,hok⟩:=DQ o (Ae s) bn;refine PN (Ol<|Uo (vs:=(ec ((Jj s).1) i l m p z A B D)) I ag31<|Ol<|PK bF cb14 r r (zM bF.bd (Mx ((Jj s).1) d) hT hok) ?_);intro _ _ dl bW eR;have d:=d.sp bW;have I:=I.spn bW;obtain⟨_,_,rfl,rfl,rfl⟩:=eR;refine Om (Ol<|St.extract r rfl<|Ol<|St.extract r rfl<|Oa<|Ua<|Rh<|Ol<|Uo (vs:=(ec ((Jj s).1) i l m p z A B D)) I ag31<|Ol<|PK dl cb20 r r (xh dl.bd (Mx ((Jj s).1) d) hok) ?_);intro _ _ bX bY eS;have hT:=(hT.sp bW).sp bY;have d:=d.sp bY;have I:=I.spn bY;subst eS;refine Ol<|Rj (t:=false) r r (by rw[decide_eq_true hck];rfl)<|Om<|OgD<|PP<|OgD<|QH r r (fun S=>?_)<|fun S=>?_
 ·refine OgD<|PP<|OgD<|PP<|OgD<|Rj (t:=false) r r (by rw[decide_eq_true<|(Lv hck).resolve_left S];rfl)<|OgD<|QD (t:=true) rfl<|OF<|Nl<|Uc<|PT<|Rm (fun f v=>∃(x y:Nat→Prop),Cx X w x y v∧f 3=(P10 R 0)∧T10 x v∧ExprParts x v ((Jj s).1) i l m p z A B D∧Own w y v R (ec ((Jj s).1) i l m p z A B D) 31) ?_ ?_
  ·refine Rg<|Ub<|QZ (t:=false) r r (decide_eq_false S)<|Nl<|Uc<|⟨_,_,bX,rfl,hT,d,I⟩
  rintro _ _ ⟨_,_,dm,dn,hT,d,H⟩;obtain⟨_,rfl⟩:=rebK (aC dn aN);clear dn;refine Rh (Ol<|Uo (vs:=(ec ((Jj s).1) i l m p z A B D)) H ag31<|Ol<|QF<|PK dm cb13 r r (tV dm.bd<|Mx ((Jj s).1) d) ?_);intro _ _ bG bZ eT;have hT:=hT.sp bZ;have d:=d.sp bZ;have H:=H.spn bZ;obtain⟨eU,eV,ag⟩:=eT;refine⟨eU,eV,fun b0=>?_,fun b0=>?_⟩
  ·replace ag:=ag b0;refine Ol (QI rfl<|Nl<|Uc<|PT ?_);have hnp:=pK ag.1 hlw ag.2;refine PN (Ol<|Uo (vs:=(ec ((Jj s).1) i l m p z A B D)) H ag31<|Ol<|PK bG cb29 r r (vl bG.bd (Mx ((Jj s).1) d) hnp) ?_);intro _ _ eW b1 eX;have hT:=hT.sp b1;have d:=d.sp b1;have H:=H.spn b1;obtain⟨_,T,_,rfl,eY,dp⟩:=eX;obtain⟨az,aA,aB,aD,aE,aF,aG,aH,rfl,e⟩:=SR eY;refine Om (Ol<|St.extract r rfl<|Ol<|St.extract r rfl<|Ol<|PU eW io31 r ?_);intro b2 _ _ _ c9 dq aT dr;have ds:=c9 _ H.blk.lt;refine On (Us (cs':=(ec T az aA aB aD aE aF aG aH)) dq dr io31 ?_);intro _ bo aU F;have hT:=(hT.sp aT).sp aU;have d:=(d.sp aT).sp aU;have e:=(e.sp aT).sp aU;have H:=(H.spn aT).spo aU ds;refine Ua<|PT<|Rm (fun f v=>∃(x y:Nat→Prop),Cx X w x y v∧f 3=(P10 R 0)∧T10 x v∧ExprParts x v ((Jj s).1) i l m p z A B D∧ExprParts x v T az aA aB aD aE aF aG aH∧Own w y v R (ec ((Jj s).1) i l m p z A B D) 31∧Own w y v b2 (ec T az aA aB aD aE aF aG aH) 31) ?_ ?_
   ·refine Rg<|Ub<|PW r r (fun bH=>?_)<|fun bH=>?_
    ·refine Nl (Ud<|PT ?_);obtain⟨aI,bp,aJ⟩:=ua (hnp.nor hck) (Fy dp bH);refine PN (Ol<|Uo (vs:=(ec T az aA aB aD aE aF aG aH)) F ag31<|Ol<|PK bo cb29 r r (vl bo.bd (Mx T e) aI) ?_);intro _ _ dt aK du;have hT:=hT.sp aK;have d:=d.sp aK;have e:=e.sp aK;have H:=H.spn aK;have F:=F.spn aK;obtain⟨_,bq,_,rfl,dv,bI⟩:=du;obtain⟨b3,b4,b5,b6,b7,b8,b9,ca,rfl,br⟩:=SR dv;refine Om (Ol<|St.extract r rfl<|Ol<|St.extract r rfl<|Ol<|PU dt io31 r ?_);intro _ _ _ _ bJ dw ao dx;have dy:=bJ _ H.blk.lt;have dz:=bJ _ F.blk.lt;refine On (Us (cs':=(ec bq b3 b4 b5 b6 b7 b8 b9 ca)) dw dx io31 ?_);intro _ cb aq dA;have hT:=(hT.sp ao).sp aq;have d:=(d.sp ao).sp aq;have e:=(e.sp ao).sp aq;have br:=(br.sp ao).sp aq;have H:=(H.spn ao).spo aq dy;have F:=(F.spn ao).spo aq dz;refine Oa (Nl<|Rg<|Ub<|Rj (t:=false) r r (by rw[decide_eq_true (aJ _ _ bI).1];rfl)<|Om<|OgD<|Uo (vs:=(ec T az aA aB aD aE aF aG aH)) F ag31<|OgD<|Uo (vs:=(ec bq b3 b4 b5 b6 b7 b8 b9 ca)) dA ag31<|OgD<|PK cb cb12 r r (q7 cb.bd (Mx T e) (Mx bq br) (aJ _ _ bI).2) ?_);intro _ _ cc aL dB;have e:=e.sp aL;have F:=F.spn aL;subst dB;refine OgD (QI rfl<|OF<|Om<|OgD<|Uo (vs:=(ec T az aA aB aD aE aF aG aH)) F ag31<|OgD<|PK cc cb20 r r (l7 cc.bd (Mx T e) aI.sz) ?_);intro _ _ dC aM dD;have hT:=(hT.sp aL).sp aM;have d:=(d.sp aL).sp aM;have e:=e.sp aM;have H:=(H.spn aL).spn aM;have F:=F.spn aM;subst dD;refine OgD<|Rj (t:=false) r r (by rw[decide_eq_true bp];rfl)<|OF<|Nl<|Uc<|⟨_,_,dC,rfl,hT,d,e,H,F⟩
    refine Nl<|Uc<|⟨_,_,bo,rfl,hT,d,e,H,F⟩
   rintro _ _ ⟨_,_,cd,ce,hT,d,e,K,U⟩;obtain⟨_,rfl⟩:=rebK (aC ce aN);clear ce;refine Rg (Ol<|Uo (vs:=(ec ((Jj s).1) i l m p z A B D)) K ag31<|Ol<|PX (cs:=[(.int .i64 6),n11,b13,n11,b13,n11,(str []),n11]) r κ<|Ol<|PK cd cb27 r r (Mn cd.bd (Mx ((Jj s).1) d) (ye:=(.mk 6 [] YT [] [])) (Zb o o ξ RS.nil RS.nil RS.nil RS.nil) ag.1 ag.2 ub δ) ?_);intro _ _ dE aO dF;have d:=d.sp aO;have K:=K.spn aO;have U:=U.spn aO;obtain⟨_,_,rfl,dG,rfl⟩:=dF;obtain⟨aV,aW,aX,aY,aZ,a0,a3,a4,rfl,L⟩:=SR dG;refine Om (Ol<|St.extract r rfl<|Ol<|St.extract r rfl<|Ol<|PU dE io31 r ?_);intro cf _ _ _ bK dH ar dI;have dJ:=bK _ K.blk.lt;have dK:=bK _ U.blk.lt;have hT:=(hT.sp aO).sp ar;have e:=(e.sp aO).sp ar;have L:=L.sp ar;have U:=U.spn ar;refine On (Us (cs':=(ec ((subE ((Jj s).1) [122,122,122,122,122,122,122,122,122,122,122,122,122,122,122,122,122,122,122,122]<|.mk 6 [] YT [] []).1) aV aW aX aY aZ a0 a3 a4)) dH dI io31 ?_);intro _ cg au bs;have d:=(d.sp ar).sp au;have K:=(K.spn ar).spo au dJ;refine Oa (Nl<|Rg<|Ol<|Uo (vs:=(ec ((Jj s).1) i l m p z A B D)) K ag31<|Ol<|PK cg cb25 r r (BN cg.bd (Mx ((Jj s).1) d) hok<|Tj ag.2 δ) ?_);intro _ _ dL ah dM;have hT:=(hT.sp au).sp ah;have d:=d.sp ah;have e:=(e.sp au).sp ah;have L:=(L.sp au).sp ah;have K:=K.spn ah;have U:=(U.spo au dK).spn ah;have bs:=bs.spn ah;obtain⟨_,_,rfl,ai,rfl⟩:=dM;obtain⟨ch,ci,rfl,_,_⟩:=ai.len;refine Ub<|St.extract r rfl<|Ol<|St.extract r rfl<|Oa<|Ua<|Rg<|Ua<|Rh<|Ua<|W.block<|P7 (fun μ f v=>∃(x y:Nat→Prop) (k:Nat) (u:Bool),Cx X w x y v∧f 3=(P10 R 0)∧f 14=(P10 cf 0)∧f 15=(.int .i64 ((subE ((Jj s).1) [122,122,122,122,122,122,122,122,122,122,122,122,122,122,122,122,122,122,122,122]<|.mk 6 [] YT [] []).2))∧f 16=(.slice ch (nmR<|(Jj s).1).length ci)∧f 17=(.int .i64 (Jn<|(Jj s).1))∧f 19=(.int .i64 k)∧f 18=(.bool u)∧T10 x v∧ExprParts x v ((Jj s).1) i l m p z A B D∧ExprParts x v T az aA aB aD aE aF aG aH∧ExprParts x v ((subE ((Jj s).1) [122,122,122,122,122,122,122,122,122,122,122,122,122,122,122,122,122,122,122,122]<|.mk 6 [] YT [] []).1) aV aW aX aY aZ a0 a3 a4∧RS Y1 x v (.slice ch (nmR<|(Jj s).1).length ci) (nmR<|(Jj s).1)∧Own w y v R (ec ((Jj s).1) i l m p z A B D) 31∧Own w y v b2 (ec T az aA aB aD aE aF aG aH) 31∧Own w y v cf (ec ((subE ((Jj s).1) [122,122,122,122,122,122,122,122,122,122,122,122,122,122,122,122,122,122,122,122]<|.mk 6 [] YT [] []).1) aV aW aX aY aZ a0 a3 a4) 31∧k≤(nmR (Jj s).1).length∧((u=false→∀j,j<k→¬(nmR (Jj s).1).getD j []=zzN))∧μ=((nmR (Jj s).1).length-k)) _ ⟨_,_,0,false,dL,rfl,rfl,rfl,rfl,rfl,rfl,rfl,hT,d,e,L,ai,K,U,bs,(Tv _),(fun _ j h=>absurd h<|TC j),rfl⟩ ?_
   rintro _ _ _ ⟨_,_,k,u,aj,cj,ck,cm,cn,co,cp,cq,hT,d,e,L,ai,a5,bt,a6,hk,hu,_⟩;obtain⟨_,rfl⟩:=rebK (aC cj<|aC ck<|aC cm<|aC cn<|aC co<|aC cp<|aC cq aN);clear cj ck cm cn co cp cq;refine Rh<|Om<|Ub<|St.len sl50 rfl<|Ol<|P2 r r (fun da=>?_)<|fun da=>?_
   ·refine Nl<|Ud<|PR<|PT<|W.block<|PN<|Ol<|QF<|PP ⟨_,rfl,fun bL=>?_,fun bL=>?_⟩
    ·refine Om<|Oz<|Oz<|Oz<|Oz<|Oz<|OT<|Ua<|PN<|Ub<|St.add r r (Ja (a:=k) (b:=1) o)<|Ua<|⟨_,o,_,_,(k+1),true,aj,rfl,rfl,rfl,rfl,rfl,rfl,rfl,hT,d,e,L,ai,a5,bt,a6,o,(fun h=>by cases h),rfl⟩
    refine Om (OgD<|PP<|OgD<|PP<|OgD<|P4 (j:=k) (u:=((nmR<|(Jj s).1).getD k [])) ai sl50 io9 r r r (Je o) ?_);intro _ _ dc cr;obtain⟨rfl,_⟩:dc=_∧_:=cr.rd;refine OgD<|P0 pl9 r (cr.cell 0 _ r)<|OgD<|QK r r (fun bM=>?_)<|fun bM=>?_
    ·refine OF<|Ua<|PN<|Ub<|St.add r r (Ja (a:=k) (b:=1) o)<|Ua<|⟨_,o,_,_,(k+1),true,aj,rfl,rfl,rfl,rfl,rfl,rfl,rfl,hT,d,e,L,ai,a5,bt,a6,o,(fun h=>by cases h),rfl⟩
    refine OF<|Ua<|PN<|Ub<|St.add r r (Ja (a:=k) (b:=1) o)<|Ua<|⟨_,o,_,_,(k+1),false,aj,rfl,rfl,rfl,rfl,rfl,rfl,rfl,hT,d,e,L,ai,a5,bt,a6,o,(fun _=>oP (P:=fun j=>¬(nmR (Jj s).1).getD j []=zzN) (hu bL) bM),rfl⟩
   refine Nl<|Ue<|QB<|Rg<|Ub<|QZ (t:=true) r r (decide_eq_true (uG hck hlw).1)<|Om<|OgD<|PP<|OgD<|QZ (t:=true) r r (decide_eq_true hck)<|OT<|Om<|OgD<|QF<|PP ⟨_,rfl,fun bN=>?_,fun bN=>?_⟩
   ·refine OgD (PP<|Oz<|Oz<|Oz<|OgD<|QD (t:=true) rfl<|OT<|Om<|OgD<|PK aj cb9 r r (zk aj.bd hT) ?_);intro _ _ dN _ dO;subst dO;refine OT<|Ua<|PS<|Wq r r dN ?_
    rfl
   refine OgD (PP<|OgD<|Uo (vs:=(ec ((subE ((Jj s).1) [122,122,122,122,122,122,122,122,122,122,122,122,122,122,122,122,122,122,122,122]<|.mk 6 [] YT [] []).1) aV aW aX aY aZ a0 a3 a4)) a6 ag31<|OgD<|Uo (vs:=(ec ((Jj s).1) i l m p z A B D)) a5 ag31 ?_);refine OgD (PK aj cb12 r r (q7 aj.bd (Mx ((subE ((Jj s).1) [122,122,122,122,122,122,122,122,122,122,122,122,122,122,122,122,122,122,122,122]<|.mk 6 [] YT [] []).1) L) (Mx ((Jj s).1) d)<|(uG hck hlw).2 (Eh (hu bN) o)) ?_);intro _ _ ct dP dQ;have hT:=hT.sp dP;subst dQ;refine OgD (QD (t:=false) rfl<|OT<|Om<|OgD<|PK ct cb9 r r (zk ct.bd hT) ?_);intro _ _ dR _ dS;subst dS;refine OT<|Ua<|PS<|Wq r r dR ?_
   rfl
  refine Ol (QI rfl<|Nl<|Uf<|Ol<|PK bG cb9 r r (zk bG.bd hT) ?_);intro _ _ dT _ dU;subst dU;refine Ua<|PS<|Wq r r dT ?_
  rfl
 refine OgD<|PP<|Oz<|Oz<|OgD<|QD (t:=false) rfl<|OF<|Nl<|Uc<|PT<|Rm (fun f v=>∃(x y:Nat→Prop),Cx X w x y v∧f 3=(P10 R 0)∧T10 x v∧ExprParts x v ((Jj s).1) i l m p z A B D∧Own w y v R (ec ((Jj s).1) i l m p z A B D) 31) ?_ ?_
 ·refine Rg (Ub<|QZ (t:=true) r r (decide_eq_true S)<|Nl<|Ud<|PT ?_);have hsm:smE (Jj s).1:=⟨_,_,_,(Mx ((Jj s).1) d)⟩;have hpm:=Pg S hok hsm hlw;refine PN (Ub<|PK bX cb10 r r (l5 bX.bd (M8 S) (LN S hok hsm hlw)<|M6 S hok hsm hlw) ?_);intro _ _ dV bu dW;have d:=d.sp bu;have I:=I.spn bu;obtain⟨_,_,_,rfl,dX,rfl,rfl⟩:=dW;obtain⟨cu,cv,cw,cx,cy,cz,cE,cF,rfl,bv⟩:=SR dX;refine Om (Ol<|St.extract r rfl<|Ol<|St.extract r rfl<|Ol<|St.extract r rfl<|Ol<|PU dV io31 r ?_);intro _ _ _ _ dd dY a7 dZ;have d0:=dd _ I.blk.lt;have hT:=(hT.sp bu).sp a7;refine On (Us (cs':=(ec ((Jj<|(prE<|(Jj s).1).1).1) cu cv cw cx cy cz cE cF)) dY dZ io31 ?_);intro _ cG a8 d1;have d:=(d.sp a7).sp a8;have bv:=(bv.sp a7).sp a8;have I:=(I.spn a7).spo a8 d0;refine Oa (Ua<|Rg<|Ub<|Rj (t:=false) r r (by rw[decide_eq_true (by rw[hpm])];rfl)<|Om<|OgD<|PP<|OgD<|Rj (t:=false) r r (by rw[decide_eq_true (by rw[hpm];rfl)];rfl)<|OF<|Om<|OgD<|Uo (vs:=(ec ((Jj<|(prE<|(Jj s).1).1).1) cu cv cw cx cy cz cE cF)) d1 ag31 ?_);refine OgD (Uo (vs:=(ec ((Jj s).1) i l m p z A B D)) I ag31<|OgD<|PK cG cb12 r r (q7 cG.bd (Mx ((Jj<|(prE<|(Jj s).1).1).1) bv) (Mx ((Jj s).1) d) (by rw[hpm])) ?_);intro _ _ d2 bw d3;have hT:=(hT.sp a8).sp bw;have d:=d.sp bw;have I:=I.spn bw;subst d3;refine OgD<|QI rfl<|OF<|Nl<|Uc<|⟨_,_,d2,rfl,hT,d,I⟩
 rintro _ _ ⟨_,_,cH,cI,hT,d,E⟩;obtain⟨_,rfl⟩:=rebK (aC cI aN);clear cI;refine Rh (Ol<|Uo (vs:=(ec ((Jj s).1) i l m p z A B D)) E ag31<|Ol<|QF<|PK cH cb13 r r (tV cH.bd<|Mx ((Jj s).1) d) ?_);intro _ _ a9 bx d4;have hT:=hT.sp bx;have d:=d.sp bx;have E:=E.spn bx;obtain⟨d5,d6,Q⟩:=d4;refine⟨d5,d6,fun bO=>?_,fun bO=>?_⟩
 ·replace Q:=Q bO;refine Ol (QI rfl<|Nl<|Uc<|PT ?_);have hnp:=pK Q.1 hlw Q.2;refine PN (Ol<|Uo (vs:=(ec ((Jj s).1) i l m p z A B D)) E ag31<|Ol<|PK a9 cb29 r r (vl a9.bd (Mx ((Jj s).1) d) hnp) ?_);intro _ _ d7 bz d8;have hT:=hT.sp bz;have d:=d.sp bz;have E:=E.spn bz;obtain⟨_,J,_,rfl,d9,de⟩:=d8;obtain⟨V,Y,Z,aa,ab,ac,ad,ae,rfl,g⟩:=SR d9;refine Om (Ol<|St.extract r rfl<|Ol<|St.extract r rfl<|Ol<|PU d7 io31 r ?_);intro cJ _ _ _ df eb ba ed;have ee:=df _ E.blk.lt;refine On (Us (cs':=(ec J V Y Z aa ab ac ad ae)) eb ed io31 ?_);intro _ bA bb G;have hT:=(hT.sp ba).sp bb;have d:=(d.sp ba).sp bb;have g:=(g.sp ba).sp bb;have E:=(E.spn ba).spo bb ee;refine Ua<|PT<|Rm (fun f v=>∃(x y:Nat→Prop),Cx X w x y v∧f 3=(P10 R 0)∧T10 x v∧ExprParts x v ((Jj s).1) i l m p z A B D∧ExprParts x v J V Y Z aa ab ac ad ae∧Own w y v R (ec ((Jj s).1) i l m p z A B D) 31∧Own w y v cJ (ec J V Y Z aa ab ac ad ae) 31) ?_ ?_
  ·refine Rg<|Ub<|PW r r (fun bP=>?_)<|fun bP=>?_
   ·refine Nl (Ud<|PT ?_);obtain⟨aI,bp,aJ⟩:=ua (hnp.nor hck) (Fy de bP);refine PN (Ol<|Uo (vs:=(ec J V Y Z aa ab ac ad ae)) G ag31<|Ol<|PK bA cb29 r r (vl bA.bd (Mx J g) aI) ?_);intro _ _ ef aP eg;have hT:=hT.sp aP;have d:=d.sp aP;have g:=g.sp aP;have E:=E.spn aP;have G:=G.spn aP;obtain⟨_,bB,_,rfl,eh,bQ⟩:=eg;obtain⟨cK,cL,cM,cN,cO,cP,cQ,cR,rfl,bC⟩:=SR eh;refine Om (Ol<|St.extract r rfl<|Ol<|St.extract r rfl<|Ol<|PU ef io31 r ?_);intro _ _ _ _ bR ei av ej;have ek:=bR _ E.blk.lt;have el:=bR _ G.blk.lt;refine On (Us (cs':=(ec bB cK cL cM cN cO cP cQ cR)) ei ej io31 ?_);intro _ cS aw em;have hT:=(hT.sp av).sp aw;have d:=(d.sp av).sp aw;have g:=(g.sp av).sp aw;have bC:=(bC.sp av).sp aw;have E:=(E.spn av).spo aw ek;have G:=(G.spn av).spo aw el;refine Oa (Nl<|Rg<|Ub<|Rj (t:=false) r r (by rw[decide_eq_true (aJ _ _ bQ).1];rfl)<|Om<|OgD<|Uo (vs:=(ec J V Y Z aa ab ac ad ae)) G ag31<|OgD<|Uo (vs:=(ec bB cK cL cM cN cO cP cQ cR)) em ag31 ?_);refine OgD (PK cS cb12 r r (q7 cS.bd (Mx J g) (Mx bB bC) (aJ _ _ bQ).2) ?_);intro _ _ cT aQ en;have g:=g.sp aQ;have G:=G.spn aQ;subst en;refine OgD (QI rfl<|OF<|Om<|OgD<|Uo (vs:=(ec J V Y Z aa ab ac ad ae)) G ag31<|OgD<|PK cT cb20 r r (l7 cT.bd (Mx J g) aI.sz) ?_);intro _ _ eo aR ep;have hT:=(hT.sp aQ).sp aR;have d:=(d.sp aQ).sp aR;have g:=g.sp aR;have E:=(E.spn aQ).spn aR;have G:=G.spn aR;subst ep;refine OgD<|Rj (t:=false) r r (by rw[decide_eq_true bp];rfl)<|OF<|Nl<|Uc<|⟨_,_,eo,rfl,hT,d,g,E,G⟩
   refine Nl<|Uc<|⟨_,_,bA,rfl,hT,d,g,E,G⟩
  rintro _ _ ⟨_,_,cU,cV,hT,d,g,M,af⟩;obtain⟨_,rfl⟩:=rebK (aC cV aN);clear cV;refine Rg (Ol<|Uo (vs:=(ec ((Jj s).1) i l m p z A B D)) M ag31<|Ol<|PX (cs:=[(.int .i64 6),n11,b13,n11,b13,n11,(str []),n11]) r κ<|Ol<|PK cU cb27 r r (Mn cU.bd (Mx ((Jj s).1) d) (ye:=(.mk 6 [] YT [] [])) (Zb o o ξ RS.nil RS.nil RS.nil RS.nil) Q.1 Q.2 ub δ) ?_);intro _ _ eq aS er;have d:=d.sp aS;have M:=M.spn aS;have af:=af.spn aS;obtain⟨_,_,rfl,es,rfl⟩:=er;obtain⟨bc,be,bf,bg,bh,bi,bj,bk,rfl,N⟩:=SR es;refine Om (Ol<|St.extract r rfl<|Ol<|St.extract r rfl<|Ol<|PU eq io31 r ?_);intro cW _ _ _ bS et ax eu;have ev:=bS _ M.blk.lt;have ew:=bS _ af.blk.lt;have hT:=(hT.sp aS).sp ax;have g:=(g.sp aS).sp ax;have N:=N.sp ax;have af:=af.spn ax;refine On (Us (cs':=(ec ((subE ((Jj s).1) [122,122,122,122,122,122,122,122,122,122,122,122,122,122,122,122,122,122,122,122]<|.mk 6 [] YT [] []).1) bc be bf bg bh bi bj bk)) et eu io31 ?_);intro _ cX ay bD;have d:=(d.sp ax).sp ay;have M:=(M.spn ax).spo ay ev;refine Oa (Nl<|Rg<|Ol<|Uo (vs:=(ec ((Jj s).1) i l m p z A B D)) M ag31<|Ol<|PK cX cb25 r r (BN cX.bd (Mx ((Jj s).1) d) hok<|Tj Q.2 δ) ?_);intro _ _ ex ak ey;have hT:=(hT.sp ay).sp ak;have d:=d.sp ak;have g:=(g.sp ay).sp ak;have N:=(N.sp ay).sp ak;have M:=M.spn ak;have af:=(af.spo ay ew).spn ak;have bD:=bD.spn ak;obtain⟨_,_,rfl,am,rfl⟩:=ey;obtain⟨cY,cZ,rfl,_,_⟩:=am.len;refine Ub<|St.extract r rfl<|Ol<|St.extract r rfl<|Oa<|Ua<|Rg<|Ua<|Rh<|Ua<|W.block<|P7 (fun μ f v=>∃(x y:Nat→Prop) (k:Nat) (u:Bool),Cx X w x y v∧f 3=(P10 R 0)∧f 14=(P10 cW 0)∧f 15=(.int .i64 ((subE ((Jj s).1) [122,122,122,122,122,122,122,122,122,122,122,122,122,122,122,122,122,122,122,122]<|.mk 6 [] YT [] []).2))∧f 16=(.slice cY (nmR<|(Jj s).1).length cZ)∧f 17=(.int .i64 (Jn<|(Jj s).1))∧f 19=(.int .i64 k)∧f 18=(.bool u)∧T10 x v∧ExprParts x v ((Jj s).1) i l m p z A B D∧ExprParts x v J V Y Z aa ab ac ad ae∧ExprParts x v ((subE ((Jj s).1) [122,122,122,122,122,122,122,122,122,122,122,122,122,122,122,122,122,122,122,122]<|.mk 6 [] YT [] []).1) bc be bf bg bh bi bj bk∧RS Y1 x v (.slice cY (nmR<|(Jj s).1).length cZ) (nmR<|(Jj s).1)∧Own w y v R (ec ((Jj s).1) i l m p z A B D) 31∧Own w y v cJ (ec J V Y Z aa ab ac ad ae) 31∧Own w y v cW (ec ((subE ((Jj s).1) [122,122,122,122,122,122,122,122,122,122,122,122,122,122,122,122,122,122,122,122]<|.mk 6 [] YT [] []).1) bc be bf bg bh bi bj bk) 31∧k≤(nmR (Jj s).1).length∧((u=false→∀j,j<k→¬(nmR (Jj s).1).getD j []=zzN))∧μ=((nmR (Jj s).1).length-k)) _ ⟨_,_,0,false,ex,rfl,rfl,rfl,rfl,rfl,rfl,rfl,hT,d,g,N,am,M,af,bD,(Tv _),(fun _ j h=>absurd h<|TC j),rfl⟩ ?_
  rintro _ _ _ ⟨_,_,k,u,an,c0,c1,c2,c3,c4,c5,c6,hT,d,g,N,am,bl,bE,bm,hk,hu,_⟩;obtain⟨_,rfl⟩:=rebK (aC c0<|aC c1<|aC c2<|aC c3<|aC c4<|aC c5<|aC c6 aN);clear c0 c1 c2 c3 c4 c5 c6;refine Rh<|Om<|Ub<|St.len sl50 rfl<|Ol<|P2 r r (fun dg=>?_)<|fun dg=>?_
  ·refine Nl<|Ud<|PR<|PT<|W.block<|PN<|Ol<|QF<|PP ⟨_,rfl,fun bT=>?_,fun bT=>?_⟩
   ·refine Om<|Oz<|Oz<|Oz<|Oz<|Oz<|OT<|Ua<|PN<|Ub<|St.add r r (Ja (a:=k) (b:=1) o)<|Ua<|⟨_,o,_,_,(k+1),true,an,rfl,rfl,rfl,rfl,rfl,rfl,rfl,hT,d,g,N,am,bl,bE,bm,o,(fun h=>by cases h),rfl⟩
   refine Om (OgD<|PP<|OgD<|PP<|OgD<|P4 (j:=k) (u:=((nmR<|(Jj s).1).getD k [])) am sl50 io9 r r r (Je o) ?_);intro _ _ dh c7;obtain⟨rfl,_⟩:dh=_∧_:=c7.rd;refine OgD<|P0 pl9 r (c7.cell 0 _ r)<|OgD<|QK r r (fun bU=>?_)<|fun bU=>?_
   ·refine OF<|Ua<|PN<|Ub<|St.add r r (Ja (a:=k) (b:=1) o)<|Ua<|⟨_,o,_,_,(k+1),true,an,rfl,rfl,rfl,rfl,rfl,rfl,rfl,hT,d,g,N,am,bl,bE,bm,o,(fun h=>by cases h),rfl⟩
   refine OF<|Ua<|PN<|Ub<|St.add r r (Ja (a:=k) (b:=1) o)<|Ua<|⟨_,o,_,_,(k+1),false,an,rfl,rfl,rfl,rfl,rfl,rfl,rfl,hT,d,g,N,am,bl,bE,bm,o,(fun _=>oP (P:=fun j=>¬(nmR (Jj s).1).getD j []=zzN) (hu bT) bU),rfl⟩
  refine Nl<|Ue<|QB<|Rg<|Ub<|QZ (t:=true) r r (decide_eq_true (uG hck hlw).1)<|Om<|OgD<|PP<|OgD<|QZ (t:=true) r r (decide_eq_true hck)<|OT<|Om<|OgD<|QF<|PP ⟨_,rfl,fun bV=>?_,fun bV=>?_⟩
  ·refine OgD (PP<|Oz<|Oz<|Oz<|OgD<|QD (t:=true) rfl<|OT<|Om<|OgD<|PK an cb9 r r (zk an.bd hT) ?_);intro _ _ ez _ eA;subst eA;refine OT<|Ua<|PS<|Wq r r ez ?_
   rfl
  refine OgD (PP<|OgD<|Uo (vs:=(ec ((subE ((Jj s).1) [122,122,122,122,122,122,122,122,122,122,122,122,122,122,122,122,122,122,122,122]<|.mk 6 [] YT [] []).1) bc be bf bg bh bi bj bk)) bm ag31<|OgD<|Uo (vs:=(ec ((Jj s).1) i l m p z A B D)) bl ag31 ?_);refine OgD (PK an cb12 r r (q7 an.bd (Mx ((subE ((Jj s).1) [122,122,122,122,122,122,122,122,122,122,122,122,122,122,122,122,122,122,122,122]<|.mk 6 [] YT [] []).1) N) (Mx ((Jj s).1) d)<|(uG hck hlw).2 (Eh (hu bV) o)) ?_);intro _ _ c8 eB eC;have hT:=hT.sp eB;subst eC;refine OgD (QD (t:=false) rfl<|OT<|Om<|OgD<|PK c8 cb9 r r (zk c8.bd hT) ?_);intro _ _ eD _ eE;subst eE;refine OT<|Ua<|PS<|Wq r r eD ?_
  rfl
 refine Ol (QI rfl<|Nl<|Uf<|Ol<|PK a9 cb9 r r (zk a9.bd hT) ?_);intro _ _ eF _ eG;subst eG;refine Ua<|PS<|Wq r r eF ?_
 rfl
end Go.Wf
namespace Go.Proofs.YtjiojpmoleilgaaGreatDoor
open Go Go.Proofs Go.Wf Go.RowKit Go.ChangeShapes Go.WideShapes Go.ChangeMaps
theorem FP:Tryz.prog.inits.idxOf? 8=none:=k
theorem LC(s:ByteArray):Value.string s=str s.data.toList:=by obtain⟨⟨_⟩⟩:=s;rfl
def mn:Array Value:= #[.string ⟨#[]⟩]
theorem wOk8(os:Os):Input.okWideB Tryz.prog ((World.laidAll Tryz.prog os qt).forCall (fun _ _=>0) ⟨#[],mn,[]⟩) 8 ⟨#[],mn,[]⟩=true:=k
theorem NN(os:Os)(H:Type)(enc:TypeId×Value→H):Rows.exprStableSpec.preB enc Tryz.prog Tryz.f8 [] false ((World.laidAll Tryz.prog os qt).forCall (fun _ _=>0) ⟨#[],mn,[]⟩).memory mn 8=true:=k
theorem Ix(os:Os)(H:Type)(enc:TypeId×Value→H):Rows.exprStableSpec.sizedB enc Tryz.prog Tryz.f8 false ((World.laidAll Tryz.prog os qt).forCall (fun _ _=>0) ⟨#[],mn,[]⟩).memory mn 8=true:=k
theorem Hn(os:Os)(started:os.Started)(H:Type)(enc:TypeId×Value→H):
  ReturnsInHanded {} Tryz.checked os 8 .any (fun w args=>(Rows.exprStableSpec.pre enc Tryz.prog Tryz.f8 [] false w args∧laidMetH Tryz.prog qt w)∧sizedMet enc Tryz.prog Tryz.f8 (OpenSpec.ofChange Rows.exprStableSpec) false w args)
   (Rows.exprStableSpec.post enc Tryz.prog Tryz.f8 false true false false):=by
 refine returnsInHanded_of_change_and (C:=Tryz.checked) (X:=fun w _=>laidMetH Tryz.prog qt w) (fun _ _ _ hh h=>h.of_heap hh) NL started FP Tryz.func8
  (ChangeSpec.witness_shaped (enc:=enc) (C:=Tryz.checked) (os:=os) (X:=fun w _=>laidMetH Tryz.prog qt w) false (World.laidAll Tryz.prog os qt) mn 8 (World.laidAll_os _ _ _)
   (World.shaped_of_ZipB (wZip os _) (Pq os _)) (wOk8 os) (NN os H enc) (Ix os H enc)
   (by rw[MakeChecks.laidMetH_plain _ _ _ Ef];exact laidMet_laidAll _ (Oe os) (Hi os))) ?_
 intro W base args ds _ _ a hW _ _ hL _;have hval:∀(j:Nat) t v,Tryz.f8.params[j]? =some t→args[j]? =some v→Value.okWide Tryz.prog W .any base t v:=a;have hW':=hW;obtain⟨b,_,g,hV,rfl,_,_⟩:=hW;have hA:DataW.TrodAll enc Tryz.prog W 0 (fun _=>true) true Tryz.f8.params.toList args.toList ds b:=g;rw[Tryz.params8] at hA hval;obtain⟨k,_,rfl,rfl,i⟩:=trodAll_one hA;obtain⟨rfl,rfl⟩:=trodVars_none hV;obtain⟨s0,d,_,_,_⟩:=open_string und9 (hval 0 9 k r r) i;have d:=d.trans (LC s0);subst d;have hlt:∀x∈b,x.block<W.heap.size:=fun x hx=>hW'.lt x YL;have call:=rb (X:=NX) (w:=W) (fun _ h=>h.elim) (s:=s0.data.toList) (MU hL);refine call.mono fun e _ hr=>?_
 cases e with
 |returned v=>
  obtain⟨rfl,hb⟩:=hr;exact⟨_,rfl,_,_,_,[],b,[],hW',trodAll_mk1 (shut_bool und4 _),
   trodAll_mk1 (Below.trod wx O0 lt9 i hb (fun x hx=>hlt x R')),rfl,hb.frame _,fun h=>by cases h⟩
 |panicked ch=>exact hr.elim
 |outgrown=>exact hr.elim
theorem Fm:Tryz.prog.funcNamed "halfplane/halfplanelaw52.ExprStable" =some 8:=k
theorem Po:Tryz.f8.isInstance Tryz.prog Rows.exprStableRow.origin Rows.exprStableRow.targs:=of_decide_eq_true k
theorem nw:Rows.ExprStableSaid:=
 OpenClaim.holds_of_wide 8 Tryz.f8 r r r r r r r ⟨rfl,rfl,rfl,rfl,rfl⟩ r r r r r Fm Tryz.func8 Lm
  Po (by unfold Func.isWrapper;first|(rw[if_pos (by decide +kernel)];kernel_rfl)|(rw[if_neg (by decide +kernel)];exact⟨rfl,rfl⟩))
  (fun os started H enc _=>Hn os started H enc)
end Go.Proofs.YtjiojpmoleilgaaGreatDoor
