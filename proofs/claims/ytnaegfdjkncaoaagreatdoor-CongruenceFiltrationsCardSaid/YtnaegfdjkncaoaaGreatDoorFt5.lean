/- Part 5 of the texts for the claim. -/
import Derived.Test.YtnaegfdjkncaoaaGreatDoorFt4
set_option linter.unusedVariables false
set_option linter.unusedSimpArgs false
set_option maxRecDepth 100000
set_option maxHeartbeats 4000000
noncomputable section
namespace Go.Wf
open Go Go.Proofs Go.RowKit
theorem RV.rat_small{X:Nat→Prop}{w:World}{v:Value}{a:GRat}(h:RV Jj X w v a):Jp a.num.mag∧Jp a.den.mag:=by
 obtain⟨s,c,e,f,rfl,b,d⟩:=TN h;exact⟨b.u32_small,d.u32_small⟩
theorem m6{X:Nat→Prop}{w:World}(hX:XB X w){k:Value}{a:GInt}(l:RV Jo X w k a)  :CRt 82 #[k] w fun v w'=>v=(.bool (decide (a=ofZ 1))):=by
 obtain⟨n,o,rfl,g⟩:=RV.int l;have C:=Cx.start hX;have sa:=l.int_small;refine Cgo Tryz.func82 rfl rfl rfl (Rg<|Ol<|R9 C rfl ?_);intro y z A B r h m e;have g:=g.sp m;refine Ua<|Rg<|Ol<|RI J4 rfl<|Ol<|RN e pl38 rfl rfl<|Ol<|St.len sl38 rfl<|Ol<|Sj rfl rfl (fun b=>?_)<|fun b=>?_
 ·refine Om (OgD<|RI J4 rfl<|OgD<|RN e pl38 rfl rfl<|OgD<|Sd (j:=0) (u:=(a.mag.getD 0 0)) g sl38 io96 rfl rfl rfl (Ji (by omega)) ?_);intro s x i f;obtain⟨rfl,p⟩:i=_∧_:=f.rd;refine OgD<|Sa pl96 rfl (f.cell 0 _ rfl)<|OgD<|Sj rfl rfl (fun d=>?_)<|fun d=>?_
  ·exact OT<|Om<|OgD<|RI Zp rfl<|OgD<|RN e pl4 rfl rfl<|OgD<|Sr rfl<|OT<|Ua<|RY<|Wq rfl rfl h<|congrArg (Value.bool)<|MW b d
  exact OT<|Om<|Oz<|Oz<|Oz<|OF<|Ua<|RY<|Wq rfl rfl h<|congrArg (Value.bool)<|KO d
 exact Om<|Oz<|Oz<|Oz<|Oz<|Oz<|OF<|Om<|Oz<|Oz<|Oz<|OF<|Ua<|RY<|Wq rfl rfl h<|congrArg (Value.bool)<|JO b
theorem gU{X:Nat→Prop}{w:World}(hX:XB X w){v0:Value}{n:GInt}(r0:RV Jo X w v0 n){v1:Value}{d:GInt}(r1:RV Jo X w v1 d)(hln:n.mag.length≤274877906944)(hld:d.mag.length≤274877906944):CRt 96 #[v0,v1] w fun v w'=>RV Jj X w' v (ofQ (Rat.divInt n.toZ d.toZ)):=by
 obtain⟨a1,c2,rfl,h3⟩:=RV.int r0;obtain⟨a4,c5,rfl,h6⟩:=RV.int r1;have C:=Cx.start hX;have sn:=r0.int_small;have sd:=r1.int_small;have hN:=Jv sn;have hD:=Jv sd;refine Cgo Tryz.func96 rfl rfl rfl (Rg<|Ol<|R9 C rfl ?_);intro g7 w8 x9 eb da cO bN E;refine Ol (R9 cO rfl ?_);intro ec ed ee ef bU cP a6 Y;have V:=bU _ E.blk.lt;have h3:=(h3.sp bN).sp a6;have h6:=(h6.sp bN).sp a6;have E:=E.spn a6;refine Ol (RR cP io42 rfl ?_);intro eg eh ei ej a7 cQ aX f;have aY:=a7 _ E.blk.lt;have aZ:=a7 _ Y.blk.lt;refine Nl<|RZ<|Sg mixed 3 [[],[0],[]] cQ [fx<|.agg #[(.bool n.neg),(.slice a1 n.mag.length c2)],fr Jo<|ofZ n.toZ,fx<|.agg #[(.bool d.neg),(.slice a4 d.mag.length c5)]] (by kernel_rfl) ⟨sx,sr,sx,trivial⟩ fun cR a8 ek ⟨ah,aJ⟩ ai=>?_
 have h3:=(h3.sp aX).sp aJ;have h6:=(h6.sp aX).sp aJ;have E:=(E.spn aX).spn aJ;have Y:=(Y.spn aX).spn aJ;have ai:Keep [6,7,8] _ cR:=ai;refine⟨⟨fun _=>?_,fun⟨cS,_⟩=>?_,fun _=>?_,trivial⟩,fun⟨cT,cU,cV,_⟩=>?_⟩
 ·exact Sd0 ai fun _=>RX (vs:=(zzC n a1 c2)) E ag40 rfl rfl rfl ⟨a8,RJ ah,rfl⟩
 ·refine Sd1 ai cS fun _=>RH ah wI rfl rfl (yp ah.bd (a:=n) (Je h3) (by omega)) ?_;intro el em cW cX cY;exact⟨a8,⟨cW,cX⟩,cY⟩
 ·exact Sd0 ai fun _=>RX (vs:=(zzC d a4 c5)) Y ag40 rfl rfl rfl ⟨a8,RJ ah,rfl⟩
 obtain⟨B,D,cZ,o⟩:=RV.int cU;obtain⟨en,rfl⟩:=mixK ai (aC cT<|aC cZ<|aC cV aN);refine Ol (RH ah wI rfl rfl (yp ah.bd (a:=d) (Je h6) (by omega)) ?_);intro eo ep c0 a0 c1;have E:=E.spn a0;have f:=(f.spn aJ).spn a0;obtain⟨z,A,rfl,k⟩:=RV.int c1;refine On (Us (cs':=(zzC (ofZ n.toZ) B D)) c0 E io40 ?_);intro eq c3 a2 j;have o:=(o.sp a0).sp a2;have Y:=(Y.spn a0).spo a2 (UQ V);refine On (Us (cs':=(zzC (ofZ d.toZ) z A)) c3 Y io40 ?_);intro er Z aK g;have k:=(k.sp a2).sp aK;have j:=j.spo aK V;have f:=(f.spo a2<|UQ aY).spo aK (UQ aZ);refine Nl<|RZ<|W.block<|Rg<|Ol<|RI J4 rfl<|Ol<|RN g pl38 rfl rfl<|Ol<|St.len sl38 rfl<|Ol<|Sj rfl rfl (fun a9=>?_)<|fun a9=>?_
 ·refine Om (Oz<|Oz<|Oz<|Oz<|OT<|Ua<|Uf<|Ol<|RH Z cb44 rfl rfl (xv Z.bd (by decide) (by decide)) ?_);intro es et c4 c6 c7;have f:=f.spn c6;obtain⟨bO,bP,rfl,ba⟩:=RV.int c7;refine Ol (Si (cs:=[(.bool false),(.slice none 0 0),(.bool (ofZ 1).neg),(.slice bO (ofZ 1).mag.length bP)]) rfl (by kernel_rfl)<|On<|Us (cs':=[(.bool false),(.slice none 0 0),(.bool (ofZ 1).neg),(.slice bO (ofZ 1).mag.length bP)]) c4 f io42 ?_);intro eu bQ c8 c9;have ba:=ba.sp c8;refine Nl (RY<|J0 rfl (TL c9 rfl ag42 rfl)<|RM ?_ bQ.below);exact TM (a:=(⟨⟨false,[]⟩,⟨(ofZ 1).neg,(ofZ 1).mag⟩⟩:GRat)) ((J2 RS.nil ba).tr (Tr.weak bQ.base))<|(lz (by first|(left;exact Zc.1 (by omega))|(right;exact Zc.1 (by omega))))
 refine Om<|OgD<|RI J4 rfl<|OgD<|RN j pl38 rfl rfl<|OgD<|St.len sl38 rfl<|OgD<|Sj rfl rfl (fun bV=>?_)<|fun bV=>?_
 ·refine OF (Ua<|Uf<|Ol<|RH Z cb44 rfl rfl (xv Z.bd (by decide) (by decide)) ?_);intro ev ew bW bX bY;have f:=f.spn bX;obtain⟨bb,be,rfl,aL⟩:=RV.int bY;refine Ol (Si (cs:=[(.bool false),(.slice none 0 0),(.bool (ofZ 1).neg),(.slice bb (ofZ 1).mag.length be)]) rfl (by kernel_rfl)<|On<|Us (cs':=[(.bool false),(.slice none 0 0),(.bool (ofZ 1).neg),(.slice bb (ofZ 1).mag.length be)]) bW f io42 ?_);intro db bf bZ b0;have aL:=aL.sp bZ;refine Nl (RY<|J0 rfl (TL b0 rfl ag42 rfl)<|RM ?_ bf.below);exact TM (a:=(⟨⟨false,[]⟩,⟨(ofZ 1).neg,(ofZ 1).mag⟩⟩:GRat)) ((J2 RS.nil aL).tr (Tr.weak bf.base))<|(lz (by first|(left;exact Zc.1 (by omega))|(right;exact Zc.1 (by omega))))
 refine OF (Ua<|Ue<|RZ ?_);have ex:d.toZ≠0:=fun e=>a9 (by have:=Zc.2 e;omega);refine RK<|Ol<|RI Zp rfl<|Ol<|Sm<|RN g pl4 rfl rfl ⟨_,rfl,fun aj=>?_,fun aj=>?_⟩
 ·refine Oa (Nl<|RQ rfl ?_);have hdp:0 < -d.toZ:=by have hh:=aj;rw[iz,decide_eq_true_eq] at hh;omega
  refine Sg mixed 3 [[],[0],[]] Z [fx<|.agg #[(.bool (ofZ n.toZ).neg),(.slice B (ofZ n.toZ).mag.length D)],fr Jo<|ofZ<|-n.toZ,fx<|.agg #[(.bool (ofZ d.toZ).neg),(.slice z (ofZ d.toZ).mag.length A)]] (by kernel_rfl) ⟨sx,sr,sx,trivial⟩ fun b1 aM dc ⟨J,aa⟩ K=>?_
  have o:=(o.sp aK).sp aa;have k:=k.sp aa;have j:=j.spn aa;have g:=g.spn aa;have f:=f.spn aa;have K:Keep [26,27,28] _ b1:=K;refine⟨⟨fun _=>?_,fun⟨b2,_⟩=>?_,fun _=>?_,trivial⟩,fun⟨b3,b4,b5,_⟩=>?_⟩
  ·exact Sd0 K fun _=>RX (vs:=(zzC (ofZ n.toZ) B D)) j ag40 rfl rfl rfl ⟨aM,RJ J,rfl⟩
  ·refine Sd1 K b2 fun _=>RH J zJ rfl rfl (nX J.bd (a:=(ofZ n.toZ)) (Je o) (by omega)) ?_;intro dd de b6 b7 bg;simp only[Jl,Zq] at bg;exact⟨aM,⟨b6,b7⟩,bg⟩
  ·exact Sd0 K fun _=>RX (vs:=(zzC (ofZ d.toZ) z A)) g ag40 rfl rfl rfl ⟨aM,RJ J,rfl⟩
  obtain⟨s,u,b8,l⟩:=RV.int b4;obtain⟨df,rfl⟩:=mixK K (aC b3<|aC b8<|aC b5 aN);refine Ol (RH J zJ rfl rfl (nX J.bd (a:=(ofZ d.toZ)) (Je k) (by omega)) ?_);intro dg dh b9 ak bh;have j:=j.spn ak;simp only[Jl,Zq] at bh;obtain⟨p,r,rfl,h⟩:=RV.int bh;refine On (Us (cs':=(zzC (ofZ<|-n.toZ) s u)) b9 j io40 ?_);intro di ca al m;have l:=(l.sp ak).sp al;have g:=(g.spn ak).spo al (UQ V);have f:=(f.spn ak).spo al (UQ aY);refine On (Us (cs':=(zzC (ofZ<|-d.toZ) p r)) ca g io40 ?_);intro dj bi am i;have h:=(h.sp al).sp am;refine Nl (Rh<|Ol<|Uo (vs:=(zzC (ofZ<|-d.toZ) p r)) i ag40<|Ol<|Sm<|RH bi cb82 rfl rfl (m6 bi.bd (a:=(ofZ<|-d.toZ))<|Je h) ?_);intro dk dm aO ab cb;have l:=(l.sp am).sp ab;have h:=h.sp ab;have m:=(m.spo am V).spn ab;have i:=i.spn ab;have f:=(f.spo am<|UQ aZ).spn ab;refine⟨_,cb,fun bJ=>?_,fun bJ=>?_⟩
  ·refine Nl (Uf<|Ol<|Uo (vs:=(zzC (ofZ<|-n.toZ) s u)) m ag40<|Ol<|Uo (vs:=(zzC (ofZ<|-d.toZ) p r)) i ag40<|Ol<|Si (cs:=[(.bool (ofZ<|-n.toZ).neg),(.slice s (ofZ<|-n.toZ).mag.length u),(.bool (ofZ<|-d.toZ).neg),(.slice p (ofZ<|-d.toZ).mag.length r)]) rfl (by kernel_rfl) ?_);refine On (Us (cs':=[(.bool (ofZ<|-n.toZ).neg),(.slice s (ofZ<|-n.toZ).mag.length u),(.bool (ofZ<|-d.toZ).neg),(.slice p (ofZ<|-d.toZ).mag.length r)]) aO f io42 ?_);intro dn bj bk cc;have l:=l.sp bk;have h:=h.sp bk;refine Nl (RY<|J0 rfl (TL cc rfl ag42 rfl)<|RM ?_ bj.below);exact TM (a:=(⟨⟨(ofZ<|-n.toZ).neg,(ofZ<|-n.toZ).mag⟩,⟨(ofZ<|-d.toZ).neg,(ofZ<|-d.toZ).mag⟩⟩:GRat)) ((J2 l h).tr (Tr.weak bj.base))<|Eq.trans ((by first|exact Kx (Yr.1<|of_decide_eq_true (by assumption))|exact j9 hdp (Yr.1<|of_decide_eq_true (by assumption))))<|congrArg ofQ<|yw _ _
  refine Nl (Uc<|RZ<|RZ ?_);have hgm:=nn (n:=(-n.toZ)) (d:=(-d.toZ)) (by omega);have hgn:=CZ (n:=(-n.toZ)) (d:=(-d.toZ)) (by omega);refine RK (Ol<|Uo (vs:=(zzC (ofZ<|-n.toZ) s u)) m ag40<|Ol<|Uo (vs:=(zzC (ofZ<|-d.toZ) p r)) i ag40<|Ol<|RH aO cb45 rfl rfl (vD aO.bd (a:=(ofZ<|-n.toZ)) (Je l) (b:=(ofZ<|-d.toZ)) (Je h) (by first|omega|(rw[Z5];omega)) (by first|omega|(rw[Z5];omega))) ?_);intro dp dq cd ac bl;have m:=m.spn ac;have i:=i.spn ac;have f:=f.spn ac;simp only[Jl,Zq] at bl;obtain⟨an,ao,rfl,x⟩:=RV.int bl;refine Ol (RR cd io40 rfl ?_);intro ds dt du dv aq ce L cf;have bm:=aq _ m.blk.lt;have cg:=aq _ i.blk.lt;have ch:=aq _ f.blk.lt;have l:=(l.sp ac).sp L;have h:=(h.sp ac).sp L;have m:=m.spn L;have i:=i.spn L;have f:=f.spn L;refine On (Us (cs':=(zzC (ofZ (Int.gcd (-n.toZ) (-d.toZ):Int)) an ao)) ce cf io40 ?_);intro dw bn M F;have x:=(x.sp L).sp M;refine Nl (Rg<|Ol<|Uo (vs:=(zzC (ofZ (Int.gcd (-n.toZ) (-d.toZ):Int)) an ao)) F ag40<|Ol<|Sm<|RH bn cb82 rfl rfl (m6 bn.bd (a:=(ofZ (Int.gcd (-n.toZ) (-d.toZ):Int)))<|Je x) ?_);intro dx dy aP G ci;have l:=(l.sp M).sp G;have h:=(h.sp M).sp G;have x:=x.sp G;have m:=(m.spo M bm).spn G;have i:=(i.spo M cg).spn G;have f:=(f.spo M ch).spn G;have F:=F.spn G;refine⟨_,ci,fun bK=>?_,fun bK=>?_⟩
  ·refine Ol (Sr rfl<|Nl<|Uc<|Rg<|Ol<|Uo (vs:=(zzC (ofZ<|-n.toZ) s u)) m ag40<|Ol<|Uo (vs:=(zzC (ofZ<|-d.toZ) p r)) i ag40<|Ol<|Si (cs:=[(.bool (ofZ<|-n.toZ).neg),(.slice s (ofZ<|-n.toZ).mag.length u),(.bool (ofZ<|-d.toZ).neg),(.slice p (ofZ<|-d.toZ).mag.length r)]) rfl (by kernel_rfl) ?_);refine On (Us (cs':=[(.bool (ofZ<|-n.toZ).neg),(.slice s (ofZ<|-n.toZ).mag.length u),(.bool (ofZ<|-d.toZ).neg),(.slice p (ofZ<|-d.toZ).mag.length r)]) aP f io42 ?_);intro dz bo bp cj;have l:=l.sp bp;have h:=h.sp bp;refine Nl (RY<|J0 rfl (TL cj rfl ag42 rfl)<|RM ?_ bo.below);exact TM (a:=(⟨⟨(ofZ<|-n.toZ).neg,(ofZ<|-n.toZ).mag⟩,⟨(ofZ<|-d.toZ).neg,(ofZ<|-d.toZ).mag⟩⟩:GRat)) ((J2 l h).tr (Tr.weak bo.base))<|Eq.trans ((by first|exact Kx (Yr.1<|of_decide_eq_true (by assumption))|exact j9 hdp (Yr.1<|of_decide_eq_true (by assumption))))<|congrArg ofQ<|yw _ _
  refine Ol (Sr rfl<|Nl<|Uf<|Ol<|Uo (vs:=(zzC (ofZ<|-n.toZ) s u)) m ag40<|Ol<|Uo (vs:=(zzC (ofZ (Int.gcd (-n.toZ) (-d.toZ):Int)) an ao)) F ag40<|Ol<|RH aP sF rfl rfl (jb aP.bd (a:=(ofZ<|-n.toZ)) (Je l) (b:=(ofZ (Int.gcd (-n.toZ) (-d.toZ):Int))) (Je x) (by first|omega|(rw[Z5];omega)) (by first|omega|(have h8:=hgm;rw[Z5] at h8;omega)) (by rw[Ke];omega) (by rw[Jl,Jl];exact kQ _ _)) ?_);intro dB dC ck N bq;have m:=m.spn N;simp only[Jl,Zq] at bq;obtain⟨dD,dE,rfl,cl,rfl⟩:=bq;obtain⟨ar,au,rfl,ad⟩:=RV.int cl;refine Om (Ol<|St.extract rfl rfl<|Ol<|St.extract rfl rfl<|On<|Us (cs':=(zzC (ofZ<|(-n.toZ)/(Int.gcd (-n.toZ) (-d.toZ):Int)) ar au)) ck m io40 ?_);intro dG br P aR;have h:=(h.sp N).sp P;have x:=(x.sp N).sp P;have i:=(i.spn N).spo P (UQ V);have f:=(f.spn N).spo P (UQ aY);have F:=(F.spn N).spo P (UQ bm);refine Nl (RK<|Ol<|Uo (vs:=(zzC (ofZ<|-d.toZ) p r)) i ag40<|Ol<|Uo (vs:=(zzC (ofZ (Int.gcd (-n.toZ) (-d.toZ):Int)) an ao)) F ag40<|Ol<|RH br sF rfl rfl (jb br.bd (a:=(ofZ<|-d.toZ)) (Je h) (b:=(ofZ (Int.gcd (-n.toZ) (-d.toZ):Int))) (Je x) (by first|omega|(rw[Z5];omega)) (by first|omega|(have h8:=hgm;rw[Z5] at h8;omega)) (by rw[Ke];omega) (by rw[Jl,Jl];exact lB _ _)) ?_);intro dH dI cm av bs;have ad:=(ad.sp P).sp av;have i:=i.spn av;simp only[Jl,Zq] at bs;obtain⟨dJ,dK,rfl,cn,rfl⟩:=bs;obtain⟨aw,ax,rfl,aS⟩:=RV.int cn;refine Om (Ol<|St.extract rfl rfl<|Ol<|St.extract rfl rfl<|On<|Us (cs':=(zzC (ofZ<|(-d.toZ)/(Int.gcd (-n.toZ) (-d.toZ):Int)) aw ax)) cm i io40 ?_);intro dL co ay cp;have aR:=(aR.spn av).spo ay V;have f:=(f.spn av).spo ay (UQ aZ);refine Nl (Rg<|Ol<|Uo (vs:=(zzC (ofZ<|(-n.toZ)/(Int.gcd (-n.toZ) (-d.toZ):Int)) ar au)) aR ag40<|Ol<|Uo (vs:=(zzC (ofZ<|(-d.toZ)/(Int.gcd (-n.toZ) (-d.toZ):Int)) aw ax)) cp ag40 ?_);refine Ol<|Si (cs:=[(.bool (ofZ<|(-n.toZ)/(Int.gcd (-n.toZ) (-d.toZ):Int)).neg),(.slice ar (ofZ<|(-n.toZ)/(Int.gcd (-n.toZ) (-d.toZ):Int)).mag.length au),(.bool (ofZ<|(-d.toZ)/(Int.gcd (-n.toZ) (-d.toZ):Int)).neg),(.slice aw (ofZ<|(-d.toZ)/(Int.gcd (-n.toZ) (-d.toZ):Int)).mag.length ax)]) rfl (by kernel_rfl)<|On<|Us (cs':=[(.bool (ofZ<|(-n.toZ)/(Int.gcd (-n.toZ) (-d.toZ):Int)).neg),(.slice ar (ofZ<|(-n.toZ)/(Int.gcd (-n.toZ) (-d.toZ):Int)).mag.length au),(.bool (ofZ<|(-d.toZ)/(Int.gcd (-n.toZ) (-d.toZ):Int)).neg),(.slice aw (ofZ<|(-d.toZ)/(Int.gcd (-n.toZ) (-d.toZ):Int)).mag.length ax)]) co f io42 ?_
  intro dM bt bu cq;have ad:=(ad.sp ay).sp bu;have aS:=(aS.sp ay).sp bu;refine Nl (RY<|J0 rfl (TL cq rfl ag42 rfl)<|RM ?_ bt.below);exact TM (a:=(⟨⟨(ofZ<|(-n.toZ)/(Int.gcd (-n.toZ) (-d.toZ):Int)).neg,(ofZ<|(-n.toZ)/(Int.gcd (-n.toZ) (-d.toZ):Int)).mag⟩,⟨(ofZ<|(-d.toZ)/(Int.gcd (-n.toZ) (-d.toZ):Int)).neg,(ofZ<|(-d.toZ)/(Int.gcd (-n.toZ) (-d.toZ):Int)).mag⟩⟩:GRat)) ((J2 ad aS).tr (Tr.weak bt.base))<|Eq.trans (yq hdp)<|congrArg ofQ<|yw _ _
 refine Oa (Nl<|Uc<|RZ<|RZ ?_);have hdp:0<d.toZ:=by have hh:=aj;rw[iz,decide_eq_false_iff_not] at hh;omega
 refine RK (Ol<|Uo (vs:=(zzC (ofZ d.toZ) z A)) g ag40<|Ol<|Sm<|RH Z cb82 rfl rfl (m6 Z.bd (a:=(ofZ d.toZ))<|Je k) ?_);intro dN dO aT ae cr;have o:=(o.sp aK).sp ae;have k:=k.sp ae;have j:=j.spn ae;have g:=g.spn ae;have f:=f.spn ae;refine⟨_,cr,fun bL=>?_,fun bL=>?_⟩
 ·refine Nl (Uf<|Ol<|Uo (vs:=(zzC (ofZ n.toZ) B D)) j ag40<|Ol<|Uo (vs:=(zzC (ofZ d.toZ) z A)) g ag40<|Ol<|Si (cs:=[(.bool (ofZ n.toZ).neg),(.slice B (ofZ n.toZ).mag.length D),(.bool (ofZ d.toZ).neg),(.slice z (ofZ d.toZ).mag.length A)]) rfl (by kernel_rfl) ?_);refine On (Us (cs':=[(.bool (ofZ n.toZ).neg),(.slice B (ofZ n.toZ).mag.length D),(.bool (ofZ d.toZ).neg),(.slice z (ofZ d.toZ).mag.length A)]) aT f io42 ?_);intro dP bv bw ct;have o:=o.sp bw;have k:=k.sp bw;refine Nl (RY<|J0 rfl (TL ct rfl ag42 rfl)<|RM ?_ bv.below);exact TM (a:=(⟨⟨(ofZ n.toZ).neg,(ofZ n.toZ).mag⟩,⟨(ofZ d.toZ).neg,(ofZ d.toZ).mag⟩⟩:GRat)) ((J2 o k).tr (Tr.weak bv.base))<|(by first|exact Kx (Yr.1<|of_decide_eq_true (by assumption))|exact j9 hdp (Yr.1<|of_decide_eq_true (by assumption)))
 refine Nl (Uc<|RZ<|RZ ?_);have hgm:=nn (n:=n.toZ) (d:=d.toZ) (by omega);have hgn:=CZ (n:=n.toZ) (d:=d.toZ) (by omega);refine RK (Ol<|Uo (vs:=(zzC (ofZ n.toZ) B D)) j ag40<|Ol<|Uo (vs:=(zzC (ofZ d.toZ) z A)) g ag40<|Ol<|RH aT cb45 rfl rfl (vD aT.bd (a:=(ofZ n.toZ)) (Je o) (b:=(ofZ d.toZ)) (Je k) (by first|omega|(rw[Z5];omega)) (by first|omega|(rw[Z5];omega))) ?_);intro dQ dR cu af bx;have j:=j.spn af;have g:=g.spn af;have f:=f.spn af;simp only[Jl,Zq] at bx;obtain⟨az,aA,rfl,y⟩:=RV.int bx;refine Ol (RR cu io40 rfl ?_);intro dS dT dU dV aB cw Q cx;have bz:=aB _ j.blk.lt;have cy:=aB _ g.blk.lt;have cz:=aB _ f.blk.lt;have o:=(o.sp af).sp Q;have k:=(k.sp af).sp Q;have j:=j.spn Q;have g:=g.spn Q;have f:=f.spn Q;refine On (Us (cs':=(zzC (ofZ (Int.gcd n.toZ d.toZ:Int)) az aA)) cw cx io40 ?_);intro dW bA R H;have y:=(y.sp Q).sp R;refine Nl (Rg<|Ol<|Uo (vs:=(zzC (ofZ (Int.gcd n.toZ d.toZ:Int)) az aA)) H ag40<|Ol<|Sm<|RH bA cb82 rfl rfl (m6 bA.bd (a:=(ofZ (Int.gcd n.toZ d.toZ:Int)))<|Je y) ?_);intro dX dY aU I cB;have o:=(o.sp R).sp I;have k:=(k.sp R).sp I;have y:=y.sp I;have j:=(j.spo R bz).spn I;have g:=(g.spo R cy).spn I;have f:=(f.spo R cz).spn I;have H:=H.spn I;refine⟨_,cB,fun bM=>?_,fun bM=>?_⟩
 ·refine Ol (Sr rfl<|Nl<|Uc<|Rg<|Ol<|Uo (vs:=(zzC (ofZ n.toZ) B D)) j ag40<|Ol<|Uo (vs:=(zzC (ofZ d.toZ) z A)) g ag40<|Ol<|Si (cs:=[(.bool (ofZ n.toZ).neg),(.slice B (ofZ n.toZ).mag.length D),(.bool (ofZ d.toZ).neg),(.slice z (ofZ d.toZ).mag.length A)]) rfl (by kernel_rfl) ?_);refine On (Us (cs':=[(.bool (ofZ n.toZ).neg),(.slice B (ofZ n.toZ).mag.length D),(.bool (ofZ d.toZ).neg),(.slice z (ofZ d.toZ).mag.length A)]) aU f io42 ?_);intro dZ bB bC cC;have o:=o.sp bC;have k:=k.sp bC;refine Nl (RY<|J0 rfl (TL cC rfl ag42 rfl)<|RM ?_ bB.below);exact TM (a:=(⟨⟨(ofZ n.toZ).neg,(ofZ n.toZ).mag⟩,⟨(ofZ d.toZ).neg,(ofZ d.toZ).mag⟩⟩:GRat)) ((J2 o k).tr (Tr.weak bB.base))<|(by first|exact Kx (Yr.1<|of_decide_eq_true (by assumption))|exact j9 hdp (Yr.1<|of_decide_eq_true (by assumption)))
 refine Ol (Sr rfl<|Nl<|Uf<|Ol<|Uo (vs:=(zzC (ofZ n.toZ) B D)) j ag40<|Ol<|Uo (vs:=(zzC (ofZ (Int.gcd n.toZ d.toZ:Int)) az aA)) H ag40<|Ol<|RH aU sF rfl rfl (jb aU.bd (a:=(ofZ n.toZ)) (Je o) (b:=(ofZ (Int.gcd n.toZ d.toZ:Int))) (Je y) (by first|omega|(rw[Z5];omega)) (by first|omega|(have h8:=hgm;rw[Z5] at h8;omega)) (by rw[Ke];omega) (by rw[Jl,Jl];exact kQ _ _)) ?_);intro d0 d1 cD T bD;have j:=j.spn T;simp only[Jl,Zq] at bD;obtain⟨d2,d3,rfl,cE,rfl⟩:=bD;obtain⟨aD,aE,rfl,ag⟩:=RV.int cE;refine Om (Ol<|St.extract rfl rfl<|Ol<|St.extract rfl rfl<|On<|Us (cs':=(zzC (ofZ<|n.toZ/(Int.gcd n.toZ d.toZ:Int)) aD aE)) cD j io40 ?_);intro d4 bE U aV;have k:=(k.sp T).sp U;have y:=(y.sp T).sp U;have g:=(g.spn T).spo U (UQ V);have f:=(f.spn T).spo U (UQ aY);have H:=(H.spn T).spo U (UQ bz);refine Nl (RK<|Ol<|Uo (vs:=(zzC (ofZ d.toZ) z A)) g ag40<|Ol<|Uo (vs:=(zzC (ofZ (Int.gcd n.toZ d.toZ:Int)) az aA)) H ag40<|Ol<|RH bE sF rfl rfl (jb bE.bd (a:=(ofZ d.toZ)) (Je k) (b:=(ofZ (Int.gcd n.toZ d.toZ:Int))) (Je y) (by first|omega|(rw[Z5];omega)) (by first|omega|(have h8:=hgm;rw[Z5] at h8;omega)) (by rw[Ke];omega) (by rw[Jl,Jl];exact lB _ _)) ?_);intro d5 d6 cF aF bF;have ag:=(ag.sp U).sp aF;have g:=g.spn aF;simp only[Jl,Zq] at bF;obtain⟨d7,d8,rfl,cG,rfl⟩:=bF;obtain⟨aG,aH,rfl,aW⟩:=RV.int cG;refine Om (Ol<|St.extract rfl rfl<|Ol<|St.extract rfl rfl<|On<|Us (cs':=(zzC (ofZ<|d.toZ/(Int.gcd n.toZ d.toZ:Int)) aG aH)) cF g io40 ?_);intro d9 cH aI cI;have aV:=(aV.spn aF).spo aI V;have f:=(f.spn aF).spo aI (UQ aZ);refine Nl (Rg<|Ol<|Uo (vs:=(zzC (ofZ<|n.toZ/(Int.gcd n.toZ d.toZ:Int)) aD aE)) aV ag40<|Ol<|Uo (vs:=(zzC (ofZ<|d.toZ/(Int.gcd n.toZ d.toZ:Int)) aG aH)) cI ag40 ?_);refine Ol (Si (cs:=[(.bool (ofZ<|n.toZ/(Int.gcd n.toZ d.toZ:Int)).neg),(.slice aD (ofZ<|n.toZ/(Int.gcd n.toZ d.toZ:Int)).mag.length aE),(.bool (ofZ<|d.toZ/(Int.gcd n.toZ d.toZ:Int)).neg),(.slice aG (ofZ<|d.toZ/(Int.gcd n.toZ d.toZ:Int)).mag.length aH)]) rfl (by kernel_rfl)<|On<|Us (cs':=[(.bool (ofZ<|n.toZ/(Int.gcd n.toZ d.toZ:Int)).neg),(.slice aD (ofZ<|n.toZ/(Int.gcd n.toZ d.toZ:Int)).mag.length aE),(.bool (ofZ<|d.toZ/(Int.gcd n.toZ d.toZ:Int)).neg),(.slice aG (ofZ<|d.toZ/(Int.gcd n.toZ d.toZ:Int)).mag.length aH)]) cH f io42 ?_);intro ea bG bH cJ;have ag:=(ag.sp aI).sp bH;have aW:=(aW.sp aI).sp bH;refine Nl (RY<|J0 rfl (TL cJ rfl ag42 rfl)<|RM ?_ bG.below);exact TM (a:=(⟨⟨(ofZ<|n.toZ/(Int.gcd n.toZ d.toZ:Int)).neg,(ofZ<|n.toZ/(Int.gcd n.toZ d.toZ:Int)).mag⟩,⟨(ofZ<|d.toZ/(Int.gcd n.toZ d.toZ:Int)).neg,(ofZ<|d.toZ/(Int.gcd n.toZ d.toZ:Int)).mag⟩⟩:GRat)) ((J2 ag aW).tr (Tr.weak bG.base))<|yq hdp
end Go.Wf
namespace Go.Wf
open Go
def qcmp(p q:Rat):Int:=io (p-q)
theorem jC(n d:Int):(Rat.divInt n d).num.natAbs≤n.natAbs:=by
 rw[Rat.num_divInt];refine UC (Int.natAbs_ediv_le_natAbs _ _) ?_;rw[Wr]
 have:d.sign.natAbs≤1:=by
  rcases Wb d 0 with h|h|h
  ·rw[Wz h];decide
  ·rw[h];decide
  ·rw[WA h];decide
 calc d.sign.natAbs*n.natAbs≤1*n.natAbs:=ZI _ this
  _=n.natAbs:=Nat.one_mul _
theorem iV(n d:Int):(Rat.divInt n d).den≤max 1 d.natAbs:=by
 rw[Rat.den_divInt];split
 ·exact Nat.le_max_left _ _
 ·exact UC (YP _ _) (Nat.le_max_right _ _)
theorem uf:(digs 1).length=1:=by rw[iQ (by decide) (by decide)];rfl
theorem xp(n d:Int):(ofQ (Rat.divInt n d)).num.mag.length≤(ofZ n).mag.length:=jO (jC n d)
theorem k8(n d:Int):(ofQ (Rat.divInt n d)).den.mag.length≤(ofZ d).mag.length+1:=by
 have h:=iV n d
 show(digs _).length≤(digs d.natAbs).length+1
 have e:((Rat.divInt n d).den:Int).natAbs=(Rat.divInt n d).den:=by simp
 rw[e];refine UC (Xt h) ?_;rcases Nat.le_total 1 d.natAbs with a|a
 ·rw[Nat.max_eq_right a];omega
 ·rw[Nat.max_eq_left a,uf];omega
theorem Zw{a:GRat}(sn:Jp a.num.mag):(ofQ a.q).num.mag.length≤a.num.mag.length:=UC (xp _ _) (Jv sn)
theorem Z0{a:GRat}(sd:Jp a.den.mag):(ofQ a.q).den.mag.length≤a.den.mag.length+1:=by
 have b:=k8 a.num.toZ a.den.toZ;have d:=Jv sd;unfold GRat.q;omega
theorem q8(q:Rat):(ofQ (-q)).num.mag=(ofQ q).num.mag:=by
 show(ofZ (-q).num).mag=(ofZ q.num).mag
 rw[Rat.neg_num,Z5]
theorem k5(q:Rat):(ofQ (-q)).den.mag=(ofQ q).den.mag:=by
 show(ofZ ((-q).den:Int)).mag=(ofZ (q.den:Int)).mag
 rw[Rat.neg_den]
theorem nV(n:Int)(d:Nat)(h:d≠0):(Rat.normalize n d h).num.natAbs≤n.natAbs:=by
 rw[Rat.normalize_eq];exact Int.natAbs_ediv_le_natAbs _ _
theorem nt(n:Int)(d:Nat)(h:d≠0):(Rat.normalize n d h).den≤d:=by
 rw[Rat.normalize_eq];exact YP _ _
theorem oL(v:Nat):v<4294967296^(digs v).length:=Vv v
theorem jW(x y:Nat):(digs (x*y)).length≤(digs x).length+(digs y).length:=by
 refine Jt ?_;rw[ZQ];exact Nat.mul_lt_mul'' (oL x) (oL y)
theorem pW(x y:Nat):(digs (x+y)).length≤(digs x).length+(digs y).length+1:=by
 refine Jt ?_;have a:=oL x;have b:=oL y;have d:4294967296^(digs x).length≤4294967296^((digs x).length+(digs y).length):=U1 (by omega) (by omega);have e:4294967296^(digs y).length≤4294967296^((digs x).length+(digs y).length):=U1 (by omega) (by omega);rw[UV];omega
theorem kg(p q:Rat):(ofQ (p+q)).num.mag.length≤(ofQ p).num.mag.length+(ofQ q).den.mag.length+(ofQ q).num.mag.length+(ofQ p).den.mag.length+1:=by
 show(digs (p+q).num.natAbs).length≤(digs p.num.natAbs).length+(digs ((q.den:Int)).natAbs).length+(digs q.num.natAbs).length+(digs ((p.den:Int)).natAbs).length+1
 have h:(p+q).num.natAbs≤p.num.natAbs*q.den+q.num.natAbs*p.den:=by
  rw[Rat.add_def];refine UC (nV _ _ _) ?_;refine UC (Wo _ _) ?_;rw[Wr,Wr];simp
 refine UC (Xt h) ?_;have a:=pW (p.num.natAbs*q.den) (q.num.natAbs*p.den);have b:=jW p.num.natAbs q.den;have d:=jW q.num.natAbs p.den;simp only[Ws];omega
theorem xe(p q:Rat):(ofQ (p+q)).den.mag.length≤(ofQ p).den.mag.length+(ofQ q).den.mag.length:=by
 show(digs (((p+q).den:Int)).natAbs).length≤(digs ((p.den:Int)).natAbs).length+(digs ((q.den:Int)).natAbs).length
 simp only[Ws];have h:(p+q).den≤p.den*q.den:=by rw[Rat.add_def];exact nt _ _ _
 exact UC (Xt h) (jW _ _)
theorem Yj{x y:Int}:(ofZ (x*y)).mag.length≤(ofZ x).mag.length+(ofZ y).mag.length:=by
 show(digs (x*y).natAbs).length≤(digs x.natAbs).length+(digs y.natAbs).length
 rw[Wr];exact jW _ _
theorem ml{x y:Int}:(ofZ (x+y)).mag.length≤(ofZ x).mag.length+(ofZ y).mag.length+1:=by
 show(digs (x+y).natAbs).length≤(digs x.natAbs).length+(digs y.natAbs).length+1
 exact UC (Xt (Wo _ _)) (pW _ _)
theorem Fx(z:Int): -1≤z.sign∧z.sign≤1:=by
 rcases Wb z 0 with h|h|h
 ·rw[Wz h];omega
 ·rw[h];simp
 ·rw[WA h];omega
theorem nI(x y:Int): -9223372036854775808≤x.sign*y.sign∧x.sign*y.sign≤9223372036854775807:=by
 rw[←Int.sign_mul]
 have:=Fx (x*y)
 omega
theorem Hu{a b:GRat}(h:a.den.toZ.sign=0):ofQ b.q=ofQ (a.q+b.q):=by
 rw[vx (WB.1 h),Rat.zero_add]
theorem HF{a b:GRat}(h:b.den.toZ.sign=0):ofQ a.q=ofQ (a.q+b.q):=by
 rw[vx (a:=b) (WB.1 h),Rat.add_zero]
theorem Hn{a b:GRat}(ha:a.den=ofZ 1)(hb:b.den=ofZ 1):(⟨ofZ (a.num.toZ+b.num.toZ),ofZ 1⟩:GRat)=ofQ (a.q+b.q):=by
 have ea:a.den.toZ=1:=by rw[ha,Jl]
 have eb:b.den.toZ=1:=by rw[hb,Jl]
 rw[F9 (by omega) (by omega),ea,eb,Wl,Wl,Wl];exact Kx rfl
theorem pV{a b:GRat}(ha:¬a.den.toZ.sign=0)(hb:¬b.den.toZ.sign=0):ofQ (Rat.divInt (a.num.toZ*b.den.toZ+b.num.toZ*a.den.toZ) (a.den.toZ*b.den.toZ))=ofQ (a.q+b.q):=by
 rw[F9 (fun e=>ha (WB.2 e)) (fun e=>hb (WB.2 e))]
end Go.Wf
namespace Go.Wf
open Go Go.Proofs Go.RowKit
theorem Xj{X:Nat→Prop}{w:World}(hX:XB X w){r:Value}{a:GRat}(m:RV Jj X w r a)(hln:a.num.mag.length≤274877906944)(hld:a.den.mag.length≤274877906944):CRt 56 #[r] w fun v w'=>RV Jj X w' v (ofQ a.q):=by
 obtain⟨s,u,x,y,rfl,o,p⟩:=TN m;have C:=Cx.start hX;have sn:=m.rat_small.1;have sd:=m.rat_small.2;refine Cgo Tryz.func56 rfl rfl rfl (Rg<|Ol<|R9 C rfl ?_);intro V Y Z L J z i b;refine Ol (RR z io42 rfl ?_);intro M N P Q K j e f;have o:=(o.sp i).sp e;have p:=(p.sp i).sp e;have b:=b.spn e;refine Nl (Rg<|Ol<|RI Ko rfl<|Ol<|Uo (vs:=(zzC a.num s u)) b ag40<|Ol<|RI Yi rfl<|Ol<|Uo (vs:=(zzC a.den x y)) b ag40<|Ol<|RH j cb96 rfl rfl (gU j.bd (n:=a.num) (Je o) (d:=a.den) (Je p) (by omega) (by omega)) ?_);intro R T A B D;have f:=f.spn B;obtain⟨E,F,G,H,rfl,g,h⟩:=TN D;refine On (Us (cs':=(qqC (ofQ<|Rat.divInt a.num.toZ a.den.toZ) E F G H)) A f io42 ?_);intro U k l I;have g:=g.sp l;have h:=h.sp l;refine Nl (RY<|J0 rfl (TL I rfl ag42 rfl)<|RM ?_ k.below);exact TM (a:=(ofQ<|Rat.divInt a.num.toZ a.den.toZ)) ((J2 g h).tr (Tr.weak k.base)) rfl
theorem B7{X:Nat→Prop}{w:World}(hX:XB X w){D:Value}{a:GRat}(x:RV Jj X w D a)(hln:a.num.mag.length≤274877906944)(hld:a.den.mag.length≤274877906944):CRt 243 #[D] w fun v w'=>RV Jj X w' v (ofQ (-a.q)):=by
 obtain⟨y,z,A,B,rfl,i,j⟩:=TN x;have C:=Cx.start hX;have sn:=x.rat_small.1;have sd:=x.rat_small.2;have hN:=Jv sn;refine Cgo Tryz.func243 rfl rfl rfl (Rg<|Ol<|R9 C rfl ?_);intro E w8 x9 ai ag F p g;have i:=i.sp p;have j:=j.sp p;refine Ol (RR F io42 rfl ?_);intro aj ak al am ah G k l;refine Nl<|RZ<|Sg mixed 5 [[],[0],[1],[],[3]] G [fx<|.pointer (some ⟨E,0,none⟩),fx<|.agg #[(.bool a.num.neg),(.slice y a.num.mag.length z)],fr Jo<|ofZ<|-a.num.toZ,fx<|.pointer (some ⟨E,2,none⟩),fx<|.agg #[(.bool a.den.neg),(.slice A a.den.mag.length B)]] (by kernel_rfl) ⟨sx,sx,sr,sx,sx,trivial⟩ fun H f an ⟨b,h⟩ e=>?_
 have i:=(i.sp k).sp h;have j:=(j.sp k).sp h;have g:=(g.spn k).spn h;have e:Keep [3,4,5,6,7] _ H:=e;refine⟨⟨fun _=>?_,fun⟨I,_⟩=>?_,fun⟨J,_⟩=>?_,fun _=>?_,fun⟨K,_⟩=>?_,trivial⟩,fun⟨L,M,N,P,Q,_⟩=>?_⟩
 ·exact Sd0 e fun _=>RI Ko rfl ⟨f,RJ b,rfl⟩
 ·exact Sd1 e I fun _=>RX (vs:=(zzC a.num y z)) g ag40 rfl rfl rfl ⟨f,RJ b,rfl⟩
 ·refine Sd1 e J fun _=>RH b zJ rfl rfl (nX b.bd (a:=a.num) (Je i) (by omega)) ?_;intro ao aq R T U;exact⟨f,⟨R,T⟩,U⟩
 ·exact Sd0 e fun _=>RI Yi rfl ⟨f,RJ b,rfl⟩
 ·exact Sd1 e K fun _=>RX (vs:=(zzC a.den A B)) g ag40 rfl rfl rfl ⟨f,RJ b,rfl⟩
 obtain⟨ar,au,V,Y⟩:=RV.int N;obtain⟨av,rfl⟩:=mixK e (aC L<|aC M<|aC V<|aC P<|aC Q aN);refine Ol (RH b cb96 rfl rfl (gU b.bd (n:=(ofZ<|-a.num.toZ)) (Je Y) (d:=a.den) (Je j) (by rw[Z5];omega) (by omega)) ?_);intro aw ax Z aa r;have l:=(l.spn h).spn aa;simp only[Jl,Zq] at r;obtain⟨ab,ac,ad,ae,rfl,m,o⟩:=TN r;refine On (Us (cs':=(qqC (ofQ<|Rat.divInt (-a.num.toZ) a.den.toZ) ab ac ad ae)) Z l io42 ?_);intro ay s u af;have m:=m.sp u;have o:=o.sp u;refine Nl (RY<|J0 rfl (TL af rfl ag42 rfl)<|RM ?_ s.below);exact TM (a:=(ofQ<|Rat.divInt (-a.num.toZ) a.den.toZ)) ((J2 m o).tr (Tr.weak s.base))<|congrArg ofQ<|O6 a
theorem mK{X:Nat→Prop}{w:World}(hX:XB X w){j:Value}{a:GRat}(f:RV Jj X w j a)(hln:a.num.mag.length≤1099511627776)(hld:a.den.mag.length≤1099511627776):CRt 142 #[j] w fun v w'=>v=(.int .i64 (io a.q)):=by
 obtain⟨k,l,m,n,rfl,g,i⟩:=TN f;have C:=Cx.start hX;have sn:=f.rat_small.1;have sd:=f.rat_small.2;have y:=nI a.num.toZ a.den.toZ;refine Cgo Tryz.func142 rfl rfl rfl (Rg<|Ol<|R9 C rfl ?_);intro G H I A x o b d;have g:=g.sp b;refine Oa (Nl<|RZ<|ST mixed 5 o<|Qf Ko rfl<|Qw (fun w c=>RX (vs:=(zzC a.num k l)) (d.spn c.2) ag40 rfl rfl rfl ⟨rfl,c⟩)<|Qw (fun w c=>RH c.1 cb59 rfl rfl (z9 c.1.bd (a:=a.num) (Je<|g.sp c.2) (by omega)) fun _ _ C s h=>⟨h,C,c.2.trans s⟩)<|Qf Yi rfl<|Qw (fun w c=>RX (vs:=(zzC a.den m n)) (d.spn c.2) ag40 rfl rfl rfl ⟨rfl,c⟩) ?_);refine Qz fun B e p=>?_
 have i:=(i.sp b).sp p;refine Ol (RH e cb59 rfl rfl (z9 e.bd (a:=a.den) (Je i) (by omega)) ?_);intro D E r F u;subst u;exact Ol<|SO (z:=(a.num.toZ.sign*a.den.toZ.sign)) rfl rfl (UP _ (by omega))<|Ua<|RY<|Wq rfl rfl r<|congrArg (Value.int _)<|KZ a
theorem sG{X:Nat→Prop}{w:World}(hX:XB X w){v0:Value}{a:GRat}(r0:RV Jj X w v0 a){v1:Value}{b:GRat}(r1:RV Jj X w v1 b)(hln:a.num.mag.length≤34359738368)(hld:a.den.mag.length≤34359738368)(hlm:b.num.mag.length≤34359738368)(hle:b.den.mag.length≤34359738368):CRt 135 #[v0,v1] w fun v w'=>RV Jj X w' v (ofQ (a.q+b.q)):=by
 obtain⟨a1,c2,a3,c4,rfl,L,A⟩:=TN r0;obtain⟨a7,c8,a9,I,rfl,z,m⟩:=TN r1;have C:=Cx.start hX;have sn:=r0.rat_small.1;have sd:=r0.rat_small.2;have sm:=r1.rat_small.1;have se:=r1.rat_small.2;have hN:=Jv sn;have hD:=Jv sd;have hM:=Jv sm;have hE:=Jv se;have m1:=Yj (x:=a.num.toZ) (y:=b.den.toZ);have m2:=Yj (x:=b.num.toZ) (y:=a.den.toZ);have m3:=Yj (x:=a.den.toZ) (y:=b.den.toZ);have m4:=ml (x:=a.num.toZ*b.den.toZ) (y:=b.num.toZ*a.den.toZ);refine Cgo Tryz.func135 rfl rfl rfl (Rg<|Ol<|R9 C rfl ?_);intro V fT fU fV eE ee aJ f;have L:=L.sp aJ;have A:=A.sp aJ;refine Ol (R9 ee rfl ?_);intro Y fW fX fY eG ef ai i;have z:=(z.sp aJ).sp ai;have m:=(m.sp aJ).sp ai;refine Ol (RR ef io42 rfl ?_);intro bp f0 f1 f2 eH bq af h;have L:=(L.sp ai).sp af;have A:=(A.sp ai).sp af;have f:=(f.spn ai).spn af;refine Nl (RZ<|W.block<|Rg<|Ol<|RI Yi rfl<|Ol<|Uo (vs:=(zzC a.den a3 c4)) f ag40<|Ol<|RH bq cb59 rfl rfl (z9 bq.bd (a:=a.den) (Je A) (by omega)) ?_);intro f3 f4 aK ad eg;have z:=(z.sp af).sp ad;have m:=(m.sp af).sp ad;have i:=(i.spn af).spn ad;have h:=h.spn ad;subst eg;refine Ol<|Sj rfl rfl (fun ag=>?_)<|fun ag=>?_
 ·refine Oa (Nl<|Uf<|Ol<|Uo (vs:=(qqC b a7 c8 a9 I)) i ag42<|Ol<|RH aK cb56 rfl rfl (Xj aK.bd (a:=b) (J2 z m) (by omega) (by omega)) ?_);intro f5 f6 eh ei ej;have h:=h.spn ei;obtain⟨ek,el,em,en,rfl,aP,aQ⟩:=TN ej;refine On (Us (cs':=(qqC (ofQ b.q) ek el em en)) eh h io42 ?_);intro f7 br bs eo;have aP:=aP.sp bs;have aQ:=aQ.sp bs;refine Nl (RY<|J0 rfl (TL eo rfl ag42 rfl)<|RM ?_ br.below);exact TM (a:=(ofQ b.q)) ((J2 aP aQ).tr (Tr.weak br.base))<|Hu ag
 refine Oa (Nl<|Ug<|Ol<|RI Yi rfl<|Ol<|Uo (vs:=(zzC b.den a9 I)) i ag40<|Ol<|RH aK cb59 rfl rfl (z9 aK.bd (a:=b.den) (Je m) (by omega)) ?_);intro f8 f9 aL Z ep;have L:=(L.sp ad).sp Z;have A:=(A.sp ad).sp Z;have z:=z.sp Z;have f:=(f.spn ad).spn Z;subst ep;refine Ol<|Sj rfl rfl (fun ah=>?_)<|fun ah=>?_
 ·refine Oa (Nl<|Uf<|Ol<|Uo (vs:=(qqC a a1 c2 a3 c4)) f ag42<|Ol<|RH aL cb56 rfl rfl (Xj aL.bd (a:=a) (J2 L A) (by omega) (by omega)) ?_);intro ga gb eq er es;have h:=(h.spn Z).spn er;obtain⟨et,eu,ev,ew,rfl,aR,aS⟩:=TN es;refine On (Us (cs':=(qqC (ofQ a.q) et eu ev ew)) eq h io42 ?_);intro gc bt bu ex;have aR:=aR.sp bu;have aS:=aS.sp bu;refine Nl (RY<|J0 rfl (TL ex rfl ag42 rfl)<|RM ?_ bt.below);exact TM (a:=(ofQ a.q)) ((J2 aR aS).tr (Tr.weak bt.base))<|HF ah
 refine Oa (Nl<|Ug<|Ol<|RI Yi rfl<|Ol<|Uo (vs:=(zzC a.den a3 c4)) f ag40<|Ol<|Sm<|RH aL cb82 rfl rfl (m6 aL.bd (a:=a.den)<|Je A) ?_);intro gd ey aT P ez;have A:=A.sp P;have m:=(m.sp Z).sp P;have f:=f.spn P;have i:=(i.spn Z).spn P;have h:=(h.spn Z).spn P;refine⟨_,ez,fun aU=>?_,fun aU=>?_⟩
 ·refine Om (OgD<|RI Yi rfl<|OgD<|Uo (vs:=(zzC b.den a9 I)) i ag40<|OgD<|Sm<|RH aT cb82 rfl rfl (m6 aT.bd (a:=b.den)<|Je m) ?_);intro ge eA aV ae eB;have L:=(L.sp P).sp ae;have z:=(z.sp P).sp ae;have f:=f.spn ae;have i:=i.spn ae;have h:=h.spn ae;refine⟨_,eB,fun aW=>?_,fun aW=>?_⟩
  ·refine OT (Ua<|Uf<|Ol<|RI Ko rfl<|Ol<|Uo (vs:=(zzC a.num a1 c2)) f ag40<|Ol<|RI Ko rfl<|Ol<|Uo (vs:=(zzC b.num a7 c8)) i ag40<|Ol<|RH aV wS rfl rfl (n9 aV.bd (a:=a.num) (Je L) (b:=b.num) (Je z) (by omega) (by omega)) ?_);intro gf gg bv eC eD;obtain⟨bw,aX,rfl,an⟩:=RV.int eD;refine Ol (RH bv cb44 rfl rfl (xv bv.bd (by decide) (by decide)) ?_);intro eI eJ bA aY bB;have h:=(h.spn eC).spn aY;obtain⟨aZ,a0,rfl,ao⟩:=RV.int bB;refine Ol (Si (cs:=[(.bool (ofZ<|a.num.toZ+b.num.toZ).neg),(.slice bw (ofZ<|a.num.toZ+b.num.toZ).mag.length aX),(.bool (ofZ 1).neg),(.slice aZ (ofZ 1).mag.length a0)]) rfl (by kernel_rfl)<|On<|Us (cs':=[(.bool (ofZ<|a.num.toZ+b.num.toZ).neg),(.slice bw (ofZ<|a.num.toZ+b.num.toZ).mag.length aX),(.bool (ofZ 1).neg),(.slice aZ (ofZ 1).mag.length a0)]) bA h io42 ?_);intro eK a2 a4 bC;have an:=(an.sp aY).sp a4;have ao:=ao.sp a4;refine Nl (RY<|J0 rfl (TL bC rfl ag42 rfl)<|RM ?_ a2.below);exact TM (a:=(⟨⟨(ofZ<|a.num.toZ+b.num.toZ).neg,(ofZ<|a.num.toZ+b.num.toZ).mag⟩,⟨(ofZ 1).neg,(ofZ 1).mag⟩⟩:GRat)) ((J2 an ao).tr (Tr.weak a2.base))<|Hn (of_decide_eq_true aU)<|of_decide_eq_true aW
  refine OT<|Ua<|Uc<|RZ<|Sg mixed 12 [[],[0],[],[2],[1,3],[],[5],[],[7],[6,8],[4,9],[]] aV [fx<|.pointer (some ⟨V,0,none⟩),fx<|.agg #[(.bool a.num.neg),(.slice a1 a.num.mag.length c2)],fx<|.pointer (some ⟨Y,2,none⟩),fx<|.agg #[(.bool b.den.neg),(.slice a9 b.den.mag.length I)],fr Jo<|ofZ<|a.num.toZ*b.den.toZ,fx<|.pointer (some ⟨Y,0,none⟩),fx<|.agg #[(.bool b.num.neg),(.slice a7 b.num.mag.length c8)],fx<|.pointer (some ⟨V,2,none⟩),fx<|.agg #[(.bool a.den.neg),(.slice a3 a.den.mag.length c4)],fr Jo<|ofZ<|b.num.toZ*a.den.toZ,fr Jo<|ofZ<|(a.num.toZ*b.den.toZ)+(b.num.toZ*a.den.toZ),fun(s:Gh) (v:Value) (w':World)=>∃g':Nat,v= .pointer (some ⟨g',0,none⟩)∧Own w s.2 w' g' [(.bool false),(.slice none 0 0)] 40∧eA.heap.size≤g'] (by kernel_rfl) ⟨sx,sx,sx,sx,sr,sx,sx,sx,sx,sr,sr,(fun _ _ _ _ _ ⟨g,e,o,l⟩ r=>⟨g,e,o.spn r.sp,l⟩),trivial⟩ fun bD B eL ⟨j,J⟩ p=>?_
  have bh:=f.blk.lt;have bi:=i.blk.lt;have bj:=h.blk.lt;have aM:=J.tx.size;have L:=L.sp J;have A:=(A.sp ae).sp J;have z:=z.sp J;have m:=(m.sp ae).sp J;have f:=f.spn J;have i:=i.spn J;have p:Keep [36,37,38,39,40,41,42,43,44,45,46,5] _ bD:=p;refine⟨⟨fun _=>?_,fun⟨bE,_⟩=>?_,fun _=>?_,fun⟨bF,_⟩=>?_,fun⟨bG,bH,_⟩=>?_,fun _=>?_,fun⟨bJ,_⟩=>?_,fun _=>?_,fun⟨bK,_⟩=>?_,fun⟨bL,bM,_⟩=>?_,fun⟨bN,bO,_⟩=>?_,fun _=>?_,trivial⟩,fun⟨bP,bQ,bR,bS,bT,bU,bV,bW,bX,bY,bZ,b0,_⟩=>?_⟩
  ·exact Sd0 p fun _=>RI Ko rfl ⟨B,RJ j,rfl⟩
  ·exact Sd1 p bE fun _=>RX (vs:=(zzC a.num a1 c2)) f ag40 rfl rfl rfl ⟨B,RJ j,rfl⟩
  ·exact Sd0 p fun _=>RI Yi rfl ⟨B,RJ j,rfl⟩
  ·exact Sd1 p bF fun _=>RX (vs:=(zzC b.den a9 I)) i ag40 rfl rfl rfl ⟨B,RJ j,rfl⟩
  ·refine Js p (aC bG<|aC bH aN) fun _=>R8 (RH j h4 rfl rfl (jr j.bd (a:=a.num) (Je L) (b:=b.den) (Je m) (by omega) (by omega)) ?_);intro eM eN b1 b2 b3;exact⟨B,⟨b1,b2⟩,b3⟩
  ·exact Sd0 p fun _=>RI Ko rfl ⟨B,RJ j,rfl⟩
  ·exact Sd1 p bJ fun _=>RX (vs:=(zzC b.num a7 c8)) i ag40 rfl rfl rfl ⟨B,RJ j,rfl⟩
  ·exact Sd0 p fun _=>RI Yi rfl ⟨B,RJ j,rfl⟩
  ·exact Sd1 p bK fun _=>RX (vs:=(zzC a.den a3 c4)) f ag40 rfl rfl rfl ⟨B,RJ j,rfl⟩
  ·refine Js p (aC bL<|aC bM aN) fun _=>R8 (RH j h4 rfl rfl (jr j.bd (a:=b.num) (Je z) (b:=a.den) (Je A) (by omega) (by omega)) ?_);intro eO eP b4 b5 b6;exact⟨B,⟨b4,b5⟩,b6⟩
  ·obtain⟨eQ,eR,b7,b8⟩:=RV.int bN;obtain⟨eS,eT,b9,ca⟩:=RV.int bO;refine Js p (aC b7<|aC b9 aN) fun _=>R8 (RH j wS rfl rfl (n9 j.bd (a:=(ofZ<|a.num.toZ*b.den.toZ)) (Je b8) (b:=(ofZ<|b.num.toZ*a.den.toZ)) (Je ca) (by omega) (by omega)) ?_);intro eU eV cb cc a5;simp only[Jl,Zq] at a5;exact⟨B,⟨cb,cc⟩,a5⟩
  ·refine Sd0 p fun _=>RR j io40 rfl ?_;intro cd eW ce cf bk cg ch ci;exact⟨(ce,cf),⟨cg,ch⟩,cd,rfl,ci,ZB fun hh=>bk _ (UB hh aM) rfl⟩
  obtain⟨eX,eY,cj,eZ⟩:=RV.int bT;obtain⟨e0,e1,ck,e2⟩:=RV.int bY;obtain⟨aq,ar,cl,au⟩:=RV.int bZ;obtain⟨av,cm,cn,aw⟩:=b0;have co:V≠av:=ZO (UB bh aw);have cp:Y≠av:=ZO (UB bi aw);have cq:bp≠av:=ZO (UB bj aw);obtain⟨e3,rfl⟩:=mixK p (aC bP<|aC bQ<|aC bR<|aC bS<|aC cj<|aC bU<|aC bV<|aC bW<|aC bX<|aC ck<|aC cl<|aC cm aN);refine On (Us (cs':=(zzC (ofZ<|(a.num.toZ*b.den.toZ)+(b.num.toZ*a.den.toZ)) aq ar)) j cn io40 ?_);intro e4 cr Q ax;have h:=(h.spn J).spo Q cq;refine Nl<|RZ<|Sg mixed 6 [[],[],[1],[],[3],[2,4]] cr [fx<|.agg #[(.bool (ofZ<|(a.num.toZ*b.den.toZ)+(b.num.toZ*a.den.toZ)).neg),(.slice aq (ofZ<|(a.num.toZ*b.den.toZ)+(b.num.toZ*a.den.toZ)).mag.length ar)],fx<|.pointer (some ⟨V,2,none⟩),fx<|.agg #[(.bool a.den.neg),(.slice a3 a.den.mag.length c4)],fx<|.pointer (some ⟨Y,2,none⟩),fx<|.agg #[(.bool b.den.neg),(.slice a9 b.den.mag.length I)],fr Jo<|ofZ<|a.den.toZ*b.den.toZ] (by kernel_rfl) ⟨sx,sx,sx,sx,sx,sr,trivial⟩ fun ct R e5 ⟨E,M⟩ F=>?_
  have A:=(A.sp Q).sp M;have m:=(m.sp Q).sp M;have au:=(au.sp Q).sp M;have f:=(f.spo Q co).spn M;have i:=(i.spo Q cp).spn M;have ax:=ax.spn M;have F:Keep [47,48,49,50,51,52] _ ct:=F;refine⟨⟨fun _=>?_,fun _=>?_,fun⟨cu,_⟩=>?_,fun _=>?_,fun⟨cw,_⟩=>?_,fun⟨cx,cy,_⟩=>?_,trivial⟩,fun⟨cz,cB,cC,cD,cE,cF,_⟩=>?_⟩
  ·exact Sd0 F fun _=>RX (vs:=(zzC (ofZ<|(a.num.toZ*b.den.toZ)+(b.num.toZ*a.den.toZ)) aq ar)) ax ag40 rfl rfl rfl ⟨R,RJ E,rfl⟩
  ·exact Sd0 F fun _=>RI Yi rfl ⟨R,RJ E,rfl⟩
  ·exact Sd1 F cu fun _=>RX (vs:=(zzC a.den a3 c4)) f ag40 rfl rfl rfl ⟨R,RJ E,rfl⟩
  ·exact Sd0 F fun _=>RI Yi rfl ⟨R,RJ E,rfl⟩
  ·exact Sd1 F cw fun _=>RX (vs:=(zzC b.den a9 I)) i ag40 rfl rfl rfl ⟨R,RJ E,rfl⟩
  ·refine Js F (aC cx<|aC cy aN) fun _=>R8 (RH E h4 rfl rfl (jr E.bd (a:=a.den) (Je A) (b:=b.den) (Je m) (by omega) (by omega)) ?_);intro e6 e7 cG cH cI;exact⟨R,⟨cG,cH⟩,cI⟩
  obtain⟨e8,e9,cJ,cK⟩:=RV.int cF;obtain⟨fa,rfl⟩:=mixK F (aC cz<|aC cB<|aC cC<|aC cD<|aC cE<|aC cJ aN);refine Ol (RH E cb96 rfl rfl (gU E.bd (n:=(ofZ<|(a.num.toZ*b.den.toZ)+(b.num.toZ*a.den.toZ))) (Je au) (d:=(ofZ<|a.den.toZ*b.den.toZ)) (Je cK) (by omega) (by omega)) ?_);intro fb fc cL cM a6;have h:=(h.spn M).spn cM;simp only[Jl,Zq] at a6;obtain⟨cN,cO,cP,cQ,rfl,ay,az⟩:=TN a6;refine On (Us (cs':=(qqC (ofQ<|Rat.divInt ((a.num.toZ*b.den.toZ)+(b.num.toZ*a.den.toZ))<|a.den.toZ*b.den.toZ) cN cO cP cQ)) cL h io42 ?_);intro fd a8 ba cR;have ay:=ay.sp ba;have az:=az.sp ba;refine Nl (RY<|J0 rfl (TL cR rfl ag42 rfl)<|RM ?_ a8.below);exact TM (a:=(ofQ<|Rat.divInt ((a.num.toZ*b.den.toZ)+(b.num.toZ*a.den.toZ))<|a.den.toZ*b.den.toZ)) ((J2 ay az).tr (Tr.weak a8.base))<|pV ag ah
 refine Om<|Oz<|Oz<|Oz<|OF<|Ua<|Uc<|RZ<|Sg mixed 12 [[],[0],[],[2],[1,3],[],[5],[],[7],[6,8],[4,9],[]] aT [fx<|.pointer (some ⟨V,0,none⟩),fx<|.agg #[(.bool a.num.neg),(.slice a1 a.num.mag.length c2)],fx<|.pointer (some ⟨Y,2,none⟩),fx<|.agg #[(.bool b.den.neg),(.slice a9 b.den.mag.length I)],fr Jo<|ofZ<|a.num.toZ*b.den.toZ,fx<|.pointer (some ⟨Y,0,none⟩),fx<|.agg #[(.bool b.num.neg),(.slice a7 b.num.mag.length c8)],fx<|.pointer (some ⟨V,2,none⟩),fx<|.agg #[(.bool a.den.neg),(.slice a3 a.den.mag.length c4)],fr Jo<|ofZ<|b.num.toZ*a.den.toZ,fr Jo<|ofZ<|(a.num.toZ*b.den.toZ)+(b.num.toZ*a.den.toZ),fun(s:Gh) (v:Value) (w':World)=>∃g':Nat,v= .pointer (some ⟨g',0,none⟩)∧Own w s.2 w' g' [(.bool false),(.slice none 0 0)] 40∧ey.heap.size≤g'] (by kernel_rfl) ⟨sx,sx,sx,sx,sr,sx,sx,sx,sx,sr,sr,(fun _ _ _ _ _ ⟨g,e,o,l⟩ r=>⟨g,e,o.spn r.sp,l⟩),trivial⟩ fun cS D ff ⟨k,K⟩ u=>?_
 have bl:=f.blk.lt;have bm:=i.blk.lt;have bn:=h.blk.lt;have aO:=K.tx.size;have L:=(L.sp P).sp K;have A:=A.sp K;have z:=(z.sp P).sp K;have m:=m.sp K;have f:=f.spn K;have i:=i.spn K;have u:Keep [36,37,38,39,40,41,42,43,44,45,46,5] _ cS:=u;refine⟨⟨fun _=>?_,fun⟨cT,_⟩=>?_,fun _=>?_,fun⟨cU,_⟩=>?_,fun⟨cV,cW,_⟩=>?_,fun _=>?_,fun⟨cX,_⟩=>?_,fun _=>?_,fun⟨cY,_⟩=>?_,fun⟨cZ,c0,_⟩=>?_,fun⟨c1,c3,_⟩=>?_,fun _=>?_,trivial⟩,fun⟨c6,c7,c9,da,db,dc,dd,de,df,dg,dh,di,_⟩=>?_⟩
 ·exact Sd0 u fun _=>RI Ko rfl ⟨D,RJ k,rfl⟩
 ·exact Sd1 u cT fun _=>RX (vs:=(zzC a.num a1 c2)) f ag40 rfl rfl rfl ⟨D,RJ k,rfl⟩
 ·exact Sd0 u fun _=>RI Yi rfl ⟨D,RJ k,rfl⟩
 ·exact Sd1 u cU fun _=>RX (vs:=(zzC b.den a9 I)) i ag40 rfl rfl rfl ⟨D,RJ k,rfl⟩
 ·refine Js u (aC cV<|aC cW aN) fun _=>R8 (RH k h4 rfl rfl (jr k.bd (a:=a.num) (Je L) (b:=b.den) (Je m) (by omega) (by omega)) ?_);intro fg fh dj dk dm;exact⟨D,⟨dj,dk⟩,dm⟩
 ·exact Sd0 u fun _=>RI Ko rfl ⟨D,RJ k,rfl⟩
 ·exact Sd1 u cX fun _=>RX (vs:=(zzC b.num a7 c8)) i ag40 rfl rfl rfl ⟨D,RJ k,rfl⟩
 ·exact Sd0 u fun _=>RI Yi rfl ⟨D,RJ k,rfl⟩
 ·exact Sd1 u cY fun _=>RX (vs:=(zzC a.den a3 c4)) f ag40 rfl rfl rfl ⟨D,RJ k,rfl⟩
 ·refine Js u (aC cZ<|aC c0 aN) fun _=>R8 (RH k h4 rfl rfl (jr k.bd (a:=b.num) (Je z) (b:=a.den) (Je A) (by omega) (by omega)) ?_);intro fi fj dn dp dq;exact⟨D,⟨dn,dp⟩,dq⟩
 ·obtain⟨fk,fl,ds,dt⟩:=RV.int c1;obtain⟨fm,fn,du,dv⟩:=RV.int c3;refine Js u (aC ds<|aC du aN) fun _=>R8 (RH k wS rfl rfl (n9 k.bd (a:=(ofZ<|a.num.toZ*b.den.toZ)) (Je dt) (b:=(ofZ<|b.num.toZ*a.den.toZ)) (Je dv) (by omega) (by omega)) ?_);intro fp fq dw dx bb;simp only[Jl,Zq] at bb;exact⟨D,⟨dw,dx⟩,bb⟩
 ·refine Sd0 u fun _=>RR k io40 rfl ?_;intro dy ft dz dB bo dC dD dE;exact⟨(dz,dB),⟨dC,dD⟩,dy,rfl,dE,ZB fun hh=>bo _ (UB hh aO) rfl⟩
 obtain⟨fu,fv,dG,fw⟩:=RV.int db;obtain⟨fy,fB,dH,fC⟩:=RV.int dg;obtain⟨aA,aB,dI,aD⟩:=RV.int dh;obtain⟨aE,dJ,dK,aF⟩:=di;have dL:V≠aE:=ZO (UB bl aF);have dM:Y≠aE:=ZO (UB bm aF);have dN:bp≠aE:=ZO (UB bn aF);obtain⟨fD,rfl⟩:=mixK u (aC c6<|aC c7<|aC c9<|aC da<|aC dG<|aC dc<|aC dd<|aC de<|aC df<|aC dH<|aC dI<|aC dJ aN);refine On (Us (cs':=(zzC (ofZ<|(a.num.toZ*b.den.toZ)+(b.num.toZ*a.den.toZ)) aA aB)) k dK io40 ?_);intro fF dO T aG;have h:=(h.spn K).spo T dN;refine Nl<|RZ<|Sg mixed 6 [[],[],[1],[],[3],[2,4]] dO [fx<|.agg #[(.bool (ofZ<|(a.num.toZ*b.den.toZ)+(b.num.toZ*a.den.toZ)).neg),(.slice aA (ofZ<|(a.num.toZ*b.den.toZ)+(b.num.toZ*a.den.toZ)).mag.length aB)],fx<|.pointer (some ⟨V,2,none⟩),fx<|.agg #[(.bool a.den.neg),(.slice a3 a.den.mag.length c4)],fx<|.pointer (some ⟨Y,2,none⟩),fx<|.agg #[(.bool b.den.neg),(.slice a9 b.den.mag.length I)],fr Jo<|ofZ<|a.den.toZ*b.den.toZ] (by kernel_rfl) ⟨sx,sx,sx,sx,sx,sr,trivial⟩ fun dP U fG ⟨G,N⟩ H=>?_
 have A:=(A.sp T).sp N;have m:=(m.sp T).sp N;have aD:=(aD.sp T).sp N;have f:=(f.spo T dL).spn N;have i:=(i.spo T dM).spn N;have aG:=aG.spn N;have H:Keep [47,48,49,50,51,52] _ dP:=H;refine⟨⟨fun _=>?_,fun _=>?_,fun⟨dQ,_⟩=>?_,fun _=>?_,fun⟨dR,_⟩=>?_,fun⟨dS,dT,_⟩=>?_,trivial⟩,fun⟨dU,dV,dW,dX,dY,dZ,_⟩=>?_⟩
 ·exact Sd0 H fun _=>RX (vs:=(zzC (ofZ<|(a.num.toZ*b.den.toZ)+(b.num.toZ*a.den.toZ)) aA aB)) aG ag40 rfl rfl rfl ⟨U,RJ G,rfl⟩
 ·exact Sd0 H fun _=>RI Yi rfl ⟨U,RJ G,rfl⟩
 ·exact Sd1 H dQ fun _=>RX (vs:=(zzC a.den a3 c4)) f ag40 rfl rfl rfl ⟨U,RJ G,rfl⟩
 ·exact Sd0 H fun _=>RI Yi rfl ⟨U,RJ G,rfl⟩
 ·exact Sd1 H dR fun _=>RX (vs:=(zzC b.den a9 I)) i ag40 rfl rfl rfl ⟨U,RJ G,rfl⟩
 ·refine Js H (aC dS<|aC dT aN) fun _=>R8 (RH G h4 rfl rfl (jr G.bd (a:=a.den) (Je A) (b:=b.den) (Je m) (by omega) (by omega)) ?_);intro fH fJ d0 d1 d2;exact⟨U,⟨d0,d1⟩,d2⟩
 obtain⟨fK,fM,d3,d4⟩:=RV.int dZ;obtain⟨fO,rfl⟩:=mixK H (aC dU<|aC dV<|aC dW<|aC dX<|aC dY<|aC d3 aN);refine Ol (RH G cb96 rfl rfl (gU G.bd (n:=(ofZ<|(a.num.toZ*b.den.toZ)+(b.num.toZ*a.den.toZ))) (Je aD) (d:=(ofZ<|a.den.toZ*b.den.toZ)) (Je d4) (by omega) (by omega)) ?_);intro fP fR d5 d6 be;have h:=(h.spn N).spn d6;simp only[Jl,Zq] at be;obtain⟨d7,d8,d9,ea,rfl,aH,aI⟩:=TN be;refine On (Us (cs':=(qqC (ofQ<|Rat.divInt ((a.num.toZ*b.den.toZ)+(b.num.toZ*a.den.toZ))<|a.den.toZ*b.den.toZ) d7 d8 d9 ea)) d5 h io42 ?_);intro fS bf bg eb;have aH:=aH.sp bg;have aI:=aI.sp bg;refine Nl (RY<|J0 rfl (TL eb rfl ag42 rfl)<|RM ?_ bf.below);exact TM (a:=(ofQ<|Rat.divInt ((a.num.toZ*b.den.toZ)+(b.num.toZ*a.den.toZ))<|a.den.toZ*b.den.toZ)) ((J2 aH aI).tr (Tr.weak bf.base))<|pV ag ah
theorem CO{X:Nat→Prop}{w:World}(hX:XB X w){L:Value}{a:GRat}(B:RV Jj X w L a){M:Value}{b:GRat}(D:RV Jj X w M b)(hln:a.num.mag.length≤17179869184)(hld:a.den.mag.length≤17179869184)(hlm:b.num.mag.length≤17179869184)(hle:b.den.mag.length≤17179869184):CRt 236 #[L,M] w fun v w'=>RV Jj X w' v (ofQ (a.q-b.q)):=by
 obtain⟨E,F,G,H,rfl,m,n⟩:=TN B;obtain⟨I,J,K,o,rfl,h,i⟩:=TN D;have C:=Cx.start hX;have sn:=B.rat_small.1;have sd:=B.rat_small.2;have sm:=D.rat_small.1;have se:=D.rat_small.2;have q1:=Zw sm;have q2:=Z0 se;rw[←q8] at q1;rw[←k5] at q2;refine Cgo Tryz.func236 rfl rfl rfl (Rg<|Ol<|R9 C rfl ?_);intro au av aw ax ao N l j;refine Ol (R9 N rfl ?_);intro ay az aA aB aq P k p;have m:=(m.sp l).sp k;have n:=(n.sp l).sp k;have h:=(h.sp l).sp k;have i:=(i.sp l).sp k;have j:=j.spn k;refine Ol (RR P io42 rfl ?_);intro aD aE aF aG ar Q e r;refine Nl<|RZ<|Sg mixed 3 [[],[],[1]] Q [fx<|.agg #[(.bool a.num.neg),(.slice E a.num.mag.length F),(.bool a.den.neg),(.slice G a.den.mag.length H)],fx<|.agg #[(.bool b.num.neg),(.slice I b.num.mag.length J),(.bool b.den.neg),(.slice K b.den.mag.length o)],fr Jj<|ofQ<|-b.q] (by kernel_rfl) ⟨sx,sx,sr,trivial⟩ fun R s aH ⟨f,d⟩ g=>?_
 have m:=(m.sp e).sp d;have n:=(n.sp e).sp d;have h:=(h.sp e).sp d;have i:=(i.sp e).sp d;have j:=(j.spn e).spn d;have p:=(p.spn e).spn d;have g:Keep [5,6,7] _ R:=g;refine⟨⟨fun _=>?_,fun _=>?_,fun⟨T,_⟩=>?_,trivial⟩,fun⟨U,V,Y,_⟩=>?_⟩
 ·exact Sd0 g fun _=>RX (vs:=(qqC a E F G H)) j ag42 rfl rfl rfl ⟨s,RJ f,rfl⟩
 ·exact Sd0 g fun _=>RX (vs:=(qqC b I J K o)) p ag42 rfl rfl rfl ⟨s,RJ f,rfl⟩
 ·refine Sd1 g T fun _=>RH f HX rfl rfl (B7 f.bd (a:=b) (J2 h i) (by omega) (by omega)) ?_;intro aI aJ Z aa ab;exact⟨s,⟨Z,aa⟩,ab⟩
 obtain⟨aK,aL,aM,aO,ac,ad,ae⟩:=TN Y;obtain⟨aP,rfl⟩:=mixK g (aC U<|aC V<|aC ac aN);refine Ol (RH f GV rfl rfl (sG f.bd (a:=a) (J2 m n) (b:=(ofQ<|-b.q)) (J2 ad ae) (by omega) (by omega) (by omega) (by omega)) ?_);intro aQ aR af ag y;have r:=(r.spn d).spn ag;simp only[Jl,Zq] at y;obtain⟨ah,ai,aj,ak,rfl,u,x⟩:=TN y;refine On (Us (cs':=(qqC (ofQ<|a.q+(-b.q)) ah ai aj ak)) af r io42 ?_);intro aS z A al;have u:=u.sp A;have x:=x.sp A;refine Nl (RY<|J0 rfl (TL al rfl ag42 rfl)<|RM ?_ z.below);exact TM (a:=(ofQ<|a.q+(-b.q))) ((J2 u x).tr (Tr.weak z.base))<|(by rw[Rat.sub_eq_add_neg])
theorem LB{X:Nat→Prop}{w:World}(hX:XB X w){r:Value}{a:GRat}(m:RV Jj X w r a){s:Value}{b:GRat}(n:RV Jj X w s b)(hln:a.num.mag.length≤4294967296)(hld:a.den.mag.length≤4294967296)(hlm:b.num.mag.length≤4294967296)(hle:b.den.mag.length≤4294967296):CRt 326 #[r,s] w fun v w'=>v=(.int .i64 (qcmp a.q b.q)):=by
 obtain⟨u,x,y,z,rfl,o,p⟩:=TN m;obtain⟨A,B,D,i,rfl,f,g⟩:=TN n;have C:=Cx.start hX;have sn:=m.rat_small.1;have sd:=m.rat_small.2;have sm:=n.rat_small.1;have se:=n.rat_small.2;have K:=Zw sm;have L:=Z0 se;rw[←q8] at K;rw[←k5] at L;have q3:=Zw sn;have q4:=Z0 sd;have M:=kg a.q (-b.q);have N:=xe a.q (-b.q);rw[←Rat.sub_eq_add_neg] at M N;refine Cgo Tryz.func326 rfl rfl rfl (Rg<|Ol<|R9 C rfl ?_);intro R T U V P E e h;refine Ol (R9 E rfl ?_);intro Y Z aa ab Q j d F;have o:=(o.sp e).sp d;have p:=(p.sp e).sp d;have f:=(f.sp e).sp d;have g:=(g.sp e).sp d;have h:=h.spn d;refine Oa (Nl<|Rg<|Ol<|Uo (vs:=(qqC a u x y z)) h ag42<|Ol<|Uo (vs:=(qqC b A B D i)) F ag42<|Ol<|RH j LJ rfl rfl (CO j.bd (a:=a) (J2 o p) (b:=b) (J2 f g) (by omega) (by omega) (by omega) (by omega)) ?_);intro ac ad k ae G;obtain⟨af,ag,ah,ai,rfl,H,I⟩:=TN G;refine Ol (RH k GC rfl rfl (mK k.bd (a:=(ofQ<|a.q-b.q)) (J2 H I) (by omega) (by omega)) ?_);intro aj ak J al l;simp only[Jl,Zq] at l;subst l;refine Ua<|RY<|J0 rfl (resV.t rfl)<|RM ?_ J.below
 rfl
theorem E5{X:Nat→Prop}{w:World}(hX:XB X w){n:Int}(hlo: -9223372036854775808≤n)(hhi:n≤9223372036854775807):CRt 97 #[(.int .i64 n)] w fun v w'=>RV Jj X w' v (ofQ (Rat.divInt n 1)):=by
 have C:=Cx.start hX;refine Cgo Tryz.func97 rfl rfl rfl (Rg<|Ol<|RR C io42 rfl ?_);intro E F G H y o I m;refine Nl (Rg<|Ub<|RH o cb44 rfl rfl (xv o.bd hlo hhi) ?_);intro J z e p r;obtain⟨f,g,rfl,b⟩:=RV.int r;refine Ol (RH e cb44 rfl rfl (xv e.bd (by decide) (by decide)) ?_);intro A B s h u;have m:=(m.spn p).spn h;obtain⟨i,j,rfl,d⟩:=RV.int u;refine Ol (Si (cs:=[(.bool (ofZ n).neg),(.slice f (ofZ n).mag.length g),(.bool (ofZ 1).neg),(.slice i (ofZ 1).mag.length j)]) rfl (by kernel_rfl)<|On<|Us (cs':=[(.bool (ofZ n).neg),(.slice f (ofZ n).mag.length g),(.bool (ofZ 1).neg),(.slice i (ofZ 1).mag.length j)]) s m io42 ?_);intro D k l x;have b:=(b.sp h).sp l;have d:=d.sp l;refine Nl (RY<|J0 rfl (TL x rfl ag42 rfl)<|RM ?_ k.below);exact TM (a:=(⟨⟨(ofZ n).neg,(ofZ n).mag⟩,⟨(ofZ 1).neg,(ofZ 1).mag⟩⟩:GRat)) ((J2 b d).tr (Tr.weak k.base))<|Kx rfl
theorem CN(a b:GRat):Rat.divInt (a.num.toZ*b.num.toZ) (a.den.toZ*b.den.toZ)=a.q*b.q:=by
 unfold GRat.q;rw[Jan]
theorem tJ{X:Nat→Prop}{w:World}(hX:XB X w){v0:Value}{a:GRat}(L:RV Jj X w v0 a){v1:Value}{b:GRat}(M:RV Jj X w v1 b)(hln:a.num.mag.length≤34359738368)(hld:a.den.mag.length≤34359738368)(hlm:b.num.mag.length≤34359738368)(hle:b.den.mag.length≤34359738368):CRt 136 #[v0,v1] w fun v w'=>RV Jj X w' v (ofQ (a.q*b.q)):=by
 obtain⟨N,P,Q,R,rfl,z,A⟩:=TN L;obtain⟨T,U,V,B,rfl,k,l⟩:=TN M;have C:=Cx.start hX;have sn:=L.rat_small.1;have sd:=L.rat_small.2;have sm:=M.rat_small.1;have se:=M.rat_small.2;have hN:=Jv sn;have hD:=Jv sd;have hM:=Jv sm;have hE:=Jv se;have m1:=Yj (x:=a.num.toZ) (y:=b.num.toZ);have m2:=Yj (x:=a.den.toZ) (y:=b.den.toZ);refine Cgo Tryz.func136 rfl rfl rfl (Rg<|Ol<|R9 C rfl ?_);intro G aP aQ aR aK ad s i;refine Ol (R9 ad rfl ?_);intro H aS aT aU aL ae m u;have z:=(z.sp s).sp m;have A:=(A.sp s).sp m;have k:=(k.sp s).sp m;have l:=(l.sp s).sp m;have i:=i.spn m;refine Ol (RR ae io42 rfl ?_);intro aV aW aX aY aM af j o;refine Nl<|RZ<|Sg mixed 9 [[],[0],[],[2],[1,3],[],[5],[],[7]] af [fx<|.pointer (some ⟨G,0,none⟩),fx<|.agg #[(.bool a.num.neg),(.slice N a.num.mag.length P)],fx<|.pointer (some ⟨H,0,none⟩),fx<|.agg #[(.bool b.num.neg),(.slice T b.num.mag.length U)],fr Jo<|ofZ<|a.num.toZ*b.num.toZ,fx<|.pointer (some ⟨G,2,none⟩),fx<|.agg #[(.bool a.den.neg),(.slice Q a.den.mag.length R)],fx<|.pointer (some ⟨H,2,none⟩),fx<|.agg #[(.bool b.den.neg),(.slice V b.den.mag.length B)]] (by kernel_rfl) ⟨sx,sx,sx,sx,sr,sx,sx,sx,sx,trivial⟩ fun ag g aZ ⟨e,h⟩ f=>?_
 have z:=(z.sp j).sp h;have A:=(A.sp j).sp h;have k:=(k.sp j).sp h;have l:=(l.sp j).sp h;have i:=(i.spn j).spn h;have u:=(u.spn j).spn h;have o:=o.spn h;have f:Keep [5,6,7,8,9,10,11,12,13] _ ag:=f;refine⟨⟨fun _=>?_,fun⟨ah,_⟩=>?_,fun _=>?_,fun⟨ai,_⟩=>?_,fun⟨aj,ak,_⟩=>?_,fun _=>?_,fun⟨al,_⟩=>?_,fun _=>?_,fun⟨am,_⟩=>?_,trivial⟩,fun⟨an,ao,aq,ar,au,av,aw,ax,ay,_⟩=>?_⟩
 ·exact Sd0 f fun _=>RI Ko rfl ⟨g,RJ e,rfl⟩
 ·exact Sd1 f ah fun _=>RX (vs:=(zzC a.num N P)) i ag40 rfl rfl rfl ⟨g,RJ e,rfl⟩
 ·exact Sd0 f fun _=>RI Ko rfl ⟨g,RJ e,rfl⟩
 ·exact Sd1 f ai fun _=>RX (vs:=(zzC b.num T U)) u ag40 rfl rfl rfl ⟨g,RJ e,rfl⟩
 ·refine Js f (aC aj<|aC ak aN) fun _=>R8 (RH e h4 rfl rfl (jr e.bd (a:=a.num) (Je z) (b:=b.num) (Je k) (by omega) (by omega)) ?_);intro a0 a2 az aA aB;exact⟨g,⟨az,aA⟩,aB⟩
 ·exact Sd0 f fun _=>RI Yi rfl ⟨g,RJ e,rfl⟩
 ·exact Sd1 f al fun _=>RX (vs:=(zzC a.den Q R)) i ag40 rfl rfl rfl ⟨g,RJ e,rfl⟩
 ·exact Sd0 f fun _=>RI Yi rfl ⟨g,RJ e,rfl⟩
 ·exact Sd1 f am fun _=>RX (vs:=(zzC b.den V B)) u ag40 rfl rfl rfl ⟨g,RJ e,rfl⟩
 obtain⟨a4,a5,aD,D⟩:=RV.int au;obtain⟨a6,rfl⟩:=mixK f (aC an<|aC ao<|aC aq<|aC ar<|aC aD<|aC av<|aC aw<|aC ax<|aC ay aN);refine Ol (RH e h4 rfl rfl (jr e.bd (a:=a.den) (Je A) (b:=b.den) (Je l) (by omega) (by omega)) ?_);intro a8 ba I J aE;have D:=D.sp J;obtain⟨bb,be,rfl,aF⟩:=RV.int aE;refine Ol (RH I cb96 rfl rfl (gU I.bd (n:=(ofZ<|a.num.toZ*b.num.toZ)) (Je D) (d:=(ofZ<|a.den.toZ*b.den.toZ)) (Je aF) (by omega) (by omega)) ?_);intro bf bg aG aH K;have o:=(o.spn J).spn aH;simp only[Jl,Zq] at K;obtain⟨aI,aJ,Y,Z,rfl,p,r⟩:=TN K;refine On (Us (cs':=(qqC (ofQ<|Rat.divInt (a.num.toZ*b.num.toZ)<|a.den.toZ*b.den.toZ) aI aJ Y Z)) aG o io42 ?_);intro aO E F aa;have p:=p.sp F;have r:=r.sp F;refine Nl (RY<|J0 rfl (TL aa rfl ag42 rfl)<|RM ?_ E.below);exact TM (a:=(ofQ<|Rat.divInt (a.num.toZ*b.num.toZ)<|a.den.toZ*b.den.toZ)) ((J2 p r).tr (Tr.weak E.base))<|congrArg ofQ<|CN a b
theorem yZ{X:Nat→Prop}{w:World}(hX:XB X w){s:Value}{a:GInt}(u:RV Jo X w s a)(hl:a.mag.length≤34359738368):CRt 239 #[s] w fun v w'=>RV Jj X w' v (ofQ (Rat.divInt a.toZ 1)):=by
 obtain⟨x,y,rfl,r⟩:=RV.int u;have C:=Cx.start hX;have sa:=u.int_small;refine Cgo Tryz.func239 rfl rfl rfl (Rg<|Ol<|R9 C rfl ?_);intro U V Y Z I G z b;refine Ol (RR G io42 rfl ?_);intro J K L M H g h d;have r:=(r.sp z).sp h;have b:=b.spn h;refine Nl (Rg<|Ol<|Uo (vs:=(zzC a x y)) b ag40<|Ol<|RH g wI rfl rfl (yp g.bd (a:=a) (Je r) (by omega)) ?_);intro N P i A B;obtain⟨j,k,rfl,e⟩:=RV.int B;refine Ol (RH i cb44 rfl rfl (xv i.bd (by decide) (by decide)) ?_);intro Q R D l E;have d:=(d.spn A).spn l;obtain⟨m,n,rfl,f⟩:=RV.int E;refine Ol (Si (cs:=[(.bool (ofZ a.toZ).neg),(.slice j (ofZ a.toZ).mag.length k),(.bool (ofZ 1).neg),(.slice m (ofZ 1).mag.length n)]) rfl (by kernel_rfl)<|On<|Us (cs':=[(.bool (ofZ a.toZ).neg),(.slice j (ofZ a.toZ).mag.length k),(.bool (ofZ 1).neg),(.slice m (ofZ 1).mag.length n)]) D d io42 ?_);intro T o p F;have e:=(e.sp l).sp p;have f:=f.sp p;refine Nl (RY<|J0 rfl (TL F rfl ag42 rfl)<|RM ?_ o.below);exact TM (a:=(⟨⟨(ofZ a.toZ).neg,(ofZ a.toZ).mag⟩,⟨(ofZ 1).neg,(ofZ 1).mag⟩⟩:GRat)) ((J2 e f).tr (Tr.weak o.base))<|Kx rfl
end Go.Wf
namespace Go.Wf
open Go Go.RowKit
def GhL:Type:=Gh×(Nat→Option Nat)
def lR:Nat→Option Nat:=fun _=>none
def lab(m:Nat→Option Nat)(g k:Nat):Nat→Option Nat:=fun b=>if b=g then some k else m b
theorem Kt(m:Nat→Option Nat)(g k:Nat):lab m g k g=some k:=by unfold lab;rw[if_pos rfl]
theorem vk{m:Nat→Option Nat}{g g' j k:Nat}(h:m g=some j)(h':m g'=some k)(hjk:Nat.beq j k=false):g≠g':=by
 rintro rfl;rw[h] at h';cases h';simp at hjk
structure RL (X0:Nat→Prop) (w0:Bs) (s:GhL) (w:World) (s':GhL) (w':World):Prop where
 rc:RC X0 w0 s.1 w s'.1 w'
 ext:∀g k,s.2 g=some k→s'.2 g=some k
 bd:(∀g k,s.2 g=some k→g<w.heap.size)→∀g k,s'.2 g=some k→g<w'.heap.size
section
variable {X0:Nat→Prop} {w0:Bs}
theorem TU{x y:Nat→Prop}{w:World}(C:Cx X0 w0 x y w):RL X0 w0 ((x,y),lR) w ((x,y),lR) w.drew:=
 ⟨SS C,fun _ _ h=>h,fun _ _ _ h=>by cases h⟩
theorem RL.trans:∀(s:GhL) (a:World) (t:GhL) (b:World) (u:GhL) (c:World),RL X0 w0 s a t b→RL X0 w0 t b u c→RL X0 w0 s a u c:=
 fun s a t b u c h k=>⟨RC.trans _ _ _ _ _ _ h.rc k.rc,fun g j q=>k.ext g j (h.ext g j q),fun q=>k.bd (h.bd q)⟩
theorem TS{s:GhL}{w w':World}(r:RC X0 w0 s.1 w s.1 w'):RL X0 w0 s w s w':=
 ⟨r,fun _ _ h=>h,fun q g k h=>UB (q g k h) r.sp.tx.size⟩
theorem RL.same{s:GhL}{w:World}(C:Cx X0 w0 s.1.1 s.1.2 w):RL X0 w0 s w s w:=TS (RJ C)
theorem RL.new{s:GhL}{w w':World}{x y:Nat→Prop}{g k:Nat}(hb:∀b j,s.2 b=some j→b<w.heap.size)(r:RC X0 w0 s.1 w (x,y) w')(hle:w.heap.size≤g)(hlt:g<w'.heap.size):
  RL X0 w0 s w ((x,y),lab s.2 g k) w':=by
 refine⟨r,fun b j h=>?_,fun q b j h=>?_⟩
 ·have:=hb b j h
  show lab s.2 g k b=some j;unfold lab;rw[if_neg (by omega)];exact h
 ·have h:lab s.2 g k b=some j:=h;unfold lab at h;split at h
  ·subst b;exact hlt
  ·exact UB (q b j h) r.sp.tx.size
end
section
variable {P:Program} {ρ:Operand→Value} {dst:Option Tmp} {ty:TypeId} {pos:String} {after:Array Edge} {gd:Option (Nat×Bool)}
 {w:World} {K:Value→World→Prop} {Kp:List PanicEntry→World→Prop} {X0 x y:Nat→Prop} {w0:Bs}
theorem Tz {t e:TypeId} {l c:Operand} {kl kc:IntKind} {a:Int} {n by_:Nat} (C:Cx X0 w0 x y w) (ht:P.underlying t=some (.slice e)) (hl:ρ l= .int kl a) (hc:ρ c= .int kc a) (ha:a=n) (hb:n≤1099511627776)
  (hi:Zf P e=some (.int .u32 0,1,by_)) (hby:by_≤8)
  (h:∀g w' x',Cx X0 w0 x' y w'→Sp x y w x' y w' Zt→OS Jd e w0 x' y w' (.slice (some ⟨g,0,none⟩) n n) (List.replicate n 0)→K (.slice (some ⟨g,0,none⟩) n n) w'):
  St P ρ ⟨dst,.makeSlice t l c,ty,pos,after,gd⟩ w K Kp:=by
 refine So C ht hl hc ha hb hi hby fun g w' x' y' lt C' S' O'=>?_
 have hge:w.heap.size≤g:=ZB fun hh=>lt _ hh rfl;refine h g w' x' ⟨C'.below,C'.base,C'.bd,fun b hb=>C'.yx b (S'.up b hb)⟩ ⟨S'.tx,⟨fun _ _ h=>h,S'.ty.blk,S'.ty.size⟩,fun _ h=>h,S'.same⟩ ⟨⟨List.replicate n [u32v 0],by simp,?_,?_⟩,?_⟩
 ·intro i cs u hcs hu;have d:=(WY.1 hcs).2;have f:=(WY.1 hu).2;simp at d f;subst d;subst f;exact⟨rfl,by decide⟩
 ·refine⟨by simp[Jd],.inr ⟨g,n,((List.replicate n 0).map u32v).toArray,by simp,UN _,O'.blk,by simp,by unfold maxLen;omega,by simp[Jd],?_⟩⟩;simp[Jd]
 ·intro k hk;simp[Value.ownBlock] at hk;subst hk;exact⟨⟨C'.yx _ O'.mem,fun hy=>by have:=C.bd _ (C.yx _ hy);omega⟩,.inl (UC C.below.size hge)⟩
end
section
variable {X0 x y x':Nat→Prop} {w0:Bs} {w:World}
theorem OS.pub{α:Type}{T:Ty α}{E:TypeId}{v:Value}{l:List α}(h:OS T E w0 x y w v l)(hs:∀b,x' b→x b)(hx:∀k,v.ownBlock=some k→¬x' k):RS T x' w v l:=by
 obtain⟨⟨css,f,a,d⟩,hm⟩:=h;rcases d.2 with ⟨rfl,h⟩|⟨g,cap,cur,rfl,hb,hg,m,n,_⟩
 ·exact⟨none,0,by rw[h],by omega,by unfold maxLen;omega,.inl (UT h)⟩
 ·refine⟨_,cap,rfl,m,n,.inr ⟨g,0,rfl,hx g rfl,?_⟩⟩;intro i u hi;have hlt:i<l.length:=(WY.1 hi).1;have hci:css[i]? =some css[i]:=by simp[f,hlt]
  have hr:=a i _ u hci hi;refine⟨css[i],T.tr hr (Tr.weak hs),?_⟩;intro j v hv;have hall:∀cs∈css,cs.length=T.sz:=by
   intro cs hcs;obtain⟨q,hq,rfl⟩:=XK.1 hcs;have hq':q<l.length:=by omega
   exact T.len (a q _ l[q] (by simp[hq]) (by simp[hq']))
  have hj:j<css[i].length:=(WY.1 hv).1
  have:=V4 css hall i j _ hci hj
  rw[hv] at this;have e:=d.cells (g:=g) rfl _ _ this;rw[Addr.add_lit] at e;rw[show 0+i*T.sz+j=0+(i*T.sz+j) by omega];exact e
theorem OS.freeze{α:Type}{T:Ty α}{E:TypeId}{v:Value}{l:List α}(h:OS T E w0 x y w v l)(C:Cx X0 w0 x y w)(hX:∀b,X0 b→b<w0.heap.size)(hM:∀b,w0.M b→y b:=by exact fun _ h=>False.elim h):
  ∃x':Nat→Prop,Cx X0 w0 x' y w∧(∀b,x' b→x b)∧RS T x' w v l:=by
 refine⟨fun b=>x b∧v.ownBlock≠some b,⟨C.below,fun b hb=>⟨C.base b hb,fun e=>?_⟩,fun b hb=>C.bd b hb.1,fun b hb=>⟨C.yx b hb,fun e=>(h.mem b e).1.2 hb⟩⟩,fun _ hb=>hb.1,h.pub (fun _ hb=>hb.1) fun k e hk=>hk.2 e⟩;have d:=hX b hb
 rcases(h.mem b e).2 with a|a
 ·omega
 ·exact(h.mem b e).1.2 (hM b a)
end
def jL(ops:Array Oper)(m n q:Nat)(dl:List (List Nat)):Bool:=
 let N:=ops.size
 m≤N&&dl.length==m &&
 (ops.toList.all fun o=>match o.dst with|some d=>d<n|none=>true) &&
 ((List.range N).all fun k=>((ops[k]?).map fun o=>o.after.all fun e=> !Region.binds .any e||e.on<k).getD false) &&
 ((List.range m).all fun k=>(dl.getD k []).all fun j=>ancB ops N j k&&j<m) &&
 ((List.range N).all fun k=>k<m||(List.range k).all fun j=>ancB ops N j k) &&
 ((List.range m).all fun k=>if k==q then((ops[k]?).bind (·.dst)).isNone else((ops[k]?).bind (·.dst)).isSome&&(List.range m).all fun j=>j==k||j==q||Zj ops j != Zj ops k)
section
variable {fc:Fence} [Fw fc] {P:Program} {ops:Array Oper} {n:Nat} {D:List Deferred} {Q:Post} {f0:Fr} {w0:World}
structure DrawFacts2 (ops:Array Oper) (m n q:Nat) (dl:List (List Nat)):Prop where
 le:m≤ops.size
 len:dl.length=m
 dst:∀(k:Nat) (o:Oper),ops[k]? =some o→lo n o.dst
 back:∀(k:Nat) (o:Oper),ops[k]? =some o→∀e∈o.after,Region.binds .any e=true→e.on<k
 deps:∀k,k<m→∀j∈dl.getD k [],ancB ops ops.size j k=true∧j<m
 tail:∀k,k<ops.size→m≤k→∀j,j<k→ancB ops ops.size j k=true
 some:∀k,k<m→k≠q→((ops[k]?).bind (·.dst)).isSome=true
 none:∀k,k<m→k=q→((ops[k]?).bind (·.dst))=none
 apart:∀k,k<m→k≠q→∀j,j<m→j≠k→j≠q→Zj ops j≠Zj ops k
theorem iD{m q:Nat}{dl:List (List Nat)}(h:jL ops m n q dl=true):DrawFacts2 ops m n q dl:=by
 simp only[jL,VJ,decide_eq_true_eq,beq_iff_eq,WD,XQ,VP,bne_iff_ne] at h;obtain⟨⟨⟨⟨⟨⟨f,i⟩,l⟩,p⟩,r⟩,s⟩,b⟩:=h;have hS:∀k,k<m→k≠q→((ops[k]?).bind (·.dst)).isSome=true∧∀j,j<m→(j=k∨j=q)∨Zj ops j≠Zj ops k:=by
  intro k hk hq;have a:=b k hk;rw[if_neg hq] at a;simpa[VJ,WD,XQ,VP] using a
 refine⟨f,i,?_,?_,fun k hk j hj=>by have:=r k hk j hj;exact this,?_,fun k hk hq=>(hS k hk hq).1,?_,?_⟩
 ·intro k o ho;have hm:o∈ops.toList:=by
   have:=VE.1 ho
   obtain⟨hk,rfl⟩:=this;simp
  have:=l o hm
  unfold lo;cases hd:o.dst with
  |none=>trivial
  |some d=>rw[hd] at this;simpa using this
 ·intro k o ho e he hb;have hk:=(VE.1 ho).1
  have:=p k hk
  rw[ho] at this;simp only[Jai,Jaf,VB] at this
  have:=this e he
  simpa[hb] using this
 ·intro k hk hm j hj;rcases s k hk with h|h
  ·omega
  ·exact h j hj
 ·intro k hk hq;have a:=b k hk;rw[if_pos hq] at a;simpa using a
 ·intro k hk hq j hj hne hjq
  rcases(hS k hk hq).2 j hj with h|h
  ·rcases h with h|h
   ·exact absurd h hne
   ·exact absurd h hjq
  ·exact h
theorem xL{m q:Nat}{dl:List (List Nat)}(F:DrawFacts2 ops m n q dl):∀(fuel k:Nat) (L:Array Bool) (a:Act) (w:World),m≤k→k+fuel=ops.size→L.size=ops.size→
  (∀i,i<ops.size→(L.getD i true=true↔i<k))→Good n D a→Sq P ops n Q (ops.toList.drop k) (frOf a) w→
  wpAnyIn fc 0 P .any ops (fun e a' w'=>Good n D a'∧Q e (frOf a') w') fuel L a w:=by
 intro fuel;have bridge:∀(L:Array Bool),L.size=ops.size→∀i,i<ops.size→L.getD i false=L.getD i true:=by
  intro L hs i hi
  have:L[i]? =some L[i]:=by simp[hs,hi]
  simp[UK,this]
 induction fuel with
 |zero=>
  intro k L a w hm hk hs hL ha h;refine⟨?_,?_⟩
  ·rw[WO];intro i hi;obtain⟨b,d,_⟩:=J3.1 hi
   have:=(hL i b).2 (by omega)
   rw[this] at d;cases d
  ·rw[UY (by simp;omega)] at h;exact⟨ha,h⟩
 |succ fuel ih=>
  intro k L a w hm hk hs hL ha h;have hkN:k<ops.size:=by omega
  have hok:ops[k]? =some ops[k]:=by simp[hkN]
  have hdr:ops.toList.drop k=ops[k]::ops.toList.drop (k+1):=by
   rw[WM (by simpa using hkN)];simp
  rw[hdr] at h;have hrk:k∈Region.ready .any ops L:=by
   refine J3.2 ⟨hkN,?_,ops[k],hok,?_⟩
   ·cases hb:L.getD k true with
    |false=>rfl
    |true=>have:=(hL k hkN).1 hb;omega
   ·intro e he hb;have hlt:=F.back k _ hok e he hb;rw[bridge L hs _ (by omega)]
    exact(hL _ (by omega)).2 hlt
  refine⟨(fun hnil=>by rw[hnil] at hrk;cases hrk),?_⟩;intro i hi;obtain⟨b,d,o,ho,f⟩:=J3.1 hi;have hik:i=k:=by
   have hge:k≤i:=by
    rcases U2 i k with hl|hl
    ·rw[(hL i b).2 hl] at d;cases d
    ·exact hl
   rcases YU hge with e|hlt
   ·exact e.symm
   ·exfalso;have hc:Yf ops L:=by
     intro k' hk' hl o' ho' e' he' hb';have hlt':=F.back k' _ ho' e' he' hb';rw[bridge L hs _ (by omega)]
     have:=(hL k' hk').1 hl
     exact(hL _ (by omega)).2 (by omega)
    have:=Z2 hs hc ops.size k i b (fun o' ho'=>by rw[ho] at ho';cases ho';exact f) (F.tail i b (by omega) k hlt)
    rw[bridge L hs k hkN] at this
    have:=(hL k hkN).1 this
    omega
  subst hik;simp only[Sq] at h;obtain⟨hlo,h⟩:=h;refine zu (Kv:=fun v w'=>Sq P ops n Q (ops.toList.drop (i+1)) (updO (frOf a) ops[i].dst v) w') (Kp:=fun ch w'=>Q (.panic ch) (frOf a) w') hok ha h ?_ (fun _ _ q=>q)
  intro v w' hk';refine ih (i+1) _ _ _ (by omega) (by omega) (by simp[hs]) ?_ (ha.put _ _) (by rw[Kb ha _ hlo];exact hk');intro j hj;rw[UK,UR];by_cases e:i=j
  ·subst e;simp[hs,hkN]
  ·have:=hL j hj
   rw[UK] at this;simp only[e,if_false];rw[this];omega
theorem yX {σ:Type} {z:σ} {m q:Nat} {dl:List (List Nat)} (F:DrawFacts2 ops m n q dl) {R:σ→World→σ→World→Prop} {Gl:List (σ→Value→World→Prop)}
  (htr:∀s a t b u c,R s a t b→R t b u c→R s a u c) (hG:Xb R Gl) (hQ:∀s v v' w,(Gl.getD q noG) s v w→(Gl.getD q noG) s v' w)
  (hst:q6 P ops Q R Gl f0 z w0 (Jy ops m) ops.toList dl 0)
  (htail:∀f s w,R z w0 s w→Keep (Jy ops m) f0 f→Deps ops Gl f s w (List.range m)→Sq P ops n Q (ops.toList.drop m) f w):
  ∀(fuel:Nat) (L:Array Bool) (a:Act) (s:σ) (w:World),unl ops.size L=fuel→L.size=ops.size→Yf ops L→
   (∀i,i<ops.size→m≤i→L.getD i true=false)→Good n D a→R z w0 s w→Keep (Jy ops m) f0 (frOf a)→
   (∀j,j<m→L.getD j true=true→(Gl.getD j noG) s (frOf a (Zj ops j)) w)→
   wpAnyIn fc 0 P .any ops (fun e a' w'=>Good n D a'∧Q e (frOf a') w') fuel L a w:=by
 intro fuel;have bridge:∀(L:Array Bool),L.size=ops.size→∀i,i<ops.size→L.getD i false=L.getD i true:=by
  intro L hs i hi
  have:L[i]? =some L[i]:=by simp[hs,hi]
  simp[UK,this]
 have done:∀(L:Array Bool) (a:Act) (s:σ) (w:World),unl ops.size L=ops.size-m→L.size=ops.size→(∀i,i<m→L.getD i true=true)→
   (∀i,i<ops.size→m≤i→L.getD i true=false)→Good n D a→R z w0 s w→Keep (Jy ops m) f0 (frOf a)→
   (∀j,j<m→L.getD j true=true→(Gl.getD j noG) s (frOf a (Zj ops j)) w)→
   wpAnyIn fc 0 P .any ops (fun e a' w'=>Good n D a'∧Q e (frOf a') w') (ops.size-m) L a w:=by
  intro L a s w _ hs hall hno ha hR hK hg;refine xL F (ops.size-m) m L a w (UM _) (by have:=F.le;omega) hs ?_ ha (htail _ _ _ hR hK (Deps.of _ fun j hj=>hg j (by simpa using hj) (hall j (by simpa using hj))));intro i hi;constructor
  ·intro h;rcases U2 i m with hl|hl
   ·exact hl
   ·rw[hno i hi hl] at h;cases h
  ·intro h;exact hall i h
 have cnt:∀(L:Array Bool),(∀i,i<m→L.getD i true=true)→(∀i,i<ops.size→m≤i→L.getD i true=false)→unl ops.size L=ops.size-m:=by
  intro L p C;have hle:=F.le
  have:∀N,m≤N→N≤ops.size→unl N L=N-m:=by
   intro N hN
   induction N with
   |zero=>intro _;simp[unl]
   |succ N ih=>
    intro hNs;simp only[unl,XS,WF,WL];rcases YU hN with e|hlt
    ·have:unl N L=0:=by
      refine WJ.2 ?_;intro i hi;have hi':i<N:=by simpa using hi
      simp[p i (by omega)]
     unfold unl at this;rw[this,p N (by omega)];simp;omega
    ·have:=ih (by omega) (by omega)
     unfold unl at this;rw[this,C N (by omega) (by omega)];simp;omega
  exact this ops.size hle (UM _)
 induction fuel with
 |zero=>
  intro L a s w hu hs hc hno ha hR hK hg;have hall:=jg hu;have hall':∀i,i<m→L.getD i true=true:=fun i hi=>hall i (by have:=F.le;omega);have hu':=cnt L hall' hno
  have:=done L a s w hu' hs hall' hno ha hR hK hg
  rw[hu'.symm,hu] at this;exact this
 |succ fuel ih=>
  intro L a s w hu hs hc hno ha hR hK hg;by_cases hall:∀i,i<m→L.getD i true=true
  ·have hu':=cnt L hall hno
   have:=done L a s w hu' hs hall hno ha hR hK hg
   rw[hu'.symm,hu] at this;exact this
  ·
   have hex:∃i,i<m∧L.getD i true=false:=by
    refine VR fun hn=>hall fun i hi=>?_
    cases hb:L.getD i true with
    |true=>rfl
    |false=>exact absurd ⟨i,hi,hb⟩ hn
   have hmin:∃i,i<m∧L.getD i true=false∧∀j,j<i→L.getD j true=true:=by
    obtain⟨i,hi,hb⟩:=hex
    induction i using Nat.strongRecOn with
    |_ i ihh=>
     by_cases h:∃j,j<i∧L.getD j true=false
     ·obtain⟨j,hj,hjb⟩:=h;exact ihh j hj (by omega) hjb
     ·refine⟨i,hi,hb,fun j hj=>?_⟩
      cases hjb:L.getD j true with
      |true=>rfl
      |false=>exact absurd ⟨j,hj,hjb⟩ h
   obtain⟨l,J,A,hlow⟩:=hmin;have hle:=F.le;have B:l∈Region.ready .any ops L:=by
    have hok:ops[l]? =some ops[l]:=by simp[show l<ops.size by omega]
    refine J3.2 ⟨by omega,A,ops[l],hok,?_⟩;intro e he hbe;have hlt:=F.back l _ hok e he hbe;rw[bridge L hs _ (by omega)];exact hlow _ hlt
   refine⟨(fun hnil=>by rw[hnil] at B;cases B),?_⟩;intro i hi;obtain⟨p,C,o,ho,E⟩:=J3.1 hi;have him:i<m:=by
    rcases U2 i m with hl|hl
    ·exact hl
    ·exfalso
     have:=Z2 hs hc ops.size l i p (fun o' ho'=>by rw[ho] at ho';cases ho';exact E) (F.tail i p hl l (by omega))
     rw[bridge L hs l (by omega),A] at this;cases this
   have hdep:Deps ops Gl (frOf a) s w (dl.getD i []):=by
    refine Deps.of _ fun j hj=>?_
    obtain⟨hanc,hjm⟩:=F.deps i him j hj
    have:=Z2 hs hc ops.size j i p (fun o' ho'=>by rw[ho] at ho';cases ho';exact E) hanc
    rw[bridge L hs j (by omega)] at this;exact hg j hjm this
   have hstep:=q6.at ops.toList dl 0 hst i o (by simpa using ho) (by rw[F.len];exact him) (frOf a) s w hR hK hdep;rw[Jab] at hstep;have hlo:=F.dst i o ho;refine zu (Kv:=fun v w'=>∃s',R s w s' w'∧(Gl.getD i noG) s' v w') (Kp:=fun ch w'=>∀f,Q (.panic ch) f w') ho ha hstep ?_ ?_
   ·rintro v w' ⟨s',hRR,hgv⟩;refine ih _ _ s' _ ?_ (by simp[hs]) ?_ ?_ (ha.put _ _) (htr _ _ _ _ _ _ hR hRR) ?_ ?_
    ·have:=zg hs p C;omega
    ·intro k hk hl o' ho' e he hb;rw[UK,UR];by_cases G:i=e.on
     ·subst G;simp[hs,p]
     ·simp only[G,if_false];rw[←UK];by_cases H:i=k
      ·subst H;rw[ho] at ho';cases ho';exact E e he hb
      ·rw[UK,UR] at hl;simp only[H,if_false] at hl;rw[←UK] at hl;exact hc k hk hl o' ho' e he hb
    ·intro k hk hmk
     have:¬i=k:=by omega
     rw[UK,UR];simp only[this,if_false];rw[←UK];exact hno k hk hmk
    ·rw[Kb ha _ hlo];by_cases hiq:i=q
     ·have r:=F.none i him hiq;rw[ho] at r;have hd:o.dst=none:=r;rw[hd];exact hK
     have hsome:=F.some i him hiq;rw[ho] at hsome;have hdi:Zj ops i=(o.dst).getD 0:=by simp[Zj,ho]
     obtain⟨d,hd⟩:=Jag.1 hsome;simp only[Jae] at hd;have hdd:Zj ops i=d:=by rw[hdi,hd];rfl
     rw[hd];intro t ht;have htd:t≠d:=by
      rintro rfl
      have:t∈Jy ops m:=by
       refine XJ.2 ⟨o,?_,hd⟩;have h':ops.toList[i]? =some o:=by simpa using ho
       have:(ops.toList.take m)[i]? =some o:=by rw[W1,if_pos him];exact h'
       exact XO this
      have:(Jy ops m).contains t=true:=by simpa using this
      rw[this] at ht;cases ht
     simp only[updO,upd,htd,if_false];exact hK t ht
    ·intro j hj hl;rw[Kb ha _ hlo];have keepq:∀I,j=q→(Gl.getD j noG) s' (frOf a (Zj ops j)) w'→(Gl.getD j noG) s' I w':=by
      intro I e h;subst e;exact hQ _ _ _ _ h
     by_cases e:j=i
     ·by_cases hjq:j=q
      ·subst e;subst hjq;exact hQ _ _ _ _ hgv
      ·subst e;have hsome:=F.some j him hjq;rw[ho] at hsome;have hdi:Zj ops j=(o.dst).getD 0:=by simp[Zj,ho]
       obtain⟨d,hd⟩:=Jag.1 hsome;simp only[Jae] at hd;have hdd:Zj ops j=d:=by rw[hdi,hd];rfl
       rw[hd,hdd];simp only[updO,upd,if_true];exact hgv
     ·have e':¬i=j:=fun h=>e h.symm;rw[UK,UR] at hl;simp only[e',if_false] at hl;rw[←UK] at hl;have hst':=Xb.at Gl hG j _ s w s' w' (hg j hj hl) hRR;by_cases hjq:j=q
      ·exact keepq _ hjq hst'
      ·by_cases hiq:i=q
       ·have r:=F.none i him hiq;rw[ho] at r;have hd:o.dst=none:=r;rw[hd];exact hst'
       ·have hsome:=F.some i him hiq;rw[ho] at hsome;have hdi:Zj ops i=(o.dst).getD 0:=by simp[Zj,ho]
        obtain⟨d,hd⟩:=Jag.1 hsome;simp only[Jae] at hd;have hdd:Zj ops i=d:=by rw[hdi,hd];rfl
        have hne:Zj ops j≠d:=by rw[←hdd];exact F.apart i him hiq j hj e hjq
        rw[hd];simp only[updO,upd,hne,if_false];exact hst'
   ·intro c w' hq;exact hq _
theorem Uj {σ:Type} {id:Nat} (hm:P.follows .mixedOrders=true) (m q:Nat) (dl:List (List Nat)) (d:σ) (R:σ→World→σ→World→Prop) (Gl:List (σ→Value→World→Prop))
  (chk:jL ops m n q dl=true) (e:R d w0 d w0.drew) (htr:∀s a t b u c,R s a t b→R t b u c→R s a u c) (hG:Xb R Gl) (hQ:∀s v v' w,(Gl.getD q noG) s v w→(Gl.getD q noG) s v' w)
  (hst:q6 P ops Q R Gl f0 d w0 (Jy ops m) ops.toList dl 0)
  (htail:∀f s w,R d w0 s w→Keep (Jy ops m) f0 f→Deps ops Gl f s w (List.range m)→Sq P ops n Q (ops.toList.drop m) f w):
  W fc P (Code.region id ops true) n D Q f0 w0:=by
 intro a ha hf;have F:=iD chk;refine wpIn_region_any hm ?_;have hz:∀i,i<ops.size→(Array.replicate ops.size false).getD i true=false:=by
  intro i hi;simp[UK,hi]
 refine yX F htr hG hQ hst htail ops.size _ a d _ ?_ (by simp) ?_ (fun i hi _=>hz i hi) ha e (fun t _=>by rw[hf]) ?_
 ·unfold unl
  have:(List.range ops.size).countP (fun i=> !(Array.replicate ops.size false).getD i true)=(List.range ops.size).length:=by
   refine WI.2 ?_;intro i hi;simp[hz i (by simpa using hi)]
  rw[this];simp
 ·intro k hk hl;rw[hz k hk] at hl;cases hl
 ·intro j hj hl;rw[hz j (by have:=F.le;omega)] at hl;cases hl
theorem Th {σ:Type} {id:Nat} (hm:P.follows .mixedOrders=true) (m q:Nat) (dl:List (List Nat)) (d:σ) (R:σ→World→σ→World→Prop) (Gl:List (σ→Value→World→Prop))
  (chk:jL ops m n q dl=true) (e:R d w0 d w0.drew) (htr:∀s a t b u c,R s a t b→R t b u c→R s a u c) (hG:Xb R Gl) (hQ:∀s v v' w,(Gl.getD q noG) s v w→(Gl.getD q noG) s v' w)
  (h:∀f s w,R d w0 s w→Keep (Jy ops m) f0 f→xi P ops Q R Gl f s w ops.toList dl 0∧(Deps ops Gl f s w (List.range m)→Sq P ops n Q (ops.toList.drop m) f w)):
  W fc P (Code.region id ops true) n D Q f0 w0:=
 Uj hm m q dl d R Gl chk e htr hG hQ (qk _ _ _ fun f s w r k=>(h f s w r k).1) fun f s w r k=>(h f s w r k).2
end
structure RW (X0:Nat→Prop) (w0:Bs) (g:Nat) (Φ:Gh→World→Prop) (s:Gh) (w:World) (s':Gh) (w':World):Prop where
 cx:Cx X0 w0 s'.1 s'.2 w'
 sp:Sp s.1 s.2 w s'.1 s'.2 w' (· =g)
 tn:Φ s w→Φ s' w'
 ow:∀C T,Own w0 s.2 w g C T→∃C',C'.length=C.length∧Own w0 s'.2 w' g C' T
section
variable {X0:Nat→Prop} {w0:Bs} {g:Nat} {Φ:Gh→World→Prop}
theorem Sp.wide{x y x' y':Nat→Prop}{w w':World}{ch:Nat→Prop}(h:Sp x y w x' y' w' Zt):Sp x y w x' y' w' ch:=⟨h.tx,h.ty,h.up,fun b hb _=>h.same b hb id⟩
theorem Sp.transW{x y x' y' x'' y'':Nat→Prop}{a b c:World}{ch:Nat→Prop}(h:Sp x y a x' y' b ch)(k:Sp x' y' b x'' y'' c ch):Sp x y a x'' y'' c ch:=
 ⟨h.tx.trans k.tx,h.ty.trans k.ty,fun b hb=>k.up b (h.up b hb),fun b hb hc=>(k.same b (UB hb h.tx.size) hc).trans (h.same b hb hc)⟩
theorem RW.trans:∀(s:Gh) (a:World) (t:Gh) (b:World) (u:Gh) (c:World),RW X0 w0 g Φ s a t b→RW X0 w0 g Φ t b u c→RW X0 w0 g Φ s a u c:=
 fun s a t b u c h k=>⟨k.cx,h.sp.transW k.sp,fun q=>k.tn (h.tn q),fun C T o=>by
  obtain⟨d,e,f⟩:=h.ow C T o;obtain⟨i,j,l⟩:=k.ow d T f;exact⟨i,j.trans e,l⟩⟩
theorem TR(hΦ:∀(s:Gh) (w:World) (s':Gh) (w':World),Sp s.1 s.2 w s'.1 s'.2 w' Zt→Φ s w→Φ s' w'){s s':Gh}{w w':World}(r:RC X0 w0 s w s' w'):RW X0 w0 g Φ s w s' w':=
 ⟨r.cx,r.sp.wide,hΦ _ _ _ _ r.sp,fun C T o=>⟨C,rfl,o.spn r.sp⟩⟩
theorem RW.turn{s:Gh}{w w':World}{C C':List Value}{T:TypeId}(c:Cx X0 w0 s.1 s.2 w')(p:Sp s.1 s.2 w s.1 s.2 w' (· =g))(o:Own w0 s.2 w g C T)(o':Own w0 s.2 w' g C' T)(hl:C'.length=C.length)(h:Φ s w'):RW X0 w0 g Φ s w s w':=by
 refine⟨c,p,fun _=>h,fun f T2 b=>?_⟩
 have:=b.blk
 have a:=o.blk;unfold Blk at this a;rw[a] at this;simp only[Jak,Obj.cells.injEq] at this;obtain⟨d,e,_⟩:=this;subst e;refine⟨C',?_,o'⟩;rw[hl]
 have:=congrArg Array.size d
 simpa using this
end
section
variable {P:Program} {ρ:Operand→Value} {dst:Option Tmp} {ty:TypeId} {pos:String} {after:Array Edge} {gd:Option (Nat×Bool)}
 {w:World} {K:Value→World→Prop} {Kp:List PanicEntry→World→Prop} {X0 x y:Nat→Prop} {w0:Bs}
theorem S1 {a v:Operand} {t:TypeId} {z:Value} {sz by_ g:Nat} {cs vs:List Value} {T:TypeId} (C:Cx X0 w0 x y w) (hb:Own w0 y w g cs T) (hi:Zf P t=some (z,sz,by_))
  (hx:ρ a= .pointer (some ⟨g,0,none⟩)) (hy:(ρ v).cells=vs.toArray) (hl:vs.length=sz) (hcl:cs.length=sz) (b:vs.all Value.oneCell'=true)
  (h:∀w',Cx X0 w0 x y w'→Sp x y w x y w' (· =g)→Own w0 y w' g vs T→K undef w'):St P ρ ⟨dst,.store t a v,ty,pos,after,gd⟩ w K Kp:=
 SZ C hb hi hx hy hl (YL (by omega)) b (by rw[List.take_zero,UZ,Jab,UY (by omega),U8]) h
end
section
variable {P:Program} {ops:Array Oper} {n:Nat} {Q:Post} {r:List Oper} {f:Fr} {w:World}
theorem Oy {d:Nat} {op:Op} {ty:TypeId} {pos:String} {after:Array Edge} {j:Nat} {b:Bool} (hlo:Nat.blt d n=true) (hy:Zb ops f j=none)
  (h:Sq P ops n Q r (updO f (some d) undef) w):
  Sq P ops n Q (⟨some d,op,ty,pos,after,some (j,b)⟩::r) f w:=⟨UW hlo,by simp only[Region.wanted,hy];exact h⟩
end
section
variable {P:Program} {ρ:Operand→Value} {w:World} {K:Value→World→Prop} {Kp:List PanicEntry→World→Prop} {dst:Option Tmp} {ty:TypeId} {pos:String} {after:Array Edge} {gd:Option (Nat×Bool)} {X0 x y:Nat→Prop} {w0:Bs}
end
end Go.Wf
namespace Go.Wf
open Go Go.Proofs Go.RowKit
section
variable {w0:Bs} {X0 x y x' y':Nat→Prop} {w w':World} {g g':Nat} {s:List UInt8} {pos:Nat}
end
section
variable {P:Program} {ρ:Operand→Value} {w:World} {K:Value→World→Prop} {Kp:List PanicEntry→World→Prop} {dst:Option Tmp} {ty:TypeId} {pos:String} {after:Array Edge} {gd:Option (Nat×Bool)} {X0 x y:Nat→Prop} {w0:Bs}
end
section
variable {P:Program} {ρ:Operand→Value} {w:World} {K:Value→World→Prop} {Kp:List PanicEntry→World→Prop} {dst:Option Tmp} {ty:TypeId} {pos:String} {after:Array Edge} {gd:Option (Nat×Bool)} {X0 x y:Nat→Prop} {w0:Bs}
end
section
variable {P:Program} {ρ:Operand→Value} {w:World} {K:Value→World→Prop} {Kp:List PanicEntry→World→Prop} {dst:Option Tmp} {ty:TypeId} {pos:String} {after:Array Edge} {gd:Option (Nat×Bool)} {X0 x y:Nat→Prop} {w0:Bs}
def RU(X0:Nat→Prop)(b0:Bs)(x y:Nat→Prop):Unit→World→Unit→World→Prop:=fun _ w _ w'=>Cx X0 b0 x y w'∧Sp x y w x y w' Zt
def ur{α:Type}(x:Nat→Prop)(T:Ty α)(m:α):Unit→Value→World→Prop:=fun _ v w=>RV T x w v m
def us{α:Type}(x:Nat→Prop)(T:Ty α)(m:List α):Unit→Value→World→Prop:=fun _ v w=>RS T x w v m
def uE{α:Type}(x:Nat→Prop)(T:Ty α)(m:α):Unit→Value→World→Prop:=fun _ v w=>∃(b o:Nat) (cs:List Value),v= .pointer (some ⟨b,o,none⟩)∧ElAt T x w b o cs m
def u0{τ:Type}:τ→Value→World→Prop:=fun _ v _=>∃g,v= .slice (some ⟨g,0,none⟩) 0 0
theorem tr{a:Bs}{α:Type}{T:Ty α}{m:α}:∀v s w s' w',ur x T m s v w→RU X0 a x y s w s' w'→ur x T m s' v w':=fun _ _ _ _ _ h r=>RV.tr h r.2.tx
theorem ts{a:Bs}{α:Type}{T:Ty α}{m:List α}:∀v s w s' w',us x T m s v w→RU X0 a x y s w s' w'→us x T m s' v w':=fun _ _ _ _ _ h r=>RS.tr h r.2.tx
theorem tE{a:Bs}{α:Type}{T:Ty α}{m:α}:∀v s w s' w',uE x T m s v w→RU X0 a x y s w s' w'→uE x T m s' v w':=fun _ _ _ _ _ ⟨b,o,cs,e,h⟩ r=>⟨b,o,cs,e,h.tr r.2.tx⟩
end
section
variable {fc:Fence} [Fw fc] {P:Program} {ops:Array Oper} {n:Nat} {D:List Deferred} {Q:Post} {f0:Fr} {w0:World}
theorem Tx {id:Nat} (hm:P.follows .mixedOrders=true) (m:Nat) (dl:List (List Nat)) {X0 x y:Nat→Prop} {a:Bs} (C:Cx X0 a x y w0) (Gl:List (Unit→Value→World→Prop))
  (chk:jc ops m n dl=true) (hG:Xb (RU X0 a x y) Gl)
  (h:∀f w,Cx X0 a x y w→Sp x y w0 x y w Zt→Keep (Jy ops m) f0 f→xi P ops Q (RU X0 a x y) Gl f () w ops.toList dl 0∧(Deps ops Gl f () w (List.range m)→Sq P ops n Q (ops.toList.drop m) f w)):
  W fc P (Code.region id ops true) n D Q f0 w0:=
 SY hm m dl () (RU X0 a x y) Gl chk (by obtain⟨c,s⟩:=C.next (Below.refl _ _).drew;exact⟨c,s⟩) (fun _ _ _ _ _ _ h k=>⟨k.1,h.2.trans k.2⟩) hG fun f s w r k=>h f w r.1 r.2 k
end
end Go.Wf
namespace Go.Wf
open Go Go.RowKit
section
variable {fc:Fence} [Fw fc] {P:Program} {ops:Array Oper} {n:Nat} {D:List Deferred} {Q:Post} {f0:Fr} {w0:World}
def vi{σ:Type}(P:Program)(ops:Array Oper)(Q:Post)(R R0:σ→World→σ→World→Prop)(N:σ→World→Prop)(q:Nat)(Gl:List (σ→Value→World→Prop))(f:Fr)(s:σ)(w:World):List Oper→List (List Nat)→Nat→Prop
 |o::l,d::dl,k=>
  (Deps ops Gl f s w d→(Nat.beq k q=true→N s w)→OpSt P ops f o w (fun v w'=>∃s',(bif Nat.beq k q then R else R0) s w s' w'∧(Gl.getD k noG) s' v w') (fun ch w'=>∀f,Q (.panic ch) f w'))∧vi P ops Q R R0 N q Gl f s w l dl (k+1)
 |_,_,_=>True
def ya{σ:Type}(R R0:σ→World→σ→World→Prop)(q:Nat):List (σ→Value→World→Prop)→Nat→Prop
 |[],_=>True
 |g::r,k=>(∀v s w s' w',g s v w→(bif Nat.beq k q then R0 else R) s w s' w'→g s' v w')∧ya R R0 q r (k+1)
theorem ya.at{σ:Type}{R a:σ→World→σ→World→Prop}{q:Nat}:∀(Gl:List (σ→Value→World→Prop)) (k:Nat),ya R a q Gl k→∀j v s w s' w',(Gl.getD j noG) s v w→(bif Nat.beq (k+j) q then a else R) s w s' w'→(Gl.getD j noG) s' v w':=by
 intro Gl
 induction Gl with
 |nil=>intro k _ j v s w s' w' _ _;simp[List.getD,noG]
 |cons g r ih=>
  intro k h j v s w s' w' hg hr;cases j with
  |zero=>exact h.1 v s w s' w' hg hr
  |succ j=>exact ih (k+1) h.2 j v s w s' w' hg (by rw[show k+1+j=k+(j+1) by omega];exact hr)
theorem vi.at{σ:Type}{R a:σ→World→σ→World→Prop}{N:σ→World→Prop}{q:Nat}{Gl:List (σ→Value→World→Prop)}{f:Fr}{s:σ}{w:World}:∀(l:List Oper) (dl:List (List Nat)) (k:Nat),vi P ops Q R a N q Gl f s w l dl k→
  ∀i o,l[i]? =some o→i<dl.length→Deps ops Gl f s w (dl.getD i [])→(Nat.beq (k+i) q=true→N s w)→
   OpSt P ops f o w (fun v w'=>∃s',(bif Nat.beq (k+i) q then R else a) s w s' w'∧(Gl.getD (k+i) noG) s' v w') (fun ch w'=>∀f,Q (.panic ch) f w'):=by
 intro l
 induction l with
 |nil=>intro dl k _ i o h;simp at h
 |cons x l ih=>
  intro dl k hst i o ho hi;cases dl with
  |nil=>simp at hi
  |cons d dl=>
   cases i with
   |zero=>simp at ho;subst ho;exact hst.1
   |succ i=>
    have:=ih dl (k+1) hst.2 i o (by simpa using ho) (by simpa using hi)
    intro e b;rw[show k+(i+1)=k+1+i by omega] at b ⊢;exact this (by simpa using e) b
theorem xK {σ:Type} {y:σ} {m q:Nat} {dl:List (List Nat)} (F:DrawFacts ops m n dl) {R r:σ→World→σ→World→Prop} {N:σ→World→Prop} {Gl:List (σ→Value→World→Prop)}
  (htr:∀s a t b u c,R s a t b→R t b u c→R s a u c) (E:∀s a t b,r s a t b→R s a t b) (hN:∀s a t b,N s a→r s a t b→N t b) (hG:ya R r q Gl 0)
  (hst:∀f s w,R y w0 s w→Keep (Jy ops m) f0 f→vi P ops Q R r N q Gl f s w ops.toList dl 0)
  (htail:∀f s w,R y w0 s w→Keep (Jy ops m) f0 f→Deps ops Gl f s w (List.range m)→Sq P ops n Q (ops.toList.drop m) f w):
  ∀(fuel:Nat) (L:Array Bool) (a:Act) (s:σ) (w:World),unl ops.size L=fuel→L.size=ops.size→Yf ops L→
   (∀i,i<ops.size→m≤i→L.getD i true=false)→Good n D a→R y w0 s w→Keep (Jy ops m) f0 (frOf a)→
   (∀j,j<m→L.getD j true=true→(Gl.getD j noG) s (frOf a (Zj ops j)) w)→(L.getD q true=false→N s w)→
   wpAnyIn fc 0 P .any ops (fun e a' w'=>Good n D a'∧Q e (frOf a') w') fuel L a w:=by
 intro fuel;have bridge:∀(L:Array Bool),L.size=ops.size→∀i,i<ops.size→L.getD i false=L.getD i true:=by
  intro L hs i hi
  have:L[i]? =some L[i]:=by simp[hs,hi]
  simp[UK,this]
 have done:∀(L:Array Bool) (a:Act) (s:σ) (w:World),unl ops.size L=ops.size-m→L.size=ops.size→(∀i,i<m→L.getD i true=true)→
   (∀i,i<ops.size→m≤i→L.getD i true=false)→Good n D a→R y w0 s w→Keep (Jy ops m) f0 (frOf a)→
   (∀j,j<m→L.getD j true=true→(Gl.getD j noG) s (frOf a (Zj ops j)) w)→
   wpAnyIn fc 0 P .any ops (fun e a' w'=>Good n D a'∧Q e (frOf a') w') (ops.size-m) L a w:=by
  intro L a s w _ hs hall hno ha hR hK hg;refine vS F (ops.size-m) m L a w (UM _) (by have:=F.le;omega) hs ?_ ha (htail _ _ _ hR hK (Deps.of _ fun j hj=>hg j (by simpa using hj) (hall j (by simpa using hj))));intro i hi;constructor
  ·intro h;rcases U2 i m with hl|hl
   ·exact hl
   ·rw[hno i hi hl] at h;cases h
  ·intro h;exact hall i h
 have cnt:∀(L:Array Bool),(∀i,i<m→L.getD i true=true)→(∀i,i<ops.size→m≤i→L.getD i true=false)→unl ops.size L=ops.size-m:=by
  intro L l x;have hle:=F.le
  have:∀N,m≤N→N≤ops.size→unl N L=N-m:=by
   intro N hN
   induction N with
   |zero=>intro _;simp[unl]
   |succ N ih=>
    intro hNs;simp only[unl,XS,WF,WL];rcases YU hN with e|hlt
    ·have:unl N L=0:=by
      refine WJ.2 ?_;intro i hi;have hi':i<N:=by simpa using hi
      simp[l i (by omega)]
     unfold unl at this;rw[this,l N (by omega)];simp;omega
    ·have:=ih (by omega) (by omega)
     unfold unl at this;rw[this,x N (by omega) (by omega)];simp;omega
  exact this ops.size hle (UM _)
 induction fuel with
 |zero=>
  intro L a s w hu hs hc hno ha hR hK hg hNn;have hall:=jg hu;have hall':∀i,i<m→L.getD i true=true:=fun i hi=>hall i (by have:=F.le;omega);have hu':=cnt L hall' hno
  have:=done L a s w hu' hs hall' hno ha hR hK hg
  rw[hu'.symm,hu] at this;exact this
 |succ fuel ih=>
  intro L a s w hu hs hc hno ha hR hK hg hNn;by_cases hall:∀i,i<m→L.getD i true=true
  ·have hu':=cnt L hall hno
   have:=done L a s w hu' hs hall hno ha hR hK hg
   rw[hu'.symm,hu] at this;exact this
  ·
   have hex:∃i,i<m∧L.getD i true=false:=by
    refine VR fun hn=>hall fun i hi=>?_
    cases hb:L.getD i true with
    |true=>rfl
    |false=>exact absurd ⟨i,hi,hb⟩ hn
   have hmin:∃i,i<m∧L.getD i true=false∧∀j,j<i→L.getD j true=true:=by
    obtain⟨i,hi,hb⟩:=hex
    induction i using Nat.strongRecOn with
    |_ i ihh=>
     by_cases h:∃j,j<i∧L.getD j true=false
     ·obtain⟨j,hj,hjb⟩:=h;exact ihh j hj (by omega) hjb
     ·refine⟨i,hi,hb,fun j hj=>?_⟩
      cases hjb:L.getD j true with
      |true=>rfl
      |false=>exact absurd ⟨j,hj,hjb⟩ h
   obtain⟨p,H,A,hlow⟩:=hmin;have hle:=F.le;have B:p∈Region.ready .any ops L:=by
    have hok:ops[p]? =some ops[p]:=by simp[show p<ops.size by omega]
    refine J3.2 ⟨by omega,A,ops[p],hok,?_⟩;intro e he hbe;have hlt:=F.back p _ hok e he hbe;rw[bridge L hs _ (by omega)];exact hlow _ hlt
   refine⟨(fun hnil=>by rw[hnil] at B;cases B),?_⟩;intro i hi;obtain⟨l,x,o,ho,C⟩:=J3.1 hi;have him:i<m:=by
    rcases U2 i m with hl|hl
    ·exact hl
    ·exfalso
     have:=Z2 hs hc ops.size p i l (fun o' ho'=>by rw[ho] at ho';cases ho';exact C) (F.tail i l hl p (by omega))
     rw[bridge L hs p (by omega),A] at this;cases this
   have hdep:Deps ops Gl (frOf a) s w (dl.getD i []):=by
    refine Deps.of _ fun j hj=>?_
    obtain⟨hanc,hjm⟩:=F.deps i him j hj
    have:=Z2 hs hc ops.size j i l (fun o' ho'=>by rw[ho] at ho';cases ho';exact C) hanc
    rw[bridge L hs j (by omega)] at this;exact hg j hjm this
   have hstep:=vi.at ops.toList dl 0 (hst (frOf a) s w hR hK) i o (by simpa using ho) (by rw[F.len];exact him) hdep (fun e=>hNn (by rw[←Jab i,YT e] at x;exact x));rw[Jab] at hstep;have hsome:=F.some i him;rw[ho] at hsome;have hdi:Zj ops i=(o.dst).getD 0:=by simp[Zj,ho]
   obtain⟨d,hd⟩:=Jag.1 hsome;simp only[Jae] at hd;have hdd:Zj ops i=d:=by rw[hdi,hd];rfl
   have hlo:=F.dst i o ho;refine zu (Kv:=fun v w'=>∃s',(bif Nat.beq i q then R else r) s w s' w'∧(Gl.getD i noG) s' v w') (Kp:=fun ch w'=>∀f,Q (.panic ch) f w') ho ha hstep ?_ ?_
   ·rintro v w' ⟨s',g,hgv⟩;have hRR:R s w s' w':=by
     cases hb:Nat.beq i q with
     |true=>rw[hb] at g;exact g
     |false=>rw[hb] at g;exact E _ _ _ _ g
    refine ih _ _ s' _ ?_ (by simp[hs]) ?_ ?_ (ha.put _ _) (htr _ _ _ _ _ _ hR hRR) ?_ ?_ ?_
    ·have:=zg hs l x;omega
    ·intro k hk hl o' ho' e he hb;rw[UK,UR];by_cases G:i=e.on
     ·subst G;simp[hs,l]
     ·simp only[G,if_false];rw[←UK];by_cases z:i=k
      ·subst z;rw[ho] at ho';cases ho';exact C e he hb
      ·rw[UK,UR] at hl;simp only[z,if_false] at hl;rw[←UK] at hl;exact hc k hk hl o' ho' e he hb
    ·intro k hk hmk
     have:¬i=k:=by omega
     rw[UK,UR];simp only[this,if_false];rw[←UK];exact hno k hk hmk
    ·rw[Kb ha _ hlo,hd];intro t ht;have htd:t≠d:=by
      rintro rfl
      have:t∈Jy ops m:=by
       refine XJ.2 ⟨o,?_,hd⟩;have h':ops.toList[i]? =some o:=by simpa using ho
       have:(ops.toList.take m)[i]? =some o:=by rw[W1,if_pos him];exact h'
       exact XO this
      have:(Jy ops m).contains t=true:=by simpa using this
      rw[this] at ht;cases ht
     simp only[updO,upd,htd,if_false];exact hK t ht
    ·intro j hj hl;rw[Kb ha _ hlo,hd];by_cases e:j=i
     ·subst e;rw[hdd];simp only[updO,upd,if_true];exact hgv
     ·have hne:Zj ops j≠d:=by rw[←hdd];exact F.apart i him j hj e
      simp only[updO,upd,hne,if_false];have e':¬i=j:=fun h=>e h.symm;rw[UK,UR] at hl;simp only[e',if_false] at hl;rw[←UK] at hl;have hsj:=ya.at Gl 0 hG j _ s w s' w' (hg j hj hl);rw[Jab] at hsj;cases hb:Nat.beq j q with
      |true=>
       have hjq:=YT hb;subst hjq;rw[hb] at hsj;have hbi:Nat.beq i j=false:=Bool.eq_false_iff.2 fun e=>e' (YT e);rw[hbi] at g;exact hsj g
      |false=>rw[hb] at hsj;exact hsj hRR
    ·intro hl;rw[UK,UR] at hl;by_cases e:i=q
     ·subst e;simp[hs,l] at hl
     ·simp only[e,if_false] at hl;rw[←UK] at hl;have hbi:Nat.beq i q=false:=Bool.eq_false_iff.2 fun z=>e (YT z);rw[hbi] at g;exact hN _ _ _ _ (hNn hl) g
   ·intro c w' hq;exact hq _
theorem jD{f:Fr}{w:World}{fn:Func}{r s q z:ResultVar}{v u x y:Value}(hr:fn.results= #[r,s,q,z])(h:resV (P:=P) f w r v)(k:resV (P:=P) f w s u)(m:resV (P:=P) f w q x)(l:resV (P:=P) f w z y):∀tmps:Array Value,(∀t,tmps.getD t undef=f t)→(results fn tmps).run P w= .ok (.tuple #[v,u,x,y]) w:=by
 intro tmps ht;have a:=Kl h tmps ht;have b:=Kl k tmps ht;have d:=Kl m tmps ht;have e:=Kl l tmps ht;simp only[X2,hr,W9,W8,List.mapM_nil,Sem.run_bind,Sem.run_map];rw[a];simp only[Result.andThen_ok];rw[b];simp only[Result.andThen_ok];rw[d];simp only[Result.andThen_ok];rw[e];simp
theorem Rz{f:Fr}{w:World}{fn:Func}{R:Ending→World→Prop}{r s q z:ResultVar}{v u x y:Value}(hr:fn.results= #[r,s,q,z])(h:resV (P:=P) f w r v)(k:resV (P:=P) f w s u)(m:resV (P:=P) f w q x)(l:resV (P:=P) f w z y)(hR:R (.returned (.tuple #[v,u,x,y])) w):retQ P fn R .ret f w:=⟨_,jD hr h k m l,hR⟩
def RA0(X0:Nat→Prop)(b0:Bs)(s:Gh)(w:World)(s':Gh)(w':World):Prop:=s'=s∧Cx X0 b0 s.1 s.2 w'∧Sp s.1 s.2 w s.1 s.2 w' Zt
structure RA (X0:Nat→Prop) (b0:Bs) (s:Gh) (w:World) (s':Gh) (w':World):Prop where
 cx:Cx X0 b0 s'.1 s'.2 w'
 yy:s'.2=s.2
 ap:Ap s.1 w s'.1 s.2 w'
theorem RA.of{d:Nat→Prop}{e:Bs}:∀(s:Gh) (a:World) (t:Gh) (b:World),RA0 d e s a t b→RA d e s a t b:=by
 rintro s a _ b ⟨rfl,c,p⟩;exact⟨c,rfl,p.tx,fun g hg hy=>p.same g hg id⟩
theorem RA.trans{d:Nat→Prop}{e:Bs}:∀(s:Gh) (a:World) (t:Gh) (b:World) (u:Gh) (c:World),RA d e s a t b→RA d e t b u c→RA d e s a u c:=
 fun s a t b u c h k=>⟨k.cx,k.yy.trans h.yy,h.ap.tx.trans k.ap.tx,fun g hg hy=>(k.ap.same g (UB hg h.ap.tx.size) (by rw[h.yy];exact hy)).trans (h.ap.same g hg hy)⟩
theorem RA0.same{a:Nat→Prop}{b:Bs}{s:Gh}{w:World}(C:Cx a b s.1 s.2 w):RA0 a b s w s w:=⟨rfl,C,Sp.refl⟩
theorem TT{a:Nat→Prop}{b:Bs}{x y:Nat→Prop}{w w':World}(C:Cx a b x y w')(S:Sp x y w x y w' Zt):RA0 a b (x,y) w (x,y) w':=⟨rfl,C,S⟩
theorem T6{α:Type}{T:Ty α}{E:TypeId}{b:Bs}{x y:Nat→Prop}{w:World}{v:Value}{l:List α}(h:OS T E b x y w v l):∃a c,v= .slice a l.length c∧OS T E b x y w (.slice a l.length c) l:=by
 obtain⟨a,c,rfl,_,_⟩:=h.len;exact⟨a,c,rfl,h⟩
theorem TY{b:Nat→Prop}{d:Bs}{s:Gh}{w w':World}{x':Nat→Prop}(C:Cx b d x' s.2 w')(a:Ap s.1 w x' s.2 w'):RA b d s w (x',s.2) w':=⟨C,rfl,a⟩
theorem aSl{a:Nat→Prop}{b:Bs}{α:Type}{T:Ty α}{m:List α}:∀v s w s' w',fs T m s v w→RA a b s w s' w'→fs T m s' v w':=fun _ _ _ _ _ h r=>RS.tr h r.ap.tx
theorem aRv{a:Nat→Prop}{b:Bs}{α:Type}{T:Ty α}{m:α}:∀v s w s' w',fr T m s v w→RA a b s w s' w'→fr T m s' v w':=fun _ _ _ _ _ h r=>RV.tr h r.ap.tx
theorem aEl{a:Nat→Prop}{d:Bs}{α:Type}{T:Ty α}{m:α}:∀v s w s' w',fE T m s v w→RA a d s w s' w'→fE T m s' v w':=fun _ _ _ _ _ ⟨b,o,cs,e,h⟩ r=>⟨b,o,cs,e,h.tr r.ap.tx⟩
def fo{α:Type}(T:Ty α)(E:TypeId)(b0:Bs)(m:List α):Gh→Value→World→Prop:=fun s v w=>OS T E b0 s.1 s.2 w v m
theorem so{b:Nat→Prop}{a:Bs}{α:Type}{T:Ty α}{E:TypeId}{m:List α}:∀v s w s' w',fo T E a m s v w→RA0 b a s w s' w'→fo T E a m s' v w':=by
 rintro v s w _ w' h ⟨rfl,c,p⟩;exact OS.sp h p c fun _ h=>h
theorem Te {α:Type} {T:Ty α} {E:TypeId} {l:Value} {p:List α} {id:Nat} (hm:P.follows .mixedOrders=true) (m q:Nat) (dl:List (List Nat)) {e x y:Nat→Prop} {d:Bs} (C:Cx e d x y w0) (ho:OS T E d x y w0 l p)
  (Gl:List (Gh→Value→World→Prop)) (chk:jc ops m n dl=true) (hG:ya (RA e d) (RA0 e d) q Gl 0)
  (h:∀f s w,RA e d (x,y) w0 s w→Keep (Jy ops m) f0 f→vi P ops Q (RA e d) (RA0 e d) (fun s w=>OS T E d s.1 s.2 w l p) q Gl f s w ops.toList dl 0∧(Deps ops Gl f s w (List.range m)→Sq P ops n Q (ops.toList.drop m) f w)):
  W fc P (Code.region id ops true) n D Q f0 w0:=by
 intro a ha hf;have F:=Xp chk;refine wpIn_region_any hm ?_;have hz:∀i,i<ops.size→(Array.replicate ops.size false).getD i true=false:=by
  intro i hi;simp[UK,hi]
 have g:=C.next (Below.refl _ _).drew;refine xK F RA.trans RA.of (fun s a t b o r=>so _ s a t b o r) hG (fun f s w r k=>(h f s w r k).1) (fun f s w r k=>(h f s w r k).2) ops.size _ a (x,y) _ ?_ (by simp) ?_ (fun i hi _=>hz i hi) ha (RA.of _ _ _ _ ⟨rfl,g.1,g.2⟩) (fun t _=>by rw[hf]) ?_ (fun _=>OS.sp ho g.2 g.1 fun _ h=>h)
 ·unfold unl
  have:(List.range ops.size).countP (fun i=> !(Array.replicate ops.size false).getD i true)=(List.range ops.size).length:=by
   refine WI.2 ?_;intro i hi;simp[hz i (by simpa using hi)]
  rw[this];simp
 ·intro k hk hl;rw[hz k hk] at hl;cases hl
 ·intro j hj hl;rw[hz j (by have:=F.le;omega)] at hl;cases hl
end
structure OW {α:Type} (T:Ty α) (E:TypeId) (x:Nat→Prop) (w:World) (v:Value) (l:List α):Prop where
 ex:∃css:List (List Value),css.length=l.length∧(∀(i:Nat) (cs:List Value) (u:α),css[i]? =some cs→l[i]? =some u→T.rd x w cs u)∧w.ownsRow 0 E T.sz v l.length css.flatten
section
variable {α:Type} {T:Ty α} {E:TypeId} {X X0 x y:Nat→Prop} {w w':World} {w0:Bs} {v:Value} {l:List α}
end
section
variable {P:Program} {ρ:Operand→Value} {w:World} {K:Value→World→Prop} {Kp:List PanicEntry→World→Prop} {dst:Option Tmp} {ty:TypeId} {pos:String} {after:Array Edge} {gd:Option (Nat×Bool)} {X0 x y:Nat→Prop} {w0:Bs} {α:Type} {T:Ty α} {E:TypeId}
theorem S4 {a i:Operand} {t e:TypeId} {z:Value} {by_:Nat} {ad:Option Addr} {n c:Nat} {l:List α} {k:IntKind} {m:Int} {j:Nat} (ho:OS T E w0 x y w (.slice ad n c) l) (ht:P.underlying t=some (.slice e)) (hi:Zf P e=some (z,T.sz,by_))
  (hx:ρ a= .slice ad n c) (hy:ρ i= .int k m) (hm:m=j) (hj:j<l.length)
  (h:K (.pointer (ad.map (·.add (j*T.sz)))) w):St P ρ ⟨dst,.indexAddr t a i,ty,pos,after,gd⟩ w K Kp:=by
 obtain⟨inf,hi',_,hs,_⟩:=Jk hi;obtain⟨⟨css,p,r,d⟩,hmm⟩:=ho;rcases d.2 with ⟨b,f⟩|⟨g,cap,cur,b,hb,hg,f,s,_⟩
 ·omega
 ·cases b;refine SI ht hi' hs hx hy hm hj ?_;have o:(Value.pointer (Option.map (fun x=>x.add (j*T.sz)) (some (⟨g,0,none⟩:Addr))))= .pointer (some ⟨g,0+j*T.sz,none⟩):=by simp[Addr.add];intro h;exact h.symm
  rw[o] at h;exact h
end
section
variable {P:Program} {ρ:Operand→Value} {w:World} {K:Value→World→Prop} {Kp:List PanicEntry→World→Prop} {dst:Option Tmp} {ty:TypeId} {pos:String} {after:Array Edge} {gd:Option (Nat×Bool)} {X0 x y:Nat→Prop} {w0:Bs}
theorem SL {e:TypeId} {z:Value} {sz by_:Nat} {vs:List Value} (C:Cx X0 w0 x y w) (hi:Zf P e=some (z,sz,by_)) (hv:z.cells=vs.toArray)
  (h:∀g w' x' y',(∀b,b<w.heap.size→b≠g)→Cx X0 w0 x' y' w'→Sp x y w x' y' w' Zt→Own w0 y' w' g vs e→(∀b,x b→x' b)→K (.pointer (some ⟨g,0,none⟩)) w'):
  St P ρ ⟨dst,.alloc e,ty,pos,after,gd⟩ w K Kp:=by
 obtain⟨i,hi',hz,_,_⟩:=Jk hi;exact St.alloc hi' hz hv (h _ _ _ _ (fun b hb=>by omega) (C.box vs e).1 (C.box vs e).2.1 (C.box vs e).2.2 fun _ h=> .inl h)
end
section
variable {P:Program} {ρ:Operand→Value} {w:World} {K:Value→World→Prop} {Kp:List PanicEntry→World→Prop} {dst:Option Tmp} {ty:TypeId} {pos:String} {after:Array Edge} {gd:Option (Nat×Bool)} {X0 x y:Nat→Prop} {w0:Bs}
end
structure GSer where
 fr:Int
 cs:List GRat
 deriving DecidableEq,Inhabited
def Zu:Ty GSer where
 sz:=2
 pos:=by omega
 rd X w cs s:=∃v,cs=[.int .i64 s.fr,v]∧ -9223372036854775808≤s.fr∧s.fr≤9223372036854775807∧RS Jj X w v s.cs
 len h:=by obtain⟨v,rfl,_⟩:=h;rfl
 one h:=by
  obtain⟨v,rfl,_,_,h⟩:=h;intro u hu;simp at hu;rcases hu with rfl|rfl
  ·rfl
  ·exact h.one
 tr h t:=by obtain⟨v,rfl,h1,h2,h⟩:=h;exact⟨v,rfl,h1,h2,h.tr t⟩
theorem z7{X:Nat→Prop}{w:World}{cs:List Value}{s:GSer}(h:Zu.rd X w cs s):∃a c,cs=[.int .i64 s.fr,.slice a s.cs.length c]∧
  -9223372036854775808≤s.fr∧s.fr≤9223372036854775807∧RS Jj X w (.slice a s.cs.length c) s.cs:=by
 obtain⟨v,rfl,b,d,h⟩:=h;obtain⟨a,c,rfl,_⟩:=h.len;exact⟨a,c,rfl,b,d,h⟩
theorem TO{X:Nat→Prop}{w:World}{v:Value}{s:GSer}(h:RV Zu X w v s):∃a c,v= .agg #[.int .i64 s.fr,.slice a s.cs.length c]∧
  -9223372036854775808≤s.fr∧s.fr≤9223372036854775807∧RS Jj X w (.slice a s.cs.length c) s.cs:=by
 obtain⟨cs,rfl,h⟩:=h;obtain⟨a,c,rfl,b,d,h⟩:=z7 h;exact⟨a,c,rfl,b,d,h⟩
theorem Zm{X:Nat→Prop}{w:World}{v:Value}{f:Int}{l:List GRat}(a: -9223372036854775808≤f)(b:f≤9223372036854775807)(h:RS Jj X w v l):
  RV Zu X w (.agg #[.int .i64 f,v]) ⟨f,l⟩:=⟨[_,_],rfl,v,rfl,a,b,h⟩
theorem Zh{X:Nat→Prop}{w:World}{cs:List Value}{x:GRat}(h:Jj.rd X w cs x):∃a c a' c',cs=[.bool x.num.neg,.slice a x.num.mag.length c,.bool x.den.neg,.slice a' x.den.mag.length c']∧
  RS Jd X w (.slice a x.num.mag.length c) x.num.mag∧RS Jd X w (.slice a' x.den.mag.length c') x.den.mag:=by
 obtain⟨s,t,rfl,h,k⟩:=h;obtain⟨a,c,rfl,_⟩:=h.len;obtain⟨a',c',rfl,_⟩:=k.len;exact⟨a,c,a',c',rfl,h,k⟩
def smL(l:List GRat):Prop:=∀i,i<l.length→Jp (l.getD i default).num.mag∧Jp (l.getD i default).den.mag
theorem RS.smL{X:Nat→Prop}{w:World}{v:Value}{l:List GRat}(h:RS Jj X w v l):smL l:=by
 obtain⟨a,c,rfl,_,_,d⟩:=h;intro i hi;rcases d with d|⟨b,o,rfl,hx,d⟩
 ·subst d;simp at hi
 ·obtain⟨cs,hr,_⟩:=d i l[i] (by simp[hi]);rw[UJ,UL hi,Jaf];obtain⟨a,c,a',c',rfl,k,k'⟩:=Zh hr;exact⟨k.u32_small,k'.u32_small⟩
section
variable {P:Program} {ρ:Operand→Value} {w:World} {K:Value→World→Prop} {Kp:List PanicEntry→World→Prop} {dst:Option Tmp} {ty:TypeId} {pos:String} {after:Array Edge} {gd:Option (Nat×Bool)} {X0 x y:Nat→Prop} {w0:Bs}
theorem S6 {α:Type} {T:Ty α} {t e:TypeId} {z:Value} {l c:Operand} {kl kc:IntKind} {a:Int} {n by_:Nat} (C:Cx X0 w0 x y w) (ht:P.underlying t=some (.slice e)) (hl:ρ l= .int kl 0) (hc:ρ c= .int kc a) (ha:a=n) (hb:n≤1099511627776)
  (hi:Zf P e=some (z,T.sz,by_)) (hby:by_≤64)
  (h:∀g w' x',Cx X0 w0 x' y w'→Sp x y w x' y w' Zt→OS T e w0 x' y w' (.slice (some ⟨g,0,none⟩) 0 n) []→K (.slice (some ⟨g,0,none⟩) 0 n) w'):
  St P ρ ⟨dst,.makeSlice t l c,ty,pos,after,gd⟩ w K Kp:=by
 obtain⟨i,hi',hz,hs,hby'⟩:=Jk hi;subst ha;have hbytes:(i.bytes:Int)*(n:Int)≤281474976710656:=by
  rw[hby'];have d:=ZH hby hb;have b:((by_*n:Nat):Int)≤281474976710656:=by omega
  rw[Wt] at b;exact b
 have hr:=run_make (P:=P) w t e i z ht hi' hz kl kc 0 (n:Int) (Wa _) (by omega) hbytes (by omega);simp only[WC,Int.toNat_zero,hs] at hr;obtain⟨vs,hvs⟩:∃vs:List Value,madeCells z.cells (n*T.sz)=vs.toArray:=⟨_,(Array.toArray_toList).symm⟩;have hvl:vs.toArray.size=n*T.sz:=by rw[←hvs];simp[madeCells]
 rw[hvs] at hr;refine R7 (v:= .slice (some ⟨w.heap.size,0,none⟩) 0 n) (w':=w.alloc (.cells vs.toArray e (0,0))) ?_ (h _ _ _ (C.row vs e).1 (C.row vs e).2 ⟨⟨[],rfl,fun i cs u h=>by simp at h,⟨by simp,.inr ⟨w.heap.size,n,vs.toArray,rfl,UN _,heap_alloc_new w _,UN _,by unfold maxLen;omega,hvl,by simp⟩⟩⟩,fun k hk=>?_⟩)
 ·simp[execOp,hl,hc,hr]
 ·simp[Value.ownBlock] at hk;subst hk;exact⟨⟨.inr rfl,fun hy=>by have:=C.bd _ (C.yx _ hy);omega⟩,.inl C.below.size⟩
theorem Uq{x y z:Operand}{ts:Array TypeId}{k k' k'':IntKind}{a b c e:Int}(hx:ρ x= .int k a)(hy:ρ y= .int k' b)(hw:ρ z= .int k'' c)(hz:(if c<(if b<a then b else a) then c else(if b<a then b else a))=e)(h:K (.int k e) w):
  St P ρ ⟨dst,.call {callee:= .builtin .min,args:= #[x,y,z],argTypes:=ts},ty,pos,after,gd⟩ w K Kp:=by
 subst hz;refine R7 (v:= .int k (if c<(if b<a then b else a) then c else(if b<a then b else a))) ?_ h;simp[execOp,resolve,invoke,builtin,hx,hy,hw,Builtin.min_,Builtin.min2]
end
abbrev ssC(a:GSer)(p:Option Addr)(c:Nat):List Value:=[.int .i64 a.fr,.slice p a.cs.length c]
abbrev ssA(a:GSer)(p:Option Addr)(c:Nat):Value:= .agg #[.int .i64 a.fr,.slice p a.cs.length c]
end Go.Wf
namespace Go.Wf
def nrm(x:GRat):GRat:=ofQ x.q
def nz:List GRat→Nat
 |[]=>0
 |a::l=>if a.q=0 then nz l+1 else 0
def bld(f:Int)(l:List GRat):GSer:=⟨f+(nz l:Nat),(l.drop (nz l)).map nrm⟩
def szL(N:Nat)(l:List GRat):Prop:=∀i,i<l.length→(l.getD i default).num.mag.length≤N∧(l.getD i default).den.mag.length≤N
theorem pb{N k:Nat}{l:List GRat}(h:szL N l):szL N (l.drop k):=by
 intro i hi;rw[UG] at hi
 have:=h (k+i) (by omega)
 rw[UJ,WX,←UJ];exact this
def Zd(s:GSer):Bool:=decide (-100≤s.fr)&&decide (s.fr≤1000)&&decide (((s.cs.length:Nat):Int)≤1000-s.fr)
theorem X1{s:GSer}(h:Zd s=true): -100≤s.fr∧s.fr≤1000∧((s.cs.length:Nat):Int)≤1000-s.fr:=by
 unfold Zd at h;simp only[VJ,decide_eq_true_eq] at h;exact⟨h.1.1,h.1.2,h.2⟩
theorem Vh{q:Rat}:io q=0↔q=0:=by
 unfold io;rw[WB,Rat.num_eq_zero]
theorem lu:∀l:List GRat,nz l≤l.length
 |[]=>UM _
 |a::l=>by
  unfold nz;split
  ·simpa using lu l
  ·exact UN _
theorem uU:∀ {l:List GRat} {k:Nat},k<l.length→io (l.getD k default).q=0→nz (l.drop k)=nz (l.drop (k+1))+1:=by
 intro l k hk hq;rw[WM hk]
 show(if _ then _ else _)=_
 rw[UJ,UL hk,Jaf] at hq;rw[if_pos (Vh.1 hq)]
theorem rQ:∀ {l:List GRat} {k:Nat},k<l.length→¬io (l.getD k default).q=0→nz (l.drop k)=0:=by
 intro l k hk hq;rw[WM hk]
 show(if _ then _ else _)=_
 rw[UJ,UL hk,Jaf] at hq;rw[if_neg fun e=>hq (Vh.2 e)]
theorem sT{l:List GRat}{k:Nat}(hk:k≤l.length)(h:¬k<l.length):nz (l.drop k)=0:=by
 rw[UY (by omega)];rfl
theorem pd{l:List GRat}{k i:Nat}(hi:i<l.length-k):((l.drop k).take i).map nrm++[ofQ ((l.drop k).getD i default).q]=((l.drop k).take (i+1)).map nrm:=by
 have h:i<(l.drop k).length:=by rw[UG];exact hi
 rw[YA,UJ,UL h,XA];rfl
theorem G0{l:List GRat}{k i:Nat}(hi:i≤l.length-k)(h:¬i<l.length-k):((l.drop k).take i).map nrm=(l.drop k).map nrm:=by
 rw[UU (by rw[UG];omega)]
theorem DW{m:Int}{l p:List GRat}{k i:Nat}(hz:nz l=k)(hp:p=((l.drop k).take i).map nrm)(hi:i≤l.length-k)(h:¬i<l.length-k):(⟨m+(k:Nat),p⟩:GSer)=bld m l:=by
 unfold bld;rw[hz,hp,G0 hi h]
def atM(s:GSer)(n:Int):GRat:=if n<s.fr then ofQ (Rat.divInt 0 1) else s.cs.getD (n-s.fr).toNat default
theorem lW{N:Nat}{s:GSer}{n:Int}(h:szL N s.cs)(hN:1≤N)(hn:n<s.fr+(s.cs.length:Nat)):(atM s n).num.mag.length≤N∧(atM s n).den.mag.length≤N:=by
 unfold atM;split
 ·have a:(ofQ (Rat.divInt 0 1)).num.mag.length=0:=by rw[Jaq];rfl
  have b:(ofQ (Rat.divInt 0 1)).den.mag.length=1:=by rw[Jaq];rfl
  omega
 ·exact h _ (by omega)
theorem QU{s:GSer}{n:Int}(h:n<s.fr):ofQ (Rat.divInt 0 1)=atM s n:=by unfold atM;rw[if_pos h]
theorem PJ{s:GSer}{n:Int}(h:¬n<s.fr):s.cs.getD (n-s.fr).toNat default=atM s n:=by unfold atM;rw[if_neg h]
theorem V7(p q:Rat):(ofQ (p*q)).num.mag.length≤(ofQ p).num.mag.length+(ofQ q).num.mag.length:=by
 have h:p*q=Rat.divInt (p.num*q.num) ((p.den:Int)*(q.den:Int)):=by
  rw[←Jan,Jao,Jao]
 rw[h];exact UC (xp _ _) Yj
theorem Vt(p q:Rat):(ofQ (p*q)).den.mag.length≤(ofQ p).den.mag.length+(ofQ q).den.mag.length+1:=by
 have h:p*q=Rat.divInt (p.num*q.num) ((p.den:Int)*(q.den:Int)):=by
  rw[←Jan,Jao,Jao]
 rw[h];refine UC (k8 _ _) ?_
 have:=Yj (x:=(p.den:Int)) (y:=(q.den:Int))
 show _≤(ofZ (p.den:Int)).mag.length+(ofZ (q.den:Int)).mag.length+1;omega
def sclL(c:GRat)(l:List GRat):List GRat:=l.map fun x=>ofQ (c.q*x.q)
theorem Ag{c:GRat}{l p:List GRat}{i:Nat}(hp:p=sclL c (l.take i))(hi:i<l.length):p++[ofQ (c.q*(l.getD i default).q)]=sclL c (l.take (i+1)):=by
 unfold sclL at *;rw[hp,YA,UJ,UL hi,XA];rfl
theorem Ex{c:GRat}{l p:List GRat}{i:Nat}(hp:p=sclL c (l.take i))(hi:i≤l.length)(h:¬i<l.length):p=sclL c l:=by
 rw[hp,UU (by omega)]
theorem oZ{c:GRat}{l:List GRat}:(sclL c l).length=l.length:=by unfold sclL;rw[W4]
theorem GS{c:GRat}{l p:List GRat}{i:Nat}{f:Int}(hp:p=sclL c (l.take i))(hi:i≤l.length)(h:((l.length:Nat):Int)≤1000-f):f+(p.length:Nat)≤1000:=by
 rw[hp,oZ,UH,ZF hi];omega
theorem Gb{N:Nat}{l:List GRat}{φ:GRat→GRat}(h:∀i,i<l.length→(φ (l.getD i default)).num.mag.length≤N∧(φ (l.getD i default)).den.mag.length≤N):szL N (l.map φ):=by
 intro i hi;rw[W4] at hi
 have:=h i hi
 rw[UJ,UL hi,Jaf] at this;rw[UJ,VA,UL hi];exact this
theorem lD{α:Type}{l:List α}{i j:Nat}{d:α}(h:j<i):(l.take i).getD j d=l.getD j d:=by
 rw[UJ,UJ,W1,if_pos h]
theorem I1{c:GRat}{l p:List GRat}{i:Nat}(hp:p=sclL c (l.take i))(hi:i≤l.length)(hc:Jp c.num.mag∧Jp c.den.mag)(hs:smL l)(hcn:c.num.mag.length≤1000)(hcd:c.den.mag.length≤1000)(hsz:szL 1000 l):szL 274877906944 p:=by
 rw[hp];refine Gb fun j hj=>?_
 rw[UH] at hj;rw[lD (by omega)];have a:=V7 c.q (l.getD j default).q;have b:=Vt c.q (l.getD j default).q;have d:=Zw hc.1;have e:=Z0 hc.2;have f:=Zw (hs j (by omega)).1;have g:=Z0 (hs j (by omega)).2;have h:=hsz j (by omega);omega
def cmbL(a b:GSer)(c:Int)(f:Int)(n:Nat):List GRat:=(List.range n).map fun i=>ofQ ((atM a (f+(i:Nat))).q+Rat.divInt c 1*(atM b (f+(i:Nat))).q)
theorem AG{a b:GSer}{c f:Int}{i:Nat}{p:List GRat}(hp:p=cmbL a b c f i):p++[ofQ ((atM a (f+(i:Nat))).q+Rat.divInt c 1*(atM b (f+(i:Nat))).q)]=cmbL a b c f (i+1):=by
 unfold cmbL at *;rw[hp,XS,XA];rfl
theorem rT{a b:GSer}{c f n:Int}{i:Nat}{p:List GRat}(hp:p=cmbL a b c f i)(hn:n=f+(i:Nat)):p++[ofQ ((atM a n).q+Rat.divInt c 1*(atM b n).q)]=cmbL a b c f (i+1):=by rw[hn];exact AG hp
theorem jl{a b:GSer}{c f:Int}{i:Nat}:(cmbL a b c f i).length=i:=by unfold cmbL;rw[W4,W6]
def cmb(a b:GSer)(c:Int):GSer:=
 let p:=min (a.fr+(a.cs.length:Nat)) (b.fr+(b.cs.length:Nat))
 let f:=min (min a.fr b.fr) p
 bld f (cmbL a b c f (p-f).toNat)
theorem oe(x y:Int):(if y<x then y else x)=min x y:=by rw[Int.min_def];split<;>split<;>omega
theorem FS(x y z:Int):(if z<(if y<x then y else x) then z else(if y<x then y else x))=min (min x y) z:=by rw[oe x y,oe]
theorem Fa{a b:GSer}{c p q:Int}{i:Nat}{l:List GRat}(d:p=min (a.fr+(a.cs.length:Nat)) (b.fr+(b.cs.length:Nat)))(f:q=min (min a.fr b.fr) p)(hp:l=cmbL a b c q i)(hi:i≤(p-q).toNat){n:Int}(hn:n=q+(i:Nat))(h:¬n<p):bld q l=cmb a b c:=by
 have e:i=(p-q).toNat:=by omega
 subst e;rw[hp];unfold cmb;rw[←d];show _=bld (min (min a.fr b.fr) p) (cmbL a b c (min (min a.fr b.fr) p) _);rw[←f]
theorem tF{s:GSer}{n:Int}(h:smL s.cs)(hn:n<s.fr+(s.cs.length:Nat)):Jp (atM s n).num.mag∧Jp (atM s n).den.mag:=by
 unfold atM;split
 ·rw[Jaq];have e:ofQ 0=⟨⟨false,[]⟩,⟨false,[1]⟩⟩:=by decide
  rw[e];refine⟨fun u hu=>by simp at hu,fun u hu=>?_⟩
  simp at hu;omega
 ·exact h _ (by omega)
theorem Lr{a b:GSer}{c p q:Int}{i:Nat}{l:List GRat}(g:p=min (a.fr+(a.cs.length:Nat)) (b.fr+(b.cs.length:Nat)))(hp:l=cmbL a b c q i)(hi:i≤(p-q).toNat)(ha:szL 1000 a.cs)(hb:szL 1000 b.cs)(ma:smL a.cs)(mb:smL b.cs)(hc:(ofQ (Rat.divInt c 1)).num.mag.length≤1000∧(ofQ (Rat.divInt c 1)).den.mag.length≤1000):szL 274877906944 l:=by
 rw[hp];intro j hj;rw[jl] at hj;unfold cmbL;rw[UJ,VA,WZ hj]
 show(ofQ _).num.mag.length≤_∧(ofQ _).den.mag.length≤_
 have d:q+(j:Nat)<a.fr+(a.cs.length:Nat):=by omega
 have e:q+(j:Nat)<b.fr+(b.cs.length:Nat):=by omega
 have k1:=tF ma d;have f:=tF mb e;have h:=lW ha (by decide) d;have k:=lW hb (by decide) e;have m:=V7 (Rat.divInt c 1) (atM b (q+(j:Nat))).q;have n:=Vt (Rat.divInt c 1) (atM b (q+(j:Nat))).q;have o:=Zw k1.1;have r:=Z0 k1.2;have s:=Zw f.1;have u:=Z0 f.2;have v:=kg (atM a (q+(j:Nat))).q (Rat.divInt c 1*(atM b (q+(j:Nat))).q);have w:=xe (atM a (q+(j:Nat))).q (Rat.divInt c 1*(atM b (q+(j:Nat))).q);omega
theorem ug{c:Int}(h:c=1∨c= -1):(ofQ (Rat.divInt c 1)).num.mag.length≤1000∧(ofQ (Rat.divInt c 1)).den.mag.length≤1000:=by
 rcases h with rfl|rfl<;>decide
end Go.Wf
namespace Go.Wf
open Go Go.Proofs
theorem io29:Zf Tryz.prog 29=some (.agg #[.int .i64 0,.slice none 0 0],2,32):=by kernel_rfl
theorem ag29:V8 Tryz.prog 29 2=true:=by kernel_rfl
theorem io27:Zf Tryz.prog 27=some (.slice none 0 0,1,24):=by kernel_rfl
theorem pl27:Yo Tryz.prog 27=true:=by kernel_rfl
theorem sl27:Tryz.prog.underlying 27=some (.slice 42):=by kernel_rfl
theorem sl91:Tryz.prog.underlying 91=some (.slice 29):=by kernel_rfl
theorem Y9:Ye Tryz.prog 29 0=some 0:=by kernel_rfl
theorem Kq:Ye Tryz.prog 29 1=some 1:=by kernel_rfl
end Go.Wf
namespace Go.Wf
open Go Go.Proofs Go.RowKit
theorem zp{X:Nat→Prop}{w:World}(hX:XB X w){g:Value}{a:GSer}(h:RV Zu X w g a)  :CRt 53 #[g] w fun v w'=>v=(.bool (Zd a)):=by
 obtain⟨i,j,rfl,l,m,o⟩:=TO h;have C:=Cx.start hX;refine Cgo Tryz.func53 rfl rfl rfl (Rg<|Ol<|R9 C rfl ?_);intro p r s u k f n e;refine Ua<|Rg<|Ol<|RI Y9 rfl<|Ol<|RN e pl3 rfl rfl<|Ol<|SB rfl rfl (fun b=>?_)<|fun b=>?_
 ·refine Om<|OgD<|RI Y9 rfl<|OgD<|RN e pl3 rfl rfl<|OgD<|SJ rfl rfl (fun d=>?_)<|fun d=>?_
  ·refine OT (Om<|OgD<|RI Kq rfl<|OgD<|RN e pl27 rfl rfl<|OgD<|St.len sl27 rfl<|OgD<|RI Y9 rfl<|OgD<|RN e pl3 rfl rfl<|OgD<|St.sub (z:=(1000-a.fr)) rfl rfl (UP _ (by omega))<|OgD<|SU rfl rfl rfl<|OT ?_);exact Ua<|RY<|Wq rfl rfl f<|congrArg (Value.bool)<|(by simp[Zd,b,d])
  exact OT<|Om<|Oz<|Oz<|Oz<|Oz<|Oz<|Oz<|Oz<|OF<|Ua<|RY<|Wq rfl rfl f<|congrArg (Value.bool)<|(by simp[Zd,b,d])
 exact Om<|Oz<|Oz<|Oz<|OF<|Om<|Oz<|Oz<|Oz<|Oz<|Oz<|Oz<|Oz<|OF<|Ua<|RY<|Wq rfl rfl f<|congrArg (Value.bool)<|(by simp[Zd,b])
theorem pm{X:Nat→Prop}{w:World}(hX:XB X w){d:Value}{a:GSer}(f:RV Zu X w d a)(hv:Zd a=true):CRt 55 #[d] w fun v w'=>v=(.int .i64 (a.fr+(a.cs.length:Nat))):=by
 obtain⟨g,h,rfl,j,k,m⟩:=TO f;have C:=Cx.start hX;obtain⟨n,o,p⟩:=X1 hv;refine Cgo Tryz.func55 rfl rfl rfl (Rg<|Ol<|R9 C rfl ?_);intro r s u x i e l b;refine Ua<|Rg<|Ol<|RI Y9 rfl<|Ol<|RN b pl3 rfl rfl<|Ol<|RI Kq rfl<|Ol<|RN b pl27 rfl rfl<|Ol<|St.len sl27 rfl<|Ol<|St.add (z:=(a.fr+((a.cs.length:Nat):Int))) rfl rfl (UP _ (by omega))<|Ua<|RY<|J0 rfl (resV.t rfl)<|RM ?_ e.below
 rfl
theorem nq{X:Nat→Prop}{w:World}(hX:XB X w){m:Int}{I:Value}{l:List GRat}(r1:RS Jj X w I l)(bw: -100≤m)(bx:m+(l.length:Nat)≤1000)(hsz:szL 274877906944 l):CRt 95 #[(.int .i64 m),I] w fun v w'=>(∃v0 I,v= .tuple #[v0,I]∧(RV Zu X w' v0 (bld m l))∧(I=(.int .i64 0))):=by
 obtain⟨J,A,rfl,_,_⟩:=r1.len;have C:=Cx.start hX;refine Cgo Tryz.func95 rfl rfl rfl (Rg<|Ol<|RR C io29 rfl ?_);intro H w4 x5 y6 bz C8 s9 aY;have r1:=r1.sp s9;refine Oa (Nl<|Rh<|Ub<|SM (t:=false) rfl rfl (decide_eq_false (by omega))<|Nl<|Uc<|Rg<|Om<|Ub<|St.len sl27 rfl<|Ub<|St.sub (z:=(1000-m)) rfl rfl (UP _ (by omega))<|Ol<|Tj rfl rfl (if_neg (by omega)) ?_);refine Ol (Ta (j:=l.length) r1 sl27 io42 rfl rfl rfl (by omega) ?_);intro d;rw[YC] at d;refine Ua<|Rg<|Ua<|RZ<|SX (fun f v=>∃(x y:Nat→Prop) (k:Nat),Cx X w x y v∧f 0=(.int .i64 m)∧f 1=(.slice J l.length A)∧f 4=(.pointer (some ⟨H,0,none⟩))∧f 5=(.int .i64 0)∧f 6=(.int .i64 ((k:Nat):Int))∧RS Jj x v (.slice J l.length A) l∧Own w y v H [(.int .i64 0),(.slice none 0 0)] 29∧k≤l.length∧nz l=k) ?_ ?_
 ·refine W.block (Sc (fun μ f v=>∃(x y:Nat→Prop) (k:Nat),Cx X w x y v∧f 0=(.int .i64 m)∧f 1=(.slice J l.length A)∧f 4=(.pointer (some ⟨H,0,none⟩))∧f 5=(.int .i64 0)∧f 6=(.int .i64 ((k:Nat):Int))∧RS Jj x v (.slice J l.length A) l∧Own w y v H [(.int .i64 0),(.slice none 0 0)] 29∧k≤l.length∧nz l=k+nz (l.drop k)∧μ=(l.length-k)) _ ⟨_,_,0,C8,rfl,rfl,rfl,rfl,rfl,d,aY,(UN _),(by rw[WN];omega),rfl⟩ ?_);rintro bA bB bC ⟨bD,bE,k,K,ac,ad,ae,af,ag,d,r,hk,hn,bg⟩;obtain⟨bF,rfl⟩:=rebK (aC ac<|aC ad<|aC ae<|aC af<|aC ag aN);clear ac ad ae af ag;refine Rh<|Om<|Ub<|St.len sl27 rfl<|Ol<|Sb rfl rfl (fun aF=>?_)<|fun aF=>?_
  ·refine Om (OgD<|RP<|OgD<|RP<|OgD<|Sd (j:=k) (u:=(l.getD k default)) d sl27 io42 rfl rfl rfl (Ji (by omega)) ?_);intro bG bH bk ah;obtain⟨aZ,a0,a2,a3,rfl,a4,a5⟩:=Zh ah.rd;refine OgD (Sv (cs:=(qqC (l.getD k default) aZ a0 a2 a3)) ag42 rfl rfl ah.cell<|OgD<|RH K GC rfl rfl (mK K.bd (a:=(l.getD k default)) (J2 a4 a5) (UC (hsz k (by omega)).1 (by decide))<|UC (hsz k (by omega)).2 (by decide)) ?_);intro bJ bK ai aj a6;have d:=d.sp aj;have r:=r.spn aj;subst a6;refine OgD<|Sj rfl rfl (fun B=>?_)<|fun B=>?_
   ·refine OT<|Nl<|Ud<|RT<|W.block<|RK<|Ub<|St.add rfl rfl (Jc (a:=k) (b:=1) (by omega))<|Ua<|⟨_,(by omega),_,_,(k+1),ai,rfl,rfl,rfl,rfl,rfl,d,r,(by omega),(by have:=uU (l:=l) (k:=k) (by omega) B;omega),rfl⟩
   refine OT<|Nl<|Ue<|Sf<|⟨_,_,k,ai,rfl,rfl,rfl,rfl,rfl,d,r,hk,(by have:=rQ (l:=l) (k:=k) (by omega) B;omega)⟩
  refine Om<|Oz<|Oz<|Oz<|Oz<|Oz<|Oz<|OF<|Nl<|Ue<|Sf<|⟨_,_,k,K,rfl,rfl,rfl,rfl,rfl,d,r,hk,(by have:=sT hk (by omega);omega)⟩
 rintro bL bM ⟨bN,bO,k,a7,ak,al,am,an,ao,d,L,hk,hz⟩;obtain⟨bP,rfl⟩:=rebK (aC ak<|aC al<|aC am<|aC an<|aC ao aN);clear ak al am an ao;refine Rg (Om<|Ub<|St.add (z:=(m+((k:Nat):Int))) rfl rfl (UP _ (by omega))<|Ua<|Rh<|Ub<|SG (t:=false) rfl rfl (decide_eq_false (by omega))<|Nl<|Uc<|Rg<|Ub<|St.len sl27 rfl ?_);refine Om (Ol<|St.sub rfl rfl (Zy (a:=l.length) (b:=k) (by omega) (by omega))<|Ol<|S6 (T:=Jj) (n:=(l.length-k)) a7 sl27 rfl rfl rfl (by omega) io42 (by decide) ?_);intro a8 bQ bR a9 aq ba;have d:=d.sp aq;have L:=L.spn aq;refine Oa (Nl<|Rh<|Om<|Ub<|Ur (i:=k) d sl27 io42 rfl rfl rfl (by omega) ?_);intro ar e;refine Ol (St.len sl27 rfl<|Om<|Nl<|W.block<|Sc (fun μ f v=>∃(x y:Nat→Prop) (i:Nat) (p:List GRat) (pa:Option Addr) (pc:Nat),Cx X w x y v∧f 0=(.int .i64 (m+((k:Nat):Int)))∧f 4=(.pointer (some ⟨H,0,none⟩))∧f 5=(.int .i64 0)∧f 46=(.slice ar (l.length-k) (A-k))∧f 47=(.int .i64 (((l.length-k):Nat):Int))∧f 48=(.int .i64 ((i:Nat):Int))∧f 7=(.slice pa p.length pc)∧RS Jj x v (.slice ar (l.length-k) (A-k)) (l.drop k)∧OS Jj 42 w x y v (.slice pa p.length pc) p∧Own w y v H [(.int .i64 0),(.slice none 0 0)] 29∧i≤l.length-k∧p=((l.drop k).take i).map nrm∧μ=(l.length-k-i)) _ ⟨_,_,0,[],(some ⟨a8,0,none⟩),(l.length-k),a9,rfl,rfl,rfl,rfl,rfl,rfl,rfl,e,ba,L,(UN _),rfl,rfl⟩ ?_);rintro bS bT bU ⟨bV,bW,i,p,pa,pc,au,av,aw,ax,ay,az,aA,aB,e,hP,g,hi,hp,bh⟩;obtain⟨bX,rfl⟩:=rebK (aC av<|aC aw<|aC ax<|aC ay<|aC az<|aC aA<|aC aB aN);clear av aw ax ay az aA aB;refine Rg<|Ol<|Sb rfl rfl (fun aG=>?_)<|fun aG=>?_
 ·refine Nl (RZ<|Ud<|RT<|RZ<|W.block<|Rg<|Ol<|Sd (j:=i) (u:=((l.drop k).getD i default)) e sl27 io42 rfl rfl rfl (Ji (by rw[UG];omega)) ?_);intro bY bZ bl aD;obtain⟨M,N,P,Q,rfl,R,U⟩:=Zh aD.rd;refine Ol (Sv (cs:=(qqC ((l.drop k).getD i default) M N P Q)) ag42 rfl rfl aD.cell<|Ol<|SL au io42 rfl ?_);intro b0 b1 b2 b3 aH aE s bb be;have bf:=aH _ g.blk.lt;have e:=e.sp s;refine On (Us (cs':=(qqC ((l.drop k).getD i default) M N P Q)) aE bb io42 ?_);intro bm D o aI;have hP:=(hP.sp s aE be).sp o D (fun _ h=>h)
  have R:=(R.sp s).sp o;have U:=(U.sp s).sp o;have g:=(g.spn s).spo o bf;refine Nl (RK<|Ub<|Uo (vs:=(qqC ((l.drop k).getD i default) M N P Q)) aI ag42<|Ol<|RH D cb56 rfl rfl (Xj D.bd (a:=((l.drop k).getD i default)) (J2 R U) (pb hsz i (by rw[UG];omega)).1 (pb hsz i (by rw[UG];omega)).2) ?_);intro bn bo V E aJ;have e:=(e.sp o).sp E;obtain⟨aK,aL,aM,aO,rfl,aP,aQ⟩:=TN aJ;refine Ol (Sl (T:=Jj) (css:=[(qqC (ofQ ((l.drop k).getD i default).q) aK aL aM aO)]) (l:=[(ofQ ((l.drop k).getD i default).q)]) V sl27 io42 (by decide) (by decide) rfl (by kernel_rfl) ⟨(⟨_,_,rfl,aP,aQ⟩),trivial⟩ ?_);intro bp bq Y F aR;have hP:=(hP.sp E V<|fun _ h=>h).sp F Y (fun _ h=>h)
  have g:=(g.spn E).spn F;refine Ol (Sk (T:=Jj) Y sl27 io42 rfl rfl hP (Xq aR) (by have hh:=congrArg List.length hp;rw[W4,UH] at hh;simp[maxLen];omega) (by have hh:=congrArg List.length hp;rw[W4,UH] at hh;simp[maxLen];omega) rfl ?_);intro br bs bt aS Z bu aa;have e:=(e.sp F).tr Z.tx;replace g:=g.ap Z g.mem;obtain⟨aT,aU,rfl,_,_⟩:=aa.len;refine Ua<|RK<|Ol<|St.add rfl rfl (Jc (a:=i) (b:=1) (by omega))<|Om<|Nl<|⟨_,(by omega),_,_,(i+1),(p++[(ofQ ((l.drop k).getD i default).q)]),aT,aU,aS,rfl,rfl,rfl,rfl,rfl,rfl,rfl,e,aa,g,(by omega),(by rw[hp];exact pd (by omega)),rfl⟩
 refine Nl (RZ<|Ue<|Sf<|Rg<|Om<|Ub<|Si (cs:=[(.int .i64 (m+((k:Nat):Int))),(.slice pa p.length pc)]) rfl (by kernel_rfl)<|On<|Us (cs':=[(.int .i64 (m+((k:Nat):Int))),(.slice pa p.length pc)]) au g io29 ?_);intro bv G aV aW;have hP:=hP.sp aV G<|fun _ h=>h
 refine Oa (Nl<|RY<|Z4 rfl (TL aW rfl ag29 rfl) (resV.t rfl)<|RM ?_ G.below);refine⟨_,_,rfl,?_,?_⟩
 ·exact TM (a:=(⟨(m+((k:Nat):Int)),p⟩:GSer)) (Zm (by omega) (by omega)<|hP.toRS G hX)<|DW hz hp hi (by omega)
 ·skip
  rfl
theorem HD{X:Nat→Prop}{w:World}(hX:XB X w){r:Value}{a:GSer}(J:RV Zu X w r a)(hv:Zd a=true)(hsz:szL 274877906944 a.cs):CRt 54 #[r] w fun v w'=>RV Zu X w' v (bld a.fr a.cs):=by
 obtain⟨K,L,rfl,Q,R,m⟩:=TO J;have C:=Cx.start hX;obtain⟨M,v2,v3⟩:=X1 hv;refine Cgo Tryz.func54 rfl rfl rfl (Rg<|Ol<|R9 C rfl ?_);intro g6 w7 x8 y9 N s u e;refine Ol (RR s io29 rfl ?_);intro T U V Y P h i b;have m:=(m.sp u).sp i;have e:=e.spn i;refine Nl (Rg<|Ol<|RI Y9 rfl<|Ol<|RN e pl3 rfl rfl<|Ol<|RI Kq rfl<|Ol<|RN e pl27 rfl rfl<|Ol<|RH h cb95 rfl rfl (nq h.bd m M (by omega) hsz) ?_);intro Z aa x y z;have b:=b.spn y;obtain⟨ab,ac,rfl,A,rfl⟩:=z;obtain⟨f,g,rfl,n,o,d⟩:=TO A;refine Om (Ol<|St.extract rfl rfl<|Ol<|St.extract rfl rfl<|Ol<|RR x io29 rfl ?_);intro ad ae af ag p B j D;have E:=p _ b.blk.lt;have d:=d.sp j;refine On (Us (cs':=(ssC (bld a.fr a.cs) f g)) B D io29 ?_);intro ah F k G;have b:=(b.spn j).spo k E;refine Oa (Nl<|Rg<|Ol<|Uo (vs:=(ssC (bld a.fr a.cs) f g)) G ag29<|On<|Us (cs':=(ssC (bld a.fr a.cs) f g)) F b io29 ?_);intro ai l H I;have d:=(d.sp k).sp H;refine Nl (RY<|J0 rfl (TL I rfl ag29 rfl)<|RM ?_ l.below);exact TM (a:=(bld a.fr a.cs)) ((Zm n o d).tr (Tr.weak l.base)) rfl
theorem c_at{X:Nat→Prop}{w:World}(hX:XB X w){E:Value}{a:GSer}(R:RV Zu X w E a){n:Int}(hv:Zd a=true)(aa: -9223372036854775808≤n)(ab:n<a.fr+(a.cs.length:Nat)):CRt 57 #[E,(.int .i64 n)] w fun v w'=>RV Jj X w' v (atM a n):=by
 obtain⟨T,U,rfl,ac,ad,B⟩:=TO R;have C:=Cx.start hX;obtain⟨v1,v2,v3⟩:=X1 hv;refine Cgo Tryz.func57 rfl rfl rfl (Rg<|Ol<|R9 C rfl ?_);intro g6 w7 x8 y9 V F G b;refine Ol (RR F io42 rfl ?_);intro ae af ag ah Y e k d;have B:=(B.sp G).sp k;have b:=b.spn k;refine Nl<|Rh<|Ub<|RI Y9 rfl<|Ol<|RN b pl3 rfl rfl<|Ol<|Sb rfl rfl (fun D=>?_)<|fun D=>?_
 ·refine Nl (Uf<|Ol<|RH e cb97 rfl rfl (E5 e.bd (by decide) (by decide)) ?_);intro ai aj H I J;have d:=d.spn I;obtain⟨K,L,M,N,rfl,f,g⟩:=TN J;refine On (Us (cs':=(qqC (ofQ<|Rat.divInt 0 1) K L M N)) H d io42 ?_);intro ak l m P;have f:=f.sp m;have g:=g.sp m;refine Nl (RY<|J0 rfl (TL P rfl ag42 rfl)<|RM ?_ l.below);exact TM (a:=(ofQ<|Rat.divInt 0 1)) ((J2 f g).tr (Tr.weak l.base))<|(QU (by omega))
 refine Nl (Uc<|Rg<|Ol<|RI Kq rfl<|Ol<|RN b pl27 rfl rfl<|Ub<|RI Y9 rfl<|Ol<|RN b pl3 rfl rfl<|Ol<|St.sub (z:=(n-a.fr)) rfl rfl (UP _ (by omega))<|Ol<|Sd (j:=(n-a.fr).toNat) (u:=(a.cs.getD ((n-a.fr).toNat) default)) B sl27 io42 rfl rfl (by omega) (Ji (by omega)) ?_);intro al am Z o;obtain⟨p,r,s,x,rfl,h,i⟩:=Zh o.rd;refine Ol (Sv (cs:=(qqC (a.cs.getD ((n-a.fr).toNat) default) p r s x)) ag42 rfl rfl o.cell<|On<|Us (cs':=(qqC (a.cs.getD ((n-a.fr).toNat) default) p r s x)) e d io42 ?_);intro an y A Q;have h:=h.sp A;have i:=i.sp A;refine Nl (RY<|J0 rfl (TL Q rfl ag42 rfl)<|RM ?_ y.below);exact TM (a:=(a.cs.getD ((n-a.fr).toNat) default)) ((J2 h i).tr (Tr.weak y.base))<|(PJ (by omega))
theorem wD{X:Nat→Prop}{w:World}(hX:XB X w){e:Value}{a:GSer}(I:RV Zu X w e a)(hv:Zd a=true)(hsz:szL 274877906944 a.cs):CRt 20 #[e] w fun v w'=>(∃e x,v= .tuple #[e,x]∧(RV Zu X w' e (bld a.fr a.cs))∧(x=(.int .i64 0))):=by
 obtain⟨p,r,rfl,i,j,d⟩:=TO I;have C:=Cx.start hX;refine Cgo Tryz.func20 rfl rfl rfl (Rg<|Ol<|R9 C rfl ?_);intro Y Z x8 y9 J y z b;refine Ol (RR y io29 rfl ?_);intro L M N P K k l f;have d:=(d.sp z).sp l;have b:=b.spn l;refine Oa (Nl<|Rh<|Ol<|Uo (vs:=(ssC a p r)) b ag29<|Ol<|RH k cb53 rfl rfl (zp k.bd (a:=a)<|Zm i j d) ?_);intro Q R m g n;have d:=d.sp g;have b:=b.spn g;rw[hv] at n;subst n;refine Ol (Sr rfl<|Nl<|Uc<|Rg<|Ol<|Uo (vs:=(ssC a p r)) b ag29<|Ol<|RH m cb54 rfl rfl (HD m.bd (a:=a) (Zm i j d) hv hsz) ?_);intro T U A B D;have f:=(f.spn g).spn B;obtain⟨E,F,rfl,s,u,h⟩:=TO D;refine On (Us (cs':=(ssC (bld a.fr a.cs) E F)) A f io29 ?_);intro V o G H;have h:=h.sp G;refine Oa (Nl<|RY<|Z4 rfl (TL H rfl ag29 rfl) (resV.t rfl)<|RM ?_ o.below);refine⟨_,_,rfl,?_,?_⟩
 ·exact TM (a:=(bld a.fr a.cs)) ((Zm s u h).tr (Tr.weak o.base)) rfl
 ·skip
  rfl
theorem LL{X:Nat→Prop}{w:World}(hX:XB X w){e:Value}{a:GSer}(s:RV Zu X w e a)(hv:Zd a=true):CRt 21 #[e] w fun v w'=>(∃e n,v= .tuple #[e,n]∧(e=(.int .i64 (a.fr+(a.cs.length:Nat))))∧(n=(.int .i64 0))):=by
 obtain⟨l,m,rfl,f,g,d⟩:=TO s;have C:=Cx.start hX;refine Cgo Tryz.func21 rfl rfl rfl (Rg<|Ol<|R9 C rfl ?_);intro D E F G u h o b;have d:=d.sp o;refine Oa (Ua<|Rh<|Ol<|Uo (vs:=(ssC a l m)) b ag29<|Ol<|RH h cb53 rfl rfl (zp h.bd (a:=a)<|Zm f g d) ?_);intro x y i j k;have d:=d.sp j;have b:=b.spn j;rw[hv] at k;subst k;refine Ol (Sr rfl<|Nl<|Uc<|Rg<|Ol<|Uo (vs:=(ssC a l m)) b ag29<|Ol<|RH i cb55 rfl rfl (pm i.bd (a:=a) (Zm f g d) hv) ?_);intro z A p B r;subst r;refine Oa (Ua<|RY<|Z4 rfl (resV.t rfl) (resV.t rfl)<|RM ?_ p.below);refine⟨_,_,rfl,?_,?_⟩
 ·skip
  rfl
 ·skip
  rfl
theorem c_At{X:Nat→Prop}{w:World}(hX:XB X w){f:Value}{a:GSer}(Y:RV Zu X w f a){n:Int}(hv:Zd a=true)(E: -9223372036854775808≤n)(g:n<a.fr+(a.cs.length:Nat))(hsz:szL 274877906944 a.cs):CRt 22 #[f,(.int .i64 n)] w fun v w'=>(∃f D,v= .tuple #[f,D]∧(RV Jj X w' f (nrm (atM a n)))∧(D=(.int .i64 0))):=by
 obtain⟨o,p,rfl,h,i,d⟩:=TO Y;have C:=Cx.start hX;obtain⟨D,v2,v3⟩:=X1 hv;refine Cgo Tryz.func22 rfl rfl rfl (Rg<|Ol<|R9 C rfl ?_);intro g6 w7 x8 y9 Z F G b;refine Ol (RR F io42 rfl ?_);intro ab ac ad ae aa r s e;have d:=(d.sp G).sp s;have b:=b.spn s;refine Oa (Nl<|RZ<|W.block<|Rg<|Ol<|Uo (vs:=(ssC a o p)) b ag29<|Ol<|RH r cb53 rfl rfl (zp r.bd (a:=a)<|Zm h i d) ?_);intro af ag u j x;have d:=d.sp j;have b:=b.spn j;rw[hv] at x;subst x;refine Ol (Sr rfl<|Ua<|Ug<|Ub<|Uo (vs:=(ssC a o p)) b ag29<|Ol<|RH u cb55 rfl rfl (pm u.bd (a:=a) (Zm h i d) hv) ?_);intro ah ai y k H;have d:=d.sp k;have b:=b.spn k;have e:=(e.spn j).spn k;subst H;refine Ol (SV (t:=false) rfl rfl (decide_eq_false (by omega))<|Ua<|Uc<|Rg<|Ol<|Uo (vs:=(ssC a o p)) b ag29<|Ub<|RH y cb57 rfl rfl (c_at y.bd (a:=a) (Zm h i d) hv E g) ?_);intro aj ak z I J;obtain⟨al,am,an,ao,rfl,K,L⟩:=TN J;refine Ol (RH z cb56 rfl rfl (Xj z.bd (a:=(atM a n)) (J2 K L) (lW hsz (by decide) g).1 (lW hsz (by decide) g).2) ?_);intro aq ar M N P;have e:=(e.spn I).spn N;obtain⟨Q,R,T,U,rfl,l,m⟩:=TN P;refine On (Us (cs':=(qqC (ofQ (atM a n).q) Q R T U)) M e io42 ?_);intro au A B V;have l:=l.sp B;have m:=m.sp B;refine Oa (Nl<|RY<|Z4 rfl (TL V rfl ag42 rfl) (resV.t rfl)<|RM ?_ A.below);refine⟨_,_,rfl,?_,?_⟩
 ·exact TM (a:=(ofQ (atM a n).q)) ((J2 l m).tr (Tr.weak A.base)) rfl
 ·skip
  rfl
theorem DQ{X:Nat→Prop}{w:World}(hX:XB X w){M:Value}{c:GRat}(r0:RV Jj X w M c){I:Value}{a:GSer}(r1:RV Zu X w I a)(hv:Zd a=true)(hcn:c.num.mag.length≤1000)(hcd:c.den.mag.length≤1000)(hsz:szL 1000 a.cs):CRt 92 #[M,I] w fun v w'=>(∃M I,v= .tuple #[M,I]∧(RV Zu X w' M (bld a.fr (sclL c a.cs)))∧(I=(.int .i64 0))):=by
 obtain⟨a1,c2,a3,c4,rfl,g,k⟩:=TN r0;obtain⟨N,P,rfl,bb,aJ,d⟩:=TO r1;have C:=Cx.start hX;obtain⟨I,v2,v3⟩:=X1 hv;have be:=r0.rat_small;obtain⟨_,_,_,_,_,an⟩:=TO r1;have hsm:=an.smL;clear an;refine Cgo Tryz.func92 rfl rfl rfl (Rg<|Ol<|R9 C rfl ?_);intro ao bM bN bO bu bf Q G;have g:=g.sp Q;have k:=k.sp Q;have d:=d.sp Q;refine Ol (R9 bf rfl ?_);intro aq bP bQ bR bv bg L m;refine Ol (RR bg io29 rfl ?_);intro ar bS bT bU bw au H R;have g:=(g.sp L).sp H;have k:=(k.sp L).sp H;have d:=(d.sp L).sp H;have G:=(G.spn L).spn H;have m:=m.spn H;refine Oa (Nl<|Rh<|Ol<|Uo (vs:=(ssC a N P)) m ag29<|Ol<|RH au cb53 rfl rfl (zp au.bd (a:=a)<|Zm bb aJ d) ?_);intro bV bW bh E av;have m:=m.spn E;rw[hv] at av;subst av;refine Ol (Sr rfl<|Nl<|Uc<|Rg<|Ol<|RI Kq rfl<|Ol<|RN m pl27 rfl rfl<|Ol<|St.len sl27 rfl<|Ol<|S6 (T:=Jj) (n:=a.cs.length) bh sl27 rfl rfl rfl (by omega) io42 (by decide) ?_);intro bi bX bY bj F bk;have g:=(g.sp E).sp F;have k:=(k.sp E).sp F;have d:=(d.sp E).sp F;have G:=(G.spn E).spn F;have m:=m.spn F;have R:=(R.spn E).spn F;refine Oa (Nl<|Rh<|Ol<|RI Kq rfl<|Ol<|RN m pl27 rfl rfl<|Ol<|St.len sl27 rfl<|Om<|Nl<|W.block<|Sc (fun μ f v=>∃(x y:Nat→Prop) (i:Nat) (p:List GRat) (pa:Option Addr) (pc:Nat),Cx X w x y v∧f 2=(.pointer (some ⟨ao,0,none⟩))∧f 3=(.pointer (some ⟨aq,0,none⟩))∧f 4=(.pointer (some ⟨ar,0,none⟩))∧f 5=(.int .i64 0)∧f 18=(.slice N a.cs.length P)∧f 19=(.int .i64 ((a.cs.length:Nat):Int))∧f 20=(.int .i64 ((i:Nat):Int))∧f 6=(.slice pa p.length pc)∧RS Jd x v (.slice a1 c.num.mag.length c2) c.num.mag∧RS Jd x v (.slice a3 c.den.mag.length c4) c.den.mag∧RS Jj x v (.slice N a.cs.length P) a.cs∧OS Jj 42 w x y v (.slice pa p.length pc) p∧Own w y v ao (qqC c a1 c2 a3 c4) 42∧Own w y v aq (ssC a N P) 29∧Own w y v ar [(.int .i64 0),(.slice none 0 0)] 29∧i≤a.cs.length∧p=sclL c (a.cs.take i)∧μ=(a.cs.length-i)) _ ⟨_,_,0,[],(some ⟨bi,0,none⟩),a.cs.length,bj,rfl,rfl,rfl,rfl,rfl,rfl,rfl,rfl,g,k,d,bk,G,m,R,(UN _),rfl,rfl⟩ ?_);rintro bZ b0 b1 ⟨b2,b3,i,p,pa,pc,aw,ax,ay,az,aA,aB,aD,aE,aF,g,k,d,hP,o,r,e,hi,hp,br⟩;obtain⟨b4,rfl⟩:=rebK (aC ax<|aC ay<|aC az<|aC aA<|aC aB<|aC aD<|aC aE<|aC aF aN);clear ax ay az aA aB aD aE aF;refine Rg<|Ol<|Sb rfl rfl (fun aK=>?_)<|fun aK=>?_
 ·refine Nl (RZ<|Ud<|RT<|RZ<|W.block<|Rg<|Ol<|Sd (j:=i) (u:=(a.cs.getD i default)) d sl27 io42 rfl rfl rfl (Ji (by omega)) ?_);intro b5 b6 bx aG;obtain⟨U,V,Y,Z,rfl,aa,ab⟩:=Zh aG.rd;refine Ol (Sv (cs:=(qqC (a.cs.getD i default) U V Y Z)) ag42 rfl rfl aG.cell<|Ol<|SL aw io42 rfl ?_);intro b7 b8 b9 ca J aH z bl bm;have bn:=J _ o.blk.lt;have bo:=J _ r.blk.lt;have bp:=J _ e.blk.lt;have d:=d.sp z;refine On (Us (cs':=(qqC (a.cs.getD i default) U V Y Z)) aH bl io42 ?_);intro cb ac A bq;have g:=(g.sp z).sp A;have k:=(k.sp z).sp A;have hP:=(hP.sp z aH bm).sp A ac (fun _ h=>h)
  have aa:=(aa.sp z).sp A;have ab:=(ab.sp z).sp A;have o:=(o.spn z).spo A bn;have r:=(r.spn z).spo A bo;have e:=(e.spn z).spo A bp;refine Nl (RK<|Ub<|Uo (vs:=(qqC c a1 c2 a3 c4)) o ag42<|Ol<|Uo (vs:=(qqC (a.cs.getD i default) U V Y Z)) bq ag42 ?_);refine Ol (RH ac Ek rfl rfl (tJ ac.bd (a:=c) (J2 g k) (b:=(a.cs.getD i default)) (J2 aa ab) (UC hcn (by decide)) (UC hcd (by decide)) (UC (hsz i (by omega)).1 (by decide))<|UC (hsz i (by omega)).2 (by decide)) ?_);intro cc cd aI D aL;have g:=g.sp D;have k:=k.sp D;have d:=(d.sp A).sp D;obtain⟨aM,aO,aP,aQ,rfl,aR,aS⟩:=TN aL;refine Ol (Sl (T:=Jj) (css:=[(qqC (ofQ<|c.q*(a.cs.getD i default).q) aM aO aP aQ)]) (l:=[(ofQ<|c.q*(a.cs.getD i default).q)]) aI sl27 io42 (by decide) (by decide) rfl (by kernel_rfl) ⟨(⟨_,_,rfl,aR,aS⟩),trivial⟩ ?_);intro bz bA ad s aT;have hP:=(hP.sp D aI<|fun _ h=>h).sp s ad (fun _ h=>h)
  have o:=(o.spn D).spn s;have r:=(r.spn D).spn s;have e:=(e.spn D).spn s;refine Ol (Sk (T:=Jj) ad sl27 io42 rfl rfl hP (Xq aT) (by have hh:=congrArg List.length hp;unfold sclL at hh;rw[W4,UH] at hh;simp[maxLen];omega) (by have hh:=congrArg List.length hp;unfold sclL at hh;rw[W4,UH] at hh;simp[maxLen];omega) rfl ?_);intro bB bC bD aU B bE ae;have g:=(g.sp s).tr B.tx;have k:=(k.sp s).tr B.tx;have d:=(d.sp s).tr B.tx;replace o:=o.ap B o.mem;replace r:=r.ap B r.mem;replace e:=e.ap B e.mem;obtain⟨aV,aW,rfl,_,_⟩:=ae.len;refine Ua<|RK<|Ol<|St.add rfl rfl (Jc (a:=i) (b:=1) (by omega))<|Om<|Nl<|⟨_,(by omega),_,_,(i+1),(p++[(ofQ<|c.q*(a.cs.getD i default).q)]),aV,aW,aU,rfl,rfl,rfl,rfl,rfl,rfl,rfl,rfl,g,k,d,ae,o,r,e,(by omega),(Ag hp (by omega)),rfl⟩
 refine Nl (RZ<|Ue<|Sf<|Rg<|Ol<|RI Y9 rfl<|Ol<|RN r pl3 rfl rfl<|Om ?_);obtain⟨bF,af,bs,aX⟩:=hP.freeze aw hX;refine Ol (RH af cb95 rfl rfl (nq af.bd aX I (GS hp hi v3)<|I1 hp hi be hsm hcn hcd hsz) ?_);intro bG bH aY aZ a0;have e:=e.spn aZ;obtain⟨bJ,bK,rfl,a2,rfl⟩:=a0;obtain⟨a4,a5,rfl,al,am,K⟩:=TO a2;refine Ol (St.extract rfl rfl<|Ol<|St.extract rfl rfl<|On<|Us (cs':=(ssC (bld a.fr p) a4 a5)) aY e io29 ?_);intro bL ag a6 a8;have K:=K.sp a6;refine Oa (Nl<|RY<|Z4 rfl (TL a8 rfl ag29 rfl) (resV.t rfl)<|RM ?_ ag.below);refine⟨_,_,rfl,?_,?_⟩
 ·exact TM (a:=(bld a.fr p)) ((Zm al am K).tr (Tr.weak ag.base))<|(by rw[Ex hp hi (by omega)])
 ·skip
  rfl
set_option maxHeartbeats 8000000 in
theorem tQ{X:Nat→Prop}{w:World}(hX:XB X w){v0:Value}{a:GSer}(r0:RV Zu X w v0 a){Z:Value}{b:GSer}(r1:RV Zu X w Z b){c:Int}(hv:Zd a=true)(hu:Zd b=true)(hsa:szL 1000 a.cs)(hsb:szL 1000 b.cs)(hc:c=1∨c= -1):CRt 83 #[v0,Z,(.int .i64 c)] w fun v w'=>(∃v0 Z,v= .tuple #[v0,Z]∧(RV Zu X w' v0 (cmb a b c))∧(Z=(.int .i64 0))):=by
 obtain⟨L,M,rfl,ab,ac,r⟩:=TO r0;obtain⟨N,P,rfl,ad,ae,k⟩:=TO r1;have C:=Cx.start hX;obtain⟨Z,v2,v3⟩:=X1 hv;obtain⟨u1,u2,u3⟩:=X1 hu;obtain⟨_,_,_,_,_,u⟩:=TO r0;have hma:=u.smL;clear u;obtain⟨_,_,_,_,_,u⟩:=TO r1;have hmb:=u.smL;clear u;obtain⟨p,af⟩:∃p:Int,p=min (a.fr+(a.cs.length:Nat)) (b.fr+(b.cs.length:Nat)):=⟨_,rfl⟩;obtain⟨q,u⟩:∃q:Int,q=min (min a.fr b.fr) p:=⟨_,rfl⟩;refine Cgo Tryz.func83 rfl rfl rfl (Rg<|Ol<|R9 C rfl ?_);intro ar dV dW dX cB ck au m;have r:=r.sp au;refine Ol (R9 ck rfl ?_);intro av dY dZ d0 lt23 cl ag o;have k:=(k.sp au).sp ag;refine Ol (RR cl io29 rfl ?_);intro aw d1 d2 d3 cC ax Y A;have r:=(r.sp ag).sp Y;have m:=(m.spn ag).spn Y;refine Oa (Nl<|Rh<|Ol<|Uo (vs:=(ssC a L M)) m ag29<|Ol<|RH ax cb53 rfl rfl (zp ax.bd (a:=a)<|Zm ab ac r) ?_);intro d4 d5 ay E az;have k:=(k.sp Y).sp E;have o:=(o.spn Y).spn E;have A:=A.spn E;rw[hv] at az;subst az;refine Ol (Sr rfl<|Om<|OgD<|Uo (vs:=(ssC b N P)) o ag29<|OgD<|RH ay cb53 rfl rfl (zp ay.bd (a:=b)<|Zm ad ae k) ?_);intro d6 d7 cm F aA;have r:=(r.sp E).sp F;have m:=(m.spn E).spn F;have o:=o.spn F;rw[hu] at aA;subst aA;refine OgD (Sr rfl<|OF<|Nl<|Uc<|RZ<|ST mixed 3 cm<|Qw (fun w c=>RX (vs:=(ssC a L M)) (m.spn c.2) ag29 rfl rfl rfl ⟨rfl,c⟩)<|Qw (fun w c=>RH c.1 cb55 rfl rfl (pm c.1.bd (a:=a) (Zm ab ac<|r.sp c.2) hv) fun _ _ C s h=>⟨h,C,c.2.trans s⟩) ?_);refine Qw (fun w c=>RX (vs:=(ssC b N P)) (o.spn c.2) ag29 rfl rfl rfl ⟨rfl,c⟩)<|Qz fun d8 aB G=>?_
 have r:=r.sp G;have k:=(k.sp F).sp G;have A:=(A.spn F).spn G;refine Ol (RH aB cb55 rfl rfl (pm aB.bd (a:=b) (Zm ad ae k) hu) ?_);intro d9 ea cn H co;have m:=(m.spn G).spn H;have o:=(o.spn G).spn H;subst co;refine Ol (Tj rfl rfl ((oe _ _).trans af.symm)<|Ua<|Rg<|Ol<|RI Y9 rfl<|Ol<|RN m pl3 rfl rfl<|Ol<|RI Y9 rfl<|Ol<|RN o pl3 rfl rfl<|Ub<|Uq rfl rfl rfl ((FS _ _ _).trans u.symm)<|Ua<|Rg<|Om ?_);refine Om (Ol<|St.sub (z:=(p-q)) rfl rfl (UP _ (by omega))<|Ol<|S6 (T:=Jj) (n:=(p-q).toNat) cn sl27 rfl rfl (by omega) (by omega) io42 (by decide) ?_);intro cp eb ec cq I cr;have r:=(r.sp H).sp I;have k:=(k.sp H).sp I;have m:=m.spn I;have o:=o.spn I;have A:=(A.spn H).spn I;refine Oa (Nl<|Rh<|Om<|Ua<|W.block<|Sc (fun μ f v=>∃(x y:Nat→Prop) (n:Int) (i:Nat) (l:List GRat) (pa:Option Addr) (pc:Nat),Cx X w x y v∧f 2=(.int .i64 c)∧f 3=(.pointer (some ⟨ar,0,none⟩))∧f 4=(.pointer (some ⟨av,0,none⟩))∧f 6=(.pointer (some ⟨aw,0,none⟩))∧f 7=(.int .i64 0)∧f 8=(.int .i64 p)∧f 9=(.int .i64 q)∧f 29=(.int .i64 b.fr)∧f 11=(.int .i64 n)∧f 10=(.slice pa l.length pc)∧RS Jj x v (.slice L a.cs.length M) a.cs∧RS Jj x v (.slice N b.cs.length P) b.cs∧OS Jj 42 w x y v (.slice pa l.length pc) l∧Own w y v ar (ssC a L M) 29∧Own w y v av (ssC b N P) 29∧Own w y v aw [(.int .i64 0),(.slice none 0 0)] 29∧i≤(p-q).toNat∧l=cmbL a b c q i∧n=q+((i:Nat):Int)∧μ=((p-q).toNat-i)) _ ⟨_,_,q,0,[],(some ⟨cp,0,none⟩),((p-q).toNat),cq,rfl,rfl,rfl,rfl,rfl,rfl,rfl,rfl,rfl,rfl,r,k,cr,m,o,A,(UN _),rfl,(by omega),rfl⟩ ?_);rintro ed ee ct ⟨cu,j,n,i,l,pa,pc,aD,aE,aF,aG,aH,aI,aJ,aK,aL,aM,aO,r,k,hP,J,K,B,hi,hp,hn,cy⟩;obtain⟨ef,rfl⟩:=rebK (aC aE<|aC aF<|aC aG<|aC aH<|aC aI<|aC aJ<|aC aK<|aC aL<|aC aM<|aC aO aN);clear aE aF aG aH aI aJ aK aL aM aO;refine Rh<|Om<|Ub<|Sb rfl rfl (fun aP=>?_)<|fun aP=>?_
 ·refine Nl (Ud<|RT<|RZ<|W.block ?_);have hcl:=ug hc;have k1:=lW hsa (by decide) (n:=n) (by omega);have k2:=lW hsb (by decide) (n:=n) (by omega);have m2:=V7 (Rat.divInt c 1) (atM b n).q;have m3:=Vt (Rat.divInt c 1) (atM b n).q;have k3:=tF hmb (n:=n) (by omega);have m4:=Zw k3.1;have m5:=Z0 k3.2;refine Te mixed 13 12 [[],[],[],[1,2],[],[4],[],[],[6,7],[5,8],[3,9],[10],[0,11]] aD hP [fx<|.slice pa l.length pc,fx<|.agg #[(.int .i64 a.fr),(.slice L a.cs.length M)],fx<|.int .i64 n,fr Jj<|atM a n,fx<|.int .i64 c,fr Jj<|ofQ<|Rat.divInt c 1,fx<|.agg #[(.int .i64 b.fr),(.slice N b.cs.length P)],fx<|.int .i64 n,fr Jj<|atM b n,fr Jj<|ofQ<|(Rat.divInt c 1)*(atM b n).q,fr Jj<|ofQ<|(atM a n).q+((Rat.divInt c 1)*(atM b n).q),fs Jj [(ofQ<|(atM a n).q+((Rat.divInt c 1)*(atM b n).q))],fo Jj 42 w<|l++[(ofQ<|(atM a n).q+((Rat.divInt c 1)*(atM b n).q))]] (by kernel_rfl) ⟨sx,sx,sx,aRv,sx,aRv,sx,sx,aRv,aRv,aRv,aSl,so,trivial⟩ ?_;rintro aQ ⟨g,aR⟩ Q R e;have ey:j=aR:=R.yy.symm;subst ey;have d:Cx X w g j Q:=R.cx;have D:Ap cu ct g j Q:=R.ap;have r:=r.tr D.tx;have k:=k.tr D.tx;replace J:=J.ap D J.mem;replace K:=K.ap D K.mem;replace B:=B.ap D B.mem;have e:Keep [42,43,44,45,46,47,48,49,50,51,52,53,54] _ aQ:=e;refine⟨⟨fun _ _=>?_,fun _ _=>?_,fun _ _=>?_,fun⟨aS,aT,_⟩ _=>?_,fun _ _=>?_,fun⟨aU,_⟩ _=>?_,fun _ _=>?_,fun _ _=>?_,fun⟨aV,aW,_⟩ _=>?_,fun⟨aX,aY,_⟩ _=>?_,fun⟨aZ,a0,_⟩ _=>?_,fun⟨a2,_⟩ _=>?_,fun⟨a3,U,_⟩ am=>?_,trivial⟩,fun⟨a4,a5,a7,a8,a9,ba,bb,be,bf,bg,bh,ah,bi,_⟩=>?_⟩
  ·exact Sd0 e fun _=>RP ⟨(g,j),RA0.same d,rfl⟩
  ·exact Sd0 e fun _=>RX (vs:=(ssC a L M)) J ag29 rfl rfl rfl ⟨(g,j),RA0.same d,rfl⟩
  ·exact Sd0 e fun _=>RP ⟨(g,j),RA0.same d,rfl⟩
  ·refine Js e (aC aS<|aC aT aN) fun _=>R8 (RH d cb57 rfl rfl (c_at d.bd (a:=a) (Zm ab ac r) hv (by omega) (by omega)) ?_);intro cD cE bj bk bl;exact⟨(g,j),TT bj bk,bl⟩
  ·exact Sd0 e fun _=>RP ⟨(g,j),RA0.same d,rfl⟩
  ·refine Sd1 e aU fun _=>RH d cb97 rfl rfl (E5 d.bd (by omega) (by omega)) ?_;intro cF cG bm bn bo;exact⟨(g,j),TT bm bn,bo⟩
  ·exact Sd0 e fun _=>RX (vs:=(ssC b N P)) K ag29 rfl rfl rfl ⟨(g,j),RA0.same d,rfl⟩
  ·exact Sd0 e fun _=>RP ⟨(g,j),RA0.same d,rfl⟩
  ·refine Js e (aC aV<|aC aW aN) fun _=>R8 (RH d cb57 rfl rfl (c_at d.bd (a:=b) (Zm ad ae k) hu (by omega) (by omega)) ?_);intro cH cI bp bq br;exact⟨(g,j),TT bp bq,br⟩
  ·obtain⟨cJ,cK,cL,cM,bs,bt,bu⟩:=TN aX;obtain⟨cN,cO,cP,cQ,bv,bw,bx⟩:=TN aY;refine Js e (aC bs<|aC bv aN) fun _=>R8 (RH d Ek rfl rfl (tJ d.bd (a:=(ofQ<|Rat.divInt c 1)) (J2 bt bu) (b:=(atM b n)) (J2 bw bx) (by omega) (by omega) (by omega) (by omega)) ?_);intro cR cS bz bA ai;simp only[Jl,Zq] at ai;exact⟨(g,j),TT bz bA,ai⟩
  ·obtain⟨cT,cU,cV,cW,bB,bC,bD⟩:=TN aZ;obtain⟨cX,cY,cZ,c0,bE,bF,bG⟩:=TN a0;refine Js e (aC bB<|aC bE aN) fun _=>R8 (RH d GV rfl rfl (sG d.bd (a:=(atM a n)) (J2 bC bD) (b:=(ofQ<|(Rat.divInt c 1)*(atM b n).q)) (J2 bF bG) (by omega) (by omega) (by omega) (by omega)) ?_);intro c1 c3 bH bJ aj;simp only[Jl,Zq] at aj;exact⟨(g,j),TT bH bJ,aj⟩
  ·obtain⟨bK,bL,bM,bN,bO,bP,bQ⟩:=TN a2;refine Sd1 e bO fun _=>Sl (T:=Jj) (css:=[(qqC (ofQ<|(atM a n).q+((Rat.divInt c 1)*(atM b n).q)) bK bL bM bN)]) (l:=[(ofQ<|(atM a n).q+((Rat.divInt c 1)*(atM b n).q))]) d sl27 io42 (by decide) (by decide) rfl (by kernel_rfl) ⟨(⟨_,_,rfl,bP,bQ⟩),trivial⟩ ?_;intro c4 c6 bR bS bT;exact⟨(g,j),TT bR bS,bT⟩
  ·obtain⟨c8,c9,bU,U⟩:=TQ U;have an:OS Jj 42 w g j Q (.slice pa l.length pc) l:=am rfl;refine Js e (aC a3<|aC bU aN) fun _=>R8 (Sk (T:=Jj) d sl27 io42 rfl rfl an (Xq U) (by have hh:=congrArg List.length hp;rw[jl] at hh;simp[maxLen];omega) (by have hh:=congrArg List.length hp;rw[jl] at hh;simp[maxLen];omega) rfl ?_);intro da db bV bW bX dc bY;exact⟨(bV,j),TY bW bX,bY⟩
  obtain⟨dd,de,df,dg,bZ,dh,di⟩:=TN a8;obtain⟨dj,dk,dm,dn,b0,dp,dq⟩:=TN ba;obtain⟨ds,dt,du,dv,b1,dw,dx⟩:=TN bf;obtain⟨dy,dz,dB,dC,b2,dD,dE⟩:=TN bg;obtain⟨dG,dH,dI,dJ,b3,dK,dL⟩:=TN bh;obtain⟨dM,dN,b4,ah⟩:=TQ ah;obtain⟨b5,b6,b7,b8⟩:=T6 bi;obtain⟨dO,rfl⟩:=mixK e (aC a4<|aC a5<|aC a7<|aC bZ<|aC a9<|aC b0<|aC bb<|aC be<|aC b1<|aC b2<|aC b3<|aC b4<|aC b7 aN);refine Ua<|RK<|Ub<|St.add (z:=(n+1)) rfl rfl (UP _ (by omega))<|Ua<|⟨_,(by omega),_,_,(n+1),(i+1),(l++[(ofQ<|(atM a n).q+((Rat.divInt c 1)*(atM b n).q))]),b5,b6,d,rfl,rfl,rfl,rfl,rfl,rfl,rfl,rfl,rfl,rfl,r,k,b8,J,K,B,(by omega),(rT hp hn),(by omega),rfl⟩
 refine Nl (Ue<|Sf<|Rg<|Om<|Om ?_);obtain⟨dP,ak,cz,b9⟩:=hP.freeze aD hX;refine Ol (RH ak cb95 rfl rfl (nq ak.bd b9 (by omega) (by have hh:=congrArg List.length hp;rw[jl] at hh;omega)<|Lr af hp hi hsa hsb hma hmb<|ug hc) ?_);intro dQ dR ca cb cc;have B:=B.spn cb;obtain⟨dS,dT,rfl,cd,rfl⟩:=cc;obtain⟨ce,cf,rfl,ao,aq,V⟩:=TO cd;refine Ol (St.extract rfl rfl<|Ol<|St.extract rfl rfl<|On<|Us (cs':=(ssC (bld q l) ce cf)) ca B io29 ?_);intro dU al cg ch;have V:=V.sp cg;refine Oa (Nl<|RY<|Z4 rfl (TL ch rfl ag29 rfl) (resV.t rfl)<|RM ?_ al.below);refine⟨_,_,rfl,?_,?_⟩
 ·exact TM (a:=(bld q l)) ((Zm ao aq V).tr (Tr.weak al.base))<|(Fa af u hp hi hn (by omega))
 ·skip
  rfl
theorem Oc{X:Nat→Prop}{w:World}(hX:XB X w){f:Value}{a:GSer}(Q:RV Zu X w f a){g:Value}{b:GSer}(R:RV Zu X w g b)(hv:Zd a=true)(hu:Zd b=true)(hsa:szL 1000 a.cs)(hsb:szL 1000 b.cs):CRt 93 #[f,g] w fun v w'=>(∃f g,v= .tuple #[f,g]∧(RV Zu X w' f (cmb a b 1))∧(g=(.int .i64 0))):=by
 obtain⟨u,x,rfl,y,z,h⟩:=TO Q;obtain⟨A,B,rfl,D,E,d⟩:=TO R;have C:=Cx.start hX;refine Cgo Tryz.func93 rfl rfl rfl (Rg<|Ol<|R9 C rfl ?_);intro V Y Z aa T F n i;have h:=h.sp n;have d:=d.sp n;refine Ol (R9 F rfl ?_);intro ab ac ad ae lt23 G j k;refine Ol (RR G io29 rfl ?_);intro af ag ah ai U o e l;have h:=(h.sp j).sp e;have d:=(d.sp j).sp e;have i:=(i.spn j).spn e;have k:=k.spn e;refine Oa (Nl<|Rg<|Ol<|Uo (vs:=(ssC a u x)) i ag29<|Ol<|Uo (vs:=(ssC b A B)) k ag29<|Ol<|RH o cb83 rfl rfl (tQ o.bd (a:=a) (Zm y z h) (b:=b) (Zm D E d) hv hu hsa hsb<|.inl rfl) ?_);intro aj ak H I J;have l:=l.spn I;obtain⟨al,am,rfl,K,rfl⟩:=J;obtain⟨L,M,rfl,r,s,m⟩:=TO K;refine Ol (St.extract rfl rfl<|Ol<|St.extract rfl rfl<|On<|Us (cs':=(ssC (cmb a b 1) L M)) H l io29 ?_);intro an p N P;have m:=m.sp N;refine Oa (Nl<|RY<|Z4 rfl (TL P rfl ag29 rfl) (resV.t rfl)<|RM ?_ p.below);refine⟨_,_,rfl,?_,?_⟩
 ·exact TM (a:=(cmb a b 1)) ((Zm r s m).tr (Tr.weak p.base)) rfl
 ·skip
  rfl
end Go.Wf
namespace Go.Wf
theorem iR(a:Int){n:Int}(hn:0<n): -n<a.tmod n∧a.tmod n<n:=by
 have b:=Int.tmod_lt_of_pos a hn;have d: -n<a.tmod n:=by
  have:=Int.tmod_lt_of_pos (-a) hn
  rw[Int.neg_tmod] at this;omega
 exact⟨d,b⟩
theorem oK{a n:Int}(hn:0<n)(h:a.tmod n<0):a.tmod n+n=a%n:=by
 have hb:=iR a hn;have e:a.tmod n%n=a%n:=by
  have:=Int.tmod_add_mul_tdiv a n
  conv=>rhs;rw[←this]
  rw[VS]
 rw[←e,←VU (a:=a.tmod n+n) (b:=n) (by omega) (by omega),Int.add_emod_right]
theorem pQ{a n:Int}(hn:0<n)(h:0≤a.tmod n):a.tmod n=a%n:=by
 have hb:=iR a hn;have e:a.tmod n%n=a%n:=by
  have:=Int.tmod_add_mul_tdiv a n
  conv=>rhs;rw[←this]
  rw[VS]
 rw[←e,VU h hb.2]
def isP(n:Int):Prop:=2≤n∧∀d:Int,2≤d→d*d≤n→¬n%d=0
noncomputable instance (n:Int):Decidable (isP n):=Classical.propDecidable _
def prmB(n:Int):Bool:=decide (isP n)
theorem NJ{d:Int}(h:2≤d)(k:d≤46342): -9223372036854775808≤d*d∧d*d≤9223372036854775807:=by
 have a:d*d≤46342*46342:=Wh k k (by omega) (by omega);have b:2*2≤d*d:=Wh h h (by omega) (by omega);omega
theorem Ow{d n:Int}(h:2≤d)(k:d*d≤n):d≤n:=by
 have:1*d≤d*d:=Wh (by omega) (Wa d) (by omega) (by omega)
 omega
theorem Nq{d n:Int}(h:2≤d)(k:d*d≤n)(hn:n≤2147483647):d+1≤46342:=by
 refine Int.not_lt.1 fun hd=>?_
 have a:46342*46342≤d*d:=Wh (by omega) (by omega) (by omega) (by omega);omega
theorem HE{n:Int}(h:n<2):false=prmB n:=(decide_eq_false fun k=>by have:=k.1;omega).symm
theorem Ij{n d:Int}(hd:2≤d)(h:d*d≤n)(hz:n%d=0):false=prmB n:=(decide_eq_false fun k=>k.2 d hd h hz).symm
theorem JE{n d:Int}(h:¬n<2)(hp:∀e:Int,2≤e→e<d→¬n%e=0)(hd:2≤d)(hq:¬d*d≤n):true=prmB n:=by
 refine(decide_eq_true ⟨by omega,fun e a b=>hp e a (Int.not_le.1 fun k=>hq ?_)⟩).symm
 have:d*d≤e*e:=Wh k k (by omega) (by omega)
 omega
theorem wX{n d:Int}(hp:∀e:Int,2≤e→e<d→¬n%e=0)(h:¬n%d=0):∀e:Int,2≤e→e<d+1→¬n%e=0:=by
 intro e a b;by_cases k:e=d
 ·rw[k];exact h
 ·exact hp e a (by omega)
theorem JC{p lo:Int}{b c:Bool}(h:p<lo):false=(decide (lo≤p)&&b&&c):=by rw[decide_eq_false (by omega)];rfl
theorem IG{p lo hi:Int}{c:Bool}(h:p>hi):false=(decide (lo≤p)&&decide (p≤hi)&&c):=by rw[decide_eq_false (show ¬p≤hi by omega),VK];rfl
theorem JF{p lo hi:Int}{c:Bool}(h:¬p<lo)(k:¬p>hi):c=(decide (lo≤p)&&decide (p≤hi)&&c):=by rw[decide_eq_true (show lo≤p by omega),decide_eq_true (show p≤hi by omega)];rfl
def invM(y p:Int):Int:=(((List.range p.toNat).map fun r=>((r:Nat):Int)).find? fun r=>decide ((r*y)%p=1%p)).getD 0
theorem kA{y p r:Int}(hr:0≤r)(hp:r<p)(h:(r*y)%p=1%p):invM y p=r:=by
 unfold invM;have hm:r∈(List.range p.toNat).map fun r=>((r:Nat):Int):=XM.2 ⟨r.toNat,XQ.2 (by omega),by omega⟩;cases hf:List.find? (fun r=>decide ((r*y)%p=1%p)) ((List.range p.toNat).map fun r=>((r:Nat):Int)) with
 |none=>
  have:=List.find?_eq_none.1 hf r hm
  simp[h] at this
 |some s=>
  have b:(s*y)%p=1%p:=by have:=List.find?_some hf;exact of_decide_eq_true this
  obtain⟨k,hk,e⟩:=XM.1 (XN hf);rw[XQ] at hk;show s=r;have a:s%p=(s*(r*y))%p:=by rw[Wg,h,←Wg,Wl]
  have d:r%p=(r*(s*y))%p:=by rw[Wg,b,←Wg,Wl]
  have f:s*(r*y)=r*(s*y):=by rw[←Wc,Wd s r,Wc]
  rw[f,←d,VU (by omega) (by omega),VU hr hp] at a;exact a
structure XgI (a b g r u v s:Int):Prop where
 hs:s=1∨s= -1
 g0:0≤g
 r0:0≤r
 su:0≤s*u
 sv:0≤ -(s*v)
 det:s*u*r-s*v*g=b
 cg:(u*a)%b=g%b
 cr:(v*a)%b=r%b
 gc:Int.gcd g r=Int.gcd a b
 gl:g≤2147483647
 rl:r≤2147483647
 ul:s*u≤b
 vl: -(s*v)≤b
theorem BA{a b:Int}(ha:0≤a)(hb:0<b)(hab:a<b)(hl:b≤2147483647):XgI a b a b 1 0 1 where
 hs:= .inl rfl
 g0:=ha
 r0:=by omega
 su:=by omega
 sv:=by omega
 det:=by simp
 cg:=by rw[Wy]
 cr:=by simp
 gc:=rfl
 gl:=by omega
 rl:=hl
 ul:=by omega
 vl:=by omega
theorem HI{x y q a b g r:Int}(d:(x*a)%b=g%b)(e:(y*a)%b=r%b):((x-q*y)*a)%b=(g-q*r)%b:=by
 rw[Int.sub_mul,Wc,Int.sub_emod,Wg q,d,e,←Wg q,←Int.sub_emod]
theorem te{a b g r u v s:Int}(hb:0<b)(I:XgI a b g r u v s)(hr:¬r=0):XgI a b r (g-g/r*r) v (u-g/r*v) (-s):=by
 have d:=I.r0;have hrp:0<r:=by omega
 have hm:g-g/r*r=g%r:=by have:=Int.emod_def g r;rw[Wd] at this;omega
 have hq:0≤g/r:=Int.ediv_nonneg I.g0 d;have f:=VX g hr;have k:=VW g hrp;have hl:=I.rl;have es: -s*(u-g/r*v)= -(s*u)+g/r*(s*v):=by rw[Ww,Int.mul_sub,Int.neg_sub,Int.mul_left_comm];omega
 have hqv:0≤g/r * -(s*v):=Wk hq I.sv;rw[Wj] at hqv;have det': -s*v*(g%r) - -s*(u-g/r*v)*r=b:=by
  rw[es,←hm,Ww,Ww,Int.add_mul,Ww,Int.mul_sub,←I.det];have e:s*v*(g/r*r)=g/r*(s*v)*r:=by rw[←Wc,Wd (s*v)]
  rw[e];omega
 refine⟨?_,d,by rw[hm];exact f,by rw[Ww];exact I.sv,?_,by rw[hm];exact det',I.cr,HI I.cg I.cr,?_,hl,by rw[hm];omega,by rw[Ww];exact I.vl,?_⟩
 ·rcases I.hs with h|h<;>omega
 ·rw[es];have:=I.su;omega
 ·rw[hm,←I.gc,VY g r];have e:((g%r).natAbs:Nat)=g.natAbs%r.natAbs:=Int.natAbs_emod_of_nonneg I.g0 r;show Nat.gcd r.natAbs (g%r).natAbs=Nat.gcd r.natAbs g.natAbs;rw[e,YW,←Nat.gcd_rec]
 ·have l:0≤ -s*v*(g%r):=Wk (by rw[Ww];exact I.sv) f;have i: -(-s*(u-g/r*v))*1≤ -(-s*(u-g/r*v))*r:=Wi (by omega) (by rw[es];have:=I.su;omega);have j: -(-s*(u-g/r*v))*r= -(-s*(u-g/r*v)*r):=Ww _ _;rw[j,Wl] at i;omega
theorem Ov{g r:Int}(h:0≤g)(k:0≤r)(hr:¬r=0):0≤g/r*r∧g/r*r≤g:=by
 have a:=Int.emod_def g r;rw[Wd] at a;have b:=VX g hr;have d:0≤g/r*r:=Wk (Int.ediv_nonneg h k) k;omega
theorem Pq{a b g r u v s:Int}(hb:0<b)(I:XgI a b g r u v s)(hr:¬r=0): -b≤g/r*v∧g/r*v≤b∧ -b≤u∧u≤b:=by
 have J:=te hb I hr;have e:=J.ul;have f:=J.vl;have i:=I.su;have j:=I.ul;have d:0≤g/r * -(s*v):=Wk (Int.ediv_nonneg I.g0 I.r0) I.sv;rw[Wj] at d;rcases I.hs with h|h<;>subst h
 ·simp only[Wy,Ww] at *;omega
 ·simp only[Wy,Ww,Int.neg_neg,Wj] at *;omega
theorem Iq{x a:Int}(h:0≤x)(k:x<2147483648)(h':0≤a)(k':a<2147483648):0≤x*a∧x*a≤4611686018427387904:=by
 have b:x*a≤2147483648*2147483648:=Wh (by omega) (by omega) h' (by omega);have d:=Wk h h';omega
theorem Mx{a b g r u v s:Int}(I:XgI a b g r u v s)(hr:r=0)(hg:Int.gcd a b=1):g=1:=by
 have h:=I.gc;rw[hr,Int.gcd_zero_right,hg] at h
 have:=I.g0
 omega
theorem IZ{a b g r u v s:Int}(hb:0<b)(I:XgI a b g r u v s)(e:g=1):u%(b/g)=invM a b:=by
 subst e;rw[Int.ediv_one]
 refine(kA (VX _ (by omega)) (VW _ hb) ?_).symm
 rw[Wg,VT,←Wg,I.cg]
theorem DT{n d:Int}(h: -4611686018427387905≤n)(k:n≤4611686018427387905)(hd:0<d): -9223372036854775808≤n.tdiv d∧n.tdiv d≤9223372036854775807:=by
 have a:(n.tdiv d).natAbs≤n.natAbs:=by rw[Int.natAbs_tdiv];exact YP _ _
 omega
theorem IF{y p:Int}(hp:0<p):0≤invM y p∧invM y p<p:=by
 unfold invM;cases hf:List.find? (fun r=>decide ((r*y)%p=1%p)) ((List.range p.toNat).map fun r=>((r:Nat):Int)) with
 |none=>exact⟨Wa _,hp⟩
 |some s=>
  obtain⟨k,hk,e⟩:=XM.1 (XN hf);rw[XQ] at hk;show 0≤s∧s<p;omega
theorem EF{p:Int}(hp:1<p):invM 1 p=1:=kA (by omega) hp (by rw[Wl])
def zo(a:GRat)(p:Int):Bool:= !decide (((a.q.den:Nat):Int)%p=0)
def rmM(a:GRat)(p:Int):Int:=(a.q.num%p)*invM (((a.q.den:Nat):Int)%p) p%p
theorem Fv{a:GRat}{p:Int}(hp:0<p):0≤rmM a p∧rmM a p<p:=⟨VX _ (by omega),VW _ hp⟩
theorem kD{y p:Int}(hp:isP p)(h:¬y%p=0):Int.gcd (y%p) p=1:=by
 have i:=hp.1;rw[VY];have a:((Int.gcd p (y%p):Nat):Int)∣p:=Int.gcd_dvd_left ..;have b:((Int.gcd p (y%p):Nat):Int)∣y%p:=VZ ..;generalize hg:((Int.gcd p (y%p):Nat):Int)=g at a b;have j:=VX y (show p≠0 by omega);have l:=VW y (show 0<p by omega);have hgy:g≤y%p:=Int.le_of_dvd (by omega) b;have d:0≤g:=by rw[←hg];exact Wu _
 by_cases n:g=1
 ·omega
 exfalso;have hgz:g≠0:=by
  intro e;rw[e] at a
  have:=Int.zero_dvd.1 a;omega
 obtain⟨c,hc⟩:=a;have m:0<c:=by
  refine Int.not_le.1 fun k=>?_
  have:=Wi k d
  omega
 have f:2≤c:=by
  refine Int.not_lt.1 fun k=>?_
  have e:c=1:=by omega
  rw[e] at hc;omega
 by_cases k:g≤c
 ·refine hp.2 g (by omega) ?_ (by rw[hc];exact Int.mul_emod_right _ _)
  have:=Wi k d
  omega
 ·refine hp.2 c f ?_ (by rw[hc];exact Int.mul_emod_left _ _)
  have:=Int.mul_le_mul_of_nonneg_right (show c≤g by omega) (show 0≤c by omega)
  omega
theorem Vp{p:Int}(a:0≤p)(h:p≤2147483647){N:Nat}(hN:1≤N):(ofZ p).mag.length≤N:=by
 rw[Xg];exact UC (Jt (n:=1) (by omega)) hN
theorem iw{p:Int}(h:0<p):val (ofZ p).mag≠0:=by rw[←Yu,Jl];omega
theorem yr{p:Int}(h:0≤p):((val (ofZ p).mag:Nat):Int)=p:=by rw[←Yu,Jl];omega
theorem BN(q:Rat):(ofQ q).num.toZ=q.num:=Jl _
theorem oS(q:Rat):(ofQ q).den.toZ=((q.den:Nat):Int):=Jl _
theorem Qq(x:Int){p:Int}(h:0<p):0≤x%p∧x%p<p:=⟨VX _ (by omega),VW _ h⟩
theorem D0{a:GRat}{p:Int}:(!decide (((ofQ a.q).den.toZ%p).sign=0))=zo a p:=by
 unfold zo;rw[oS]
 congr 1
 exact decide_eq_decide.2 WB
theorem FG{a:GRat}{p:Int}(h:zo a p=true):¬((a.q.den:Nat):Int)%p=0:=by
 unfold zo at h;simpa using h
theorem L4(a:GRat){p:Int}(h:0<p):((val (ofZ ((ofQ a.q).num.toZ%p)).mag:Nat):Int)=a.q.num%p:=by
 rw[BN,yr (Qq _ h).1]
theorem Ms(a:GRat){p:Int}(h:0<p):((val (ofZ ((ofQ a.q).den.toZ%p)).mag:Nat):Int)=((a.q.den:Nat):Int)%p:=by
 rw[oS,yr (Qq _ h).1]
theorem pJ{p:Int}(h:0≤p):(ofZ p).neg=false:=decide_eq_false (by omega)
end Go.Wf
namespace Go.Wf
open Go
section
variable {fc:Fence} [Fw fc] {P:Program} {ops:Array Oper} {n:Nat} {D:List Deferred} {Q:Post} {f0:Fr} {w0:World}
def gAt(ops:Array Oper)(vs:List Value)(f0:Fr)(S:Nat→Bool)(t:Nat):Nat→Value
 |0=>f0 t
 |j+1=>bif S j&&Nat.beq (Zj ops j) t then vs.getD j undef else gAt ops vs f0 S t j
theorem Q7{vs:List Value}{S S':Nat→Bool}{t:Nat}:∀N,(∀j,j<N→Zj ops j=t→S j=S' j)→gAt ops vs f0 S t N=gAt ops vs f0 S' t N
 |0,_=>rfl
 |N+1,h=>by
  unfold gAt;rw[Q7 N fun j hj=>h j (by omega)];cases e:Nat.beq (Zj ops N) t with
  |false=>rw[VK,VK]
  |true=>rw[h N (by omega) (YT e)]
theorem G9{vs:List Value}{S:Nat→Bool}{k N:Nat}(hk:k<N)(hS:S k=true)(h:∀j,k<j→j<N→Zj ops j=Zj ops k→S j=false):gAt ops vs f0 S (Zj ops k) N=vs.getD k undef:=by
 induction N with
 |zero=>omega
 |succ N ih=>
  unfold gAt;by_cases e:k=N
  ·subst e;rw[hS,YK];rfl
  ·cases b:Nat.beq (Zj ops N) (Zj ops k) with
   |false=>rw[VK];exact ih (by omega) fun j a d=>h j a (by omega)
   |true=>rw[h N (by omega) (by omega) (YT b)];exact ih (by omega) fun j a d=>h j a (by omega)
def CF(ops:Array Oper)(n:Nat)(rd:List (List Nat)):Bool:=
 (ops.toList.all fun o=>(match o.dst with|some d=>Nat.blt d n|none=>false)&&o.guard.isNone) &&
 ((List.range ops.size).all fun k=>((ops[k]?).map fun o=>o.after.all fun e=> !Region.binds .any e||Nat.blt e.on k).getD false) &&
 ((List.range ops.size).all fun k=>(Zj ops k::rd.getD k []).all fun t=>(List.range ops.size).all fun j=> !Nat.beq (Zj ops j) t||Nat.beq j k||(bif Nat.blt j k then ancB ops ops.size j k else ancB ops ops.size k j))
def kB(f:Fr)(g:Nat→Value):List Nat→Prop
 |[]=>True
 |t::r=>f t=g t∧kB f g r
theorem kB.of{f:Fr}{g:Nat→Value}:∀ {l:List Nat},(∀t∈l,f t=g t)→kB f g l
 |[],_=>trivial
 |_::_,h=>⟨h _ (.head _),kB.of fun t ht=>h t (.tail _ ht)⟩
def mf(P:Program)(ops:Array Oper)(vs:List Value)(f0 f:Fr)(w:World):List Oper→List (List Nat)→Nat→Prop
 |o::l,r::rl,k=>(kB f (fun t=>gAt ops vs f0 (fun j=>Nat.blt j k) t ops.size) r→St P (fe f) o w (fun v w'=>v=vs.getD k undef∧w'=w) (fun _ _=>False))∧mf P ops vs f0 f w l rl (k+1)
 |[],[],_=>True
 |_,_,_=>False
theorem mf.get{vs:List Value}{w:World}{f:Fr}:∀ {l:List Oper} {rl:List (List Nat)} {k:Nat},mf P ops vs f0 f w l rl k→∀ {i o},l[i]? =some o→
  (∀t∈rl.getD i [],f t=gAt ops vs f0 (fun j=>Nat.blt j (k+i)) t ops.size)→St P (fe f) o w (fun v w'=>v=vs.getD (k+i) undef∧w'=w) (fun _ _=>False)
 |o::l,r::rl,k,h,0,o',e=>by cases e;exact fun hr=>h.1 (kB.of hr)
 |o::l,r::rl,k,h,i+1,o',e=>by
  have:=mf.get (i:=i) h.2 e
  rw[show k+1+i=k+(i+1) by omega] at this;exact this
 |[],_,_,_,_,_,e=>by simp at e
 |_::_,[],_,h,_,_,_=>h.elim
theorem zb {ds:List Nat} {f:Fr} (k:Keep ds f0 f) {vals:List (Nat×Value)} (hv:∀p∈vals,f p.1=p.2) {o:Oper} {w:World} {K:Value→World→Prop} {Kp:List PanicEntry→World→Prop}
  (h:∀f',St P (fe (mixL vals ds f' f0)) o w K Kp):St P (fe f) o w K Kp:=by
 obtain⟨f',rfl⟩:=k.mix vals hv;exact h f'
theorem Uh {id:Nat} (hm:P.follows .mixedOrders=true) (vs:List Value) (rd:List (List Nat)) (outs:List Nat) (chk:CF ops n rd=true)
  (h:∀f,Keep (Jy ops ops.size) f0 f→mf P ops vs f0 f w0.drew ops.toList rd 0∧(kB f (fun t=>gAt ops vs f0 (fun _=>true) t ops.size) outs→Q .normal f w0.drew)):
  W fc P (Code.region id ops true) n D Q f0 w0:=by
 simp only[CF,VJ,WD,XQ] at chk;obtain⟨⟨hd,hb⟩,hr⟩:=chk;have keep:∀ {S:Nat→Bool} {f:Fr},(∀t,f t=gAt ops vs f0 S t ops.size)→Keep (Jy ops ops.size) f0 f:=by
  intro S f e t ht;rw[e]
  have:∀N,N≤ops.size→gAt ops vs f0 S t N=f0 t:=by
   intro N
   induction N with
   |zero=>intro _;rfl
   |succ N ih=>
    intro hN;unfold gAt;cases r:Nat.beq (Zj ops N) t with
    |false=>rw[VK];exact ih (by omega)
    |true=>
     exfalso;have b:=hd ops[N] (by simp);have m:(Jy ops ops.size).contains t=true:=by
      unfold Jy;rw[List.contains_iff_mem,XJ];refine⟨ops[N],by rw[←VG,YC];simp,?_⟩;have a:=YT r;unfold Zj at a;rw[Array.getElem?_eq_getElem (by omega)] at a;cases l:ops[N].dst with
      |none=>rw[l] at b;simp at b
      |some d=>rw[show((some ops[N]).bind (·.dst)).getD 0=d by show(ops[N].dst).getD 0=d;rw[l];rfl] at a;rw[a]
     rw[m] at ht;cases ht
  exact this _ (UM _)
 refine Go.Ev.To hm (fun L f w=>w=w0.drew∧∀t,f t=gAt ops vs f0 (fun j=>L.getD j true) t ops.size) ?_ ⟨rfl,fun t=>?_⟩ ?_ ?_
 ·intro k o ho e he hbe;have hk:k<ops.size:=by
   rcases U2 k ops.size with h|h
   ·exact h
   ·rw[VD h] at ho;cases ho
  have:=hb k hk
  rw[ho] at this;simp only[Jai,Jaf,VB] at this
  have:=this e he
  rw[hbe] at this;simpa using this
 ·rw[Q7 (S':=fun _=>false) ops.size fun j hj _=>by simp[UK,hj]];generalize ops.size=N
  induction N with
  |zero=>rfl
  |succ N ih=>unfold gAt;exact ih
 ·rintro L i o f w hs hc ho hi hed ⟨rfl,hI⟩;have hin:i<ops.size:=by
   rcases U2 i ops.size with h|h
   ·exact h
   ·rw[VD h] at ho;cases ho
  have tf:∀j,j<ops.size→L.getD j false=L.getD j true:=by
   intro j hj
   have:L[j]? =some L[j]:=by simp[hs,hj]
   simp[UK,this]
  have hol:o∈ops.toList:=by
   rw[Array.getElem?_eq_getElem hin] at ho;cases ho;simp
  have hdo:=hd o hol;have wr:∀t∈Zj ops i::rd.getD i [],∀j,j<ops.size→Zj ops j=t→j≠i→L.getD j true=Nat.blt j i:=by
   intro t ht j hj e hne;have b:=hr i hin t ht j hj;rw[e,YK] at b;have m:Nat.beq j i=false:=by
    cases a:Nat.beq j i with
    |false=>rfl
    |true=>exact absurd (YT a) hne
   rw[m] at b;simp only[Bool.not_true,Bool.false_or] at b;cases a:Nat.blt j i with
   |true=>
    rw[a] at b;rw[←tf j hj];exact Z2 hs hc _ j i hin (fun o' ho'=>by rw[ho] at ho';cases ho';exact hed) b
   |false=>
    rw[a] at b;cases l:L.getD j true with
    |false=>rfl
    |true=>
     have p:=Z2 hs hc _ i j hj (fun o' ho' e' he' hb'=>hc j hj l o' ho' e' he' hb') b;rw[tf i hin,hi] at p;cases p
  have hrd:∀t∈rd.getD i [],f t=gAt ops vs f0 (fun j=>Nat.blt j (0+i)) t ops.size:=by
   intro t ht;rw[hI,Jab];refine Q7 _ fun j hj e=>?_
   by_cases hji:j=i
   ·subst hji;rw[hi];cases a:Nat.blt j j with
    |false=>rfl
    |true=>have:=UW a;omega
   ·exact wr t (.tail _ ht) j hj e hji
  have hst:=(h f (keep hI)).1.get (by rw[VF];exact ho) hrd;obtain⟨dst,op,ty,pos,after,gd⟩:=o;cases dst with
  |none=>simp at hdo
  |some d=>
   cases gd with
   |some g=>simp at hdo
   |none=>
    refine⟨(show d<n by simpa using hdo),R8 (hst.mono ?_ fun _ _ h=>h)⟩
    rintro v w' ⟨rfl,rfl⟩;refine⟨rfl,fun t=>?_⟩
    have hdi:Zj ops i=d:=by unfold Zj;rw[ho];rfl
    have gs:∀j,(L.setIfInBounds i true).getD j true=if i=j then true else L.getD j true:=by
     intro j;rw[UK,UR];by_cases e:i=j
     ·subst e;simp[hs,hin]
     ·rw[if_neg e,if_neg e,UK]
    rw[Jab];by_cases e:t=d
    ·subst e;rw[←hdi,G9 hin (by rw[gs,if_pos rfl]) fun j b m a=>?_]
     ·show upd f _ _ (Zj ops i)=_;unfold upd;rw[if_pos rfl]
     ·rw[gs,if_neg (by omega),wr _ (.head _) j m a (by omega)];cases l:Nat.blt j i with
      |false=>rfl
      |true=>have:=UW l;omega
    ·show upd f d _ t=_;unfold upd;rw[if_neg e,hI];refine Q7 _ fun j hj hdj=>?_
     rw[gs,if_neg];intro hij;subst hij;exact e (hdj.symm.trans hdi)
 ·rintro L f w hs hall ⟨rfl,hI⟩;have hI':∀t,f t=gAt ops vs f0 (fun _=>true) t ops.size:=fun t=>by
   rw[hI];exact Q7 _ fun j hj _=>hall j hj
  exact(h f (keep hI')).2 (kB.of fun t _=>hI' t)
end
end Go.Wf
namespace Go.Wf
open Go Go.RowKit
def fldT(P:Program)(s:TypeId)(i:Nat):Option (TypeId×Nat):=match P.underlying s with
 |some (.struct fs)=>(fs[i]?).map fun f=>(f.type,f.offset)
 |_=>none
section
variable {P:Program} {ρ:Operand→Value} {w:World} {K:Value→World→Prop} {Kp:List PanicEntry→World→Prop} {dst:Option Tmp} {ty:TypeId} {pos:String} {after:Array Edge} {gd:Option (Nat×Bool)}
theorem C7{s i:Nat}{q:TypeId×Nat}(h:fldT P s i=some q):∃fs:Array Field,∃fl,P.underlying s=some (.struct fs)∧fs[i]? =some fl∧q=(fl.type,fl.offset):=by
 unfold fldT at h;split at h
 ·rename_i fs hu;rw[Jah] at h;obtain⟨fl,a,b⟩:=h;exact⟨fs,fl,hu,a,b.symm⟩
 ·cases h
theorem Ts{s t:TypeId}{x:Operand}{i off:Nat}{cs:List Value}{v:Value}(hf:fldT P s i=some (t,off))(ht:Yo P t=true)(hx:ρ x= .agg cs.toArray)(hv:cs[off]? =some v)(h:K v w):
  St P ρ ⟨dst,.field s x i,ty,pos,after,gd⟩ w K Kp:=by
 obtain⟨fs,fl,hu,hi,e⟩:=C7 hf;cases e;refine R7 (v:=v) (w':=w) ?_ h;have a:(part fl.type cs.toArray fl.offset).run P w= .ok v w:=by simp[part,K8 ht,hv]
 simp[execOp,hx,Instr.field,run_underlying hu,hi,asAgg,a]
theorem S9{s t:TypeId}{x:Operand}{i off sz:Nat}{cs ds:List Value}(hf:fldT P s i=some (t,off))(ht:V8 P t sz=true)(hx:ρ x= .agg cs.toArray)(hv:(cs.drop off).take sz=ds)(h:K (.agg ds.toArray) w):
  St P ρ ⟨dst,.field s x i,ty,pos,after,gd⟩ w K Kp:=by
 obtain⟨fs,fl,hu,hi,e⟩:=C7 hf;cases e;subst hv;refine R7 (v:= .agg ((cs.drop fl.offset).take sz).toArray) (w':=w) ?_ h;have a:(part fl.type cs.toArray fl.offset).run P w= .ok (.agg ((cs.drop fl.offset).take sz).toArray) w:=by simp[part,Ky ht]
 simp[execOp,hx,Instr.field,run_underlying hu,hi,asAgg,a]
end
end Go.Wf
namespace Go.Wf
open Go
def Av(l:List (Nat×Nat))(k:Nat)(o:Oper):Oper:=⟨o.dst,o.op,o.type,o.pos,o.after++((l.filter fun p=>Nat.beq p.1 k).map fun p=>(⟨p.2,.phase⟩:Edge)).toArray,o.guard⟩
def addL(l:List (Nat×Nat)):Nat→List Oper→List Oper
 |_,[]=>[]
 |k,o::r=>Av l k o::addL l (k+1) r
def addE(l:List (Nat×Nat))(ops:Array Oper):Array Oper:=(addL l 0 ops.toList).toArray
theorem oT{l:List (Nat×Nat)}:∀ {k:Nat} (r:List Oper),(addL l k r).length=r.length
 |_,[]=>rfl
 |_,_::r=>congrArg (· +1) (oT r)
theorem oH{l:List (Nat×Nat)}:∀ {k i:Nat} {r:List Oper},(addL l k r)[i]? =(r[i]?).map (Av l (k+i))
 |_,i,[]=>by cases i<;>rfl
 |k,0,o::r=>rfl
 |k,i+1,o::r=>by
  have:=oH (l:=l) (k:=k+1) (i:=i) (r:=r)
  rw[show k+1+i=k+(i+1) by omega] at this;exact this
theorem Km{l:List (Nat×Nat)}{ops:Array Oper}:(addE l ops).size=ops.size:=by
 unfold addE;rw[XZ,oT,VG]
theorem qf{l:List (Nat×Nat)}{ops:Array Oper}{i:Nat}:(addE l ops)[i]? =(ops[i]?).map (Av l i):=by
 unfold addE;rw[W2,oH,VF,Jab]
def isX(o:Oper):Bool:=match o.op,o.guard,o.dst with | .extract (.tmp _) _,none,some _=>true|_,_,_=>false
def uW(ops:Array Oper)(n:Nat)(l:List (Nat×Nat)):Bool:=
 let N:=ops.size
 Region.noSelect ops &&
 (ops.toList.all fun o=>match o.dst with|some d=>Nat.blt d n|none=>true) &&
 ((List.range N).all fun k=>((ops[k]?).map fun o=>o.after.all fun e=> !Region.binds .any e||Nat.blt e.on k).getD false) &&
 (l.all fun q=>Nat.blt q.1 N&&Nat.blt q.2 q.1 && !((l.map Prod.fst).contains q.2) &&
  match ops[q.2]? with
  |none=>false
  |some o=>isX o&&(o.after.all fun e=> !Region.binds .any e||ancB ops N e.on q.1) &&
   (List.range N).all fun j=>Nat.beq j q.2||ancB ops N j q.2||match ops[j]? with|some oj=>(oj.after.any fun e=>Region.binds .any e&&e.on==q.2)||o.apart ops oj|none=>true)
section
variable {fc:Fence} {P:Program} {ops:Array Oper} {n:Nat} {D:List Deferred} {Q:Exit→Act→World→Prop}
theorem qC{l:List (Nat×Nat)}(ts:Array Value):yielded (addE l ops) ts=yielded ops ts:=by
 funext j
 unfold yielded;rw[qf];cases ops[j]?<;>rfl
theorem gV{l:List (Nat×Nat)}{i:Nat}{K K':Act→World→Prop}{a:Act}{w:World}(h:wpOpIn fc 0 P (addE l ops) Q i K a w)(hk:∀a w,K a w→K' a w):wpOpIn fc 0 P ops Q i K' a w:=by
 refine wpOpIn_mono hk ?_;unfold wpOpIn at *;rw[qf] at h;cases ho:ops[i]? with
 |none=>rw[ho] at h;exact h
 |some o=>
  rw[ho] at h;simp only[Jai,qC] at h;exact h
theorem lY{l:List (Nat×Nat)}{L:Array Bool}{i:Nat}(h:i∈Region.ready .any ops L)(hl:∀q∈l,q.1=i→L.getD q.2 false=true):i∈Region.ready .any (addE l ops) L:=by
 obtain⟨d,f,o,ho,g⟩:=J3.1 h;refine J3.2 ⟨by rw[Km];exact d,f,Av l i o,by rw[qf,ho];rfl,?_⟩;intro e he hb;have he:e∈o.after++((l.filter fun p=>Nat.beq p.1 i).map fun p=>(⟨p.2,.phase⟩:Edge)).toArray:=he
 rcases Array.mem_append.1 he with he|he
 ·exact g e he hb
 ·rw[List.mem_toArray,XM] at he;obtain⟨q,hq,rfl⟩:=he;obtain⟨a,b⟩:=XI.1 hq;exact hl q a (YT b)
theorem r5{l:List (Nat×Nat)}{L:Array Bool}{i:Nat}(h:i∈Region.ready .any (addE l ops) L):i∈Region.ready .any ops L:=by
 obtain⟨a,b,o,ho,d⟩:=J3.1 h;rw[Km] at a;rw[qf] at ho;obtain⟨o',ho',rfl⟩:=Jah.1 ho;exact J3.2 ⟨a,b,o',ho',fun e he hb=>d e (Array.mem_append.2 (.inl he)) hb⟩
theorem Fp{o:Oper}(hx:isX o=true)(a:Act):(∃v,∀w,(execOp a.eval o).run P w= .ok (.value v) w)∨(∀w K,¬o.uponIn fc 0 P a K Q ((execOp a.eval o).run P w)):=by
 obtain⟨dst,op,ty,pos,after,gd⟩:=o;cases op with
 |extract x i=>
  have e:∀w,(execOp a.eval ⟨dst,.extract x i,ty,pos,after,gd⟩).run P w=((do pure (Next.value (←Instr.extract (a.eval x) i)):Sem Next)).run P w:=fun _=>rfl
  simp only[e];unfold Instr.extract;cases hv:a.eval x with
  |tuple vs=>
   simp only;cases hu:vs[i]? with
   |some v=>exact .inl ⟨v,fun w=>by simp⟩
   |none=>exact .inr fun w K h=>by simp[Sem.run_bind,stuck,Oper.uponIn] at h
  |_=>exact .inr fun w K h=>by simp[Sem.run_bind,stuck,Oper.uponIn] at h
 |_=>simp[isX] at hx
theorem E8{l:List (Nat×Nat)}(hro:fc.round=none)(chk:uW ops n l=true)(hQ:∀c (a:Act) d v w,d<n→Q (.panic c) (a.put (some d) v) w→Q (.panic c) a w):
  ∀(fuel:Nat) (L:Array Bool) (a:Act) (w:World),unl ops.size L=fuel→L.size=ops.size→Yf ops L→
   wpAnyIn fc 0 P .any (addE l ops) Q fuel L a w→wpAnyIn fc 0 P .any ops Q fuel L a w:=by
 simp only[uW,VJ,WD,XQ] at chk;obtain⟨⟨⟨hsel,hd⟩,hb⟩,hl⟩:=chk;have back:∀(k:Nat) (o:Oper),ops[k]? =some o→∀e∈o.after,Region.binds .any e=true→e.on<k:=by
  intro k o ho e he hbe
  have:=hb k (VE.1 ho).1
  rw[ho] at this;simp only[Jai,Jaf,VB] at this
  have:=this e he
  rw[hbe] at this;simpa using this
 intro fuel;have bridge:∀(L:Array Bool),L.size=ops.size→∀i,i<ops.size→L.getD i false=L.getD i true:=by
  intro L hs i hi
  have:L[i]? =some L[i]:=by simp[hs,hi]
  simp[UK,this]
 have nne:∀ {L:Array Bool},Region.ready .any ops L=[]→Region.ready .any (addE l ops) L=[]:=by
  intro L h;rw[WO];intro i hi
  have:=r5 hi
  rw[h] at this;cases this
 have cset:∀ {L:Array Bool} {i:Nat},L.size=ops.size→Yf ops L→i∈Region.ready .any ops L→Yf ops (L.setIfInBounds i true):=by
  intro L i hs hc hi;obtain⟨g,m,o,ho,r⟩:=J3.1 hi;intro k hk hl' o' ho' e he hb';rw[UK,UR];by_cases u:i=e.on
  ·subst u;simp[hs,g]
  ·simp only[u,if_false];rw[←UK];by_cases x:i=k
   ·subst x;rw[ho] at ho';cases ho';exact r e he hb'
   ·rw[UK,UR] at hl';simp only[x,if_false] at hl';rw[←UK] at hl';exact hc k hk hl' o' ho' e he hb'
 induction fuel with
 |zero=>
  intro L a w hu hs hc h;have hall:=jg hu;refine⟨?_,h.2⟩;rw[WO];intro i hi;obtain⟨g,m,_⟩:=J3.1 hi;rw[hall i g] at m;cases m
 |succ fuel ih=>
  intro L a w hu hs hc h;by_cases hp:∃q∈l,q.2∈Region.ready .any ops L
  ·obtain⟨q,hq,hr⟩:=hp;have hq':=hl q hq;obtain⟨⟨⟨hqN,hqk⟩,hqf⟩,hm⟩:=hq';obtain⟨g,m,o,ho,r⟩:=J3.1 hr;rw[ho] at hm;simp only[VJ,WD,XQ] at hm;obtain⟨⟨hx,_⟩,hap⟩:=hm;have hr':q.2∈Region.ready .any (addE l ops) L:=lY hr fun q' z he=>by
    exfalso;have hf:(l.map Prod.fst).contains q.2=true:=by
     rw[List.contains_iff_mem,XM];exact⟨q',z,he⟩
    rw[hf] at hqf;cases hqf
   have p:=gV (K':=wpAnyIn fc 0 P .any (addE l ops) Q fuel (L.setIfInBounds q.2 true)) (h.2 _ hr') fun _ _ h=>h
   have hgd:o.guard=none∧∃d,o.dst=some d:=by
    obtain⟨dst,op,ty,pos,after,gd⟩:=o;unfold isX at hx;split at hx
    ·rename_i b f A;exact⟨f,_,A⟩
    ·cases hx
   obtain⟨hgd,d,hdst⟩:=hgd;have hw:∀y,Region.wanted o y=true:=fun y=>by unfold Region.wanted;rw[hgd]
   have hse:∀ρ,o.semAt fc.round ρ=execOp ρ o:=fun ρ=>by rw[hro];rfl
   unfold wpOpIn at p;rw[ho] at p;simp only[hw,if_true,Oper.wpIn,hro,Oper.semAt_none] at p;have hdn:d<n:=by
    have b:=hd o (by
     obtain⟨hk,rfl⟩:=VE.1 ho;simp)
    rw[hdst] at b;simpa using b
   rcases Fp (fc:=fc) (P:=P) (Q:=Q) hx a with ⟨v,hv⟩|hno
   ·rw[hv] at p;refine wpAnyIn_first (v:=v) hro ho (Region.noSelect_spec hsel) (fun c a w hq=>by rw[hdst] at hq;exact hQ c a d v w hdn hq) fuel L a w ?_ hr ?_ ?_
    ·intro j oj hoj hne hun hno;have b:=hap j (VE.1 hoj).1;rw[hoj] at b;simp only[VP] at b;rcases b with (b|b)|b|b
     ·exact absurd (YT b) hne
     ·have f:=Z2 hs hc ops.size j q.2 g (fun o' ho'=>by rw[ho] at ho';cases ho';exact r) b;rw[bridge L hs j (VE.1 hoj).1,hun] at f;cases f
     ·obtain⟨e,he,f⟩:=Array.any_eq_true'.1 b;simp only[VJ,beq_iff_eq] at f;exact absurd f.2 (hno e he f.1)
     ·exact b
    ·refine⟨.inl ⟨hw _,hv⟩,fun w=>?_⟩
     obtain⟨dst,op,ty,pos,after,gd⟩:=o;cases op<;>first|rfl|simp[isX] at hx
    ·refine ih _ _ _ ?_ (by simp[hs]) (cset hs hc hr) p.2
     have:=zg hs g m;omega
   ·exact absurd p.2 (hno w _)
  ·refine⟨fun hn=>h.1 (nne hn),fun i hi=>?_⟩
   obtain⟨g,m,o,ho,r⟩:=J3.1 hi;have hr':i∈Region.ready .any (addE l ops) L:=lY hi fun q hq he=>by
    subst he;have hq':=hl q hq;obtain⟨⟨⟨hqN,hqk⟩,hqf⟩,hm⟩:=hq';have hlt:q.2<ops.size:=by
     have:q.2<q.1:=by simpa using hqk
     omega
    have s:ops[q.2]? =some ops[q.2]:=by simp[hlt]
    rw[s] at hm;simp only[VJ,WD,XQ] at hm;obtain⟨⟨hx,haf⟩,hap⟩:=hm;rw[bridge L hs _ hlt];cases hb:L.getD q.2 true with
    |true=>rfl
    |false=>
     exfalso;refine hp ⟨q,hq,J3.2 ⟨hlt,hb,_,s,fun e he hbe=>?_⟩⟩
     rw[VB] at haf;have b:=haf e he;rw[hbe] at b;exact Z2 hs hc ops.size e.on q.1 g (fun o' ho'=>by rw[ho] at ho';cases ho';exact r) (by simpa using b)
   refine gV (h.2 i hr') fun a w f=>ih _ _ _ ?_ (by simp[hs]) (cset hs hc hi) f
   have:=zg hs g m;omega
end
section
variable {σ:Type} {fc:Fence} [Fw fc] {P:Program} {ops:Array Oper} {n:Nat} {D:List Deferred} {Q:Post} {f0:Fr} {w0:World}
theorem Tb {id:Nat} (l:List (Nat×Nat)) (hro:fc.round=none) (hz:uW ops n l=true) (hQ:∀c f f' w,Q (.panic c) f w→Q (.panic c) f' w)
  (hm:P.follows .mixedOrders=true) (m:Nat) (dl:List (List Nat)) (g:σ) (R:σ→World→σ→World→Prop) (Gl:List (σ→Value→World→Prop))
  (chk:jc (addE l ops) m n dl=true) (o:R g w0 g w0.drew) (htr:∀s a t b u c,R s a t b→R t b u c→R s a u c) (hG:Xb R Gl)
  (h:∀f s w,R g w0 s w→Keep (Jy (addE l ops) m) f0 f→xi P (addE l ops) Q R Gl f s w (addE l ops).toList dl 0∧(Deps (addE l ops) Gl f s w (List.range m)→Sq P (addE l ops) n Q ((addE l ops).toList.drop m) f w)):
  W fc P (Code.region id ops true) n D Q f0 w0:=by
 intro a ha hf;have F:=Xp chk;refine wpIn_region_any hm ?_;have e:∀i,i<ops.size→(Array.replicate ops.size false).getD i true=false:=by
  intro i hi;simp[UK,hi]
 have hu:unl ops.size (Array.replicate ops.size false)=ops.size:=by
  unfold unl
  have:(List.range ops.size).countP (fun i=> !(Array.replicate ops.size false).getD i true)=(List.range ops.size).length:=by
   refine WI.2 ?_;intro i hi;simp[e i (by simpa using hi)]
  rw[this];simp
 refine E8 hro hz (fun c a d v w hdn hq=>⟨⟨by rw[←hq.1.size];simp[Act.put],by rw[←hq.1.defers];simp[Act.put]⟩,hQ _ _ _ _ hq.2⟩) ops.size _ a _ hu (by simp) (fun k hk hl=>by rw[e k hk] at hl;cases hl) ?_;have key:=tO (fc:=fc) F htr hG (qk _ _ _ fun f s w r k=>(h f s w r k).1) (fun f s w r k=>(h f s w r k).2) (addE l ops).size (Array.replicate ops.size false) a g w0.drew (by rw[Km];exact hu) (by rw[Km];simp) ?_ (fun i hi _=>e i (by rw[Km] at hi;exact hi)) ha o (fun t _=>by rw[hf]) ?_
 ·rw[Km] at key;exact key
 ·intro k hk hl;rw[Km] at hk;rw[e k hk] at hl;cases hl
 ·intro j hj hl;rw[e j (by have:=F.le;rw[Km] at this;omega)] at hl;cases hl
end
end Go.Wf
namespace Go.Wf
open Go Go.Proofs Go.RowKit
theorem HW:fldT Tryz.prog 40 1=some (38,1):=by kernel_rfl
theorem M3:fldT Tryz.prog 42 0=some (40,0):=by kernel_rfl
theorem HS:fldT Tryz.prog 42 1=some (40,2):=by kernel_rfl
theorem M8{m:List Nat}(h:Jp m)(hv:val m<2147483648):(trim m).length≤2:=by
 rw[Vy h];exact Jt (by omega)
theorem DF{X:Nat→Prop}{w:World}(hX:XB X w){n:Int}(p: -9223372036854775808≤n)(i:n≤2147483647):CRt 94 #[(.int .i64 n)] w fun v w'=>v=(.bool (prmB n)):=by
 have C:=Cx.start hX;refine Cgo Tryz.func94 rfl rfl rfl<|Rg<|Ua<|Rh<|Ub<|Sb rfl rfl (fun g=>?_)<|fun g=>?_
 ·exact Nl<|Uf<|Ua<|RY<|Wq rfl rfl C<|congrArg (Value.bool)<|HE g
 refine Nl (Uc<|Rh<|Ua<|W.block<|Sc (fun μ f v=>∃(x y:Nat→Prop) (d:Int),Cx X w x y v∧f 0=(.int .i64 n)∧f 3=(.int .i64 d)∧2≤d∧d≤46342∧(∀e:Int,2≤e→e<d→¬n%e=0)∧μ=(n+1-d).toNat) _ ⟨_,_,2,C,rfl,rfl,(by omega),(by omega),(fun e i r=>by omega),rfl⟩ ?_);rintro m s u ⟨A,B,d,h,j,k,hd,hdb,hp,l⟩;obtain⟨o,rfl⟩:=rebK (aC j<|aC k aN);clear j k;refine Rh<|Om<|Ub<|SO (z:=(d*d)) rfl rfl (UP _<|NJ hd hdb)<|Ub<|SJ rfl rfl (fun a=>?_)<|fun a=>?_
 ·refine Nl<|Ud<|RT<|RZ<|W.block<|Rg<|Om<|Ub<|Sz rfl rfl (by omega) (IntWalk.rem_in _ _ (by omega))<|Ol<|Sj rfl rfl (fun b=>?_)<|fun b=>?_
  ·exact Nl<|Uf<|Ua<|RY<|Wq rfl rfl h<|congrArg (Value.bool)<|Ij hd a b
  refine Nl<|Uc<|RK<|Ub<|St.add (z:=(d+1)) rfl rfl (UP _ (by omega))<|Ua<|⟨_,(by have:=Ow hd a;omega),_,_,(d+1),h,rfl,rfl,(by omega),(Nq hd a i),(wX hp b),rfl⟩
 exact Nl<|Ue<|Sf<|Rg<|Ua<|RY<|Wq rfl rfl h<|congrArg (Value.bool)<|JE g hp hd a
theorem uK{X:Nat→Prop}{w:World}(hX:XB X w){n:Int}(d: -9223372036854775808≤n)(e:n≤2147483647):CRt 52 #[(.int .i64 n)] w fun v w'=>(∃b a,v= .tuple #[b,a]∧(b=(.bool (prmB n)))∧(a=(.int .i64 0))):=by
 have C:=Cx.start hX;refine Cgo Tryz.func52 rfl rfl rfl (Rg<|Oa<|Ua<|Rh<|Ub<|SM (t:=false) rfl rfl (decide_eq_false (by omega))<|Nl<|Uc<|Rg<|Ub<|RH C cb94 rfl rfl (DF C.bd d e) ?_);intro a h f i g;subst g;refine Oa (Ua<|RY<|Z4 rfl (resV.t rfl) (resV.t rfl)<|RM ?_ f.below);refine⟨_,_,rfl,?_,?_⟩
 ·skip
  rfl
 ·skip
  rfl
theorem Az{X:Nat→Prop}{w:World}(hX:XB X w){p:Int}{lo:Int}{hi:Int}(d: -9223372036854775808≤p)(g:hi≤2147483647):CRt 19 #[(.int .i64 p),(.int .i64 lo),(.int .i64 hi)] w fun v w'=>v=(.bool (decide (lo≤p)&&decide (p≤hi)&&prmB p)):=by
 have C:=Cx.start hX;refine Cgo Tryz.func19 rfl rfl rfl<|Rg<|Ua<|Rh<|Om<|Ub<|Sb rfl rfl (fun a=>?_)<|fun a=>?_
 ·exact Om<|Oz<|Oz<|Oz<|OT<|Nl<|Uf<|Ua<|RY<|Wq rfl rfl C<|congrArg (Value.bool)<|JC a
 refine Om<|OgD<|RP<|OgD<|RP<|OgD<|Sx rfl rfl (fun b=>?_)<|fun b=>?_
 ·exact OF<|Nl<|Uf<|Ua<|RY<|Wq rfl rfl C<|congrArg (Value.bool)<|IG b
 refine OF (Nl<|Uc<|Rg<|Ub<|RH C cb52 rfl rfl (uK C.bd d (by omega)) ?_);intro h i e j f;obtain⟨k,l,rfl,rfl,rfl⟩:=f;exact Ub<|St.extract rfl rfl<|Ol<|St.extract rfl rfl<|Oa<|Ua<|Rg<|Om<|Ua<|RY<|Wq rfl rfl e<|congrArg (Value.bool)<|JF a b
theorem uO{X:Nat→Prop}{w:World}(hX:XB X w){n:Int}(a:1≤n)(b:n≤2147483647):CRt 102 #[(.int .i64 n)] w fun v w'=>v=(.bool true):=by
 have C:=Cx.start hX;refine Cgo Tryz.func102 rfl rfl rfl (Rg<|Ua<|Rg<|Ub<|SV (t:=true) rfl rfl (decide_eq_true (by omega))<|Om<|OgD<|RP<|OgD<|SU (t:=true) rfl rfl (decide_eq_true (by omega))<|OT ?_);refine Ua<|RY<|J0 rfl (resV.t rfl)<|RM ?_ C.below
 rfl
theorem kG{X:Nat→Prop}{w:World}(hX:XB X w){a:Int}{n:Int}(hn:0<n)(hb:n≤2147483648):CRt 104 #[(.int .i64 a),(.int .i64 n)] w fun v w'=>v=(.int .i64 (a%n)):=by
 have C:=Cx.start hX;have ht:=iR a hn;refine Cgo Tryz.func104 rfl rfl rfl<|Rg<|Ua<|Rh<|Om<|Ub<|Sz rfl rfl (by omega) rfl<|Ua<|Rg<|Ub<|Sb rfl rfl (fun b=>?_)<|fun b=>?_
 ·exact Nl<|Uk<|Om<|Ub<|St.add (z:=((a.tmod n)+n)) rfl rfl (UP _ (by omega))<|Ua<|Rg<|Om<|Ua<|RY<|Wq rfl rfl C<|congrArg (Value.int _)<|(oK hn (by omega))
 exact Nl<|Uc<|Rg<|Om<|Ua<|RY<|Wq rfl rfl C<|congrArg (Value.int _)<|(pQ hn (by omega))
theorem Hz{X:Nat→Prop}{w:World}(hX:XB X w){a:Int}{b:Int}(ha:0≤a)(hab:a<b)(hb:b≤2147483647)(hg:Int.gcd a b=1):CRt 103 #[(.int .i64 a),(.int .i64 b)] w fun v w'=>(∃m o p r,v= .tuple #[m,o,p,r]∧(m=(.int .i64 1))∧(o=(.int .i64 (invM a b)))∧(∃n:Int,p= .int .i64 n)∧(r=(.int .i64 0))):=by
 have C:=Cx.start hX;refine Cgo Tryz.func103 rfl rfl rfl (Rg<|Oa<|Oa<|Oa<|Ua<|Rh<|Ub<|SG (t:=false) rfl rfl (decide_eq_false (by omega))<|Om<|OgD<|RP<|OgD<|SM (t:=false) rfl rfl (decide_eq_false (by omega)) ?_);refine OF (Om<|OgD<|RP<|OgD<|SG (t:=false) rfl rfl (decide_eq_false (by omega))<|OF<|Om<|OgD<|RP<|OgD<|SM (t:=false) rfl rfl (decide_eq_false (by omega))<|OF<|Nl<|Uc<|RZ<|RZ ?_);refine RK (Ub<|SW (t:=false) rfl rfl (decide_eq_false (by omega))<|Nl<|Uc<|Rg<|Om<|Ua<|Rg<|Oa<|Ua<|Rh<|Om<|Ua<|W.block<|Sc (fun μ f v=>∃(x y:Nat→Prop) (gg:Int) (rr:Int) (uu:Int) (vv:Int) (ss:Int),Cx X w x y v∧f 0=(.int .i64 a)∧f 1=(.int .i64 b)∧f 6=(.int .i64 0)∧f 7=(.int .i64 0)∧f 4=(.int .i64 gg)∧f 9=(.int .i64 rr)∧f 5=(.int .i64 uu)∧f 8=(.int .i64 vv)∧XgI a b gg rr uu vv ss∧μ=rr.toNat) _ ⟨_,_,a,b,1,0,1,C,rfl,rfl,rfl,rfl,rfl,rfl,rfl,rfl,(BA ha (by omega) hab hb),rfl⟩ ?_);rintro av f1 w2 ⟨x3,y4,gg,rr,uu,vv,ss,j,s,u,A,B,e,g,h,i,hI,an⟩;obtain⟨aw,rfl⟩:=rebK (aC s<|aC u<|aC A<|aC B<|aC e<|aC g<|aC h<|aC i aN);clear s u A B e g h i;have i1:=hI.g0;have i2:=hI.r0;have i3:=hI.gl;have i4:=hI.rl;refine Rh<|Ub<|SA rfl rfl (fun k=>?_)<|fun k=>?_
 ·refine Nl (Ud<|RT<|W.block<|Rg<|Om<|Ub<|SF rfl rfl (by omega) (IntWalk.i64_quo _ _ (by omega))<|Ua<|RZ ?_);have j1:=Ov i1 i2 (by omega);refine RK (Om<|Om<|Om<|Ub<|SO (z:=((gg/rr)*rr)) rfl rfl (UP _ (by omega))<|Ol<|St.sub (z:=(gg-((gg/rr)*rr))) rfl rfl (UP _ (by omega))<|Oa<|Oa<|Nl ?_);have D:=Pq (by omega) hI (by omega);refine RK<|Om<|Om<|Om<|Ub<|SO (z:=((gg/rr)*vv)) rfl rfl (UP _ (by omega))<|Ol<|St.sub (z:=(uu-((gg/rr)*vv))) rfl rfl (UP _ (by omega))<|Oa<|Ua<|⟨_,(by have j1:=VW gg (show 0<rr by omega);have D:=Int.emod_def gg rr;rw[Wd] at D;omega),_,_,rr,(gg-gg/rr*rr),vv,(uu-gg/rr*vv),(-ss),j,rfl,rfl,rfl,rfl,rfl,rfl,rfl,rfl,(te (by omega) hI (by omega)),rfl⟩
 refine Nl (Ue<|Sf<|RZ<|RZ ?_);have l:=Mx hI (by omega) hg;refine RK (Ub<|SG (t:=false) rfl rfl (decide_eq_false (by omega))<|Nl<|Uc<|RZ ?_);have j3:b/gg=b:=by rw[l,Int.ediv_one]
 refine RK (Om<|Om<|Ub<|St.neg (z:=(-b)) rfl (nE (by omega))<|Ol<|St.max rfl rfl (if_neg (by omega))<|Ub<|SF rfl rfl (by omega) (IntWalk.i64_quo _ _ (by omega))<|Ol<|RH j ID rfl rfl (kG j.bd (by omega) (by omega)) ?_);intro ax ay E az F;subst F;refine Oa (Nl<|RZ ?_);have j4:=VX uu (show b/gg≠0 by omega);have j5:=VW uu (show 0<b/gg by omega);have j6:=Iq j4 (by omega) ha (by omega);refine Uh mixed [(.int .i64 gg),(.int .i64 (uu%(b/gg))),(.int .i64 gg),(.int .i64 (uu%(b/gg))),(.int .i64 a),(.int .i64 ((uu%(b/gg))*a)),(.int .i64 (gg-((uu%(b/gg))*a))),(.int .i64 b),(.int .i64 ((gg-uu%(b/gg)*a).tdiv b)),(.int .i64 gg),(.int .i64 (uu%(b/gg))),(.int .i64 ((gg-uu%(b/gg)*a).tdiv b)),(.int .i64 0)] [[4],[5],[4],[5],[],[70,71],[69,72],[],[73,74],[67],[68],[75],[]] [4,5,6,7,67,68,69,70,71,72,73,74,75] (by kernel_rfl) fun G d=>?_
 have d:Keep [67,68,69,70,71,72,73,74,75,4,5,6,7] _ G:=d;refine⟨⟨fun⟨H,_⟩=>?_,fun⟨I,_⟩=>?_,fun⟨J,_⟩=>?_,fun⟨K,_⟩=>?_,fun _=>?_,fun⟨L,M,_⟩=>?_,fun⟨N,P,_⟩=>?_,fun _=>?_,fun⟨Q,R,_⟩=>?_,fun⟨T,_⟩=>?_,fun⟨U,_⟩=>?_,fun⟨V,_⟩=>?_,fun _=>?_,trivial⟩,fun⟨Y,Z,aa,ab,ac,ad,ae,af,ag,ah,ai,aj,ak,_⟩=>?_⟩
 ·exact zb d (aC (H.trans (by kernel_rfl:_=(.int .i64 gg))) aN) fun _=>RP ⟨rfl,rfl⟩
 ·exact zb d (aC (I.trans (by kernel_rfl:_=(.int .i64 (uu%(b/gg))))) aN) fun _=>RP ⟨rfl,rfl⟩
 ·exact zb d (aC (J.trans (by kernel_rfl:_=(.int .i64 gg))) aN) fun _=>RP ⟨rfl,rfl⟩
 ·exact zb d (aC (K.trans (by kernel_rfl:_=(.int .i64 (uu%(b/gg))))) aN) fun _=>RP ⟨rfl,rfl⟩
 ·exact zb d aN fun _=>RP ⟨rfl,rfl⟩
 ·exact zb d (aC (L.trans (by kernel_rfl:_=(.int .i64 (uu%(b/gg)))))<|aC (M.trans (by kernel_rfl:_=(.int .i64 a))) aN) fun _=>SO (z:=((uu%(b/gg))*a)) rfl rfl (UP _ (by omega)) ⟨rfl,rfl⟩
 ·exact zb d (aC (N.trans (by kernel_rfl:_=(.int .i64 gg)))<|aC (P.trans (by kernel_rfl:_=(.int .i64 ((uu%(b/gg))*a)))) aN) fun _=>St.sub (z:=(gg-((uu%(b/gg))*a))) rfl rfl (UP _ (by omega)) ⟨rfl,rfl⟩
 ·exact zb d aN fun _=>RP ⟨rfl,rfl⟩
 ·exact zb d (aC (Q.trans (by kernel_rfl:_=(.int .i64 (gg-((uu%(b/gg))*a)))))<|aC (R.trans (by kernel_rfl:_=(.int .i64 b))) aN) fun _=>SF rfl rfl (by omega) (UP _<|DT (by omega) (by omega) (by omega)) ⟨rfl,rfl⟩
 ·exact zb d (aC (T.trans (by kernel_rfl:_=(.int .i64 gg))) aN) fun _=>St.assign ⟨rfl,rfl⟩
 ·exact zb d (aC (U.trans (by kernel_rfl:_=(.int .i64 (uu%(b/gg))))) aN) fun _=>St.assign ⟨rfl,rfl⟩
 ·exact zb d (aC (V.trans (by kernel_rfl:_=(.int .i64 ((gg-uu%(b/gg)*a).tdiv b)))) aN) fun _=>St.assign ⟨rfl,rfl⟩
 ·exact zb d aN fun _=>St.assign ⟨rfl,rfl⟩
 have al:=SS E;have am:=al.cx;obtain⟨aA,rfl⟩:=mixK d (aC (Y.trans (by kernel_rfl:_=(.int .i64 gg)))<|aC (Z.trans (by kernel_rfl:_=(.int .i64 (uu%(b/gg)))))<|aC (aa.trans (by kernel_rfl:_=(.int .i64 ((gg-uu%(b/gg)*a).tdiv b))))<|aC (ab.trans (by kernel_rfl:_=(.int .i64 0)))<|aC (ac.trans (by kernel_rfl:_=(.int .i64 gg)))<|aC (ad.trans (by kernel_rfl:_=(.int .i64 (uu%(b/gg)))))<|aC (ae.trans (by kernel_rfl:_=(.int .i64 gg)))<|aC (af.trans (by kernel_rfl:_=(.int .i64 (uu%(b/gg)))))<|aC (ag.trans (by kernel_rfl:_=(.int .i64 a)))<|aC (ah.trans (by kernel_rfl:_=(.int .i64 ((uu%(b/gg))*a))))<|aC (ai.trans (by kernel_rfl:_=(.int .i64 (gg-((uu%(b/gg))*a)))))<|aC (aj.trans (by kernel_rfl:_=(.int .i64 b)))<|aC (ak.trans (by kernel_rfl:_=(.int .i64 ((gg-uu%(b/gg)*a).tdiv b)))) aN);refine RY (Rz rfl (resV.t rfl) (resV.t rfl) (resV.t rfl) (resV.t rfl)<|RM ?_ am.below);refine⟨_,_,_,_,rfl,?_,?_,?_,?_⟩
 ·exact congrArg (Value.int _)<|l
 ·exact congrArg (Value.int _)<|(IZ (by omega) hI l)
 ·exact⟨_,rfl⟩
 ·skip
  rfl
theorem ta{X:Nat→Prop}{w:World}(hX:XB X w){a:Int}{b:Int}(ha:0≤a)(hab:a<b)(hb:b≤2147483647)(hg:Int.gcd a b=1):CRt 61 #[(.int .i64 a),(.int .i64 b)] w fun v w'=>(∃e d,v= .tuple #[e,d]∧(e=(.int .i64 (invM a b)))∧(d=(.int .i64 0))):=by
 have C:=Cx.start hX;have hm:=VU ha hab;refine Cgo Tryz.func61 rfl rfl rfl (Rg<|Oa<|Ua<|Rh<|Ub<|RH C Pc rfl rfl (uO C.bd (by omega) hb) ?_);intro d y f z l;subst l;refine Ol (Sr rfl<|Nl<|Uc<|Rg<|Om<|Ub<|RH f ID rfl rfl (kG f.bd (by omega) (by omega)) ?_);intro A B g D h;subst h;refine Om (Ol<|RH g QA rfl rfl (Hz g.bd (by omega) (by omega) hb (by rw[hm];exact hg)) ?_);intro m n i o j;obtain⟨p,r,s,u,rfl,rfl,rfl,k,rfl⟩:=j;obtain⟨x,rfl⟩:=k;refine Om (Ol<|St.extract rfl rfl<|Ol<|St.extract rfl rfl<|Ol<|St.extract rfl rfl<|Ol<|St.extract rfl rfl<|Oa<|Oa<|Oa<|Ua<|Rh<|Ub<|SK (t:=false) rfl rfl (by rw[decide_eq_true rfl];rfl)<|Nl<|Uc<|RZ ?_);refine RK (Om<|Oa<|Ua<|RY<|Z4 rfl (resV.t rfl) (resV.t rfl)<|RM ?_ i.below);refine⟨_,_,rfl,?_,?_⟩
 ·exact congrArg (Value.int _)<|(by rw[hm])
 ·skip
  rfl
theorem vE{X:Nat→Prop}{w:World}(hX:XB X w){d:Value}{a:GInt}(h:RV Jo X w d a)(hl:a.mag.length≤1099511627776)(hv:val a.mag<2147483648)(hng:a.neg=false):CRt 60 #[d] w fun v w'=>(∃d i,v= .tuple #[d,i]∧(d=(.int .i64 ((val a.mag:Nat):Int)))∧(i=(.bool true))):=by
 obtain⟨p,r,rfl,g⟩:=RV.int h;have C:=Cx.start hX;have sa:=h.int_small;have hvt:=Z1 a.mag;have hlt:=M8 sa hv;refine Cgo Tryz.func60 rfl rfl rfl (Rg<|Ol<|R9 C rfl ?_);intro E F G H s j k b;have g:=g.sp k;refine Oa (Ua<|Rg<|Ol<|RI J4 rfl<|Ol<|RN b pl38 rfl rfl<|Ol<|RH j cb87 rfl rfl (Zg j.bd g hl) ?_);intro u x e l f;obtain⟨y,A,rfl,_,_⟩:=f.len;refine Oa (Nl<|Rh<|Ub<|St.len sl38 rfl<|Ol<|SM (t:=false) rfl rfl (decide_eq_false (by omega))<|Nl<|Uc<|Rg<|Ub<|RH e sQ rfl rfl (kX e.bd f (by omega)) ?_);intro B D m n o;have b:=(b.spn l).spn n;subst o;refine Oa (Nl<|Rh<|Ub<|SM (t:=false) rfl rfl (decide_eq_false (by omega))<|Om<|OgD<|RP<|OgD<|SW (t:=false) rfl rfl (decide_eq_false (by omega))<|OgD<|RP<|Oz<|Oz<|Oz<|OgD<|Sy (t:=false) rfl<|OF ?_);refine Nl (Uc<|RZ<|RZ ?_);rw[hng] at b;refine RK (Ol<|RI Zp rfl<|Ol<|RN b pl4 rfl rfl<|Nl<|Uc<|Rg<|Ub<|R2 (z:=((val (trim a.mag):Nat):Int)) us97 un3 rfl (UP _ (by omega))<|Oa<|Ua<|RY<|Z4 rfl (resV.t rfl) (resV.t rfl)<|RM ?_ m.below);refine⟨_,_,rfl,?_,?_⟩
 ·exact congrArg (Value.int _)<|(by rw[hvt])
 ·skip
  rfl
theorem qX{X:Nat→Prop}{w:World}(hX:XB X w){F:Value}{a:GRat}(A:RV Jj X w F a){p:Int}(hln:a.num.mag.length≤1000000)(hld:a.den.mag.length≤1000000)(f:0<p)(hpb:p≤2147483647):CRt 23 #[F,(.int .i64 p)] w fun v w'=>v=(.bool (zo a p)):=by
 obtain⟨G,H,I,J,rfl,B,D⟩:=TN A;have C:=Cx.start hX;have sn:=A.rat_small.1;have sd:=A.rat_small.2;have q1:=Zw sn;have q2:=Z0 sd;have al:=Qq (ofQ a.q).num.toZ f;have K:=Qq (ofQ a.q).den.toZ f;refine Cgo Tryz.func23 rfl rfl rfl (Rg<|Ol<|R9 C rfl ?_);intro g7 w8 x9 am aj i j L;have B:=B.sp j;have D:=D.sp j;refine Oa (Nl<|Rg<|Ol<|Uo (vs:=(qqC a G H I J)) L ag42<|Ol<|RH i cb56 rfl rfl (Xj i.bd (a:=a) (J2 B D) (by omega) (by omega)) ?_);intro an ao k aq M;obtain⟨N,P,l,m,rfl,ar,g⟩:=TN M;refine Ol (S9 (cs:=(qqC (ofQ a.q) N P l m)) (ds:=(zzC ((ofQ a.q).den) l m)) HS ag40 rfl rfl<|Ub<|RH k cb44 rfl rfl (xv k.bd (by omega) (by omega)) ?_);intro au av n Q R;have g:=g.sp Q;obtain⟨aw,ax,rfl,T⟩:=RV.int R;refine Ol (RH n cb58 rfl rfl (Q3 n.bd (a:=(ofQ a.q).den) (Je g) (b:=(ofZ p)) (Je T) (by omega) (Vp (by omega) hpb (by decide))<|iw f) ?_);intro ay az U aA o;simp only[Jl,Zq] at o;obtain⟨aB,aD,aE,rfl,V,Y,rfl⟩:=o;obtain⟨Z,aa,rfl,aF⟩:=RV.int V;obtain⟨r,s,rfl,d⟩:=RV.int Y;refine Om (Ol<|St.extract rfl rfl<|Ol<|St.extract rfl rfl<|Ol<|St.extract rfl rfl<|Ol<|RR U io40 rfl ?_);intro aG aH aI aJ ak ab ac e;refine Ol (RR ab io40 rfl ?_);intro aK aL aM aO E ad u h;have ae:=E _ e.blk.lt;have d:=(d.sp ac).sp u;have e:=e.spn u;refine On (Us (cs':=(zzC (ofZ<|(ofQ a.q).den.toZ/p) Z aa)) ad e io40 ?_);intro aP af x aQ;have h:=h.spo x (UQ ae);refine On (Us (cs':=(zzC (ofZ<|(ofQ a.q).den.toZ%p) r s)) af h io40 ?_);intro aR y ag ah;have d:=(d.sp x).sp ag;refine Oa (Nl<|Rg<|Ol<|Uo (vs:=(zzC (ofZ<|(ofQ a.q).den.toZ%p) r s)) ah ag40<|Ol<|RH y cb59 rfl rfl (z9 y.bd (a:=(ofZ<|(ofQ a.q).den.toZ%p)) (Je d)<|Vp K.1 (by omega) (by decide)) ?_);intro aS aT ai aU z;simp only[Jl,Zq] at z;subst z;exact Ol<|SK rfl rfl rfl<|Ua<|RY<|Wq rfl rfl ai<|congrArg (Value.bool)<|D0
theorem xn{X:Nat→Prop}{w:World}(hX:XB X w){v0:Value}{a:GRat}(r0:RV Jj X w v0 a){p:Int}(hln:a.num.mag.length≤1000000)(hld:a.den.mag.length≤1000000)(hp:isP p)(hpb:p≤2147483647)(hi:zo a p=true):CRt 24 #[v0,(.int .i64 p)] w fun v w'=>v=(.int .i64 (rmM a p)):=by
 obtain⟨a1,c2,a3,c4,rfl,h5,h6⟩:=TN r0;have C:=Cx.start hX;have sn:=r0.rat_small.1;have sd:=r0.rat_small.2;have q1:=Zw sn;have q2:=Z0 sd;have D:0<p:=by have:=hp.1;omega
 have au:=Qq (ofQ a.q).num.toZ D;have av:=Qq (ofQ a.q).den.toZ D;have dx:=L4 a D;have aY:=Ms a D;have gE:=Qq a.q.num D;have gF:=Qq ((a.q.den:Nat):Int) D;have dy:=IF (y:=((val (ofZ<|(ofQ a.q).den.toZ%p).mag:Nat):Int)) D;refine Cgo Tryz.func24 rfl rfl rfl (Rg<|Ol<|R9 C rfl ?_);intro g7 w8 x9 dz dZ aZ a0 ag;have h5:=h5.sp a0;have h6:=h6.sp a0;refine Oa (Nl<|Rg<|Ol<|Uo (vs:=(qqC a a1 c2 a3 c4)) ag ag42<|Ol<|RH aZ cb56 rfl rfl (Xj aZ.bd (a:=a) (J2 h5 h6) (by omega) (by omega)) ?_);intro gG gH dB dC dD;have ag:=ag.spn dC;obtain⟨aw,ax,ay,az,rfl,aA,F⟩:=TN dD;refine On (Us (cs':=(qqC (ofQ a.q) aw ax ay az)) dB ag io42 ?_);intro a2 dE a4 A;have F:=F.sp a4;refine Nl<|RZ<|Tb [(11,7),(11,8),(12,8)] rfl (by kernel_rfl) (fun _ _ _ _ h=>h) mixed 11 [[],[0],[],[2],[1,3],[4],[5],[5],[5],[],[]] ((x9,dz),lR) (RL X w) [fx<|.pointer (some ⟨g7,0,none⟩),fx<|.agg #[(.bool (ofQ a.q).num.neg),(.slice aw (ofQ a.q).num.mag.length ax)],fx<|.int .i64 p,fun(s:GhL) (v:Value) (w':World)=>RV Jo s.1.1 w' v<|ofZ p,fun(s:GhL) (v:Value) (w':World)=>∃u0 n u,v= .tuple #[u0,n,u]∧(RV Jo s.1.1 w' u0<|ofZ<|(ofQ a.q).num.toZ/p)∧(RV Jo s.1.1 w' n<|ofZ<|(ofQ a.q).num.toZ%p)∧(u=(.int .i64 0)),fun(s:GhL) (v:Value) (w':World)=>∃u0 n u,v= .tuple #[u0,n,u]∧(RV Jo s.1.1 w' u0<|ofZ<|(ofQ a.q).num.toZ/p)∧(RV Jo s.1.1 w' n<|ofZ<|(ofQ a.q).num.toZ%p)∧(u=(.int .i64 0)),fun(s:GhL) (v:Value) (w':World)=>RV Jo s.1.1 w' v<|ofZ<|(ofQ a.q).num.toZ/p,fun(s:GhL) (v:Value) (w':World)=>RV Jo s.1.1 w' v<|ofZ<|(ofQ a.q).num.toZ%p,fx<|.int .i64 0,fun(s:GhL) (v:Value) (w':World)=>∃g':Nat,v= .pointer (some ⟨g',0,none⟩)∧Own w s.1.2 w' g' [(.bool false),(.slice none 0 0)] 40∧a2.heap.size≤g'∧s.2 g'=some 9,fun(s:GhL) (v:Value) (w':World)=>∃g':Nat,v= .pointer (some ⟨g',0,none⟩)∧Own w s.1.2 w' g' [(.bool false),(.slice none 0 0)] 40∧a2.heap.size≤g'∧s.2 g'=some 10] (by kernel_rfl) (TU dE) RL.trans ⟨sx,sx,sx,(fun _ _ _ _ _ h r=>RV.tr h r.rc.sp.tx),(fun _ _ _ _ _ ⟨u0,n,u,e,U,V,Y⟩ r=>⟨u0,n,u,e,U.tr r.rc.sp.tx,V.tr r.rc.sp.tx,Y⟩),(fun _ _ _ _ _ ⟨u0,n,u,e,U,V,Y⟩ r=>⟨u0,n,u,e,U.tr r.rc.sp.tx,V.tr r.rc.sp.tx,Y⟩),(fun _ _ _ _ _ h r=>RV.tr h r.rc.sp.tx),(fun _ _ _ _ _ h r=>RV.tr h r.rc.sp.tx),sx,(fun _ _ _ _ _ ⟨g,e,o,l,q⟩ r=>⟨g,e,o.spn r.rc.sp,l,r.ext _ _ q⟩),(fun _ _ _ _ _ ⟨g,e,o,l,q⟩ r=>⟨g,e,o.spn r.rc.sp,l,r.ext _ _ q⟩),trivial⟩ fun dG m gI ah j=>?_
 have k:=ah.rc.cx;have ai:=ah.rc.sp;have aB:=A.blk.lt;have T:=ai.tx.size;have aA:=(aA.sp a4).sp ai;have A:=A.spn ai;have j:Keep [18,19,20,21,22,17,23,24,25,5,6] _ dG:=j;refine⟨⟨fun _=>?_,fun⟨dH,_⟩=>?_,fun _=>?_,fun⟨dI,_⟩=>?_,fun⟨dJ,dK,_⟩=>?_,fun⟨dL,_⟩=>?_,fun⟨dM,_⟩=>?_,fun⟨dN,_⟩=>?_,fun⟨dO,_⟩=>?_,fun _=>?_,fun _=>?_,trivial⟩,fun⟨dP,dQ,dR,dS,dT,dU,dV,dW,dX,a8,a9,_⟩=>?_⟩
 ·exact Sd0 j fun _=>RI Ko rfl ⟨m,RL.same k,rfl⟩
 ·exact Sd1 j dH fun _=>RX (vs:=(zzC ((ofQ a.q).num) aw ax)) A ag40 rfl rfl rfl ⟨m,RL.same k,rfl⟩
 ·exact Sd0 j fun _=>RP ⟨m,RL.same k,rfl⟩
 ·refine Sd1 j dI fun _=>RH k cb44 rfl rfl (xv k.bd (by omega) (by omega)) ?_;intro d0 d1 ba bb be;exact⟨m,TS ⟨ba,bb⟩,be⟩
 ·obtain⟨d2,d3,bf,bg⟩:=RV.int dK;refine Js j (aC dJ<|aC bf aN) fun _=>R8 (RH k cb58 rfl rfl (Q3 k.bd (a:=(ofQ a.q).num) (Je aA) (b:=(ofZ p)) (Je bg) (by omega) (Vp (by omega) hpb (by decide))<|iw D) ?_);intro d4 d5 bh bi aD;simp only[Jl,Zq] at aD;exact⟨m,TS ⟨bh,bi⟩,aD⟩
 ·obtain⟨d6,d7,d8,bj,bk,bl,rfl⟩:=dL;obtain⟨d9,ea,rfl,bm⟩:=RV.int bk;obtain⟨eb,ec,rfl,bn⟩:=RV.int bl;exact Sd1 j bj fun _=>RP<|⟨m,RL.same k,⟨_,_,_,rfl,(Je bm),(Je bn),rfl⟩⟩
 ·obtain⟨ed,ee,ef,bo,bp,bq,rfl⟩:=dM;obtain⟨eg,eh,rfl,br⟩:=RV.int bp;obtain⟨ei,ej,rfl,ek⟩:=RV.int bq;exact Sd1 j bo fun _=>St.extract rfl rfl ⟨m,RL.same k,(Je br)⟩
 ·obtain⟨el,em,en,bs,bt,bu,rfl⟩:=dN;obtain⟨eo,ep,rfl,eq⟩:=RV.int bt;obtain⟨er,es,rfl,bv⟩:=RV.int bu;exact Sd1 j bs fun _=>St.extract rfl rfl ⟨m,RL.same k,(Je bv)⟩
 ·obtain⟨et,eu,ev,bw,bx,bz,rfl⟩:=dO;obtain⟨ew,ex,rfl,ey⟩:=RV.int bx;obtain⟨ez,eA,rfl,eB⟩:=RV.int bz;exact Sd1 j bw fun _=>St.extract rfl rfl ⟨m,RL.same k,rfl⟩
 ·refine Sd0 j fun _=>RR k io40 rfl ?_;intro aE eC bA bB aj bC bD aF;exact⟨((bA,bB),lab m.2 aE 9),RL.new (ah.bd fun _ _ h=>by cases h) ⟨bC,bD⟩ (ZB fun hh=>aj _ hh rfl) aF.blk.lt,aE,rfl,aF,ZB fun hh=>aj _ (UB hh T) rfl,Kt _ _ _⟩
 ·refine Sd0 j fun _=>RR k io40 rfl ?_;intro aG eD bE bF ak bG bH aH;exact⟨((bE,bF),lab m.2 aG 10),RL.new (ah.bd fun _ _ h=>by cases h) ⟨bG,bH⟩ (ZB fun hh=>ak _ hh rfl) aH.blk.lt,aG,rfl,aH,ZB fun hh=>ak _ (UB hh T) rfl,Kt _ _ _⟩
 obtain⟨eE,eG,bJ,eH⟩:=RV.int dS;obtain⟨eI,eJ,eK,bK,bL,bM,rfl⟩:=dT;obtain⟨eL,eM,rfl,eN⟩:=RV.int bL;obtain⟨eO,eP,rfl,eQ⟩:=RV.int bM;obtain⟨eR,eS,eT,bN,bO,bP,rfl⟩:=dU;obtain⟨eU,eV,rfl,eW⟩:=RV.int bO;obtain⟨eX,eY,rfl,eZ⟩:=RV.int bP;obtain⟨bQ,bR,bS,e0⟩:=RV.int dV;obtain⟨aI,aJ,bT,B⟩:=RV.int dW;obtain⟨J,bU,bV,bW,bX⟩:=a8;have bY:g7≠J:=ZO (UB aB bW);obtain⟨K,bZ,Z,b0,b1⟩:=a9;have b2:g7≠K:=ZO (UB aB b0);have aK:J≠K:=vk bX b1 rfl;obtain⟨e1,rfl⟩:=mixK j (aC dP<|aC dQ<|aC dR<|aC bJ<|aC bK<|aC bN<|aC bS<|aC bT<|aC dX<|aC bU<|aC bZ aN);refine On (Us (cs':=(zzC (ofZ<|(ofQ a.q).num.toZ/p) bQ bR)) k bV io40 ?_);intro e2 b3 L aa;have F:=(F.sp ai).sp L;have B:=B.sp L;have Z:=Z.spo L (UQ aK);refine On (Us (cs':=(zzC (ofZ<|(ofQ a.q).num.toZ%p) aI aJ)) b3 Z io40 ?_);intro aL b4 M E;have A:=(A.spo L bY).spo M b2;have aa:=aa.spo M aK;refine Ua<|RZ<|Tb [(11,7),(11,8),(12,8)] rfl (by kernel_rfl) (fun _ _ _ _ h=>h) mixed 11 [[],[0],[],[2],[1,3],[4],[5],[5],[5],[],[]] ((m.1.1,m.1.2),lR) (RL X w) [fx<|.pointer (some ⟨g7,2,none⟩),fx<|.agg #[(.bool (ofQ a.q).den.neg),(.slice ay (ofQ a.q).den.mag.length az)],fx<|.int .i64 p,fun(s:GhL) (v:Value) (w':World)=>RV Jo s.1.1 w' v<|ofZ p,fun(s:GhL) (v:Value) (w':World)=>∃u0 n u,v= .tuple #[u0,n,u]∧(RV Jo s.1.1 w' u0<|ofZ<|(ofQ a.q).den.toZ/p)∧(RV Jo s.1.1 w' n<|ofZ<|(ofQ a.q).den.toZ%p)∧(u=(.int .i64 0)),fun(s:GhL) (v:Value) (w':World)=>∃u0 n u,v= .tuple #[u0,n,u]∧(RV Jo s.1.1 w' u0<|ofZ<|(ofQ a.q).den.toZ/p)∧(RV Jo s.1.1 w' n<|ofZ<|(ofQ a.q).den.toZ%p)∧(u=(.int .i64 0)),fun(s:GhL) (v:Value) (w':World)=>RV Jo s.1.1 w' v<|ofZ<|(ofQ a.q).den.toZ/p,fun(s:GhL) (v:Value) (w':World)=>RV Jo s.1.1 w' v<|ofZ<|(ofQ a.q).den.toZ%p,fx<|.int .i64 0,fun(s:GhL) (v:Value) (w':World)=>∃g':Nat,v= .pointer (some ⟨g',0,none⟩)∧Own w s.1.2 w' g' [(.bool false),(.slice none 0 0)] 40∧aL.heap.size≤g'∧s.2 g'=some 9,fun(s:GhL) (v:Value) (w':World)=>∃g':Nat,v= .pointer (some ⟨g',0,none⟩)∧Own w s.1.2 w' g' [(.bool false),(.slice none 0 0)] 40∧aL.heap.size≤g'∧s.2 g'=some 10] (by kernel_rfl) (TU b4) RL.trans ⟨sx,sx,sx,(fun _ _ _ _ _ h r=>RV.tr h r.rc.sp.tx),(fun _ _ _ _ _ ⟨u0,n,u,e,U,V,Y⟩ r=>⟨u0,n,u,e,U.tr r.rc.sp.tx,V.tr r.rc.sp.tx,Y⟩),(fun _ _ _ _ _ ⟨u0,n,u,e,U,V,Y⟩ r=>⟨u0,n,u,e,U.tr r.rc.sp.tx,V.tr r.rc.sp.tx,Y⟩),(fun _ _ _ _ _ h r=>RV.tr h r.rc.sp.tx),(fun _ _ _ _ _ h r=>RV.tr h r.rc.sp.tx),sx,(fun _ _ _ _ _ ⟨g,e,o,l,q⟩ r=>⟨g,e,o.spn r.rc.sp,l,r.ext _ _ q⟩),(fun _ _ _ _ _ ⟨g,e,o,l,q⟩ r=>⟨g,e,o.spn r.rc.sp,l,r.ext _ _ q⟩),trivial⟩ fun b5 i e3 N d=>?_
 have f:=N.rc.cx;have G:=N.rc.sp;have al:=A.blk.lt;have am:=aa.blk.lt;have an:=E.blk.lt;have I:=G.tx.size;have F:=(F.sp M).sp G;have B:=(B.sp M).sp G;have A:=A.spn G;have E:=E.spn G;have d:Keep [27,28,29,30,31,26,32,33,34,8,9] _ b5:=d;refine⟨⟨fun _=>?_,fun⟨b6,_⟩=>?_,fun _=>?_,fun⟨b7,_⟩=>?_,fun⟨b8,b9,_⟩=>?_,fun⟨ca,_⟩=>?_,fun⟨cb,_⟩=>?_,fun⟨cc,_⟩=>?_,fun⟨cd,_⟩=>?_,fun _=>?_,fun _=>?_,trivial⟩,fun⟨ce,cf,cg,ch,ci,cj,ck,cl,cm,cn,co,_⟩=>?_⟩
 ·exact Sd0 d fun _=>RI Yi rfl ⟨i,RL.same f,rfl⟩
 ·exact Sd1 d b6 fun _=>RX (vs:=(zzC ((ofQ a.q).den) ay az)) A ag40 rfl rfl rfl ⟨i,RL.same f,rfl⟩
 ·exact Sd0 d fun _=>RP ⟨i,RL.same f,rfl⟩
 ·refine Sd1 d b7 fun _=>RH f cb44 rfl rfl (xv f.bd (by omega) (by omega)) ?_;intro e4 e5 cp cq cr;exact⟨i,TS ⟨cp,cq⟩,cr⟩
 ·obtain⟨e6,e7,ct,cu⟩:=RV.int b9;refine Js d (aC b8<|aC ct aN) fun _=>R8 (RH f cb58 rfl rfl (Q3 f.bd (a:=(ofQ a.q).den) (Je F) (b:=(ofZ p)) (Je cu) (by omega) (Vp (by omega) hpb (by decide))<|iw D) ?_);intro e8 e9 cw cy aM;simp only[Jl,Zq] at aM;exact⟨i,TS ⟨cw,cy⟩,aM⟩
 ·obtain⟨fa,fb,fc,cz,cB,cC,rfl⟩:=ca;obtain⟨fd,ff,rfl,cD⟩:=RV.int cB;obtain⟨fg,fh,rfl,cE⟩:=RV.int cC;exact Sd1 d cz fun _=>RP<|⟨i,RL.same f,⟨_,_,_,rfl,(Je cD),(Je cE),rfl⟩⟩
 ·obtain⟨fi,fj,fk,cF,cG,cH,rfl⟩:=cb;obtain⟨fl,fm,rfl,cI⟩:=RV.int cG;obtain⟨fn,fp,rfl,fq⟩:=RV.int cH;exact Sd1 d cF fun _=>St.extract rfl rfl ⟨i,RL.same f,(Je cI)⟩
 ·obtain⟨ft,fu,fv,cJ,cK,cL,rfl⟩:=cc;obtain⟨fw,fy,rfl,fB⟩:=RV.int cK;obtain⟨fC,fD,rfl,cM⟩:=RV.int cL;exact Sd1 d cJ fun _=>St.extract rfl rfl ⟨i,RL.same f,(Je cM)⟩
 ·obtain⟨fF,fG,fH,cN,cO,cP,rfl⟩:=cd;obtain⟨fJ,fK,rfl,fM⟩:=RV.int cO;obtain⟨fO,fP,rfl,fR⟩:=RV.int cP;exact Sd1 d cN fun _=>St.extract rfl rfl ⟨i,RL.same f,rfl⟩
 ·refine Sd0 d fun _=>RR f io40 rfl ?_;intro aO fS cQ cR ao cS cT aP;exact⟨((cQ,cR),lab i.2 aO 9),RL.new (N.bd fun _ _ h=>by cases h) ⟨cS,cT⟩ (ZB fun hh=>ao _ hh rfl) aP.blk.lt,aO,rfl,aP,ZB fun hh=>ao _ (UB hh I) rfl,Kt _ _ _⟩
 ·refine Sd0 d fun _=>RR f io40 rfl ?_;intro aQ fT cU cV aq cW cX aR;exact⟨((cU,cV),lab i.2 aQ 10),RL.new (N.bd fun _ _ h=>by cases h) ⟨cW,cX⟩ (ZB fun hh=>aq _ hh rfl) aR.blk.lt,aQ,rfl,aR,ZB fun hh=>aq _ (UB hh I) rfl,Kt _ _ _⟩
 obtain⟨fU,fV,cY,fW⟩:=RV.int ch;obtain⟨fX,fY,f0,cZ,c0,c1,rfl⟩:=ci;obtain⟨f1,f2,rfl,f3⟩:=RV.int c0;obtain⟨f4,f5,rfl,f6⟩:=RV.int c1;obtain⟨f7,f8,f9,c3,c6,c7,rfl⟩:=cj;obtain⟨ga,gb,rfl,gc⟩:=RV.int c6;obtain⟨gd,ge,rfl,gf⟩:=RV.int c7;obtain⟨c8,c9,da,gg⟩:=RV.int ck;obtain⟨aS,aT,db,H⟩:=RV.int cl;obtain⟨P,dc,dd,ab,de⟩:=cn;have gh:g7≠P:=ZO (UB al ab);have gi:J≠P:=ZO (UB am ab);have df:K≠P:=ZO (UB an ab);obtain⟨Q,dg,ac,ad,dh⟩:=co;have gj:g7≠Q:=ZO (UB al ad);have gk:J≠Q:=ZO (UB am ad);have di:K≠Q:=ZO (UB an ad);have dj:P≠Q:=vk de dh rfl;obtain⟨gl,rfl⟩:=mixK d (aC ce<|aC cf<|aC cg<|aC cY<|aC cZ<|aC c3<|aC da<|aC db<|aC cm<|aC dc<|aC dg aN);refine On (Us (cs':=(zzC (ofZ<|(ofQ a.q).den.toZ/p) c8 c9)) f dd io40 ?_);intro gm dk R gn;have H:=H.sp R;have ac:=ac.spo R (UQ dj);refine On (Us (cs':=(zzC (ofZ<|(ofQ a.q).den.toZ%p) aS aT)) dk ac io40 ?_);intro gp aU ae af;have B:=(B.sp R).sp ae;have E:=(E.spo R df).spo ae di;refine Oa (Nl<|Rg<|Ol<|Uo (vs:=(zzC (ofZ<|(ofQ a.q).num.toZ%p) aI aJ)) E ag40<|Ol<|RH aU cb60 rfl rfl (vE aU.bd (a:=(ofZ<|(ofQ a.q).num.toZ%p)) (Je B) (Vp au.1 (by omega) (by decide)) (by rw[←Int.ofNat_lt,yr au.1];show _<(2147483648:Int);omega)<|pJ au.1) ?_);intro gq gr aV aW dm;have H:=(H.sp ae).sp aW;have af:=af.spn aW;obtain⟨gs,gt,rfl,rfl,rfl⟩:=dm;refine Om (Ol<|St.extract rfl rfl<|Ol<|St.extract rfl rfl<|Oa<|Ua<|Rg<|Ol<|Uo (vs:=(zzC (ofZ<|(ofQ a.q).den.toZ%p) aS aT)) af ag40<|Ol<|RH aV cb60 rfl rfl (vE aV.bd (a:=(ofZ<|(ofQ a.q).den.toZ%p)) (Je H) (Vp av.1 (by omega) (by decide)) (by rw[←Int.ofNat_lt,yr av.1];show _<(2147483648:Int);omega)<|pJ av.1) ?_);intro gu gv aX gw dn;obtain⟨gx,gy,rfl,rfl,rfl⟩:=dn;refine Om (Ol<|St.extract rfl rfl<|Ol<|St.extract rfl rfl<|Oa<|Ua<|Rg<|Om<|Ub<|RH aX cb61 rfl rfl (ta aX.bd (by omega) (by omega) hpb (by rw[aY];exact kD hp<|FG hi)) ?_);intro gz gA dp gB dq;obtain⟨gC,gD,rfl,rfl,rfl⟩:=dq;refine Om (Ol<|St.extract rfl rfl<|Ol<|St.extract rfl rfl<|Ua<|RZ ?_);have j1:=Iq (x:=((val (ofZ<|(ofQ a.q).num.toZ%p).mag:Nat):Int)) (by omega) (by omega) dy.1 (by omega);exact RK<|Om<|Ub<|SO (z:=(((val (ofZ<|(ofQ a.q).num.toZ%p).mag:Nat):Int)*(invM ((val (ofZ<|(ofQ a.q).den.toZ%p).mag:Nat):Int) p))) rfl rfl (UP _ (by omega))<|Ub<|Sz rfl rfl (by omega) (IntWalk.rem_in _ _ (by omega))<|Ua<|RY<|Wq rfl rfl dp<|congrArg (Value.int _)<|(by rw[dx,aY];rfl)
end Go.Wf
namespace Go.Ev
open Go Go.Wf Go.RowKit
theorem zz(m j:Nat):tb m j=m.testBit j:=by
 show Nat.beq (Nat.land (Nat.shiftRight m j) 1) 1=_;rw[yc]
 have:Nat.land (Nat.shiftRight m j) 1=(m >>> j)%2:=YJ _ 1
 rw[this,ZY,ZT]
theorem yj(a b j:Nat):tb (Nat.lor a b) j=(tb a j||tb b j):=by
 rw[zz,zz,zz];exact Nat.testBit_or a b j
theorem lJ(e j:Nat):tb (Nat.pow 2 e) j=decide (e=j):=by rw[zz];exact Nat.testBit_two_pow
theorem mD(j:Nat):tb 0 j=false:=by rw[zz];exact Nat.zero_testBit j
theorem mI{α:Type}(l:List α)(x:α):snoc l x=l++[x]:=by
 induction l with
 |nil=>rfl
 |cons a l ih=>exact congrArg (a:: ·) ih
theorem Ls{acc:List Nat}{j:Nat}:∀(es:List Edge) (s:Nat),tb (edgM acc es s) j=true→tb s j=true∨∃e∈es,Region.binds .any e=true∧(e.on=j∨tb (acc[e.on]?.getD 0) j=true):=by
 intro es
 induction es with
 |nil=>intro s h;exact .inl h
 |cons e es ih=>
  intro s h;have a:edgM acc (e::es) s=Bool.rec (edgM acc es s) (fz (Nat.lor (Nat.lor (edgM acc es s) (Nat.pow 2 e.on)) ((nth acc e.on).getD 0)) fun x=>x) (Region.binds .any e):=rfl;rw[a] at h;have rest:tb (edgM acc es s) j=true→tb s j=true∨∃e'∈e::es,Region.binds .any e'=true∧(e'.on=j∨tb (acc[e'.on]?.getD 0) j=true):=by
   intro h;rcases ih s h with h|⟨e',he,hb,hj⟩
   ·exact .inl h
   ·exact .inr ⟨e',XG _ he,hb,hj⟩
  cases hb:Region.binds .any e with
  |false=>rw[hb] at h;exact rest h
  |true=>
   rw[hb] at h;simp only[Yx,yj,lJ,jy,VP,decide_eq_true_eq] at h;rcases h with (h|h)|h
   ·exact rest h
   ·exact .inr ⟨e,XH,hb,.inl h⟩
   ·exact .inr ⟨e,XH,hb,.inr h⟩
theorem Co:∀(l:List Oper) (acc:List Nat),∃r,ancM l acc=acc++r∧r.length=l.length∧∀(k:Nat) (o:Oper),l[k]? =some o→r[k]? =some (edgM (acc++r.take k) o.after.toList 0):=by
 intro l
 induction l with
 |nil=>intro acc;exact⟨[],by simp[ancM],rfl,fun k o h=>by simp at h⟩
 |cons o l ih=>
  intro acc;have a:ancM (o::l) acc=fz (edgM acc o.after.toList 0) fun m=>ancM l (snoc acc m):=rfl;rw[a,Yx,mI];obtain⟨r,b,d,e⟩:=ih (acc++[edgM acc o.after.toList 0]);refine⟨edgM acc o.after.toList 0::r,by rw[b];simp,by simp[d],?_⟩;intro k o' hk;cases k with
  |zero=>simp at hk;subst hk;simp
  |succ k=>
   have:=e k o' (by simpa using hk)
   simpa using this
section
variable {ops:Array Oper}
def msk(ops:Array Oper)(k:Nat):Nat:=((ancM ops.toList [])[k]?).getD 0
theorem zl:(ancM ops.toList []).length=ops.size:=by
 obtain⟨r,a,b,_⟩:=Co ops.toList [];rw[a];simp[b]
theorem lL{k:Nat}(hk:k<ops.size):(ancM ops.toList [])[k]? =some (msk ops k):=by
 unfold msk;rw[UL (by rw[zl];exact hk)];rfl
theorem II{k j:Nat}{o:Oper}(ho:ops[k]? =some o)(h:tb (msk ops k) j=true):∃e∈o.after,Region.binds .any e=true∧(e.on=j∨(e.on<k∧tb (msk ops e.on) j=true)):=by
 obtain⟨r,a,d,b⟩:=Co ops.toList [];have hk:=b k o (by simpa using ho);simp only[UZ] at a hk;unfold msk at h;rw[a,hk] at h;simp only[Jaf] at h;rcases Ls _ _ h with h|⟨e,he,hb,hj⟩
 ·rw[mD] at h;cases h
 ·refine⟨e,by simpa using he,hb,?_⟩;rcases hj with hj|hj
  ·exact .inl hj
  ·rw[W1] at hj;split at hj
   ·rename_i hlt;refine .inr ⟨hlt,?_⟩;unfold msk;rw[a];exact hj
   ·simp only[Option.getD_none] at hj;rw[mD] at hj;cases hj
theorem vZ{L:Array Bool}(hs:L.size=ops.size)(hc:Yf ops L):∀(k:Nat) (o:Oper) (j:Nat),ops[k]? =some o→(∀e∈o.after,Region.binds .any e=true→L.getD e.on false=true)→tb (msk ops k) j=true→L.getD j false=true:=by
 intro k
 induction k using Nat.strongRecOn with
 |_ k ih=>
  intro o j ho hp h;obtain⟨e,he,hb,hj⟩:=II ho h;have hl:=hp e he hb;rcases hj with rfl|⟨hlt,hj⟩
  ·exact hl
  ·have hsz:e.on<ops.size:=by
    have:=(VE.1 ho).1;omega
   have hso:ops[e.on]? =some ops[e.on]:=by simp[hsz]
   refine ih e.on hlt ops[e.on] j hso ?_ hj;intro e' he' hb';refine hc e.on hsz ?_ _ hso e' he' hb'
   have:L[e.on]? =some L[e.on]:=by simp[hs,hsz]
   simp[UK,this] at hl ⊢;exact hl
theorem oV:∀(k:Nat) (o:Oper) (j:Nat),ops[k]? =some o→(∀(k:Nat) (o:Oper),ops[k]? =some o→∀e∈o.after,Region.binds .any e=true→e.on<k)→tb (msk ops k) j=true→j<k:=by
 intro k
 induction k using Nat.strongRecOn with
 |_ k ih=>
  intro o j ho hb h;obtain⟨e,he,hbe,hj⟩:=II ho h;have hlt:=hb k o ho e he hbe;rcases hj with rfl|⟨_,hj⟩
  ·exact hlt
  ·have hsz:e.on<ops.size:=by
    have:=(VE.1 ho).1;omega
   have:=ih e.on hlt ops[e.on] j (by simp[hsz]) hb hj
   omega
theorem rD{α:Type}{p:α→Bool}{l:List α}(h:allB p l=true):∀x∈l,p x=true:=by
 induction l with
 |nil=>intro x hx;cases hx
 |cons a l ih=>
  have h:(Bool.rec false (allB p l) (p a):Bool)=true:=h;cases hp:p a with
  |false=>rw[hp] at h;cases h
  |true=>
   rw[hp] at h;intro x hx;cases hx with
   |head=>exact hp
   |tail _ hx=>exact ih h x hx
theorem Mj:∀(l:List Oper) (i k:Nat) (o:Oper) (d:Tmp),l[k]? =some o→o.dst=some d→(d,i+k)∈dsts l i:=by
 intro l
 induction l with
 |nil=>intro i k o d h;simp at h
 |cons x l ih=>
  intro i k o d h hd;have a:dsts (x::l) i=Option.rec (dsts l (Nat.succ i)) (fun d=>(d,i)::dsts l (Nat.succ i)) x.dst:=rfl;rw[a];cases k with
  |zero=>
   simp at h;subst h;rw[hd];exact XH
  |succ k=>
   have:=ih (i+1) k o d (by simpa using h) hd
   rw[show i+(k+1)=i+1+k by omega];cases hx:x.dst with
   |none=>exact this
   |some d'=>exact XG _ this
theorem H8{n:Nat}:∀(l:List (Nat×Nat)) (s:Nat),nodB n l s=true→(∀p∈l,p.1<n∧tb s p.1=false)∧l.Pairwise fun p q=>p.1≠q.1:=by
 intro l
 induction l with
 |nil=>intro s _;exact⟨(fun p hp=>by cases hp),List.Pairwise.nil⟩
 |cons p l ih=>
  intro s h;have h:(Bool.rec false (Bool.rec (nodB n l (Nat.lor s (Nat.pow 2 p.1))) false (tb s p.1)) (Nat.blt p.1 n):Bool)=true:=h;cases a:Nat.blt p.1 n with
  |false=>rw[a] at h;cases h
  |true=>
   rw[a] at h;cases b:tb s p.1 with
   |true=>rw[b] at h;cases h
   |false=>
    rw[b] at h;obtain⟨k1,f⟩:=ih _ h;refine⟨?_,List.Pairwise.cons ?_ f⟩
    ·intro q hq;cases hq with
     |head=>exact⟨Zx a,b⟩
     |tail _ hq=>
      obtain⟨g,d⟩:=k1 q hq;rw[yj] at d;exact⟨g,(VO.1 d).1⟩
    ·intro q hq e
     have:=(k1 q hq).2
     rw[yj,lJ] at this
     have:=(VO.1 this).2
     exact of_decide_eq_false this e
theorem EX{l:List (Nat×Nat)}(h:l.Pairwise fun p q=>p.1≠q.1){d j k:Nat}(hj:(d,j)∈l)(hk:(d,k)∈l):j=k:=by
 induction l with
 |nil=>cases hj
 |cons p l ih=>
  cases h with
  |cons a b=>
   cases hj with
   |head=>cases hk with
    |head=>rfl
    |tail _ hk=>exact absurd rfl (a (d,k) hk)
   |tail _ hj=>cases hk with
    |head=>exact absurd rfl (a (d,j) hj)
    |tail _ hk=>exact ih b hj hk
def isMv(P:Program)(ops:Array Oper)(k:Nat):Bool:=((ops[k]?).map fun o=>Yw (kdOf P o.op)).getD false
theorem KB(P:Program):∀(l:List Oper) (i k:Nat),tb (movM P l i) k=(decide (i≤k)&&((l[k-i]?).map fun o=>Yw (kdOf P o.op)).getD false):=by
 intro l
 induction l with
 |nil=>intro i k;show tb 0 k=_;rw[mD];simp
 |cons o l ih=>
  intro i k;have d:movM P (o::l) i=Bool.rec (movM P l (Nat.succ i)) (Nat.lor (Nat.pow 2 i) (movM P l (Nat.succ i))) (Yw (kdOf P o.op)):=rfl;rw[d];have ih:=ih (Nat.succ i) k;rcases Nat.lt_trichotomy k i with h|h|h
  ·have b:decide (i≤k)=false:=decide_eq_false (by omega);have a:decide (Nat.succ i≤k)=false:=decide_eq_false (by omega);rw[a,Bool.false_and] at ih;rw[b,Bool.false_and];cases Yw (kdOf P o.op) with
   |false=>exact ih
   |true=>show tb (Nat.lor (Nat.pow 2 i) _) k=_;rw[yj,lJ,ih,decide_eq_false (by omega)];rfl
  ·subst h;have a:decide (Nat.succ k≤k)=false:=decide_eq_false (by omega);rw[a,Bool.false_and] at ih;rw[ZV];simp only[WW,Jai,Jaf,UM,decide_true,VQ];cases Yw (kdOf P o.op) with
   |false=>exact ih
   |true=>show tb (Nat.lor (Nat.pow 2 k) _) k=_;rw[yj,lJ,ih];simp
  ·have b:decide (i≤k)=true:=decide_eq_true (by omega);have a:decide (Nat.succ i≤k)=true:=decide_eq_true (by omega);have e:k-i=(k-Nat.succ i)+1:=by omega
   rw[a,VQ] at ih;rw[b,VQ,e];simp only[WV];cases Yw (kdOf P o.op) with
   |false=>exact ih
   |true=>show tb (Nat.lor (Nat.pow 2 i) _) k=_;rw[yj,lJ,ih,decide_eq_false (by omega)];rfl
theorem mvM(P:Program)(k:Nat):tb (movM P ops.toList 0) k=isMv P ops k:=by
 rw[KB];simp[isMv]
theorem Ax{a m k:Nat}(h:Nat.beq (Nat.land (Nat.land m (Nat.sub (Nat.pow 2 k) 1)) a) (Nat.land m (Nat.sub (Nat.pow 2 k) 1))=true){j:Nat}(hj:j<k)(hm:tb m j=true):tb a j=true:=by
 have e:=YT h;have b:(Nat.land (Nat.land m (Nat.sub (Nat.pow 2 k) 1)) a).testBit j=(Nat.land m (Nat.sub (Nat.pow 2 k) 1)).testBit j:=by rw[e]
 have d:(Nat.land m (Nat.sub (Nat.pow 2 k) 1)).testBit j=(m.testBit j&&(2^k-1).testBit j):=ZX _ _ _;have f:(Nat.land (Nat.land m (Nat.sub (Nat.pow 2 k) 1)) a).testBit j=((Nat.land m (Nat.sub (Nat.pow 2 k) 1)).testBit j&&a.testBit j):=ZX _ _ _;rw[f,d,Nat.testBit_two_pow_sub_one] at b;rw[zz] at hm ⊢;rw[hm] at b;simpa[hj] using b
theorem AL{mv:Nat}:∀(l:List Nat) (i:Nat),lE mv l i=true→∀k a,l[k]? =some a→tb mv (i+k)=true→∀j,j<i+k→tb mv j=true→tb a j=true:=by
 intro l
 induction l with
 |nil=>intro i _ k a h;simp at h
 |cons b l ih=>
  intro i h k a hk hm j hj hmj;have h:(Bool.rec (lE mv l (Nat.succ i)) (Bool.rec false (lE mv l (Nat.succ i)) (Nat.beq (Nat.land (Nat.land mv (Nat.sub (Nat.pow 2 i) 1)) b) (Nat.land mv (Nat.sub (Nat.pow 2 i) 1)))) (tb mv i):Bool)=true:=h;cases k with
  |zero=>
   simp at hk;subst hk;rw[YH] at hm hj;rw[hm] at h;cases hb:Nat.beq (Nat.land (Nat.land mv (Nat.sub (Nat.pow 2 i) 1)) b) (Nat.land mv (Nat.sub (Nat.pow 2 i) 1)) with
   |false=>rw[hb] at h;cases h
   |true=>exact Ax hb hj hmj
  |succ k=>
   have d:lE mv l (Nat.succ i)=true:=by
    revert h;cases tb mv i<;>intro h
    ·exact h
    ·revert h;cases Nat.beq (Nat.land (Nat.land mv (Nat.sub (Nat.pow 2 i) 1)) b) (Nat.land mv (Nat.sub (Nat.pow 2 i) 1))<;>intro h
     ·cases h
     ·exact h
   exact ih (i+1) d k a (by simpa using hk) (by rw[show i+1+k=i+(k+1) by omega];exact hm) j (by omega) hmj
structure Lk (P:Program) (n:Nat) (ops:Array Oper):Prop where
 back:∀(k:Nat) (o:Oper),ops[k]? =some o→∀e∈o.after,Region.binds .any e=true→e.on<k
 read:∀(k:Nat) (o:Oper) t (j:Nat) (o':Oper),ops[k]? =some o→t∈xg o.op.operands.toList→ops[j]? =some o'→o'.dst=some t→tb (msk ops k) j=true∨tb (msk ops j) k=true
 gd:∀(k:Nat) (o:Oper) p,ops[k]? =some o→o.guard=some p→tb (msk ops k) p.1=true
 lt:∀(k:Nat) (o:Oper) d,ops[k]? =some o→o.dst=some d→d<n
 uniq:∀(j k:Nat) (o o':Oper) d,ops[j]? =some o→ops[k]? =some o'→o.dst=some d→o'.dst=some d→j=k
 chain:∀j k,j<k→isMv P ops j=true→isMv P ops k=true→tb (msk ops k) j=true
theorem Dp{all:List Nat}{ds:List (Nat×Nat)}:∀(l:List Oper) (ms:List Nat) (i:Nat),FQ ops all ds l ms i=true→∀(k:Nat) (o:Oper),l[k]? =some o→∃a,ms[k]? =some a∧
  allB (pX all ds a (i+k)) (xg o.op.operands.toList)=true∧gdOk ops a o.guard=true∧allB (fun e=>Bool.rec true (Nat.blt e.on (i+k)) (Region.binds .any e)) o.after.toList=true:=by
 intro l
 induction l with
 |nil=>intro ms i _ k o h;simp at h
 |cons x l ih=>
  intro ms i h k o hk;cases ms with
  |nil=>cases h
  |cons a ms=>
   have h:(Bool.rec false (FQ ops all ds l ms (Nat.succ i)) (allB (pX all ds a i) (xg x.op.operands.toList)&&gdOk ops a x.guard&&allB (fun e=>Bool.rec true (Nat.blt e.on i) (Region.binds .any e)) x.after.toList):Bool)=true:=h;cases hb:(allB (pX all ds a i) (xg x.op.operands.toList)&&gdOk ops a x.guard&&allB (fun e=>Bool.rec true (Nat.blt e.on i) (Region.binds .any e)) x.after.toList) with
   |false=>rw[hb] at h;cases h
   |true=>
    rw[hb] at h;obtain⟨hb,f⟩:=Za hb;obtain⟨g,j⟩:=Za hb;cases k with
    |zero=>simp at hk;subst hk;exact⟨a,rfl,g,j,f⟩
    |succ k=>
     obtain⟨a',m,b,n,d⟩:=ih ms (i+1) h k o (by simpa using hk);rw[show i+1+k=i+(k+1) by omega] at b d;exact⟨a',by simpa using m,b,n,d⟩
theorem EQ{P:Program}{n:Nat}(h:yD P n ops (ancM ops.toList [])=true):Lk P n ops:=by
 unfold yD at h;obtain⟨h,b⟩:=Za h;obtain⟨f,i⟩:=Za h;have hp:=Dp _ _ _ f;obtain⟨l,m⟩:=H8 _ _ i;have hd:∀(k:Nat) (o:Oper) d,ops[k]? =some o→o.dst=some d→(d,k)∈dsts ops.toList 0:=fun k o d hk hd=>by
  have:=Mj ops.toList 0 k o d (by simpa using hk) hd
  rw[Jab] at this;exact this
 refine⟨?_,?_,?_,?_,?_,?_⟩
 ·intro k o hk e he hb;obtain⟨a,_,_,_,g⟩:=hp k o (by simpa using hk)
  have:=rD g e (by simpa using he)
  rw[hb,Jab] at this;exact Zx this
 ·intro k o t j o' hk ht hj hjd;obtain⟨a,ha,g,_,_⟩:=hp k o (by simpa using hk);have hks:=(VE.1 hk).1;rw[lL hks] at ha;cases ha
  have:=rD (rD g t ht) _ (hd j o' t hj hjd)
  simp only[Jab] at this;rw[show Nat.beq t t=true from YK t] at this;have this:(Bool.rec (tb ((nth (ancM ops.toList []) j).getD 0) k) true (tb (msk ops k) j):Bool)=true:=this;cases hb:tb (msk ops k) j with
  |true=>exact .inl rfl
  |false=>
   rw[hb,jy] at this;exact .inr this
 ·intro k o p hk hg;obtain⟨a,ha,_,g,_⟩:=hp k o (by simpa using hk);have hks:=(VE.1 hk).1;rw[lL hks] at ha;cases ha;rw[hg] at g;exact g
 ·intro k o d hk hkd
  exact(l _ (hd k o d hk hkd)).1
 ·intro j k o o' d hj hk hjd hkd;exact EX m (hd j o d hj hjd) (hd k o' d hk hkd)
 ·intro j k hjk hj hk;have hks:k<ops.size:=by
   unfold isMv at hk;cases ho:ops[k]? with
   |none=>rw[ho] at hk;cases hk
   |some o=>exact(VE.1 ho).1
  rw[←mvM] at hj hk;exact AL _ _ b k _ (lL hks) (by rw[Jab];exact hk) j (by omega) hj
end
def setd(d:Option Tmp)(v:AV)(f:Fr):Fr:=match d with
 |none=>f
 |some t=>setF t v f
section
variable (P:Program) (call:CallF) (n:Nat) (ops:Array Oper)
def One(i a:Nat)(o:Oper)(s:DS)(v:AV)(s1:DS):Prop:=∃h',match kdOf P o.op with
 |.pure=>evOp P call o.op s.f s.h= .ok v h'∧s1=s
 |.read=>evOp P call o.op s.f ⟨Yb s.qt a s.fl s.h.t,s.h.n⟩= .ok v h'∧s1=⟨s.f,s.h,s.fl,s.qt,s.hs,(i,s.f,v)::s.rs⟩
 |.quiet=>evOp P call o.op s.f s.h= .ok v h'∧s1=⟨s.f,⟨s.h.t,h'.n⟩,s.fl,(i,s.h.n,get5 s.h.n h'.t)::s.qt,s.hs,s.rs⟩
 |.move=>evOp P call o.op s.f ⟨Yb s.qt a s.fl s.h.t,s.h.n⟩= .ok v h'∧s1=⟨s.f,h',Nat.lor s.fl a,s.qt,s.hs++[(h',Nat.lor s.fl a)],s.rs⟩
def Stp(i a:Nat)(o:Oper)(s s':DS):Prop:=lo n o.dst∧
 ((yo ops o.guard s.f=some true∧∃v s1,One P call i a o s v s1∧s'=⟨setd o.dst v s.f,s1.h,s1.fl,s1.qt,s1.hs,s1.rs⟩)∨
  (yo ops o.guard s.f=some false∧s'=⟨setd o.dst (.tp []) s.f,s.h,s.fl,s.qt,if Yw (kdOf P o.op) then s.hs++[(s.h,s.fl)] else s.hs,s.rs⟩))
end
section
variable {P:Program} {call:CallF} {n:Nat} {ops:Array Oper}
theorem CG{d:Option Tmp}{v:AV}{f:Fr}{k:Fr→Out}(e:okO (setO n d v f k)):setO n d v f k=k (setd d v f)∧lo n d:=by
 obtain⟨f',a,b,g⟩:=uo e;refine⟨?_,b⟩;rw[a];rcases g with ⟨rfl,rfl⟩|⟨t,rfl,_,rfl⟩<;>rfl
theorem DL{i a:Nat}{o:Oper}{s:DS}{k:AV→DS→Out}(e:okO (rA P call i a o s k)):∃v g,One P call i a o s v g∧rA P call i a o s k=k v g:=by
 rw[xX] at e ⊢;unfold rK at e ⊢;unfold One;cases hk:kdOf P o.op with
 |pure=>
  rw[hk] at e;simp only at e ⊢;obtain⟨v,h',b,d⟩:=vW e;exact⟨v,s,⟨h',b,rfl⟩,d⟩
 |read=>
  rw[hk] at e;simp only at e ⊢;obtain⟨v,h',b,d⟩:=vW e;exact⟨v,_,⟨h',b,rfl⟩,d⟩
 |quiet=>
  rw[hk] at e;simp only at e ⊢;obtain⟨v,h',b,d⟩:=vW e;exact⟨v,_,⟨h',b,rfl⟩,d⟩
 |move=>
  rw[hk] at e;simp only at e ⊢;obtain⟨v,h',b,d⟩:=vW e;refine⟨v,_,⟨h',b,rfl⟩,?_⟩;rw[d,Yx,mI]
theorem GH:∀(l:List Oper) (i:Nat) (ms:List Nat) (s:DS) (k:DS→Out),okO (lg P call n ops l i ms s k)→
  ∃S:Nat→DS,S i=s∧lg P call n ops l i ms s k=k (S (i+l.length))∧∀(j:Nat) (o:Oper),l[j]? =some o→∃a,ms[j]? =some a∧Stp P call n ops (i+j) a o (S (i+j)) (S (i+j+1)):=by
 intro l
 induction l with
 |nil=>intro i ms s k _;exact⟨fun _=>s,rfl,rfl,fun j o h=>by simp at h⟩
 |cons o l ih=>
  intro i ms s k e;cases ms with
  |nil=>exact e.elim
  |cons a ms=>
   have u:lg P call n ops (o::l) i (a::ms) s k=jM ops o.guard s.f
     (rA P call i a o s fun v s'=>setO n o.dst v s'.f fun f'=>lg P call n ops l (Nat.succ i) ms ⟨f',s'.h,s'.fl,s'.qt,s'.hs,s'.rs⟩ k)
     (setO n o.dst (.tp []) s.f fun f'=>lg P call n ops l (Nat.succ i) ms ⟨f',s.h,s.fl,s.qt,Bool.rec s.hs (snoc s.hs (s.h,s.fl)) (Yw (kdOf P o.op)),s.rs⟩ k) (.no 42):=rfl
   rw[u,yu] at e;rw[u,yu];have fin:∀s',Stp P call n ops i a o s s'→okO (lg P call n ops l (Nat.succ i) ms s' k)→∃S:Nat→DS,S i=s∧lg P call n ops l (Nat.succ i) ms s' k=k (S (i+(o::l).length))∧
     ∀(j:Nat) (o':Oper),(o::l)[j]? =some o'→∃a',(a::ms)[j]? =some a'∧Stp P call n ops (i+j) a' o' (S (i+j)) (S (i+j+1)):=by
    intro s' hs' he;obtain⟨S,d,p,g⟩:=ih (Nat.succ i) ms s' k he;refine⟨fun m=>if m=i then s else S m,if_pos rfl,?_,?_⟩
    ·rw[p]
     have:¬(i+(o::l).length=i):=by simp
     show k (S (Nat.succ i+l.length))=k (if i+(o::l).length=i then s else S (i+(o::l).length));rw[if_neg this]
     congr 2
     simp only[Uw];omega
    ·intro j o' hj;cases j with
     |zero=>
      simp at hj;subst hj;refine⟨a,rfl,?_⟩;show Stp P call n ops (i+0) a o (if i+0=i then s else S (i+0)) (if i+0+1=i then s else S (i+0+1));rw[YH,if_pos rfl,if_neg (by omega),show i+1=Nat.succ i from rfl,d];exact hs'
     |succ j=>
      obtain⟨a',y,z⟩:=g j o' (by simpa using hj);refine⟨a',by simpa using y,?_⟩;show Stp P call n ops (i+(j+1)) a' o' (if i+(j+1)=i then s else S (i+(j+1))) (if i+(j+1)+1=i then s else S (i+(j+1)+1));rw[if_neg (by omega),if_neg (by omega),show i+(j+1)=Nat.succ i+j by omega];exact z
   cases hw:yo ops o.guard s.f with
   |none=>rw[hw] at e;exact e.elim
   |some b=>
    rw[hw] at e;cases b with
    |true=>
     simp only at e ⊢;obtain⟨v,w,d,p⟩:=DL e;rw[p] at e ⊢;have x:w.f=s.f:=by
      obtain⟨h',d⟩:=d;cases hk:kdOf P o.op<;>rw[hk] at d<;>simp only at d<;>rw[d.2]
     obtain⟨g,r⟩:=CG e;rw[g] at e ⊢;rw[x] at e ⊢;exact fin _ ⟨r,.inl ⟨hw,v,w,d,rfl⟩⟩ e
    |false=>
     simp only at e ⊢;obtain⟨g,r⟩:=CG e;rw[g] at e ⊢;have hh:(Bool.rec s.hs (snoc s.hs (s.h,s.fl)) (Yw (kdOf P o.op)):List (Hp×Nat))=if Yw (kdOf P o.op) then s.hs++[(s.h,s.fl)] else s.hs:=by
      rw[Xx,mI]
     rw[hh] at e ⊢;exact fin _ ⟨r,.inr ⟨hw,rfl⟩⟩ e
structure Run (P:Program) (call:CallF) (n:Nat) (ops:Array Oper) (f:Fr) (h:Hp) (S:Nat→DS):Prop where
 s0:S 0=⟨f,h,0,[],[(h,0)],[]⟩
 st:∀(k:Nat) (o:Oper),ops[k]? =some o→Stp P call n ops k (msk ops k) o (S k) (S (k+1))
 cs:CallS P call
 n256:n≤4096
 lim:h.n≤big5
def mcn(P:Program)(ops:Array Oper)(i:Nat):Nat:=(List.range i).countP (isMv P ops)
theorem yY(i:Nat):mcn P ops (i+1)=mcn P ops i+if isMv P ops i then 1 else 0:=by
 unfold mcn;rw[XS,WF,WL]
theorem Vu{k:Nat}{o:Oper}(ho:ops[k]? =some o):isMv P ops k=Yw (kdOf P o.op):=by unfold isMv;rw[ho];rfl
theorem yn{id:Nat}{a fl:Nat}{t:T5 (Option Blk)}(hid:id<big5):∀(qt:QT),(∀e∈qt,e.2.1<big5)→
  (get5 id (Yb qt a fl t)=get5 id t∧∀e∈qt,e.2.1=id→tb a e.1=true→tb fl e.1=false→False)∨∃e∈qt,e.2.1=id∧tb a e.1=true∧tb fl e.1=false∧get5 id (Yb qt a fl t)=e.2.2:=by
 intro qt
 induction qt with
 |nil=>intro _;exact .inl ⟨rfl,fun e he=>by cases he⟩
 |cons p qt ih=>
  intro hq;have b:Yb (p::qt) a fl t=Bool.rec (Yb qt a fl t) (Bool.rec (set5 p.2.1 p.2.2 (Yb qt a fl t)) (Yb qt a fl t) (tb fl p.1)) (tb a p.1):=rfl;have ih:=ih fun e he=>hq e (XG _ he);have rest:(tb a p.1=true→tb fl p.1=false→p.2.1≠id)→Yb (p::qt) a fl t=Yb qt a fl t∨get5 id (Yb (p::qt) a fl t)=get5 id (Yb qt a fl t)→(get5 id (Yb (p::qt) a fl t)=get5 id t∧∀e∈p::qt,e.2.1=id→tb a e.1=true→tb fl e.1=false→False)∨∃e∈p::qt,e.2.1=id∧tb a e.1=true∧tb fl e.1=false∧get5 id (Yb (p::qt) a fl t)=e.2.2:=by
   intro hne he;have he:get5 id (Yb (p::qt) a fl t)=get5 id (Yb qt a fl t):=he.elim (fun h=>by rw[h]) fun h=>h
   rw[he];rcases ih with ⟨d,g⟩|⟨e,d,g⟩
   ·refine .inl ⟨d,fun e hm=>?_⟩
    cases hm with
    |head=>intro x y z;exact hne y z x
    |tail _ hm=>exact g e hm
   ·exact .inr ⟨e,XG _ d,g⟩
  cases ha:tb a p.1 with
  |false=>exact rest (fun h=>by rw[ha] at h;cases h) (.inl (by rw[b,ha]))
  |true=>
   cases hf:tb fl p.1 with
   |true=>exact rest (fun _ h=>by rw[hf] at h;cases h) (.inl (by rw[b,ha,hf]))
   |false=>
    have i:Yb (p::qt) a fl t=set5 p.2.1 p.2.2 (Yb qt a fl t):=by rw[b,ha,hf]
    by_cases hx:p.2.1=id
    ·refine .inr ⟨p,XH,hx,ha,hf,?_⟩;rw[i,J8 _ _ _ _ hid (hq p XH),if_pos hx.symm]
    ·refine rest (fun _ _=>hx) (.inr ?_);rw[i,J8 _ _ _ _ hid (hq p XH),if_neg (fun h=>hx h.symm)]
section
variable {f:Fr} {h:Hp} {S:Nat→DS} (R:Run P call n ops f h S)
include R
theorem Run.grow{k:Nat}{o:Oper}(ho:ops[k]? =some o)(hl:(S k).h.n≤big5):(S k).h.n≤(S (k+1)).h.n∧(S (k+1)).h.n≤big5:=by
 obtain⟨_,⟨_,v,e,⟨h',a⟩,d⟩|⟨_,d⟩⟩:=R.st k o ho
 ·rw[d];cases hk:kdOf P o.op with
  |pure=>rw[hk] at a;simp only at a;rw[a.2];exact⟨UM _,hl⟩
  |read=>rw[hk] at a;simp only at a;rw[a.2];exact⟨UM _,hl⟩
  |quiet=>
   rw[hk] at a;simp only at a;obtain⟨b,hb,hh,_⟩:=Xw hk a.1;rw[a.2,hh];exact⟨Nat.le_succ _,hb⟩
  |move=>
   rw[hk] at a;simp only at a;have g:=(lO R.cs a.1).1 hl;rw[a.2];exact⟨g.le,g.lim hl⟩
 ·rw[d];exact⟨UM _,hl⟩
theorem Run.lims:∀i,i≤ops.size→(S i).h.n≤big5∧h.n≤(S i).h.n:=by
 intro i
 induction i with
 |zero=>intro _;rw[R.s0];exact⟨R.lim,UM _⟩
 |succ i ih=>
  intro hi;obtain⟨a,b⟩:=ih (by omega);have ho:ops[i]? =some ops[i]:=by simp[show i<ops.size by omega]
  obtain⟨d,e⟩:=R.grow ho a;exact⟨e,UC b d⟩
theorem Run.mono:∀i j,i≤j→j≤ops.size→(S i).h.n≤(S j).h.n:=by
 intro i j hij
 induction hij with
 |refl=>intro _;exact UM _
 |step hij ih=>
  rename_i j;intro hj;have hj:j+1≤ops.size:=hj;have ho:ops[j]? =some ops[j]:=by simp[show j<ops.size by omega]
  exact UC (ih (by omega)) (R.grow ho (R.lims j (by omega)).1).1
theorem Run.hs:∀i,i≤ops.size→(S i).hs.length=mcn P ops i+1∧∃hl,(S i).hs[mcn P ops i]? =some (hl,(S i).fl)∧(S i).h.t=hl.t∧hl.n≤(S i).h.n:=by
 intro i
 induction i with
 |zero=>intro _;rw[R.s0];exact⟨rfl,h,rfl,rfl,UM _⟩
 |succ i ih=>
  intro hi;obtain⟨d,hl,g,j,k⟩:=ih (by omega);have ho:ops[i]? =some ops[i]:=by simp[show i<ops.size by omega]
  rw[yY,Vu (P:=P) ho];have hlast:∀x,((S i).hs++[x])[mcn P ops i+1]? =some x:=fun x=>by
   rw[WU (by omega),d,ZV];rfl
  obtain⟨_,⟨_,v,l,⟨h',a⟩,e⟩|⟨_,e⟩⟩:=R.st i _ ho
  ·cases hk:kdOf P ops[i].op with
   |pure=>rw[hk] at a;simp only at a;rw[e,a.2];exact⟨d,hl,g,j,k⟩
   |read=>rw[hk] at a;simp only at a;rw[e,a.2];exact⟨d,hl,g,j,k⟩
   |quiet=>
    rw[hk] at a;simp only at a;obtain⟨b,hb,hh,_⟩:=Xw hk a.1;rw[e,a.2];refine⟨d,hl,g,j,?_⟩;show hl.n≤h'.n;rw[hh];exact ZC k
   |move=>
    rw[hk] at a;simp only at a;rw[e,a.2];refine⟨by simp[d,Yw],h',hlast _,rfl,UM _⟩
  ·rw[e];cases hk:Yw (kdOf P ops[i].op) with
   |false=>exact⟨d,hl,g,j,k⟩
   |true=>exact⟨by simp[d],(S i).h,hlast _,rfl,UM _⟩
theorem Run.hs_step{k:Nat}{o:Oper}(ho:ops[k]? =some o):(∃l,(S (k+1)).hs=(S k).hs++l)∧(∃l,(S (k+1)).qt=l++(S k).qt):=by
 obtain⟨_,⟨_,v,d,⟨h',a⟩,b⟩|⟨_,b⟩⟩:=R.st k o ho
 ·cases hk:kdOf P o.op with
  |pure=>rw[hk] at a;simp only at a;rw[b,a.2];exact⟨⟨[],by simp⟩,⟨[],rfl⟩⟩
  |read=>rw[hk] at a;simp only at a;rw[b,a.2];exact⟨⟨[],by simp⟩,⟨[],rfl⟩⟩
  |quiet=>rw[hk] at a;simp only at a;rw[b,a.2];exact⟨⟨[],by simp⟩,⟨[_],rfl⟩⟩
  |move=>rw[hk] at a;simp only at a;rw[b,a.2];exact⟨⟨_,rfl⟩,⟨[],rfl⟩⟩
 ·rw[b];cases hk:Yw (kdOf P o.op) with
  |false=>exact⟨⟨[],by simp⟩,⟨[],rfl⟩⟩
  |true=>exact⟨⟨_,rfl⟩,⟨[],rfl⟩⟩
theorem Run.hs_pre:∀i j,i≤j→j≤ops.size→(∀(p:Nat) x,(S i).hs[p]? =some x→(S j).hs[p]? =some x)∧∀e∈(S i).qt,e∈(S j).qt:=by
 intro i j hij
 induction hij with
 |refl=>intro _;exact⟨fun _ _ h=>h,fun _ h=>h⟩
 |step hij ih=>
  rename_i j;intro hj;have hj:j+1≤ops.size:=hj;have ho:ops[j]? =some ops[j]:=by simp[show j<ops.size by omega]
  obtain⟨a,b⟩:=ih (by omega);obtain⟨⟨l,hl⟩,⟨m,hm⟩⟩:=R.hs_step ho;refine⟨fun p x hx=>?_,fun e he=>?_⟩
  ·have:=a p x hx
   show(S (j+1)).hs[p]? =some x
   rw[hl,WT (WY.1 this).1];exact this
  ·show e∈(S (j+1)).qt;rw[hm];exact List.mem_append_right _ (b e he)
theorem Run.qt:∀i,i≤ops.size→∀e∈(S i).qt,e.1<i∧∃o v b,ops[e.1]? =some o∧kdOf P o.op= .quiet∧yo ops o.guard (S e.1).f=some true∧
  evOp P call o.op (S e.1).f (S e.1).h= .ok v ⟨set5 (S e.1).h.n (some b) (S e.1).h.t,(S e.1).h.n+1⟩∧e.2.1=(S e.1).h.n∧e.2.2=some b∧(S (e.1+1)).h.n=(S e.1).h.n+1∧(S e.1).h.n<big5:=by
 intro i
 induction i with
 |zero=>intro _ e he;rw[R.s0] at he;cases he
 |succ i ih=>
  intro hi e he;have ho:ops[i]? =some ops[i]:=by simp[show i<ops.size by omega]
  have old:e∈(S i).qt→e.1<i+1∧∃o v b,ops[e.1]? =some o∧kdOf P o.op= .quiet∧yo ops o.guard (S e.1).f=some true∧
    evOp P call o.op (S e.1).f (S e.1).h= .ok v ⟨set5 (S e.1).h.n (some b) (S e.1).h.t,(S e.1).h.n+1⟩∧e.2.1=(S e.1).h.n∧e.2.2=some b∧(S (e.1+1)).h.n=(S e.1).h.n+1∧(S e.1).h.n<big5:=by
   intro he;obtain⟨j,g⟩:=ih (by omega) e he;exact⟨by omega,g⟩
  have hst:=R.st i _ ho;obtain⟨_,⟨hw,v,k,⟨h',a⟩,d⟩|⟨_,d⟩⟩:=hst
  ·cases hk:kdOf P ops[i].op with
   |pure=>rw[hk] at a;simp only at a;rw[d,a.2] at he;exact old he
   |read=>rw[hk] at a;simp only at a;rw[d,a.2] at he;exact old he
   |move=>rw[hk] at a;simp only at a;rw[d,a.2] at he;exact old he
   |quiet=>
    rw[hk] at a;simp only at a;obtain⟨b,hb,hh,_⟩:=Xw hk a.1;have he':e∈(i,(S i).h.n,get5 (S i).h.n h'.t)::(S i).qt:=by rw[d,a.2] at he;exact he
    cases he' with
    |tail _ he=>exact old he
    |head=>
     refine⟨ZE i,ops[i],v,b,ho,hk,hw,by rw[←hh];exact a.1,rfl,?_,?_,hb⟩
     ·rw[hh];show get5 (S i).h.n (set5 (S i).h.n (some b) (S i).h.t)=some b;rw[J8 _ _ _ _ hb hb,if_pos rfl]
     ·rw[d,a.2,hh]
  ·rw[d] at he;exact old he
theorem Run.apart{q i:Nat}{id:Nat}(hq:q<ops.size)(hi:i<ops.size)(hqi:q≠i)(a:(S q).h.n≤id)(b:id<(S (q+1)).h.n):¬((S i).h.n≤id∧id<(S (i+1)).h.n):=by
 intro ⟨d,e⟩;rcases U2 q i with hl|hl
 ·have:=R.mono (q+1) i hl (by omega);omega
 ·have:=R.mono (i+1) q (by omega) (by omega);omega
theorem Run.frame{k:Nat}{o:Oper}(ho:ops[k]? =some o){t:Nat}(ht:t<4096)(hne:o.dst≠some t):getF t (S (k+1)).f=getF t (S k).f:=by
 have key:∀v,getF t (setd o.dst v (S k).f)=getF t (S k).f:=by
  intro v;have hlo:=(R.st k o ho).1;cases hd:o.dst with
  |none=>rfl
  |some d=>
   rw[hd] at hlo hne;have hlo:d<n:=hlo;show getF t (setF d v (S k).f)=_;rw[Xe _ _ _ _ ht (UB hlo R.n256),if_neg (fun e=>hne (by rw[e]))]
 obtain⟨_,⟨_,v,b,_,a⟩|⟨_,a⟩⟩:=R.st k o ho
 ·rw[a];exact key v
 ·rw[a];exact key (.tp [])
theorem Run.frames{t:Nat}(ht:t<4096):∀i j,i≤j→j≤ops.size→(∀(k:Nat) (o:Oper),i≤k→k<j→ops[k]? =some o→o.dst≠some t)→getF t (S j).f=getF t (S i).f:=by
 intro i j hij
 induction hij with
 |refl=>intro _ _;rfl
 |step hij ih=>
  rename_i j;intro hj hh;have hj:j+1≤ops.size:=hj;have hij:i≤j:=hij;have ho:ops[j]? =some ops[j]:=by simp[show j<ops.size by omega]
  have a:getF t (S (j+1)).f=getF t (S j).f:=R.frame ho ht (hh j _ hij (ZE j) ho);show getF t (S (j+1)).f=_;rw[a];exact ih (by omega) fun k o b d=>hh k o b (Nat.lt_succ_of_lt d)
theorem Run.qt_id{i:Nat}(hi:i≤ops.size):∀e∈(S i).qt,e.2.1<(S i).h.n∧e.2.1<big5∧h.n≤e.2.1:=by
 intro e he;obtain⟨a,o,v,b,_,_,_,_,d,_,g,j⟩:=R.qt i hi e he
 have:=R.mono (e.1+1) i a hi
 have k:=(R.lims e.1 (by omega)).2;refine⟨by omega,by omega,by omega⟩
theorem Run.one{i:Nat}(hi:i≤ops.size){e e':Nat×Nat×Option Blk}(he:e∈(S i).qt)(he':e'∈(S i).qt)(hid:e.2.1=e'.2.1):e.1=e'.1:=by
 obtain⟨a,o,v,b,_,_,_,_,d,_,g,j⟩:=R.qt i hi e he;obtain⟨h1',o',v',b',_,_,_,_,h2',_,h3',h4'⟩:=R.qt i hi e' he';refine VR fun hne=>?_
 exact R.apart (q:=e.1) (i:=e'.1) (id:=e.2.1) (by omega) (by omega) hne (by omega) (by omega) ⟨by omega,by omega⟩
theorem Run.none_(hfin:∀id,h.n≤id→id<big5→get5 id h.t=none):∀i,i≤ops.size→∀(p:Nat) x,(S i).hs[p]? =some x→(∀e∈(S ops.size).qt,tb x.2 e.1=false→get5 e.2.1 x.1.t=none)∧∀id,id<h.n→get5 id h.t=none→get5 id x.1.t=none:=by
 intro i
 induction i with
 |zero=>
  intro _ p x hx;rw[R.s0] at hx;cases p with
  |zero=>
   simp at hx;subst hx;refine⟨fun e he _=>?_,fun id _ hn=>hn⟩
   obtain⟨_,u,w⟩:=R.qt_id (UM _) e he;exact hfin _ w u
  |succ p=>simp at hx
 |succ i ih=>
  intro hi p x hx;have hi':i<ops.size:=by omega
  have ho:ops[i]? =some ops[i]:=by simp[hi']
  have ihh:=ih (by omega);obtain⟨hlen,hl,hlast,hlt,hln⟩:=R.hs i (by omega);have hlim:=(R.lims i (by omega));obtain⟨k1,k⟩:=ihh _ _ hlast;have old:(S i).hs[p]? =some x→_:=fun hx=>ihh p x hx;have new_:∀y,((S i).hs++[y])[p]? =some x→(S i).hs[p]? =some x∨x=y:=by
   intro y hy;rw[WS] at hy;split at hy
   ·exact .inl hy
   ·refine .inr ?_
    have:=(WY.1 hy).1
    have z:p-(S i).hs.length=0:=by simp at this;omega
    rw[z] at hy;simp at hy;exact hy.symm
  obtain⟨_,⟨_,v,D,⟨h',b⟩,d⟩|⟨_,d⟩⟩:=R.st i _ ho
  ·cases hk:kdOf P ops[i].op with
   |pure=>rw[hk] at b;simp only at b;rw[d,b.2] at hx;exact old hx
   |read=>rw[hk] at b;simp only at b;rw[d,b.2] at hx;exact old hx
   |quiet=>rw[hk] at b;simp only at b;rw[d,b.2] at hx;exact old hx
   |move=>
    rw[hk] at b;simp only at b;have l:(S (i+1)).h=h':=by rw[d,b.2]
    rw[d,b.2] at hx;rcases new_ _ hx with hx|rfl
    ·exact old hx
    ·have g:=(lO R.cs b.1).1 hlim.1;have hqb:∀e∈(S i).qt,e.2.1<big5:=fun e he=>(R.qt_id (by omega) e he).2.1;constructor
     ·intro e he htb;simp only at htb ⊢;rw[yj] at htb;obtain⟨A,m⟩:=VO.1 htb;obtain⟨o,oq,vq,bq,hoq,hkq,_,_,hidq,_,hnq,hbq⟩:=R.qt _ (UM _) e he;have hne:e.1≠i:=by
       intro B;rw[B,ho] at hoq;cases hoq;rw[hk] at hkq;cases hkq
      have hap:=R.apart (q:=e.1) (i:=i) (id:=e.2.1) o hi' hne (by omega) (by omega);rw[l] at hap;refine g.none_ e.2.1 (by omega) hap ?_;show get5 e.2.1 (Yb (S i).qt (msk ops i) (S i).fl (S i).h.t)=none;rcases yn (a:=msk ops i) (fl:=(S i).fl) (t:=(S i).h.t) (id:=e.2.1) (by omega) (S i).qt hqb with ⟨j,_⟩|⟨e',j,r,s,E,_⟩
      ·rw[j,hlt];exact k1 e he A
      ·have:=R.one (UM _) ((R.hs_pre i ops.size (by omega) (UM _)).2 e' j) he r
       rw[this] at s;rw[s] at m;cases m
     ·intro id hid hn;simp only;have hsz:id<big5:=by have:=R.lim;omega
      refine g.none_ id hsz (fun hh=>by have C:(S i).h.n≤id:=hh.1;omega) ?_;show get5 id (Yb (S i).qt (msk ops i) (S i).fl (S i).h.t)=none;rcases yn (a:=msk ops i) (fl:=(S i).fl) (t:=(S i).h.t) (id:=id) hsz (S i).qt hqb with ⟨j,_⟩|⟨e',j,r,_⟩
      ·rw[j,hlt];exact k id hid hn
      ·have:=(R.qt_id (by omega) e' j).2.2
       omega
  ·rw[d] at hx;cases hk:Yw (kdOf P ops[i].op) with
   |false=>rw[hk] at hx;exact old hx
   |true=>
    rw[hk] at hx;rcases new_ _ hx with hx|rfl
    ·exact old hx
    ·constructor
     ·intro e he htb;show get5 e.2.1 (S i).h.t=none;rw[hlt];exact k1 e he htb
     ·intro id hid hn;show get5 id (S i).h.t=none;rw[hlt];exact k id hid hn
theorem Run.none2:∀i,i≤ops.size→∀(p:Nat) x,(S i).hs[p]? =some x→∀id,id<big5→¬(h.n≤id∧id<(S ops.size).h.n)→get5 id h.t=none→get5 id x.1.t=none:=by
 intro i
 induction i with
 |zero=>
  intro _ p x hx;rw[R.s0] at hx;cases p with
  |zero=>simp at hx;subst hx;exact fun id _ _ hn=>hn
  |succ p=>simp at hx
 |succ i ih=>
  intro hi p x hx;have hi':i<ops.size:=by omega
  have ho:ops[i]? =some ops[i]:=by simp[hi']
  have ihh:=ih (by omega);obtain⟨hlen,hl,hlast,hlt,hln⟩:=R.hs i (by omega);have hlim:=(R.lims i (by omega));have l:=ihh _ _ hlast;have hmN:=R.mono (i+1) ops.size (by omega) (UM _);have s:=R.mono i (i+1) (by omega) (by omega);have old:(S i).hs[p]? =some x→_:=fun hx=>ihh p x hx;have new_:∀y,((S i).hs++[y])[p]? =some x→(S i).hs[p]? =some x∨x=y:=by
   intro y hy;rw[WS] at hy;split at hy
   ·exact .inl hy
   ·refine .inr ?_
    have:=(WY.1 hy).1
    have o:p-(S i).hs.length=0:=by simp at this;omega
    rw[o] at hy;simp at hy;exact hy.symm
  obtain⟨_,⟨_,v,u,⟨h',b⟩,j⟩|⟨_,j⟩⟩:=R.st i _ ho
  ·cases hk:kdOf P ops[i].op with
   |pure=>
        rw[hk] at b;simp only at b;have d:(S (i+1)).hs=(S i).hs:=by rw[j,b.2]
        rw[d] at hx;exact old hx
   |read=>
        rw[hk] at b;simp only at b;have d:(S (i+1)).hs=(S i).hs:=by rw[j,b.2]
        rw[d] at hx;exact old hx
   |quiet=>
         rw[hk] at b;simp only at b;have d:(S (i+1)).hs=(S i).hs:=by rw[j,b.2]
         rw[d] at hx;exact old hx
   |move=>
    rw[hk] at b;simp only at b;have m:(S (i+1)).h=h':=by rw[j,b.2]
    have d:(S (i+1)).hs=(S i).hs++[(h',Nat.lor (S i).fl (msk ops i))]:=by rw[j,b.2]
    rw[d] at hx;rcases new_ _ hx with hx|rfl
    ·exact old hx
    ·have g:=(lO R.cs b.1).1 hlim.1;have hqb:∀e∈(S i).qt,e.2.1<big5:=fun e he=>(R.qt_id (by omega) e he).2.1;intro id hsz hid hn;simp only;refine g.none_ id hsz (fun hh=>hid ⟨UC hlim.2 hh.1,by have r:id<h'.n:=hh.2;rw[←m] at r;omega⟩) ?_;show get5 id (Yb (S i).qt (msk ops i) (S i).fl (S i).h.t)=none;rcases yn (a:=msk ops i) (fl:=(S i).fl) (t:=(S i).h.t) (id:=id) hsz (S i).qt hqb with ⟨k,_⟩|⟨e',k,w,_⟩
     ·rw[k,hlt];exact l id hsz hid hn
     ·have z:=R.qt_id (by omega) e' k;exact absurd ⟨by omega,by omega⟩ hid
  ·have d:(S (i+1)).hs=if Yw (kdOf P ops[i].op) then(S i).hs++[((S i).h,(S i).fl)] else(S i).hs:=by rw[j]
   rw[d] at hx;split at hx
   ·rcases new_ _ hx with hx|rfl
    ·exact old hx
    ·intro id hsz hid hn;show get5 id (S i).h.t=none;rw[hlt];exact l id hsz hid hn
   ·exact old hx
end
end
theorem GQ{a b:Option Nat}(h:FB a b=true):a=b:=by
 unfold FB at h;split at h
 ·rfl
 ·rw[YT h]
 ·cases h
theorem CL{a b:AV}(h:avEq a b=true):a=b:=by
 unfold avEq at h;split at h
 ·rw[eq_of_beq h]
 ·obtain⟨e,d⟩:=Za h;rw[vy] at d;rw[Y2 e,of_decide_eq_true d]
 ·rw[zf] at h;rw[of_decide_eq_true h]
 ·rfl
 ·obtain⟨e,d⟩:=Za h;rw[YT e,YT d]
 ·rfl
 ·obtain⟨h,g⟩:=Za h;obtain⟨h,i⟩:=Za h;obtain⟨h,j⟩:=Za h;obtain⟨e,d⟩:=Za h;rw[YT e,YT d,YT j,YT i,GQ g]
 ·rfl
 ·rfl
 ·rfl
 ·rfl
 ·cases h
theorem vT:∀(a b:List AV),wT a b=true→a=b:=by
 intro a
 induction a with
 |nil=>intro b h;cases b with
  |nil=>rfl
  |cons y b=>cases h
 |cons x a ih=>
  intro b h;cases b with
  |nil=>cases h
  |cons y b=>
   have h:(Bool.rec false (wT a b) (avEq x y):Bool)=true:=h;cases hb:avEq x y with
   |false=>rw[hb] at h;cases h
   |true=>rw[hb] at h;rw[CL hb,ih b h]
theorem DJ{a b:AV}(h:sP a b=true):a=b:=by
 unfold sP at h;split at h
 ·rw[vT _ _ h]
 ·exact CL h
def resF(l:List Nat)(f:Fr):Fr:=l.foldr (fun t acc=>setF t (getF t f) acc) (A5 AV.u)
theorem oG{l:List Nat}{f:Fr}(hl:∀x∈l,x<4096){t:Nat}(ht:t<4096):getF t (resF l f)=if t∈l then getF t f else AV.u:=by
 induction l with
 |nil=>exact kI t AV.u
 |cons x l ih=>
  have ih:=ih fun y hy=>hl y (by simp[hy]);show getF t (setF x (getF x f) (resF l f))=_;rw[Xe _ _ _ _ ht (hl x (by simp)),ih];by_cases a:t=x
  ·subst a;simp
  ·rw[if_neg a];simp[a]
section
variable {P:Program} {call:CallF} {n:Nat} {ops:Array Oper} {f:Fr} {h:Hp} {S:Nat→DS}
theorem pz {Φ:Phi} {τ:Tau} {H:Hp} {w:World} {qt:QT} {a fl m:Nat} (r:Rel Φ τ H w) (s:H.n≤m) (k:m≤big5) (hq:∀e∈qt,e.2.1<m)
  (hb:∀e∈qt,tb a e.1=true→tb fl e.1=false→∀b,e.2.2=some b→Kf Φ τ w e.2.1 b):Rel Φ τ ⟨Yb qt a fl H.t,m⟩ w:=by
 have g:∀e∈qt,e.2.1<big5:=fun e he=>by have:=hq e he;omega
 refine⟨k,?_,?_⟩
 ·intro id b hid hg;have hid:id<m:=hid;have hg:get5 id (Yb qt a fl H.t)=some b:=hg;rcases yn (a:=a) (fl:=fl) (t:=H.t) (id:=id) (by omega) qt g with ⟨d,_⟩|⟨e,d,i,l,o,p⟩
  ·rw[d] at hg;rcases U2 id H.n with hl|hl
   ·exact r.blk id b hl hg
   ·rw[r.fin id hl (by omega)] at hg;cases hg
  ·rw[p] at hg;rw[←i];exact hb e d l o b hg
 ·intro id hid j;have hid:m≤id:=hid;show get5 id (Yb qt a fl H.t)=none;rcases yn (a:=a) (fl:=fl) (t:=H.t) (id:=id) j qt g with ⟨d,_⟩|⟨e,d,i,_⟩
  ·rw[d];exact r.fin id (by omega) j
  ·have:=hq e d;omega
def cnt(P:Program)(ops:Array Oper)(L:Array Bool):Nat:=(List.range ops.size).countP fun i=>L.getD i false&&isMv P ops i
structure IvS (P:Program) (ops:Array Oper) (f:Fr) (h:Hp) (S:Nat→DS) (Φ0:Phi) (τ0:Tau) (w0:World) (L:Array Bool) (F:Wf.Fr) (w:World) (Φ:Phi) (τ:Tau):Prop where
 tw:Tw Φ0 τ0 h w0 Φ τ (S ops.size).h.n w
 fre:∀i,i<ops.size→L.getD i false=false→Fre Φ (S i).h.n (S (i+1)).h.n
 fw:∀t,t<4096→∀(j:Nat) (o:Oper),ops[j]? =some o→o.dst=some t→L.getD j false=true→Rv Φ (getF t (S (j+1)).f) (F t)
 f0:∀t,t<4096→(∀(j:Nat) (o:Oper),ops[j]? =some o→o.dst=some t→L.getD j false=false)→Rv Φ (getF t f) (F t)
 rel:∀x,(S ops.size).hs[cnt P ops L]? =some x→Rel Φ τ x.1 w
 qs:∀x,(S ops.size).hs[cnt P ops L]? =some x→∀e∈(S ops.size).qt,L.getD e.1 false=true→tb x.2 e.1=false→∀b,e.2.2=some b→Kf Φ τ w e.2.1 b
theorem jG{L:Array Bool}{i:Nat}(hi:i<L.size)(j:Nat):(L.setIfInBounds i true).getD j false=if j=i then true else L.getD j false:=by
 rw[UK,UR];by_cases e:i=j
 ·subst e;simp[hi]
 ·rw[if_neg e,if_neg (fun h=>e h.symm),←UK]
theorem Gg{L:Array Bool}{i:Nat}(hi:i<ops.size)(hs:L.size=ops.size)(hf:L.getD i false=false):cnt P ops (L.setIfInBounds i true)=cnt P ops L+if isMv P ops i then 1 else 0:=by
 cases hm:isMv P ops i with
 |true=>
  simp only[if_true];refine vz _ List.nodup_range _ _ i (by simpa using hi) ?_ ?_ ?_
  ·show((L.setIfInBounds i true).getD i false&&isMv P ops i)=true;rw[jG (by omega),if_pos rfl,hm];rfl
  ·show(L.getD i false&&isMv P ops i)=false;rw[hf];rfl
  ·intro j hj;show _=((L.setIfInBounds i true).getD j false&&isMv P ops j);rw[jG (by omega),if_neg hj]
 |false=>
  simp only[VM,if_false,YH];unfold cnt;apply WG;intro j _;rw[jG (by omega)];by_cases e:j=i
  ·subst e;rw[hm];simp
  ·rw[if_neg e]
theorem xf(p:Nat→Bool):∀(N i:Nat),i≤N→(List.range N).countP (fun j=>decide (j<i)&&p j)=(List.range i).countP p:=by
 intro N
 induction N with
 |zero=>
      intro i hi;have:i=0:=by omega
      subst this;rfl
 |succ N ih=>
  intro i hi;rw[XS,WF,WL];by_cases e:i=N+1
  ·subst e;rw[XS,WF,WL];have a:(List.range N).countP (fun j=>decide (j<N+1)&&p j)=(List.range N).countP p:=by
    apply WG;intro j hj
    have:j<N:=by simpa using hj
    simp[show j<N+1 by omega]
   rw[a];simp
  ·rw[ih i (by omega)]
   have:decide (N<i)=false:=decide_eq_false (by omega)
   rw[this];simp
section
variable (R:Run P call n ops f h S) (K:Lk P n ops)
include K
omit K in
theorem notL{L:Array Bool}(hs:L.size=ops.size)(hc:Yf ops L){i j:Nat}(hj:j<ops.size)(hi:L.getD i false=false)(ha:tb (msk ops j) i=true):L.getD j false=false:=by
 cases hb:L.getD j false with
 |false=>rfl
 |true=>
  have ho:ops[j]? =some ops[j]:=by simp[hj]
  have hjj:L.getD j true=true:=by
   have:L[j]? =some L[j]:=by simp[hs,hj]
   simp[UK,this] at hb ⊢;exact hb
  have:=vZ hs hc j _ i ho (fun e he hbe=>hc j hj hjj _ ho e he hbe) ha
  rw[hi] at this;cases this
theorem kw{L:Array Bool}(hs:L.size=ops.size)(hc:Yf ops L){i:Nat}{o:Oper}(ho:ops[i]? =some o)(hi:L.getD i false=false)(hp:∀e∈o.after,Region.binds .any e=true→L.getD e.on false=true)(hm:isMv P ops i=true):cnt P ops L=mcn P ops i:=by
 have hiN:=(VE.1 ho).1;unfold cnt mcn;rw[←xf (isMv P ops) ops.size i (by omega)];apply WG;intro j hj;have hj:j<ops.size:=by simpa using hj
 cases hmj:isMv P ops j with
 |false=>simp
 |true=>
  simp only[Bool.and_true];rcases Nat.lt_trichotomy j i with a|a|a
  ·rw[decide_eq_true a,vZ hs hc i o j ho hp (K.chain j i a hmj hm)]
  ·subst a;rw[hi];simp
  ·rw[decide_eq_false (by omega),notL hs hc hj hi (K.chain i j a hm hmj)]
include R
theorem frm {L:Array Bool} {F:Wf.Fr} {w g:World} {Φ Φ0:Phi} {τ τ0:Tau} (I:IvS P ops f h S Φ0 τ0 g L F w Φ τ) (hs:L.size=ops.size) (hc:Yf ops L) {i:Nat} {o:Oper} (ho:ops[i]? =some o) (hi:L.getD i false=false)
  (hp:∀e∈o.after,Region.binds .any e=true→L.getD e.on false=true) {t:Nat} (ht:t<4096)
  (hw:∀(j:Nat) (o':Oper),ops[j]? =some o'→o'.dst=some t→tb (msk ops i) j=true∨tb (msk ops j) i=true):Rv Φ (getF t (S i).f) (F t):=by
 have hiN:=(VE.1 ho).1;by_cases hex:∃(j:Nat) (o':Oper),ops[j]? =some o'∧o'.dst=some t∧L.getD j false=true
 ·obtain⟨j,o',hj,hd,hl⟩:=hex;have hjN:=(VE.1 hj).1;rcases hw j o' hj hd with a|a
  ·have hlt:=oV i o j ho K.back a;have b:getF t (S i).f=getF t (S (j+1)).f:=R.frames ht (j+1) i hlt (by omega) fun k ok m l hk d=>by
    have:=K.uniq j k o' ok t hj hk hd d
    omega
   rw[b];exact I.fw t ht j o' hj hd hl
  ·have:=notL hs hc hjN hi a
   rw[hl] at this;cases this
 ·have hall:∀(j:Nat) (o':Oper),ops[j]? =some o'→o'.dst=some t→L.getD j false=false:=by
   intro j o' hj hd;cases hb:L.getD j false with
   |false=>rfl
   |true=>exact absurd ⟨j,o',hj,hd,hb⟩ hex
  have b:getF t (S i).f=getF t (S 0).f:=R.frames ht 0 i (UN _) (by omega) fun k ok _ l hk hd=>by
   rcases hw k ok hk hd with a|a
   ·have:=vZ hs hc i o k ho hp a
    rw[hall k ok hk hd] at this;cases this
   ·have:=oV k ok i hk K.back a
    omega
  rw[b,R.s0];exact I.f0 t ht hall
theorem Pr {L:Array Bool} {F:Wf.Fr} {w a:World} {Φ Φ0:Phi} {τ τ0:Tau} (I:IvS P ops f h S Φ0 τ0 a L F w Φ τ) (hs:L.size=ops.size) (hc:Yf ops L) {i:Nat} {o:Oper} (ho:ops[i]? =some o) (hi:L.getD i false=false)
  (hp:∀e∈o.after,Region.binds .any e=true→L.getD e.on false=true):∃g,FR Φ g F∧∀H,evOp P call o.op (S i).f H=evOp P call o.op g H:=by
 refine⟨resF ((xg o.op.operands.toList).filter (fun t=>decide (t<4096))) (S i).f,?_,fun H=>Bd ?_⟩
 ·intro t ht;rw[oG (fun x hx=>by simpa using (XI.1 hx).2) ht];split
  ·rename_i hm;have hm:=(XI.1 hm).1;exact frm R K I hs hc ho hi hp ht fun j o' hj hd=>K.read i o t j o' ho hm hj hd
  ·simp only[Rv]
 ·intro t hm ht;rw[oG (fun x hx=>by simpa using (XI.1 hx).2) ht,if_pos];exact XI.2 ⟨qP hm,by simpa using ht⟩
theorem tK {L:Array Bool} {F:Wf.Fr} {w g:World} {Φ Φ0:Phi} {τ τ0:Tau} (I:IvS P ops f h S Φ0 τ0 g L F w Φ τ) (hs:L.size=ops.size) (hc:Yf ops L) {i:Nat} {o:Oper} (ho:ops[i]? =some o) (hi:L.getD i false=false)
  (hp:∀e∈o.after,Region.binds .any e=true→L.getD e.on false=true) {b:Bool} (hw:yo ops o.guard (S i).f=some b):Region.wanted o (Zb ops F)=b:=by
 refine iU (Φ:=Φ) hw fun p d hg hd=>?_
 show Rv Φ (Bool.rec AV.u (getF d (S i).f) (Nat.ble (Nat.succ d) 4096)) (F d);cases hb:Nat.ble (Nat.succ d) 4096 with
 |false=>simp only[Rv]
 |true=>
  have a:d<4096:=UW hb;rw[Jad] at hd;obtain⟨og,hog,hd⟩:=hd;refine frm R K I hs hc ho hi hp a fun j o' hj hdj=>?_
  have:=K.uniq p.1 j og o' d hog hj hd hdj
  subst this;exact .inl (K.gd i o p ho hg)
end
end
end Go.Ev
