/- Part 3. -/
import Derived.Test.YtjiojpmoleilgaaGreatDoorSt2
set_option linter.unusedVariables false
set_option linter.unusedSimpArgs false
set_option maxRecDepth 100000
set_option maxHeartbeats 4000000
noncomputable section
namespace Go.Wf
open Go Go.Proofs Go.RowKit
variable{a:List Nat}{b:GInt}
theorem Ax{b:Bool}{m:List Nat}{v:Nat}{z:Int}(h:trim m=digs v)(e:Yh b v=z):mkSg b m=ofZ z:=by
 subst e;unfold mkSg ofZ;rw[h,zq,uc,zl]
theorem GS{b:List Nat}(sa:Jr a)(sb:Jr b):(digs (Nat.gcd (val a) (val b))).length≤a.length+b.length:=by
 refine Za ?_;have d:=Yk a sa;have g:=Yk b sb;have h:4294967296^a.length≤4294967296^(a.length+b.length):=TM o o;have i:4294967296^b.length≤4294967296^(a.length+b.length):=TM o o;rcases VE (val a) with e|e
 ·rw[e,Nat.gcd_zero_left];omega
 ·have:=Nat.gcd_le_left (val b) e;omega
theorem oM(x y:Nat):Nat.gcd y (x%y)=Nat.gcd x y:=by rw[Nat.gcd_comm x y,Nat.gcd_rec y x,Nat.gcd_comm]
theorem zh{b:List Nat}(sb:Jr b)(h:0<val b):(digs (val a%val b)).length≤b.length:=Za (Nat.lt_trans (Tp _ h) (Yk b sb))
theorem qB(sa:Jr a)(n:Nat):(digs (val a/n)).length≤a.length:=Za (TS (VA _ _) (Yk a sa))
theorem Gx:Jr [1]:=Yl d Zh
section
variable{X:Nat→Prop}{w:World}(hX:XB X w)
include hX
theorem wI{E:Value}{a:GInt}(F:RV Z0 X w E a){G:Value}(H:RV Z0 X w G b)(hla:a.mag.length≤549755813888)(hlb:b.mag.length≤549755813888):CRt 186 #[E,G] w fun v w'=>RV Z0 X w' v (ofZ (a.toZ+b.toZ)):=by
 obtain⟨a1,D,rfl,l⟩:=RV.int F;obtain⟨I,J,rfl,m⟩:=RV.int H;have C:=PV hX;have sa:=F.int_small;have sb:=H.int_small;refine Cgo Tryz.func186 r r r (Rg<|Ol<|QA C r ?_);intro _ _ _ _ _ K z h;refine Ol (QA K r ?_);intro A _ _ _ _ L p j;have l:=(l.sp z).sp p;have m:=(m.sp z).sp p;have h:=h.spn p;refine Ol (PU L io26 r ?_);intro _ _ _ _ _ M k s;refine Nl<|PT<|QL mixed 6 [[],[],[1],[],[3],[4]] M [fx<|.agg #[(.bool a.neg),(S12 a1 a.mag D)],fx<|.pointer (some ⟨A,0,none⟩),fx<|.bool b.neg,fx<|.pointer (some ⟨A,1,none⟩),fx<|.slice I b.mag.length J,fs Jh<|trim b.mag] κ ⟨sx,sx,sx,sx,sx,ss,trivial⟩ fun N g _ ⟨d,i⟩ e=>?_
 have l:=(l.sp k).sp i;have m:=(m.sp k).sp i;have h:=(h.spn k).spn i;have j:=(j.spn k).spn i;have e:Keep [5,6,7,8,9,10] _ N:=e;refine⟨⟨fun _=>?_,fun _=>?_,fun⟨P,_⟩=>?_,fun _=>?_,fun⟨Q,_⟩=>?_,fun⟨R,_⟩=>?_,trivial⟩,fun⟨S,T,U,V,Y,x,_⟩=>?_⟩
 ·exact Sd0 e fun _=>QC (vs:=(zzC a a1 D)) h ag26 r r r ⟨g,PQ d,rfl⟩
 ·exact Sd0 e fun _=>PJ Xc r ⟨g,PQ d,rfl⟩
 ·exact Sd1 e P fun _=>PO j pl4 r r ⟨g,PQ d,rfl⟩
 ·exact Sd0 e fun _=>PJ Yu r ⟨g,PQ d,rfl⟩
 ·exact Sd1 e Q fun _=>PO j pl24 r r ⟨g,PQ d,rfl⟩
 ·refine Sd1 e R fun _=>PK d Vq r r (Zq d.bd m o) ?_;intro _ _ Z aa ab;exact⟨g,⟨Z,aa⟩,ab⟩
 obtain⟨_,_,ac,x⟩:=RS.opn x;obtain⟨_,rfl⟩:=mixK e (aC S<|aC T<|aC U<|aC V<|aC Y<|aC ac aN);refine Ol (PK d N5 r r (L5 d.bd (a:=a) (Jl l) x o (Qr sb)<|Tj (Jx _) o) ?_);intro _ _ ad ae af;have s:=(s.spn i).spn ae;obtain⟨ag,ah,rfl,y⟩:=RV.int af;refine On (Us (cs':=(zzC (ofZ<|a.toZ+Yh b.neg (val<|trim b.mag)) ag ah)) ad s io26 ?_);intro _ B ai aj;have y:=y.sp ai;refine Nl (PS<|J1 r r aj ag26 B ?_);exact SS (a:=(ofZ<|a.toZ+Yh b.neg (val<|trim b.mag))) ((Jl y).tr B.wb)<|(by rw[Kt];rfl)
theorem V4{Y:Value}{a:GInt}(Z:RV Z0 X w Y a){v1:Value}(r1:RV Z0 X w v1 b)(hla:a.mag.length≤549755813888)(hlb:b.mag.length≤549755813888):CRt 187 #[Y,v1] w fun v w'=>RV Z0 X w' v (ofZ (a.toZ*b.toZ)):=by
 obtain⟨a1,c2,rfl,m⟩:=RV.int Z;obtain⟨a4,c5,rfl,p⟩:=RV.int r1;have C:=PV hX;have sa:=Z.int_small;have sb:=r1.int_small;have tla:=Jx a.mag;have tlb:=Jx b.mag;have tdl:=oG (Zo sa) (Zo sb);refine Cgo Tryz.func187 r r r (Rg<|Ol<|QA C r ?_);intro g7 _ _ _ _ ag D h;refine Ol (QA ag r ?_);intro E _ _ _ _ ah s k;have m:=(m.sp D).sp s;have p:=(p.sp D).sp s;have h:=h.spn s;refine Ol (PU ah io26 r ?_);intro _ _ _ _ _ ai l x;refine Nl<|PT<|QL mixed 12 [[],[0],[],[2],[1,3],[],[5],[6],[],[8],[9],[7,10]] ai [fx<|.pointer (some ⟨g7,0,none⟩),fx<|.bool a.neg,fx<|.pointer (some ⟨E,0,none⟩),fx<|.bool b.neg,fx<|.bool (a.neg != b.neg),fx<|.pointer (some ⟨g7,1,none⟩),fx<|.slice a1 a.mag.length c2,fs Jh<|trim a.mag,fx<|.pointer (some ⟨E,1,none⟩),fx<|.slice a4 b.mag.length c5,fs Jh<|trim b.mag,fs Jh<|Qq (trim a.mag)<|trim b.mag] κ ⟨sx,sx,sx,sx,sx,sx,sx,ss,sx,sx,ss,ss,trivial⟩ fun aj g _ ⟨d,i⟩ e=>?_
 have m:=(m.sp l).sp i;have p:=(p.sp l).sp i;have h:=(h.spn l).spn i;have k:=(k.spn l).spn i;have e:Keep [5,6,7,8,9,10,11,12,13,14,15,16] _ aj:=e;refine⟨⟨fun _=>?_,fun⟨ak,_⟩=>?_,fun _=>?_,fun⟨am,_⟩=>?_,fun⟨an,ao,_⟩=>?_,fun _=>?_,fun⟨aq,_⟩=>?_,fun⟨ar,_⟩=>?_,fun _=>?_,fun⟨au,_⟩=>?_,fun⟨av,_⟩=>?_,fun⟨y,z,_⟩=>?_,trivial⟩,fun⟨aw,ax,ay,az,aA,aB,aD,F,aE,aF,G,A,_⟩=>?_⟩
 ·exact Sd0 e fun _=>PJ Xc r ⟨g,PQ d,rfl⟩
 ·exact Sd1 e ak fun _=>PO h pl4 r r ⟨g,PQ d,rfl⟩
 ·exact Sd0 e fun _=>PJ Xc r ⟨g,PQ d,rfl⟩
 ·exact Sd1 e am fun _=>PO k pl4 r r ⟨g,PQ d,rfl⟩
 ·exact Jf e (aC an<|aC ao aN) fun _=>P1<|RP un4 r r r ⟨g,PQ d,rfl⟩
 ·exact Sd0 e fun _=>PJ Yu r ⟨g,PQ d,rfl⟩
 ·exact Sd1 e aq fun _=>PO h pl24 r r ⟨g,PQ d,rfl⟩
 ·refine Sd1 e ar fun _=>PK d Vq r r (Zq d.bd m o) ?_;intro _ _ aG aH aI;exact⟨g,⟨aG,aH⟩,aI⟩
 ·exact Sd0 e fun _=>PJ Yu r ⟨g,PQ d,rfl⟩
 ·exact Sd1 e au fun _=>PO k pl24 r r ⟨g,PQ d,rfl⟩
 ·refine Sd1 e av fun _=>PK d Vq r r (Zq d.bd p o) ?_;intro _ _ aJ aK aL;exact⟨g,⟨aJ,aK⟩,aL⟩
 ·obtain⟨_,_,aM,y⟩:=RS.opn y;obtain⟨_,_,H,z⟩:=RS.opn z;refine Jf e (aC aM<|aC H aN) fun _=>P1 (PK d N8 r r (HE d.bd y z o o) ?_);intro _ _ I J K;exact⟨g,⟨I,J⟩,K⟩
 obtain⟨_,_,L,F⟩:=RS.opn F;obtain⟨_,_,M,G⟩:=RS.opn G;obtain⟨_,_,N,A⟩:=RS.opn A;obtain⟨_,rfl⟩:=mixK e (aC aw<|aC ax<|aC ay<|aC az<|aC aA<|aC aB<|aC aD<|aC L<|aC aE<|aC aF<|aC M<|aC N aN);refine Ol (PK d zm r r (Yr d.bd A o) ?_);intro _ _ P Q R;have x:=(x.spn i).spn Q;obtain⟨S,T,rfl,j⟩:=RV.int R;refine On (Us (cs':=(zzC (mkSg (a.neg != b.neg)<|Qq (trim a.mag)<|trim b.mag) S T)) P x io26 ?_);intro _ B U V;have j:=j.sp U;refine Nl (PS<|J1 r r V ag26 B ?_);exact SS (a:=(mkSg (a.neg != b.neg)<|Qq (trim a.mag)<|trim b.mag)) ((Jl j).tr B.wb)<|Ax (rP (Zo sa)<|Zo sb) (by rw[Kt,Kt];exact AY a b)
theorem Ab{v0:Value}{a:GInt}(r0:RV Z0 X w v0 a){v1:Value}(r1:RV Z0 X w v1 b)(hla:a.mag.length≤274877906944)(hlb:b.mag.length≤274877906944)(p:val b.mag≠0):CRt 222 #[v0,v1] w fun v w'=>(∃v0 v1 v2,v= .tuple #[v0,v1,v2]∧(RV Z0 X w' v0 (ofZ (a.toZ/b.toZ)))∧(RV Z0 X w' v1 (ofZ (a.toZ%b.toZ)))∧(v2=(.int .i64 0))):=by
 obtain⟨a1,c2,rfl,L⟩:=RV.int r0;obtain⟨a4,c5,rfl,h6⟩:=RV.int r1;have C:=PV hX;have sa:=r0.int_small;have sb:=r1.int_small;have tla:=Jx a.mag;have tlb:=Jx b.mag;have tb:(trim b.mag).length≠0:=fun h=>p ((X6 sb).1 h);have tva:=Kt a.mag;have tvb:=Kt b.mag;have hbp:0<val (trim b.mag):=o
 have hdl:=qB (Zo sa) (val<|trim b.mag);have hml:=zh (a:=trim a.mag) (Zo sb) hbp;have hmz:¬(digs<|val (trim a.mag)%val (trim b.mag)).length>0↔val a.mag%val b.mag=0:=by rw[tva,tvb];have:=zl (val a.mag%val b.mag);simp only[decide_eq_decide] at this;omega
 refine Cgo Tryz.func222 r r r (Rg<|Ol<|QA C r ?_);intro _ _ _ _ _ bi ay i;have L:=L.sp ay;refine Ol (QA bi r ?_);intro _ _ _ _ _ bj au j;have h6:=(h6.sp ay).sp au;refine Ol (PU bj io26 r ?_);intro _ _ _ _ _ bk ak g;have L:=(L.sp au).sp ak;have i:=(i.spn au).spn ak;refine Ol (PU bk io26 r ?_);intro _ _ _ _ aI az F d;have B:=aI _ g.blk.lt;have h6:=(h6.sp ak).sp F;have j:=(j.spn ak).spn F;refine Oa (Nl<|Rg<|Ol<|PJ Yu rfl<|Ol<|PO j pl24 r rfl<|Ol<|PK az Vq r r (Zq az.bd h6 o) ?_);intro _ _ aA G m;have L:=(L.sp F).sp G;have i:=(i.spn F).spn G;have j:=j.spn G;have g:=(g.spn F).spn G;have d:=d.spn G;obtain⟨_,_,rfl,_,_⟩:=m.len;refine Oa (Nl<|Rh<|Ub<|St.len sl24 rfl<|Ol<|QZ (t:=false) r r (decide_eq_false o)<|Nl<|Uc<|Rg<|Ol<|PJ Yu rfl<|Ol<|PO i pl24 r rfl<|Ol<|PK aA Vq r r (Zq aA.bd L o) ?_);intro _ _ aB H aD;have m:=m.sp H;obtain⟨_,_,rfl,_,_⟩:=aD.len;refine Om (Ol<|PK aB Iz r r (pv aB.bd aD m (Qr sa) (Qr sb) (by intro e;rw[e] at tb;exact tb r) o o) ?_);intro _ _ I J bl;have m:=m.sp J;have i:=(i.spn H).spn J;have j:=(j.spn H).spn J;have g:=(g.spn H).spn J;have d:=(d.spn H).spn J;obtain⟨_,_,rfl,D,k⟩:=bl;obtain⟨_,_,rfl,_,_⟩:=D.len;obtain⟨_,_,rfl,_,_⟩:=k.len;refine Ub<|St.extract r rfl<|Ol<|St.extract r rfl<|Oa<|Ua<|Rh<|Ol<|PJ Xc rfl<|Ol<|QF<|PO i pl4 r r ⟨_,rfl,fun s=>?_,fun s=>?_⟩
 ·refine Om<|OgD<|PP<|OgD<|St.len sl24 rfl<|OgD<|QN r r (fun aJ=>?_)<|fun aJ=>?_
  ·refine OT (Nl<|Uk<|Ub<|P5 (T:=Jh) (css:=[[(.int .u32 1)]]) (l:=[1]) I sl24 Js δ δ r κ ⟨⟨rfl,o⟩,trivial⟩ ?_);intro _ _ aE x bm;have D:=D.sp x;have i:=i.spn x;have j:=j.spn x;have g:=g.spn x;refine Ol (PK aE JI r r (EJ aE.bd D bm o χ) ?_);intro _ _ aF E am;have m:=(m.sp x).sp E;have k:=(k.sp x).sp E;have d:=(d.spn x).spn E;obtain⟨_,_,rfl,_,_⟩:=am.len;refine Om (Ub<|PK aF HS r r (A6 aF.bd m k o o (by rw[Z3];exact VI<|Tp _ hbp)) ?_);intro _ _ aG K an;have am:=am.sp K;have i:=(i.spn E).spn K;have j:=(j.spn E).spn K;have g:=(g.spn E).spn K;obtain⟨_,_,rfl,_,_⟩:=an.len;refine Oa (Ua<|Rg<|Ol<|PJ Xc rfl<|Ol<|PO i pl4 r rfl<|Ol<|PJ Xc rfl<|Ol<|PO j pl4 r rfl<|Ol<|RP un4 r r rfl<|Ub<|PK aG zm r r (Yr aG.bd am WC) ?_);intro _ _ aH av bn;have an:=an.sp av;have d:=(d.spn K).spn av;obtain⟨aK,aL,rfl,y⟩:=RV.int bn;refine Om (Ol<|PK aH zm r r (Yr aH.bd an WN) ?_);intro _ _ aM M aO;have y:=y.sp M;have g:=(g.spn av).spn M;obtain⟨aP,aQ,rfl,N⟩:=RV.int aO;refine On (Us (cs':=(zzC (mkSg (a.neg != b.neg)<|Zc (max (digs<|val (trim a.mag)/val (trim b.mag)).length [1].length+1)<|val (digs<|val (trim a.mag)/val (trim b.mag))+val [1]) aK aL)) aM g io26 ?_);intro _ aR P Q;have d:=(d.spn M).spo P (TA B);refine On (Us (cs':=(zzC (mkSg false<|Zc (trim b.mag).length<|val (trim b.mag)-val (digs<|val (trim a.mag)%val (trim b.mag))) aP aQ)) aR d io26 ?_);intro _ R S aS;have y:=(y.sp P).sp S;have N:=(N.sp P).sp S;have Q:=Q.spo S B;refine Oa (Nl<|PS<|rv r (resV.c Q r ag26 r) (resV.c aS r ag26 r) (SV r)<|Rc ?_ R.below);refine⟨_,_,_,rfl,?_,?_,?_⟩
   ·exact SS (a:=(mkSg (a.neg != b.neg)<|Zc (max (digs<|val (trim a.mag)/val (trim b.mag)).length [1].length+1)<|val (digs<|val (trim a.mag)/val (trim b.mag))+val [1])) ((Jl y).tr R.wb) (by exact Y4 (Zm _ _) (by rw[Yq _ _<|yJ (Yd _) Gx,Z3,tva,tvb,show val [1]=1 from rfl];exact(t8 p s (fun h=>by have:=hmz.2 h;omega)).1))
   ·exact SS (a:=(mkSg false<|Zc (trim b.mag).length<|val (trim b.mag)-val (digs<|val (trim a.mag)%val (trim b.mag)))) ((Jl N).tr R.wb) (by exact Y4 (Zm _ _) (by rw[Yq _ _<|TS (VZ _ _)<|Yk _<|Zo sb,Z3,tva,tvb,y1];exact(t8 p s (fun h=>by have:=hmz.2 h;omega)).2))
   ·skip
    rfl
  refine OT (Nl<|Uc<|Rg<|Ol<|PJ Xc rfl<|Ol<|PO i pl4 r rfl<|Ol<|PJ Xc rfl<|Ol<|PO j pl4 r rfl<|Ol<|RP un4 r r rfl<|Ub<|PK I zm r r (Yr I.bd D WC) ?_);intro _ _ aw U aT;have k:=k.sp U;have d:=d.spn U;obtain⟨aU,aV,rfl,z⟩:=RV.int aT;refine Om (Ol<|PK aw zm r r (Yr aw.bd k WN) ?_);intro _ _ aW V aX;have z:=z.sp V;have g:=(g.spn U).spn V;obtain⟨aY,aZ,rfl,Y⟩:=RV.int aX;refine On (Us (cs':=(zzC (mkSg (a.neg != b.neg)<|digs<|val (trim a.mag)/val (trim b.mag)) aU aV)) aW g io26 ?_);intro _ a0 Z aa;have d:=(d.spn V).spo Z (TA B);refine On (Us (cs':=(zzC (mkSg false<|digs<|val (trim a.mag)%val (trim b.mag)) aY aZ)) a0 d io26 ?_);intro _ ab ac a3;have z:=(z.sp Z).sp ac;have Y:=(Y.sp Z).sp ac;have aa:=aa.spo ac B;refine Oa (Nl<|PS<|rv r (resV.c aa r ag26 r) (resV.c a3 r ag26 r) (SV r)<|Rc ?_ ab.below);refine⟨_,_,_,rfl,?_,?_,?_⟩
  ·exact SS (a:=(mkSg (a.neg != b.neg)<|digs<|val (trim a.mag)/val (trim b.mag))) ((Jl z).tr ab.wb) (by exact Y4 (Yd _) (by rw[Z3,tva,tvb];exact(l6 p<|.inr (hmz.1 o)).1))
  ·exact SS (a:=(mkSg false<|digs<|val (trim a.mag)%val (trim b.mag))) ((Jl Y).tr ab.wb) (by exact Y4 (Yd _) (by rw[Z3,tva,tvb,y1];exact(l6 p<|.inr (hmz.1 o)).2))
  ·skip
   rfl
 refine Om (Oz<|Oz<|Oz<|OF<|Nl<|Uc<|Rg<|Ol<|PJ Xc rfl<|Ol<|PO i pl4 r rfl<|Ol<|PJ Xc rfl<|Ol<|PO j pl4 r rfl<|Ol<|RP un4 r r rfl<|Ub<|PK I zm r r (Yr I.bd D WC) ?_);intro _ _ ax ad a5;have k:=k.sp ad;have d:=d.spn ad;obtain⟨a6,a7,rfl,A⟩:=RV.int a5;refine Om (Ol<|PK ax zm r r (Yr ax.bd k WN) ?_);intro _ _ a8 ae a9;have A:=A.sp ae;have g:=(g.spn ad).spn ae;obtain⟨ba,bb,rfl,af⟩:=RV.int a9;refine On (Us (cs':=(zzC (mkSg (a.neg != b.neg)<|digs<|val (trim a.mag)/val (trim b.mag)) a6 a7)) a8 g io26 ?_);intro _ bc ag ah;have d:=(d.spn ae).spo ag (TA B);refine On (Us (cs':=(zzC (mkSg false<|digs<|val (trim a.mag)%val (trim b.mag)) ba bb)) bc d io26 ?_);intro _ ai aj be;have A:=(A.sp ag).sp aj;have af:=(af.sp ag).sp aj;have ah:=ah.spo aj B;refine Oa (Nl<|PS<|rv r (resV.c ah r ag26 r) (resV.c be r ag26 r) (SV r)<|Rc ?_ ai.below);refine⟨_,_,_,rfl,?_,?_,?_⟩
 ·exact SS (a:=(mkSg (a.neg != b.neg)<|digs<|val (trim a.mag)/val (trim b.mag))) ((Jl A).tr ai.wb) (by exact Y4 (Yd _) (by rw[Z3,tva,tvb];exact(l6 p<|.inl s).1))
 ·exact SS (a:=(mkSg false<|digs<|val (trim a.mag)%val (trim b.mag))) ((Jl af).tr ai.wb) (by exact Y4 (Yd _) (by rw[Z3,tva,tvb,y1];exact(l6 p<|.inl s).2))
 ·skip
  rfl
end
end Go.Wf
namespace Go.Ev
open Go Go.Wf
def len{α:Type}(l:List α):Nat:=List.rec 0 (fun _ _ ih=>Nat.succ ih) l
theorem wy{n h:Nat}(e:Nat.blt n h=true):n<h:=TG e
end Go.Ev
namespace Go.Ev
open Go Go.Wf Go.RowKit
section
variable {P:Program} {ρ:Operand→Value} {dst:Option Tmp} {ty yt t:TypeId} {pos:String} {after:Array Edge} {gd:Option (Nat×Bool)} {w:World} {x y:Operand}
theorem eqIn(t:TypeId)(a b:Value):Op.equal t a b=Op.equalIn (9999+1) t a b:=rfl
section
variable {d:Nat} {p q:Value} {el:TypeId}
end
theorem eqI2{m:Array (String×TypeId)}{d:Nat}{u:TypeId}{p:Value}(hq:P.underlying t=some (.interface m)):(Op.equalIn (d+1) t (.iface u p) .nilIface).run P w= .ok false w:=by simp[Op.equalIn,run_underlying hq]
theorem eqI0{m:Array (String×TypeId)}{d:Nat}(hq:P.underlying t=some (.interface m)):(Op.equalIn (d+1) t .nilIface .nilIface).run P w= .ok true w:=by simp[Op.equalIn,run_underlying hq]
end
section
variable {P:Program} {f:Fr}
end
section
variable {P:Program} {n:Nat}
end
section
variable {fc:Fence} [Fw fc] {P:Program} {ops:Array Oper} {n:Nat} {D:List Deferred} {Q:Wf.Post} {f0:Wf.Fr} {w0:World}
theorem CM (Inv:Array Bool→Wf.Fr→World→Prop) (back:∀(k:Nat) (o:Oper),ops[k]? =some o→∀e∈o.after,Region.binds .any e=true→e.on<k)
  (hstep:∀(L:Array Bool) (i:Nat) (o:Oper) (f:Wf.Fr) (w:World),L.size=ops.size→Xl ops L→ops[i]? =some o→L.getD i true=false→(∀e∈o.after,Region.binds .any e=true→L.getD e.on false=true)→Inv L f w→
   lo n o.dst∧OpSt P ops f o w (fun v w'=>Inv (L.setIfInBounds i true) (updO f o.dst v) w') (fun _ _=>False))
  (hfin:∀L f w,L.size=ops.size→(∀i,i<ops.size→L.getD i true=true)→Inv L f w→Q .normal f w):
  ∀(fuel:Nat) (L:Array Bool) (a:Act) (w:World),unl ops.size L=fuel→L.size=ops.size→Xl ops L→Wf.Good n D a→Inv L (frOf a) w→
   wpAnyIn fc 0 P .any ops (fun e a' w'=>Wf.Good n D a'∧Q e (frOf a') w') fuel L a w:=by
 intro fuel;have bridge:∀(L:Array Bool),L.size=ops.size→∀i,i<ops.size→L.getD i false=L.getD i true:=by
  intro L hs i hi
  have:L[i]? =some L[i]:=by simp[hs,hi]
  simp[Ts,this]
 induction fuel with
 |zero=>
  intro L a w hu hs hc ha hI;have hall:=qf hu;refine⟨?_,⟨ha,hfin L _ w hs hall hI⟩⟩;rw[Uw];intro i hi;obtain⟨d,b,_⟩:=J4.1 hi;rw[hall i d] at b;cases b
 |succ fuel ih=>
  intro L a w hu hs hc ha hI;refine⟨?_,?_⟩
  ·intro hnil;refine⟨ha,hfin L _ w hs ?_ hI⟩;intro i hi;refine T6 fun hne=>?_
   have hex:∃i,i<ops.size∧L.getD i true=false:=⟨i,hi,by cases hb:L.getD i true with|false=>rfl|true=>exact absurd hb hne⟩;have hmin:∃i,i<ops.size∧L.getD i true=false∧∀j,j<i→L.getD j true=true:=by
    obtain⟨i,hi,hb⟩:=hex;clear hne
    induction i using Nat.strongRecOn with
    |_ i ihh=>
     by_cases h:∃j,j<i∧L.getD j true=false
     ·obtain⟨j,hj,hjb⟩:=h;exact ihh j hj ω hjb
     ·refine⟨i,hi,hb,fun j hj=>?_⟩
      cases hjb:L.getD j true with
      |true=>rfl
      |false=>exact absurd ⟨j,hj,hjb⟩ h
   obtain⟨i0,g,m,hlow⟩:=hmin;have l:i0∈Region.ready .any ops L:=by
    have hok:ops[i0]? =some ops[i0]:=by simp[g]
    refine J4.2 ⟨g,m,ops[i0],hok,?_⟩;intro e he hbe;have hlt:=back i0 _ hok e he hbe;rw[bridge L hs _ ω];exact hlow _ hlt
   rw[hnil] at l;cases l
  ·intro i hi;obtain⟨d,b,o,ho,p⟩:=J4.1 hi;obtain⟨hlo,hst⟩:=hstep L i o (frOf a) w hs hc ho b p hI;refine zj (Kv:=fun v w'=>Inv (L.setIfInBounds i true) (updO (frOf a) o.dst v) w') (Kp:=fun _ _=>False) ho ha hst ?_ (fun _ _ h=>h.elim)
   intro v w' hK;refine ih _ _ _ ?_ M' ?_ (ha.put _ _) (by rw[Yp ha _ hlo];exact hK)
   ·have:=V8 hs d b;omega
   ·intro k hk hl o' ho' e he hb;rw[Ts,TB];by_cases e1:i=e.on
    ·subst e1;simp[hs,d]
    ·simp only[e1,if_false];rw[←Ts];by_cases e2:i=k
     ·subst e2;rw[ho] at ho';cases ho';exact p e he hb
     ·rw[Ts,TB] at hl;simp only[e2,if_false] at hl;rw[←Ts] at hl;exact hc k hk hl o' ho' e he hb
theorem SA {id:Nat} (hm:P.follows .mixedOrders=true) (Inv:Array Bool→Wf.Fr→World→Prop) (back:∀(k:Nat) (o:Oper),ops[k]? =some o→∀e∈o.after,Region.binds .any e=true→e.on<k)
  (b:Inv (Array.replicate ops.size false) f0 w0.drew)
  (hstep:∀(L:Array Bool) (i:Nat) (o:Oper) (f:Wf.Fr) (w:World),L.size=ops.size→Xl ops L→ops[i]? =some o→L.getD i true=false→(∀e∈o.after,Region.binds .any e=true→L.getD e.on false=true)→Inv L f w→
   lo n o.dst∧OpSt P ops f o w (fun v w'=>Inv (L.setIfInBounds i true) (updO f o.dst v) w') (fun _ _=>False))
  (hfin:∀L f w,L.size=ops.size→(∀i,i<ops.size→L.getD i true=true)→Inv L f w→Q .normal f w):
  W fc P (Code.region id ops true) n D Q f0 w0:=by
 intro a ha hf;refine wpIn_region_any hm ?_;have hz:∀i,i<ops.size→(Array.replicate ops.size false).getD i true=false:=by
  intro i hi;simp[Ts,hi]
 refine CM Inv back hstep hfin ops.size _ a _ ?_ χ ?_ ha (by rw[hf];exact b)
 ·unfold unl
  have:(List.range ops.size).countP (fun i=> !(Array.replicate ops.size false).getD i true)=(List.range ops.size).length:=by
   refine Up.2 ?_;intro i hi;simp[hz i ς]
  rw[this];simp
 ·intro k hk hl;rw[hz k hk] at hl;cases hl
end
section
variable {fc:Fence} [Fw fc] {P:Program} {n:Nat} {D:List Deferred} {Q:Wf.Post} {f0:Wf.Fr} {w0:World}
def hasE(a:Array Edge)(k:Nat):Bool:=a.toList.any fun e=>Region.binds .any e&&Nat.beq e.on k
theorem sK{a:Array Edge}{k:Nat}(h:hasE a k=true):∃e∈a,Region.binds .any e=true∧e.on=k:=by
 unfold hasE at h;rw[List.any_eq_true] at h;obtain⟨e,d,b⟩:=h;rw[T2] at b;exact⟨e,Array.mem_toList_iff.1 d,b.1,VC b.2⟩
def lowE(a:Array Edge)(k:Nat):Bool:=a.toList.all fun e=>Nat.blt e.on k
theorem xg{a:Array Edge}{k:Nat}(h:lowE a k=true){e:Edge}(he:e∈a):e.on<k:=by
 unfold lowE at h;exact TG (Um.1 h e (Array.mem_toList_iff.2 he))
theorem nB(f:Wf.Fr)(d:Nat)(v:Value):updO f (some d) v d=v:=by show Wf.upd f d v d=v;unfold Wf.upd;rw[if_pos rfl]
theorem Zu{f:Wf.Fr}{t d:Nat}(h:t≠d)(v:Value):updO f (some d) v t=f t:=by show Wf.upd f d v t=f t;unfold Wf.upd;rw[if_neg h]
theorem W.swapRem {id ty a b c d p q:Nat} {k:IntKind} {x y z:Int} {l s A B C E:String} {I t1 t2 t3 J K yt:TypeId} {H e1 e2 F G g:Array Edge}
  (hm:P.follows .mixedOrders=true)
  (hne:(Nat.beq a b||Nat.beq a c||Nat.beq a d||Nat.beq a p||Nat.beq a q||Nat.beq b c||Nat.beq b d||Nat.beq b p||Nat.beq b q||Nat.beq c d||Nat.beq c p||Nat.beq c q||Nat.beq d p||Nat.beq d q||Nat.beq p q)=false)
  (hlo:(Nat.blt a n&&Nat.blt b n&&Nat.blt c n&&Nat.blt d n&&Nat.blt p n&&Nat.blt q n)=true)
  (hlow:(lowE H 0&&lowE e1 1&&lowE e2 2&&lowE F 3&&lowE G 4&&lowE g 5)=true)
  (hed:(hasE F 1&&hasE F 2&&hasE G 0&&hasE G 1&&hasE g 0&&hasE g 2&&hasE g 3)=true)
  (hp:f0 p= .int k x) (hq:f0 q= .int k y) (hy:y≠0) (hz:x.tmod y=z)
  (h:∀f,Keep [a,b,c,d,p,q] f0 f→f p= .int k y→f q= .int k z→Q .normal f w0.drew):
  W fc P (Code.region id #[⟨some a,.move (.tmp q),I,l,H,none⟩,⟨some b,.move (.tmp p),t1,s,e1,none⟩,⟨some c,.move (.tmp q),t2,A,e2,none⟩,
   ⟨some d,.binOp .rem ty (.tmp b) (.tmp c) yt,t3,B,F,none⟩,⟨some p,.assign (.tmp a),J,C,G,none⟩,⟨some q,.assign (.tmp d),K,E,g,none⟩] true) n D Q f0 w0:=by
 have ne:∀i j,Nat.beq i j=false→i≠j:=fun i j hh e=>by subst e;simp at hh
 simp only[T4] at hne;obtain⟨⟨⟨⟨⟨⟨⟨⟨⟨⟨⟨⟨⟨⟨ab,ac⟩,ad⟩,ap⟩,aq⟩,bc⟩,bd⟩,bp⟩,bq⟩,cd⟩,cp⟩,cq⟩,dp⟩,dq⟩,pq⟩:=hne;replace ab:=ne _ _ ab;replace ac:=ne _ _ ac;replace ad:=ne _ _ ad;replace ap:=ne _ _ ap;replace aq:=ne _ _ aq;replace bc:=ne _ _ bc;replace bd:=ne _ _ bd;replace bp:=ne _ _ bp;replace bq:=ne _ _ bq;replace cd:=ne _ _ cd;replace cp:=ne _ _ cp;replace cq:=ne _ _ cq;replace dp:=ne _ _ dp;replace dq:=ne _ _ dq;replace pq:=ne _ _ pq;simp only[T2] at hlo hlow hed;obtain⟨⟨⟨⟨⟨la,lb⟩,lc⟩,ld⟩,lp⟩,lq⟩:=hlo;obtain⟨⟨⟨⟨⟨w0e,w1e⟩,w2e⟩,w3e⟩,w4e⟩,w5e⟩:=hlow;obtain⟨⟨⟨⟨⟨⟨M,N⟩,R⟩,S⟩,T⟩,U⟩,V⟩:=hed;refine SA hm (fun L f w=>w=w0.drew∧Keep [a,b,c,d,p,q] f0 f∧(L.getD 0 true=true→f a= .int k y)∧(L.getD 1 true=true→f b= .int k x)∧(L.getD 2 true=true→f c= .int k y)∧(L.getD 3 true=true→f d= .int k z)∧
  (L.getD 4 true=false→f p= .int k x)∧(L.getD 4 true=true→f p= .int k y)∧(L.getD 5 true=false→f q= .int k y)∧(L.getD 5 true=true→f q= .int k z)) ?_ ?_ ?_ ?_
 ·intro i o ho e he _
  match i,ho with
  |0,ho=>cases ho;exact xg w0e he
  |1,ho=>cases ho;exact xg w1e he
  |2,ho=>cases ho;exact xg w2e he
  |3,ho=>cases ho;exact xg w3e he
  |4,ho=>cases ho;exact xg w4e he
  |5,ho=>cases ho;exact xg w5e he
  |i+6,ho=>simp at ho
 ·refine⟨rfl,fun _ _=>rfl,?_,?_,?_,?_,fun _=>hp,?_,fun _=>hq,?_⟩<;>intro hh<;>simp at hh
 ·intro L i o f w hs hc ho hi hed hI;obtain⟨rfl,hK,i0,i1,i2,i3,i4,i4',i5,i5'⟩:=hI;have gs:∀u v:Nat,u<6→(L.setIfInBounds u true).getD v true=if u=v then true else L.getD v true:=by
   intro u v hu;have hs':L.size=6:=hs;rw[Ts,TB];by_cases e:u=v
   ·subst e;simp[hs',hu]
   ·rw[if_neg e,if_neg e,Ts]
  have tf:∀u:Nat,u<6→L.getD u false=L.getD u true:=by
   intro u hu;have hs':L.size=6:=hs;simp[Ts,hs',hu]
  have dn:∀ {u:Nat} (ha:hasE o.after u=true),u<6→L.getD u true=true:=fun ha hu=>by
   obtain⟨e,he,hb,rfl⟩:=sK ha;rw[←tf _ hu];exact hed e he hb
  have nd:∀(m u:Nat) (o':Oper),m<6→u<6→(#[⟨some a,.move (.tmp q),I,l,H,none⟩,⟨some b,.move (.tmp p),t1,s,e1,none⟩,⟨some c,.move (.tmp q),t2,A,e2,none⟩,
   ⟨some d,.binOp .rem ty (.tmp b) (.tmp c) yt,t3,B,F,none⟩,⟨some p,.assign (.tmp a),J,C,G,none⟩,⟨some q,.assign (.tmp d),K,E,g,none⟩]:Array Oper)[m]? =some o'→hasE o'.after u=true→L.getD u true=false→L.getD m true=false:=by
   intro m u o' X hu ho' ha hf;cases Y:L.getD m true with
   |false=>rfl
   |true=>
    obtain⟨e,he,hb,rfl⟩:=sK ha;have Z:=hc m X Y o' ho' e he hb;rw[tf _ hu,hf] at Z;cases Z
  match i,ho,hi with
  |0,ho,hi=>
   cases ho;have hv:=i5 (nd 5 0 _ δ δ r T hi);refine⟨TG la,P1 (PP ?_)⟩;refine⟨rfl,Keep.updO χ hK,?_,?_,?_,?_,?_,?_,?_,?_⟩
   ·rw[gs 0 0 δ];intro _;exact(nB _ _ _).trans hv
   ·rw[gs 0 1 δ];intro hh;exact(Zu (TA ab) _).trans (i1 ε)
   ·rw[gs 0 2 δ];intro hh;exact(Zu (TA ac) _).trans (i2 ε)
   ·rw[gs 0 3 δ];intro hh;exact(Zu (TA ad) _).trans (i3 ε)
   ·rw[gs 0 4 δ];intro hh;exact(Zu (TA ap) _).trans (i4 ε)
   ·rw[gs 0 4 δ];intro hh;exact(Zu (TA ap) _).trans (i4' ε)
   ·rw[gs 0 5 δ];intro hh;exact(Zu (TA aq) _).trans (i5 ε)
   ·rw[gs 0 5 δ];intro hh;exact(Zu (TA aq) _).trans (i5' ε)
  |1,ho,hi=>
   cases ho;have hv:=i4 (nd 4 1 _ δ δ r S hi);refine⟨TG lb,P1 (PP ?_)⟩;refine⟨rfl,Keep.updO χ hK,?_,?_,?_,?_,?_,?_,?_,?_⟩
   ·rw[gs 1 0 δ];intro hh;exact(Zu ab _).trans (i0 ε)
   ·rw[gs 1 1 δ];intro _;exact(nB _ _ _).trans hv
   ·rw[gs 1 2 δ];intro hh;exact(Zu (TA bc) _).trans (i2 ε)
   ·rw[gs 1 3 δ];intro hh;exact(Zu (TA bd) _).trans (i3 ε)
   ·rw[gs 1 4 δ];intro hh;exact(Zu (TA bp) _).trans (i4 ε)
   ·rw[gs 1 4 δ];intro hh;exact(Zu (TA bp) _).trans (i4' ε)
   ·rw[gs 1 5 δ];intro hh;exact(Zu (TA bq) _).trans (i5 ε)
   ·rw[gs 1 5 δ];intro hh;exact(Zu (TA bq) _).trans (i5' ε)
  |2,ho,hi=>
   cases ho;have hv:=i5 (nd 5 2 _ δ δ r U hi);refine⟨TG lc,P1 (PP ?_)⟩;refine⟨rfl,Keep.updO χ hK,?_,?_,?_,?_,?_,?_,?_,?_⟩
   ·rw[gs 2 0 δ];intro hh;exact(Zu ac _).trans (i0 ε)
   ·rw[gs 2 1 δ];intro hh;exact(Zu bc _).trans (i1 ε)
   ·rw[gs 2 2 δ];intro _;exact(nB _ _ _).trans hv
   ·rw[gs 2 3 δ];intro hh;exact(Zu (TA cd) _).trans (i3 ε)
   ·rw[gs 2 4 δ];intro hh;exact(Zu (TA cp) _).trans (i4 ε)
   ·rw[gs 2 4 δ];intro hh;exact(Zu (TA cp) _).trans (i4' ε)
   ·rw[gs 2 5 δ];intro hh;exact(Zu (TA cq) _).trans (i5 ε)
   ·rw[gs 2 5 δ];intro hh;exact(Zu (TA cq) _).trans (i5' ε)
  |3,ho,hi=>
   cases ho;have hb:=i1 (dn M δ);have aa:=i2 (dn N δ);refine⟨TG ld,P1 (RI hb aa hy hz ?_)⟩;refine⟨rfl,Keep.updO χ hK,?_,?_,?_,?_,?_,?_,?_,?_⟩
   ·rw[gs 3 0 δ];intro hh;exact(Zu ad _).trans (i0 ε)
   ·rw[gs 3 1 δ];intro hh;exact(Zu bd _).trans (i1 ε)
   ·rw[gs 3 2 δ];intro hh;exact(Zu cd _).trans (i2 ε)
   ·rw[gs 3 3 δ];intro _;exact(nB _ _ _).trans r
   ·rw[gs 3 4 δ];intro hh;exact(Zu (TA dp) _).trans (i4 ε)
   ·rw[gs 3 4 δ];intro hh;exact(Zu (TA dp) _).trans (i4' ε)
   ·rw[gs 3 5 δ];intro hh;exact(Zu (TA dq) _).trans (i5 ε)
   ·rw[gs 3 5 δ];intro hh;exact(Zu (TA dq) _).trans (i5' ε)
  |4,ho,hi=>
   cases ho;have hv:=i0 (dn R δ);refine⟨TG lp,P1 (RD ?_)⟩;refine⟨rfl,Keep.updO χ hK,?_,?_,?_,?_,?_,?_,?_,?_⟩
   ·rw[gs 4 0 δ];intro hh;exact(Zu ap _).trans (i0 ε)
   ·rw[gs 4 1 δ];intro hh;exact(Zu bp _).trans (i1 ε)
   ·rw[gs 4 2 δ];intro hh;exact(Zu cp _).trans (i2 ε)
   ·rw[gs 4 3 δ];intro hh;exact(Zu dp _).trans (i3 ε)
   ·rw[gs 4 4 δ];intro hh;simp at hh
   ·rw[gs 4 4 δ];intro _;exact(nB _ _ _).trans hv
   ·rw[gs 4 5 δ];intro hh;exact(Zu (TA pq) _).trans (i5 ε)
   ·rw[gs 4 5 δ];intro hh;exact(Zu (TA pq) _).trans (i5' ε)
  |5,ho,hi=>
   cases ho;have hv:=i3 (dn V δ);refine⟨TG lq,P1 (RD ?_)⟩;refine⟨rfl,Keep.updO χ hK,?_,?_,?_,?_,?_,?_,?_,?_⟩
   ·rw[gs 5 0 δ];intro hh;exact(Zu aq _).trans (i0 ε)
   ·rw[gs 5 1 δ];intro hh;exact(Zu bq _).trans (i1 ε)
   ·rw[gs 5 2 δ];intro hh;exact(Zu cq _).trans (i2 ε)
   ·rw[gs 5 3 δ];intro hh;exact(Zu dq _).trans (i3 ε)
   ·rw[gs 5 4 δ];intro hh;exact(Zu pq _).trans (i4 ε)
   ·rw[gs 5 4 δ];intro hh;exact(Zu pq _).trans (i4' ε)
   ·rw[gs 5 5 δ];intro hh;simp at hh
   ·rw[gs 5 5 δ];intro _;exact(nB _ _ _).trans hv
  |i+6,ho,hi=>simp at ho
 ·intro L f w hs hall hI;obtain⟨rfl,hK,_,_,_,_,_,i4',_,i5'⟩:=hI;exact h f hK (i4' (hall 4 χ)) (i5' (hall 5 χ))
end
end Go.Ev
namespace Go.Wf
open Go Go.Proofs Go.RowKit
variable{a b:GRat}{v0 v1:Value}
section
variable{X:Nat→Prop}{w:World}(hX:XB X w)
include hX
theorem vk{i:Value}{a:GInt}(M:RV Z0 X w i a){j:Value}{b:GInt}(N:RV Z0 X w j b)(hla:a.mag.length≤274877906944)(hlb:b.mag.length≤274877906944)(P:val b.mag≠0)(hd:a.toZ%b.toZ=0):CRt 184 #[i,j] w fun v w'=>(∃i j,v= .tuple #[i,j]∧(RV Z0 X w' i (ofZ (a.toZ/b.toZ)))∧(j=(.int .i64 0))):=by
 obtain⟨a1,Q,rfl,k⟩:=RV.int M;obtain⟨R,S,rfl,l⟩:=RV.int N;have C:=PV hX;have sa:=M.int_small;have sb:=N.int_small;have ao:(ofZ<|a.toZ%b.toZ).mag.length=0:=by rw[hd];rfl
 refine Cgo Tryz.func184 r r r (Rg<|Ol<|QA C r ?_);intro _ _ _ _ _ T G m;have k:=k.sp G;have l:=l.sp G;refine Ol (QA T r ?_);intro _ _ _ _ _ U p s;refine Ol (PU U io26 r ?_);intro _ _ _ _ _ H g d;have k:=(k.sp p).sp g;have l:=(l.sp p).sp g;have m:=(m.spn p).spn g;have s:=s.spn g;refine Oa (Nl<|Rg<|Ol<|Uo (vs:=(zzC a a1 Q)) m ag26<|Ol<|Uo (vs:=(zzC b R S)) s ag26<|Ol<|PK H Ot r r (Ab H.bd (a:=a) (Jl k) (b:=b) (Jl l) hla hlb P) ?_);intro _ _ V Y Z;have d:=d.spn Y;obtain⟨_,_,_,rfl,aa,ab,rfl⟩:=Z;obtain⟨x,y,rfl,e⟩:=RV.int aa;obtain⟨ac,ad,rfl,_⟩:=RV.int ab;refine Om (Ol<|St.extract r rfl<|Ol<|St.extract r rfl<|Ol<|St.extract r rfl<|Ol<|PU V io26 r ?_);intro _ _ _ _ L ae I h;have af:=L _ d.blk.lt;have e:=e.sp I;have d:=d.spn I;refine Ol (PU ae io26 r ?_);intro _ _ _ _ z ag A B;have ah:=z _ d.blk.lt;have J:=z _ h.blk.lt;have d:=d.spn A;have h:=h.spn A;refine On (Us (cs':=(zzC (ofZ<|a.toZ/b.toZ) x y)) ag h io26 ?_);intro _ ai D E;have e:=(e.sp A).sp D;have B:=B.spo D (TA J);refine On (Us (cs':=(zzC (ofZ<|a.toZ%b.toZ) ac ad)) ai B io26 ?_);intro _ aj F ak;have d:=(d.spo D af).spo F ah;have E:=E.spo F J;refine Oa (Nl<|Rh<|Ub<|Rj (t:=false) r r (by rw[decide_eq_true rfl];rfl)<|Nl<|Uc<|Rh<|Ol<|PJ Yu rfl<|Ol<|PO ak pl24 r rfl<|Ol<|St.len sl24 rfl<|Ol<|Rw (t:=false) r r (decide_eq_false o)<|Nl ?_);refine PL r (PR<|Rg<|Ol<|Uo (vs:=(zzC (ofZ<|a.toZ/b.toZ) x y)) E ag26<|On<|Us (cs':=(zzC (ofZ<|a.toZ/b.toZ) x y)) aj d io26 ?_);intro _ K am an;have e:=(e.sp F).sp am;refine Oa (Nl<|PS<|Jg r r r an ag26 K ?_);refine⟨_,_,rfl,?_,?_⟩
 ·exact SS (a:=(ofZ<|a.toZ/b.toZ)) ((Jl e).tr K.wb) r
 ·skip
  rfl
theorem De{M:Value}{a:List Nat}(N:RS Jh X w M a){P:Value}{b:List Nat}(Q:RS Jh X w P b)(ha:trim a=a)(hb:trim b=b)(hla:a.length≤549755813888)(hlb:b.length≤549755813888):CRt 221 #[M,P] w fun v w'=>RS Jh X w' v (digs (Nat.gcd (val a) (val b))):=by
 obtain⟨a1,R,rfl,_,_⟩:=N.len;obtain⟨S,T,rfl,_,_⟩:=Q.len;have C:=PV hX;refine Cgo Tryz.func221 r r r (Rg<|Ua<|PT<|W.block<|P7 (fun μ f v=>∃(x y:Nat→Prop) (p:Option Addr) (pc:Nat) (q:Option Addr) (qc:Nat) (A:List Nat) (B:List Nat),Cx X w x y v∧f 0=(S12 p A pc)∧f 1=(S12 q B qc)∧RS Jh x v (S12 p A pc) A∧RS Jh x v (S12 q B qc) B∧trim A=A∧trim B=B∧A.length≤549755813888∧B.length≤549755813888∧Nat.gcd (val A) (val B)=Nat.gcd (val a) (val b)∧μ=(val B)) _ ⟨_,_,a1,R,S,T,a,b,C,rfl,rfl,N,Q,ha,hb,hla,hlb,rfl,rfl⟩ ?_);rintro _ _ _ ⟨_,_,p,pc,q,qc,A,B,d,i,j,hA,hB,hAt,hBt,hlA,hlB,hg,_⟩;obtain⟨_,rfl⟩:=rebK (aC i<|aC j aN);clear i j;have sA:=hA.u32_small;have sB:=hB.u32_small;refine Rh<|Ub<|St.len sl24 rfl<|Ol<|QN r r (fun e=>?_)<|fun e=>?_
 ·refine Nl<|Ud<|PR<|W.block<|Rh<|Ub<|St.len sl24 rfl<|Ol<|Rt r r (fun H=>?_)<|fun H=>?_
  ·refine Om<|OgD<|PP<|OgD<|St.len sl24 rfl<|OgD<|Rt r r (fun I=>?_)<|fun I=>?_
   ·refine OT (Nl<|Uf<|Ub<|PK d DO r r (tW d.bd hA o) ?_);intro _ _ k U V;have hB:=hB.sp U;subst V;refine Om (Ol<|PK k DO r r (tW k.bd hB o) ?_);intro _ _ Y _ Z;subst Z;refine Oa (Ua<|PT<|W.block<|P7 (fun μ f v=>∃(x y:Nat→Prop) (xx:Nat) (yy:Nat),Cx X w x y v∧f 5=(.int .u64 xx)∧f 6=(.int .u64 yy)∧xx<18446744073709551616∧yy<18446744073709551616∧Nat.gcd xx yy=Nat.gcd (val a) (val b)∧μ=yy) _ ⟨_,_,(val A),(val B),Y,rfl,rfl,(Vs sA o),(Vs sB o),hg,rfl⟩ ?_);rintro _ _ _ ⟨_,_,xx,yy,h,l,m,hx,hy,hxy,_⟩;obtain⟨_,rfl⟩:=rebK (aC l<|aC m aN);clear l m;refine Rh<|Ub<|QH r r (fun J=>?_)<|fun J=>?_
    ·refine Nl (Ud<|PR<|W.block<|Go.Ev.W.swapRem mixed r r κ κ r r o (yu xx yy) ?_);intro aa g K L;have ab:=RB h;have ac:=ab.cx;have g:Keep [26,27,28,29,5,6] _ aa:=g;obtain⟨_,rfl⟩:=mixK g (aC K<|aC L aN);refine⟨_,(by have:=Tp xx (show 0<yy by omega);omega),_,_,yy,xx%yy,ac,rfl,rfl,hy,(by have:=Tp xx (show 0<yy by omega);omega),(by rw[oM,hxy]),rfl⟩
    refine Nl (Ue<|QB<|Rg<|Ub<|PK h rI r r (mA h.bd (n:=xx) hx) ?_);intro _ _ s _ z;obtain⟨_,_,rfl,_,_⟩:=z.len;exact Ua<|PS<|Wq r r s<|SX ((z:RS _ _ _ _ _).tr s.wb)<|(by rw[←hxy,show yy=0 by omega,Nat.gcd_zero_right])
   refine OT (Nl<|Uc<|PT ?_);have hBn:B≠[]:=by rintro rfl;simp at e
   have hBp:0<val B:=Ti (VY δ) (Vx hBt hBn);refine PN (Om<|Ub<|PK d Iz r r (pv d.bd hA hB hAt hBt hBn hlA hlB) ?_);intro _ _ ad ae af;have hB:=hB.sp ae;obtain⟨_,_,rfl,ag,D⟩:=af;obtain⟨_,_,rfl,_,_⟩:=ag.len;obtain⟨ah,ai,rfl,_,_⟩:=D.len;refine Ub<|St.extract r rfl<|Ol<|St.extract r rfl<|Oa<|Ua<|PN<|Om<|Om<|Oa<|Ua<|⟨_,XN,_,_,q,qc,ah,ai,B,(digs<|val A%val B),ad,rfl,rfl,hB,D,hBt,(zo _),hlB,(Tj (zh sB hBp) hlB),(by rw[Z3,oM,hg]),rfl⟩
  refine Om (Oz<|Oz<|Oz<|OF<|Nl<|Uc<|PT ?_);have hBn:B≠[]:=by rintro rfl;simp at e
  have hBp:0<val B:=Ti (VY δ) (Vx hBt hBn);refine PN (Om<|Ub<|PK d Iz r r (pv d.bd hA hB hAt hBt hBn hlA hlB) ?_);intro _ _ aj ak am;have hB:=hB.sp ak;obtain⟨_,_,rfl,an,E⟩:=am;obtain⟨_,_,rfl,_,_⟩:=an.len;obtain⟨ao,aq,rfl,_,_⟩:=E.len;refine Ub<|St.extract r rfl<|Ol<|St.extract r rfl<|Oa<|Ua<|PN<|Om<|Om<|Oa<|Ua<|⟨_,XN,_,_,q,qc,ao,aq,B,(digs<|val A%val B),aj,rfl,rfl,hB,E,hBt,(zo _),hlB,(Tj (zh sB hBp) hlB),(by rw[Z3,oM,hg]),rfl⟩
 refine Nl (Ue<|QB<|Rg<|Ub<|PK d Ca r r (md d.bd hA o) ?_);intro _ _ F _ G;obtain⟨_,_,rfl,_,_⟩:=G.len;exact Ua<|PS<|Wq r r F<|SX ((G:RS _ _ _ _ _).tr F.wb)<|(by rw[←hg,show val B=0 by rw[TD (show B.length=0 by omega)];rfl,Nat.gcd_zero_right];exact MK hAt sA)
theorem Fl{H:Value}{a:GInt}(I:RV Z0 X w H a){J:Value}{b:GInt}(K:RV Z0 X w J b)(hla:a.mag.length≤549755813888)(hlb:b.mag.length≤549755813888):CRt 183 #[H,J] w fun v w'=>RV Z0 X w' v (ofZ (Int.gcd a.toZ b.toZ:Int)):=by
 obtain⟨a1,L,rfl,m⟩:=RV.int I;obtain⟨M,N,rfl,p⟩:=RV.int K;have C:=PV hX;have sa:=I.int_small;have sb:=K.int_small;have tla:=Jx a.mag;have tlb:=Jx b.mag;have gl:=GS (Zo sa) (Zo sb);refine Cgo Tryz.func183 r r r (Rg<|Ol<|QA C r ?_);intro g7 _ _ _ _ P z g;refine Ol (QA P r ?_);intro Q _ _ _ _ R s x;have m:=(m.sp z).sp s;have p:=(p.sp z).sp s;have g:=g.spn s;refine Ol (PU R io26 r ?_);intro _ _ _ _ _ S l h;refine Nl<|PT<|QL mixed 5 [[],[0],[1],[],[3]] S [fx<|.pointer (some ⟨g7,1,none⟩),fx<|.slice a1 a.mag.length L,fs Jh<|trim a.mag,fx<|.pointer (some ⟨Q,1,none⟩),fx<|.slice M b.mag.length N] κ ⟨sx,sx,ss,sx,sx,trivial⟩ fun T i _ ⟨d,j⟩ e=>?_
 have m:=(m.sp l).sp j;have p:=(p.sp l).sp j;have g:=(g.spn l).spn j;have x:=(x.spn l).spn j;have e:Keep [5,6,7,8,9] _ T:=e;refine⟨⟨fun _=>?_,fun⟨U,_⟩=>?_,fun⟨V,_⟩=>?_,fun _=>?_,fun⟨Y,_⟩=>?_,trivial⟩,fun⟨Z,aa,k,ab,ac,_⟩=>?_⟩
 ·exact Sd0 e fun _=>PJ Yu r ⟨i,PQ d,rfl⟩
 ·exact Sd1 e U fun _=>PO g pl24 r r ⟨i,PQ d,rfl⟩
 ·refine Sd1 e V fun _=>PK d Vq r r (Zq d.bd m o) ?_;intro _ _ ad ae af;exact⟨i,⟨ad,ae⟩,af⟩
 ·exact Sd0 e fun _=>PJ Yu r ⟨i,PQ d,rfl⟩
 ·exact Sd1 e Y fun _=>PO x pl24 r r ⟨i,PQ d,rfl⟩
 obtain⟨_,_,ag,k⟩:=RS.opn k;obtain⟨_,rfl⟩:=mixK e (aC Z<|aC aa<|aC ag<|aC ab<|aC ac aN);refine Ol (PK d Vq r r (Zq d.bd p o) ?_);intro _ _ A B D;have k:=k.sp B;have h:=(h.spn j).spn B;obtain⟨_,_,rfl,_,_⟩:=D.len;refine Ol (PK A OR r r (De A.bd k D (Qr sa) (Qr sb) o o) ?_);intro _ _ E ah F;obtain⟨_,_,rfl,_,_⟩:=F.len;refine Ol (PK E zm r r (Yr E.bd F o) ?_);intro _ _ ai aj ak;have h:=(h.spn ah).spn aj;obtain⟨am,an,rfl,y⟩:=RV.int ak;refine On (Us (cs':=(zzC (mkSg false<|digs<|Nat.gcd (val<|trim a.mag)<|val<|trim b.mag) am an)) ai h io26 ?_);intro _ G ao aq;have y:=y.sp ao;refine Nl (PS<|J1 r r aq ag26 G ?_);exact SS (a:=(mkSg false<|digs<|Nat.gcd (val<|trim a.mag)<|val<|trim b.mag)) ((Jl y).tr G.wb) (by exact Y4 (Yd _) (by rw[Z3,Kt,Kt,←Jq,←Jq];rfl))
theorem oE{n:Int}(hlo: -9223372036854775808≤n)(hhi:n≤9223372036854775807):CRt 158 #[(.int .i64 n)] w fun v w'=>RV Z0 X w' v (ofZ n):=by
 have C:=PV hX;have P:(digs n.natAbs).length≤2:=Za o;refine Cgo Tryz.func158 r r r (Rg<|Ol<|PU C io26 r ?_);intro _ _ _ _ _ g _ b;refine Nl<|Rh<|Ub<|P2 r r (fun p=>?_)<|fun p=>?_
 ·refine Nl (Uf<|Ub<|P6 (z:=(n+18446744073709551616)) us3 Kq r WL<|Ol<|St.neg (z:=(n.natAbs:Int)) r WL<|Ol<|PK g rI r r (mA g.bd (n:=n.natAbs) o) ?_);intro _ _ h s i;obtain⟨_,_,rfl,_,_⟩:=i.len;refine Ol (PK h zm r r (Yr h.bd i o) ?_);intro _ _ x y A;have b:=(b.spn s).spn y;obtain⟨B,D,rfl,d⟩:=RV.int A;refine On (Us (cs':=(zzC (mkSg true<|digs n.natAbs) B D)) x b io26 ?_);intro _ j E F;have d:=d.sp E;refine Nl (PS<|J1 r r F ag26 j ?_);exact SS (a:=(mkSg true<|digs n.natAbs)) ((Jl d).tr j.wb) W5
 refine Nl (Uc<|Rg<|Ub<|P6 (z:=(n.natAbs:Int)) us3 Kq r WL<|Ol<|PK g rI r r (mA g.bd (n:=n.natAbs) o) ?_);intro _ _ k G l;obtain⟨_,_,rfl,_,_⟩:=l.len;refine Ol (PK k zm r r (Yr k.bd l o) ?_);intro _ _ H I J;have b:=(b.spn G).spn I;obtain⟨K,L,rfl,e⟩:=RV.int J;refine On (Us (cs':=(zzC (mkSg false<|digs n.natAbs) K L)) H b io26 ?_);intro _ m M N;have e:=e.sp M;refine Nl (PS<|J1 r r N ag26 m ?_);exact SS (a:=(mkSg false<|digs n.natAbs)) ((Jl e).tr m.wb) W5
end
theorem RV.rat_small{X:Nat→Prop}{w:World}{v:Value}(h:RV Y6 X w v a):Jr a.num.mag∧Jr a.den.mag:=by
 obtain⟨_,_,_,_,rfl,b,d⟩:=ST h;exact⟨b.u32_small,d.u32_small⟩
section
variable{X:Nat→Prop}{w:World}(hX:XB X w)
include hX
theorem r5{l:Value}{a:GInt}(m:RV Z0 X w l a)  :CRt 152 #[l] w fun v _=>v=(.bool (decide (a=ofZ 1))):=by
 obtain⟨a1,s,rfl,h⟩:=RV.int m;have C:=PV hX;have sa:=m.int_small;refine Cgo Tryz.func152 r r r (Rg<|Ol<|QA C r ?_);intro _ _ _ _ _ i p e;have h:=h.sp p;refine Ua<|Rg<|Ol<|PJ Yu rfl<|Ol<|PO e pl24 r rfl<|Ol<|St.len sl24 rfl<|Ol<|PW r r (fun b=>?_)<|fun b=>?_
 ·refine Om (OgD<|PJ Yu rfl<|OgD<|PO e pl24 r rfl<|OgD<|P4 (j:=0) (u:=(a.mag.getD 0 0)) h sl24 Js r r r (Je o) ?_);intro _ _ k g;obtain⟨rfl,_⟩:k=_∧_:=g.rd;refine OgD<|P0 Yj r (g.cell 0 _ r)<|OgD<|PW r r (fun d=>?_)<|fun d=>?_
  ·exact OT<|Om<|OgD<|PJ Xc rfl<|OgD<|PO e pl4 r rfl<|OgD<|QI rfl<|OT<|Ua<|PS<|Wq r r i<|YS<|Nt b d
  exact OT<|Om<|Oz<|Oz<|Oz<|OF<|Ua<|PS<|Wq r r i<|YS<|LW d
 exact Om<|Oz<|Oz<|Oz<|Oz<|Oz<|OF<|Om<|Oz<|Oz<|Oz<|OF<|Ua<|PS<|Wq r r i<|YS<|LK b
theorem yc{n:GInt}(r0:RV Z0 X w v0 n){d:GInt}(r1:RV Z0 X w v1 d)(hln:n.mag.length≤274877906944)(hld:d.mag.length≤274877906944):CRt 137 #[v0,v1] w fun v w'=>RV Y6 X w' v (ofQ (Rat.divInt n.toZ d.toZ)):=by
 obtain⟨a1,c2,rfl,h3⟩:=RV.int r0;obtain⟨a4,c5,rfl,h6⟩:=RV.int r1;have C:=PV hX;have sn:=r0.int_small;have sd:=r1.int_small;have hN:=Z1 sn;have hD:=Z1 sd;refine Cgo Tryz.func137 r r r (Rg<|Ol<|QA C r ?_);intro _ _ _ _ _ cU bQ I;refine Ol (QA cU r ?_);intro _ _ _ _ bX cV bb ab;have aa:=bX _ I.blk.lt;have h3:=(h3.sp bQ).sp bb;have h6:=(h6.sp bQ).sp bb;have I:=I.spn bb;refine Ol (PU cV io28 r ?_);intro _ _ _ _ bc cW a3 g;have a5:=bc _ I.blk.lt;have a6:=bc _ ab.blk.lt;refine Nl<|PT<|QL mixed 3 [[],[0],[]] cW [fx<|.agg #[(.bool n.neg),(S12 a1 n.mag c2)],fr Z0<|ofZ n.toZ,fx<|.agg #[(.bool d.neg),(S12 a4 d.mag c5)]] κ ⟨sx,sr,sx,trivial⟩ fun cX be _ ⟨ak,aO⟩ am=>?_
 have h3:=(h3.sp a3).sp aO;have h6:=(h6.sp a3).sp aO;have I:=(I.spn a3).spn aO;have ab:=(ab.spn a3).spn aO;have am:Keep [6,7,8] _ cX:=am;refine⟨⟨fun _=>?_,fun⟨cY,_⟩=>?_,fun _=>?_,trivial⟩,fun⟨cZ,c0,c1,_⟩=>?_⟩
 ·exact Sd0 am fun _=>QC (vs:=(zzC n a1 c2)) I ag26 r r r ⟨be,PQ ak,rfl⟩
 ·refine Sd1 am cY fun _=>PK ak IB r r (n7 ak.bd (a:=n) (Jl h3) o) ?_;intro _ _ c3 c4 c6;exact⟨be,⟨c3,c4⟩,c6⟩
 ·exact Sd0 am fun _=>QC (vs:=(zzC d a4 c5)) ab ag26 r r r ⟨be,PQ ak,rfl⟩
 obtain⟨G,H,c7,s⟩:=RV.int c0;obtain⟨_,rfl⟩:=mixK am (aC cZ<|aC c7<|aC c1 aN);refine Ol (PK ak IB r r (n7 ak.bd (a:=d) (Jl h6) o) ?_);intro _ _ c8 a7 c9;have I:=I.spn a7;have g:=(g.spn aO).spn a7;obtain⟨E,F,rfl,l⟩:=RV.int c9;refine On (Us (cs':=(zzC (ofZ n.toZ) G H)) c8 I io26 ?_);intro _ da a8 k;have s:=(s.sp a7).sp a8;have ab:=(ab.spn a7).spo a8 (TA aa);refine On (Us (cs':=(zzC (ofZ d.toZ) E F)) da ab io26 ?_);intro _ ac aP h;have l:=(l.sp a8).sp aP;have k:=k.spo aP aa;have g:=(g.spo a8<|TA a5).spo aP (TA a6);refine Nl<|PT<|W.block<|Rg<|Ol<|PJ Yu rfl<|Ol<|PO h pl24 r rfl<|Ol<|St.len sl24 rfl<|Ol<|PW r r (fun bf=>?_)<|fun bf=>?_
 ·refine Om (Oz<|Oz<|Oz<|Oz<|OT<|Ua<|Uf<|Ol<|PK ac ox r r (oE ac.bd δ δ) ?_);intro _ _ dc dd de;have g:=g.spn dd;obtain⟨bR,bS,rfl,bg⟩:=RV.int de;refine Ol (PX (cs:=[b13,n11,(.bool (ofZ 1).neg),(S12 bR (ofZ 1).mag bS)]) r κ<|On<|Us (cs':=[b13,n11,(.bool (ofZ 1).neg),(S12 bR (ofZ 1).mag bS)]) dc g io28 ?_);intro _ bT df dg;have bg:=bg.sp df;refine Nl (PS<|J1 r r dg ag28 bT ?_);exact SS (a:=(⟨⟨false,[]⟩,⟨(ofZ 1).neg,(ofZ 1).mag⟩⟩:GRat)) ((Jz RS.nil bg).tr bT.wb)<|(qH WW)
 refine Om<|OgD<|PJ Yu rfl<|OgD<|PO k pl24 r rfl<|OgD<|St.len sl24 rfl<|OgD<|PW r r (fun bY=>?_)<|fun bY=>?_
 ·refine OF (Ua<|Uf<|Ol<|PK ac ox r r (oE ac.bd δ δ) ?_);intro _ _ bZ b0 b1;have g:=g.spn b0;obtain⟨bh,bi,rfl,aQ⟩:=RV.int b1;refine Ol (PX (cs:=[b13,n11,(.bool (ofZ 1).neg),(S12 bh (ofZ 1).mag bi)]) r κ<|On<|Us (cs':=[b13,n11,(.bool (ofZ 1).neg),(S12 bh (ofZ 1).mag bi)]) bZ g io28 ?_);intro _ bj b2 b3;have aQ:=aQ.sp b2;refine Nl (PS<|J1 r r b3 ag28 bj ?_);exact SS (a:=(⟨⟨false,[]⟩,⟨(ofZ 1).neg,(ofZ 1).mag⟩⟩:GRat)) ((Jz RS.nil aQ).tr bj.wb)<|(qH WW)
 refine OF (Ua<|Ue<|PT ?_);have hd0:d.toZ≠0:=fun e=>bf (by have:=Xt.2 e;omega);refine PN<|Ol<|PJ Xc rfl<|Ol<|QF<|PO h pl4 r r ⟨_,rfl,fun an=>?_,fun an=>?_⟩
 ·refine Oa (Nl<|PM r ?_);have hdp:0 < -d.toZ:=by have hh:=an;rw[yB,decide_eq_true_eq] at hh;omega
  refine QL mixed 3 [[],[0],[]] ac [fx<|.agg #[(.bool (ofZ n.toZ).neg),(S12 G (ofZ n.toZ).mag H)],fr Z0<|ofZ<|-n.toZ,fx<|.agg #[(.bool (ofZ d.toZ).neg),(S12 E (ofZ d.toZ).mag F)]] κ ⟨sx,sr,sx,trivial⟩ fun b4 aR _ ⟨N,ad⟩ P=>?_
  have s:=(s.sp aP).sp ad;have l:=l.sp ad;have k:=k.spn ad;have h:=h.spn ad;have g:=g.spn ad;have P:Keep [26,27,28] _ b4:=P;refine⟨⟨fun _=>?_,fun⟨b5,_⟩=>?_,fun _=>?_,trivial⟩,fun⟨b6,b7,b8,_⟩=>?_⟩
  ·exact Sd0 P fun _=>QC (vs:=(zzC (ofZ n.toZ) G H)) k ag26 r r r ⟨aR,PQ N,rfl⟩
  ·refine Sd1 P b5 fun _=>PK N GX r r (wq N.bd (a:=(ofZ n.toZ)) (Jl s) o) ?_;intro _ _ b9 ca bk;simp only[Jo,J9] at bk;exact⟨aR,⟨b9,ca⟩,bk⟩
  ·exact Sd0 P fun _=>QC (vs:=(zzC (ofZ d.toZ) E F)) h ag26 r r r ⟨aR,PQ N,rfl⟩
  obtain⟨z,A,cb,m⟩:=RV.int b7;obtain⟨_,rfl⟩:=mixK P (aC b6<|aC cb<|aC b8 aN);refine Ol (PK N GX r r (wq N.bd (a:=(ofZ d.toZ)) (Jl l) o) ?_);intro _ _ cc ao bl;have k:=k.spn ao;simp only[Jo,J9] at bl;obtain⟨x,y,rfl,i⟩:=RV.int bl;refine On (Us (cs':=(zzC (ofZ<|-n.toZ) z A)) cc k io26 ?_);intro _ cd aq p;have m:=(m.sp ao).sp aq;have h:=(h.spn ao).spo aq (TA aa);have g:=(g.spn ao).spo aq (TA a5);refine On (Us (cs':=(zzC (ofZ<|-d.toZ) x y)) cd h io26 ?_);intro _ bm ar j;have i:=(i.sp aq).sp ar;refine Nl (Rh<|Ol<|Uo (vs:=(zzC (ofZ<|-d.toZ) x y)) j ag26<|Ol<|QF<|PK bm sf r r (r5 bm.bd (a:=(ofZ<|-d.toZ))<|Jl i) ?_);intro _ _ aS ae ce;have m:=(m.sp ar).sp ae;have i:=i.sp ae;have p:=(p.spo ar aa).spn ae;have j:=j.spn ae;have g:=(g.spo ar<|TA a6).spn ae;refine⟨_,ce,fun bM=>?_,fun bM=>?_⟩
  ·refine Nl (Uf<|Ol<|Uo (vs:=(zzC (ofZ<|-n.toZ) z A)) p ag26<|Ol<|Uo (vs:=(zzC (ofZ<|-d.toZ) x y)) j ag26<|Ol<|PX (cs:=[(.bool (ofZ<|-n.toZ).neg),(S12 z (ofZ<|-n.toZ).mag A),(.bool (ofZ<|-d.toZ).neg),(S12 x (ofZ<|-d.toZ).mag y)]) r κ ?_);refine On (Us (cs':=[(.bool (ofZ<|-n.toZ).neg),(S12 z (ofZ<|-n.toZ).mag A),(.bool (ofZ<|-d.toZ).neg),(S12 x (ofZ<|-d.toZ).mag y)]) aS g io28 ?_);intro _ bn bo cf;have m:=m.sp bo;have i:=i.sp bo;refine Nl (PS<|J1 r r cf ag28 bn ?_);exact SS (a:=(⟨⟨(ofZ<|-n.toZ).neg,(ofZ<|-n.toZ).mag⟩,⟨(ofZ<|-d.toZ).neg,(ofZ<|-d.toZ).mag⟩⟩:GRat)) ((Jz m i).tr bn.wb)<|Eq.trans (υ)<|congrArg ofQ<|om _ _
  refine Nl (Uc<|PT<|PT ?_);have hgm:=Ac (n:=(-n.toZ)) (d:=(-d.toZ)) o;have hgn:=EZ (n:=(-n.toZ)) (d:=(-d.toZ)) o;refine PN (Ol<|Uo (vs:=(zzC (ofZ<|-n.toZ) z A)) p ag26<|Ol<|Uo (vs:=(zzC (ofZ<|-d.toZ) x y)) j ag26<|Ol<|PK aS Ld r r (Fl aS.bd (a:=(ofZ<|-n.toZ)) (Jl m) (b:=(ofZ<|-d.toZ)) (Jl i) A' A') ?_);intro _ _ cg af bp;have p:=p.spn af;have j:=j.spn af;have g:=g.spn af;simp only[Jo,J9] at bp;obtain⟨au,av,rfl,B⟩:=RV.int bp;refine Ol (PU cg io26 r ?_);intro _ _ _ _ aw ch Q ci;have bq:=aw _ p.blk.lt;have cj:=aw _ j.blk.lt;have ck:=aw _ g.blk.lt;have m:=(m.sp af).sp Q;have i:=(i.sp af).sp Q;have p:=p.spn Q;have j:=j.spn Q;have g:=g.spn Q;refine On (Us (cs':=(zzC (ofZ (Int.gcd (-n.toZ) (-d.toZ):Int)) au av)) ch ci io26 ?_);intro _ br R J;have B:=(B.sp Q).sp R;refine Nl (Rg<|Ol<|Uo (vs:=(zzC (ofZ (Int.gcd (-n.toZ) (-d.toZ):Int)) au av)) J ag26<|Ol<|QF<|PK br sf r r (r5 br.bd (a:=(ofZ (Int.gcd (-n.toZ) (-d.toZ):Int)))<|Jl B) ?_);intro _ _ aT K cm;have m:=(m.sp R).sp K;have i:=(i.sp R).sp K;have B:=B.sp K;have p:=(p.spo R bq).spn K;have j:=(j.spo R cj).spn K;have g:=(g.spo R ck).spn K;have J:=J.spn K;refine⟨_,cm,fun bN=>?_,fun bN=>?_⟩
  ·refine Ol (QI rfl<|Nl<|Uc<|Rg<|Ol<|Uo (vs:=(zzC (ofZ<|-n.toZ) z A)) p ag26<|Ol<|Uo (vs:=(zzC (ofZ<|-d.toZ) x y)) j ag26<|Ol<|PX (cs:=[(.bool (ofZ<|-n.toZ).neg),(S12 z (ofZ<|-n.toZ).mag A),(.bool (ofZ<|-d.toZ).neg),(S12 x (ofZ<|-d.toZ).mag y)]) r κ ?_);refine On (Us (cs':=[(.bool (ofZ<|-n.toZ).neg),(S12 z (ofZ<|-n.toZ).mag A),(.bool (ofZ<|-d.toZ).neg),(S12 x (ofZ<|-d.toZ).mag y)]) aT g io28 ?_);intro _ bs bt cn;have m:=m.sp bt;have i:=i.sp bt;refine Nl (PS<|J1 r r cn ag28 bs ?_);exact SS (a:=(⟨⟨(ofZ<|-n.toZ).neg,(ofZ<|-n.toZ).mag⟩,⟨(ofZ<|-d.toZ).neg,(ofZ<|-d.toZ).mag⟩⟩:GRat)) ((Jz m i).tr bs.wb)<|Eq.trans (υ)<|congrArg ofQ<|om _ _
  refine Ol (QI rfl<|Nl<|Uf<|Ol<|Uo (vs:=(zzC (ofZ<|-n.toZ) z A)) p ag26<|Ol<|Uo (vs:=(zzC (ofZ (Int.gcd (-n.toZ) (-d.toZ):Int)) au av)) J ag26<|Ol<|PK aT Dy r r (vk aT.bd (a:=(ofZ<|-n.toZ)) (Jl m) (b:=(ofZ (Int.gcd (-n.toZ) (-d.toZ):Int))) (Jl B) A' J' W8 (by rw[Jo,Jo];exact pT _ _)) ?_);intro _ _ co S bu;have p:=p.spn S;simp only[Jo,J9] at bu;obtain⟨_,_,rfl,cp,rfl⟩:=bu;obtain⟨ax,ay,rfl,ag⟩:=RV.int cp;refine Om (Ol<|St.extract r rfl<|Ol<|St.extract r rfl<|On<|Us (cs':=(zzC (ofZ<|(-n.toZ)/(Int.gcd (-n.toZ) (-d.toZ):Int)) ax ay)) co p io26 ?_);intro _ bv T aV;have i:=(i.sp S).sp T;have B:=(B.sp S).sp T;have j:=(j.spn S).spo T (TA aa);have g:=(g.spn S).spo T (TA a5);have J:=(J.spn S).spo T (TA bq);refine Nl (PN<|Ol<|Uo (vs:=(zzC (ofZ<|-d.toZ) x y)) j ag26<|Ol<|Uo (vs:=(zzC (ofZ (Int.gcd (-n.toZ) (-d.toZ):Int)) au av)) J ag26<|Ol<|PK bv Dy r r (vk bv.bd (a:=(ofZ<|-d.toZ)) (Jl i) (b:=(ofZ (Int.gcd (-n.toZ) (-d.toZ):Int))) (Jl B) A' J' W8 (by rw[Jo,Jo];exact qI _ _)) ?_);intro _ _ cq az bw;have ag:=(ag.sp T).sp az;have j:=j.spn az;simp only[Jo,J9] at bw;obtain⟨_,_,rfl,cr,rfl⟩:=bw;obtain⟨aA,aB,rfl,aW⟩:=RV.int cr;refine Om (Ol<|St.extract r rfl<|Ol<|St.extract r rfl<|On<|Us (cs':=(zzC (ofZ<|(-d.toZ)/(Int.gcd (-n.toZ) (-d.toZ):Int)) aA aB)) cq j io26 ?_);intro _ ct aD cu;have aV:=(aV.spn az).spo aD aa;have g:=(g.spn az).spo aD (TA a6);refine Nl (Rg<|Ol<|Uo (vs:=(zzC (ofZ<|(-n.toZ)/(Int.gcd (-n.toZ) (-d.toZ):Int)) ax ay)) aV ag26<|Ol<|Uo (vs:=(zzC (ofZ<|(-d.toZ)/(Int.gcd (-n.toZ) (-d.toZ):Int)) aA aB)) cu ag26 ?_);refine Ol<|PX (cs:=[(.bool (ofZ<|(-n.toZ)/(Int.gcd (-n.toZ) (-d.toZ):Int)).neg),(S12 ax (ofZ<|(-n.toZ)/(Int.gcd (-n.toZ) (-d.toZ):Int)).mag ay),(.bool (ofZ<|(-d.toZ)/(Int.gcd (-n.toZ) (-d.toZ):Int)).neg),(S12 aA (ofZ<|(-d.toZ)/(Int.gcd (-n.toZ) (-d.toZ):Int)).mag aB)]) r κ<|On<|Us (cs':=[(.bool (ofZ<|(-n.toZ)/(Int.gcd (-n.toZ) (-d.toZ):Int)).neg),(S12 ax (ofZ<|(-n.toZ)/(Int.gcd (-n.toZ) (-d.toZ):Int)).mag ay),(.bool (ofZ<|(-d.toZ)/(Int.gcd (-n.toZ) (-d.toZ):Int)).neg),(S12 aA (ofZ<|(-d.toZ)/(Int.gcd (-n.toZ) (-d.toZ):Int)).mag aB)]) ct g io28 ?_
  intro _ bx bz cv;have ag:=(ag.sp aD).sp bz;have aW:=(aW.sp aD).sp bz;refine Nl (PS<|J1 r r cv ag28 bx ?_);exact SS (a:=(⟨⟨(ofZ<|(-n.toZ)/(Int.gcd (-n.toZ) (-d.toZ):Int)).neg,(ofZ<|(-n.toZ)/(Int.gcd (-n.toZ) (-d.toZ):Int)).mag⟩,⟨(ofZ<|(-d.toZ)/(Int.gcd (-n.toZ) (-d.toZ):Int)).neg,(ofZ<|(-d.toZ)/(Int.gcd (-n.toZ) (-d.toZ):Int)).mag⟩⟩:GRat)) ((Jz ag aW).tr bx.wb)<|Eq.trans (tp hdp)<|congrArg ofQ<|om _ _
 refine Oa (Nl<|Uc<|PT<|PT ?_);have hdp:0<d.toZ:=by have hh:=an;rw[yB,decide_eq_false_iff_not] at hh;omega
 refine PN (Ol<|Uo (vs:=(zzC (ofZ d.toZ) E F)) h ag26<|Ol<|QF<|PK ac sf r r (r5 ac.bd (a:=(ofZ d.toZ))<|Jl l) ?_);intro _ _ aX ah cw;have s:=(s.sp aP).sp ah;have l:=l.sp ah;have k:=k.spn ah;have h:=h.spn ah;have g:=g.spn ah;refine⟨_,cw,fun bO=>?_,fun bO=>?_⟩
 ·refine Nl (Uf<|Ol<|Uo (vs:=(zzC (ofZ n.toZ) G H)) k ag26<|Ol<|Uo (vs:=(zzC (ofZ d.toZ) E F)) h ag26<|Ol<|PX (cs:=[(.bool (ofZ n.toZ).neg),(S12 G (ofZ n.toZ).mag H),(.bool (ofZ d.toZ).neg),(S12 E (ofZ d.toZ).mag F)]) r κ ?_);refine On (Us (cs':=[(.bool (ofZ n.toZ).neg),(S12 G (ofZ n.toZ).mag H),(.bool (ofZ d.toZ).neg),(S12 E (ofZ d.toZ).mag F)]) aX g io28 ?_);intro _ bA bB cx;have s:=s.sp bB;have l:=l.sp bB;refine Nl (PS<|J1 r r cx ag28 bA ?_);exact SS (a:=(⟨⟨(ofZ n.toZ).neg,(ofZ n.toZ).mag⟩,⟨(ofZ d.toZ).neg,(ofZ d.toZ).mag⟩⟩:GRat)) ((Jz s l).tr bA.wb)<|υ
 refine Nl (Uc<|PT<|PT ?_);have hgm:=Ac (n:=n.toZ) (d:=d.toZ) o;have hgn:=EZ (n:=n.toZ) (d:=d.toZ) o;refine PN (Ol<|Uo (vs:=(zzC (ofZ n.toZ) G H)) k ag26<|Ol<|Uo (vs:=(zzC (ofZ d.toZ) E F)) h ag26<|Ol<|PK aX Ld r r (Fl aX.bd (a:=(ofZ n.toZ)) (Jl s) (b:=(ofZ d.toZ)) (Jl l) A' A') ?_);intro _ _ cy ai bC;have k:=k.spn ai;have h:=h.spn ai;have g:=g.spn ai;simp only[Jo,J9] at bC;obtain⟨aE,aF,rfl,D⟩:=RV.int bC;refine Ol (PU cy io26 r ?_);intro _ _ _ _ aG cz U cE;have bD:=aG _ k.blk.lt;have cF:=aG _ h.blk.lt;have cG:=aG _ g.blk.lt;have s:=(s.sp ai).sp U;have l:=(l.sp ai).sp U;have k:=k.spn U;have h:=h.spn U;have g:=g.spn U;refine On (Us (cs':=(zzC (ofZ (Int.gcd n.toZ d.toZ:Int)) aE aF)) cz cE io26 ?_);intro _ bE V L;have D:=(D.sp U).sp V;refine Nl (Rg<|Ol<|Uo (vs:=(zzC (ofZ (Int.gcd n.toZ d.toZ:Int)) aE aF)) L ag26<|Ol<|QF<|PK bE sf r r (r5 bE.bd (a:=(ofZ (Int.gcd n.toZ d.toZ:Int)))<|Jl D) ?_);intro _ _ aY M cH;have s:=(s.sp V).sp M;have l:=(l.sp V).sp M;have D:=D.sp M;have k:=(k.spo V bD).spn M;have h:=(h.spo V cF).spn M;have g:=(g.spo V cG).spn M;have L:=L.spn M;refine⟨_,cH,fun bP=>?_,fun bP=>?_⟩
 ·refine Ol (QI rfl<|Nl<|Uc<|Rg<|Ol<|Uo (vs:=(zzC (ofZ n.toZ) G H)) k ag26<|Ol<|Uo (vs:=(zzC (ofZ d.toZ) E F)) h ag26<|Ol<|PX (cs:=[(.bool (ofZ n.toZ).neg),(S12 G (ofZ n.toZ).mag H),(.bool (ofZ d.toZ).neg),(S12 E (ofZ d.toZ).mag F)]) r κ ?_);refine On (Us (cs':=[(.bool (ofZ n.toZ).neg),(S12 G (ofZ n.toZ).mag H),(.bool (ofZ d.toZ).neg),(S12 E (ofZ d.toZ).mag F)]) aY g io28 ?_);intro _ bF bG cI;have s:=s.sp bG;have l:=l.sp bG;refine Nl (PS<|J1 r r cI ag28 bF ?_);exact SS (a:=(⟨⟨(ofZ n.toZ).neg,(ofZ n.toZ).mag⟩,⟨(ofZ d.toZ).neg,(ofZ d.toZ).mag⟩⟩:GRat)) ((Jz s l).tr bF.wb)<|υ
 refine Ol (QI rfl<|Nl<|Uf<|Ol<|Uo (vs:=(zzC (ofZ n.toZ) G H)) k ag26<|Ol<|Uo (vs:=(zzC (ofZ (Int.gcd n.toZ d.toZ:Int)) aE aF)) L ag26<|Ol<|PK aY Dy r r (vk aY.bd (a:=(ofZ n.toZ)) (Jl s) (b:=(ofZ (Int.gcd n.toZ d.toZ:Int))) (Jl D) A' J' W8 (by rw[Jo,Jo];exact pT _ _)) ?_);intro _ _ cJ Y bH;have k:=k.spn Y;simp only[Jo,J9] at bH;obtain⟨_,_,rfl,cK,rfl⟩:=bH;obtain⟨aH,aI,rfl,aj⟩:=RV.int cK;refine Om (Ol<|St.extract r rfl<|Ol<|St.extract r rfl<|On<|Us (cs':=(zzC (ofZ<|n.toZ/(Int.gcd n.toZ d.toZ:Int)) aH aI)) cJ k io26 ?_);intro _ bI Z aZ;have l:=(l.sp Y).sp Z;have D:=(D.sp Y).sp Z;have h:=(h.spn Y).spo Z (TA aa);have g:=(g.spn Y).spo Z (TA a5);have L:=(L.spn Y).spo Z (TA bD);refine Nl (PN<|Ol<|Uo (vs:=(zzC (ofZ d.toZ) E F)) h ag26<|Ol<|Uo (vs:=(zzC (ofZ (Int.gcd n.toZ d.toZ:Int)) aE aF)) L ag26<|Ol<|PK bI Dy r r (vk bI.bd (a:=(ofZ d.toZ)) (Jl l) (b:=(ofZ (Int.gcd n.toZ d.toZ:Int))) (Jl D) A' J' W8 (by rw[Jo,Jo];exact qI _ _)) ?_);intro _ _ cL aJ bJ;have aj:=(aj.sp Z).sp aJ;have h:=h.spn aJ;simp only[Jo,J9] at bJ;obtain⟨_,_,rfl,cM,rfl⟩:=bJ;obtain⟨aK,aL,rfl,a0⟩:=RV.int cM;refine Om (Ol<|St.extract r rfl<|Ol<|St.extract r rfl<|On<|Us (cs':=(zzC (ofZ<|d.toZ/(Int.gcd n.toZ d.toZ:Int)) aK aL)) cL h io26 ?_);intro _ cN aM cO;have aZ:=(aZ.spn aJ).spo aM aa;have g:=(g.spn aJ).spo aM (TA a6);refine Nl (Rg<|Ol<|Uo (vs:=(zzC (ofZ<|n.toZ/(Int.gcd n.toZ d.toZ:Int)) aH aI)) aZ ag26<|Ol<|Uo (vs:=(zzC (ofZ<|d.toZ/(Int.gcd n.toZ d.toZ:Int)) aK aL)) cO ag26 ?_);refine Ol (PX (cs:=[(.bool (ofZ<|n.toZ/(Int.gcd n.toZ d.toZ:Int)).neg),(S12 aH (ofZ<|n.toZ/(Int.gcd n.toZ d.toZ:Int)).mag aI),(.bool (ofZ<|d.toZ/(Int.gcd n.toZ d.toZ:Int)).neg),(S12 aK (ofZ<|d.toZ/(Int.gcd n.toZ d.toZ:Int)).mag aL)]) r κ<|On<|Us (cs':=[(.bool (ofZ<|n.toZ/(Int.gcd n.toZ d.toZ:Int)).neg),(S12 aH (ofZ<|n.toZ/(Int.gcd n.toZ d.toZ:Int)).mag aI),(.bool (ofZ<|d.toZ/(Int.gcd n.toZ d.toZ:Int)).neg),(S12 aK (ofZ<|d.toZ/(Int.gcd n.toZ d.toZ:Int)).mag aL)]) cN g io28 ?_);intro _ bK bL cP;have aj:=(aj.sp aM).sp bL;have a0:=(a0.sp aM).sp bL;refine Nl (PS<|J1 r r cP ag28 bK ?_);exact SS (a:=(⟨⟨(ofZ<|n.toZ/(Int.gcd n.toZ d.toZ:Int)).neg,(ofZ<|n.toZ/(Int.gcd n.toZ d.toZ:Int)).mag⟩,⟨(ofZ<|d.toZ/(Int.gcd n.toZ d.toZ:Int)).neg,(ofZ<|d.toZ/(Int.gcd n.toZ d.toZ:Int)).mag⟩⟩:GRat)) ((Jz aj a0).tr bK.wb)<|tp hdp
end
section
variable{X:Nat→Prop}{w:World}(hX:XB X w)
include hX
theorem Qu{y:Value}(p:RV Y6 X w y a)(hln:a.num.mag.length≤274877906944)(hld:a.den.mag.length≤274877906944):CRt 92 #[y] w fun v w'=>RV Y6 X w' v (ofQ a.q):=by
 obtain⟨a1,z,A,B,rfl,s,x⟩:=ST p;have C:=PV hX;have sn:=p.rat_small.1;have sd:=p.rat_small.2;refine Cgo Tryz.func92 r r r (Rg<|Ol<|QA C r ?_);intro _ _ _ _ _ D j b;refine Ol (PU D io28 r ?_);intro _ _ _ _ _ k e g;have s:=(s.sp j).sp e;have x:=(x.sp j).sp e;have b:=b.spn e;refine Nl (Rg<|Ol<|PJ Y7 rfl<|Ol<|Uo (vs:=(zzC a.num a1 z)) b ag26<|Ol<|PJ Yy rfl<|Ol<|Uo (vs:=(zzC a.den A B)) b ag26<|Ol<|PK k ns r r (yc k.bd (n:=a.num) (Jl s) (d:=a.den) (Jl x) o o) ?_);intro _ _ E F G;have g:=g.spn F;obtain⟨H,I,J,K,rfl,h,i⟩:=ST G;refine On (Us (cs':=(qqC (ofQ<|Rat.divInt a.num.toZ a.den.toZ) H I J K)) E g io28 ?_);intro _ l m L;have h:=h.sp m;have i:=i.sp m;refine Nl (PS<|J1 r r L ag28 l ?_);exact SS (a:=(ofQ<|Rat.divInt a.num.toZ a.den.toZ)) ((Jz h i).tr l.wb) r
theorem tm{G:Value}(B:RV Y6 X w G a)(hln:a.num.mag.length≤274877906944)(hld:a.den.mag.length≤274877906944):CRt 106 #[G] w fun v w'=>RV Y6 X w' v (ofQ (-a.q)):=by
 obtain⟨a1,D,E,F,rfl,j,k⟩:=ST B;have C:=PV hX;have sn:=B.rat_small.1;have sd:=B.rat_small.2;have hN:=Z1 sn;refine Cgo Tryz.func106 r r r (Rg<|Ol<|QA C r ?_);intro H _ _ _ _ I x h;have j:=j.sp x;have k:=k.sp x;refine Ol (PU I io28 r ?_);intro _ _ _ _ _ J l m;refine Nl<|PT<|QL mixed 5 [[],[0],[1],[],[3]] J [fx<|.pointer (some ⟨H,0,none⟩),fx<|.agg #[(.bool a.num.neg),(S12 a1 a.num.mag D)],fr Z0<|ofZ<|-a.num.toZ,fx<|.pointer (some ⟨H,2,none⟩),fx<|.agg #[(.bool a.den.neg),(S12 E a.den.mag F)]] κ ⟨sx,sx,sr,sx,sx,trivial⟩ fun K g _ ⟨b,i⟩ e=>?_
 have j:=(j.sp l).sp i;have k:=(k.sp l).sp i;have h:=(h.spn l).spn i;have e:Keep [3,4,5,6,7] _ K:=e;refine⟨⟨fun _=>?_,fun⟨L,_⟩=>?_,fun⟨M,_⟩=>?_,fun _=>?_,fun⟨N,_⟩=>?_,trivial⟩,fun⟨P,Q,R,S,T,_⟩=>?_⟩
 ·exact Sd0 e fun _=>PJ Y7 r ⟨g,PQ b,rfl⟩
 ·exact Sd1 e L fun _=>QC (vs:=(zzC a.num a1 D)) h ag26 r r r ⟨g,PQ b,rfl⟩
 ·refine Sd1 e M fun _=>PK b GX r r (wq b.bd (a:=a.num) (Jl j) o) ?_;intro _ _ U V Y;exact⟨g,⟨U,V⟩,Y⟩
 ·exact Sd0 e fun _=>PJ Yy r ⟨g,PQ b,rfl⟩
 ·exact Sd1 e N fun _=>QC (vs:=(zzC a.den E F)) h ag26 r r r ⟨g,PQ b,rfl⟩
 obtain⟨_,_,Z,aa⟩:=RV.int R;obtain⟨_,rfl⟩:=mixK e (aC P<|aC Q<|aC Z<|aC S<|aC T aN);refine Ol (PK b ns r r (yc b.bd (n:=(ofZ<|-a.num.toZ)) (Jl aa) (d:=a.den) (Jl k) (by rw[Xe];omega) o) ?_);intro _ _ ab ac y;have m:=(m.spn i).spn ac;simp only[Jo,J9] at y;obtain⟨ad,ae,af,ag,rfl,p,s⟩:=ST y;refine On (Us (cs':=(qqC (ofQ<|Rat.divInt (-a.num.toZ) a.den.toZ) ad ae af ag)) ab m io28 ?_);intro _ z A ah;have p:=p.sp A;have s:=s.sp A;refine Nl (PS<|J1 r r ah ag28 z ?_);exact SS (a:=(ofQ<|Rat.divInt (-a.num.toZ) a.den.toZ)) ((Jz p s).tr z.wb)<|congrArg ofQ<|OG a
theorem Q8{k:Value}(g:RV Y6 X w k a)(hln:a.num.mag.length≤1099511627776)(hld:a.den.mag.length≤1099511627776):CRt 121 #[k] w fun v _=>v=(.int .i64 (Xr a.q)):=by
 obtain⟨a1,l,m,p,rfl,i,j⟩:=ST g;have C:=PV hX;have sn:=g.rat_small.1;have sd:=g.rat_small.2;have D:=sL a.num.toZ a.den.toZ;refine Cgo Tryz.func121 r r r (Rg<|Ol<|QA C r ?_);intro _ _ _ _ _ x b d;have i:=i.sp b;refine Oa (Nl<|PT<|QY mixed 5 x<|Qf Y7 rfl<|Qw (fun w c=>QC (vs:=(zzC a.num a1 l)) (d.spn c.2) ag26 r r r ⟨rfl,c⟩)<|Qw (fun w c=>PK c.1 vS r r (xn c.1.bd (a:=a.num) (Jl<|i.sp c.2) o) fun _ _ C s h=>⟨h,C,c.2.trans s⟩)<|Qf Yy rfl<|Qw (fun w c=>QC (vs:=(zzC a.den m p)) (d.spn c.2) ag26 r r r ⟨rfl,c⟩) ?_);refine Qz fun _ e y=>?_
 have j:=(j.sp b).sp y;refine Ol (PK e vS r r (xn e.bd (a:=a.den) (Jl j) o) ?_);intro _ _ A _ B;subst B;exact Ol<|Rq (z:=(a.num.toZ.sign*a.den.toZ.sign)) r r (Tz _ o)<|Ua<|PS<|Wq r r A<|YR<|L4 a
theorem D8(r0:RV Y6 X w v0 a)(r1:RV Y6 X w v1 b)(hln:a.num.mag.length≤34359738368)(hld:a.den.mag.length≤34359738368)(hlm:b.num.mag.length≤34359738368)(hle:b.den.mag.length≤34359738368):CRt 141 #[v0,v1] w fun v w'=>RV Y6 X w' v (ofQ (a.q+b.q)):=by
 obtain⟨a1,c2,a3,c4,rfl,N,D⟩:=ST r0;obtain⟨a7,c8,a9,K,rfl,B,p⟩:=ST r1;have C:=PV hX;have sn:=r0.rat_small.1;have sd:=r0.rat_small.2;have sm:=r1.rat_small.1;have se:=r1.rat_small.2;have hN:=Z1 sn;have hD:=Z1 sd;have hM:=Z1 sm;have hE:=Z1 se;have m1:=Qk (x:=a.num.toZ) (y:=b.den.toZ);have m2:=Qk (x:=b.num.toZ) (y:=a.den.toZ);have m3:=Qk (x:=a.den.toZ) (y:=b.den.toZ);have m4:=BU (x:=a.num.toZ*b.den.toZ) (y:=b.num.toZ*a.den.toZ);refine Cgo Tryz.func141 ϱ ϱ ϱ (Rg<|Ol<|QA C ϱ ?_);intro Y _ _ _ _ ef aK h;have N:=N.sp aK;have D:=D.sp aK;refine Ol (QA ef ϱ ?_);intro Z _ _ _ _ eg aj j;have B:=(B.sp aK).sp aj;have p:=(p.sp aK).sp aj;refine Ol (PU eg io28 ϱ ?_);intro bq _ _ _ _ br ag i;have N:=(N.sp aj).sp ag;have D:=(D.sp aj).sp ag;have h:=(h.spn aj).spn ag;refine Nl (PT<|W.block<|Rg<|Ol<|PJ Yy rfl<|Ol<|Uo (vs:=(zzC a.den a3 c4)) h ag26<|Ol<|PK br vS ϱ ϱ (xn br.bd (a:=a.den) (Jl D) ω) ?_);intro _ _ aL ae eh;have B:=(B.sp ag).sp ae;have p:=(p.sp ag).sp ae;have j:=(j.spn ag).spn ae;have i:=i.spn ae;subst eh;refine Ol<|PW ϱ ϱ (fun ah=>?_)<|fun ah=>?_
 ·refine Oa (Nl<|Uf<|Ol<|Uo (vs:=(qqC b a7 c8 a9 K)) j ag28<|Ol<|PK aL cb92 ϱ ϱ (Qu aL.bd (a:=b) (Jz B p) ω ω) ?_);intro _ _ ei ej ek;have i:=i.spn ej;obtain⟨el,em,en,eo,rfl,aQ,aR⟩:=ST ek;refine On (Us (cs':=(qqC (ofQ b.q) el em en eo)) ei i io28 ?_);intro _ bs bt ep;have aQ:=aQ.sp bt;have aR:=aR.sp bt;refine Nl (PS<|J1 ϱ ϱ ep ag28 bs ?_);exact SS (a:=(ofQ b.q)) ((Jz aQ aR).tr bs.wb)<|IQ ah
 refine Oa (Nl<|Ug<|Ol<|PJ Yy rfl<|Ol<|Uo (vs:=(zzC b.den a9 K)) j ag26<|Ol<|PK aL vS ϱ ϱ (xn aL.bd (a:=b.den) (Jl p) ω) ?_);intro _ _ aM aa eq;have N:=(N.sp ae).sp aa;have D:=(D.sp ae).sp aa;have B:=B.sp aa;have h:=(h.spn ae).spn aa;subst eq;refine Ol<|PW ϱ ϱ (fun ai=>?_)<|fun ai=>?_
 ·refine Oa (Nl<|Uf<|Ol<|Uo (vs:=(qqC a a1 c2 a3 c4)) h ag28<|Ol<|PK aM cb92 ϱ ϱ (Qu aM.bd (a:=a) (Jz N D) ω ω) ?_);intro _ _ er es et;have i:=(i.spn aa).spn es;obtain⟨eu,ev,ew,ex,rfl,aS,aT⟩:=ST et;refine On (Us (cs':=(qqC (ofQ a.q) eu ev ew ex)) er i io28 ?_);intro _ bu bv ey;have aS:=aS.sp bv;have aT:=aT.sp bv;refine Nl (PS<|J1 ϱ ϱ ey ag28 bu ?_);exact SS (a:=(ofQ a.q)) ((Jz aS aT).tr bu.wb)<|I4 ai
 refine Oa (Nl<|Ug<|Ol<|PJ Yy rfl<|Ol<|Uo (vs:=(zzC a.den a3 c4)) h ag26<|Ol<|QF<|PK aM sf ϱ ϱ (r5 aM.bd (a:=a.den)<|Jl D) ?_);intro _ ez aU R eA;have D:=D.sp R;have p:=(p.sp aa).sp R;have h:=h.spn R;have j:=(j.spn aa).spn R;have i:=(i.spn aa).spn R;refine⟨_,eA,fun aV=>?_,fun aV=>?_⟩
 ·refine Om (OgD<|PJ Yy rfl<|OgD<|Uo (vs:=(zzC b.den a9 K)) j ag26<|OgD<|QF<|PK aU sf ϱ ϱ (r5 aU.bd (a:=b.den)<|Jl p) ?_);intro _ eB aW af eC;have N:=(N.sp R).sp af;have B:=(B.sp R).sp af;have h:=h.spn af;have j:=j.spn af;have i:=i.spn af;refine⟨_,eC,fun aX=>?_,fun aX=>?_⟩
  ·refine OT (Ua<|Uf<|Ol<|PJ Y7 rfl<|Ol<|Uo (vs:=(zzC a.num a1 c2)) h ag26<|Ol<|PJ Y7 rfl<|Ol<|Uo (vs:=(zzC b.num a7 c8)) j ag26<|Ol<|PK aW Ia ϱ ϱ (wI aW.bd (a:=a.num) (Jl N) (b:=b.num) (Jl B) ω ω) ?_);intro _ _ bw eD eE;obtain⟨bx,aY,rfl,ao⟩:=RV.int eE;refine Ol (PK bw ox ϱ ϱ (oE bw.bd δ δ) ?_);intro _ _ bB aZ bC;have i:=(i.spn eD).spn aZ;obtain⟨a0,a4,rfl,aq⟩:=RV.int bC;refine Ol (PX (cs:=[(.bool (ofZ<|a.num.toZ+b.num.toZ).neg),(S12 bx (ofZ<|a.num.toZ+b.num.toZ).mag aY),(.bool (ofZ 1).neg),(S12 a0 (ofZ 1).mag a4)]) ϱ κ<|On<|Us (cs':=[(.bool (ofZ<|a.num.toZ+b.num.toZ).neg),(S12 bx (ofZ<|a.num.toZ+b.num.toZ).mag aY),(.bool (ofZ 1).neg),(S12 a0 (ofZ 1).mag a4)]) bB i io28 ?_);intro _ a5 a6 bD;have ao:=(ao.sp aZ).sp a6;have aq:=aq.sp a6;refine Nl (PS<|J1 ϱ ϱ bD ag28 a5 ?_);exact SS (a:=(⟨⟨(ofZ<|a.num.toZ+b.num.toZ).neg,(ofZ<|a.num.toZ+b.num.toZ).mag⟩,⟨(ofZ 1).neg,(ofZ 1).mag⟩⟩:GRat)) ((Jz ao aq).tr a5.wb)<|IO (of_decide_eq_true aV)<|of_decide_eq_true aX
  refine OT<|Ua<|Uc<|PT<|QL mixed 12 [[],[0],[],[2],[1,3],[],[5],[],[7],[6,8],[4,9],[]] aW [fx<|.pointer (some ⟨Y,0,none⟩),fx<|.agg #[(.bool a.num.neg),(S12 a1 a.num.mag c2)],fx<|.pointer (some ⟨Z,2,none⟩),fx<|.agg #[(.bool b.den.neg),(S12 a9 b.den.mag K)],fr Z0<|ofZ<|a.num.toZ*b.den.toZ,fx<|.pointer (some ⟨Z,0,none⟩),fx<|.agg #[(.bool b.num.neg),(S12 a7 b.num.mag c8)],fx<|.pointer (some ⟨Y,2,none⟩),fx<|.agg #[(.bool a.den.neg),(S12 a3 a.den.mag c4)],fr Z0<|ofZ<|b.num.toZ*a.den.toZ,fr Z0<|ofZ<|(a.num.toZ*b.den.toZ)+(b.num.toZ*a.den.toZ),fun(s:Gh) (v:Value) (w':World)=>∃g':Nat,v= .pointer (some ⟨g',0,none⟩)∧Own w s.2 w' g' [b13,n11] 26∧eB.heap.size≤g'] κ ⟨sx,sx,sx,sx,sr,sx,sx,sx,sx,sr,sr,(fun _ _ _ _ _ ⟨g,e,o,l⟩ r=>⟨g,e,o.spn r.sp,l⟩),trivial⟩ fun bE E _ ⟨k,L⟩ z=>?_
  have bi:=h.blk.lt;have bj:=j.blk.lt;have bk:=i.blk.lt;have aO:=L.tx.size;have N:=N.sp L;have D:=(D.sp af).sp L;have B:=B.sp L;have p:=(p.sp af).sp L;have h:=h.spn L;have j:=j.spn L;have z:Keep [36,37,38,39,40,41,42,43,44,45,46,5] _ bE:=z;refine⟨⟨fun _=>?_,fun⟨bF,_⟩=>?_,fun _=>?_,fun⟨bG,_⟩=>?_,fun⟨bH,bI,_⟩=>?_,fun _=>?_,fun⟨bJ,_⟩=>?_,fun _=>?_,fun⟨bK,_⟩=>?_,fun⟨bL,bM,_⟩=>?_,fun⟨bN,bO,_⟩=>?_,fun _=>?_,trivial⟩,fun⟨bP,bQ,bR,bS,bT,bU,bV,bW,bX,bY,bZ,b0,_⟩=>?_⟩
  ·exact Sd0 z fun _=>PJ Y7 ϱ ⟨E,PQ k,rfl⟩
  ·exact Sd1 z bF fun _=>QC (vs:=(zzC a.num a1 c2)) h ag26 ϱ ϱ ϱ ⟨E,PQ k,rfl⟩
  ·exact Sd0 z fun _=>PJ Yy ϱ ⟨E,PQ k,rfl⟩
  ·exact Sd1 z bG fun _=>QC (vs:=(zzC b.den a9 K)) j ag26 ϱ ϱ ϱ ⟨E,PQ k,rfl⟩
  ·refine Jf z (aC bH<|aC bI aN) fun _=>P1 (PK k ve ϱ ϱ (V4 k.bd (a:=a.num) (Jl N) (b:=b.den) (Jl p) ω ω) ?_);intro _ _ b1 b2 b3;exact⟨E,⟨b1,b2⟩,b3⟩
  ·exact Sd0 z fun _=>PJ Y7 ϱ ⟨E,PQ k,rfl⟩
  ·exact Sd1 z bJ fun _=>QC (vs:=(zzC b.num a7 c8)) j ag26 ϱ ϱ ϱ ⟨E,PQ k,rfl⟩
  ·exact Sd0 z fun _=>PJ Yy ϱ ⟨E,PQ k,rfl⟩
  ·exact Sd1 z bK fun _=>QC (vs:=(zzC a.den a3 c4)) h ag26 ϱ ϱ ϱ ⟨E,PQ k,rfl⟩
  ·refine Jf z (aC bL<|aC bM aN) fun _=>P1 (PK k ve ϱ ϱ (V4 k.bd (a:=b.num) (Jl B) (b:=a.den) (Jl D) ω ω) ?_);intro _ _ b4 b5 b6;exact⟨E,⟨b4,b5⟩,b6⟩
  ·obtain⟨_,_,b7,b8⟩:=RV.int bN;obtain⟨_,_,b9,ca⟩:=RV.int bO;refine Jf z (aC b7<|aC b9 aN) fun _=>P1 (PK k Ia ϱ ϱ (wI k.bd (a:=(ofZ<|a.num.toZ*b.den.toZ)) (Jl b8) (b:=(ofZ<|b.num.toZ*a.den.toZ)) (Jl ca) ω ω) ?_);intro _ _ cb cc a8;simp only[Jo,J9] at a8;exact⟨E,⟨cb,cc⟩,a8⟩
  ·refine Sd0 z fun _=>PU k io26 ϱ ?_;intro cd _ ce cf bl cg ch ci;exact⟨(ce,cf),⟨cg,ch⟩,cd,rfl,ci,VJ fun hh=>bl _ (Ti hh aO) ϱ⟩
  obtain⟨_,_,cj,_⟩:=RV.int bT;obtain⟨_,_,ck,_⟩:=RV.int bY;obtain⟨ar,au,cm,av⟩:=RV.int bZ;obtain⟨aw,cn,co,ax⟩:=b0;have cp:Y≠aw:=VV (Ti bi ax);have cq:Z≠aw:=VV (Ti bj ax);have cr:bq≠aw:=VV (Ti bk ax);obtain⟨_,rfl⟩:=mixK z (aC bP<|aC bQ<|aC bR<|aC bS<|aC cj<|aC bU<|aC bV<|aC bW<|aC bX<|aC ck<|aC cm<|aC cn aN);refine On (Us (cs':=(zzC (ofZ<|(a.num.toZ*b.den.toZ)+(b.num.toZ*a.den.toZ)) ar au)) k co io26 ?_);intro _ ct S ay;have i:=(i.spn L).spo S cr;refine Nl<|PT<|QL mixed 6 [[],[],[1],[],[3],[2,4]] ct [fx<|.agg #[(.bool (ofZ<|(a.num.toZ*b.den.toZ)+(b.num.toZ*a.den.toZ)).neg),(S12 ar (ofZ<|(a.num.toZ*b.den.toZ)+(b.num.toZ*a.den.toZ)).mag au)],fx<|.pointer (some ⟨Y,2,none⟩),fx<|.agg #[(.bool a.den.neg),(S12 a3 a.den.mag c4)],fx<|.pointer (some ⟨Z,2,none⟩),fx<|.agg #[(.bool b.den.neg),(S12 a9 b.den.mag K)],fr Z0<|ofZ<|a.den.toZ*b.den.toZ] κ ⟨sx,sx,sx,sx,sx,sr,trivial⟩ fun cu T _ ⟨G,P⟩ H=>?_
  have D:=(D.sp S).sp P;have p:=(p.sp S).sp P;have av:=(av.sp S).sp P;have h:=(h.spo S cp).spn P;have j:=(j.spo S cq).spn P;have ay:=ay.spn P;have H:Keep [47,48,49,50,51,52] _ cu:=H;refine⟨⟨fun _=>?_,fun _=>?_,fun⟨cv,_⟩=>?_,fun _=>?_,fun⟨cw,_⟩=>?_,fun⟨cx,cy,_⟩=>?_,trivial⟩,fun⟨cz,cE,cF,cG,cH,cI,_⟩=>?_⟩
  ·exact Sd0 H fun _=>QC (vs:=(zzC (ofZ<|(a.num.toZ*b.den.toZ)+(b.num.toZ*a.den.toZ)) ar au)) ay ag26 ϱ ϱ ϱ ⟨T,PQ G,rfl⟩
  ·exact Sd0 H fun _=>PJ Yy ϱ ⟨T,PQ G,rfl⟩
  ·exact Sd1 H cv fun _=>QC (vs:=(zzC a.den a3 c4)) h ag26 ϱ ϱ ϱ ⟨T,PQ G,rfl⟩
  ·exact Sd0 H fun _=>PJ Yy ϱ ⟨T,PQ G,rfl⟩
  ·exact Sd1 H cw fun _=>QC (vs:=(zzC b.den a9 K)) j ag26 ϱ ϱ ϱ ⟨T,PQ G,rfl⟩
  ·refine Jf H (aC cx<|aC cy aN) fun _=>P1 (PK G ve ϱ ϱ (V4 G.bd (a:=a.den) (Jl D) (b:=b.den) (Jl p) ω ω) ?_);intro _ _ cJ cK cL;exact⟨T,⟨cJ,cK⟩,cL⟩
  obtain⟨_,_,cM,cN⟩:=RV.int cI;obtain⟨_,rfl⟩:=mixK H (aC cz<|aC cE<|aC cF<|aC cG<|aC cH<|aC cM aN);refine Ol (PK G ns ϱ ϱ (yc G.bd (n:=(ofZ<|(a.num.toZ*b.den.toZ)+(b.num.toZ*a.den.toZ))) (Jl av) (d:=(ofZ<|a.den.toZ*b.den.toZ)) (Jl cN) ω ω) ?_);intro _ _ cO cP ba;have i:=(i.spn P).spn cP;simp only[Jo,J9] at ba;obtain⟨cQ,cR,cS,cT,rfl,az,aA⟩:=ST ba;refine On (Us (cs':=(qqC (ofQ<|Rat.divInt ((a.num.toZ*b.den.toZ)+(b.num.toZ*a.den.toZ))<|a.den.toZ*b.den.toZ) cQ cR cS cT)) cO i io28 ?_);intro _ bb bc cU;have az:=az.sp bc;have aA:=aA.sp bc;refine Nl (PS<|J1 ϱ ϱ cU ag28 bb ?_);exact SS (a:=(ofQ<|Rat.divInt ((a.num.toZ*b.den.toZ)+(b.num.toZ*a.den.toZ))<|a.den.toZ*b.den.toZ)) ((Jz az aA).tr bb.wb)<|vE ah ai
 refine Om<|Oz<|Oz<|Oz<|OF<|Ua<|Uc<|PT<|QL mixed 12 [[],[0],[],[2],[1,3],[],[5],[],[7],[6,8],[4,9],[]] aU [fx<|.pointer (some ⟨Y,0,none⟩),fx<|.agg #[(.bool a.num.neg),(S12 a1 a.num.mag c2)],fx<|.pointer (some ⟨Z,2,none⟩),fx<|.agg #[(.bool b.den.neg),(S12 a9 b.den.mag K)],fr Z0<|ofZ<|a.num.toZ*b.den.toZ,fx<|.pointer (some ⟨Z,0,none⟩),fx<|.agg #[(.bool b.num.neg),(S12 a7 b.num.mag c8)],fx<|.pointer (some ⟨Y,2,none⟩),fx<|.agg #[(.bool a.den.neg),(S12 a3 a.den.mag c4)],fr Z0<|ofZ<|b.num.toZ*a.den.toZ,fr Z0<|ofZ<|(a.num.toZ*b.den.toZ)+(b.num.toZ*a.den.toZ),fun(s:Gh) (v:Value) (w':World)=>∃g':Nat,v= .pointer (some ⟨g',0,none⟩)∧Own w s.2 w' g' [b13,n11] 26∧ez.heap.size≤g'] κ ⟨sx,sx,sx,sx,sr,sx,sx,sx,sx,sr,sr,(fun _ _ _ _ _ ⟨g,e,o,l⟩ r=>⟨g,e,o.spn r.sp,l⟩),trivial⟩ fun cV F _ ⟨m,M⟩ A=>?_
 have bm:=h.blk.lt;have bn:=j.blk.lt;have bo:=i.blk.lt;have aP:=M.tx.size;have N:=(N.sp R).sp M;have D:=D.sp M;have B:=(B.sp R).sp M;have p:=p.sp M;have h:=h.spn M;have j:=j.spn M;have A:Keep [36,37,38,39,40,41,42,43,44,45,46,5] _ cV:=A;refine⟨⟨fun _=>?_,fun⟨cW,_⟩=>?_,fun _=>?_,fun⟨cX,_⟩=>?_,fun⟨cY,cZ,_⟩=>?_,fun _=>?_,fun⟨c0,_⟩=>?_,fun _=>?_,fun⟨c1,_⟩=>?_,fun⟨c3,c5,_⟩=>?_,fun⟨c6,c7,_⟩=>?_,fun _=>?_,trivial⟩,fun⟨c9,da,dc,dd,de,df,dg,dh,di,dj,dk,dl,_⟩=>?_⟩
 ·exact Sd0 A fun _=>PJ Y7 ϱ ⟨F,PQ m,rfl⟩
 ·exact Sd1 A cW fun _=>QC (vs:=(zzC a.num a1 c2)) h ag26 ϱ ϱ ϱ ⟨F,PQ m,rfl⟩
 ·exact Sd0 A fun _=>PJ Yy ϱ ⟨F,PQ m,rfl⟩
 ·exact Sd1 A cX fun _=>QC (vs:=(zzC b.den a9 K)) j ag26 ϱ ϱ ϱ ⟨F,PQ m,rfl⟩
 ·refine Jf A (aC cY<|aC cZ aN) fun _=>P1 (PK m ve ϱ ϱ (V4 m.bd (a:=a.num) (Jl N) (b:=b.den) (Jl p) ω ω) ?_);intro _ _ dm dn dp;exact⟨F,⟨dm,dn⟩,dp⟩
 ·exact Sd0 A fun _=>PJ Y7 ϱ ⟨F,PQ m,rfl⟩
 ·exact Sd1 A c0 fun _=>QC (vs:=(zzC b.num a7 c8)) j ag26 ϱ ϱ ϱ ⟨F,PQ m,rfl⟩
 ·exact Sd0 A fun _=>PJ Yy ϱ ⟨F,PQ m,rfl⟩
 ·exact Sd1 A c1 fun _=>QC (vs:=(zzC a.den a3 c4)) h ag26 ϱ ϱ ϱ ⟨F,PQ m,rfl⟩
 ·refine Jf A (aC c3<|aC c5 aN) fun _=>P1 (PK m ve ϱ ϱ (V4 m.bd (a:=b.num) (Jl B) (b:=a.den) (Jl D) ω ω) ?_);intro _ _ dq dr ds;exact⟨F,⟨dq,dr⟩,ds⟩
 ·obtain⟨_,_,dt,du⟩:=RV.int c6;obtain⟨_,_,dv,dw⟩:=RV.int c7;refine Jf A (aC dt<|aC dv aN) fun _=>P1 (PK m Ia ϱ ϱ (wI m.bd (a:=(ofZ<|a.num.toZ*b.den.toZ)) (Jl du) (b:=(ofZ<|b.num.toZ*a.den.toZ)) (Jl dw) ω ω) ?_);intro _ _ dx dy be;simp only[Jo,J9] at be;exact⟨F,⟨dx,dy⟩,be⟩
 ·refine Sd0 A fun _=>PU m io26 ϱ ?_;intro dz _ dA dB bp dC dD dE;exact⟨(dA,dB),⟨dC,dD⟩,dz,rfl,dE,VJ fun hh=>bp _ (Ti hh aP) ϱ⟩
 obtain⟨_,_,dF,_⟩:=RV.int de;obtain⟨_,_,dG,_⟩:=RV.int dj;obtain⟨aB,aD,dH,aE⟩:=RV.int dk;obtain⟨aF,dI,dJ,aG⟩:=dl;have dK:Y≠aF:=VV (Ti bm aG);have dL:Z≠aF:=VV (Ti bn aG);have dM:bq≠aF:=VV (Ti bo aG);obtain⟨_,rfl⟩:=mixK A (aC c9<|aC da<|aC dc<|aC dd<|aC dF<|aC df<|aC dg<|aC dh<|aC di<|aC dG<|aC dH<|aC dI aN);refine On (Us (cs':=(zzC (ofZ<|(a.num.toZ*b.den.toZ)+(b.num.toZ*a.den.toZ)) aB aD)) m dJ io26 ?_);intro _ dN U aH;have i:=(i.spn M).spo U dM;refine Nl<|PT<|QL mixed 6 [[],[],[1],[],[3],[2,4]] dN [fx<|.agg #[(.bool (ofZ<|(a.num.toZ*b.den.toZ)+(b.num.toZ*a.den.toZ)).neg),(S12 aB (ofZ<|(a.num.toZ*b.den.toZ)+(b.num.toZ*a.den.toZ)).mag aD)],fx<|.pointer (some ⟨Y,2,none⟩),fx<|.agg #[(.bool a.den.neg),(S12 a3 a.den.mag c4)],fx<|.pointer (some ⟨Z,2,none⟩),fx<|.agg #[(.bool b.den.neg),(S12 a9 b.den.mag K)],fr Z0<|ofZ<|a.den.toZ*b.den.toZ] κ ⟨sx,sx,sx,sx,sx,sr,trivial⟩ fun dO V _ ⟨I,Q⟩ J=>?_
 have D:=(D.sp U).sp Q;have p:=(p.sp U).sp Q;have aE:=(aE.sp U).sp Q;have h:=(h.spo U dK).spn Q;have j:=(j.spo U dL).spn Q;have aH:=aH.spn Q;have J:Keep [47,48,49,50,51,52] _ dO:=J;refine⟨⟨fun _=>?_,fun _=>?_,fun⟨dP,_⟩=>?_,fun _=>?_,fun⟨dQ,_⟩=>?_,fun⟨dR,dS,_⟩=>?_,trivial⟩,fun⟨dT,dU,dV,dW,dX,dY,_⟩=>?_⟩
 ·exact Sd0 J fun _=>QC (vs:=(zzC (ofZ<|(a.num.toZ*b.den.toZ)+(b.num.toZ*a.den.toZ)) aB aD)) aH ag26 ϱ ϱ ϱ ⟨V,PQ I,rfl⟩
 ·exact Sd0 J fun _=>PJ Yy ϱ ⟨V,PQ I,rfl⟩
 ·exact Sd1 J dP fun _=>QC (vs:=(zzC a.den a3 c4)) h ag26 ϱ ϱ ϱ ⟨V,PQ I,rfl⟩
 ·exact Sd0 J fun _=>PJ Yy ϱ ⟨V,PQ I,rfl⟩
 ·exact Sd1 J dQ fun _=>QC (vs:=(zzC b.den a9 K)) j ag26 ϱ ϱ ϱ ⟨V,PQ I,rfl⟩
 ·refine Jf J (aC dR<|aC dS aN) fun _=>P1 (PK I ve ϱ ϱ (V4 I.bd (a:=a.den) (Jl D) (b:=b.den) (Jl p) ω ω) ?_);intro _ _ dZ d0 d1;exact⟨V,⟨dZ,d0⟩,d1⟩
 obtain⟨_,_,d2,d3⟩:=RV.int dY;obtain⟨_,rfl⟩:=mixK J (aC dT<|aC dU<|aC dV<|aC dW<|aC dX<|aC d2 aN);refine Ol (PK I ns ϱ ϱ (yc I.bd (n:=(ofZ<|(a.num.toZ*b.den.toZ)+(b.num.toZ*a.den.toZ))) (Jl aE) (d:=(ofZ<|a.den.toZ*b.den.toZ)) (Jl d3) ω ω) ?_);intro _ _ d4 d5 bf;have i:=(i.spn Q).spn d5;simp only[Jo,J9] at bf;obtain⟨d6,d7,d8,d9,rfl,aI,aJ⟩:=ST bf;refine On (Us (cs':=(qqC (ofQ<|Rat.divInt ((a.num.toZ*b.den.toZ)+(b.num.toZ*a.den.toZ))<|a.den.toZ*b.den.toZ) d6 d7 d8 d9)) d4 i io28 ?_);intro _ bg bh eb;have aI:=aI.sp bh;have aJ:=aJ.sp bh;refine Nl (PS<|J1 ϱ ϱ eb ag28 bg ?_);exact SS (a:=(ofQ<|Rat.divInt ((a.num.toZ*b.den.toZ)+(b.num.toZ*a.den.toZ))<|a.den.toZ*b.den.toZ)) ((Jz aI aJ).tr bg.wb)<|vE ah ai
theorem LD{Q:Value}(H:RV Y6 X w Q a){R:Value}(I:RV Y6 X w R b)(hln:a.num.mag.length≤17179869184)(hld:a.den.mag.length≤17179869184)(hlm:b.num.mag.length≤17179869184)(hle:b.den.mag.length≤17179869184):CRt 123 #[Q,R] w fun v w'=>RV Y6 X w' v (ofQ (a.q-b.q)):=by
 obtain⟨a1,J,K,L,rfl,p,s⟩:=ST H;obtain⟨M,N,P,x,rfl,i,j⟩:=ST I;have C:=PV hX;have sn:=H.rat_small.1;have sd:=H.rat_small.2;have sm:=I.rat_small.1;have se:=I.rat_small.2;have q1:=Xp sm;have q2:=Xs se;rw[←Vw] at q1;rw[←yo] at q2;refine Cgo Tryz.func123 r r r (Rg<|Ol<|QA C r ?_);intro _ _ _ _ _ S m k;refine Ol (QA S r ?_);intro _ _ _ _ _ T l y;have p:=(p.sp m).sp l;have s:=(s.sp m).sp l;have i:=(i.sp m).sp l;have j:=(j.sp m).sp l;have k:=k.spn l;refine Ol (PU T io28 r ?_);intro _ _ _ _ _ U e z;refine Nl<|PT<|QL mixed 3 [[],[],[1]] U [fx<|.agg #[(.bool a.num.neg),(S12 a1 a.num.mag J),(.bool a.den.neg),(S12 K a.den.mag L)],fx<|.agg #[(.bool b.num.neg),(S12 M b.num.mag N),(.bool b.den.neg),(S12 P b.den.mag x)],fr Y6<|ofQ<|-b.q] κ ⟨sx,sx,sr,trivial⟩ fun V A _ ⟨g,d⟩ h=>?_
 have p:=(p.sp e).sp d;have s:=(s.sp e).sp d;have i:=(i.sp e).sp d;have j:=(j.sp e).sp d;have k:=(k.spn e).spn d;have y:=(y.spn e).spn d;have h:Keep [5,6,7] _ V:=h;refine⟨⟨fun _=>?_,fun _=>?_,fun⟨Y,_⟩=>?_,trivial⟩,fun⟨Z,aa,ab,_⟩=>?_⟩
 ·exact Sd0 h fun _=>QC (vs:=(qqC a a1 J K L)) k ag28 r r r ⟨A,PQ g,rfl⟩
 ·exact Sd0 h fun _=>QC (vs:=(qqC b M N P x)) y ag28 r r r ⟨A,PQ g,rfl⟩
 ·refine Sd1 h Y fun _=>PK g Cp r r (tm g.bd (a:=b) (Jz i j) o o) ?_;intro _ _ ac ad ae;exact⟨A,⟨ac,ad⟩,ae⟩
 obtain⟨_,_,_,_,af,ag,ah⟩:=ST ab;obtain⟨_,rfl⟩:=mixK h (aC Z<|aC aa<|aC af aN);refine Ol (PK g I9 r r (D8 g.bd (a:=a) (Jz p s) (b:=(ofQ<|-b.q)) (Jz ag ah) o o o o) ?_);intro _ _ ai aj E;have z:=(z.spn d).spn aj;simp only[Jo,J9] at E;obtain⟨ak,am,an,ao,rfl,B,D⟩:=ST E;refine On (Us (cs':=(qqC (ofQ<|a.q+(-b.q)) ak am an ao)) ai z io28 ?_);intro _ F G aq;have B:=B.sp G;have D:=D.sp G;refine Nl (PS<|J1 r r aq ag28 F ?_);exact SS (a:=(ofQ<|a.q+(-b.q))) ((Jz B D).tr F.wb)<|(by rw[Rat.sub_eq_add_neg])
theorem qS{z:Value}(p:RV Y6 X w z a){A:Value}(s:RV Y6 X w A b)(hln:a.num.mag.length≤4294967296)(hld:a.den.mag.length≤4294967296)(hlm:b.num.mag.length≤4294967296)(hle:b.den.mag.length≤4294967296):CRt 85 #[z,A] w fun v _=>v=(.int .i64 (qcmp a.q b.q)):=by
 obtain⟨a1,B,D,E,rfl,x,y⟩:=ST p;obtain⟨F,G,H,j,rfl,g,h⟩:=ST s;have C:=PV hX;have sn:=p.rat_small.1;have sd:=p.rat_small.2;have sm:=s.rat_small.1;have se:=s.rat_small.2;have P:=Xp sm;have Q:=Xs se;rw[←Vw] at P;rw[←yo] at Q;have T:=Xp sn;have U:=Xs sd;have R:=rO a.q (-b.q);have S:=sT a.q (-b.q);rw[←Rat.sub_eq_add_neg] at R S;refine Cgo Tryz.func85 r r r (Rg<|Ol<|QA C r ?_);intro _ _ _ _ _ I e i;refine Ol (QA I r ?_);intro _ _ _ _ _ k d J;have x:=(x.sp e).sp d;have y:=(y.sp e).sp d;have g:=(g.sp e).sp d;have h:=(h.sp e).sp d;have i:=i.spn d;refine Oa (Nl<|Rg<|Ol<|Uo (vs:=(qqC a a1 B D E)) i ag28<|Ol<|Uo (vs:=(qqC b F G H j)) J ag28<|Ol<|PK k PC r r (LD k.bd (a:=a) (Jz x y) (b:=b) (Jz g h) o o o o) ?_);intro _ _ l _ K;obtain⟨_,_,_,_,rfl,L,M⟩:=ST K;refine Ol (PK l nh r r (Q8 l.bd (a:=(ofQ<|a.q-b.q)) (Jz L M) o o) ?_);intro _ _ N _ m;simp only[Jo,J9] at m;subst m;refine Ua<|PS<|Wq r r N ?_
 rfl
theorem oK{n:Int}(hlo: -9223372036854775808≤n)(hhi:n≤9223372036854775807):CRt 108 #[(.int .i64 n)] w fun v w'=>RV Y6 X w' v (ofQ (Rat.divInt n 1)):=by
 have C:=PV hX;refine Cgo Tryz.func108 r r r (Rg<|Ol<|PU C io28 r ?_);intro _ _ _ _ _ s _ p;refine Nl (Rg<|Ub<|PK s ox r r (oE s.bd hlo hhi) ?_);intro _ _ e x y;obtain⟨g,h,rfl,b⟩:=RV.int y;refine Ol (PK e ox r r (oE e.bd δ δ) ?_);intro _ _ z i A;have p:=(p.spn x).spn i;obtain⟨j,k,rfl,d⟩:=RV.int A;refine Ol (PX (cs:=[(.bool (ofZ n).neg),(S12 g (ofZ n).mag h),(.bool (ofZ 1).neg),(S12 j (ofZ 1).mag k)]) r κ<|On<|Us (cs':=[(.bool (ofZ n).neg),(S12 g (ofZ n).mag h),(.bool (ofZ 1).neg),(S12 j (ofZ 1).mag k)]) z p io28 ?_);intro _ l m B;have b:=(b.sp i).sp m;have d:=d.sp m;refine Nl (PS<|J1 r r B ag28 l ?_);exact SS (a:=(⟨⟨(ofZ n).neg,(ofZ n).mag⟩,⟨(ofZ 1).neg,(ofZ 1).mag⟩⟩:GRat)) ((Jz b d).tr l.wb)<|Vy r
end
def OC(a b:List GExpr):Prop:=∀i,i<a.length→i<b.length→∀ {X:Nat→Prop} {w:World} (hX:XB X w) {v0 v1:Value},RV Jc X w v0 (a.getD i Δ)→RV Jc X w v1 (b.getD i Δ)→
 CRt 54 #[v0,v1] w fun v w'=>v= .int .i64 (cmpE (a.getD i Δ)<|b.getD i Δ)
section
variable{X:Nat→Prop}{w:World}(hX:XB X w)
include hX
theorem Ew{n:Int}  :CRt 172 #[(.int .i64 n)] w fun v _=>v=b13:=by
 have C:=PV hX;exact Cgo Tryz.func172 r r rfl<|Rg<|Ua<|Rg<|Om<|Ub<|Rj r r rfl<|Ua<|PS<|Wq r r C<|YS<|χ
theorem JB{a:Int}{b:Int}  :CRt 122 #[(.int .i64 a),(.int .i64 b)] w fun v _=>v=(.int .i64 (cmpI a b)):=by
 have C:=PV hX;refine Cgo Tryz.func122 r r r (Rg<|Ua<|Rg<|Ub<|PK C Lo r r (Ew C.bd) ?_);intro _ _ h _ j;subst j;refine Oa (Nl<|Rg<|Ub<|PK h Lo r r (Ew h.bd) ?_);intro _ _ g _ i;subst i;refine Ua<|Rh<|Om<|Nl<|Uc<|Rh<|Om<|Nl<|Uc<|Rh<|Om<|Ub<|P2 r r (fun d=>?_)<|fun d=>?_
 ·exact Nl<|Uf<|Ua<|PS<|Wq r r g<|YR<|E1 d
 refine Nl<|Uc<|Rh<|Om<|Ub<|QN r r (fun e=>?_)<|fun e=>?_
 ·exact Nl<|Uf<|Ua<|PS<|Wq r r g<|YR<|EH d e
 exact Nl<|Uc<|Rg<|Ua<|PS<|Wq r r g<|YR<|Mf d e
theorem F6{N:Value}{a:List Int}(e:RS Zg X w N a){P:Value}{b:List Int}(g:RS Zg X w P b)  :CRt 84 #[N,P] w fun v _=>v=(.int .i64 (cmpL cmpI a b)):=by
 obtain⟨a1,l,rfl,_,_⟩:=e.len;obtain⟨G,H,rfl,_,_⟩:=g.len;have C:=PV hX;have hml:maxLen=9223372036854775807:=rfl;refine Cgo Tryz.func84 r r r (Rg<|Ua<|Rh<|Ub<|St.len sl23 rfl<|Om<|Nl<|W.block<|P7 (fun μ f v=>∃(x y:Nat→Prop) (i:Nat),Cx X w x y v∧f 0=(S12 a1 a l)∧f 1=(S12 G b H)∧f 9=(S12 a1 a l)∧f 10=(.int .i64 a.length)∧f 11=(.int .i64 i)∧RS Zg x v (S12 a1 a l) a∧RS Zg x v (S12 G b H) b∧i≤a.length∧i≤b.length∧cmpL cmpI a b=cmpL cmpI (a.drop i) (b.drop i)∧μ=(a.length-i)) _ ⟨_,_,0,C,rfl,rfl,rfl,rfl,rfl,e,g,(Tv _),(Tv _),rfl,rfl⟩ ?_);rintro _ _ _ ⟨_,_,i,k,m,p,s,z,A,e,g,_,_,hv,_⟩;obtain⟨_,rfl⟩:=rebK (aC m<|aC p<|aC s<|aC z<|aC A aN);clear m p s z A;refine Rg<|Ol<|P2 r r (fun I=>?_)<|fun I=>?_
 ·refine Nl (PT<|Ud<|PR<|PT<|W.block<|Rg<|Ub<|P4 (j:=i) (u:=(a.getD i 0)) e sl23 io3 r r r (Je o) ?_);intro _ _ J B;obtain⟨rfl,_⟩:J=_∧_:=B.rd;refine Ol<|P0 pl3 r (B.cell 0 _ r)<|Oa<|Ua<|Rh<|Om<|Ub<|St.len sl23 rfl<|Ol<|Ra r r (fun K=>?_)<|fun K=>?_
  ·exact Nl<|Uf<|Ua<|PS<|Wq r r k<|YR<|BP hv o o
  refine Nl (Uc<|Rg<|Om<|Ub<|P4 (j:=i) (u:=(b.getD i 0)) g sl23 io3 r r r (Je o) ?_);intro _ _ L D;obtain⟨rfl,_⟩:L=_∧_:=D.rd;refine Ol (P0 pl3 r (D.cell 0 _ r)<|Ua<|Rg<|Om<|Ub<|PK k Ok r r (JB k.bd) ?_);intro _ _ E F Q;have e:=e.sp F;have g:=g.sp F;subst Q;refine Ua<|Rg<|Ub<|QH r r (fun h=>?_)<|fun h=>?_
  ·exact Nl<|Uf<|Om<|Ua<|PS<|Wq r r E<|YR<|qY (d:=0) hv o o h
  refine Nl<|Uc<|PN<|Ol<|St.add r r (Ja (a:=i) (b:=1) o)<|Om<|Nl<|⟨_,o,_,_,(i+1),E,rfl,rfl,rfl,rfl,rfl,e,g,o,o,(pS (d:=0) hv o o h),rfl⟩
 refine Nl<|PT<|Ue<|QB<|Rh<|Ub<|St.len sl23 rfl<|Ub<|St.len sl23 rfl<|Ol<|P2 r r (fun M=>?_)<|fun M=>?_
 ·exact Nl<|Uf<|Ua<|PS<|Wq r r k<|YR<|BT hv o o
 exact Nl<|Uc<|Rg<|Ua<|PS<|Wq r r k<|YR<|qU hv o o
theorem FM{a:List UInt8}{b:List UInt8}  :CRt 124 #[(str a),(str b)] w fun v _=>v=(.int .i64 (cmpL cmpB a b)):=by
 have C:=PV hX;refine Cgo Tryz.func124 r r rfl<|Rg<|Ua<|Rg<|Om<|Ub<|SI r rfl<|Ua<|PS<|Wq r r C ?_
 rfl
theorem Lj{a:List UInt8}{b:List UInt8}  :CRt 86 #[(str a),(str b)] w fun v _=>v=(.int .i64 (cmpL cmpB a b)):=by
 have C:=PV hX;refine Cgo Tryz.func86 r r r (Rg<|Ua<|Rg<|Om<|Ub<|PK C Pa r r (FM C.bd) ?_);intro _ _ d _ e;subst e;refine Ua<|PS<|Wq r r d ?_
 rfl
theorem IZ{a:List GExpr}(e:RS Jc X w v0 a){b:List GExpr}(g:RS Jc X w v1 b)(hC:OC a b):CRt 87 #[v0,v1,(.func (.func 54) #[] #[])] w fun v _=>v=(.int .i64 (cmpL cmpE a b)):=by
 obtain⟨a1,T,rfl,_,_⟩:=e.len;obtain⟨a3,c4,rfl,_,_⟩:=g.len;have C:=PV hX;have hml:maxLen=9223372036854775807:=rfl;refine Cgo Tryz.func87 r r r (Rg<|Ua<|Rh<|Ub<|St.len sl29 rfl<|Om<|Nl<|W.block<|P7 (fun μ f v=>∃(x y:Nat→Prop) (i:Nat),Cx X w x y v∧f 0=(S12 a1 a T)∧f 1=(S12 a3 b c4)∧f 2=(.func (.func 54) #[] #[])∧f 11=(S12 a1 a T)∧f 12=(.int .i64 a.length)∧f 13=(.int .i64 i)∧RS Jc x v (S12 a1 a T) a∧RS Jc x v (S12 a3 b c4) b∧i≤a.length∧i≤b.length∧cmpL cmpE a b=cmpL cmpE (a.drop i) (b.drop i)∧μ=(a.length-i)) _ ⟨_,_,0,C,rfl,rfl,rfl,rfl,rfl,rfl,e,g,(Tv _),(Tv _),rfl,rfl⟩ ?_);rintro _ _ _ ⟨_,_,i,C9,U,V,Y,Z,aa,ab,e,g,_,_,hv,_⟩;obtain⟨_,rfl⟩:=rebK (aC U<|aC V<|aC Y<|aC Z<|aC aa<|aC ab aN);clear U V Y Z aa ab;refine Rg<|Ol<|P2 r r (fun am=>?_)<|fun am=>?_
 ·refine Nl (PT<|Ud<|PR<|PT<|W.block<|Rg<|Ub<|P4 (j:=i) (u:=(a.getD i Δ)) e sl29 io31 r r r (Je o) ?_);intro _ _ _ ac;obtain⟨s,z,A,B,D,E,F,G,rfl,h⟩:=Jb ac.rd;refine Ol (QE (cs:=(ec (a.getD i Δ) s z A B D E F G)) ag31 r r ac.cell<|Ol<|PU C9 io31 r ?_);intro _ _ _ _ _ av H aw;have e:=e.sp H;refine Oa (On<|Us (cs':=(ec (a.getD i Δ) s z A B D E F G)) av aw io31 ?_);intro _ ad I p;have g:=(g.sp H).sp I;have h:=(h.sp H).sp I;refine Nl<|Rh<|Om<|Ub<|St.len sl29 rfl<|Ol<|Ra r r (fun an=>?_)<|fun an=>?_
  ·exact Nl<|Uf<|Ua<|PS<|Wq r r ad<|YR<|BP hv o o
  refine Nl (Uc<|Rg<|Om<|Ub<|P4 (j:=i) (u:=(b.getD i Δ)) g sl29 io31 r r r (Je o) ?_);intro _ _ _ ae;obtain⟨J,K,L,M,N,P,Q,R,rfl,S⟩:=Jb ae.rd;refine Ol (QE (cs:=(ec (b.getD i Δ) J K L M N P Q R)) ag31 r r ae.cell<|Ol<|PU ad io31 r ?_);intro _ _ _ _ ao ax k ay;have az:=ao _ p.blk.lt;have e:=(e.sp I).sp k;have g:=g.sp k;refine On (Us (cs':=(ec (b.getD i Δ) J K L M N P Q R)) ax ay io31 ?_);intro _ af l aA;have h:=(h.sp k).sp l;have S:=(S.sp k).sp l;have p:=(p.spn k).spo l az;refine Nl (Rg<|Ub<|Uo (vs:=(ec (a.getD i Δ) s z A B D E F G)) p ag31<|Ol<|Uo (vs:=(ec (b.getD i Δ) J K L M N P Q R)) aA ag31<|Ol<|RE af cb54 r r (hC i o o af.bd (Mx (a.getD i Δ) h)<|Mx (b.getD i Δ) S) ?_);intro _ _ ag ah aB;have e:=(e.sp l).sp ah;have g:=(g.sp l).sp ah;subst aB;refine Ua<|Rg<|Ub<|QH r r (fun m=>?_)<|fun m=>?_
  ·exact Nl<|Uf<|Om<|Ua<|PS<|Wq r r ag<|YR<|qY (d:=Δ) hv o o m
  refine Nl<|Uc<|PN<|Ol<|St.add r r (Ja (a:=i) (b:=1) o)<|Om<|Nl<|⟨_,o,_,_,(i+1),ag,rfl,rfl,rfl,rfl,rfl,rfl,e,g,o,o,(pS (d:=Δ) hv o o m),rfl⟩
 refine Nl<|PT<|Ue<|QB<|Rh<|Ub<|St.len sl29 rfl<|Ub<|St.len sl29 rfl<|Ol<|P2 r r (fun aq=>?_)<|fun aq=>?_
 ·exact Nl<|Uf<|Ua<|PS<|Wq r r C9<|YR<|BT hv o o
 exact Nl<|Uc<|Rg<|Ua<|PS<|Wq r r C9<|YR<|qU hv o o
end
end Go.Wf
namespace Go.Wf
open Go Go.Proofs
theorem Q0:Zf Tryz.prog 125=some (.agg #[.int .i64 0,.int .i64 0,.int .i64 0],3,24):=k
theorem V2:yv Tryz.prog 125 3=true:=k
theorem F2:Zs Tryz.prog 125 0=some 0:=k
theorem FQ:Zs Tryz.prog 125 1=some 1:=k
theorem po:Zs Tryz.prog 125 2=some 2:=k
theorem Ys:Zs Tryz.prog 86 0=some 0:=k
theorem J7:Zs Tryz.prog 86 1=some 1:=k
theorem Yn:Zs Tryz.prog 88 0=some 0:=k
theorem qZ:Zs Tryz.prog 88 1=some 2:=k
theorem Yb:Tryz.prog.underlying 141=some (.slice 144):=k
theorem Zw:Zf Tryz.prog 144=some (.agg #[.bool false,.slice none 0 0,.bool false,.slice none 0 0,.int .i64 0,.slice none 0 0],6,96):=k
theorem X8:yv Tryz.prog 144 6=true:=k
theorem Qe:Zs Tryz.prog 144 0=some 0:=k
theorem yr:Zs Tryz.prog 144 1=some 4:=k
theorem Yf:Zs Tryz.prog 144 2=some 5:=k
end Go.Wf
namespace Go.Wf
open Go
variable{a:GExpr}
def Lwe(a:GExpr):Prop:=lowE a=a
theorem Ya:Lwe a↔lowC a.op a.c=a.c∧∀x∈a.args,Lwe x:=by
 unfold Lwe;cases a with
 |mk o n c s l=>
  rw[lowE];simp only[GExpr.mk.injEq,GExpr.op,GExpr.c,GExpr.args,true_and];refine and_congr Iff.rfl ?_;rw[Kx]
  induction l with
  |nil=>simp
  |cons a l ih=>simp[ih]
theorem mE{c d:Int}:ocmp c d=0↔c=0∧d=0:=by
 unfold ocmp;split<;>simp_all
theorem sy{a b:Int}:cmpI a b=0↔a=b:=by
 unfold cmpI;split<;>(try split)<;>simp_all<;>omega
theorem mZ{α:Type}{f:α→α→Int}:∀ {a b:List α},(∀x∈a,∀y∈b,f x y=0→x=y)→cmpL f a b=0→a=b
 |[],[],_,_=>rfl
 |[],_::_,_,h=>by simp[cmpL] at h
 |_::_,[],_,h=>by simp[cmpL] at h
 |a::aa,b::bs,hf,h=>by
  rw[cmpL,mE] at h;rw[hf a χ b χ h.1,mZ (fun x hx y hy=>hf x R' y XE) h.2]
theorem pM{p q:Rat}(h:qcmp p q=0):p=q:=by
 unfold qcmp Xr at h;have h:=Uj.1 h;have a:p-q=0:=Rat.num_eq_zero.1 h;have b:p=(p-q)+q:=by rw[Rat.sub_add_cancel]
 rw[b,a,Rat.zero_add]
theorem vJ{a b:List GExpr}(h:K1 a b=0)(hf:∀x∈a,∀y∈b,cmpE x y=0→x=y):a=b:=by
 induction a generalizing b with
 |nil=>cases b with
  |nil=>rfl
  |cons b bs=>simp[K1] at h
 |cons a aa ih=>cases b with
  |nil=>simp[K1] at h
  |cons b bs=>
   rw[K1,mE] at h;rw[hf a χ b χ h.1,ih h.2 fun x hx y hy=>hf x R' y XE]
theorem zZ:∀n:Nat,∀a b:GExpr,SizeOf.sizeOf a<n→Lwe a→Lwe b→cmpE a b=0→a=b:=by
 intro n
 induction n with
 |zero=>intro a b h;exact absurd h (TC _)
 |succ n ih=>
  intro a b hs ha hb h;rw[Qs] at h;simp only[mE] at h;obtain⟨d,g,i,j,k⟩:=h;have e1:=sy.1 d;have e2:=mZ (fun x _ y _ e=>sy.1 e) g;have l:=pM i;have m:=mZ (fun x _ y _ e=>by
   have:=sy.1 e
   exact UInt8.toNat_inj.1 o) j
  rw[Ya] at ha hb;have p:=vJ k fun x hx y hy e=>ih x y (by
   have:=List.sizeOf_lt_of_mem hx
   cases a;simp[GExpr.args] at hs this;omega) (ha.2 x hx) (hb.2 y hy) e
  have s:a.c=b.c:=by
   rw[←ha.1,←hb.1,e1];unfold lowC;rw[l]
  rw[←GExpr.eta a,←GExpr.eta b,e1,e2,m,p,s]
theorem Ce{b:GExpr}(ha:Lwe a)(hb:Lwe b)(h:cmpE a b=0):a=b:=zZ _ a b (VM _) ha hb h
section
variable {α:Type} {f:α→α→Int} {ad:α→α→α}
def Srt(f:α→α→Int)(l:List α):Prop:=l.Pairwise fun a b=>f a b≤0
def Stc(f:α→α→Int)(l:List α):Prop:=l.Pairwise fun a b=>f a b<0
def absb(f:α→α→Int)(ad:α→α→α)(p:α):List α→α×List α
 |[]=>(p,[])
 |q::l=>if f p q=0 then absb f ad (ad p q) l else(p,q::l)
def mrg(f:α→α→Int)(ad:α→α→α):Nat→List α→List α
 |0,_=>[]
 |_,[]=>[]
 |n+1,p::l=>(absb f ad p l).1::mrg f ad n (absb f ad p l).2
structure MrgOk (f:α→α→Int) (ad:α→α→α):Prop where
 is:IsCmp f
 a1:∀p q x,f (ad p q) x=f p x
 a2:∀p q x,f x (ad p q)=f x p
theorem IsCmp.lt_le(h:IsCmp f){a b c:α}(g:f a b<0)(d:f b c≤0):f a c<0:=by
 have t:=h.tri a b c o d;rcases Int.lt_or_eq_of_le t with e|e
 ·exact e
 ·have e1:=h.anti a c;have e2:=h.anti a b;unfold Anti at e1 e2
  have:=h.tri b c a d o
  omega
theorem IsCmp.le_lt(h:IsCmp f){a b c:α}(d:f a b≤0)(g:f b c<0):f a c<0:=by
 have t:=h.tri a b c d o;rcases Int.lt_or_eq_of_le t with e|e
 ·exact e
 ·have e1:=h.anti a c;have e2:=h.anti b c;unfold Anti at e1 e2
  have:=h.tri c a b o d
  omega
theorem ov(M:MrgOk f ad)(x:α):∀(l:List α) (p:α),f (absb f ad p l).1 x=f p x∧f x (absb f ad p l).1=f x p
 |[],p=>⟨rfl,rfl⟩
 |q::l,p=>by
  unfold absb;split
  ·obtain⟨a,b⟩:=ov M x l (ad p q);rw[a,b,M.a1,M.a2];exact⟨rfl,rfl⟩
  ·exact⟨rfl,rfl⟩
theorem Q5:∀(l:List α) (p:α),(absb f ad p l).2.Sublist l
 |[],p=>List.Sublist.refl _
 |q::l,p=>by
  unfold absb;split
  ·exact(Q5 l _).cons _
  ·exact List.Sublist.refl _
theorem xQ(M:MrgOk f ad):∀(l:List α) (p:α),Srt f (p::l)→∀x∈(absb f ad p l).2,f p x<0
 |[],p,_,x,hx=>by cases hx
 |q::l,p,hs,x,hx=>by
  unfold absb at hx;have hs':=List.pairwise_cons.1 hs;split at hx
  ·rename_i a;have hq:=List.pairwise_cons.1 hs'.2
   have:=xQ M l (ad p q) (List.pairwise_cons.2 ⟨fun y hy=>by rw[M.a1];exact hs'.1 y XE,hq.2⟩) x hx
   rwa [M.a1] at this
  ·rename_i a;have d:=hs'.1 q χ;rcases UL.1 hx with rfl|hx
   ·omega
   ·exact M.is.lt_le (b:=q) o ((List.pairwise_cons.1 hs'.2).1 x hx)
theorem zH(M:MrgOk f ad):∀(n:Nat) (l:List α),∀y∈mrg f ad n l,∃p∈l,∀x,f y x=f p x∧f x y=f x p
 |0,l,y,h=>by simp[mrg] at h
 |n+1,[],y,h=>by simp[mrg] at h
 |n+1,p::l,y,h=>by
  rw[mrg] at h;rcases UL.1 h with rfl|h
  ·exact⟨p,by simp,fun x=>ov M x l p⟩
  ·obtain⟨q,hq,hk⟩:=zH M n _ y h;exact⟨q,by simp[(Q5 l p).subset hq],hk⟩
theorem sQ(M:MrgOk f ad):∀(n:Nat) (l:List α),Srt f l→Stc f (mrg f ad n l)
 |0,l,_=>List.Pairwise.nil
 |n+1,[],_=>List.Pairwise.nil
 |n+1,p::l,h=>by
  rw[mrg];refine List.pairwise_cons.2 ⟨fun y hy=>?_,sQ M n _ ((List.pairwise_cons.1 h).2.sublist (Q5 l p))⟩;obtain⟨q,hq,hk⟩:=zH M n _ y hy;rw[(ov M y l p).1,(hk p).2];exact xQ M l p h q hq
theorem vm:∀(n:Nat) (l:List α),l.length≤n→Stc f l→mrg f ad n l=l
 |0,[],_,_=>rfl
 |0,_::_,h,_=>by simp at h
 |n+1,[],_,_=>rfl
 |n+1,p::l,h,hs=>by
  have hs:=List.pairwise_cons.1 hs;have e:absb f ad p l=(p,l):=by
   cases l with
   |nil=>rfl
   |cons q l=>
    unfold absb;rw[if_neg]
    have:=hs.1 q χ
    omega
  rw[mrg,e,vm n l (by simp at h;omega) hs.2]
theorem oR(I:IsCmp f):∀ {l m:List α},l.Perm m→Srt f l→Stc f m→l=m:=by
 intro l
 induction l with
 |nil=>intro m h _ _;exact h.nil_eq
 |cons a l ih=>
  intro m h hs hm;cases m with
  |nil=>exact h.eq_nil
  |cons b m=>
   have hs':=List.pairwise_cons.1 hs;have hm':=List.pairwise_cons.1 hm;have e:a=b:=by
    have d:a∈b::m:=h.subset χ;have g:b∈a::l:=h.symm.subset χ;rcases UL.1 d with d|d
    ·exact d
    ·rcases UL.1 g with g|g
     ·exact g.symm
     ·have j:=hm'.1 a d;have k:=hs'.1 b g;have i:=I.anti a b;unfold Anti at i;omega
   subst e;rw[ih h.cons_inv hs'.2 hm'.2]
end
structure GPart where
 c:GRat
 exp:Int
 rest:List GExpr
 deriving Inhabited
def nbE(q:Rat):GExpr:= .mk 1 [] (ofQ q) [] []
def opE(op:Int)(l:List GExpr):GExpr:= .mk op [] Y3 [] l
def pwE(n:Int)(l:List GExpr):GExpr:= .mk 12 [n] Y3 [] l
def sevE(op:Int):List GExpr→GExpr
 |[a]=>a
 |l=>opE op l
def flE(op:Int)(l:List GExpr):List GExpr:=l.flatMap fun a=>if a.op=op then a.args else [a]
abbrev hdE(a:GExpr):GExpr:=a.args.getD 0 Δ
def paA(a:GExpr):GPart:=
 if a.op=1 then⟨a.c,0,[]⟩ else if a.op=11 then(if(hdE a).op=1 then⟨(hdE a).c,0,a.args.drop 1⟩ else⟨ofQ 1,0,a.args⟩) else⟨ofQ 1,0,[a]⟩
def cmpA(a b:GPart):Int:=if a.rest=[]∨b.rest=[] then((min 1 b.rest.length:Nat):Int)-((min 1 a.rest.length:Nat):Int) else cmpE (sevE 11 a.rest) (sevE 11 b.rest)
def adA(p q:GPart):GPart:=⟨ofQ (p.c.q+q.c.q),p.exp,p.rest⟩
def reA(p:GPart):List GExpr:=if p.c.q=0 then [] else if p.rest=[] then [nbE p.c.q] else if p.c.q=1 then [sevE 11 p.rest] else [opE 11 (nbE p.c.q::p.rest)]
def sumE:List GExpr→GExpr
 |[]=>nbE 0
 |l=>sevE 10 l
def AddR(l:List GExpr)(x:GExpr):Prop:=∃ps:List GPart,ps.Perm ((flE 10 l).map paA)∧Srt cmpA ps∧x=sumE ((mrg cmpA adA ps.length ps).flatMap reA)
def paM(a:GExpr):GPart:=if a.op=12 then⟨Y3,a.n.getD 0 0,a.args⟩ else⟨Y3,1,[a]⟩
def cmpM(a b:GPart):Int:=cmpE (a.rest.getD 0 Δ) (b.rest.getD 0 Δ)
def adM(p q:GPart):GPart:=⟨p.c,p.exp+q.exp,p.rest⟩
def reM(p:GPart):List GExpr:=if p.exp=0 then [] else if p.exp=1 then [p.rest.getD 0 Δ] else [pwE p.exp p.rest]
def qs(r:List GExpr):Prop:=(∀f∈r,f.op≠1∧f.op≠11)∧Stc cmpM (r.map paM)∧¬ ∃s,r=[s]∧s.op=10
structure topN (a:GExpr):Prop where
 num:a.op=1→a=nbE a.c.q
 sum:a.op=10→a=opE 10 a.args∧2≤a.args.length∧(∀x∈a.args,x.op≠10∧(paA x).c.q≠0)∧Stc cmpA (a.args.map paA)
 prod:a.op=11→a=opE 11 a.args∧(((hdE a).op=1∧(hdE a).c.q≠0∧(hdE a).c.q≠1∧a.args.drop 1≠[]∧qs (a.args.drop 1))∨(qs a.args∧2≤a.args.length))
 pow:a.op=12→∃n b,a=pwE n [b]∧n≠0∧n≠1∧b.op≠12∧b.op≠11∧(b.op=1→n<0∧b.c.q=0)
 op1:13≤a.op→a.op≤16→a.n.getD 0 0≠1∧(a.op=13→1≤a.n.getD 0 0∧((hdE a).op=13→1000<a.n.getD 0 0*(hdE a).n.getD 0 0))
inductive NF:GExpr→Prop
 |mk {a:GExpr} (t:topN a) (h:∀x∈a.args,NF x):NF a
theorem NF.top(h:NF a):topN a:=by cases h;assumption
theorem NF.arg(h:NF a):∀x∈a.args,NF x:=by cases h;assumption
theorem nr(q:Rat):NF (nbE q):= .mk ⟨fun _=>by unfold nbE;simp[GExpr.c,J9],fun h=>by simp[nbE,GExpr.op] at h,fun h=>by simp[nbE,GExpr.op] at h,fun h=>by simp[nbE,GExpr.op] at h,fun h=>by simp[nbE,GExpr.op] at h⟩ (fun _ hx=>by simp[nbE,GExpr.args] at hx)
theorem nb_q(q:Rat):(nbE q).c.q=q:=J9 q
theorem nb(q:Rat):Lwe (nbE q):=by
 rw[Ya];refine⟨?_,fun _ hx=>by simp[nbE,GExpr.args] at hx⟩;show lowC 1 (ofQ q)=ofQ q;unfold lowC;rw[if_pos r,J9]
theorem Hr{op:Int}{l:List GExpr}(a:op≠1)(h:∀x∈l,Lwe x):Lwe (opE op l):=by
 rw[Ya];refine⟨?_,h⟩;show lowC op Y3=Y3;unfold lowC;rw[if_neg a]
theorem Al{op:Int}{l:List GExpr}(h:2≤l.length):sevE op l=opE op l:=by
 match l,h with
 |_::_::_,_=>rfl
theorem Vb:IsCmp cmpA:=by
 have e:∀x y:GPart,cmpA x y=match x.rest,y.rest with
   |[],[]=>0
   |[],_::_=>1
   |_::_,[]=> -1
   |p::r,q::s=>cmpE (sevE 11 (p::r)) (sevE 11 (q::s)):=by
  intro x y;unfold cmpA;cases hx:x.rest<;>cases hy:y.rest<;>simp<;>omega
 refine⟨fun a b=>?_,fun a b c=>?_⟩
 ·rw[e,e];unfold Anti;cases a.rest<;>cases b.rest<;>simp only[]<;>first|rfl|exact y8.1 _ _
 ·rw[e,e,e];unfold Tri;cases a.rest<;>cases b.rest<;>cases c.rest<;>simp only[]<;>first|exact AV.1 _ _ _|(intro _ _;omega)
theorem sR:IsCmp cmpM:=⟨fun a b=>y8.1 _ _,fun a b _=>AV.1 _ _ _⟩
theorem mrgA:MrgOk cmpA adA:=⟨Vb,fun _ _ _=>rfl,fun _ _ _=>rfl⟩
theorem mrgM:MrgOk cmpM adM:=⟨sR,fun _ _ _=>rfl,fun _ _ _=>rfl⟩
theorem tq{α:Type}{f:α→α→Int}{ad:α→α→α}{I:α→Prop}(h:∀p q,I p→I q→f p q=0→I (ad p q)):∀(l:List α) (p:α),I p→(∀x∈l,I x)→I (absb f ad p l).1
 |[],p,hp,_=>hp
 |q::l,p,hp,hl=>by
  unfold absb;split
  ·rename_i a;exact tq h l _ (h p q hp (hl q χ) a) fun x hx=>hl x R'
  ·exact hp
theorem qv{α:Type}{f:α→α→Int}{ad:α→α→α}{I:α→Prop}(h:∀p q,I p→I q→f p q=0→I (ad p q)):∀(n:Nat) (l:List α),(∀x∈l,I x)→∀y∈mrg f ad n l,I y
 |0,l,_,y,hy=>by simp[mrg] at hy
 |n+1,[],_,y,hy=>by simp[mrg] at hy
 |n+1,p::l,hl,y,hy=>by
  rw[mrg] at hy;rcases UL.1 hy with rfl|hy
  ·exact tq h l p (hl p χ) fun x hx=>hl x R'
  ·exact qv h n _ (fun x hx=>hl x (by simp[(Q5 l p).subset hx])) y hy
theorem AE{f:GPart→GPart→Int}{re:GPart→List GExpr}{pa:GExpr→GPart}{ms:List GPart}(hs:Stc f ms)(hr:∀m∈ms,re m=[]∨∃z,re m=[z]∧∀x y,f (pa z) x=f m x∧f y (pa z)=f y m):Stc f ((ms.flatMap re).map pa):=by
 induction ms with
 |nil=>exact List.Pairwise.nil
 |cons m ms ih=>
  have hs':=List.pairwise_cons.1 hs;have ih:=ih hs'.2 fun m hm=>hr m (by simp[hm]);rw[List.flatMap_cons];rcases hr m χ with h|⟨z,h,hk⟩
  ·rw[h];exact ih
  ·rw[h];refine List.pairwise_cons.2 ⟨fun y hy=>?_,ih⟩
   obtain⟨e,he,rfl⟩:=UR.1 hy;obtain⟨m2,a,he⟩:=List.mem_flatMap.1 he;rcases hr m2 (by simp[a]) with b|⟨g,b,d⟩
   ·rw[b] at he;cases he
   ·rw[b] at he;obtain rfl:e=g:=by simpa using he
    rw[(hk (pa e) (pa e)).1,(d m m).2];exact hs'.1 m2 a
end Go.Wf
namespace Go.Wf
open Go Go.RowKit
variable{X:Nat→Prop}{j:Nat}
def Ji:Ty GPart where
 sz:=6
 pos:=o
 rd X w cs p:=∃s1 s2 s3,cs=[.bool p.c.num.neg,s1,.bool p.c.den.neg,s2,.int .i64 p.exp,s3]∧ -9223372036854775808≤p.exp∧p.exp≤9223372036854775807∧
  RS Jh X w s1 p.c.num.mag∧RS Jh X w s2 p.c.den.mag∧RS Jc X w s3 p.rest
 len h:=by obtain⟨s1,s2,s3,rfl,_⟩:=h;rfl
 one h:=by
  obtain⟨s1,s2,s3,rfl,_,_,h1,h2,h3⟩:=h;intro u hu;simp at hu;rcases hu with rfl|rfl|rfl|rfl|rfl|rfl
  ·rfl
  ·exact h1.one
  ·rfl
  ·exact h2.one
  ·rfl
  ·exact h3.one
 tr h t:=by obtain⟨s1,s2,s3,rfl,g1,g2,h1,h2,h3⟩:=h;exact⟨s1,s2,s3,rfl,g1,g2,h1.tr t,h2.tr t,h3.tr t⟩
theorem J3{w:World}{cs:List Value}{p:GPart}(h:Ji.rd X w cs p):∃a1 c1 a2 c2 a b,cs=[.bool p.c.num.neg,.slice a1 p.c.num.mag.length c1,.bool p.c.den.neg,.slice a2 p.c.den.mag.length c2,.int .i64 p.exp,.slice a p.rest.length b]∧
  -9223372036854775808≤p.exp∧p.exp≤9223372036854775807∧RS Jh X w (.slice a1 p.c.num.mag.length c1) p.c.num.mag∧RS Jh X w (.slice a2 p.c.den.mag.length c2) p.c.den.mag∧RS Jc X w (.slice a p.rest.length b) p.rest:=by
 obtain⟨_,_,_,rfl,i,j,d,e,g⟩:=h;obtain⟨a1,c1,rfl,_⟩:=d.len;obtain⟨a2,c2,rfl,_⟩:=e.len;obtain⟨a,b,rfl,_⟩:=g.len;exact⟨a1,c1,a2,c2,a,b,rfl,i,j,d,e,g⟩
theorem SU{w:World}{v:Value}{p:GPart}(h:RV Ji X w v p):∃a1 c1 a2 c2 a b,v= .agg #[.bool p.c.num.neg,.slice a1 p.c.num.mag.length c1,.bool p.c.den.neg,.slice a2 p.c.den.mag.length c2,.int .i64 p.exp,.slice a p.rest.length b]∧
  -9223372036854775808≤p.exp∧p.exp≤9223372036854775807∧RS Jh X w (.slice a1 p.c.num.mag.length c1) p.c.num.mag∧RS Jh X w (.slice a2 p.c.den.mag.length c2) p.c.den.mag∧RS Jc X w (.slice a p.rest.length b) p.rest:=by
 obtain⟨_,rfl,h⟩:=h;obtain⟨a1,c1,a2,c2,a,b,rfl,h'⟩:=J3 h;exact⟨a1,c1,a2,c2,a,b,rfl,h'⟩
theorem Z2{w:World}{d g h:Value}{a b:Bool}{l m:List Nat}{e:Int}{r:List GExpr}(i: -9223372036854775808≤e)(j:e≤9223372036854775807)(k:RS Jh X w d l)(p:RS Jh X w g m)(s:RS Jc X w h r):
  RV Ji X w (.agg #[.bool a,d,.bool b,g,.int .i64 e,h]) ⟨⟨⟨a,l⟩,⟨b,m⟩⟩,e,r⟩:=⟨[_,_,_,_,_,_],rfl,d,g,h,rfl,i,j,k,p,s⟩
section
variable {α:Type} {T:Ty α} {E:TypeId} {X0 x y:Nat→Prop} {w w':World} {w0:Bs} {v:Value} {l:List α}
theorem p8{sz:Nat}:∀ {css:List (List Value)} {i:Nat},(∀cs∈css,cs.length=sz)→i<css.length→css.flatten.take (i*sz)=(css.take i).flatten∧css.flatten.drop (i*sz+sz)=(css.drop (i+1)).flatten
 |[],i,_,h=>by simp at h
 |c::css,0,h,_=>by
  have hc:=h c χ;subst hc;simp
 |c::css,i+1,h,hi=>by
  have hc:=h c χ;obtain⟨a,b⟩:=p8 (css:=css) (i:=i) (fun cs hcs=>h cs (by simp[hcs])) ς;subst hc;refine⟨?_,?_⟩
  ·rw[Uy,Wb,Nat.add_comm (i*_),List.take_append,TE o,U4,a];rfl
  ·rw[Uy,Wb,Nat.add_comm (i*_),Nat.add_assoc,List.drop_append,TI o,TJ,U4,b];rfl
theorem uQ{sz:Nat}:∀ {css:List (List Value)} {j q:Nat} {cs:List Value},(∀cs∈css,cs.length=sz)→css[j]? =some cs→q<sz→css.flatten[j*sz+q]? =cs[q]?
 |[],j,q,cs,_,h,_=>by simp at h
 |c::css,0,q,cs,ha,h,hq=>by
  have hc:=ha c χ;cases h;rw[Uy,Wh,Wg,Uz o]
 |c::css,j+1,q,cs,ha,h,hq=>by
  have hc:=ha c χ;rw[Uy,UA (by rw[Wb];omega),hc,show(j+1)*sz+q-sz=j*sz+q by rw[Wb];omega];exact uQ (fun cs hcs=>ha cs (by simp[hcs])) d' hq
theorem B3{sz:Nat}{css:List (List Value)}{cs:List Value}(ha:∀cs∈css,cs.length=sz)(hj:j<css.length):(css.set j cs).flatten=css.flatten.take (j*sz)++cs++css.flatten.drop (j*sz+sz):=by
 obtain⟨a,b⟩:=p8 ha hj;rw[a,b,UX,if_pos hj,List.flatten_append,Uy,Tm]
theorem ou{sz:Nat}:∀ {css:List (List Value)},(∀cs∈css,cs.length=sz)→css.flatten.length=css.length*sz
 |[],_=>by simp
 |c::css,h=>by rw[Uy,Tc,h c χ,ou fun cs hcs=>h cs (by simp[hcs]),Td,Wb];omega
end
section
variable {α:Type} {T:Ty α} {P:Program} {ρ:Operand→Value} {w:World} {K:Value→World→Prop} {Kp:List PanicEntry→World→Prop} {dst:Option Tmp} {ty:TypeId} {pos:String} {after:Array Edge} {gd:Option (Nat×Bool)} {X0 x y:Nat→Prop} {w0:Bs}
theorem QV [Inhabited α] {o:Operand} {t E:TypeId} {ad:Option Addr} {n c:Nat} {l:List α} (ho:OS T E w0 x y w (.slice ad n c) l) (ht:yv P t T.sz=true) (hx:ρ o= .pointer (ad.map (·.add (j*T.sz)))) (hj:j<l.length)
  (h:∀v,RV T x w v (l.getD j Δ)→K v w):St P ρ ⟨dst,.load t o,ty,pos,after,gd⟩ w K Kp:=by
 obtain⟨⟨css,i,a,b⟩,_⟩:=ho;have hall:=Ks i a;rcases b.2 with ⟨e,_⟩|⟨g,_,_,e,_,_,_,_,_⟩
 ·omega
 ·cases e;have k:(Value.pointer (Option.map (fun x=>x.add (j*T.sz)) (some (⟨g,0,none⟩:Addr))))= .pointer (some ⟨g,j*T.sz,none⟩):=by simp[Addr.add];intro h;exact h.symm
  rw[k] at hx;have hcj:css[j]? =some (css[j]'ω):=Tt _;have hrd:=a j _ (l.getD j Δ) hcj (Je hj);refine QE ht hx (T.len hrd) (fun q v hq=>?_) (h _ ⟨_,rfl,hrd⟩);have hql:=(UC.1 hq).1;rw[T.len hrd] at hql;have d:=b.cells (g:=g) r (j*T.sz+q) v (by rw[uQ hall hcj hql];exact hq);rw[Addr.add_lit,Wg] at d;exact d
theorem Rk {a b:Operand} {t E:TypeId} {z v:Value} {by_:Nat} {ad:Option Addr} {n c:Nat} {u:α} {l:List α} (C:Cx X0 w0 x y w) (ho:OS T E w0 x y w (.slice ad n c) l) (hi:Zf P t=some (z,T.sz,by_))
  (hx:ρ a= .pointer (ad.map (·.add (j*T.sz)))) (hv:(ρ b).cells=v.cells) (hr:RV T x w v u) (hj:j<l.length)
  (h:∀w',Cx X0 w0 x y w'→Ap x w x y w'→OS T E w0 x y w' (.slice ad n c) (l.set j u)→K undef w'):St P ρ ⟨dst,.store t a b,ty,pos,after,gd⟩ w K Kp:=by
 obtain⟨⟨css,k,s,D⟩,hmem⟩:=ho;have hall:=Ks k s;obtain⟨_,hi',_,hs,_⟩:=J0 hi;obtain⟨cs,rfl,hrd⟩:=hr;have hcl:=T.len hrd;rcases D.2 with ⟨e,_⟩|⟨g,_,cur,e,hb,hg,A,F,G,H⟩
 ·omega
 ·cases e;have I:(Value.pointer (Option.map (fun x=>x.add (j*T.sz)) (some (⟨g,0,none⟩:Addr))))= .pointer (some ⟨g,j*T.sz,none⟩):=by simp[Addr.add];intro h;exact h.symm
  rw[I] at hx;have hB:Blk w g cur.toList E:=by unfold Blk;rw[hg]
  have hcur:cur.toList.length=c*T.sz:=by rw[TZ,G]
  have hjn:j*T.sz+T.sz≤l.length*T.sz:=by rw[←Wb];exact VQ _ hj
  have hnc:l.length*T.sz≤c*T.sz:=VQ _ A;refine RN (vs:=cs) hi' hs hx (by rw[hv];rfl) hcl hB o (Um.2 (T.one hrd)) fun C' hC'=>?_
  rw[hcl] at hC';have hfl:css.flatten.length=l.length*T.sz:=by rw[ou hall,k]
  obtain⟨R,hR⟩:∃R,cur.toList=css.flatten++R:=⟨cur.toList.drop (l.length*T.sz),by rw[←H,U0]⟩;have hset:=B3 (cs:=cs) hall (show j<css.length by omega);have m:C'=(css.set j cs).flatten++R:=by
   rw[hC',hset,hR,List.take_append_of_le_length o,List.drop_append_of_le_length o,Tm,Tm,Tm]
  have hsl:(css.set j cs).flatten.length=l.length*T.sz:=by
   rw[ou (sz:=T.sz),UI,k];intro d hd;rcases List.mem_or_eq_of_mem_set hd with hd|rfl
   ·exact hall d hd
   ·exact hcl
  have hm:=hmem g r;have hsz:(Y8 w g C').heap.size=w.heap.size:=by simp[Y8,World.setRow]
  have hsame:∀b,b<w.heap.size→¬b=g→(Y8 w g C').heap[b]? =w.heap[b]? :=fun b _ hb=>Q3 hb;have B:Bel w0 (Y8 w g C'):=C.below.turn (g:=g) ⟨rfl,rfl,rfl,by rw[hsz];exact Tu _,fun b hb hm=>hsame b hb hm⟩ hm.2;have htr:Tr x w x (Y8 w g C'):=⟨fun _ _ h=>h,fun b hb hx=>hsame b hb (fun e=>hx (e▸hm.1.1)),o⟩;refine h _ ⟨B,C.base,fun b hb=>by rw[hsz];exact C.bd b hb,C.yx⟩ ⟨htr,fun b hb hy=>hsame b hb (fun e=>hm.1.2 (e▸hy))⟩ ⟨⟨css.set j cs,by rw[UI,UI,k],fun i d p hi hp=>?_,?_⟩,hmem⟩
  ·rw[List.getElem?_set] at hi hp;by_cases e:j=i
   ·subst e;rw[if_pos r,if_pos o] at hi;rw[if_pos r,if_pos hj] at hp;cases hi;cases hp;exact T.tr hrd htr
   ·rw[if_neg e] at hi hp;exact T.tr (s i d p hi hp) htr
  ·refine⟨by rw[hsl,UI],.inr ⟨g,c,C'.toArray,by rw[UI],Tv _,hB.set,by rw[UI];exact A,F,?_,?_⟩⟩
   ·rw[m,UY,Tc,hsl]
    have:=congrArg List.length hR
    rw[Tc,hfl] at this;omega
   ·rw[UI,m,←hsl];exact List.take_left
end
end Go.Wf
namespace Go.Wf
open Go
variable{i:Nat}{l:List (Nat×Nat)}
def Dk(l:List (Nat×Nat))(k:Nat)(o:Oper):Oper:=⟨o.dst,o.op,o.type,o.pos,o.after++((l.filter fun p=>Nat.beq p.1 k).map fun p=>(⟨p.2,.phase⟩:Edge)).toArray,o.guard⟩
def addL(l:List (Nat×Nat)):Nat→List Oper→List Oper
 |_,[]=>[]
 |k,o::r=>Dk l k o::addL l (k+1) r
def addE(l:List (Nat×Nat))(ops:Array Oper):Array Oper:=(addL l 0 ops.toList).toArray
theorem ug{l:List (Nat×Nat)}:∀ {k:Nat} (r:List Oper),(addL l k r).length=r.length
 |_,[]=>rfl
 |_,_::r=>congrArg (· +1) (ug r)
theorem tS{l:List (Nat×Nat)}:∀ {k i:Nat} {r:List Oper},(addL l k r)[i]? =(r[i]?).map (Dk l (k+i))
 |_,i,[]=>by cases i<;>rfl
 |k,0,o::r=>rfl
 |k,i+1,o::r=>by
  have:=tS (l:=l) (k:=k+1) (i:=i) (r:=r)
  rw[show k+1+i=k+(i+1) by omega] at this;exact this
theorem Zn{ops:Array Oper}:(addE l ops).size=ops.size:=by
 unfold addE;rw[UY,ug,TZ]
theorem vq{ops:Array Oper}:(addE l ops)[i]? =(ops[i]?).map (Dk l i):=by
 unfold addE;rw[UE,tS,Array.getElem?_toList,Wg]
def isX(o:Oper):Bool:=match o.op,o.guard,o.dst with | .extract (.tmp _) _,none,some _=>true | .move (.tmp _),none,some _=>true|_,_,_=>false
def n0(ops:Array Oper)(n:Nat)(l:List (Nat×Nat)):Bool:=
 let N:=ops.size
 Region.noSelect ops &&
 (ops.toList.all fun o=>match o.dst with|some d=>Nat.blt d n|none=>true) &&
 ((List.range N).all fun k=>((ops[k]?).map fun o=>o.after.all fun e=> !Region.binds .any e||Nat.blt e.on k).getD false) &&
 (l.all fun q=>Nat.blt q.1 N&&Nat.blt q.2 q.1 && !((l.map Prod.fst).contains q.2) &&
  match ops[q.2]? with
  |none=>false
  |some o=>isX o&&(o.after.all fun e=> !Region.binds .any e||ancB ops N e.on q.1) &&
   (List.range N).all fun j=>Nat.beq j q.2||ancB ops N j q.2||match ops[j]? with|some oj=>(oj.after.any fun e=>Region.binds .any e&&e.on==q.2)||o.apart ops oj|none=>true)
section
variable {fc:Fence} {P:Program} {ops:Array Oper} {n:Nat} {D:List Deferred} {Q:Exit→Act→World→Prop}
theorem vN(ts:Array Value):yielded (addE l ops) ts=yielded ops ts:=by
 funext j
 unfold yielded;rw[vq];cases ops[j]?<;>rfl
theorem n5{K K':Act→World→Prop}{a:Act}{w:World}(h:wpOpIn fc 0 P (addE l ops) Q i K a w)(hk:∀a w,K a w→K' a w):wpOpIn fc 0 P ops Q i K' a w:=by
 refine wpOpIn_mono hk ?_;unfold wpOpIn at *;rw[vq] at h;cases ho:ops[i]? with
 |none=>rw[ho] at h;exact h
 |some o=>
  rw[ho] at h;simp only[Wm,vN] at h;exact h
theorem ri{L:Array Bool}(h:i∈Region.ready .any ops L)(hl:∀q∈l,q.1=i→L.getD q.2 false=true):i∈Region.ready .any (addE l ops) L:=by
 obtain⟨d,g,o,ho,j⟩:=J4.1 h;refine J4.2 ⟨by rw[Zn];exact d,g,Dk l i o,by rw[vq,ho];rfl,?_⟩;intro e he hb;have he:e∈o.after++((l.filter fun p=>Nat.beq p.1 i).map fun p=>(⟨p.2,.phase⟩:Edge)).toArray:=he
 rcases Array.mem_append.1 he with he|he
 ·exact j e he hb
 ·rw[List.mem_toArray,UR] at he;obtain⟨q,hq,rfl⟩:=he;obtain⟨a,b⟩:=UN.1 hq;exact hl q a (VC b)
theorem wK{L:Array Bool}(h:i∈Region.ready .any (addE l ops) L):i∈Region.ready .any ops L:=by
 obtain⟨a,b,_,ho,d⟩:=J4.1 h;rw[Zn] at a;rw[vq] at ho;obtain⟨o',ho',rfl⟩:=Wl.1 ho;exact J4.2 ⟨a,b,o',ho',fun e he hb=>d e (Array.mem_append.2 (.inl he)) hb⟩
theorem Hm{o:Oper}(hx:isX o=true)(a:Act):(∃v,∀w,(execOp a.eval o).run P w= .ok (.value v) w)∨(∀w K,¬o.uponIn fc 0 P a K Q ((execOp a.eval o).run P w)):=by
 obtain⟨dst,op,ty,pos,after,gd⟩:=o;cases op with
 |extract x i=>
  have e:∀w,(execOp a.eval ⟨dst,.extract x i,ty,pos,after,gd⟩).run P w=((do pure (Next.value (←Instr.extract (a.eval x) i)):Sem Next)).run P w:=fun _=>rfl
  simp only[e];unfold Instr.extract;cases hv:a.eval x with
  |tuple vs=>
   simp only;cases hu:vs[i]? with
   |some v=>exact .inl ⟨v,fun w=>by simp⟩
   |none=>exact .inr fun w K h=>by simp[Sem.run_bind,stuck,Oper.uponIn] at h
  |_=>exact .inr fun w K h=>by simp[Sem.run_bind,stuck,Oper.uponIn] at h
 |move x=>exact .inl ⟨a.eval x,fun w=>rfl⟩
 |_=>simp[isX] at hx
theorem sc(hro:fc.round=none)(chk:n0 ops n l=true)(hQ:∀c (a:Act) d v w,d<n→Q (.panic c) (a.put (some d) v) w→Q (.panic c) a w):
  ∀(fuel:Nat) (L:Array Bool) (a:Act) (w:World),unl ops.size L=fuel→L.size=ops.size→Xl ops L→
   wpAnyIn fc 0 P .any (addE l ops) Q fuel L a w→wpAnyIn fc 0 P .any ops Q fuel L a w:=by
 simp only[n0,T2,Um,UT] at chk;obtain⟨⟨⟨hsel,hd⟩,hb⟩,hl⟩:=chk;have back:∀(k:Nat) (o:Oper),ops[k]? =some o→∀e∈o.after,Region.binds .any e=true→e.on<k:=by
  intro k o ho e he hbe
  have:=hb k (TY.1 ho).1
  rw[ho] at this;simp only[Wm,Wj,TW] at this
  have:=this e he
  rw[hbe] at this;simpa using this
 intro fuel;have bridge:∀(L:Array Bool),L.size=ops.size→∀i,i<ops.size→L.getD i false=L.getD i true:=by
  intro L hs i hi
  have:L[i]? =some L[i]:=by simp[hs,hi]
  simp[Ts,this]
 have nne:∀ {L:Array Bool},Region.ready .any ops L=[]→Region.ready .any (addE l ops) L=[]:=by
  intro L h;rw[Uw];intro i hi
  have:=wK hi
  rw[h] at this;cases this
 have cset:∀ {L:Array Bool} {i:Nat},L.size=ops.size→Xl ops L→i∈Region.ready .any ops L→Xl ops (L.setIfInBounds i true):=by
  intro L i hs hc hi;obtain⟨m,p,o,ho,x⟩:=J4.1 hi;intro k hk hl' o' ho' e he hb';rw[Ts,TB];by_cases e1:i=e.on
  ·subst e1;simp[hs,m]
  ·simp only[e1,if_false];rw[←Ts];by_cases e2:i=k
   ·subst e2;rw[ho] at ho';cases ho';exact x e he hb'
   ·rw[Ts,TB] at hl';simp only[e2,if_false] at hl';rw[←Ts] at hl';exact hc k hk hl' o' ho' e he hb'
 induction fuel with
 |zero=>
  intro L a w hu hs hc h;have hall:=qf hu;refine⟨?_,h.2⟩;rw[Uw];intro i hi;obtain⟨m,p,_⟩:=J4.1 hi;rw[hall i m] at p;cases p
 |succ fuel ih=>
  intro L a w hu hs hc h;by_cases hp:∃q∈l,q.2∈Region.ready .any ops L
  ·obtain⟨q,hq,hr⟩:=hp;have hq':=hl q hq;obtain⟨⟨⟨hqN,hqk⟩,hqf⟩,hm⟩:=hq';obtain⟨m,p,o,ho,x⟩:=J4.1 hr;rw[ho] at hm;simp only[T2,Um,UT] at hm;obtain⟨⟨hx,_⟩,hap⟩:=hm;have hr':q.2∈Region.ready .any (addE l ops) L:=ri hr fun q' B he=>by
    exfalso;have hf:(l.map Prod.fst).contains q.2=true:=by
     rw[List.contains_iff_mem,UR];exact⟨q',B,he⟩
    rw[hf] at hqf;cases hqf
   have s:=n5 (K':=wpAnyIn fc 0 P .any (addE l ops) Q fuel (L.setIfInBounds q.2 true)) (h.2 _ hr') fun _ _ h=>h
   have hgd:o.guard=none∧∃d,o.dst=some d:=by
    obtain⟨dst,op,ty,pos,after,gd⟩:=o;unfold isX at hx;split at hx
    ·rename_i b g A;exact⟨g,_,A⟩
    ·rename_i b g A;exact⟨g,_,A⟩
    ·cases hx
   obtain⟨hgd,d,hdst⟩:=hgd;have hw:∀y,Region.wanted o y=true:=fun y=>by unfold Region.wanted;rw[hgd]
   have hse:∀ρ,o.semAt fc.round ρ=execOp ρ o:=fun ρ=>by rw[hro];rfl
   unfold wpOpIn at s;rw[ho] at s;simp only[hw,if_true,Oper.wpIn,hro,Oper.semAt_none] at s;have hdn:d<n:=by
    have b:=hd o (by
     obtain⟨hk,rfl⟩:=TY.1 ho;simp)
    rw[hdst] at b;simpa using b
   rcases Hm (fc:=fc) (P:=P) (Q:=Q) hx a with ⟨v,hv⟩|hno
   ·rw[hv] at s;refine wpAnyIn_first (v:=v) hro ho (Region.noSelect_spec hsel) (fun c a w hq=>by rw[hdst] at hq;exact hQ c a d v w hdn hq) fuel L a w ?_ hr ?_ ?_
    ·intro j _ hoj hne hun hno;have b:=hap j (TY.1 hoj).1;rw[hoj] at b;simp only[T5] at b;rcases b with (b|b)|b|b
     ·exact absurd (VC b) hne
     ·have g:=Ym hs hc ops.size j q.2 m (fun o' ho'=>by rw[ho] at ho';cases ho';exact x) b;rw[bridge L hs j (TY.1 hoj).1,hun] at g;cases g
     ·obtain⟨e,he,g⟩:=Array.any_eq_true'.1 b;simp only[T2,beq_iff_eq] at g;exact absurd g.2 (hno e he g.1)
     ·exact b
    ·refine⟨.inl ⟨hw _,hv⟩,fun w=>?_⟩
     obtain⟨dst,op,ty,pos,after,gd⟩:=o;cases op<;>first|rfl|simp[isX] at hx
    ·refine ih _ _ _ ?_ M' (cset hs hc hr) s.2
     have:=V8 hs m p;omega
   ·exact absurd s.2 (hno w _)
  ·refine⟨fun hn=>h.1 (nne hn),fun i hi=>?_⟩
   obtain⟨m,p,o,ho,x⟩:=J4.1 hi;have hr':i∈Region.ready .any (addE l ops) L:=ri hi fun q hq he=>by
    subst he;have hq':=hl q hq;obtain⟨⟨⟨hqN,hqk⟩,hqf⟩,hm⟩:=hq';have hlt:q.2<ops.size:=by
     have:q.2<q.1:=by simpa using hqk
     omega
    have z:ops[q.2]? =some ops[q.2]:=by simp[hlt]
    rw[z] at hm;simp only[T2,Um,UT] at hm;obtain⟨⟨hx,haf⟩,hap⟩:=hm;rw[bridge L hs _ hlt];cases hb:L.getD q.2 true with
    |true=>rfl
    |false=>
     exfalso;refine hp ⟨q,hq,J4.2 ⟨hlt,hb,_,z,fun e he hbe=>?_⟩⟩
     rw[TW] at haf;have b:=haf e he;rw[hbe] at b;exact Ym hs hc ops.size e.on q.1 m (fun o' ho'=>by rw[ho] at ho';cases ho';exact x) (by simpa using b)
   refine n5 (h.2 i hr') fun a w g=>ih _ _ _ ?_ M' (cset hs hc hi) g
   have:=V8 hs m p;omega
end
section
variable {σ:Type} {fc:Fence} [Fw fc] {P:Program} {ops:Array Oper} {n:Nat} {D:List Deferred} {Q:Post} {f0:Fr} {w0:World}
theorem SF {id:Nat} (l:List (Nat×Nat)) (hro:fc.round=none) (hz:n0 ops n l=true) (hQ:∀c f f' w,Q (.panic c) f w→Q (.panic c) f' w)
  (hm:P.follows .mixedOrders=true) (m:Nat) (dl:List (List Nat)) (s0:σ) (R:σ→World→σ→World→Prop) (Gl:List (σ→Value→World→Prop))
  (chk:ya (addE l ops) m n dl=true) (e:R s0 w0 s0 w0.drew) (htr:∀s a t b u c,R s a t b→R t b u c→R s a u c) (hG:Qh R Gl)
  (h:∀f s w,R s0 w0 s w→Keep (J2 (addE l ops) m) f0 f→x7 P (addE l ops) Q R Gl f s w (addE l ops).toList dl 0∧(Deps (addE l ops) Gl f s w (List.range m)→Sq P (addE l ops) n Q ((addE l ops).toList.drop m) f w)):
  W fc P (Code.region id ops true) n D Q f0 w0:=by
 intro a ha hf;have F:=Xw chk;refine wpIn_region_any hm ?_;have d:∀i,i<ops.size→(Array.replicate ops.size false).getD i true=false:=by
  intro i hi;simp[Ts,hi]
 have hu:unl ops.size (Array.replicate ops.size false)=ops.size:=by
  unfold unl
  have:(List.range ops.size).countP (fun i=> !(Array.replicate ops.size false).getD i true)=(List.range ops.size).length:=by
   refine Up.2 ?_;intro i hi;simp[d i ς]
  rw[this];simp
 refine sc hro hz (fun c a _ _ w _ hq=>⟨⟨by rw[←hq.1.size];simp[Act.put],by rw[←hq.1.defers];simp[Act.put]⟩,hQ _ _ _ _ hq.2⟩) ops.size _ a _ hu χ (fun k hk hl=>by rw[d k hk] at hl;cases hl) ?_;have key:=yG (fc:=fc) F htr hG (v8 _ _ _ fun f s w r k=>(h f s w r k).1) (fun f s w r k=>(h f s w r k).2) (addE l ops).size (Array.replicate ops.size false) a s0 w0.drew XQ (by rw[Zn];simp) ?_ (fun i hi _=>d i WX) ha e (fun t _=>by rw[hf]) ?_
 ·rw[Zn] at key;exact key
 ·intro k hk hl;rw[Zn] at hk;rw[d k hk] at hl;cases hl
 ·intro j _ hl;rw[d j (by have:=F.le;rw[Zn] at this;omega)] at hl;cases hl
theorem SJ {id:Nat} {c:Value} (l:List (Nat×Nat)) (hro:fc.round=none) (hz:n0 ops n l=true) (hQ:∀c f f' w,Q (.panic c) f w→Q (.panic c) f' w)
  (hm:P.follows .mixedOrders=true) (m p:Nat) (dl:List (List Nat)) (s0:σ) (R:σ→World→σ→World→Prop) (Gl:List (σ→Value→World→Prop))
  (chk:oF (addE l ops) m p n dl=true) (x:R s0 w0 s0 w0.drew) (htr:∀s a t b u c,R s a t b→R t b u c→R s a u c) (hG:Qh R Gl) (hc:∀s v w,(Gl.getD p noG) s v w→v=c)
  (h:∀f s w,R s0 w0 s w→Keep (J2 (addE l ops) m) f0 f→x7 P (addE l ops) Q R Gl f s w (addE l ops).toList dl 0∧
   (Deps (addE l ops) Gl f s w (dl.getD p [])→∀w',AtOp (fun o=>OpSt P (addE l ops) f o w' (fun v g=>v=c∧g=w') (fun ch g=>∀f,Q (.panic ch) f g)) ((addE l ops).toList.drop p))∧
   (Deps (addE l ops) Gl f s w ((List.range m).filter fun j=> !Nat.beq j p)→
    AtOp (fun o=>OpSt P (addE l ops) f o w (fun _ w'=>∀f',(∀t,t≠Ye (addE l ops) p→f' t=f t)→f' (Ye (addE l ops) p)=c→Sq P (addE l ops) n Q ((addE l ops).toList.drop (m+1)) f' w') (fun ch g=>∀f,Q (.panic ch) f g)) ((addE l ops).toList.drop m))):
  W fc P (Code.region id ops true) n D Q f0 w0:=by
 intro a ha hf;have F:=oU chk;refine wpIn_region_any hm ?_;have e:∀i,i<ops.size→(Array.replicate ops.size false).getD i true=false:=by
  intro i hi;simp[Ts,hi]
 have hu:unl ops.size (Array.replicate ops.size false)=ops.size:=by
  unfold unl
  have:(List.range ops.size).countP (fun i=> !(Array.replicate ops.size false).getD i true)=(List.range ops.size).length:=by
   refine Up.2 ?_;intro i hi;simp[e i ς]
  rw[this];simp
 refine sc hro hz (fun c a d v w _ hq=>⟨⟨by rw[←hq.1.size];simp[Act.put],by rw[←hq.1.defers];simp[Act.put]⟩,hQ _ _ _ _ hq.2⟩) ops.size _ a _ hu χ (fun k hk hl=>by rw[e k hk] at hl;cases hl) ?_;have key:=Da (fc:=fc) F htr hG (v8 _ _ _ fun f s w r k=>(h f s w r k).1) hc (fun f s w r k d w' o ho=>AtOp.get ho ((h f s w r k).2.1 d w')) (fun f s w r k d o ho=>AtOp.get ho ((h f s w r k).2.2 d)) (addE l ops).size (Array.replicate ops.size false) a s0 w0.drew XQ (by rw[Zn];simp) ?_ (fun i hi _=>e i WX) ha x (fun t _=>by rw[hf]) ?_
 ·rw[Zn] at key;exact key
 ·intro k hk hl;rw[Zn] at hk;rw[e k hk] at hl;cases hl
 ·intro j _ hl;rw[e j (by have:=F.le;rw[Zn] at this;omega)] at hl;cases hl
end
end Go.Wf
namespace Go.Wf
open Go Go.RowKit
section
variable {α:Type} {T:Ty α} {E:TypeId} {P:Program} {ρ:Operand→Value} {w:World} {K:Value→World→Prop} {Kp:List PanicEntry→World→Prop} {dst:Option Tmp} {ty:TypeId} {pos:String} {after:Array Edge} {gd:Option (Nat×Bool)} {X X0 x y:Nat→Prop} {w0:Bs}
theorem Rf {k:FuncId} {args:Array Operand} {ts:Array TypeId} {vs:List Value} {d:Value} {l:List α} {Φ:List α→Prop} (C:Cx X0 w0 x y w) (ho:OS T E w0 x y w d l) (hk:Jd P k=true)
  (ha:args.toList.map ρ=vs) (he:ρ (.func k)= .func (.func k) #[] #[]) (hc:Calls P k vs.toArray w (RetO w d.ownBlock fun _ w'=>∃l2,OWr T E x w d.ownBlock d w' l2∧Φ l2))
  (h:∀v w' l2,Cx X0 w0 x y w'→Ap x w x y w'→OS T E w0 x y w' d l2→Φ l2→K v w'):
  St P ρ ⟨dst,.call {callee:= .value (.func k),args:=args,argTypes:=ts},ty,pos,after,gd⟩ w K Kp:=by
 have ex:(fun b=>x b∨d.ownBlock=some b)=x:=by
  funext b
  exact propext ⟨fun q=>q.elim id fun e=>(ho.mem b e).1.1,.inl⟩
 unfold Jd at hk;split at hk
 ·rename_i fn hf;simp only[T2,T3] at hk;refine RG hf hk.1 hk.2 ha (Calls.mono hc ?_) he;intro e w' hr;cases e with
  |returned v=>
   obtain⟨⟨l2,g,i⟩,j⟩:=hr;obtain⟨c,a,o⟩:=C.backO ho.mem j g;rw[ex] at c a o;exact h v w' l2 c a o i
  |panicked ch=>exact hr.elim
  |outgrown=>exact hr.elim
 ·cases hk
theorem RetO.finE{M:Nat→Prop}{o:Option Nat}{v u:Value}{l:List α}{w':World}{Φ:List α→Prop}(C:Cx X ⟨w,M⟩ x y w')(hM:∀k,M k→o=some k)(h:OS T E ⟨w,M⟩ x y w' v l)(e:Φ l):
  RetO w o (fun _ w'=>∃l',OWr T E X w o v w' l'∧Φ l') (.returned u) w':=by
 obtain⟨a,b⟩:=RetO.fin C hM h r;exact⟨⟨l,a,e⟩,b⟩
end
section
variable {fc:Fence} [Fw fc] {P:Program} {ops:Array Oper} {n:Nat} {D:List Deferred} {Q:Post} {f0:Fr} {w0:World}
theorem RM {id:Nat} {c:Value} (l:List (Nat×Nat)) (hro:fc.round=none) (hz:n0 ops n l=true) (hQ:∀c f f' w,Q (.panic c) f w→Q (.panic c) f' w)
  (hm:P.follows .mixedOrders=true) (m p:Nat) (dl:List (List Nat)) {X0 x y:Nat→Prop} {a:Bs} (C:Cx X0 a x y w0) (Gl:List (Unit→Value→World→Prop))
  (chk:oF (addE l ops) m p n dl=true) (hG:Qh (RU X0 a x y) Gl) (hc:∀s v w,(Gl.getD p noG) s v w→v=c)
  (h:∀f w,Cx X0 a x y w→Sp x y w0 x y w Zl→Keep (J2 (addE l ops) m) f0 f→x7 P (addE l ops) Q (RU X0 a x y) Gl f () w (addE l ops).toList dl 0∧
   (Deps (addE l ops) Gl f () w (dl.getD p [])→∀w',AtOp (fun o=>OpSt P (addE l ops) f o w' (fun v b=>v=c∧b=w') (fun ch b=>∀f,Q (.panic ch) f b)) ((addE l ops).toList.drop p))∧
   (Deps (addE l ops) Gl f () w ((List.range m).filter fun j=> !Nat.beq j p)→
    AtOp (fun o=>OpSt P (addE l ops) f o w (fun _ w'=>∀f',(∀t,t≠Ye (addE l ops) p→f' t=f t)→f' (Ye (addE l ops) p)=c→Sq P (addE l ops) n Q ((addE l ops).toList.drop (m+1)) f' w') (fun ch b=>∀f,Q (.panic ch) f b)) ((addE l ops).toList.drop m))):
  W fc P (Code.region id ops true) n D Q f0 w0:=
 SJ l hro hz hQ hm m p dl () (RU X0 a x y) Gl chk WE (fun _ _ _ _ _ _ h k=>⟨k.1,h.2.trans k.2⟩) hG hc fun f s w r k=>h f w r.1 r.2 k
end
def CmpP(P:Program)(k:FuncId)(f:GPart→GPart→Int)(G:GPart→Prop):Prop:=∀ {X:Nat→Prop} {w:World} {v0 v1:Value} {p q:GPart},(∀b,X b→b<w.heap.size)→RV Ji X w v0 p→RV Ji X w v1 q→G p→G q→
 Calls P k #[v0,v1] w (Ret w fun v w'=>v= .int .i64 (f p q))
end Go.Wf
namespace Go.Wf
open Go
variable{a b h i j m:Nat}
section
variable {α:Type} [Inhabited α] {f:α→α→Int}
def Z8(f:α→α→Int)(a b:Nat)(l:List α):Prop:=∀i j,a≤i→i<j→j<b→f (l.getD i Δ) (l.getD j Δ)≤0
structure SegP (a b:Nat) (l m:List α):Prop where
 len:m.length=l.length
 out:∀i,i<a∨b≤i→m.getD i Δ=l.getD i Δ
 mem:∀i,a≤i→i<b→∃j,a≤j∧j<b∧m.getD i Δ=l.getD j Δ
 perm:m.Perm l
theorem SegP.refl(l:List α):SegP a b l l:=⟨rfl,fun _ _=>rfl,fun i d e=>⟨i,d,e,rfl⟩,List.Perm.refl _⟩
theorem SegP.trans{l m k:List α}(h:SegP a b l m)(g:SegP a b m k):SegP a b l k:=
 ⟨g.len.trans h.len,fun i hi=>(g.out i hi).trans (h.out i hi),fun i d p=>by
  obtain⟨j,s,v,e⟩:=g.mem i d p;obtain⟨k,k1,k2,e2⟩:=h.mem j s v;exact⟨k,k1,k2,e.trans e2⟩,g.perm.trans h.perm⟩
theorem SegP.up{c d:Nat}{l m:List α}(h:SegP a b l m)(g:c≤a)(k:b≤d):SegP c d l m:=
 ⟨h.len,fun i hi=>h.out i o,fun i i1 i2=>by
  by_cases hi:a≤i∧i<b
  ·obtain⟨j,_,_,e⟩:=h.mem i hi.1 hi.2;exact⟨j,o,o,e⟩
  ·exact⟨i,i1,i2,h.out i o⟩,h.perm⟩
def swp(l:List α)(i j:Nat):List α:=(l.set i (l.getD j Δ)).set j (l.getD i Δ)
theorem ws{l:List α}{k:Nat}{x:α}(h:i<l.length):(l.set i x).getD k Δ=if k=i then x else l.getD k Δ:=by
 rw[Tq,List.getElem?_set,Tq];by_cases e:i=k
 ·subst e;rw[if_pos r,if_pos h,if_pos rfl];rfl
 ·rw[if_neg e,if_neg (fun h=>e h.symm)]
theorem xk{l:List α}{k:Nat}(hi:i<l.length)(hj:j<l.length):(swp l i j).getD k Δ=if k=j then l.getD i Δ else if k=i then l.getD j Δ else l.getD k Δ:=by
 unfold swp;rw[ws (by rw[UI];exact hj),ws hi]
theorem HR{l:List α}:(swp l i j).length=l.length:=by unfold swp;rw[UI,UI]
theorem pp{l:List α}(hb:b≤l.length)(hi:a≤i∧i<b)(hj:a≤j∧j<b):SegP a b l (swp l i j):=by
 have d:i<l.length:=o
 have e:j<l.length:=o
 refine⟨HR,fun k _=>?_,fun k k1 k2=>?_,?_⟩
 ·rw[xk d e,if_neg o,if_neg o]
 ·rw[xk d e];split
  ·exact⟨i,hi.1,hi.2,rfl⟩
  ·split
   ·exact⟨j,hj.1,hj.2,rfl⟩
   ·exact⟨k,k1,k2,rfl⟩
 ·unfold swp;rw[Tq,Tq,Tt d,Tt e];exact List.set_set_perm d e
def InsI(f:α→α→Int)(a i j:Nat)(l:List α):Prop:=
 (∀p q,a≤p→p<q→q≤i→p≠j→q≠j→f (l.getD p Δ) (l.getD q Δ)≤0)∧∀q,j<q→q≤i→f (l.getD j Δ) (l.getD q Δ)≤0
theorem zY{l:List α}(h:Z8 f a i l):InsI f a i i l:=⟨fun p q b d _ _ _=>h p q b d o,fun q b d=>o⟩
theorem Cc{l:List α}(I:IsCmp f)(h:InsI f a i j l)(hj:a<j)(hi:j≤i)(hl:i<l.length)(hc:f (l.getD j Δ) (l.getD (j-1) Δ)<0):InsI f a i (j-1) (swp l j (j-1)):=by
 have g:∀k,(swp l j (j-1)).getD k Δ=_:=fun k=>xk (l:=l) (i:=j) (j:=j-1) (k:=k) o o;constructor
 ·intro p q b d e m s;rw[g,g,if_neg m,if_neg s];by_cases e1:p=j
  ·rw[if_pos e1,if_neg o];exact h.1 (j-1) q o o e o o
  ·rw[if_neg e1];by_cases e2:q=j
   ·rw[if_pos e2];exact h.1 p (j-1) b o o e1 o
   ·rw[if_neg e2];exact h.1 p q b d e e1 e2
 ·intro q b d;rw[g,if_pos r,g];rw[if_neg o];by_cases e2:q=j
  ·rw[if_pos e2];omega
  ·rw[if_neg e2];exact h.2 q o d
theorem zS{l:List α}(I:IsCmp f)(h:InsI f a i j l)(hj:a≤j)(hi:j≤i)(hc:j≤a∨¬f (l.getD j Δ) (l.getD (j-1) Δ)<0):Z8 f a (i+1) l:=by
 intro p q b d _;by_cases e1:p=j
 ·rw[e1];exact h.2 q o o
 by_cases e2:q=j
 ·subst e2;rcases hc with hc|hc
  ·omega
  ·have e:=I.anti (l.getD q Δ) (l.getD (q-1) Δ);unfold Anti at e;by_cases g:p=q-1
   ·rw[g];omega
   ·exact I.tri _ (l.getD (q-1) Δ) _ (h.1 p (q-1) b o o o o) o
 ·exact h.1 p q b d o e1 e2
theorem w9{l:List α}(h:b≤a+1):Z8 f a b l:=fun _ _ _ _ _=>o
theorem Bp{l:List α}(h:Z8 f 0 l.length l):Srt f l:=by
 refine List.pairwise_iff_getElem.2 fun i j hi hj hij=>?_
 have:=h i j (Tv _) hij hj
 rwa [Tq,Tq,Tt hi,Tt hj] at this
theorem Z8.sub{c d:Nat}{l:List α}(h:Z8 f a b l)(e:a≤c)(g:d≤b):Z8 f c d l:=fun i j _ i2 _=>h i j o i2 o
theorem Z8.keep{c d:Nat}{l m:List α}(h:Z8 f a b l)(s:SegP c d l m)(hd:b≤c∨d≤a):Z8 f a b m:=fun i j i1 i2 i3=>by
 rw[s.out i o,s.out j o];exact h i j i1 i2 i3
def Blw(f:α→α→Int)(a m b:Nat)(l:List α):Prop:=∀i j,a≤i→i<m→m≤j→j<b→f (l.getD i Δ) (l.getD j Δ)≤0
theorem pg{l:List α}(d:Z8 f a m l)(e:Z8 f m b l)(h:Blw f a m b l):Z8 f a b l:=fun i j i1 i2 i3=>by
 by_cases hi:j<m
 ·exact d i j i1 i2 hi
 ·by_cases hj:m≤i
  ·exact e i j hj i2 i3
  ·exact h i j i1 o o i3
theorem Blw.lo{l k:List α}(h:Blw f a m b l)(s:SegP a m l k):Blw f a m b k:=fun i j i1 i2 i3 i4=>by
 obtain⟨p,d,g,e⟩:=s.mem i i1 i2;rw[e,s.out j (.inr i3)];exact h p j d g i3 i4
theorem Blw.hi{l k:List α}(h:Blw f a m b l)(s:SegP m b l k):Blw f a m b k:=fun i j i1 i2 i3 i4=>by
 obtain⟨p,d,g,e⟩:=s.mem j i3 i4;rw[e,s.out i (.inl i2)];exact h i p i1 i2 d g
def sxI(a b n p:Nat):Nat:=if a≤p∧p<a+n then p+(b-a) else if b≤p∧p<b+n then p-(b-a) else p
def rxI(a m b p:Nat):Nat:=if a≤p∧p<a+(b-m) then p+(m-a) else if a+(b-m)≤p∧p<b then p-(b-m) else p
def Xx(g:Nat→Nat)(l k:List α):Prop:=∀p,k.getD p Δ=l.getD (g p) Δ
theorem B9{l k:List α}(h:Xx (sxI a b i) l k)(hl:k.length=l.length)(hab:a+i<b)(hb:b+i<l.length):Xx (sxI a b (i+1)) l (swp k (a+i) (b+i)):=by
 intro p;rw[xk o o];by_cases e1:p=b+i
 ·rw[if_pos e1,h];congr 1;unfold sxI;(repeat' split)<;>omega
 ·rw[if_neg e1];by_cases e2:p=a+i
  ·rw[if_pos e2,h];congr 1;unfold sxI;(repeat' split)<;>omega
  ·rw[if_neg e2,h];congr 1;unfold sxI;(repeat' split)<;>omega
theorem zC{l:List α}:Xx (sxI a b 0) l l:=fun _=>by congr 1;unfold sxI;(repeat' split)<;>omega
theorem JY{g:Nat→Nat}{l k k':List α}(hij:j<i)(him:i≤m)(h:∀p,g p=g p)(a:Xx (sxI (m-i) m j) k k'):∀p,k.getD (rxI (m-i) m (m+j) p) Δ=k'.getD (rxI (m-i+j) m (m+j) p) Δ:=by
 intro p;rw[a];congr 1;unfold sxI rxI;(repeat' split)<;>omega
theorem LM{k k':List α}(hij:i<j)(him:i≤m)(a:Xx (sxI (m-i) (m+j-i) i) k k'):∀p,k.getD (rxI (m-i) m (m+j) p) Δ=k'.getD (rxI (m-i) m (m+(j-i)) p) Δ:=by
 intro p;rw[a];congr 1;unfold sxI rxI;(repeat' split)<;>omega
theorem M2{k k':List α}(him:i≤m)(a:Xx (sxI (m-i) m i) k k'):∀p,k.getD (rxI (m-i) m (m+i) p) Δ=k'.getD p Δ:=by
 intro p;rw[a];congr 1;unfold sxI rxI;(repeat' split)<;>omega
structure CutI (f:α→α→Int) (a m b s:Nat) (l:List α):Prop where
 lo:a≤s∧s≤m
 le:s≤(a+b)/2+m
 e1:m≤(a+b)/2+m-s∧(a+b)/2+m-s≤b
 c1:∀p q,a≤p→p<s→(a+b)/2+m-s≤q→q<b→f (l.getD p Δ) (l.getD q Δ)≤0
 c2:∀p q,m≤p→p<(a+b)/2+m-s→s≤q→q<m→f (l.getD p Δ) (l.getD q Δ)≤0
theorem NC {s lo hi:Nat} {l:List α} (I:IsCmp f) (w:Z8 f a m l) (x:Z8 f m b l) (ham:a<m) (hmb:m<b)
  (hlo:(lo=a∧m≤(a+b)/2∧hi=m)∨(lo+b=(a+b)/2+m∧(a+b)/2<m∧hi=(a+b)/2)) (hs:lo≤s∧s≤hi)
  (hb:lo<s→¬f (l.getD ((a+b)/2+m-1-(s-1)) Δ) (l.getD (s-1) Δ)<0) (ha:s<hi→f (l.getD ((a+b)/2+m-1-s) Δ) (l.getD s Δ)<0):CutI f a m b s l:=by
 generalize hq:(a+b)/2=mid at *;refine⟨by omega,o,o,?_,?_⟩
 ·intro p q g z A h;by_cases e:lo<s
  ·have i:=hb e;have y:=I.anti (l.getD (mid+m-1-(s-1)) Δ) (l.getD (s-1) Δ);unfold Anti at y;have j:mid+m-1-(s-1)=mid+m-s:=o
   rw[j] at i y;have d:f (l.getD p Δ) (l.getD (mid+m-s) Δ)≤0:=by
    by_cases k:p=s-1
    ·rw[k];omega
    ·exact I.tri _ (l.getD (s-1) Δ) _ (w p (s-1) g o o) o
   by_cases v:q=mid+m-s
   ·rw[v];exact d
   ·exact I.tri _ _ _ d (x _ q o o h)
  ·omega
 ·intro p q g z A h;by_cases e:s<hi
  ·have i:=ha e;have j:mid+m-1-s=mid+m-s-1:=o
   rw[j] at i;have d:f (l.getD p Δ) (l.getD s Δ)≤0:=by
    by_cases k:p=mid+m-s-1
    ·rw[k];omega
    ·exact I.tri _ (l.getD (mid+m-s-1) Δ) _ (x p (mid+m-s-1) g o o) o
   by_cases v:q=s
   ·rw[v];exact d
   ·exact I.tri _ _ _ d (w s q o o h)
  ·omega
theorem HI{s:Nat}{l k:List α}(I:IsCmp f)(v:Z8 f a m l)(w:Z8 f m b l)(ham:a<m)(hmb:m<b)(h:CutI f a m b s l)(hr:Xx (rxI s m ((a+b)/2+m-s)) l k):
  Z8 f a s k∧Z8 f s ((a+b)/2) k∧Z8 f ((a+b)/2) ((a+b)/2+m-s) k∧Z8 f ((a+b)/2+m-s) b k∧Blw f a ((a+b)/2) b k:=by
 obtain⟨_,_,_,A,B⟩:=h;generalize hq:(a+b)/2=mid at *;have e:∀p,k.getD p Δ=_:=hr;have x:∀p,p<s→rxI s m (mid+m-s) p=p:=fun p hp=>by unfold rxI;(repeat' split)<;>omega
 have y:∀p,s≤p→p<mid→rxI s m (mid+m-s) p=p+(m-s):=fun p hp z=>by unfold rxI;(repeat' split)<;>omega
 have d:∀p,mid≤p→p<mid+m-s→rxI s m (mid+m-s) p=p-(mid-s):=fun p hp z=>by unfold rxI;(repeat' split)<;>omega
 have g:∀p,mid+m-s≤p→rxI s m (mid+m-s) p=p:=fun p hp=>by unfold rxI;(repeat' split)<;>omega
 refine⟨fun i j i1 i2 i3=>?_,fun i j i1 i2 i3=>?_,fun i j i1 i2 i3=>?_,fun i j i1 i2 i3=>?_,fun i j i1 i2 i3 i4=>?_⟩
 ·rw[e,e,x i o,x j o];exact v i j i1 i2 o
 ·rw[e,e,y i o o,y j o o];exact w _ _ o o o
 ·rw[e,e,d i o o,d j o o];exact v _ _ o o o
 ·rw[e,e,g i o,g j o];exact w i j o i2 i3
 ·rw[e,e];by_cases c1:i<s
  ·rw[x i c1];by_cases c2:j<mid+m-s
   ·rw[d j i3 c2];exact v _ _ i1 o o
   ·rw[g j o];exact A i j i1 c1 o i4
  ·rw[y i o i2];by_cases c2:j<mid+m-s
   ·rw[d j i3 c2];exact B _ _ o o o o
   ·rw[g j o];exact w _ _ o o i4
end
section
variable {α:Type} [Inhabited α] {f:α→α→Int}
def upI(a k p:Nat):Nat:=if a≤p∧p<k then p+1 else if p=k then a else p
def dnI(m k p:Nat):Nat:=if k<p∧p≤m then p-1 else if p=k then m else p
theorem CH{l:List α}:Xx (upI a a) l l:=fun _=>by congr 1;unfold upI;(repeat' split)<;>omega
theorem Dt{l:List α}:Xx (dnI m m) l l:=fun _=>by congr 1;unfold dnI;(repeat' split)<;>omega
theorem IA{k:Nat}{l r:List α}(h:Xx (upI a k) l r)(hl:r.length=l.length)(ha:a≤k)(hk:k+1<l.length):Xx (upI a (k+1)) l (swp r k (k+1)):=by
 intro p;rw[xk o o,h,h,h];by_cases e1:p=k+1
 ·rw[if_pos e1];congr 1;unfold upI;(repeat' split)<;>omega
 ·rw[if_neg e1];by_cases e2:p=k
  ·rw[if_pos e2];congr 1;unfold upI;(repeat' split)<;>omega
  ·rw[if_neg e2];congr 1;unfold upI;(repeat' split)<;>omega
theorem H3{k:Nat}{l r:List α}(h:Xx (dnI m k) l r)(hl:r.length=l.length)(a:0<k)(hk:k≤m)(hm:m<l.length):Xx (dnI m (k-1)) l (swp r k (k-1)):=by
 intro p;rw[xk o o,h,h,h];by_cases e1:p=k-1
 ·rw[if_pos e1];congr 1;unfold dnI;(repeat' split)<;>omega
 ·rw[if_neg e1];by_cases e2:p=k
  ·rw[if_pos e2];congr 1;unfold dnI;(repeat' split)<;>omega
  ·rw[if_neg e2];congr 1;unfold dnI;(repeat' split)<;>omega
theorem JD  {l r:List α} (I:IsCmp f) (hs:Z8 f (a+1) b l) (hi:a+1≤i∧i≤b) (g:∀p,a+1≤p→p<i→f (l.getD p Δ) (l.getD a Δ)<0) (j:∀p,i≤p→p<b→¬f (l.getD p Δ) (l.getD a Δ)<0)
  (h:Xx (upI a (i-1)) l r):Z8 f a b r:=by
 intro p q k _ m;rw[h,h];have e1:∀p,a≤p→p<i-1→upI a (i-1) p=p+1:=fun p k1 _=>by unfold upI;(repeat' split)<;>omega
 have e2:upI a (i-1) (i-1)=a:=by unfold upI;(repeat' split)<;>omega
 have d:∀p,i≤p→upI a (i-1) p=p:=fun p k1=>by unfold upI;(repeat' split)<;>omega
 by_cases c1:p<i-1
 ·rw[e1 p k c1];by_cases c2:q<i-1
  ·rw[e1 q o c2];exact hs _ _ o o o
  ·by_cases e:q=i-1
   ·rw[e,e2]
    have:=g (p+1) o o
    omega
   ·rw[d q o];exact hs _ _ o o o
 ·by_cases e:p=i-1
  ·rw[e,e2,d q o];have v:=j q o m;have s:=I.anti (l.getD q Δ) (l.getD a Δ);unfold Anti at s;omega
  ·rw[d p o,d q o];exact hs _ _ o o o
theorem NJ  {l r:List α} (I:IsCmp f) (hs:Z8 f a m l) (hi:a≤i∧i≤m) (e:∀p,a≤p→p<i→¬f (l.getD m Δ) (l.getD p Δ)<0) (g:∀p,i≤p→p<m→f (l.getD m Δ) (l.getD p Δ)<0)
  (h:Xx (dnI m i) l r):Z8 f a (m+1) r:=by
 intro p q j _ _;rw[h,h];have e1:∀p,i<p→p≤m→dnI m i p=p-1:=fun p k1 _=>by unfold dnI;(repeat' split)<;>omega
 have e2:dnI m i i=m:=by unfold dnI;(repeat' split)<;>omega
 have b:∀p,p<i→dnI m i p=p:=fun p k1=>by unfold dnI;(repeat' split)<;>omega
 by_cases c1:i<q
 ·rw[e1 q c1 o];by_cases c2:i<p
  ·rw[e1 p c2 o];exact hs _ _ o o o
  ·by_cases d:p=i
   ·rw[d,e2]
    have:=g (q-1) o o
    omega
   ·rw[b p o];exact hs _ _ o o o
 ·by_cases d:q=i
  ·rw[d,e2,b p o];have s:=e p j o;have k:=I.anti (l.getD m Δ) (l.getD p Δ);unfold Anti at k;omega
  ·rw[b p o,b q o];exact hs _ _ o o o
theorem Pv{i:Nat}{l:List α}(I:IsCmp f)(hs:Z8 f m b l)(hh:m≤h∧h<b)(hc:f (l.getD h Δ) (l.getD a Δ)<0):∀p,m≤p→p<h+1→f (l.getD p Δ) (l.getD a Δ)<0:=by
 intro p d _;by_cases e:p=h
 ·rw[e];exact hc
 ·exact I.le_lt (hs p h d o hh.2) hc
theorem N7{l:List α}(I:IsCmp f)(hs:Z8 f m b l)(hh:m≤h∧h<b)(hc:¬f (l.getD h Δ) (l.getD a Δ)<0):∀p,h≤p→p<b→¬f (l.getD p Δ) (l.getD a Δ)<0:=by
 intro p _ g d;by_cases e:p=h
 ·rw[e] at d;exact hc d
 ·exact hc (I.le_lt (hs h p hh.1 o g) d)
theorem Pn{l:List α}(I:IsCmp f)(hs:Z8 f a m l)(hh:a≤h∧h<m)(hc:¬f (l.getD m Δ) (l.getD h Δ)<0):∀p,a≤p→p<h+1→¬f (l.getD m Δ) (l.getD p Δ)<0:=by
 intro p d _ b;by_cases e:p=h
 ·rw[e] at b;exact hc b
 ·exact hc (I.lt_le b (hs p h d o hh.2))
theorem O9{l:List α}(I:IsCmp f)(hs:Z8 f a m l)(hh:a≤h∧h<m)(hc:f (l.getD m Δ) (l.getD h Δ)<0):∀p,h≤p→p<m→f (l.getD m Δ) (l.getD p Δ)<0:=by
 intro p _ b;by_cases e:p=h
 ·rw[e];exact hc
 ·exact I.lt_le hc (hs h p hh.1 o b)
end
end Go.Wf
namespace Go.Wf
open Go Go.Proofs Go.RowKit
variable{G:GPart→Prop}{cf:GPart→GPart→Int}{kf:FuncId}
theorem SegP.all{a b:Nat}{l m:List GPart}(h:SegP a b l m)(hg:∀p∈l,G p){i:Nat}(hi:i<m.length):G (m.getD i Δ):=
 hg _<|h.perm.mem_iff.1 (by rw[Tq,Tt hi];exact List.getElem_mem hi)
def RotI(a m b i j:Nat)(l k:List GPart):Prop:=∀p,l.getD (rxI a m b p) Δ=k.getD (rxI (m-i) m (m+j) p) Δ
section
variable {a m b i j:Nat} {l k k':List GPart}
theorem vH(d:a≤m)(e:m≤b):RotI a m b (m-a) (b-m) l l:=fun _=>by rw[show m-(m-a)=a by omega,show m+(b-m)=b by omega]
theorem HM(h:RotI a m b i j l k)(hij:j<i)(him:i≤m)(d:Xx (sxI (m-i) m j) k k'):RotI a m b (i-j) j l k':=fun p=>by
 rw[h p,JY (g:=id) (l:=l) hij him (fun _=>rfl) d p,show m-i+j=m-(i-j) by omega]
theorem G4(h:RotI a m b i j l k)(hij:i<j)(him:i≤m)(d:Xx (sxI (m-i) (m+j-i) i) k k'):RotI a m b i (j-i) l k':=fun p=>by
 rw[h p,LM hij him d p]
theorem Gj(h:RotI a m b i i l k)(him:i≤m)(d:Xx (sxI (m-i) m i) k k'):Xx (rxI a m b) l k':=fun p=>by rw[h p,M2 him d p]
end
section
variable{X:Nat→Prop}{w:World}(hX:XB X w)
include hX
theorem FR{E:Value}{l:List GPart}(o0:OW Ji 144 X w E l)(m0:∀k,E.ownBlock=some k→X k){a:Nat}{b:Nat}{n:Nat}(hlb:l.length≤1099511627776)(hab:a+n≤b)(hbl:b+n≤l.length):Calls Tryz.prog 259 #[E,(.int .i64 a),(.int .i64 b),(.int .i64 n),(.func (.func kf) #[] #[])] w (RetO w E.ownBlock fun _ w'=>∃l',OWr Ji 144 X w E.ownBlock E w' l'∧Xx (sxI a b n) l l'∧SegP a (b+n) l l'):=by
 obtain⟨va,vc,rfl,_,_⟩:=OW.opn o0;obtain⟨M,C,hOw,hM⟩:=OW.start o0 hX m0;refine Cgo Tryz.func259 r r r (Rg<|Ua<|W.block<|P7 (fun μ f v=>∃(x y:Nat→Prop) (i:Nat) (p:List GPart),Cx X ⟨w,M⟩ x y v∧f 1=(.int .i64 a)∧f 2=(.int .i64 b)∧f 3=(.int .i64 n)∧f 10=(.int .i64 i)∧f 0=(S12 va l vc)∧OS Ji 144 ⟨w,M⟩ x y v (S12 va l vc) p∧i≤n∧Xx (sxI a b i) l p∧SegP a (b+n) l p∧μ=(n-i)) _ ⟨_,_,0,l,C,rfl,rfl,rfl,rfl,rfl,hOw,(Tv _),zC,(SegP.refl l),rfl⟩ ?_);rintro _ _ _ ⟨x3,_,i,p,C5,e6,e7,e8,e9,S,hP,_,hmv,hsg,_⟩;obtain⟨_,rfl⟩:=rebK (aC e6<|aC e7<|aC e8<|aC e9<|aC S aN);clear e6 e7 e8 e9 S;refine Rh<|Om<|Ub<|P2 r r (fun ar=>?_)<|fun ar=>?_
 ·refine Nl<|Ud<|PR<|PT<|W.block<|RM (c:=(.int .i64 ((b+i:Nat):Int))) [(21,4),(21,5),(21,6)] r κ (fun _ _ _ _ h=>h) mixed 21 7 [[],[],[],[1,2],[],[],[],[5,6],[],[],[],[9,10],[8,11],[12],[],[],[],[15,16],[14,17],[18],[0,3]] C5 [fx<|.slice va l.length vc,fx<|.int .i64 (a:Int),fx<|.int .i64 (i:Int),fx<|.int .i64 ((a+i:Nat):Int),fx<|.slice va l.length vc,fx<|.int .i64 (b:Int),fx<|.int .i64 (i:Int),fx<|.int .i64 ((b+i:Nat):Int),fx<|.slice va l.length vc,fx<|.int .i64 (b:Int),fx<|.int .i64 (i:Int),fx<|.int .i64 ((b+i:Nat):Int),fx<|.pointer (va.map (·.add ((b+i)*6))),ur x3 Ji<|p.getD (b+i) Δ,fx<|.slice va l.length vc,fx<|.int .i64 (a:Int),fx<|.int .i64 (i:Int),fx<|.int .i64 ((a+i:Nat):Int),fx<|.pointer (va.map (·.add ((a+i)*6))),ur x3 Ji<|p.getD (a+i) Δ,fx<|.pointer (va.map (·.add ((a+i)*6)))] κ ⟨sx,sx,sx,sx,sx,sx,sx,sx,sx,sx,sx,sx,sx,tr,sx,sx,sx,sx,sx,tr,sx,trivial⟩ (fun _ _ _ h=>h) fun U _ s aO g=>?_
  have hP:=hP.sp aO s<|fun _ h=>h
  have g:Keep [16,17,18,19,20,21,22,23,24,25,26,27,28,29,30,31,32,33,34,35,36] _ U:=g;refine⟨⟨fun _=>?_,fun _=>?_,fun _=>?_,fun⟨aP,aQ,_⟩=>?_,fun _=>?_,fun _=>?_,fun _=>?_,fun⟨aR,aS,_⟩=>?_,fun _=>?_,fun _=>?_,fun _=>?_,fun⟨aT,aU,_⟩=>?_,fun⟨aV,aW,_⟩=>?_,fun⟨aX,_⟩=>?_,fun _=>?_,fun _=>?_,fun _=>?_,fun⟨aY,aZ,_⟩=>?_,fun⟨a0,a3,_⟩=>?_,fun⟨a4,_⟩=>?_,fun⟨a5,a6,_⟩=>?_,trivial⟩,fun⟨a7,a8,_⟩ _=>?_,fun⟨V,Y,Z,aa,ab,ac,ad,ae,af,ag,ah,ai,a9,aj,ak,am,an,ao,ba,aq,_⟩=>?_⟩
  ·exact Sd0 g fun _=>PP<|⟨(),⟨s,Sp.refl⟩,rfl⟩
  ·exact Sd0 g fun _=>PP<|⟨(),⟨s,Sp.refl⟩,rfl⟩
  ·exact Sd0 g fun _=>PP<|⟨(),⟨s,Sp.refl⟩,rfl⟩
  ·exact Jf g (aC aP<|aC aQ aN) fun _=>P1<|St.add r r (Ja (a:=a) (b:=i) o)<|⟨(),⟨s,Sp.refl⟩,rfl⟩
  ·exact Sd0 g fun _=>PP<|⟨(),⟨s,Sp.refl⟩,rfl⟩
  ·exact Sd0 g fun _=>PP<|⟨(),⟨s,Sp.refl⟩,rfl⟩
  ·exact Sd0 g fun _=>PP<|⟨(),⟨s,Sp.refl⟩,rfl⟩
  ·exact Jf g (aC aR<|aC aS aN) fun _=>P1<|St.add r r (Ja (a:=b) (b:=i) o)<|⟨(),⟨s,Sp.refl⟩,rfl⟩
  ·exact Sd0 g fun _=>PP<|⟨(),⟨s,Sp.refl⟩,rfl⟩
  ·exact Sd0 g fun _=>PP<|⟨(),⟨s,Sp.refl⟩,rfl⟩
  ·exact Sd0 g fun _=>PP<|⟨(),⟨s,Sp.refl⟩,rfl⟩
  ·exact Jf g (aC aT<|aC aU aN) fun _=>P1<|St.add r r (Ja (a:=b) (b:=i) o)<|⟨(),⟨s,Sp.refl⟩,rfl⟩
  ·exact Jf g (aC aV<|aC aW aN) fun _=>P1<|QQ (j:=(b+i)) hP Yb Zw r r r (by have:=hsg.len;omega)<|⟨(),⟨s,Sp.refl⟩,rfl⟩
  ·refine Sd1 g aX fun _=>QV (T:=Ji) (j:=(b+i)) hP X8 r (by have:=hsg.len;omega) ?_;intro _ bb;obtain⟨_,_,_,_,_,_,rfl,au,av,bc,be,bf⟩:=SU bb;exact⟨(),⟨s,Sp.refl⟩,(Z2 au av bc be bf)⟩
  ·exact Sd0 g fun _=>PP<|⟨(),⟨s,Sp.refl⟩,rfl⟩
  ·exact Sd0 g fun _=>PP<|⟨(),⟨s,Sp.refl⟩,rfl⟩
  ·exact Sd0 g fun _=>PP<|⟨(),⟨s,Sp.refl⟩,rfl⟩
  ·exact Jf g (aC aY<|aC aZ aN) fun _=>P1<|St.add r r (Ja (a:=a) (b:=i) o)<|⟨(),⟨s,Sp.refl⟩,rfl⟩
  ·exact Jf g (aC a0<|aC a3 aN) fun _=>P1<|QQ (j:=(a+i)) hP Yb Zw r r r (by have:=hsg.len;omega)<|⟨(),⟨s,Sp.refl⟩,rfl⟩
  ·refine Sd1 g a4 fun _=>QV (T:=Ji) (j:=(a+i)) hP X8 r (by have:=hsg.len;omega) ?_;intro _ bg;obtain⟨_,_,_,_,_,_,rfl,J,K,aw,ax,ay⟩:=SU bg;exact⟨(),⟨s,Sp.refl⟩,(Z2 J K aw ax ay)⟩
  ·exact Jf g (aC a5<|aC a6 aN) fun _=>P1<|QQ (j:=(a+i)) hP Yb Zw r r r (by have:=hsg.len;omega)<|⟨(),⟨s,Sp.refl⟩,rfl⟩
  ·exact Jf g (aC a7<|aC a8 aN) fun _=>P1<|St.add r r (Ja (a:=b) (b:=i) o) ⟨rfl,rfl⟩
  obtain⟨_,_,_,_,_,_,F,L,N,az,aA,aB⟩:=SU a9;obtain⟨_,_,_,_,_,_,G,P,Q,z,A,B⟩:=SU ba;refine Jf g (aC V<|aC Y<|aC Z<|aC aa<|aC ab<|aC ac<|aC ad<|aC ae<|aC af<|aC ag<|aC ah<|aC ai<|aC F<|aC aj<|aC ak<|aC am<|aC an<|aC ao<|aC G<|aC aq aN) fun _=>P1 (Rk (T:=Ji) (j:=(a+i)) (u:=(p.getD (b+i) Δ)) s hP Zw r r (Z2 L N az aA aB) (by have:=hsg.len;omega) ?_);intro _ aD D H;have z:=z.tr D.tx;have A:=A.tr D.tx;have B:=B.tr D.tx;intro I d R;replace d:∀t,t≠23→I t=U t:=d;have g:Keep [16,17,18,19,20,21,22,23,24,25,26,27,28,29,30,31,32,33,34,35,36] _ I:=fun t ht=>(d t fun e=>by subst e;exact absurd ht δ).trans (g t ht);obtain⟨_,rfl⟩:=mixK g (aC R<|aC ((d 16 δ).trans V)<|aC ((d 17 δ).trans Y)<|aC ((d 18 δ).trans Z)<|aC ((d 19 δ).trans aa)<|aC ((d 20 δ).trans ab)<|aC ((d 21 δ).trans ac)<|aC ((d 22 δ).trans ad)<|aC ((d 24 δ).trans ae)<|aC ((d 25 δ).trans af)<|aC ((d 26 δ).trans ag)<|aC ((d 27 δ).trans ah)<|aC ((d 28 δ).trans ai)<|aC ((d 29 δ).trans F)<|aC ((d 30 δ).trans aj)<|aC ((d 31 δ).trans ak)<|aC ((d 32 δ).trans am)<|aC ((d 33 δ).trans an)<|aC ((d 34 δ).trans ao)<|aC ((d 35 δ).trans G)<|aC ((d 36 δ).trans aq) aN);refine Ol (QQ (j:=(b+i)) H Yb Zw r r r N'<|On<|Rk (T:=Ji) (j:=(b+i)) (u:=(p.getD (a+i) Δ)) aD H Zw r r (Z2 P Q z A B) N' ?_);intro _ aE _ aF;refine Nl<|PN<|Ub<|St.add r r (Ja (a:=i) (b:=1) o)<|Ua<|⟨_,o,_,_,(i+1),((p.set (a+i)<|p.getD (b+i) Δ).set (b+i) (p.getD (a+i) Δ)),aE,rfl,rfl,rfl,rfl,rfl,aF,o,(B9 hmv hsg.len o o),(hsg.trans<|pp (by have:=hsg.len;omega) o o),rfl⟩
 exact Nl<|Ue<|QB<|Kl rfl<|RetO.finE C5 hM hP (by obtain rfl:i=n:=o;exact⟨hmv,hsg⟩)
theorem JH{Q:Value}{l:List GPart}(o0:OW Ji 144 X w Q l)(m0:∀k,Q.ownBlock=some k→X k){a:Nat}{b:Nat}(hlb:l.length≤1099511627776)(hbl:b≤l.length)(hal:a≤l.length)(I:IsCmp cf)(hcb:Jd Tryz.prog kf=true)(hC:CmpP Tryz.prog kf cf G)(hG:∀p∈l,G p):Calls Tryz.prog 223 #[Q,(.int .i64 a),(.int .i64 b),(.func (.func kf) #[] #[])] w (RetO w Q.ownBlock fun _ w'=>∃l',OWr Ji 144 X w Q.ownBlock Q w' l'∧SegP a b l l'∧Z8 cf a b l'):=by
 obtain⟨va,vc,rfl,_,_⟩:=OW.opn o0;obtain⟨M,C,hOw,hM⟩:=OW.start o0 hX m0;refine Cgo Tryz.func223 r r r (Rg<|Ub<|St.add r r (Ja (a:=a) (b:=1) o)<|Ua<|W.block<|P7 (fun μ f v=>∃(x y:Nat→Prop) (i:Nat) (p:List GPart),Cx X ⟨w,M⟩ x y v∧f 1=(.int .i64 a)∧f 2=(.int .i64 b)∧f 3=(.func (.func kf) #[] #[])∧f 8=(.int .i64 i)∧f 0=(S12 va l vc)∧OS Ji 144 ⟨w,M⟩ x y v (S12 va l vc) p∧a+1≤i∧Z8 cf a i p∧SegP a b l p∧μ=(b-i)) _ ⟨_,_,(a+1),l,C,rfl,rfl,rfl,rfl,rfl,hOw,(Tu _),(w9<|Tu _),(SegP.refl l),rfl⟩ ?_);rintro _ _ _ ⟨_,_,i,p,C5,e6,e7,e8,e9,aI,hP,_,hs,hsg,_⟩;obtain⟨_,rfl⟩:=rebK (aC e6<|aC e7<|aC e8<|aC e9<|aC aI aN);clear e6 e7 e8 e9 aI;refine Rh<|Om<|Ub<|P2 r r (fun aR=>?_)<|fun aR=>?_
 ·refine Nl (Ud<|PR<|PT<|W.block<|Rg<|Om<|Ua<|W.block<|P7 (fun μ f v=>∃(x y:Nat→Prop) (j:Nat) (q:List GPart),Cx X ⟨w,M⟩ x y v∧f 1=(.int .i64 a)∧f 2=(.int .i64 b)∧f 3=(.func (.func kf) #[] #[])∧f 8=(.int .i64 i)∧f 9=(.int .i64 j)∧f 0=(S12 va l vc)∧OS Ji 144 ⟨w,M⟩ x y v (S12 va l vc) q∧(a≤j∧j≤i)∧InsI cf a i j q∧SegP a b l q∧μ=j) _ ⟨_,_,i,p,C5,rfl,rfl,rfl,rfl,rfl,rfl,hP,⟨o,Tu _⟩,(zY hs),hsg,rfl⟩ ?_);rintro _ _ _ ⟨P,_,j,q,aJ,aK,aL,aM,aO,aP,aQ,hQ,hj,hI,s,_⟩;obtain⟨_,rfl⟩:=rebK (aC aK<|aC aL<|aC aM<|aC aO<|aC aP<|aC aQ aN);clear aK aL aM aO aP aQ;refine PT (PT ?_);by_cases hja:a<j
  ·refine Rb mixed 14 [[],[],[0,1],[2],[3],[3],[3],[3,5,6],[3,7],[3],[3],[3,10],[3,9,11],[3,12]] aJ [fx<|.int .i64 (j:Int),fx<|.int .i64 (a:Int),fx<|.bool true,fx<|.bool true,fx<|.func (.func kf) #[] #[],fx<|.slice va l.length vc,fx<|.int .i64 (j:Int),fx<|.pointer (va.map (·.add (j*6))),ur P Ji<|q.getD j Δ,fx<|.slice va l.length vc,fx<|.int .i64 (j:Int),fx<|.int .i64 ((j-1:Nat):Int),fx<|.pointer (va.map (·.add ((j-1)*6))),ur P Ji<|q.getD (j-1) Δ] κ ⟨sx,sx,sx,sx,sx,sx,sx,sx,tr,sx,sx,sx,sx,tr,trivial⟩ fun b4 _ E b5 F=>?_
   have hQ:=hQ.sp b5 E<|fun _ h=>h
   have F:Keep [18,19,20,21,22,23,24,25,26,27,28,29,30,31] _ b4:=F;refine⟨⟨fun _=>?_,fun _=>?_,fun⟨b6,b7,_⟩=>?_,fun⟨b8,_⟩=>?_,fun⟨b9,_⟩=>?_,fun⟨ca,_⟩=>?_,fun⟨cb,_⟩=>?_,fun⟨cc,cd,ce,_⟩=>?_,fun⟨cg,ch,_⟩=>?_,fun⟨ci,_⟩=>?_,fun⟨cj,_⟩=>?_,fun⟨ck,cm,_⟩=>?_,fun⟨cn,co,cp,_⟩=>?_,fun⟨cq,cr,_⟩=>?_,trivial⟩,fun⟨cs,ct,cu,cv,cw,cx,cy,cz,cE,cF,cG,cH,cI,cJ,_⟩=>?_⟩
   ·exact Sd0 F fun _=>PP<|⟨(),⟨E,Sp.refl⟩,rfl⟩
   ·exact Sd0 F fun _=>PP<|⟨(),⟨E,Sp.refl⟩,rfl⟩
   ·exact Jf F (aC b6<|aC b7 aN) fun _=>P1<|Rw (t:=true) r r (decide_eq_true o)<|⟨(),⟨E,Sp.refl⟩,rfl⟩
   ·exact Sd1 F b8 fun _=>PP<|⟨(),⟨E,Sp.refl⟩,rfl⟩
   ·exact Jf F (aC b9 aN) fun _=>PY rfl<|PP<|⟨(),⟨E,Sp.refl⟩,rfl⟩
   ·exact Jf F (aC ca aN) fun _=>PY rfl<|PP<|⟨(),⟨E,Sp.refl⟩,rfl⟩
   ·exact Jf F (aC cb aN) fun _=>PY rfl<|PP<|⟨(),⟨E,Sp.refl⟩,rfl⟩
   ·exact Jf F (aC cc<|aC cd<|aC ce aN) fun _=>PY rfl<|QQ (j:=j) hQ Yb Zw r r r (by have:=s.len;omega)<|⟨(),⟨E,Sp.refl⟩,rfl⟩
   ·refine Jf F (aC cg<|aC ch aN) fun _=>PY r (QV (T:=Ji) (j:=j) hQ X8 r (by have:=s.len;omega) ?_);intro _ cK;obtain⟨_,_,_,_,_,_,rfl,am,an,aS,aT,aU⟩:=SU cK;exact⟨(),⟨E,Sp.refl⟩,(Z2 am an aS aT aU)⟩
   ·exact Jf F (aC ci aN) fun _=>PY rfl<|PP<|⟨(),⟨E,Sp.refl⟩,rfl⟩
   ·exact Jf F (aC cj aN) fun _=>PY rfl<|PP<|⟨(),⟨E,Sp.refl⟩,rfl⟩
   ·exact Jf F (aC ck<|aC cm aN) fun _=>PY rfl<|St.sub (z:=((j-1:Nat):Int)) r r ν<|⟨(),⟨E,Sp.refl⟩,rfl⟩
   ·exact Jf F (aC cn<|aC co<|aC cp aN) fun _=>PY rfl<|QQ (j:=(j-1)) hQ Yb Zw r r r (by have:=s.len;omega)<|⟨(),⟨E,Sp.refl⟩,rfl⟩
   ·refine Jf F (aC cq<|aC cr aN) fun _=>PY r (QV (T:=Ji) (j:=(j-1)) hQ X8 r (by have:=s.len;omega) ?_);intro _ aV;obtain⟨_,_,_,_,_,_,rfl,ao,aq,aW,aX,aY⟩:=SU aV;exact⟨(),⟨E,Sp.refl⟩,(Z2 ao aq aW aX aY)⟩
   obtain⟨_,_,_,_,_,_,aZ,ar,au,a0,a3,a4⟩:=SU cE;obtain⟨_,_,_,_,_,_,a5,av,aw,a6,a7,a8⟩:=SU cJ;obtain⟨_,rfl⟩:=mixK F (aC cs<|aC ct<|aC cu<|aC cv<|aC cw<|aC cx<|aC cy<|aC cz<|aC aZ<|aC cF<|aC cG<|aC cH<|aC cI<|aC a5 aN);refine OgD (RE E hcb r r (hC E.bd (p:=(q.getD j Δ)) (Z2 ar au a0 a3 a4) (q:=(q.getD (j-1) Δ)) (Z2 av aw a6 a7 a8) (s.all hG (by have:=s.len;omega))<|s.all hG (by have:=s.len;omega)) ?_);intro _ _ H a9 ba;have hQ:=hQ.sp a9 H<|fun _ h=>h
   subst ba;refine OgD<|P2 r r (fun ax=>?_)<|fun ax=>?_
   ·refine OT<|Nl<|Ud<|PR<|PT<|W.block<|RM (c:=(.int .i64 ((j-1:Nat):Int))) [(15,2),(15,3)] r κ (fun _ _ _ _ h=>h) mixed 15 4 [[],[],[],[],[3],[],[],[6],[5,7],[8],[],[],[10,11],[12],[0,1]] H [fx<|.slice va l.length vc,fx<|.int .i64 (j:Int),fx<|.slice va l.length vc,fx<|.int .i64 (j:Int),fx<|.int .i64 ((j-1:Nat):Int),fx<|.slice va l.length vc,fx<|.int .i64 (j:Int),fx<|.int .i64 ((j-1:Nat):Int),fx<|.pointer (va.map (·.add ((j-1)*6))),ur P Ji<|q.getD (j-1) Δ,fx<|.slice va l.length vc,fx<|.int .i64 (j:Int),fx<|.pointer (va.map (·.add (j*6))),ur P Ji<|q.getD j Δ,fx<|.pointer (va.map (·.add (j*6)))] κ ⟨sx,sx,sx,sx,sx,sx,sx,sx,sx,tr,sx,sx,sx,tr,sx,trivial⟩ (fun _ _ _ h=>h) fun R _ A bb d=>?_
    have hQ:=hQ.sp bb A<|fun _ h=>h
    have d:Keep [37,38,39,40,41,42,43,44,45,46,47,48,49,50,51] _ R:=d;refine⟨⟨fun _=>?_,fun _=>?_,fun _=>?_,fun _=>?_,fun⟨bc,_⟩=>?_,fun _=>?_,fun _=>?_,fun⟨be,_⟩=>?_,fun⟨bf,bg,_⟩=>?_,fun⟨bh,_⟩=>?_,fun _=>?_,fun _=>?_,fun⟨bi,bj,_⟩=>?_,fun⟨bk,_⟩=>?_,fun⟨bl,bm,_⟩=>?_,trivial⟩,fun⟨bn,_⟩ _=>?_,fun⟨S,U,V,Y,Z,aa,ab,ac,bo,ad,ae,af,bp,ag,_⟩=>?_⟩
    ·exact Sd0 d fun _=>PP<|⟨(),⟨A,Sp.refl⟩,rfl⟩
    ·exact Sd0 d fun _=>PP<|⟨(),⟨A,Sp.refl⟩,rfl⟩
    ·exact Sd0 d fun _=>PP<|⟨(),⟨A,Sp.refl⟩,rfl⟩
    ·exact Sd0 d fun _=>PP<|⟨(),⟨A,Sp.refl⟩,rfl⟩
    ·exact Sd1 d bc fun _=>St.sub (z:=((j-1:Nat):Int)) r r ν<|⟨(),⟨A,Sp.refl⟩,rfl⟩
    ·exact Sd0 d fun _=>PP<|⟨(),⟨A,Sp.refl⟩,rfl⟩
    ·exact Sd0 d fun _=>PP<|⟨(),⟨A,Sp.refl⟩,rfl⟩
    ·exact Sd1 d be fun _=>St.sub (z:=((j-1:Nat):Int)) r r ν<|⟨(),⟨A,Sp.refl⟩,rfl⟩
    ·exact Jf d (aC bf<|aC bg aN) fun _=>P1<|QQ (j:=(j-1)) hQ Yb Zw r r r (by have:=s.len;omega)<|⟨(),⟨A,Sp.refl⟩,rfl⟩
    ·refine Sd1 d bh fun _=>QV (T:=Ji) (j:=(j-1)) hQ X8 r (by have:=s.len;omega) ?_;intro _ bq;obtain⟨_,_,_,_,_,_,rfl,ay,az,br,bs,bt⟩:=SU bq;exact⟨(),⟨A,Sp.refl⟩,(Z2 ay az br bs bt)⟩
    ·exact Sd0 d fun _=>PP<|⟨(),⟨A,Sp.refl⟩,rfl⟩
    ·exact Sd0 d fun _=>PP<|⟨(),⟨A,Sp.refl⟩,rfl⟩
    ·exact Jf d (aC bi<|aC bj aN) fun _=>P1<|QQ (j:=j) hQ Yb Zw r r r (by have:=s.len;omega)<|⟨(),⟨A,Sp.refl⟩,rfl⟩
    ·refine Sd1 d bk fun _=>QV (T:=Ji) (j:=j) hQ X8 r (by have:=s.len;omega) ?_;intro _ bu;obtain⟨_,_,_,_,_,_,rfl,aA,aB,bv,bw,bx⟩:=SU bu;exact⟨(),⟨A,Sp.refl⟩,(Z2 aA aB bv bw bx)⟩
    ·exact Jf d (aC bl<|aC bm aN) fun _=>P1<|QQ (j:=j) hQ Yb Zw r r r (by have:=s.len;omega)<|⟨(),⟨A,Sp.refl⟩,rfl⟩
    ·exact Sd1 d bn fun _=>St.sub (z:=((j-1:Nat):Int)) r r ν ⟨rfl,rfl⟩
    obtain⟨_,_,_,_,_,_,ah,aD,aE,bz,bA,bB⟩:=SU bo;obtain⟨_,_,_,_,_,_,ai,aF,aG,J,K,L⟩:=SU bp;refine Jf d (aC S<|aC U<|aC V<|aC Y<|aC Z<|aC aa<|aC ab<|aC ac<|aC ah<|aC ad<|aC ae<|aC af<|aC ai<|aC ag aN) fun _=>P1 (Rk (T:=Ji) (j:=j) (u:=(q.getD (j-1) Δ)) A hQ Zw r r (Z2 aD aE bz bA bB) (by have:=s.len;omega) ?_);intro _ bC N aj;have J:=J.tr N.tx;have K:=K.tr N.tx;have L:=L.tr N.tx;intro ak g aH;replace g:∀t,t≠41→ak t=R t:=g;have d:Keep [37,38,39,40,41,42,43,44,45,46,47,48,49,50,51] _ ak:=fun t ht=>(g t fun e=>by subst e;exact absurd ht δ).trans (d t ht);obtain⟨_,rfl⟩:=mixK d (aC aH<|aC ((g 37 δ).trans S)<|aC ((g 38 δ).trans U)<|aC ((g 39 δ).trans V)<|aC ((g 40 δ).trans Y)<|aC ((g 42 δ).trans Z)<|aC ((g 43 δ).trans aa)<|aC ((g 44 δ).trans ab)<|aC ((g 45 δ).trans ac)<|aC ((g 46 δ).trans ah)<|aC ((g 47 δ).trans ad)<|aC ((g 48 δ).trans ae)<|aC ((g 49 δ).trans af)<|aC ((g 50 δ).trans ai)<|aC ((g 51 δ).trans ag) aN);refine Ol (QQ (j:=(j-1)) aj Yb Zw r r r (by rw[UI];have:=s.len;omega)<|On<|Rk (T:=Ji) (j:=(j-1)) (u:=(q.getD j Δ)) bC aj Zw r r (Z2 aF aG J K L) (by rw[UI];have:=s.len;omega) ?_);intro _ bD _ bE;refine Nl<|PN<|Ub<|St.sub (z:=((j-1:Nat):Int)) r r ν<|Ua<|⟨_,o,_,_,(j-1),((q.set j<|q.getD (j-1) Δ).set (j-1) (q.getD j Δ)),bD,rfl,rfl,rfl,rfl,rfl,rfl,bE,⟨o,o⟩,(Cc I hI o hj.2 (by have:=s.len;omega) WM),(s.trans<|pp (by have:=s.len;omega) o o),rfl⟩
   refine OT<|Nl<|Ue<|QB<|PN<|Ub<|St.add r r (Ja (a:=i) (b:=1) o)<|Ua<|⟨_,o,_,_,(i+1),q,H,rfl,rfl,rfl,rfl,rfl,hQ,o,(zS I hI hj.1 hj.2<|.inr WM),s,rfl⟩
  refine Rb mixed 14 [[],[],[0,1],[2],[3],[3],[3],[3,5,6],[3,7],[3],[3],[3,10],[3,9,11],[3,12]] aJ [fx<|.int .i64 (j:Int),fx<|.int .i64 (a:Int),fx<|.bool false,fx<|.bool false,noG,noG,noG,noG,noG,noG,noG,noG,noG,noG] κ ⟨sx,sx,sx,sx,YV,YV,YV,YV,YV,YV,YV,YV,YV,YV,trivial⟩ fun bF _ D bG B=>?_
  have hQ:=hQ.sp bG D<|fun _ h=>h
  have B:Keep [18,19,20,21,22,23,24,25,26,27,28,29,30,31] _ bF:=B;refine⟨⟨fun _=>?_,fun _=>?_,fun⟨bH,bI,_⟩=>?_,fun⟨bJ,_⟩=>?_,fun⟨bK,_⟩=>?_,fun⟨bL,_⟩=>?_,fun⟨bM,_⟩=>?_,fun⟨bN,_,_,_⟩=>?_,fun⟨bO,_,_⟩=>?_,fun⟨bP,_⟩=>?_,fun⟨bQ,_⟩=>?_,fun⟨bR,_,_⟩=>?_,fun⟨bS,_,_,_⟩=>?_,fun⟨bT,_,_⟩=>?_,trivial⟩,fun⟨bU,bV,bW,bX,_,_,_,_,_,_,_,_,_,_,_⟩=>?_⟩
  ·exact Sd0 B fun _=>PP<|⟨(),⟨D,Sp.refl⟩,rfl⟩
  ·exact Sd0 B fun _=>PP<|⟨(),⟨D,Sp.refl⟩,rfl⟩
  ·exact Jf B (aC bH<|aC bI aN) fun _=>P1<|Rw (t:=false) r r (decide_eq_false o)<|⟨(),⟨D,Sp.refl⟩,rfl⟩
  ·exact Sd1 B bJ fun _=>PP<|⟨(),⟨D,Sp.refl⟩,rfl⟩
  ·exact Jf B (aC bK aN) fun _=>OpSt.opn r r ⟨(),⟨D,Sp.refl⟩,trivial⟩
  ·exact Jf B (aC bL aN) fun _=>OpSt.opn r r ⟨(),⟨D,Sp.refl⟩,trivial⟩
  ·exact Jf B (aC bM aN) fun _=>OpSt.opn r r ⟨(),⟨D,Sp.refl⟩,trivial⟩
  ·exact Jf B (aC bN aN) fun _=>OpSt.opn r r ⟨(),⟨D,Sp.refl⟩,trivial⟩
  ·exact Jf B (aC bO aN) fun _=>OpSt.opn r r ⟨(),⟨D,Sp.refl⟩,trivial⟩
  ·exact Jf B (aC bP aN) fun _=>OpSt.opn r r ⟨(),⟨D,Sp.refl⟩,trivial⟩
  ·exact Jf B (aC bQ aN) fun _=>OpSt.opn r r ⟨(),⟨D,Sp.refl⟩,trivial⟩
  ·exact Jf B (aC bR aN) fun _=>OpSt.opn r r ⟨(),⟨D,Sp.refl⟩,trivial⟩
  ·exact Jf B (aC bS aN) fun _=>OpSt.opn r r ⟨(),⟨D,Sp.refl⟩,trivial⟩
  ·exact Jf B (aC bT aN) fun _=>OpSt.opn r r ⟨(),⟨D,Sp.refl⟩,trivial⟩
  obtain⟨_,rfl⟩:=mixK B (aC bU<|aC bV<|aC bW<|aC bX aN);refine Oz<|Oz<|OF<|Nl<|Ue<|QB<|PN<|Ub<|St.add r r (Ja (a:=i) (b:=1) o)<|Ua<|⟨_,o,_,_,(i+1),q,D,rfl,rfl,rfl,rfl,rfl,hQ,o,(zS I hI hj.1 hj.2<|.inl o),s,rfl⟩
 exact Nl<|Ue<|QB<|Kl rfl<|RetO.finE C5 hM hP ⟨hsg,hs.sub (Tu _) o⟩
theorem NP{d:Value}{l:List GPart}(E:OW Ji 144 X w d l)(T:∀k,d.ownBlock=some k→X k){a:Nat}{m:Nat}{b:Nat}(hlb:l.length≤1099511627776)(ham:a<m)(hmb:m<b)(hbl:b≤l.length):Calls Tryz.prog 245 #[d,(.int .i64 a),(.int .i64 m),(.int .i64 b),(.func (.func kf) #[] #[])] w (RetO w d.ownBlock fun _ w'=>∃l',OWr Ji 144 X w d.ownBlock d w' l'∧Xx (rxI a m b) l l'∧SegP a b l l'):=by
 obtain⟨va,vc,rfl,_,_⟩:=OW.opn E;obtain⟨M,C,hOw,hM⟩:=OW.start E hX T;refine Cgo Tryz.func245 r r r (Rg<|Om<|Ub<|St.sub (z:=((m-a:Nat):Int)) r r ν<|Oa ?_);refine Nl (Rg<|Om<|Ub<|St.sub (z:=((b-m:Nat):Int)) r r ν<|Ua<|PT<|W.block<|P7 (fun μ f v=>∃(x y:Nat→Prop) (i:Nat) (j:Nat) (p:List GPart),Cx X ⟨w,M⟩ x y v∧f 2=(.int .i64 m)∧f 4=(.func (.func kf) #[] #[])∧f 10=(.int .i64 i)∧f 11=(.int .i64 j)∧f 0=(S12 va l vc)∧OS Ji 144 ⟨w,M⟩ x y v (S12 va l vc) p∧(1≤i∧1≤j∧i≤m∧a≤m-i∧m+j≤b)∧RotI a m b i j l p∧SegP a b l p∧μ=(i+j)) _ ⟨_,_,(m-a),(b-m),l,C,rfl,rfl,rfl,rfl,rfl,hOw,⟨by omega,o,o,o,o⟩,(vH o o),(SegP.refl l),rfl⟩ ?_);rintro _ _ _ ⟨_,_,i,j,p,e,F,G,H,I,A,hP,_,hr,hsg,_⟩;obtain⟨_,rfl⟩:=rebK (aC F<|aC G<|aC H<|aC I<|aC A aN);clear F G H I A;refine Rh<|Om<|Ub<|QH r r (fun B=>?_)<|fun B=>?_
 ·refine Nl<|Ud<|PR<|W.block<|Rg<|Om<|Ub<|QN r r (fun D=>?_)<|fun D=>?_
  ·refine Nl (Uf<|Om<|Om<|Ub<|St.sub (z:=((m-i:Nat):Int)) r r ν<|Om<|Om<|Ub<|Rf e hP Ip r r (FR e.bd hP.ow (fun k hk=>(hP.mem k hk).1.1) (a:=m-i) (b:=m) (n:=j) (by have:=hsg.len;omega) (by have:=hsg.len;omega) (by have:=hsg.len;omega)) ?_);intro _ _ J K _ L g;refine Nl<|PN<|Om<|Ub<|St.sub (z:=((i-j:Nat):Int)) r r ν<|Ua<|⟨_,o,_,_,(i-j),j,J,K,rfl,rfl,rfl,rfl,rfl,L,⟨by omega,o,o,o,o⟩,(HM hr o o g.1),(hsg.trans<|g.2.up o o),rfl⟩
  refine Nl (Ug<|Om<|Om<|Ub<|St.sub (z:=((m-i:Nat):Int)) r r ν<|Om<|Ub<|St.add r r (Ja (a:=m) (b:=j) o)<|Ub<|St.sub (z:=((m+j-i:Nat):Int)) r r ν ?_);refine Om (Ub<|Rf e hP Ip r r (FR e.bd hP.ow (fun k hk=>(hP.mem k hk).1.1) (a:=m-i) (b:=m+j-i) (n:=i) (by have:=hsg.len;omega) (by have:=hsg.len;omega) (by have:=hsg.len;omega)) ?_);intro _ _ N P _ Q h;refine Nl<|PN<|Om<|Ub<|St.sub (z:=((j-i:Nat):Int)) r r ν<|Ua<|⟨_,o,_,_,i,(j-i),N,P,rfl,rfl,rfl,rfl,rfl,Q,⟨by omega,o,o,o,o⟩,(G4 hr o o h.1),(hsg.trans<|h.2.up o o),rfl⟩
 refine Nl (Ue<|QB<|PN<|Om<|Om<|Ub<|St.sub (z:=((m-i:Nat):Int)) r r ν<|Om<|Om<|Ub<|Rf e hP Ip r r (FR e.bd hP.ow (fun k hk=>(hP.mem k hk).1.1) (a:=m-i) (b:=m) (n:=i) (by have:=hsg.len;omega) (by have:=hsg.len;omega) (by have:=hsg.len;omega)) ?_);intro _ _ _ R _ S s;exact Nl<|Kl rfl<|RetO.finE R hM S (by obtain rfl:i=j:=o;exact⟨Gj hr o s.1,hsg.trans<|s.2.up o o⟩)
end
theorem zw{l:List GPart}{i:Nat}(h:i<l.length):l.getD i Δ∈l:=by
 rw[Tq,Tt h];exact List.getElem_mem h
section
variable {f:GPart→GPart→Int} {a s m e:Nat} {l:List GPart}
theorem l8(b:Z8 f a s l)(d:Z8 f s m l)(h:s≤a∨m≤s):Z8 f a m l:=h.elim (fun e=>d.sub e (Tu _)) fun e=>b.sub (Tu _) e
theorem I5(h:(s=m∨e=m)∧s≤m∧m≤e):Xx (rxI s m e) l l:=fun _=>by congr 1;unfold rxI;(repeat' split)<;>omega
end
set_option maxHeartbeats 8000000 in
theorem HQ(N:Nat):∀ {X:Nat→Prop} {w:World} (hX:XB X w) {v0:Value} {l:List GPart} (o0:OW Ji 144 X w v0 l) (m0:∀k,v0.ownBlock=some k→X k) {a:Nat} {m:Nat} {b:Nat} {kf:FuncId} {cf:GPart→GPart→Int} {G:GPart→Prop} (hlb:l.length≤1099511627776) (ham:a<m) (hmb:m<b) (hbl:b≤l.length) (h1:Z8 cf a m l) (h2:Z8 cf m b l) (I:IsCmp cf) (hcb:Jd Tryz.prog kf=true) (hC:CmpP Tryz.prog kf cf G) (hG:∀p∈l,G p) (hN:(b-a)<N),Calls Tryz.prog 224 #[v0,(.int .i64 a),(.int .i64 m),(.int .i64 b),(.func (.func kf) #[] #[])] w (RetO w v0.ownBlock fun _ w'=>∃l',OWr Ji 144 X w v0.ownBlock v0 w' l'∧SegP a b l l'∧Z8 cf a b l'):=by
 induction N with
 |zero=>intro X w hX v0 l o0 m0 a m b kf cf G hlb ham hmb hbl h1 h2 I hcb hC hG hN;exact absurd hN<|TC _
 |succ N ih=>
  intro X w hX v0 l o0 m0 a m b kf cf G hlb ham hmb hbl h1 h2 I hcb hC hG hN;obtain⟨va,vc,rfl,_,_⟩:=OW.opn o0;obtain⟨M,C,hOw,hM⟩:=OW.start o0 hX m0;refine Cgo Tryz.func224 ϱ ϱ ϱ (Rh<|Om<|Ub<|St.sub (z:=((m-a:Nat):Int)) ϱ ϱ ν ?_);refine Ol<|PW ϱ ϱ (fun fM=>?_)<|fun fM=>?_
  ·refine Nl (Ud<|PT ?_);have h2a:Z8 cf (a+1) b l:=by have e:a+1=m:=o;rw[e];exact h2
   refine PN (Om<|Ua<|Rg<|Om<|Ua<|PT<|W.block<|P7 (fun μ f v=>∃(x y:Nat→Prop) (i:Nat) (j:Nat),Cx X ⟨w,M⟩ x y v∧f 0=(S12 va l vc)∧f 1=(.int .i64 a)∧f 4=(.func (.func kf) #[] #[])∧f 10=(.int .i64 i)∧f 11=(.int .i64 j)∧OS Ji 144 ⟨w,M⟩ x y v (S12 va l vc) l∧(m≤i∧i≤j∧j≤b)∧(∀p,m≤p→p<i→cf (l.getD p Δ) (l.getD a Δ)<0)∧(∀p,j≤p→p<b→¬cf (l.getD p Δ) (l.getD a Δ)<0)∧μ=(j-i)) _ ⟨_,_,m,b,C,rfl,rfl,rfl,rfl,rfl,hOw,⟨by omega,o,o⟩,(fun p p1 Y=>by omega),(fun p p1 Y=>by omega),rfl⟩ ?_);rintro _ _ _ ⟨x4,_,i,j,C6,e7,e8,e9,cT,cU,hOw,hij,A1,A2,_⟩;obtain⟨_,rfl⟩:=rebK (aC e7<|aC e8<|aC e9<|aC cT<|aC cU aN);clear e7 e8 e9 cT cU;refine Rh<|Om<|Ub<|P2 ϱ ϱ (fun cW=>?_)<|fun cW=>?_
   ·refine Nl (Ud<|PR<|W.block<|Rg<|Om<|Ub<|St.add ϱ ϱ (Ja (a:=i) (b:=j) o)<|Ol<|P6 (z:=((i+j:Nat):Int)) us3 r7 ϱ (Tw _ o)<|Ol<|Rl ϱ ϱ δ (Ka (d:=2) _ δ)<|Ol<|P6 (z:=(((i+j)/2:Nat):Int)) Cs un3 ϱ (Tz _ o) ?_);refine Ua<|PT<|Rb mixed 9 [[],[],[],[1,2],[3],[],[],[5,6],[7]] C6 [fx<|.func (.func kf) #[] #[],fx<|.slice va l.length vc,fx<|.int .i64 (((i+j)/2:Nat):Int),fx<|.pointer (va.map (·.add (((i+j)/2)*6))),ur x4 Ji<|l.getD ((i+j)/2) Δ,fx<|.slice va l.length vc,fx<|.int .i64 (a:Int),fx<|.pointer (va.map (·.add (a*6))),ur x4 Ji<|l.getD a Δ] κ ⟨sx,sx,sx,sx,tr,sx,sx,sx,tr,trivial⟩ fun fU _ P fV Q=>?_
    have hOw:=hOw.sp fV P<|fun _ h=>h
    have Q:Keep [40,41,42,43,44,45,46,47,48] _ fU:=Q;refine⟨⟨fun _=>?_,fun _=>?_,fun _=>?_,fun⟨fW,fX,_⟩=>?_,fun⟨fY,_⟩=>?_,fun _=>?_,fun _=>?_,fun⟨fZ,f0,_⟩=>?_,fun⟨f1,_⟩=>?_,trivial⟩,fun⟨f2,f3,f4,f5,f6,f7,f8,f9,ga,_⟩=>?_⟩
    ·exact Sd0 Q fun _=>PP<|⟨(),⟨P,Sp.refl⟩,rfl⟩
    ·exact Sd0 Q fun _=>PP<|⟨(),⟨P,Sp.refl⟩,rfl⟩
    ·exact Sd0 Q fun _=>PP<|⟨(),⟨P,Sp.refl⟩,rfl⟩
    ·exact Jf Q (aC fW<|aC fX aN) fun _=>P1<|QQ (j:=((i+j)/2)) hOw Yb Zw ϱ ϱ ϱ o<|⟨(),⟨P,Sp.refl⟩,rfl⟩
    ·refine Sd1 Q fY fun _=>QV (T:=Ji) (j:=((i+j)/2)) hOw X8 ϱ o ?_;intro _ gb;obtain⟨_,_,_,_,_,_,rfl,cX,cY,gc,gd,gf⟩:=SU gb;exact⟨(),⟨P,Sp.refl⟩,(Z2 cX cY gc gd gf)⟩
    ·exact Sd0 Q fun _=>PP<|⟨(),⟨P,Sp.refl⟩,rfl⟩
    ·exact Sd0 Q fun _=>PP<|⟨(),⟨P,Sp.refl⟩,rfl⟩
    ·exact Jf Q (aC fZ<|aC f0 aN) fun _=>P1<|QQ (j:=a) hOw Yb Zw ϱ ϱ ϱ o<|⟨(),⟨P,Sp.refl⟩,rfl⟩
    ·refine Sd1 Q f1 fun _=>QV (T:=Ji) (j:=a) hOw X8 ϱ o ?_;intro _ gg;obtain⟨_,_,_,_,_,_,rfl,cZ,c0,gi,gj,gk⟩:=SU gg;exact⟨(),⟨P,Sp.refl⟩,(Z2 cZ c0 gi gj gk)⟩
    obtain⟨_,_,_,_,_,_,gl,c1,bX,c2,c3,c4⟩:=SU f6;obtain⟨_,_,_,_,_,_,c5,bY,bZ,c6,c7,c8⟩:=SU ga;obtain⟨_,rfl⟩:=mixK Q (aC f2<|aC f3<|aC f4<|aC f5<|aC gl<|aC f7<|aC f8<|aC f9<|aC c5 aN);refine Ol (RE P hcb ϱ ϱ (hC P.bd (p:=(l.getD ((i+j)/2) Δ)) (Z2 c1 bX c2 c3 c4) (q:=(l.getD a Δ)) (Z2 bY bZ c6 c7 c8) (hG _<|zw o)<|hG _<|zw o) ?_);intro _ _ ae c9 da;have hOw:=hOw.sp c9 ae<|fun _ h=>h
    subst da;refine Ol<|P2 ϱ ϱ (fun b0=>?_)<|fun b0=>?_
    ·refine Nl<|Uk<|Ub<|St.add ϱ ϱ (Ja (a:=(i+j)/2) (b:=1) o)<|Ua<|⟨_,o,_,_,((i+j)/2+1),j,ae,rfl,rfl,rfl,rfl,rfl,hOw,⟨by omega,o,o⟩,(Pv (i:=0) I h2 ⟨by omega,o⟩ WM),A2,rfl⟩
    refine Nl<|Ue<|PN<|Om<|Ua<|⟨_,o,_,_,i,((i+j)/2),ae,rfl,rfl,rfl,rfl,rfl,hOw,⟨by omega,o,o⟩,A1,(N7 I h2 ⟨by omega,o⟩ WM),rfl⟩
   refine Nl (Ue<|QB<|Rh<|Om<|Ua<|W.block<|P7 (fun μ f v=>∃(x y:Nat→Prop) (k:Nat) (r:List GPart),Cx X ⟨w,M⟩ x y v∧f 10=(.int .i64 i)∧f 13=(.int .i64 k)∧f 0=(S12 va l vc)∧OS Ji 144 ⟨w,M⟩ x y v (S12 va l vc) r∧(a≤k∧k≤i-1)∧Xx (upI a k) l r∧SegP a b l r∧μ=(i-1-k)) _ ⟨_,_,a,l,C6,rfl,rfl,rfl,hOw,⟨by omega,o⟩,CH,(SegP.refl l),rfl⟩ ?_);rintro _ _ _ ⟨av,_,k,r,aw,ax,ay,az,hR,hk,hmv,hsg,_⟩;obtain⟨_,rfl⟩:=rebK (aC ax<|aC ay<|aC az aN);clear ax ay az;refine Rh<|Om<|Ub<|St.sub (z:=((i-1:Nat):Int)) ϱ ϱ ν<|Ol<|P2 ϱ ϱ (fun b1=>?_)<|fun b1=>?_
   ·refine Nl<|Ud<|PR<|PT<|W.block<|RM (c:=(.int .i64 ((k+1:Nat):Int))) [(15,2),(15,3)] ϱ κ (fun _ _ _ _ h=>h) mixed 15 4 [[],[],[],[],[3],[],[],[6],[5,7],[8],[],[],[10,11],[12],[0,1]] aw [fx<|.slice va l.length vc,fx<|.int .i64 (k:Int),fx<|.slice va l.length vc,fx<|.int .i64 (k:Int),fx<|.int .i64 ((k+1:Nat):Int),fx<|.slice va l.length vc,fx<|.int .i64 (k:Int),fx<|.int .i64 ((k+1:Nat):Int),fx<|.pointer (va.map (·.add ((k+1)*6))),ur av Ji<|r.getD (k+1) Δ,fx<|.slice va l.length vc,fx<|.int .i64 (k:Int),fx<|.pointer (va.map (·.add (k*6))),ur av Ji<|r.getD k Δ,fx<|.pointer (va.map (·.add (k*6)))] κ ⟨sx,sx,sx,sx,sx,sx,sx,sx,sx,tr,sx,sx,sx,tr,sx,trivial⟩ (fun _ _ _ h=>h) fun aA _ E dc g=>?_
    have hR:=hR.sp dc E<|fun _ h=>h
    have g:Keep [61,62,63,64,65,66,67,68,69,70,71,72,73,74,75] _ aA:=g;refine⟨⟨fun _=>?_,fun _=>?_,fun _=>?_,fun _=>?_,fun⟨dd,_⟩=>?_,fun _=>?_,fun _=>?_,fun⟨de,_⟩=>?_,fun⟨df,dg,_⟩=>?_,fun⟨dh,_⟩=>?_,fun _=>?_,fun _=>?_,fun⟨di,dj,_⟩=>?_,fun⟨dk,_⟩=>?_,fun⟨dl,dm,_⟩=>?_,trivial⟩,fun⟨dn,_⟩ _=>?_,fun⟨aB,aD,aE,aF,aG,aH,aI,aJ,dp,aK,aL,aM,dq,aO,_⟩=>?_⟩
    ·exact Sd0 g fun _=>PP<|⟨(),⟨E,Sp.refl⟩,rfl⟩
    ·exact Sd0 g fun _=>PP<|⟨(),⟨E,Sp.refl⟩,rfl⟩
    ·exact Sd0 g fun _=>PP<|⟨(),⟨E,Sp.refl⟩,rfl⟩
    ·exact Sd0 g fun _=>PP<|⟨(),⟨E,Sp.refl⟩,rfl⟩
    ·exact Sd1 g dd fun _=>St.add ϱ ϱ (Ja (a:=k) (b:=1) o)<|⟨(),⟨E,Sp.refl⟩,rfl⟩
    ·exact Sd0 g fun _=>PP<|⟨(),⟨E,Sp.refl⟩,rfl⟩
    ·exact Sd0 g fun _=>PP<|⟨(),⟨E,Sp.refl⟩,rfl⟩
    ·exact Sd1 g de fun _=>St.add ϱ ϱ (Ja (a:=k) (b:=1) o)<|⟨(),⟨E,Sp.refl⟩,rfl⟩
    ·exact Jf g (aC df<|aC dg aN) fun _=>P1<|QQ (j:=(k+1)) hR Yb Zw ϱ ϱ ϱ (by have:=hsg.len;omega)<|⟨(),⟨E,Sp.refl⟩,rfl⟩
    ·refine Sd1 g dh fun _=>QV (T:=Ji) (j:=(k+1)) hR X8 ϱ (by have:=hsg.len;omega) ?_;intro _ dr;obtain⟨_,_,_,_,_,_,rfl,b2,b3,ds,dt,du⟩:=SU dr;exact⟨(),⟨E,Sp.refl⟩,(Z2 b2 b3 ds dt du)⟩
    ·exact Sd0 g fun _=>PP<|⟨(),⟨E,Sp.refl⟩,rfl⟩
    ·exact Sd0 g fun _=>PP<|⟨(),⟨E,Sp.refl⟩,rfl⟩
    ·exact Jf g (aC di<|aC dj aN) fun _=>P1<|QQ (j:=k) hR Yb Zw ϱ ϱ ϱ (by have:=hsg.len;omega)<|⟨(),⟨E,Sp.refl⟩,rfl⟩
    ·refine Sd1 g dk fun _=>QV (T:=Ji) (j:=k) hR X8 ϱ (by have:=hsg.len;omega) ?_;intro _ dv;obtain⟨_,_,_,_,_,_,rfl,b4,b5,dw,dx,dy⟩:=SU dv;exact⟨(),⟨E,Sp.refl⟩,(Z2 b4 b5 dw dx dy)⟩
    ·exact Jf g (aC dl<|aC dm aN) fun _=>P1<|QQ (j:=k) hR Yb Zw ϱ ϱ ϱ (by have:=hsg.len;omega)<|⟨(),⟨E,Sp.refl⟩,rfl⟩
    ·exact Sd1 g dn fun _=>St.add ϱ ϱ (Ja (a:=k) (b:=1) o) ⟨rfl,rfl⟩
    obtain⟨_,_,_,_,_,_,aP,b6,b7,dz,dA,dB⟩:=SU dp;obtain⟨_,_,_,_,_,_,aQ,b8,b9,af,ag,ah⟩:=SU dq;refine Jf g (aC aB<|aC aD<|aC aE<|aC aF<|aC aG<|aC aH<|aC aI<|aC aJ<|aC aP<|aC aK<|aC aL<|aC aM<|aC aQ<|aC aO aN) fun _=>P1 (Rk (T:=Ji) (j:=k) (u:=(r.getD (k+1) Δ)) E hR Zw ϱ ϱ (Z2 b6 b7 dz dA dB) (by have:=hsg.len;omega) ?_);intro _ dC ai aR;have af:=af.tr ai.tx;have ag:=ag.tr ai.tx;have ah:=ah.tr ai.tx;intro aS B ca;replace B:∀t,t≠65→aS t=aA t:=B;have g:Keep [61,62,63,64,65,66,67,68,69,70,71,72,73,74,75] _ aS:=fun t ht=>(B t fun e=>by subst e;exact absurd ht δ).trans (g t ht);obtain⟨_,rfl⟩:=mixK g (aC ca<|aC ((B 61 δ).trans aB)<|aC ((B 62 δ).trans aD)<|aC ((B 63 δ).trans aE)<|aC ((B 64 δ).trans aF)<|aC ((B 66 δ).trans aG)<|aC ((B 67 δ).trans aH)<|aC ((B 68 δ).trans aI)<|aC ((B 69 δ).trans aJ)<|aC ((B 70 δ).trans aP)<|aC ((B 71 δ).trans aK)<|aC ((B 72 δ).trans aL)<|aC ((B 73 δ).trans aM)<|aC ((B 74 δ).trans aQ)<|aC ((B 75 δ).trans aO) aN);refine Ol (QQ (j:=(k+1)) aR Yb Zw ϱ ϱ ϱ N'<|On<|Rk (T:=Ji) (j:=(k+1)) (u:=(r.getD k Δ)) dC aR Zw ϱ ϱ (Z2 b8 b9 af ag ah) N' ?_);intro _ dD _ dE;refine Nl<|PN<|Ub<|St.add ϱ ϱ (Ja (a:=k) (b:=1) o)<|Ua<|⟨_,o,_,_,(k+1),((r.set k<|r.getD (k+1) Δ).set (k+1) (r.getD k Δ)),dD,rfl,rfl,rfl,dE,⟨by omega,o⟩,(IA hmv hsg.len o o),(hsg.trans<|pp (by have:=hsg.len;omega) ⟨by omega,o⟩ ⟨by omega,o⟩),rfl⟩
   exact Nl<|Ue<|QB<|PS<|uv rfl<|RetO.finE aw hM hR<|⟨hsg,JD I h2a ⟨by omega,o⟩ (fun p p1 Y=>A1 p o Y) (fun p p1 Y=>A2 p o Y) (by obtain rfl:k=i-1:=o;exact hmv)⟩
  refine Nl<|Uc<|Rh<|Om<|Ub<|St.sub (z:=((b-m:Nat):Int)) ϱ ϱ ν<|Ol<|PW ϱ ϱ (fun cb=>?_)<|fun cb=>?_
  ·refine Nl (Uf<|Om<|Ua<|Rg<|Om<|Ua<|PT<|W.block<|P7 (fun μ f v=>∃(x y:Nat→Prop) (i:Nat) (j:Nat),Cx X ⟨w,M⟩ x y v∧f 0=(S12 va l vc)∧f 2=(.int .i64 m)∧f 4=(.func (.func kf) #[] #[])∧f 14=(.int .i64 i)∧f 15=(.int .i64 j)∧OS Ji 144 ⟨w,M⟩ x y v (S12 va l vc) l∧(a≤i∧i≤j∧j≤m)∧(∀p,a≤p→p<i→¬cf (l.getD m Δ) (l.getD p Δ)<0)∧(∀p,j≤p→p<m→cf (l.getD m Δ) (l.getD p Δ)<0)∧μ=(j-i)) _ ⟨_,_,a,m,C,rfl,rfl,rfl,rfl,rfl,hOw,⟨by omega,o,o⟩,(fun p p1 Y=>by omega),(fun p p1 Y=>by omega),rfl⟩ ?_);rintro _ _ _ ⟨aT,_,i,j,aU,aV,aW,aX,aY,aZ,hOw,hij,B1,B2,_⟩;obtain⟨_,rfl⟩:=rebK (aC aV<|aC aW<|aC aX<|aC aY<|aC aZ aN);clear aV aW aX aY aZ;refine Rh<|Om<|Ub<|P2 ϱ ϱ (fun cc=>?_)<|fun cc=>?_
   ·refine Nl (Ud<|PR<|W.block<|Rg<|Om<|Ub<|St.add ϱ ϱ (Ja (a:=i) (b:=j) o)<|Ol<|P6 (z:=((i+j:Nat):Int)) us3 r7 ϱ (Tw _ o)<|Ol<|Rl ϱ ϱ δ (Ka (d:=2) _ δ)<|Ol<|P6 (z:=(((i+j)/2:Nat):Int)) Cs un3 ϱ (Tz _ o) ?_);refine Ua<|PT<|Rb mixed 9 [[],[],[],[1,2],[3],[],[],[5,6],[7]] aU [fx<|.func (.func kf) #[] #[],fx<|.slice va l.length vc,fx<|.int .i64 (m:Int),fx<|.pointer (va.map (·.add (m*6))),ur aT Ji<|l.getD m Δ,fx<|.slice va l.length vc,fx<|.int .i64 (((i+j)/2:Nat):Int),fx<|.pointer (va.map (·.add (((i+j)/2)*6))),ur aT Ji<|l.getD ((i+j)/2) Δ] κ ⟨sx,sx,sx,sx,tr,sx,sx,sx,tr,trivial⟩ fun dF _ K dG L=>?_
    have hOw:=hOw.sp dG K<|fun _ h=>h
    have L:Keep [92,93,94,95,96,97,98,99,100] _ dF:=L;refine⟨⟨fun _=>?_,fun _=>?_,fun _=>?_,fun⟨dH,dI,_⟩=>?_,fun⟨dJ,_⟩=>?_,fun _=>?_,fun _=>?_,fun⟨dK,dL,_⟩=>?_,fun⟨dM,_⟩=>?_,trivial⟩,fun⟨dN,dO,dP,dQ,dR,dS,dT,dU,dV,_⟩=>?_⟩
    ·exact Sd0 L fun _=>PP<|⟨(),⟨K,Sp.refl⟩,rfl⟩
    ·exact Sd0 L fun _=>PP<|⟨(),⟨K,Sp.refl⟩,rfl⟩
    ·exact Sd0 L fun _=>PP<|⟨(),⟨K,Sp.refl⟩,rfl⟩
    ·exact Jf L (aC dH<|aC dI aN) fun _=>P1<|QQ (j:=m) hOw Yb Zw ϱ ϱ ϱ o<|⟨(),⟨K,Sp.refl⟩,rfl⟩
    ·refine Sd1 L dJ fun _=>QV (T:=Ji) (j:=m) hOw X8 ϱ o ?_;intro _ dW;obtain⟨_,_,_,_,_,_,rfl,cd,ce,dX,dY,dZ⟩:=SU dW;exact⟨(),⟨K,Sp.refl⟩,(Z2 cd ce dX dY dZ)⟩
    ·exact Sd0 L fun _=>PP<|⟨(),⟨K,Sp.refl⟩,rfl⟩
    ·exact Sd0 L fun _=>PP<|⟨(),⟨K,Sp.refl⟩,rfl⟩
    ·exact Jf L (aC dK<|aC dL aN) fun _=>P1<|QQ (j:=((i+j)/2)) hOw Yb Zw ϱ ϱ ϱ o<|⟨(),⟨K,Sp.refl⟩,rfl⟩
    ·refine Sd1 L dM fun _=>QV (T:=Ji) (j:=((i+j)/2)) hOw X8 ϱ o ?_;intro _ d0;obtain⟨_,_,_,_,_,_,rfl,cg,ch,d1,d2,d3⟩:=SU d0;exact⟨(),⟨K,Sp.refl⟩,(Z2 cg ch d1 d2 d3)⟩
    obtain⟨_,_,_,_,_,_,d4,ci,cj,d5,d6,d7⟩:=SU dR;obtain⟨_,_,_,_,_,_,d8,ck,cm,d9,eb,ed⟩:=SU dV;obtain⟨_,rfl⟩:=mixK L (aC dN<|aC dO<|aC dP<|aC dQ<|aC d4<|aC dS<|aC dT<|aC dU<|aC d8 aN);refine Ol (RE K hcb ϱ ϱ (hC K.bd (p:=(l.getD m Δ)) (Z2 ci cj d5 d6 d7) (q:=(l.getD ((i+j)/2) Δ)) (Z2 ck cm d9 eb ed) (hG _<|zw o)<|hG _<|zw o) ?_);intro _ _ aj ee ef;have hOw:=hOw.sp ee aj<|fun _ h=>h
    subst ef;refine Ol<|P2 ϱ ϱ (fun cn=>?_)<|fun cn=>?_
    ·refine Ol<|QI rfl<|Nl<|Ue<|PN<|Om<|Ua<|⟨_,o,_,_,i,((i+j)/2),aj,rfl,rfl,rfl,rfl,rfl,hOw,⟨by omega,o,o⟩,B1,(O9 I h1 ⟨by omega,o⟩ WM),rfl⟩
    refine Ol<|QI rfl<|Nl<|Uk<|Ub<|St.add ϱ ϱ (Ja (a:=(i+j)/2) (b:=1) o)<|Ua<|⟨_,o,_,_,((i+j)/2+1),j,aj,rfl,rfl,rfl,rfl,rfl,hOw,⟨by omega,o,o⟩,(Pn I h1 ⟨by omega,o⟩ WM),B2,rfl⟩
   refine Nl (Ue<|QB<|Rh<|Om<|Ua<|W.block<|P7 (fun μ f v=>∃(x y:Nat→Prop) (k:Nat) (r:List GPart),Cx X ⟨w,M⟩ x y v∧f 14=(.int .i64 i)∧f 17=(.int .i64 k)∧f 0=(S12 va l vc)∧OS Ji 144 ⟨w,M⟩ x y v (S12 va l vc) r∧(i≤k∧k≤m)∧Xx (dnI m k) l r∧SegP a b l r∧μ=(k-i)) _ ⟨_,_,m,l,aU,rfl,rfl,rfl,hOw,⟨by omega,o⟩,Dt,(SegP.refl l),rfl⟩ ?_);rintro _ _ _ ⟨a0,_,k,r,a3,a4,a5,a6,hR,hk,hmv,hsg,_⟩;obtain⟨_,rfl⟩:=rebK (aC a4<|aC a5<|aC a6 aN);clear a4 a5 a6;refine Rh<|Om<|Ub<|QN ϱ ϱ (fun co=>?_)<|fun co=>?_
   ·refine Nl<|Ud<|PR<|PT<|W.block<|RM (c:=(.int .i64 ((k-1:Nat):Int))) [(15,2),(15,3)] ϱ κ (fun _ _ _ _ h=>h) mixed 15 4 [[],[],[],[],[3],[],[],[6],[5,7],[8],[],[],[10,11],[12],[0,1]] a3 [fx<|.slice va l.length vc,fx<|.int .i64 (k:Int),fx<|.slice va l.length vc,fx<|.int .i64 (k:Int),fx<|.int .i64 ((k-1:Nat):Int),fx<|.slice va l.length vc,fx<|.int .i64 (k:Int),fx<|.int .i64 ((k-1:Nat):Int),fx<|.pointer (va.map (·.add ((k-1)*6))),ur a0 Ji<|r.getD (k-1) Δ,fx<|.slice va l.length vc,fx<|.int .i64 (k:Int),fx<|.pointer (va.map (·.add (k*6))),ur a0 Ji<|r.getD k Δ,fx<|.pointer (va.map (·.add (k*6)))] κ ⟨sx,sx,sx,sx,sx,sx,sx,sx,sx,tr,sx,sx,sx,tr,sx,trivial⟩ (fun _ _ _ h=>h) fun a7 _ F eg A=>?_
    have hR:=hR.sp eg F<|fun _ h=>h
    have A:Keep [113,114,115,116,117,118,119,120,121,122,123,124,125,126,127] _ a7:=A;refine⟨⟨fun _=>?_,fun _=>?_,fun _=>?_,fun _=>?_,fun⟨eh,_⟩=>?_,fun _=>?_,fun _=>?_,fun⟨ei,_⟩=>?_,fun⟨ej,ek,_⟩=>?_,fun⟨el,_⟩=>?_,fun _=>?_,fun _=>?_,fun⟨em,en,_⟩=>?_,fun⟨eo,_⟩=>?_,fun⟨ep,eq,_⟩=>?_,trivial⟩,fun⟨er,_⟩ _=>?_,fun⟨a8,a9,ba,bb,bc,be,bf,bg,es,bh,bi,bj,et,bk,_⟩=>?_⟩
    ·exact Sd0 A fun _=>PP<|⟨(),⟨F,Sp.refl⟩,rfl⟩
    ·exact Sd0 A fun _=>PP<|⟨(),⟨F,Sp.refl⟩,rfl⟩
    ·exact Sd0 A fun _=>PP<|⟨(),⟨F,Sp.refl⟩,rfl⟩
    ·exact Sd0 A fun _=>PP<|⟨(),⟨F,Sp.refl⟩,rfl⟩
    ·exact Sd1 A eh fun _=>St.sub (z:=((k-1:Nat):Int)) ϱ ϱ ν<|⟨(),⟨F,Sp.refl⟩,rfl⟩
    ·exact Sd0 A fun _=>PP<|⟨(),⟨F,Sp.refl⟩,rfl⟩
    ·exact Sd0 A fun _=>PP<|⟨(),⟨F,Sp.refl⟩,rfl⟩
    ·exact Sd1 A ei fun _=>St.sub (z:=((k-1:Nat):Int)) ϱ ϱ ν<|⟨(),⟨F,Sp.refl⟩,rfl⟩
    ·exact Jf A (aC ej<|aC ek aN) fun _=>P1<|QQ (j:=(k-1)) hR Yb Zw ϱ ϱ ϱ (by have:=hsg.len;omega)<|⟨(),⟨F,Sp.refl⟩,rfl⟩
    ·refine Sd1 A el fun _=>QV (T:=Ji) (j:=(k-1)) hR X8 ϱ (by have:=hsg.len;omega) ?_;intro _ eu;obtain⟨_,_,_,_,_,_,rfl,cp,cq,ev,ew,ex⟩:=SU eu;exact⟨(),⟨F,Sp.refl⟩,(Z2 cp cq ev ew ex)⟩
    ·exact Sd0 A fun _=>PP<|⟨(),⟨F,Sp.refl⟩,rfl⟩
    ·exact Sd0 A fun _=>PP<|⟨(),⟨F,Sp.refl⟩,rfl⟩
    ·exact Jf A (aC em<|aC en aN) fun _=>P1<|QQ (j:=k) hR Yb Zw ϱ ϱ ϱ (by have:=hsg.len;omega)<|⟨(),⟨F,Sp.refl⟩,rfl⟩
    ·refine Sd1 A eo fun _=>QV (T:=Ji) (j:=k) hR X8 ϱ (by have:=hsg.len;omega) ?_;intro _ ey;obtain⟨_,_,_,_,_,_,rfl,cr,cs,ez,eA,eB⟩:=SU ey;exact⟨(),⟨F,Sp.refl⟩,(Z2 cr cs ez eA eB)⟩
    ·exact Jf A (aC ep<|aC eq aN) fun _=>P1<|QQ (j:=k) hR Yb Zw ϱ ϱ ϱ (by have:=hsg.len;omega)<|⟨(),⟨F,Sp.refl⟩,rfl⟩
    ·exact Sd1 A er fun _=>St.sub (z:=((k-1:Nat):Int)) ϱ ϱ ν ⟨rfl,rfl⟩
    obtain⟨_,_,_,_,_,_,bl,ct,cu,eC,eD,eE⟩:=SU es;obtain⟨_,_,_,_,_,_,bm,cv,cw,ak,am,an⟩:=SU et;refine Jf A (aC a8<|aC a9<|aC ba<|aC bb<|aC bc<|aC be<|aC bf<|aC bg<|aC bl<|aC bh<|aC bi<|aC bj<|aC bm<|aC bk aN) fun _=>P1 (Rk (T:=Ji) (j:=k) (u:=(r.getD (k-1) Δ)) F hR Zw ϱ ϱ (Z2 ct cu eC eD eE) (by have:=hsg.len;omega) ?_);intro _ eF ao bn;have ak:=ak.tr ao.tx;have am:=am.tr ao.tx;have an:=an.tr ao.tx;intro bo D cx;replace D:∀t,t≠117→bo t=a7 t:=D;have A:Keep [113,114,115,116,117,118,119,120,121,122,123,124,125,126,127] _ bo:=fun t ht=>(D t fun e=>by subst e;exact absurd ht δ).trans (A t ht);obtain⟨_,rfl⟩:=mixK A (aC cx<|aC ((D 113 δ).trans a8)<|aC ((D 114 δ).trans a9)<|aC ((D 115 δ).trans ba)<|aC ((D 116 δ).trans bb)<|aC ((D 118 δ).trans bc)<|aC ((D 119 δ).trans be)<|aC ((D 120 δ).trans bf)<|aC ((D 121 δ).trans bg)<|aC ((D 122 δ).trans bl)<|aC ((D 123 δ).trans bh)<|aC ((D 124 δ).trans bi)<|aC ((D 125 δ).trans bj)<|aC ((D 126 δ).trans bm)<|aC ((D 127 δ).trans bk) aN);refine Ol (QQ (j:=(k-1)) bn Yb Zw ϱ ϱ ϱ N'<|On<|Rk (T:=Ji) (j:=(k-1)) (u:=(r.getD k Δ)) eF bn Zw ϱ ϱ (Z2 cv cw ak am an) N' ?_);intro _ eG _ eH;refine Nl<|PN<|Ub<|St.sub (z:=((k-1:Nat):Int)) ϱ ϱ ν<|Ua<|⟨_,o,_,_,(k-1),((r.set k<|r.getD (k-1) Δ).set (k-1) (r.getD k Δ)),eG,rfl,rfl,rfl,eH,⟨by omega,o⟩,(H3 hmv hsg.len o o o),(hsg.trans<|pp (by have:=hsg.len;omega) ⟨by omega,o⟩ ⟨by omega,o⟩),rfl⟩
   exact Nl<|Ue<|QB<|PS<|uv rfl<|RetO.finE a3 hM hR<|⟨hsg,by have e:b=m+1:=o;rw[e];exact NJ I h1 ⟨by omega,o⟩ B1 (fun p p1 Y=>B2 p o Y) (by obtain rfl:k=i:=o;exact hmv)⟩
  refine Nl (Uc<|Rg<|Om<|Ub<|St.add ϱ ϱ (Ja (a:=a) (b:=b) o)<|Ol<|P6 (z:=((a+b:Nat):Int)) us3 r7 ϱ (Tw _ o)<|Ol<|Rl ϱ ϱ δ (Ka (d:=2) _ δ)<|Ol<|P6 (z:=(((a+b)/2:Nat):Int)) Cs un3 ϱ (Tz _ o) ?_);refine Ua<|Rg<|Om<|Ub<|St.add ϱ ϱ (Ja (a:=(a+b)/2) (b:=m) o)<|Ua<|Rg<|Oa<|Ua<|PT<|Rm (fun f v=>∃(x y:Nat→Prop) (lo:Nat) (hi:Nat),Cx X ⟨w,M⟩ x y v∧f 0=(S12 va l vc)∧f 1=(.int .i64 a)∧f 2=(.int .i64 m)∧f 3=(.int .i64 b)∧f 4=(.func (.func kf) #[] #[])∧f 18=(.int .i64 (((a+b)/2:Nat):Int))∧f 19=(.int .i64 ((((a+b)/2)+m:Nat):Int))∧f 20=(.int .i64 lo)∧f 21=(.int .i64 hi)∧OS Ji 144 ⟨w,M⟩ x y v (S12 va l vc) l∧((lo=a∧m≤(a+b)/2∧hi=m)∨(lo+b=(a+b)/2+m∧(a+b)/2<m∧hi=(a+b)/2))) ?_ ?_
  ·refine Rg<|Om<|Ub<|QN ϱ ϱ (fun cy=>?_)<|fun cy=>?_
   ·refine Nl<|Uf<|Om<|Ub<|St.sub (z:=(((a+b)/2+m-b:Nat):Int)) ϱ ϱ ν<|Ua<|PN<|Om<|Ua<|⟨_,_,((a+b)/2+m-b),((a+b)/2),C,rfl,rfl,rfl,rfl,rfl,rfl,rfl,rfl,rfl,hOw,o⟩
   refine Nl<|Ug<|Om<|Ua<|PN<|Om<|Ua<|⟨_,_,a,m,C,rfl,rfl,rfl,rfl,rfl,rfl,rfl,rfl,rfl,hOw,o⟩
  rintro _ _ ⟨_,_,lo,hi,eI,bp,bq,br,bs,bt,bu,bv,bw,bx,hOw,hlo⟩;obtain⟨_,rfl⟩:=rebK (aC bp<|aC bq<|aC br<|aC bs<|aC bt<|aC bu<|aC bv<|aC bw<|aC bx aN);clear bp bq br bs bt bu bv bw bx;refine Rg (Ub<|St.sub (z:=(((a+b)/2+m-1:Nat):Int)) ϱ ϱ ν<|Ua<|PT<|W.block<|P7 (fun μ f v=>∃(x y:Nat→Prop) (s:Nat) (r:Nat),Cx X ⟨w,M⟩ x y v∧f 0=(S12 va l vc)∧f 1=(.int .i64 a)∧f 2=(.int .i64 m)∧f 3=(.int .i64 b)∧f 4=(.func (.func kf) #[] #[])∧f 18=(.int .i64 (((a+b)/2:Nat):Int))∧f 19=(.int .i64 ((((a+b)/2)+m:Nat):Int))∧f 22=(.int .i64 (((a+b)/2+m-1:Nat):Int))∧f 20=(.int .i64 s)∧f 21=(.int .i64 r)∧OS Ji 144 ⟨w,M⟩ x y v (S12 va l vc) l∧(lo≤s∧s≤r∧r≤hi)∧(lo<s→¬cf (l.getD ((a+b)/2+m-1-(s-1)) Δ) (l.getD (s-1) Δ)<0)∧(r<hi→cf (l.getD ((a+b)/2+m-1-r) Δ) (l.getD r Δ)<0)∧μ=(r-s)) _ ⟨_,_,lo,hi,eI,rfl,rfl,rfl,rfl,rfl,rfl,rfl,rfl,rfl,rfl,hOw,⟨by omega,o,o⟩,(fun h=>absurd h<|Nat.lt_irrefl _),(fun h=>absurd h<|Nat.lt_irrefl _),rfl⟩ ?_);rintro _ _ _ ⟨bz,_,s,r,U,bA,bB,bC,bD,bE,bF,bG,bH,bI,bJ,hOw,_,hb,ha,_⟩;obtain⟨_,rfl⟩:=rebK (aC bA<|aC bB<|aC bC<|aC bD<|aC bE<|aC bF<|aC bG<|aC bH<|aC bI<|aC bJ aN);clear bA bB bC bD bE bF bG bH bI bJ;refine Rh<|Om<|Ub<|P2 ϱ ϱ (fun cz=>?_)<|fun cz=>?_
  ·refine Nl (Ud<|PR<|W.block<|Rg<|Om<|Ub<|St.add ϱ ϱ (Ja (a:=s) (b:=r) o)<|Ol<|P6 (z:=((s+r:Nat):Int)) us3 r7 ϱ (Tw _ o)<|Ol<|Rl ϱ ϱ δ (Ka (d:=2) _ δ)<|Ol<|P6 (z:=(((s+r)/2:Nat):Int)) Cs un3 ϱ (Tz _ o) ?_);refine Ua<|PT<|Rb mixed 11 [[],[],[],[],[2,3],[1,4],[5],[],[],[7,8],[9]] U [fx<|.func (.func kf) #[] #[],fx<|.slice va l.length vc,fx<|.int .i64 (((a+b)/2+m-1:Nat):Int),fx<|.int .i64 (((s+r)/2:Nat):Int),fx<|.int .i64 (((a+b)/2+m-1-(s+r)/2:Nat):Int),fx<|.pointer (va.map (·.add (((a+b)/2+m-1-(s+r)/2)*6))),ur bz Ji<|l.getD ((a+b)/2+m-1-(s+r)/2) Δ,fx<|.slice va l.length vc,fx<|.int .i64 (((s+r)/2:Nat):Int),fx<|.pointer (va.map (·.add (((s+r)/2)*6))),ur bz Ji<|l.getD ((s+r)/2) Δ] κ ⟨sx,sx,sx,sx,sx,sx,tr,sx,sx,sx,tr,trivial⟩ fun eJ _ H eK J=>?_
   have hOw:=hOw.sp eK H<|fun _ h=>h
   have J:Keep [158,159,160,161,162,163,164,165,166,167,168] _ eJ:=J;refine⟨⟨fun _=>?_,fun _=>?_,fun _=>?_,fun _=>?_,fun⟨eL,eM,_⟩=>?_,fun⟨eN,eO,_⟩=>?_,fun⟨eP,_⟩=>?_,fun _=>?_,fun _=>?_,fun⟨eQ,eR,_⟩=>?_,fun⟨eS,_⟩=>?_,trivial⟩,fun⟨eT,eU,eV,eW,eX,eY,eZ,e0,e1,e2,e3,_⟩=>?_⟩
   ·exact Sd0 J fun _=>PP<|⟨(),⟨H,Sp.refl⟩,rfl⟩
   ·exact Sd0 J fun _=>PP<|⟨(),⟨H,Sp.refl⟩,rfl⟩
   ·exact Sd0 J fun _=>PP<|⟨(),⟨H,Sp.refl⟩,rfl⟩
   ·exact Sd0 J fun _=>PP<|⟨(),⟨H,Sp.refl⟩,rfl⟩
   ·exact Jf J (aC eL<|aC eM aN) fun _=>P1<|St.sub (z:=(((a+b)/2+m-1-(s+r)/2:Nat):Int)) ϱ ϱ ν<|⟨(),⟨H,Sp.refl⟩,rfl⟩
   ·exact Jf J (aC eN<|aC eO aN) fun _=>P1<|QQ (j:=((a+b)/2+m-1-(s+r)/2)) hOw Yb Zw ϱ ϱ ϱ o<|⟨(),⟨H,Sp.refl⟩,rfl⟩
   ·refine Sd1 J eP fun _=>QV (T:=Ji) (j:=((a+b)/2+m-1-(s+r)/2)) hOw X8 ϱ o ?_;intro _ e4;obtain⟨_,_,_,_,_,_,rfl,cE,cF,e5,e6,fa⟩:=SU e4;exact⟨(),⟨H,Sp.refl⟩,(Z2 cE cF e5 e6 fa)⟩
   ·exact Sd0 J fun _=>PP<|⟨(),⟨H,Sp.refl⟩,rfl⟩
   ·exact Sd0 J fun _=>PP<|⟨(),⟨H,Sp.refl⟩,rfl⟩
   ·exact Jf J (aC eQ<|aC eR aN) fun _=>P1<|QQ (j:=((s+r)/2)) hOw Yb Zw ϱ ϱ ϱ o<|⟨(),⟨H,Sp.refl⟩,rfl⟩
   ·refine Sd1 J eS fun _=>QV (T:=Ji) (j:=((s+r)/2)) hOw X8 ϱ o ?_;intro _ fb;obtain⟨_,_,_,_,_,_,rfl,cG,cH,fc,fd,ff⟩:=SU fb;exact⟨(),⟨H,Sp.refl⟩,(Z2 cG cH fc fd ff)⟩
   obtain⟨_,_,_,_,_,_,fg,cI,cJ,fh,fi,fj⟩:=SU eZ;obtain⟨_,_,_,_,_,_,fk,cK,cL,fl,fm,fn⟩:=SU e3;obtain⟨_,rfl⟩:=mixK J (aC eT<|aC eU<|aC eV<|aC eW<|aC eX<|aC eY<|aC fg<|aC e0<|aC e1<|aC e2<|aC fk aN);refine Ol (RE H hcb ϱ ϱ (hC H.bd (p:=(l.getD ((a+b)/2+m-1-(s+r)/2) Δ)) (Z2 cI cJ fh fi fj) (q:=(l.getD ((s+r)/2) Δ)) (Z2 cK cL fl fm fn) (hG _<|zw o)<|hG _<|zw o) ?_);intro _ _ aq fo fp;have hOw:=hOw.sp fo aq<|fun _ h=>h
   subst fp;refine Ol<|P2 ϱ ϱ (fun cM=>?_)<|fun cM=>?_
   ·refine Ol<|QI rfl<|Nl<|Ue<|PN<|Om<|Ua<|⟨_,o,_,_,s,((s+r)/2),aq,rfl,rfl,rfl,rfl,rfl,rfl,rfl,rfl,rfl,rfl,hOw,⟨by omega,o,o⟩,hb,(fun _=>by assumption),rfl⟩
   refine Ol<|QI rfl<|Nl<|Uk<|Ub<|St.add ϱ ϱ (Ja (a:=(s+r)/2) (b:=1) o)<|Ua<|⟨_,o,_,_,((s+r)/2+1),r,aq,rfl,rfl,rfl,rfl,rfl,rfl,rfl,rfl,rfl,rfl,hOw,⟨by omega,o,o⟩,(fun _=>by rw[U3];assumption),ha,rfl⟩
  refine Nl (Ue<|QB<|PT ?_);have hcut:=NC I h1 h2 ham hmb hlo (s:=s) ⟨by omega,o⟩ hb (by have e:r=s:=o;rw[←e];exact ha);refine PN<|Om<|Ub<|St.sub (z:=(((a+b)/2+m-s:Nat):Int)) ϱ ϱ ν<|Ua<|PT<|Rm (fun f v=>∃(x y:Nat→Prop) (k:List GPart),Cx X ⟨w,M⟩ x y v∧f 1=(.int .i64 a)∧f 3=(.int .i64 b)∧f 4=(.func (.func kf) #[] #[])∧f 18=(.int .i64 (((a+b)/2:Nat):Int))∧f 20=(.int .i64 s)∧f 24=(.int .i64 (((a+b)/2+m-s:Nat):Int))∧f 0=(S12 va l vc)∧OS Ji 144 ⟨w,M⟩ x y v (S12 va l vc) k∧Xx (rxI s m<|(a+b)/2+m-s) l k∧SegP a b l k) ?_ ?_
  ·refine Rg<|Om<|Ub<|P2 ϱ ϱ (fun cN=>?_)<|fun cN=>?_
   ·refine Om<|OgD<|PP<|OgD<|PP<|OgD<|P2 ϱ ϱ (fun cO=>?_)<|fun cO=>?_
    ·refine OT (Nl<|Uk<|Om<|Om<|Om<|Om<|Ub<|Rf U hOw Pj ϱ ϱ (NP U.bd hOw.ow (fun k hk=>(hOw.mem k hk).1.1) (a:=s) (m:=m) (b:=(a+b)/2+m-s) o o o o) ?_);intro _ _ fq ft _ fu ar;refine Nl<|⟨_,_,fq,ft,rfl,rfl,rfl,rfl,rfl,rfl,rfl,fu,ar.1,(ar.2.up o o)⟩
    refine OT<|Nl<|Uc<|⟨_,_,l,U,rfl,rfl,rfl,rfl,rfl,rfl,rfl,hOw,(I5 o),(SegP.refl l)⟩
   refine Om<|Oz<|Oz<|Oz<|OF<|Nl<|Uc<|⟨_,_,l,U,rfl,rfl,rfl,rfl,rfl,rfl,rfl,hOw,(I5 o),(SegP.refl l)⟩
  rintro _ _ ⟨_,_,k,Z,bK,bL,bM,bN,bO,bP,bQ,hK,hmv,hsg⟩;obtain⟨_,rfl⟩:=rebK (aC bK<|aC bL<|aC bM<|aC bN<|aC bO<|aC bP<|aC bQ aN);clear bK bL bM bN bO bP bQ;obtain⟨q1,q2,q3,q4,q5⟩:=HI I h1 h2 ham hmb hcut hmv;have hkl:=hsg.len;refine PT<|Rm (fun f v=>∃(x y:Nat→Prop) (t:List GPart),Cx X ⟨w,M⟩ x y v∧f 3=(.int .i64 b)∧f 4=(.func (.func kf) #[] #[])∧f 18=(.int .i64 (((a+b)/2:Nat):Int))∧f 24=(.int .i64 (((a+b)/2+m-s:Nat):Int))∧f 0=(S12 va l vc)∧OS Ji 144 ⟨w,M⟩ x y v (S12 va l vc) t∧SegP a b l t∧Z8 cf a ((a+b)/2) t∧Z8 cf ((a+b)/2) ((a+b)/2+m-s) t∧Z8 cf ((a+b)/2+m-s) b t∧Blw cf a ((a+b)/2) b t) ?_ ?_
  ·refine Rg<|Om<|Ub<|P2 ϱ ϱ (fun cP=>?_)<|fun cP=>?_
   ·refine Om<|OgD<|PP<|OgD<|PP<|OgD<|P2 ϱ ϱ (fun cQ=>?_)<|fun cQ=>?_
    ·refine OT (Nl<|Uk<|Om<|Om<|Om<|Om<|Ub<|Rf Z hK Dp ϱ ϱ (ih Z.bd hK.ow (fun k hk=>(hK.mem k hk).1.1) (a:=a) (m:=s) (b:=(a+b)/2) o o o o q1 q2 I hcb hC (fun p hp=>hG p<|hsg.perm.mem_iff.1 hp) o) ?_);intro _ _ fC fD _ fF R;refine Nl<|⟨_,_,fC,fD,rfl,rfl,rfl,rfl,rfl,fF,(hsg.trans<|R.1.up o o),R.2,(q3.keep R.1<|.inr (Tu _)),(q4.keep R.1<|.inr o),(q5.lo R.1)⟩
    refine OT<|Nl<|Uc<|⟨_,_,k,Z,rfl,rfl,rfl,rfl,rfl,hK,hsg,(l8 q1 q2 o),q3,q4,q5⟩
   refine Om<|Oz<|Oz<|Oz<|OF<|Nl<|Uc<|⟨_,_,k,Z,rfl,rfl,rfl,rfl,rfl,hK,hsg,(l8 q1 q2 o),q3,q4,q5⟩
  rintro _ _ ⟨_,_,t,aa,bR,bS,bT,bU,bV,hT,V,z1,z2,z3,z4⟩;obtain⟨_,rfl⟩:=rebK (aC bR<|aC bS<|aC bT<|aC bU<|aC bV aN);clear bR bS bT bU bV;have htl:=V.len;refine Rg<|Om<|Ub<|P2 ϱ ϱ (fun cR=>?_)<|fun cR=>?_
  ·refine Om<|OgD<|PP<|OgD<|PP<|OgD<|P2 ϱ ϱ (fun cS=>?_)<|fun cS=>?_
   ·refine OT (Nl<|Uk<|Om<|Om<|Om<|Om<|Ub<|Rf aa hT Dp ϱ ϱ (ih aa.bd hT.ow (fun k hk=>(hT.mem k hk).1.1) (a:=(a+b)/2) (m:=(a+b)/2+m-s) (b:=b) o o o o z2 z3 I hcb hC (fun p hp=>hG p<|V.perm.mem_iff.1 hp) o) ?_);intro _ _ _ fK _ fL S;exact Nl<|Kl rfl<|RetO.finE fK hM fL ⟨V.trans<|S.1.up o o,pg (z1.keep S.1<|.inl (Tu _)) S.2<|z4.hi S.1⟩
   exact OT<|Nl<|Uc<|Kl rfl<|RetO.finE aa hM hT ⟨V,pg z1 (l8 z2 z3 o) z4⟩
  exact Om<|Oz<|Oz<|Oz<|OF<|Nl<|Uc<|Kl rfl<|RetO.finE aa hM hT ⟨V,pg z1 (l8 z2 z3 o) z4⟩
theorem JP{X:Nat→Prop}{w:World}(hX:XB X w){d:Value}{l:List GPart}(g:OW Ji 144 X w d l)(h:∀k,d.ownBlock=some k→X k){a:Nat}{m:Nat}{b:Nat}(hlb:l.length≤1099511627776)(ham:a<m)(hmb:m<b)(hbl:b≤l.length)(i:Z8 cf a m l)(j:Z8 cf m b l)(I:IsCmp cf)(hcb:Jd Tryz.prog kf=true)(hC:CmpP Tryz.prog kf cf G)(hG:∀p∈l,G p):Calls Tryz.prog 224 #[d,(.int .i64 a),(.int .i64 m),(.int .i64 b),(.func (.func kf) #[] #[])] w (RetO w d.ownBlock fun _ w'=>∃l',OWr Ji 144 X w d.ownBlock d w' l'∧SegP a b l l'∧Z8 cf a b l'):=HQ ((b-a)+1) hX g h hlb ham hmb hbl i j I hcb hC hG (VM _)
def SB(f:GPart→GPart→Int)(bs lo hi:Nat)(l:List GPart):Prop:=∀p q,lo≤p→p<q→q<hi→p/bs=q/bs→f (l.getD p Δ) (l.getD q Δ)≤0
section
variable {f:GPart→GPart→Int} {bs a b c n lo hi:Nat} {l k:List GPart}
theorem BX:SB f bs 0 0 l:=fun _ _ _ _ _=>o
theorem mW(h:SB f bs 0 a l)(s:SegP a b l k)(hs:Z8 f a b k)(d:0<bs)(ha:a=c*bs)(hb:b≤a+bs):SB f bs 0 b k:=by
 intro p q g pq qb e;by_cases hq:q<a
 ·rw[s.out p<|.inl o,s.out q<|.inl hq];exact h p q g pq hq e
 ·refine hs p q ?_ pq qb;rcases TN p a with hp|hp
  ·exfalso;have i:p/bs<c:=(Nat.div_lt_iff_lt_mul d).2 o;have j:c≤q/bs:=(VG d).2 o;omega
  ·exact hp
theorem vD(h:SB f bs lo hi l)(i:0<bs)(ha:a=c*bs)(j:lo≤a)(m:b≤hi)(s:b≤a+bs):Z8 f a b l:=by
 intro p q d pq g;have e:∀x,a≤x→x<b→x/bs=c:=fun x _ _=>Nat.div_eq_of_lt_le o (by rw[Wb];omega);exact h p q o pq o (by rw[e p d o,e q o g])
theorem wz(ha:a=c*(bs*2)):a=(2*c)*bs∧a+bs=(2*c+1)*bs:=by
 have e:a=(2*c)*bs:=by rw[ha,TR bs 2,←TO,TR c 2]
 exact⟨e,by rw[Wb,←e]⟩
theorem oD(h:SB f bs a n l)(d:0<bs)(ha:a=c*(bs*2))(e:a+bs≤n)(g:b≤n)(i:b≤a+bs+bs):Z8 f a (a+bs) l∧Z8 f (a+bs) b l:=
 ⟨vD h d (wz ha).1 (Tu _) e<|Tu _,vD h d (wz ha).2 o g i⟩
theorem G1(h:SB f bs a n l)(d:0<bs)(ha:a=c*(bs*2))(e:n≤a+bs):Z8 f a n l:=vD h d (wz ha).1 (Tu _) (Tu _) e
theorem SB.rest(h:SB f bs a n l)(s:SegP a b l k)(hab:a≤b):SB f bs b n k:=fun p q d pq g e=>by
 rw[s.out p<|.inr d,s.out q<|.inr o];exact h p q o pq g e
theorem KB(h:SB f bs 0 n l)(hn:n≤bs):Z8 f 0 n l:=by
 rcases VE bs with d|d
 ·intro _ _ _ _ _;omega
 ·exact vD (c:=0) h d (by rw[Wh]) (Tu _) (Tu _) o
end
set_option maxHeartbeats 8000000 in
theorem Mi{X:Nat→Prop}{w:World}(hX:XB X w){z:Value}{l:List GPart}(o0:OW Ji 144 X w z l)(m0:∀k,z.ownBlock=some k→X k){n:Nat}(hlb:l.length≤1099511627776)(hn:n=l.length)(I:IsCmp cf)(hcb:Jd Tryz.prog kf=true)(hC:CmpP Tryz.prog kf cf G)(hG:∀p∈l,G p):Calls Tryz.prog 185 #[z,(.int .i64 n),(.func (.func kf) #[] #[])] w (RetO w z.ownBlock fun _ w'=>∃l',OWr Ji 144 X w z.ownBlock z w' l'∧SegP 0 n l l'∧Z8 cf 0 n l'):=by
 obtain⟨va,vc,rfl,_,_⟩:=OW.opn o0;obtain⟨M,C,hOw,hM⟩:=OW.start o0 hX m0;refine Cgo Tryz.func185 ϱ ϱ ϱ (Rg<|Ua<|Rg<|Om<|Oa<|Ua<|PT<|W.block<|P7 (fun μ f v=>∃(x y:Nat→Prop) (a:Nat) (b:Nat) (c:Nat) (p:List GPart),Cx X ⟨w,M⟩ x y v∧f 1=(.int .i64 n)∧f 2=(.func (.func kf) #[] #[])∧f 6=(.int .i64 20)∧f 7=(.int .i64 a)∧f 8=(.int .i64 b)∧f 0=(S12 va l vc)∧OS Ji 144 ⟨w,M⟩ x y v (S12 va l vc) p∧a=c*20∧b=a+20∧a≤n∧SB cf 20 0 a p∧SegP 0 n l p∧μ=(n-a)) _ ⟨_,_,0,20,0,l,C,rfl,rfl,rfl,rfl,rfl,rfl,hOw,rfl,rfl,(Tv _),BX,(SegP.refl l),rfl⟩ ?_);rintro _ _ _ ⟨_,_,a,b,c,p,D,e6,e7,e8,e9,E,F,hP,ha,hb,han,hS,hsg,_⟩;obtain⟨_,rfl⟩:=rebK (aC e6<|aC e7<|aC e8<|aC e9<|aC E<|aC F aN);clear e6 e7 e8 e9 E F;refine Rh<|Om<|Ub<|Rt ϱ ϱ (fun Y=>?_)<|fun Y=>?_
 ·refine Nl (Ud<|PR<|W.block<|Rg<|Om<|Om<|Om<|Ub<|Rf D hP Lk ϱ ϱ (JH D.bd hP.ow (fun k hk=>(hP.mem k hk).1.1) (a:=a) (b:=b) (by have:=hsg.len;omega) (by have:=hsg.len;omega) (by have:=hsg.len;omega) I hcb hC<|fun p hp=>hG p<|hsg.perm.mem_iff.1 hp) ?_);intro _ _ ak am _ an j;refine Nl<|Rg<|Om<|Ua<|PN<|Om<|Ub<|St.add ϱ ϱ (Ja (a:=b) (b:=20) o)<|Ua<|⟨_,o,_,_,b,(b+20),(c+1),ak,am,rfl,rfl,rfl,rfl,rfl,rfl,an,o,rfl,o,(mW (c:=c) hS j.1 j.2 δ ha o),(hsg.trans<|j.1.up (Tv _) o),rfl⟩
 refine Nl (Ue<|QB<|Rg<|Om<|Om<|Om<|Ub<|Rf D hP Lk ϱ ϱ (JH D.bd hP.ow (fun k hk=>(hP.mem k hk).1.1) (a:=a) (b:=n) (by have:=hsg.len;omega) (by have:=hsg.len;omega) (by have:=hsg.len;omega) I hcb hC<|fun p hp=>hG p<|hsg.perm.mem_iff.1 hp) ?_);intro _ _ ao aq _ ar s;refine Nl (W.block<|P7 (fun μ f v=>∃(x y:Nat→Prop) (bs:Nat) (q:List GPart),Cx X ⟨w,M⟩ x y v∧f 1=(.int .i64 n)∧f 2=(.func (.func kf) #[] #[])∧f 6=(.int .i64 bs)∧f 0=(S12 va l vc)∧OS Ji 144 ⟨w,M⟩ x y v (S12 va l vc) q∧0<bs∧SB cf bs 0 n q∧SegP 0 n l q∧μ=(n-bs)) _ ⟨_,_,20,ao,aq,rfl,rfl,rfl,rfl,ar,δ,(mW (c:=c) hS s.1 s.2 δ ha o),(hsg.trans<|s.1.up (Tv _)<|Tu _),rfl⟩ ?_);rintro _ _ _ ⟨_,_,bs,q,H,J,K,L,N,hQ,hbs,P,A,_⟩;obtain⟨_,rfl⟩:=rebK (aC J<|aC K<|aC L<|aC N aN);clear J K L N;refine Rh<|Om<|Ub<|P2 ϱ ϱ (fun Z=>?_)<|fun Z=>?_
 ·refine Nl (Ud<|PR<|W.block<|Rg<|Ub<|Rq ϱ ϱ (K3 (a:=2) (b:=bs) o)<|Oa<|Ua<|PT<|W.block<|P7 (fun μ f v=>∃(x y:Nat→Prop) (a:Nat) (b:Nat) (c:Nat) (r:List GPart),Cx X ⟨w,M⟩ x y v∧f 1=(.int .i64 n)∧f 2=(.func (.func kf) #[] #[])∧f 6=(.int .i64 bs)∧f 7=(.int .i64 a)∧f 8=(.int .i64 b)∧f 0=(S12 va l vc)∧OS Ji 144 ⟨w,M⟩ x y v (S12 va l vc) r∧a=c*(bs*2)∧b=a+2*bs∧a≤n∧SB cf (bs*2) 0 a r∧SB cf bs a n r∧SegP 0 n l r∧μ=(n-a)) _ ⟨_,_,0,(2*bs),0,q,H,rfl,rfl,rfl,rfl,rfl,rfl,hQ,(by rw[Wh]),o,(Tv _),BX,P,A,rfl⟩ ?_);rintro _ _ _ ⟨_,_,a,b,c,r,i,Q,R,S,T,U,V,hR,ha,hb,han,B,e,d,_⟩;obtain⟨_,rfl⟩:=rebK (aC Q<|aC R<|aC S<|aC T<|aC U<|aC V aN);clear Q R S T U V;refine Rh<|Om<|Ub<|Rt ϱ ϱ (fun aa=>?_)<|fun aa=>?_
  ·refine Nl (Ud<|PR<|W.block<|Rg<|Om<|Om<|Om<|Ub<|St.add ϱ ϱ (Ja (a:=a) (b:=bs) o)<|Om<|Ub<|Rf i hR Dp ϱ ϱ (JP i.bd hR.ow (fun k hk=>(hR.mem k hk).1.1) (a:=a) (m:=a+bs) (b:=b) (by have:=d.len;omega) o o (by have:=d.len;omega) (oD e hbs ha o o o).1 (oD e hbs ha o o o).2 I hcb hC<|fun p hp=>hG p<|d.perm.mem_iff.1 hp) ?_);intro _ _ au av _ aw g;refine Nl<|Rg<|Om<|Ua<|PN<|Om<|Ub<|Rq ϱ ϱ (K3 (a:=2) (b:=bs) o)<|Ol<|St.add ϱ ϱ (Ja (a:=b) (b:=2*bs) o)<|Ua<|⟨_,o,_,_,b,(b+2*bs),(c+1),au,av,rfl,rfl,rfl,rfl,rfl,rfl,aw,(by rw[Wb,←ha];omega),rfl,o,(mW (c:=c) B g.1 g.2 o ha o),(e.rest g.1 o),(d.trans<|g.1.up (Tv _) o),rfl⟩
  refine Nl<|Ue<|QB<|Rh<|Om<|Ub<|St.add ϱ ϱ (Ja (a:=a) (b:=bs) o)<|Ua<|Rg<|Om<|Ub<|P2 ϱ ϱ (fun ab=>?_)<|fun ab=>?_
  ·refine Nl (Uk<|Om<|Om<|Om<|Om<|Ub<|Rf i hR Dp ϱ ϱ (JP i.bd hR.ow (fun k hk=>(hR.mem k hk).1.1) (a:=a) (m:=a+bs) (b:=n) (by have:=d.len;omega) o o (by have:=d.len;omega) (oD e hbs ha o o o).1 (oD e hbs ha o o o).2 I hcb hC<|fun p hp=>hG p<|d.perm.mem_iff.1 hp) ?_);intro _ _ ac ad _ ae h;refine Nl<|PN<|Ub<|Rq ϱ ϱ (K3 (a:=bs) (b:=2) o)<|Ua<|⟨_,o,_,_,(bs*2),ac,ad,rfl,rfl,rfl,rfl,ae,o,(mW (c:=c) B h.1 h.2 o ha o),(d.trans<|h.1.up (Tv _)<|Tu _),rfl⟩
  refine Nl<|Uc<|PN<|Ub<|Rq ϱ ϱ (K3 (a:=bs) (b:=2) o)<|Ua<|⟨_,o,_,_,(bs*2),r,i,rfl,rfl,rfl,rfl,hR,o,(mW (c:=c) B (SegP.refl r) (G1 e hbs ha o) o ha o),d,rfl⟩
 exact Nl<|Ue<|QB<|Kl rfl<|RetO.finE H hM hQ ⟨A,KB P o⟩
theorem zT{X:Nat→Prop}{w:World}(hX:XB X w){e:Value}{l:List GPart}(g:OW Ji 144 X w e l)(j:∀k,e.ownBlock=some k→X k)(hlb:l.length≤1099511627776)(I:IsCmp cf)(hcb:Jd Tryz.prog kf=true)(hC:CmpP Tryz.prog kf cf G)(hG:∀p∈l,G p):Calls Tryz.prog 139 #[e,(.func (.func kf) #[] #[])] w (RetO w e.ownBlock fun _ w'=>∃l',OWr Ji 144 X w e.ownBlock e w' l'∧l'.Perm l∧Srt cf l'):=by
 obtain⟨va,vc,rfl,_,_⟩:=OW.opn g;obtain⟨_,C,hOw,hM⟩:=OW.start g hX j;refine Cgo Tryz.func139 r r r (PN<|Om<|Ub<|St.len Yb rfl<|Ub<|Rf C hOw Pk r r (Mi C.bd hOw.ow (fun k hk=>(hOw.mem k hk).1.1) (n:=l.length) hlb r I hcb hC hG) ?_);intro _ _ _ h _ i d;exact Nl<|Kl rfl<|RetO.finE h hM i ⟨d.1.perm,Bp (by rw[d.1.len];exact d.2)⟩
end Go.Wf
namespace Go.Wf
open Go
variable{a b t x y:GExpr}{i:Nat}{l out:List GExpr}{p:GPart}
theorem Jp(h:i<l.length):l.getD i Δ∈l:=by
 rw[Tq,Tt h];exact List.getElem_mem h
inductive Sz:GExpr→Prop
 |mk {a:GExpr} (h1:a.n.length≤1000) (h2:a.c.num.mag.length≤268435456) (h3:a.c.den.mag.length≤268435456) (h4:a.args.length≤100000) (h5:a.name.length≤1000) (k:∀x∈a.args,Sz x):Sz a
theorem Sz.nm(h:Sz a):a.name.length≤1000:=by
 cases h with
 |mk d e g i b k=>exact b
theorem Sz.arg(h:Sz a)(hx:x∈a.args):Sz x:=by
 cases h with
 |mk b d e g i k=>exact k x hx
theorem Qi:(Sz a→a.n.length≤1000∧a.c.num.mag.length≤268435456∧a.c.den.mag.length≤268435456∧a.args.length≤100000∧∀i,i<a.args.length→Sz (a.args.getD i Δ))∧True:=by
 refine⟨fun h=>?_,trivial⟩
 cases h with
 |mk b d e g j k=>exact⟨b,d,e,g,fun i hi=>k _ (Jp hi)⟩
theorem nF(h:Sz a)(hi:i<a.args.length):Sz (a.args.getD i Δ):=(Qi.1 h).2.2.2.2 i hi
inductive OkO:GExpr→Prop
 |mk {a:GExpr} (h1:a.c.num.mag.length≤268435456∧a.c.den.mag.length≤268435456∧a.name.length≤1000) (k:∀i,i<a.args.length→OkO (a.args.getD i Δ)):OkO a
theorem OkO.one(h:OkO a):a.c.num.mag.length≤268435456∧a.c.den.mag.length≤268435456∧a.name.length≤1000:=by
 cases h with
 |mk b k=>exact b
theorem OkO.arg(h:OkO a)(hi:i<a.args.length):OkO (a.args.getD i Δ):=by
 cases h with
 |mk b k=>exact k i hi
theorem EX(N:Nat):∀ {a:GExpr},SizeOf.sizeOf a<N→(okE a∨Sz a)→OkO a:=by
 induction N with
 |zero=>intro a h;exact absurd h (TC _)
 |succ N ih=>
  intro a hN h;rcases h with h|h
  ·have h':=h;rw[Qo] at h';exact .mk ⟨Tj h'.1 d,Tj h'.2.1 d,h'.2.2.1⟩ fun i hi=>ih (Ti (Kz hi) (Nat.le_of_lt_succ hN)) (.inl (xL h hi))
  ·exact .mk ⟨(Qi.1 h).2.1,(Qi.1 h).2.2.1,h.nm⟩ fun i hi=>ih (Ti (Kz hi) (Nat.le_of_lt_succ hN)) (.inr (nF h hi))
theorem okE.o(h:okE a):OkO a:=EX _ (VM _) (.inl h)
theorem Sz.o(h:Sz a):OkO a:=EX _ (VM _) (.inr h)
theorem Dh(N:Nat):∀ {a:GExpr},SizeOf.sizeOf a<N→Yi a=true→cntE a≤10000→Sz a:=by
 induction N with
 |zero=>intro a h;exact absurd h (TC _)
 |succ N ih=>
  intro a hN h _;obtain⟨_,_,_,_,b⟩:=K9.1 h;have d:=qo a;have g:=Z7 a;refine .mk o o o o o fun _ hx=>?_
  obtain⟨i,hi,rfl⟩:=List.getElem_of_mem hx;have e:a.args[i]=a.args.getD i Δ:=by rw[Tq,Tt hi];rfl
  rw[e]
  have:=yb (l:=a.args) hi
  exact ih (Ti (Kz hi) (Nat.le_of_lt_succ hN)) (b i hi) o
theorem AG:qs []:=⟨(fun _ h=>by cases h),List.Pairwise.nil,fun h=>by obtain⟨_,h,_⟩:=h;cases h⟩
theorem qy(h:a.op=1):paA a=⟨a.c,0,[]⟩:=by unfold paA;rw[if_pos h]
theorem nD(h:a.op=11)(hh:(hdE a).op=1):paA a=⟨(hdE a).c,0,a.args.drop 1⟩:=by unfold paA;rw[if_neg o,if_pos h,if_pos hh]
theorem nO(h:a.op=11)(hh:¬(hdE a).op=1):paA a=⟨ofQ 1,0,a.args⟩:=by unfold paA;rw[if_neg o,if_pos h,if_neg hh]
theorem qx(h:¬a.op=1)(b:¬a.op=11):paA a=⟨ofQ 1,0,[a]⟩:=by unfold paA;rw[if_neg h,if_neg b]
theorem Bx(b:a.op≠1)(d:a.op≠11)(e:a.op≠10):qs [a]:=
 ⟨fun _ hf=>by simp at hf;subst hf;exact⟨b,d⟩,List.pairwise_singleton _ _,fun h=>by obtain⟨_,h,g⟩:=h;simp at h;subst h;exact e g⟩
theorem pJ(h:a.args≠[]):hdE a∈a.args:=by
 cases ha:a.args with
 |nil=>exact absurd ha h
 |cons x l=>simp[hdE,ha]
theorem mN(h:NF y)(hl:Lwe y)(g:y.op≠10):qs (paA y).rest∧∀f∈(paA y).rest,NF f∧Lwe f:=by
 unfold paA;split
 ·exact⟨AG,fun _ h=>by cases h⟩
 ·rename_i i;split
  ·rename_i a;obtain⟨e,hp⟩:=h.top.prod a;split
   ·rename_i hh;refine⟨?_,fun f hf=>⟨h.arg f (List.mem_of_mem_drop hf),(Ya.1 hl).2 f (List.mem_of_mem_drop hf)⟩⟩;rcases hp with ⟨_,_,_,_,b⟩|⟨b,d⟩
    ·exact b
    ·have:hdE y∈y.args:=pJ (by intro e;rw[e] at d;simp at d)
     exact absurd hh (b.1 _ this).1
   ·rename_i hh;refine⟨?_,fun f hf=>⟨h.arg f hf,(Ya.1 hl).2 f hf⟩⟩;rcases hp with ⟨d,_⟩|⟨b,d⟩
    ·exact absurd d hh
    ·exact b
  ·rename_i a;exact⟨Bx i a g,fun f hf=>by simp at hf;subst hf;exact⟨h,hl⟩⟩
theorem nG(hg:qs p.rest)(hn:∀f∈p.rest,NF f∧Lwe f)(hc:p.c.q≠0):∃z,reA p=[z]∧NF z∧Lwe z∧z.op≠10∧(paA z).c.q=p.c.q∧(paA z).rest=p.rest:=by
 unfold reA;rw[if_neg hc];by_cases hr:p.rest=[]
 ·rw[if_pos hr];exact⟨_,rfl,nr _,nb _,by simp[nbE,GExpr.op],by rw[qy rfl];exact nb_q _,by rw[qy r,hr]⟩
 rw[if_neg hr];by_cases d:p.c.q=1
 ·rw[if_pos d]
  match hl:p.rest,hr with
  |[a],_=>
   rw[hl] at hg hn;obtain⟨g,i⟩:=hg.1 a χ;have j:a.op≠10:=fun e=>hg.2.2 ⟨a,rfl,e⟩;obtain⟨n1,n2⟩:=hn a χ;refine⟨a,rfl,n1,n2,j,?_,?_⟩
   ·rw[qx g i,d];exact J9 1
   ·rw[qx g i]
  |a::b::l,_=>
   rw[hl] at hg hn;have hh:(hdE (opE 11 (a::b::l))).op≠1:=(hg.1 a χ).1;refine⟨opE 11 (a::b::l),rfl,.mk ⟨fun h=>by simp[opE,GExpr.op] at h,fun h=>by simp[opE,GExpr.op] at h,fun _=>⟨rfl,.inr ⟨hg,by simp[opE,GExpr.args]⟩⟩,fun h=>by simp[opE,GExpr.op] at h,fun h=>by simp[opE,GExpr.op] at h⟩ (fun x hx=>(hn x hx).1),Hr δ fun x hx=>(hn x hx).2,by simp[opE,GExpr.op],?_,?_⟩
   ·rw[nO r hh,d];exact J9 1
   ·rw[nO r hh];rfl
 ·rw[if_neg d];refine⟨_,rfl,.mk ⟨fun h=>by simp[opE,GExpr.op] at h,fun h=>by simp[opE,GExpr.op] at h,fun _=>⟨rfl,.inl ⟨rfl,?_,?_,hr,hg⟩⟩,fun h=>by simp[opE,GExpr.op] at h,fun h=>by simp[opE,GExpr.op] at h⟩ ?_,Hr δ ?_,by simp[opE,GExpr.op],?_,?_⟩
  ·show(nbE p.c.q).c.q≠0
   rw[nb_q];exact hc
  ·show(nbE p.c.q).c.q≠1
   rw[nb_q];exact d
  ·intro x hx;rcases UL.1 hx with rfl|hx
   ·exact nr _
   ·exact(hn x hx).1
  ·intro x hx;rcases UL.1 hx with rfl|hx
   ·exact nb _
   ·exact(hn x hx).2
  ·rw[nD r rfl];exact nb_q _
  ·rw[nD r rfl];rfl
theorem vB{op:Int}(h:y∈flE op l):∃a∈l,(a.op=op∧y∈a.args)∨(a.op≠op∧y=a):=by
 obtain⟨a,ha,hy⟩:=List.mem_flatMap.1 h;split at hy
 ·exact⟨a,ha,.inl ⟨‹_›,hy⟩⟩
 ·exact⟨a,ha,.inr ⟨‹_›,by simpa using hy⟩⟩
theorem CF(h:∀a∈l,NF a∧Lwe a)(hy:y∈flE 10 l):NF y∧Lwe y∧y.op≠10:=by
 obtain⟨a,ha,hh⟩:=vB hy;obtain⟨b,g⟩:=h a ha;rcases hh with ⟨d,e⟩|⟨d,rfl⟩
 ·exact⟨b.arg y e,(Ya.1 g).2 y e,((b.top.sum d).2.2.1 y e).1⟩
 ·exact⟨b,g,d⟩
theorem yM(h:∀a∈l,NF a∧Lwe a)(hx:AddR l x):NF x∧Lwe x:=by
 obtain⟨ps,hp,hs,rfl⟩:=hx;have hI:∀p∈ps,qs p.rest∧∀f∈p.rest,NF f∧Lwe f:=fun p hp'=>by
  obtain⟨y,hy,rfl⟩:=UR.1 (hp.subset hp');obtain⟨d,g,i⟩:=CF h hy;exact mN d g i
 have hJ:=qv (f:=cmpA) (ad:=adA) (I:=fun p=>qs p.rest∧∀f∈p.rest,NF f∧Lwe f) (fun p q hp _ _=>hp) ps.length ps hI;have hst:=sQ mrgA ps.length ps hs;generalize mrg cmpA adA ps.length ps=ms at hJ hst;have hout:∀z∈ms.flatMap reA,NF z∧Lwe z∧z.op≠10∧(paA z).c.q≠0:=fun z hz=>by
  obtain⟨m,hm,hz⟩:=List.mem_flatMap.1 hz;by_cases hc:m.c.q=0
  ·unfold reA at hz;rw[if_pos hc] at hz;cases hz
  ·obtain⟨z',e,d,g,i,k,_⟩:=nG (hJ m hm).1 (hJ m hm).2 hc;rw[e] at hz;obtain rfl:z=z':=by simpa using hz
   exact⟨d,g,i,by rw[k];exact hc⟩
 have hsm:=AE (pa:=paA) (re:=reA) hst fun m hm=>by
  by_cases hc:m.c.q=0
  ·exact .inl (by unfold reA;rw[if_pos hc])
  ·obtain⟨z,e,_,_,_,_,j⟩:=nG (hJ m hm).1 (hJ m hm).2 hc;exact .inr ⟨z,e,fun x y=>⟨by unfold cmpA;rw[j],by unfold cmpA;rw[j]⟩⟩
 generalize ms.flatMap reA=o at hout hsm
 match o,hout,hsm with
 |[],_,_=>exact⟨nr 0,nb 0⟩
 |[z],hout,_=>exact⟨(hout z χ).1,(hout z χ).2.1⟩
 |a::b::l,hout,hsm=>
  refine⟨.mk ⟨fun h=>by simp[sumE,sevE,opE,GExpr.op] at h,fun _=>⟨rfl,by simp[sumE,sevE,opE,GExpr.args],fun x hx=>(hout x hx).2.2,hsm⟩,fun h=>by simp[sumE,sevE,opE,GExpr.op] at h,fun h=>by simp[sumE,sevE,opE,GExpr.op] at h,fun h=>by simp[sumE,sevE,opE,GExpr.op] at h⟩ fun x hx=>(hout x hx).1,Hr δ fun x hx=>(hout x hx).2.1⟩
theorem yl{op:Int}:∀ {l:List GExpr},(∀a∈l,a.op≠op)→flE op l=l
 |[],_=>rfl
 |a::l,h=>by
  unfold flE;rw[List.flatMap_cons,if_neg (h a χ)];exact congrArg (a:: ·) (yl fun x hx=>h x R')
theorem EV(h:NF a)(w:a.op≠10)(hc:(paA a).c.q≠0):reA (paA a)=[a]:=by
 unfold reA;rw[if_neg hc];unfold paA at hc ⊢;by_cases d:a.op=1
 ·rw[if_pos d,if_pos r,←h.top.num d]
 rw[if_neg d] at hc ⊢;by_cases b:a.op=11
 ·rw[if_pos b] at hc ⊢;obtain⟨e,hp⟩:=h.top.prod b;rcases hp with ⟨k,_,p,g,m⟩|⟨m,i⟩
  ·rw[if_pos k] at hc ⊢;rw[if_neg g,if_neg p];have ha:a.args≠[]:=by intro j;rw[j] at g;exact g r
   have e2:nbE (hdE a).c.q=hdE a:=((h.arg _ (pJ ha)).top.num k).symm;rw[e2];have s:hdE a::a.args.drop 1=a.args:=by
    cases hl:a.args with
    |nil=>exact absurd hl ha
    |cons x l=>simp[hdE,hl]
   rw[s,←e]
  ·have ha:a.args≠[]:=by intro j;rw[j] at i;simp at i
   have v:=(m.1 _ (pJ ha)).1;rw[if_neg v];rw[if_neg ha,if_pos (J9 1),Al i,←e]
 ·rw[if_neg b];rw[if_neg χ,if_pos (J9 1)]
  rfl
theorem qj{re:GPart→List GExpr}{pa:GExpr→GPart}:∀ {l:List GExpr},(∀a∈l,re (pa a)=[a])→(l.map pa).flatMap re=l
 |[],_=>rfl
 |a::l,h=>by
  rw[TU,List.flatMap_cons,h a χ,qj fun x hx=>h x R'];rfl
theorem FN(h:NF a)(d:a.op=10)(hx:AddR a.args x):x=a:=by
 obtain⟨e,i,b,g⟩:=h.top.sum d;obtain⟨_,hp,hs,rfl⟩:=hx;rw[yl fun y hy=>(b y hy).1] at hp;have e1:=oR Vb hp hs g;rw[e1,vm _ _ (Tu _) g,qj fun y hy=>EV (h.arg y hy) (b y hy).1 (b y hy).2]
 match hl:a.args,i with
 |p::q::l,_=>
  rw[hl] at e;rw[e];rfl
def cfM(l:List GExpr):Rat:=(flE 11 l).foldl (fun c a=>if a.op=1 then c*a.c.q else c) 1
def prM(l:List GExpr):List GExpr:=(flE 11 l).filter fun a=> !decide (a.op=1)
def OutM(l out:List GExpr):Prop:=∃ps:List GPart,ps.Perm ((prM l).map paM)∧Srt cmpM ps∧out=(mrg cmpM adM ps.length ps).flatMap reM
inductive MulR:List GExpr→GExpr→Prop
 |num {l out:List GExpr} (h:OutM l out) (h0:cfM l=0∨out=[]):MulR l (nbE (cfM l))
 |one {l out:List GExpr} (h:OutM l out) (h0:cfM l=1) (h1:out≠[]):MulR l (sevE 11 out)
 |dist {l out:List GExpr} {s:GExpr} {xs:List GExpr} {x:GExpr} (h:OutM l out) (h0:cfM l≠0) (h1:cfM l≠1) (hs:out=[s]) (h10:s.op=10) (hl:xs.length=s.args.length) (hx:∀i,i<s.args.length→MulR [nbE (cfM l),s.args.getD i Δ] (xs.getD i Δ)) (ha:AddR xs x):MulR l x
 |prod {l out:List GExpr} (h:OutM l out) (h0:cfM l≠0) (h1:cfM l≠1) (hn:out≠[]) (hs:¬ ∃s,out=[s]∧s.op=10):MulR l (opE 11 (nbE (cfM l)::out))
def od(p:GPart):Prop:=∃b,p.rest=[b]∧NF b∧Lwe b∧b.op≠12∧b.op≠11∧(b.op=1→p.exp<0∧b.c.q=0)
theorem FI{f:GExpr}(h:NF f)(hl:Lwe f)(g:f.op≠1)(d:f.op≠11):od (paM f):=by
 unfold paM;by_cases a:f.op=12
 ·rw[if_pos a];obtain⟨_,b,e,_,_,i,j,k⟩:=h.top.pow a;have hm:b∈f.args:=by rw[e];simp[pwE,GExpr.args]
  refine⟨b,by rw[e];rfl,h.arg b hm,(Ya.1 hl).2 b hm,i,j,fun hb=>?_⟩
  rw[e];exact k hb
 ·rw[if_neg a];exact⟨f,rfl,h,hl,a,d,fun e=>absurd e g⟩
theorem EW{q:GPart}(hp:od p)(hq:od q)(h:cmpM p q=0):od (adM p q):=by
 obtain⟨b,e1,n1,l1,d,e,a⟩:=hp;obtain⟨c,e2,_,l2,_,_,g⟩:=hq;unfold cmpM at h;rw[e1,e2] at h;obtain rfl:b=c:=Ce l1 l2 h;refine⟨b,e1,n1,l1,d,e,fun hb=>⟨?_,(a hb).2⟩⟩
 have:=(a hb).1
 have:=(g hb).1
 show p.exp+q.exp<0;omega
theorem ME{n:Int}(h:Lwe b):Lwe (pwE n [b]):=by
 rw[Ya];refine⟨?_,fun _ hx=>by simp[pwE,GExpr.args] at hx;subst hx;exact h⟩;show lowC 12 Y3=Y3;unfold lowC;rw[if_neg d]
theorem IR{n:Int}(h:NF b)(a:n≠0)(d:n≠1)(e:b.op≠12)(g:b.op≠11)(i:b.op=1→n<0∧b.c.q=0):NF (pwE n [b]):=
 .mk ⟨fun h=>by simp[pwE,GExpr.op] at h,fun h=>by simp[pwE,GExpr.op] at h,fun h=>by simp[pwE,GExpr.op] at h,fun _=>⟨n,b,rfl,a,d,e,g,i⟩,fun h=>by simp[pwE,GExpr.op] at h⟩ fun _ hx=>by simp[pwE,GExpr.args] at hx;subst hx;exact h
theorem Ec(h:od p)(d:p.exp≠0):∃z,reM p=[z]∧NF z∧Lwe z∧z.op≠1∧z.op≠11∧(paM z).rest=p.rest:=by
 obtain⟨b,e1,n1,l1,g,i,j⟩:=h;unfold reM;rw[if_neg d,e1];by_cases a:p.exp=1
 ·rw[if_pos a];have k:b.op≠1:=fun e=>by have:=(j e).1;omega
  exact⟨b,rfl,n1,l1,k,i,by unfold paM;rw[if_neg g]⟩
 ·rw[if_neg a];exact⟨_,rfl,IR n1 d a g i j,ME l1,by simp[pwE,GExpr.op],by simp[pwE,GExpr.op],congrArg GPart.rest (if_pos rfl:paM (pwE p.exp [b])=_)⟩
theorem V7(h:∀a∈l,NF a∧Lwe a)(hy:y∈flE 11 l):NF y∧Lwe y∧y.op≠11:=by
 obtain⟨a,ha,hh⟩:=vB hy;obtain⟨d,i⟩:=h a ha;rcases hh with ⟨e,b⟩|⟨e,rfl⟩
 ·refine⟨d.arg y b,(Ya.1 i).2 y b,?_⟩;obtain⟨_,hp⟩:=d.top.prod e;rcases hp with ⟨m,_,_,j,g⟩|⟨g,_⟩
  ·have k:a.args≠[]:=by intro p;rw[p] at j;exact j r
   have s:hdE a::a.args.drop 1=a.args:=by
    cases hl:a.args with
    |nil=>exact absurd hl k
    |cons x l=>simp[hdE,hl]
   rw[←s] at b;rcases UL.1 b with rfl|b
   ·rw[m];decide
   ·exact(g.1 y b).2
  ·exact(g.1 y b).2
 ·exact⟨d,i,e⟩
theorem mB(h:∀a∈l,NF a∧Lwe a)(ho:OutM l out):(∀f∈out,NF f∧Lwe f∧f.op≠1∧f.op≠11)∧Stc cmpM (out.map paM):=by
 obtain⟨ps,hp,hs,rfl⟩:=ho;have hI:∀p∈ps,od p:=fun p hp'=>by
  obtain⟨y,hy,rfl⟩:=UR.1 (hp.subset hp');unfold prM at hy;rw[UN] at hy;obtain⟨b,d,g⟩:=V7 h hy.1;exact FI b d (by simpa using hy.2) g
 have hJ:=qv (f:=cmpM) (ad:=adM) (I:=od) (fun p _ hp hq he=>EW hp hq he) ps.length ps hI;have hst:=sQ mrgM ps.length ps hs;generalize mrg cmpM adM ps.length ps=ms at hJ hst;constructor
 ·intro z hz;obtain⟨m,hm,hz⟩:=List.mem_flatMap.1 hz;by_cases hc:m.exp=0
  ·unfold reM at hz;rw[if_pos hc] at hz;cases hz
  ·obtain⟨z',e,b,d,g,j,_⟩:=Ec (hJ m hm) hc;rw[e] at hz;obtain rfl:z=z':=by simpa using hz
   exact⟨b,d,g,j⟩
 ·exact AE (pa:=paM) (re:=reM) hst fun m hm=>by
   by_cases hc:m.exp=0
   ·exact .inl (by unfold reM;rw[if_pos hc])
   ·obtain⟨z,e,_,_,_,_,i⟩:=Ec (hJ m hm) hc;exact .inr ⟨z,e,fun _ y=>⟨by unfold cmpM;rw[i],by unfold cmpM;rw[i]⟩⟩
theorem Io{c:Rat}(ho:(∀f∈out,NF f∧Lwe f∧f.op≠1∧f.op≠11)∧Stc cmpM (out.map paM))(a:c≠0)(b:c≠1)(hn:out≠[])(hs:¬ ∃s,out=[s]∧s.op=10):NF (opE 11 (nbE c::out))∧Lwe (opE 11 (nbE c::out)):=by
 have hg:qs out:=⟨fun f hf=>(ho.1 f hf).2.2,ho.2,hs⟩;obtain⟨z,e,n,l,_⟩:=nG (p:=⟨ofQ c,0,out⟩) hg (fun f hf=>⟨(ho.1 f hf).1,(ho.1 f hf).2.1⟩) (by rw[J9];exact a);unfold reA at e;rw[if_neg (by rw[J9];exact a),if_neg hn,if_neg (by rw[J9];exact b),J9] at e;obtain rfl:opE 11 (nbE c::out)=z:=by simpa using e
 exact⟨n,l⟩
theorem Ly(ho:(∀f∈out,NF f∧Lwe f∧f.op≠1∧f.op≠11)∧Stc cmpM (out.map paM))(hn:out≠[]):NF (sevE 11 out)∧Lwe (sevE 11 out):=by
 match out,hn with
 |[a],_=>exact⟨(ho.1 a χ).1,(ho.1 a χ).2.1⟩
 |a::b::l,_=>
  have hg:qs (a::b::l):=⟨fun f hf=>(ho.1 f hf).2.2,ho.2,fun h=>by obtain⟨_,h,_⟩:=h;simp at h⟩;obtain⟨z,e,n,lw,_⟩:=nG (p:=⟨ofQ 1,0,a::b::l⟩) hg (fun f hf=>⟨(ho.1 f hf).1,(ho.1 f hf).2.1⟩) (by rw[J9];decide);unfold reA at e;rw[if_neg (by rw[J9];decide),if_neg χ,if_pos (J9 1)] at e;obtain rfl:sevE 11 (a::b::l)=z:=by simpa using e
  exact⟨n,lw⟩
theorem J6(h:y∈l):∃i,i<l.length∧y=l.getD i Δ:=by
 obtain⟨i,hi,e⟩:=List.getElem_of_mem h;exact⟨i,hi,by rw[Tq,Tt hi];exact e.symm⟩
theorem Ao(hx:MulR l x):(∀a∈l,NF a∧Lwe a)→NF x∧Lwe x:=by
 induction hx with
 |num h b=>intro _;exact⟨nr _,nb _⟩
 |one h b d=>intro hl;exact Ly (mB hl h) d
 |dist h b d hs e hlen hx ha ih=>
  intro hl;rename_i s xs x;have hsn:=(mB hl h).1 s (by rw[hs];simp);refine yM (fun _ hy=>?_) ha;obtain⟨i,_,rfl⟩:=J6 hy;refine ih i o fun z hz=>?_
  have hm:=Jp (l:=s.args) (i:=i) o;rcases UL.1 hz with rfl|hz
  ·exact⟨nr _,nb _⟩
  ·obtain rfl:z=_:=by simpa using hz
   exact⟨hsn.1.arg _ hm,(Ya.1 hsn.2.1).2 _ hm⟩
 |prod h b d hn hs=>intro hl;exact Io (mB hl h) b d hn hs
theorem JE{f:GExpr}(h:NF f):reM (paM f)=[f]:=by
 unfold reM paM;by_cases a:f.op=12
 ·obtain⟨n,_,e,b,d,_⟩:=h.top.pow a;rw[if_pos a];subst e
  show(if n=0 then _ else if n=1 then _ else _)=_
  rw[if_neg b,if_neg d];rfl
 ·rw[if_neg a];rfl
theorem vu{r:List GExpr}(hp:prM l=r)(hg:qs r)(hn:∀f∈r,NF f)(h:OutM l out):out=r:=by
 obtain⟨_,a,b,rfl⟩:=h;rw[hp] at a;have e1:=oR sR a b hg.2.1;rw[e1,vm _ _ (Tu _) hg.2.1,qj fun y hy=>JE (hn y hy)]
theorem xj:∀(l:List GExpr) (c:Rat),(∀f∈l,f.op≠1)→l.foldl (fun c a=>if a.op=1 then c*a.c.q else c) c=c
 |[],c,_=>rfl
 |a::l,c,h=>by
  rw[List.foldl_cons,if_neg (h a χ)];exact xj l c fun f hf=>h f (by simp[hf])
theorem qn(h:∀f∈l,f.op≠1):l.filter (fun a=> !decide (a.op=1))=l:=List.filter_eq_self.2 fun f hf=>by simp[h f hf]
theorem GN(h:NF a)(v:a.op=11)(hx:MulR a.args x):x=a:=by
 obtain⟨e,hp⟩:=h.top.prod v;have hfl:flE 11 a.args=a.args:=by
  refine yl fun y hy=>?_
  rcases hp with ⟨i,_,_,k,d⟩|⟨d,_⟩
  ·have j:hdE a::a.args.drop 1=a.args:=by
    cases hl:a.args with
    |nil=>rw[hl] at hy;cases hy
    |cons x l=>simp[hdE,hl]
   rw[←j] at hy;rcases UL.1 hy with rfl|hy
   ·rw[i];decide
   ·exact(d.1 y hy).2
  ·exact(d.1 y hy).2
 rcases hp with ⟨i,w,z,k,d⟩|⟨d,s⟩
 ·have m:a.args≠[]:=by intro A;rw[A] at k;exact k r
  have j:hdE a::a.args.drop 1=a.args:=by
   cases hl:a.args with
   |nil=>exact absurd hl m
   |cons x l=>simp[hdE,hl]
  have e2:nbE (hdE a).c.q=hdE a:=((h.arg _ (pJ m)).top.num i).symm;have hc:cfM a.args=(hdE a).c.q:=by
   unfold cfM;rw[hfl]
   conv=>lhs;rw[←j]
   rw[List.foldl_cons,if_pos i,Rat.one_mul];exact xj _ _ fun f hf=>(d.1 f hf).1
  have hpr:prM a.args=a.args.drop 1:=by
   unfold prM;rw[hfl]
   conv=>lhs;rw[←j]
   rw[List.filter_cons_of_neg WK];exact qn fun f hf=>(d.1 f hf).1
  have hout:∀ {out},OutM a.args out→out=a.args.drop 1:=fun ho=>vu hpr d (fun f hf=>h.arg f (List.mem_of_mem_drop hf)) ho;cases hx with
  |num ho b=>
   rw[hout ho,hc] at b
   exact(b.elim w k).elim
  |one ho b g=>rw[hc] at b;exact absurd b z
  |dist ho b g hs p hl hx ha=>rw[hout ho] at hs;exact absurd ⟨_,hs,p⟩ d.2.2
  |prod ho b g hn hs=>
   rw[hout ho,hc,e2,j,←e]
 ·have hnn:∀f∈a.args,f.op≠1:=fun f hf=>(d.1 f hf).1;have hc:cfM a.args=1:=by unfold cfM;rw[hfl];exact xj _ _ hnn
  have hpr:prM a.args=a.args:=by unfold prM;rw[hfl];exact qn hnn
  have hout:∀ {out},OutM a.args out→out=a.args:=fun ho=>vu hpr d (fun f hf=>h.arg f hf) ho;cases hx with
  |num ho b=>
   rw[hout ho,hc] at b;rcases b with b|b
   ·exact absurd b δ
   ·rw[b] at s;simp at s
  |one ho b g=>rw[hout ho,Al s,←e]
  |dist ho b g hs p hl hx ha=>exact absurd hc g
  |prod ho b g hn hs=>exact absurd hc g
def uq(q:Rat):Nat:=max (digs q.num.natAbs).length (digs q.den).length
inductive RaiR:GExpr→Int→Option GExpr→Prop
 |zero {a:GExpr}:RaiR a 0 (some (nbE 1))
 |one {a:GExpr}:RaiR a 1 (some a)
 |pow {a:GExpr} {n:Int} {o:Option GExpr} (h0:n≠0) (h1:n≠1) (h:a.op=12) (hr:RaiR (hdE a) (a.n.getD 0 0*n) o):RaiR a n o
 |num {a:GExpr} {n:Int} (q:Rat) (h0:n≠0) (h1:n≠1) (h:a.op=1) (hc:0<n∨a.c.q≠0) (hq:uq q≤32770) (hz:a.c.q=0→q=0):RaiR a n (some (nbE q))
 |numE {a:GExpr} {n:Int} (h0:n≠0) (h1:n≠1) (h:a.op=1) (hc:0<n∨a.c.q≠0):RaiR a n none
 |prod {a:GExpr} {n:Int} {xs:List GExpr} {x:GExpr} (h0:n≠0) (h1:n≠1) (h:a.op=11) (hl:xs.length=a.args.length) (hx:∀i,i<a.args.length→RaiR (a.args.getD i Δ) n (some (xs.getD i Δ))) (hm:MulR xs x):RaiR a n (some x)
 |prodE {a:GExpr} {n:Int} (h0:n≠0) (h1:n≠1) (h:a.op=11):RaiR a n none
 |other {a:GExpr} {n:Int} (h0:n≠0) (h1:n≠1) (h12:a.op≠12) (h11:a.op≠11) (hc:¬(a.op=1∧(0<n∨a.c.q≠0))):RaiR a n (some (pwE n [a]))
theorem u9{n:Int}{o:Option GExpr}(hr:RaiR a n o):NF a→Lwe a→∀x,o=some x→NF x∧Lwe x:=by
 induction hr with
 |zero=>intro _ _ x hx;cases hx;exact⟨nr _,nb _⟩
 |one=>intro d g x hx;cases hx;exact⟨d,g⟩
 |pow j d h hr ih=>
  intro g k;obtain⟨_,b,e,_⟩:=g.top.pow h;subst e;exact ih (g.arg b W2) ((Ya.1 k).2 b W2)
 |num q j d h hc hq hz=>intro _ _ x hx;cases hx;exact⟨nr _,nb _⟩
 |numE j d h hc=>intro _ _ x hx;cases hx
 |prod j d h hl hx hm ih=>
  intro g k _ hy;cases hy;refine Ao hm fun _ hz=>?_
  obtain⟨i,hi,rfl⟩:=J6 hz;have hm:=Jp (show i<_ from hl▸hi);exact ih i (hl▸hi) (g.arg _ hm) ((Ya.1 k).2 _ hm) _ r
 |prodE j d h=>intro _ _ x hx;cases hx
 |other j d l m hc=>
  intro g k x hx;cases hx;rename_i a n;refine⟨IR g j d l m fun h=>?_,ME k⟩;by_cases hn:0<n
  ·exact absurd ⟨h,.inl hn⟩ hc
  ·refine⟨by omega,T6 fun p=>hc ⟨h,.inr p⟩⟩
theorem BS{n:Int}{o:Option GExpr}(h:NF (pwE n [b]))(hr:RaiR b n o):o=some (pwE n [b]):=by
 obtain⟨m,c,e,k,l,p,i,s⟩:=h.top.pow r;have e1:n=m∧b=c:=by simpa[pwE] using e
 obtain⟨rfl,rfl⟩:=e1;have j:¬(b.op=1∧(0<n∨b.c.q≠0)):=fun⟨a,d⟩=>by
  obtain⟨_,v⟩:=s a;rcases d with d|d
  ·omega
  ·exact d v
 cases hr with
 |zero=>exact absurd r k
 |one=>exact absurd r l
 |pow g a h hr=>exact absurd h p
 |num q g a h hc hq hz=>exact absurd ⟨h,hc⟩ j
 |numE g a h hc=>exact absurd ⟨h,hc⟩ j
 |prod g a h hl hx hm=>exact absurd h i
 |prodE g a h=>exact absurd h i
 |other=>rfl
inductive Bd:GExpr→Prop
 |mk {a:GExpr} (t:a.op=12→ -200≤a.n.getD 0 0∧a.n.getD 0 0≤200) (h:∀x∈a.args,Bd x):Bd a
def BdR(x:GExpr)(o:Option GExpr):Prop:=(Bd x→o=some x)∧(¬Bd x→o=none)
def isVV(e a:GExpr):Prop:=e.op=13∧a.op=13∧e.n.getD 0 0*a.n.getD 0 0≤1000
def isDr(e:GExpr):Prop:=13≤e.op∧e.op≤16∧e.n.getD 0 0=1
inductive NorR:GExpr→Option GExpr→Prop
 |argE {e:GExpr} {i:Nat} (hi:i<e.args.length) (h:NorR (e.args.getD i Δ) none):NorR e none
 |num {e:GExpr} (h:e.op=1):NorR e (some (nbE e.c.q))
 |sum {e:GExpr} {xs:List GExpr} {x:GExpr} {o:Option GExpr} (h:e.op=10) (hl:xs.length=e.args.length) (hx:∀i,i<e.args.length→NorR (e.args.getD i Δ) (some (xs.getD i Δ))) (ha:AddR xs x) (hb:BdR x o):NorR e o
 |prod {e:GExpr} {xs:List GExpr} {x:GExpr} {o:Option GExpr} (h:e.op=11) (hl:xs.length=e.args.length) (hx:∀i,i<e.args.length→NorR (e.args.getD i Δ) (some (xs.getD i Δ))) (ha:MulR xs x) (hb:BdR x o):NorR e o
 |powE {e:GExpr} {xs:List GExpr} (h:e.op=12) (hl:xs.length=e.args.length) (hx:∀i,i<e.args.length→NorR (e.args.getD i Δ) (some (xs.getD i Δ))) (hr:RaiR (xs.getD 0 Δ) (e.n.getD 0 0) none):NorR e none
 |pow {e:GExpr} {xs:List GExpr} {x:GExpr} {o:Option GExpr} (h:e.op=12) (hl:xs.length=e.args.length) (hx:∀i,i<e.args.length→NorR (e.args.getD i Δ) (some (xs.getD i Δ))) (hr:RaiR (xs.getD 0 Δ) (e.n.getD 0 0) (some x)) (hb:BdR x o):NorR e o
 |drop {e:GExpr} {xs:List GExpr} (h:isDr e) (hl:xs.length=e.args.length) (hx:∀i,i<e.args.length→NorR (e.args.getD i Δ) (some (xs.getD i Δ))):NorR e (some (xs.getD 0 Δ))
 |vv {e:GExpr} {xs:List GExpr} (h:¬isDr e) (hv:isVV e (xs.getD 0 Δ)) (hl:xs.length=e.args.length) (hx:∀i,i<e.args.length→NorR (e.args.getD i Δ) (some (xs.getD i Δ))):NorR e (some (.mk 13 [e.n.getD 0 0*(xs.getD 0 Δ).n.getD 0 0] Y3 [] (xs.getD 0 Δ).args))
 |other {e:GExpr} {xs:List GExpr} (h:¬isDr e) (hv:¬isVV e (xs.getD 0 Δ)) (h1:e.op≠1) (h10:e.op≠10) (h11:e.op≠11) (h12:e.op≠12) (hl:xs.length=e.args.length) (hx:∀i,i<e.args.length→NorR (e.args.getD i Δ) (some (xs.getD i Δ))):
   NorR e (some (.mk e.op e.n Y3 e.name xs))
inductive Va:GExpr→Prop
 |mk {a:GExpr} (t1:12≤a.op→a.op≤16→a.args.length=1) (t2:a.op=13→1≤a.n.getD 0 0) (t3:a.op=10→a.args≠[]) (h:∀x∈a.args,Va x):Va a
theorem Va.arg(h:Va a):∀x∈a.args,Va x:=by cases h;assumption
theorem Va.t1(h:Va a):12≤a.op→a.op≤16→a.args.length=1:=by cases h;assumption
theorem Va.t3(h:Va a):a.op=10→a.args≠[]:=by cases h;assumption
theorem Va.t2(h:Va a):a.op=13→1≤a.n.getD 0 0:=by cases h;assumption
theorem BdR.of{o:Option GExpr}(h:BdR x o)(e:o=some y):y=x:=by
 by_cases hb:Bd x
 ·rw[h.1 hb] at e;exact(Wn e).symm
 ·rw[h.2 hb] at e;cases e
theorem FC{e:GExpr}{o:Option GExpr}(hr:NorR e o):Va e→∀x,o=some x→NF x∧Lwe x:=by
 have key:∀ {e:GExpr} {xs:List GExpr},xs.length=e.args.length→Va e→(∀i,i<e.args.length→Va (e.args.getD i Δ)→∀x,some (xs.getD i Δ)=some x→NF x∧Lwe x)→∀a∈xs,NF a∧Lwe a:=by
  intro e xs hl hv ih a ha;obtain⟨i,hi,rfl⟩:=J6 ha;exact ih i (hl▸hi) (hv.arg _ (Jp (hl▸hi))) _ r
 induction hr with
 |argE hi h ih=>intro _ x hx;cases hx
 |num h=>intro _ x hx;cases hx;exact⟨nr _,nb _⟩
 |sum h hl hx ha hb ih=>intro hv x hx;rw[hb.of hx];exact yM (key hl hv ih) ha
 |prod h hl hx ha hb ih=>intro hv x hx;rw[hb.of hx];exact Ao ha (key hl hv ih)
 |powE h hl hx hr ih=>intro hv x hx;cases hx
 |pow h hl hx hr hb ih=>
  intro hv x hx;rw[hb.of hx];have b:=hv.t1 ω ω;obtain⟨k1,k2⟩:=key hl hv ih _ (Jp (i:=0) ω);exact u9 hr k1 k2 _ r
 |drop h hl hx ih=>
  intro hv x hx;cases hx;have b:=hv.t1 (by have:=h.1;omega) h.2.1;exact key hl hv ih _ (Jp (i:=0) ω)
 |vv h hvv hl hx ih=>
  intro hv x hx;cases hx;rename_i e xs;have b:=hv.t1 (by have:=hvv.1;omega) (by have:=hvv.1;omega);obtain⟨k1,k2⟩:=key hl hv ih _ (Jp (i:=0) ω);have F:=hv.t2 hvv.1;have G:e.n.getD 0 0≠1:=fun p=>h ⟨by have:=hvv.1;omega,by have:=hvv.1;omega,p⟩;obtain⟨_,s⟩:=k1.top.op1 (by have:=hvv.2.1;omega) (by have:=hvv.2.1;omega);obtain⟨v,w⟩:=s hvv.2.1;generalize xs.getD 0 Δ=y at *;generalize e.n.getD 0 0=n at *;generalize hm:y.n.getD 0 0=m at *;have hnm:2≤n*m:=by
   have:=Int.mul_le_mul (show 2≤n by omega) v δ ω
   omega
  refine⟨.mk ⟨fun h=>by simp[GExpr.op] at h,fun h=>by simp[GExpr.op] at h,fun h=>by simp[GExpr.op] at h,fun h=>by simp[GExpr.op] at h,fun _ _=>⟨?_,fun _=>⟨?_,fun hh=>?_⟩⟩⟩ k1.arg,?_⟩
  ·show n*m≠1;omega
  ·show 1≤n*m;omega
  ·have A:=w hh;show 1000<n*m*(hdE y).n.getD 0 0;rw[Int.mul_assoc];generalize m*(hdE y).n.getD 0 0=z at A ⊢
   have:=Int.mul_le_mul_of_nonneg_right (show 1≤n by omega) (show 0≤z by omega)
   omega
  ·rw[Ya];refine⟨?_,(Ya.1 k2).2⟩;show lowC 13 Y3=Y3;unfold lowC;rw[if_neg δ]
 |other h hvv b g j l hl hx ih=>
  intro hv x hx;cases hx;rename_i e xs;have k:=key hl hv ih;refine⟨.mk ⟨fun h=>absurd h b,fun h=>absurd h g,fun h=>absurd h j,fun h=>absurd h l,fun B C=>⟨fun d=>h ⟨B,C,d⟩,fun d=>⟨hv.t2 d,fun D=>?_⟩⟩⟩ fun x hx=>(k x hx).1,?_⟩
  ·exact T6 fun E=>hvv ⟨d,D,Int.not_lt.1 E⟩
  ·rw[Ya];refine⟨?_,fun x hx=>(k x hx).2⟩;show lowC e.op Y3=Y3;unfold lowC;rw[if_neg b]
theorem Bd.arg(h:Bd a):∀x∈a.args,Bd x:=by cases h;assumption
theorem Bg{m:List GExpr}(h:l.length=m.length)(e:∀i,i<m.length→l.getD i Δ=m.getD i Δ):l=m:=by
 refine List.ext_getElem h fun i b a=>?_
 have:=e i a
 rw[Tq,Tq,Tt b,Tt a] at this;exact this
theorem HZ:∀n:Nat,∀x:GExpr,SizeOf.sizeOf x<n→NF x→Lwe x→Bd x→∀o,NorR x o→o=some x:=by
 intro n
 induction n with
 |zero=>intro x h;exact absurd h (TC _)
 |succ n ih=>
  intro x hs hn hw hb o hr;have ha:∀i,i<x.args.length→∀o,NorR (x.args.getD i Δ) o→o=some (x.args.getD i Δ):=fun i hi o ho=>by
   have hm:=Jp hi;exact ih _ (by have:=List.sizeOf_lt_of_mem hm;cases x;simp[GExpr.args] at hs this ⊢;omega) (hn.arg _ hm) ((Ya.1 hw).2 _ hm) (hb.arg _ hm) o ho
  have hxs:∀ {xs:List GExpr},xs.length=x.args.length→(∀i,i<x.args.length→NorR (x.args.getD i Δ) (some (xs.getD i Δ)))→xs=x.args:=fun hl hx=>Bg hl fun i hi=>Wn (ha i hi _ (hx i hi));cases hr with
  |argE hi h=>cases ha _ hi _ h
  |num h=>rw[←hn.top.num h]
  |sum h hl hx hA hB=>
   obtain rfl:=hxs hl hx;rw[FN hn h hA] at hB;exact hB.1 hb
  |prod h hl hx hA hB=>
   obtain rfl:=hxs hl hx;rw[GN hn h hA] at hB;exact hB.1 hb
  |powE h hl hx hR=>
   obtain rfl:=hxs hl hx;obtain⟨m,b,e,_⟩:=hn.top.pow h;subst e;cases BS hn hR
  |pow h hl hx hR hB=>
   obtain rfl:=hxs hl hx;obtain⟨m,b,e,_⟩:=hn.top.pow h;subst e;obtain rfl:=Wn (BS hn hR);exact hB.1 hb
  |drop h hl hx=>exact absurd h.2.2 (hn.top.op1 h.1 h.2.1).1
  |vv h hv hl hx=>
   obtain rfl:=hxs hl hx;have a:=hv.1
   have:=((hn.top.op1 ω ω).2 a).2 hv.2.1
   exact absurd hv.2.2 (Int.not_le.2 this)
  |other h hv a d g j hl hx=>
   obtain rfl:=hxs hl hx;have e:Y3=x.c:=by
    have:=(Ya.1 hw).1
    unfold lowC at this
    rwa [if_neg a] at this
   rw[e,GExpr.eta]
theorem EY(p q:Rat):uq (p+q)≤uq p+uq q+1:=by
 unfold uq;have hn:(p+q).num.natAbs≤p.num.natAbs*q.den+q.num.natAbs*p.den:=by
  rw[Rat.add_def];refine Tj (yz _ _ _) ?_;refine Tj (Int.natAbs_add_le _ _) ?_;rw[T8,T8];simp
 have hd:(p+q).den≤p.den*q.den:=by rw[Rat.add_def];exact yn _ _ _
 have k1:=Tj (K0 hd) (y3 _ _);generalize ha:(digs p.num.natAbs).length=a at *;generalize hb:(digs q.num.natAbs).length=b at *;generalize hc:(digs p.den).length=c at *;generalize he:(digs q.den).length=e at *;have k2:(digs (p+q).num.natAbs).length≤max a c+max b e+1:=by
  refine Za (TS hn ?_);have d:p.num.natAbs*q.den<4294967296^(max a c+max b e):=by
   rw[VX];refine Nat.mul_lt_mul'' ?_ ?_
   ·exact Ti (xv _) (by rw[ha];exact TM o o)
   ·exact Ti (xv _) (by rw[he];exact TM o o)
  have g:q.num.natAbs*p.den<4294967296^(max a c+max b e):=by
   rw[Nat.add_comm (max a c),VX];refine Nat.mul_lt_mul'' ?_ ?_
   ·exact Ti (xv _) (by rw[hb];exact TM o o)
   ·exact Ti (xv _) (by rw[hc];exact TM o o)
  rw[TF];omega
 omega
theorem E6(p q:Rat):uq (p*q)≤uq p+uq q:=by
 unfold uq;have hn:(p*q).num.natAbs≤p.num.natAbs*q.num.natAbs:=by
  rw[Rat.mul_def];refine Tj (yz _ _ _) ?_;rw[T8];exact Tu _
 have hd:(p*q).den≤p.den*q.den:=by rw[Rat.mul_def];exact yn _ _ _
 have k1:=Tj (K0 hd) (y3 _ _);have k2:=Tj (K0 hn) (y3 _ _);omega
theorem rC:uq 0=1:=d
theorem nI:uq 1=1:=d
mutual
def dgE:GExpr→Nat
 |.mk o _ c _ l=>if o=1 then uq c.q+1 else if o=11 then dgH l else dgL l
def dgL:List GExpr→Nat
 |[]=>0
 |a::l=>max (dgE a) (dgL l)
def dgH:List GExpr→Nat
 |[]=>0
 |a::l=>if a.op=1 then dgE a+dgL l else max (dgE a) (dgL l)
end
theorem Xd(a:GExpr):dgE a=if a.op=1 then uq a.c.q+1 else if a.op=11 then dgH a.args else dgL a.args:=by cases a;rw[dgE];rfl
theorem mD:∀ {l:List GExpr} {x:GExpr},x∈l→dgE x≤dgL l
 |a::l,x,h=>by
  rw[dgL];rcases UL.1 h with rfl|h
  ·omega
  ·have:=mD h;omega
theorem qC{k:Nat}:∀ {l:List GExpr},(∀x∈l,dgE x≤k)→dgL l≤k
 |[],_=>by rw[dgL];omega
 |a::l,h=>by
  rw[dgL]
  have:=h a χ
  have:=qC (l:=l) fun x hx=>h x R'
  omega
theorem GQ(h:x∈l):dgE x≤dgH l:=by
 cases l with
 |nil=>cases h
 |cons a l=>
  rw[dgH];rcases UL.1 h with rfl|h
  ·split<;>omega
  ·have:=mD h
   split<;>omega
theorem Mh(h:∀f∈l,f.op≠1):dgH l=dgL l:=by
 cases l with
 |nil=>rw[dgH,dgL]
 |cons a l=>rw[dgH,dgL,if_neg (h a χ)]
theorem xw{q:Rat}:dgE (nbE q)=uq q+1:=by rw[Xd];exact(if_pos r).trans (by rw[nb_q])
theorem uw{op:Int}(a:op≠1)(b:op≠11):dgE (opE op l)=dgL l:=by rw[Xd];exact(if_neg a).trans (if_neg b)
theorem xZ:dgE (opE 11 l)=dgH l:=by rw[Xd];rfl
theorem wA{op:Int}(d:op≠1)(h:∀f∈l,f.op≠1):dgE (sevE op l)=dgL l:=by
 have hop:dgE (opE op l)=dgL l:=by
  by_cases b:op=11
  ·subst b;rw[xZ,Mh h]
  ·exact uw d b
 match l,hop with
 |[],hop=>exact hop
 |[a],_=>rw[dgL,dgL];show dgE a=_;omega
 |_::_::_,hop=>exact hop
theorem GZ:dgE (sevE 10 l)=dgL l:=by
 match l with
 |[]=>exact uw d d
 |[a]=>rw[dgL,dgL];show dgE a=_;omega
 |_::_::_=>exact uw d d
theorem Vc(b:a.op≠1)(h:x∈a.args):dgE x≤dgE a:=by
 rw[Xd a,if_neg b];split
 ·exact GQ h
 ·exact mD h
inductive Wd:Nat→GExpr→Prop
 |mk {k:Nat} {a:GExpr} (l:a.args.length≤k) (ln:a.n.length≤1000) (ls:a.name.length≤1000) (lv:a.op=13→0<a.n.length∧1≤a.n.getD 0 0∧a.n.getD 0 0≤1000) (h:∀x∈a.args,Wd k x):Wd k a
theorem Wd.lv{k:Nat}(h:Wd k a):a.op=13→0<a.n.length∧1≤a.n.getD 0 0∧a.n.getD 0 0≤1000:=by cases h;assumption
theorem Wd.nm{k:Nat}(h:Wd k a):a.name.length≤1000:=by cases h;assumption
theorem Wd.nl{k:Nat}(h:Wd k a):a.n.length≤1000:=by cases h;assumption
theorem Wd.len{k:Nat}(h:Wd k a):a.args.length≤k:=by cases h;assumption
theorem Wd.arg{k:Nat}(h:Wd k a):∀x∈a.args,Wd k x:=by cases h;assumption
theorem Wd.up{k m:Nat}(h:Wd k a)(hkm:k≤m):Wd m a:=by
 induction h with
 |mk l ln ls lv h ih=>exact .mk o ln ls lv ih
theorem vg{k:Nat}{q:Rat}:Wd k (nbE q):= .mk (Tv _) (Tv _) (Tv _) (fun e=>by simp[nbE,GExpr.op] at e) fun _ hx=>by simp[nbE,GExpr.args] at hx
theorem Aw{k:Nat}{op:Int}(hl:l.length≤k)(h:∀x∈l,Wd k x)(a:op≠13:=by decide):Wd k (opE op l):= .mk hl (Tv _) (Tv _) (fun e=>absurd e a) h
theorem zL{k:Nat}{op:Int}(hl:l.length≤k)(h:∀x∈l,Wd k x)(b:op≠13:=by decide):Wd k (sevE op l):=by
 match l,hl,h with
 |[],hl,h=>exact Aw hl h b
 |[a],_,h=>exact h a χ
 |_::_::_,hl,h=>exact Aw hl h b
def sumN{α:Type}(w:α→Nat):List α→Nat
 |[]=>0
 |a::l=>w a+sumN w l
theorem oL{α:Type}(w:α→Nat):∀l m:List α,sumN w (l++m)=sumN w l+sumN w m
 |[],m=>by simp[sumN]
 |a::l,m=>by rw[Un,sumN,sumN,oL w l m];omega
theorem qJ{α:Type}(w:α→Nat){l m:List α}(h:l.Perm m):sumN w l=sumN w m:=by
 induction h with
 |nil=>rfl
 |cons a _ ih=>rw[sumN,sumN,ih]
 |swap a b l=>simp only[sumN];omega
 |trans _ _ d e=>exact d.trans e
theorem Bq{α:Type}{w v:α→Nat}:∀ {l:List α},(∀a∈l,w a≤v a)→sumN w l≤sumN v l
 |[],_=>Tu _
 |a::l,h=>by
  rw[sumN,sumN]
  have:=h a χ
  have:=Bq (w:=w) (v:=v) (l:=l) fun x hx=>h x R'
  omega
theorem oe{α:Type}(w:α→Nat){l m:List α}(h:l.Sublist m):sumN w l≤sumN w m:=by
 induction h with
 |slnil=>exact Tu _
 |cons a _ ih=>rw[sumN];omega
 |cons_cons a _ ih=>rw[sumN,sumN];omega
def wgA(q:GPart):Nat:=uq q.c.q+1+dgL q.rest
def wtA(p:GPart)(q:GPart):Nat:=if cmpA p q=0 then wgA q else 0
theorem Bb{p:GPart}{K:Nat}:∀ {l:List GPart},Stc cmpA l→(∀q∈l,wgA q≤K)→sumN (wtA p) l≤K
 |[],_,_=>by rw[sumN];omega
 |q::l,hs,hk=>by
  have hs':=List.pairwise_cons.1 hs;rw[sumN];by_cases e:cmpA p q=0
  ·have:sumN (wtA p) l≤sumN (fun _=>0) l:=Bq fun x hx=>by
    unfold wtA;rw[if_neg]
    ·exact Tu _
    ·intro _;have i:=hs'.1 x hx;have b:=Vb.anti p x;have d:=Vb.anti p q;unfold Anti at b d
     have:=Vb.tri x p q o o
     have:=Vb.anti x q
     unfold Anti at this;omega
   have g:∀l:List GPart,sumN (fun _=>0) l=0:=fun l=>by
    induction l with
    |nil=>rfl
    |cons a l ih=>rw[sumN,ih]
   rw[g] at this
   have:=hk q χ
   have h:wtA p q=wgA q:=if_pos e;omega
  ·have:=Bb (p:=p) hs'.2 fun x hx=>hk x R'
   have h:wtA p q=0:=if_neg e;omega
theorem xJ:∀(l:List GPart) (p:GPart),wgA (absb cmpA adA p l).1≤wgA p+sumN (wtA p) l
 |[],p=>by rw[sumN];exact Tu _
 |q::l,p=>by
  unfold absb;split
  ·rename_i a;have b:=xJ l (adA p q);have d:uq (adA p q).c.q≤uq p.c.q+uq q.c.q+1:=by
    show uq (ofQ (p.c.q+q.c.q)).q≤_;rw[J9];exact EY _ _
   have e:sumN (wtA (adA p q)) l=sumN (wtA p) l:=rfl;have g:wtA p q=wgA q:=if_pos a;have h:wgA (adA p q)=uq (adA p q).c.q+1+dgL p.rest:=rfl;rw[sumN];unfold wgA at *;omega
  ·rw[sumN];show wgA p≤_;omega
theorem ED:∀(n:Nat) (l:List GPart),∀y∈mrg cmpA adA n l,∃p∈l,wgA y≤sumN (wtA p) l
 |0,l,y,h=>by simp[mrg] at h
 |n+1,[],y,h=>by simp[mrg] at h
 |n+1,p::l,y,h=>by
  rw[mrg] at h;rcases UL.1 h with rfl|h
  ·refine⟨p,by simp,?_⟩;have a:=xJ l p;have b:wtA p p=wgA p:=if_pos (by
    have:=Vb.anti p p
    unfold Anti at this;omega)
   rw[sumN];omega
  ·obtain⟨q,hq,hk⟩:=ED n _ y h;have hsub:=Q5 (f:=cmpA) (ad:=adA) l p;refine⟨q,by simp[hsub.subset hq],Tj hk (oe _ (hsub.cons p))⟩
theorem rT{α:Type}{f:α→α→Int}{ad:α→α→α}:∀(n:Nat) (l:List α),(mrg f ad n l).length≤l.length
 |0,l=>Tv _
 |n+1,[]=>Tv _
 |n+1,p::l=>by
  rw[mrg,Td,Td]
  have:=rT (f:=f) (ad:=ad) n (absb f ad p l).2
  have:=(Q5 (f:=f) (ad:=ad) l p).length_le
  omega
theorem Z4(h:a∈[b]):a=b:=by simpa using h
theorem CY(h:a.args≠[]):hdE a::a.args.drop 1=a.args:=by
 cases hl:a.args with
 |nil=>exact absurd hl h
 |cons x l=>simp[hdE,hl]
theorem oW:dgL [a]=dgE a:=by rw[dgL,dgL];omega
theorem GL(h:NF t):wgA (paA t)≤dgE t+2:=by
 unfold wgA;by_cases b:t.op=1
 ·rw[qy b,Xd t,if_pos b,dgL];show uq t.c.q+1+0≤_;omega
 by_cases a:t.op=11
 ·have hn:t.args≠[]:=by
   obtain⟨_,hp⟩:=h.top.prod a;rcases hp with ⟨_,_,_,g,_⟩|⟨_,i⟩
   ·intro d;rw[d] at g;exact g r
   ·intro d;rw[d] at i;simp at i
  by_cases hh:(hdE t).op=1
  ·rw[nD a hh,Xd t,if_neg b,if_pos a];have e:=CY hn;rw[←e,dgH,if_pos hh,Xd (hdE t),if_pos hh,e];show uq (hdE t).c.q+1+dgL (t.args.drop 1)≤_;omega
  ·rw[nO a hh,Xd t,if_neg b,if_pos a];show uq (ofQ 1).q+1+dgL t.args≤_;rw[J9,nI];have e:=CY hn;rw[←e,dgH,dgL,if_neg hh];omega
 ·rw[qx b a];show uq (ofQ 1).q+1+dgL [t]≤_;rw[J9,nI,oW];omega
abbrev tlE(op:Int)(a:GExpr):List GExpr:=if a.op=op then a.args else [a]
theorem Pw{op:Int}(hop:op≠1)(h:t∈tlE op a):dgE t≤dgE a:=by
 unfold tlE at h;split at h
 ·rename_i e;exact Vc (by rw[e];exact hop) h
 ·rw[Z4 h];exact Tu _
theorem xC{p:GPart}:∀ {l:List GExpr},(∀a∈l,NF a)→sumN (wtA p) ((flE 10 l).map paA)≤sumN (fun a=>dgE a+2) l
 |[],_=>Tu _
 |a::l,h=>by
  have ih:=xC (p:=p) (l:=l) fun x hx=>h x R';have e:flE 10 (a::l)=tlE 10 a++flE 10 l:=by unfold flE;rw[List.flatMap_cons]
  rw[e,UK,oL,sumN];have hn:=h a χ;have d:sumN (wtA p) ((tlE 10 a).map paA)≤dgE a+2:=by
   have ht:∀t∈tlE 10 a,NF t:=fun t ht=>by
    unfold tlE at ht;split at ht
    ·exact hn.arg t ht
    ·rw[Z4 ht];exact hn
   refine Bb ?_ fun _ hq=>?_
   ·unfold tlE;split
    ·rename_i e;exact(hn.top.sum e).2.2.2
    ·exact List.pairwise_singleton _ _
   ·obtain⟨t,b,rfl⟩:=UR.1 hq
    have:=GL (ht t b)
    have:=Pw δ b
    omega
  omega
theorem Fs(hg:qs p.rest){z:GExpr}(h:z∈reA p):dgE z≤wgA p:=by
 unfold reA at h;have hn:∀f∈p.rest,f.op≠1:=fun f hf=>(hg.1 f hf).1;unfold wgA;split at h
 ·cases h
 ·split at h
  ·rw[Z4 h,xw];omega
  ·split at h
   ·rw[Z4 h,wA d hn];omega
   ·rw[Z4 h,xZ,dgH,if_pos (show(nbE p.c.q).op=1 from rfl),xw];exact Tu _
theorem MS(h:∀a∈l,NF a∧Lwe a)(hl:l≠[])(hx:AddR l x):dgE x≤sumN (fun a=>dgE a+2) l:=by
 obtain⟨ps,hp,_,rfl⟩:=hx;have hI:∀p∈ps,qs p.rest:=fun p hp'=>by
  obtain⟨_,hy,rfl⟩:=UR.1 (hp.subset hp');obtain⟨e,b,d⟩:=CF h hy
  exact(mN e b d).1
 have hJ:=qv (f:=cmpA) (ad:=adA) (I:=fun p=>qs p.rest) (fun p _ hp _ _=>hp) ps.length ps hI;have hw:=ED ps.length ps;generalize mrg cmpA adA ps.length ps=ms at hJ hw;have ho:∀z∈ms.flatMap reA,dgE z≤sumN (fun a=>dgE a+2) l:=fun z hz=>by
  obtain⟨m,hm,hz⟩:=List.mem_flatMap.1 hz;obtain⟨p,_,b⟩:=hw m hm;have d:=Fs (hJ m hm) hz;have g:=xC (p:=p) fun a ha=>(h a ha).1;rw[qJ _ hp] at b;omega
 have b:2≤sumN (fun a=>dgE a+2) l:=by
  cases l with
  |nil=>exact absurd ϱ hl
  |cons a l=>rw[sumN];omega
 generalize ms.flatMap reA=o at ho
 match o,ho with
 |[],_=>show dgE (nbE 0)≤_;rw[xw,rC];exact b
 |a::r,ho=>
  show dgE (sevE 10 (a::r))≤_;rw[GZ];exact qC ho
def wN(a:GExpr):Nat:=if a.op=1 then uq a.c.q+1 else 0
theorem Cb:∀(l:List GExpr) (c:Rat),uq (l.foldl (fun c a=>if a.op=1 then c*a.c.q else c) c)≤uq c+sumN wN l
 |[],c=>by rw[sumN];exact Tu _
 |a::l,c=>by
  rw[List.foldl_cons,sumN];by_cases h:a.op=1
  ·rw[if_pos h]
   have:=Cb l (c*a.c.q)
   have:=E6 c a.c.q
   have e:wN a=uq a.c.q+1:=if_pos h;omega
  ·rw[if_neg h]
   have:=Cb l c
   omega
abbrev nnE(l:List GExpr):Nat:=sumN wN (flE 11 l)
theorem DT(l:List GExpr):uq (cfM l)≤1+nnE l:=by
 have:=Cb (flE 11 l) 1
 rw[nI] at this;exact this
theorem t7{n:Int}:dgE (pwE n [b])=dgE b:=by
 rw[Xd]
 refine(if_neg (show ¬(12:Int)=1 by decide)).trans ((if_neg (show ¬(12:Int)=11 by decide)).trans ?_)
 exact oW
theorem HA{k:Nat}{n:Int}(hk:1≤k)(h:Wd k b):Wd k (pwE n [b]):= .mk hk (by show 1≤1000;decide) (Tv _) (fun e=>by simp[pwE,GExpr.op] at e) fun _ hx=>by rw[Z4 hx];exact h
theorem uu{c:Rat}(h:NF t)(hl:Lwe t):cfM [nbE c,t]=c*(paA t).c.q∧prM [nbE c,t]=(paA t).rest:=by
 have e1:flE 11 [nbE c,t]=nbE c::tlE 11 t:=by
  unfold flE;rw[List.flatMap_cons,List.flatMap_cons,List.flatMap_nil,TT];rfl
 have e2:cfM [nbE c,t]=(tlE 11 t).foldl (fun c a=>if a.op=1 then c*a.c.q else c) c:=by
  unfold cfM;rw[e1,List.foldl_cons,if_pos (show(nbE c).op=1 from rfl),nb_q,Rat.one_mul]
 have m:prM [nbE c,t]=(tlE 11 t).filter fun a=> !decide (a.op=1):=by
  unfold prM;rw[e1,List.filter_cons_of_neg (by simp[nbE,GExpr.op])]
 rw[e2,m];unfold tlE;by_cases b:t.op=11
 ·rw[if_pos b];obtain⟨_,hp⟩:=h.top.prod b;rcases hp with ⟨i,_,_,k,d⟩|⟨d,l⟩
  ·have hn:t.args≠[]:=by intro j;rw[j] at k;exact k r
   have e:=CY hn;rw[nD b i];constructor
   ·conv=>lhs;rw[←e]
    rw[List.foldl_cons,if_pos i];exact xj _ _ fun f hf=>(d.1 f hf).1
   ·conv=>lhs;rw[←e]
    rw[List.filter_cons_of_neg WK];exact qn fun f hf=>(d.1 f hf).1
  ·have hn:t.args≠[]:=by intro j;rw[j] at l;simp at l
   rw[nO b (d.1 _ (pJ hn)).1];refine⟨?_,qn fun f hf=>(d.1 f hf).1⟩;rw[xj _ _ fun f hf=>(d.1 f hf).1];show c=c*(ofQ 1).q;rw[J9,Rat.mul_one]
 ·rw[if_neg b];by_cases g:t.op=1
  ·rw[qy g];refine⟨?_,?_⟩
   ·rw[List.foldl_cons,if_pos g,List.foldl_nil]
   ·rw[List.filter_cons_of_neg (by rw[decide_eq_true g];decide),List.filter_nil]
  ·rw[qx g b];refine⟨?_,qn fun f hf=>by rw[Z4 hf];exact g⟩;rw[xj _ _ fun f hf=>by rw[Z4 hf];exact g];show c=c*(ofQ 1).q;rw[J9,Rat.mul_one]
theorem EU{c:Rat}(h:NF t)(hl:Lwe t)(d:t.op≠10)(hc:c≠0)(ht:(paA t).c.q≠0)(hy:MulR [nbE c,t] y):reA ⟨ofQ (c*(paA t).c.q),0,(paA t).rest⟩=[y]:=by
 obtain⟨e1,e2⟩:=uu (c:=c) h hl;obtain⟨g,i⟩:=mN h hl d;have hcc:c*(paA t).c.q≠0:=fun e=>by rcases Rat.mul_eq_zero.1 e with e|e<;>contradiction
 have hout:∀ {out},OutM [nbE c,t] out→out=(paA t).rest:=fun ho=>vu e2 g (fun f hf=>(i f hf).1) ho;unfold reA
 show(if(ofQ (c*(paA t).c.q)).q=0 then _ else if(paA t).rest=[] then [nbE (ofQ (c*(paA t).c.q)).q] else if(ofQ (c*(paA t).c.q)).q=1 then [sevE 11 (paA t).rest] else [opE 11 (nbE (ofQ (c*(paA t).c.q)).q::(paA t).rest)])=[y]
 rw[J9,if_neg hcc];cases hy with
 |num ho a=>
  rw[e1,hout ho] at a;rcases a with a|a
  ·exact absurd a hcc
  ·rw[if_pos a,e1]
 |one ho a b=>
  rw[e1] at a;rw[hout ho] at b;rw[if_neg b,if_pos a,hout ho]
 |dist ho a b hs d hl hx ha=>rw[hout ho] at hs;exact absurd ⟨_,hs,d⟩ g.2.2
 |prod ho a b hn hs=>
  rw[e1] at b;rw[hout ho] at hn;rw[if_neg hn,if_neg b,hout ho,e1]
theorem AD {c:Rat} {s:GExpr} {xs:List GExpr} (h:NF s) (hl:Lwe s) (v:s.op=10) (hc:c≠0) (hlen:xs.length=s.args.length)
  (hx:∀i,i<s.args.length→MulR [nbE c,s.args.getD i Δ] (xs.getD i Δ)) (ha:AddR xs x):
  x=opE 10 xs∧∀i,i<s.args.length→reA ⟨ofQ (c*(paA (s.args.getD i Δ)).c.q),0,(paA (s.args.getD i Δ)).rest⟩=[xs.getD i Δ]:=by
 obtain⟨e,d,g,B⟩:=h.top.sum v;have hr:∀i,i<s.args.length→reA ⟨ofQ (c*(paA (s.args.getD i Δ)).c.q),0,(paA (s.args.getD i Δ)).rest⟩=[xs.getD i Δ]:=fun i hi=>by
  have hm:=Jp hi;exact EU (h.arg _ hm) ((Ya.1 hl).2 _ hm) (g _ hm).1 hc (g _ hm).2 (hx i hi)
 refine⟨?_,hr⟩;have hk:∀i,i<s.args.length→NF (xs.getD i Δ)∧(xs.getD i Δ).op≠10∧(paA (xs.getD i Δ)).c.q≠0∧(paA (xs.getD i Δ)).rest=(paA (s.args.getD i Δ)).rest:=fun i hi=>by
  have hm:=Jp hi;obtain⟨C,D⟩:=mN (h.arg _ hm) ((Ya.1 hl).2 _ hm) (g _ hm).1;have hcc:c*(paA (s.args.getD i Δ)).c.q≠0:=fun e=>by
   rcases Rat.mul_eq_zero.1 e with e|e
   ·exact hc e
   ·exact(g _ hm).2 e
  obtain⟨z,e1,k1,k2,k,E,F⟩:=nG (p:=⟨ofQ (c*(paA (s.args.getD i Δ)).c.q),0,(paA (s.args.getD i Δ)).rest⟩) C D (by rw[J9];exact hcc);rw[hr i hi] at e1;obtain rfl:xs.getD i Δ=z:=by simpa using e1
  refine⟨k1,k,?_,F⟩;rw[E]
  show(ofQ (c*(paA (s.args.getD i Δ)).c.q)).q≠0
  rw[J9];exact hcc
 have hmem:∀y∈xs,NF y∧y.op≠10∧(paA y).c.q≠0:=fun y hy=>by
  obtain⟨i,hi,rfl⟩:=J6 hy;obtain⟨k1,k2,k,_⟩:=hk i (hlen▸hi);exact⟨k1,k2,k⟩
 have hst:Stc cmpA (xs.map paA):=by
  refine List.pairwise_iff_getElem.2 fun i j hi hj hij=>?_
  rw[UG] at hi hj;have m:=List.pairwise_iff_getElem.1 B i j W9 W9 hij;rw[List.getElem_map,List.getElem_map] at m ⊢;have w:=(hk i o).2.2.2;have A:=(hk j o).2.2.2;have ge:∀ {l:List GExpr} {i:Nat} (hi:i<l.length),l.getD i Δ=l[i]:=fun {l i} hi=>by rw[Tq,Tt hi];rfl
  rw[ge hi,ge o] at w;rw[ge hj,ge o] at A;unfold cmpA at m ⊢;rw[w,A];exact m
 obtain⟨_,hp,hs,rfl⟩:=ha;rw[yl fun y hy=>(hmem y hy).2.1] at hp;have e1:=oR Vb hp hs hst;rw[e1,vm _ _ (Tu _) hst,qj fun y hy=>EV (hmem y hy).1 (hmem y hy).2.1 (hmem y hy).2.2]
 match xs,hlen with
 |a::b::r,_=>rfl
 |[],hlen=>rw[←hlen] at d;simp at d
 |[a],hlen=>rw[←hlen] at d;simp at d
end Go.Wf
