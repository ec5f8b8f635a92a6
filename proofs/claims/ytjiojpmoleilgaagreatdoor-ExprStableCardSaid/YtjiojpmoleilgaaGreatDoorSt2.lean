/- Part 2. -/
import Derived.Test.YtjiojpmoleilgaaGreatDoorSt1
set_option linter.unusedVariables false
set_option linter.unusedSimpArgs false
set_option maxRecDepth 100000
set_option maxHeartbeats 4000000
noncomputable section
namespace Go.Wf
open Go
variable{R:Nat×Bool}{j m v z:Nat}{l:List GExpr}
theorem o6(n d:Int):(Rat.divInt n d).num.natAbs≤n.natAbs:=by
 rw[Rat.num_divInt];refine Tj (Int.natAbs_ediv_le_natAbs _ _) ?_;rw[T8]
 have:d.sign.natAbs≤1:=by
  rcases Int.lt_trichotomy d 0 with h|h|h
  ·rw[Uh h];decide
  ·rw[h];decide
  ·rw[Ui h];decide
 calc d.sign.natAbs*n.natAbs≤1*n.natAbs:=VQ _ this
  _=n.natAbs:=Nat.one_mul _
theorem oV(n d:Int):(Rat.divInt n d).den≤max 1 d.natAbs:=by
 rw[Rat.den_divInt];split
 ·exact Nat.le_max_left _ _
 ·exact Tj (VA _ _) (Nat.le_max_right _ _)
theorem zf:(digs 1).length=1:=by rw[oO d d];rfl
theorem Qv(n d:Int):(ofQ (Rat.divInt n d)).num.mag.length≤(ofZ n).mag.length:=u6 (o6 n d)
theorem Ql(n d:Int):(ofQ (Rat.divInt n d)).den.mag.length≤(ofZ d).mag.length+1:=by
 have h:=oV n d
 show(digs _).length≤(digs d.natAbs).length+1
 have e:((Rat.divInt n d).den:Int).natAbs=(Rat.divInt n d).den:=by simp
 rw[e];refine Tj (K0 h) ?_;rcases Nat.le_total 1 d.natAbs with a|a
 ·rw[Nat.max_eq_right a];omega
 ·rw[Nat.max_eq_left a,zf];omega
theorem Xp{a:GRat}(sn:Jr a.num.mag):(ofQ a.q).num.mag.length≤a.num.mag.length:=Tj (Qv _ _) (Z1 sn)
theorem Xs{a:GRat}(sd:Jr a.den.mag):(ofQ a.q).den.mag.length≤a.den.mag.length+1:=by
 have b:=Ql a.num.toZ a.den.toZ;have d:=Z1 sd;unfold GRat.q;omega
theorem Vw(q:Rat):(ofQ (-q)).num.mag=(ofQ q).num.mag:=by
 show(ofZ (-q).num).mag=(ofZ q.num).mag
 rw[Rat.neg_num,Xe]
theorem yo(q:Rat):(ofQ (-q)).den.mag=(ofQ q).den.mag:=by
 show(ofZ ((-q).den:Int)).mag=(ofZ (q.den:Int)).mag
 rw[Rat.neg_den]
theorem yz(n:Int)(d:Nat)(h:d≠0):(Rat.normalize n d h).num.natAbs≤n.natAbs:=by
 rw[Rat.normalize_eq];exact Int.natAbs_ediv_le_natAbs _ _
theorem yn(n:Int)(d:Nat)(h:d≠0):(Rat.normalize n d h).den≤d:=by
 rw[Rat.normalize_eq];exact VA _ _
theorem xv(v:Nat):v<4294967296^(digs v).length:=Vv v
theorem y3(x y:Nat):(digs (x*y)).length≤(digs x).length+(digs y).length:=by
 refine Za ?_;rw[VX];exact Nat.mul_lt_mul'' (xv x) (xv y)
theorem vG(x y:Nat):(digs (x+y)).length≤(digs x).length+(digs y).length+1:=by
 refine Za ?_;have a:=xv x;have b:=xv y;have d:4294967296^(digs x).length≤4294967296^((digs x).length+(digs y).length):=TM o o;have e:4294967296^(digs y).length≤4294967296^((digs x).length+(digs y).length):=TM o o;rw[TF];omega
theorem rO(p q:Rat):(ofQ (p+q)).num.mag.length≤(ofQ p).num.mag.length+(ofQ q).den.mag.length+(ofQ q).num.mag.length+(ofQ p).den.mag.length+1:=by
 show(digs (p+q).num.natAbs).length≤(digs p.num.natAbs).length+(digs ((q.den:Int)).natAbs).length+(digs q.num.natAbs).length+(digs ((p.den:Int)).natAbs).length+1
 have h:(p+q).num.natAbs≤p.num.natAbs*q.den+q.num.natAbs*p.den:=by
  rw[Rat.add_def];refine Tj (yz _ _ _) ?_;refine Tj (Int.natAbs_add_le _ _) ?_;rw[T8,T8];simp
 refine Tj (K0 h) ?_;have a:=vG (p.num.natAbs*q.den) (q.num.natAbs*p.den);have b:=y3 p.num.natAbs q.den;have d:=y3 q.num.natAbs p.den;simp only[Int.natAbs_natCast];omega
theorem sT(p q:Rat):(ofQ (p+q)).den.mag.length≤(ofQ p).den.mag.length+(ofQ q).den.mag.length:=by
 show(digs (((p+q).den:Int)).natAbs).length≤(digs ((p.den:Int)).natAbs).length+(digs ((q.den:Int)).natAbs).length
 simp only[Int.natAbs_natCast];have h:(p+q).den≤p.den*q.den:=by rw[Rat.add_def];exact yn _ _ _
 exact Tj (K0 h) (y3 _ _)
theorem Qk{x y:Int}:(ofZ (x*y)).mag.length≤(ofZ x).mag.length+(ofZ y).mag.length:=by
 show(digs (x*y).natAbs).length≤(digs x.natAbs).length+(digs y.natAbs).length
 rw[T8];exact y3 _ _
theorem BU{x y:Int}:(ofZ (x+y)).mag.length≤(ofZ x).mag.length+(ofZ y).mag.length+1:=by
 show(digs (x+y).natAbs).length≤(digs x.natAbs).length+(digs y.natAbs).length+1
 exact Tj (K0 (Int.natAbs_add_le _ _)) (vG _ _)
theorem Hp(z:Int): -1≤z.sign∧z.sign≤1:=by
 rcases Int.lt_trichotomy z 0 with h|h|h
 ·rw[Uh h];omega
 ·rw[h];simp
 ·rw[Ui h];omega
theorem sL(x y:Int): -9223372036854775808≤x.sign*y.sign∧x.sign*y.sign≤9223372036854775807:=by
 rw[←Int.sign_mul]
 have:=Hp (x*y)
 omega
theorem IQ{a b:GRat}(h:a.den.toZ.sign=0):ofQ b.q=ofQ (a.q+b.q):=by
 rw[nS (Uj.1 h),Rat.zero_add]
theorem I4{a b:GRat}(h:b.den.toZ.sign=0):ofQ a.q=ofQ (a.q+b.q):=by
 rw[nS (a:=b) (Uj.1 h),Rat.add_zero]
theorem IO{a b:GRat}(ha:a.den=ofZ 1)(hb:b.den=ofZ 1):(⟨ofZ (a.num.toZ+b.num.toZ),ofZ 1⟩:GRat)=ofQ (a.q+b.q):=by
 have ea:a.den.toZ=1:=by rw[ha,Jo]
 have eb:b.den.toZ=1:=by rw[hb,Jo]
 rw[MA o o,ea,eb,Int.mul_one,Int.mul_one,Int.mul_one];exact Vy r
theorem vE{a b:GRat}(ha:¬a.den.toZ.sign=0)(hb:¬b.den.toZ.sign=0):ofQ (Rat.divInt (a.num.toZ*b.den.toZ+b.num.toZ*a.den.toZ) (a.den.toZ*b.den.toZ))=ofQ (a.q+b.q):=by
 rw[MA (fun e=>ha (Uj.2 e)) (fun e=>hb (Uj.2 e))]
theorem Dl{d:List Nat}(hd:trim d=d)(sd:Jr d)(hne:d.length≠0):blen (val d)=32*(d.length-1)+blen (d.getD (d.length-1) 0):=by
 have hne':d≠[]:=fun e=>hne P';have ht:=s5 hd sd hne';have a:=Jv d (d.length-1);rw[show d.length-1+1=d.length by omega,U1] at a;have b:=Vz (k:=d.length-1) sd o;have hb:=yf (d.getD (d.length-1) 0);have hg:=Af ht;have hp:=oY ht;generalize d.getD (d.length-1) 0=t at *;generalize val (d.take (d.length-1))=l at *;have e:(4294967296:Nat)^(d.length-1)=2^(32*(d.length-1)):=by rw[Nat.pow_mul]
 rw[e] at b a;rw[a];have hP:=We (32*(d.length-1));generalize 32*(d.length-1)=k at *;refine pV ?_ ?_ ?_
 ·have:=VT hP ht;omega
 ·rw[VX]
  have:=TP (2^k) (show t+1≤2^blen t by omega)
  rw[TH] at this;omega
 ·rw[VX];have e2:2^blen t=2^(blen t-1)*2:=by rw[←TF];congr 1;omega
  have:=TP (2^k) hg
  rw[e2,←TO];omega
theorem pj{a:List Nat}(sa:Jr a):blen (val a)≤32*a.length:=by
 have h:=Yk a sa;have e:(4294967296:Nat)^a.length=2^(32*a.length):=by rw[Nat.pow_mul]
 rw[e] at h;exact xf h
theorem E1{a b:Int}(h:a<b):(-1:Int)=cmpI a b:=by unfold cmpI;rw[if_pos h]
theorem EH{a b:Int}(h:¬a<b)(e:b<a):(1:Int)=cmpI a b:=by unfold cmpI;rw[if_neg h,if_neg o]
theorem Mf{a b:Int}(h:¬a<b)(e:¬b<a):(0:Int)=cmpI a b:=by unfold cmpI;rw[if_neg h,if_pos o]
theorem oS{a b:Int}(h:a=b):cmpI a b=0:=by unfold cmpI;rw[if_neg o,if_pos h]
theorem wJ{a b:Int}(h:cmpI a b=0):a=b:=by unfold cmpI at h;split at h<;>(try split at h)<;>omega
section
variable {α:Type} {f:α→α→Int} {a b:List α} {d:α} {i:Nat}
theorem pD(ha:i<a.length)(hb:i<b.length):cmpL f (a.drop i) (b.drop i)=ocmp (f (a.getD i d) (b.getD i d)) (cmpL f (a.drop (i+1)) (b.drop (i+1))):=by
 rw[Uu ha,Uu hb,cmpL];rw[Tq,Tq,Tt ha,Tt hb];rfl
theorem pS(hv:cmpL f a b=cmpL f (a.drop i) (b.drop i))(ha:i<a.length)(hb:i<b.length)(h:f (a.getD i d) (b.getD i d)=0):cmpL f a b=cmpL f (a.drop (i+1)) (b.drop (i+1)):=by
 rw[hv,pD (d:=d) ha hb,h,ocmp,if_pos rfl]
theorem qY(hv:cmpL f a b=cmpL f (a.drop i) (b.drop i))(ha:i<a.length)(hb:i<b.length)(h:¬f (a.getD i d) (b.getD i d)=0):f (a.getD i d) (b.getD i d)=cmpL f a b:=by
 rw[hv,pD (d:=d) ha hb,ocmp,if_neg h]
theorem BT(hv:cmpL f a b=cmpL f (a.drop i) (b.drop i))(ha:a.length≤i)(hb:i<b.length):(-1:Int)=cmpL f a b:=by
 rw[hv,TI ha,Uu hb];rfl
theorem BP(hv:cmpL f a b=cmpL f (a.drop i) (b.drop i))(ha:i<a.length)(hb:b.length≤i):(1:Int)=cmpL f a b:=by
 rw[hv,TI hb,Uu ha];rfl
theorem qU(hv:cmpL f a b=cmpL f (a.drop i) (b.drop i))(ha:a.length≤i)(hb:b.length≤i):(0:Int)=cmpL f a b:=by
 rw[hv,TI hb,TI ha];rfl
end
theorem um:∀a b:List GExpr,K1 a b=cmpL cmpE a b
 |[],[]=>by rw[K1];rfl
 |[],_::_=>by rw[K1];rfl
 |_::_,[]=>by rw[K1];rfl
 |a::l,b::m=>by rw[K1,um l m];rfl
mutual
def Yi:GExpr→Bool
 |.mk _ n c s l=>decide (n.length≤80)&&decide (c.num.mag.length≤8)&&decide (c.den.mag.length≤8)&&decide (s.length≤100)&&mr l
def mr:List GExpr→Bool
 |[]=>true
 |a::l=>Yi a&&mr l
end
theorem mV:∀ {l:List GExpr},mr l=true↔∀i,i<l.length→Yi (l.getD i Δ)=true
 |[]=>by simp[mr]
 |a::l=>by
  rw[mr,T2,mV (l:=l)];constructor
  ·rintro⟨e,g⟩ i hi
   cases i with
   |zero=>exact e
   |succ i=>exact g i XM
  ·intro h;exact⟨h 0 χ,fun i hi=>h (i+1) B'⟩
theorem K9{a:GExpr}:Yi a=true↔a.n.length≤80∧a.c.num.mag.length≤8∧a.c.den.mag.length≤8∧a.name.length≤100∧∀i,i<a.args.length→Yi (a.args.getD i Δ)=true:=by
 cases a;rw[Yi,←mV];simp only[T2,decide_eq_true_eq,GExpr.n,GExpr.c,GExpr.name,GExpr.args,and_assoc]
theorem pR{a:GExpr}{i:Nat}(h:Yi a=true)(hi:i<a.args.length):Yi (a.args.getD i Δ)=true:=(K9.1 h).2.2.2.2 i hi
theorem Kz{a:GExpr}{i:Nat}(hi:i<a.args.length):SizeOf.sizeOf (a.args.getD i Δ)<SizeOf.sizeOf a:=by
 have e:a.args.getD i Δ∈a.args:=by
  rw[Tq,Tt hi];exact List.getElem_mem hi
 have g:=List.sizeOf_lt_of_mem e;refine Nat.lt_trans g ?_;cases a;simp only[GExpr.args];simp;omega
theorem l4{a:GExpr}(h:(80:Int)<(a.n.length:Nat)∨(8:Int)<(a.c.num.mag.length:Nat)∨(8:Int)<(a.c.den.mag.length:Nat)∨(100:Int)<(a.name.length:Nat)):false=Yi a:=by
 refine(Bool.eq_false_iff.2 fun hp=>?_).symm
 have:=K9.1 hp
 omega
theorem si{a:GExpr}{i:Nat}(hi:i<a.args.length)(h:Yi (a.args.getD i Δ)=false):false=Yi a:=by
 refine(Bool.eq_false_iff.2 fun hp=>?_).symm
 rw[pR hp hi] at h;cases h
theorem A5 {a:GExpr} {i:Nat} (e:¬(80:Int)<(a.n.length:Nat)) (g:¬(8:Int)<(a.c.num.mag.length:Nat)) (k:¬(8:Int)<(a.c.den.mag.length:Nat)) (l:¬(100:Int)<(a.name.length:Nat)) (hi:¬(i:Int)<(a.args.length:Nat))
  (h:∀j,j<i→Yi (a.args.getD j Δ)=true):true=Yi a:=
 (K9.2 ⟨by omega,o,o,o,fun j _=>h j o⟩).symm
theorem qp{p:Nat→Prop}{i:Nat}(h:∀j,j<i→p j)(hi:p i):∀j,j<i+1→p j:=fun j _=>by
 rcases TN j i with e|e
 ·exact h j e
 ·rw[show j=i by omega];exact hi
section
variable {a b:GExpr}
theorem E0(h:¬a.op=b.op):cmpI a.op b.op=cmpE a b:=by
 rw[Qs,ocmp,if_neg fun e=>h (wJ e)]
theorem Oc(h:a.op=b.op)(e:¬cmpL cmpI a.n b.n=0):cmpL cmpI a.n b.n=cmpE a b:=by
 rw[Qs,ocmp,if_pos (oS h),ocmp,if_neg e]
theorem NQ(h:a.op=b.op)(e:cmpL cmpI a.n b.n=0)(g:¬qcmp a.c.q b.c.q=0):qcmp a.c.q b.c.q=cmpE a b:=by
 rw[Qs,ocmp,if_pos (oS h),ocmp,if_pos e,ocmp,if_neg g]
theorem Oi(h:a.op=b.op)(e:cmpL cmpI a.n b.n=0)(g:qcmp a.c.q b.c.q=0)(j:¬cmpL cmpB a.name b.name=0):cmpL cmpB a.name b.name=cmpE a b:=by
 rw[Qs,ocmp,if_pos (oS h),ocmp,if_pos e,ocmp,if_pos g,ocmp,if_neg j]
theorem NZ(h:a.op=b.op)(e:cmpL cmpI a.n b.n=0)(g:qcmp a.c.q b.c.q=0)(j:cmpL cmpB a.name b.name=0):cmpL cmpE a.args b.args=cmpE a b:=by
 rw[Qs,ocmp,if_pos (oS h),ocmp,if_pos e,ocmp,if_pos g,ocmp,if_pos j,um]
end
def Ky(n:Nat):Bool:=decide ((97≤n∧n≤122)∨(65≤n∧n≤90))
def Ko(n:Nat):Bool:=decide (48≤n∧n≤57)
theorem zW{n:Nat}(h:(97≤n∧n≤122)∨(65≤n∧n≤90)):true=Ky n:=(decide_eq_true h).symm
theorem pt{n:Nat}(h:¬((97≤n∧n≤122)∨(65≤n∧n≤90))):false=Ky n:=(decide_eq_false h).symm
theorem oi{n:Nat}{p:Prop}[Decidable p](h:p↔((97≤n∧n≤122)∨(65≤n∧n≤90))):decide p=Ky n:=decide_eq_decide.2 h
theorem xY{n:Nat}(h:¬(48≤n∧n≤57)):false=Ko n:=(decide_eq_false h).symm
theorem Ay{n:Nat}{p:Prop}[Decidable p](h:p↔(48≤n∧n≤57)):decide p=Ko n:=decide_eq_decide.2 h
def okB(c:UInt8):Bool:=Ky c.toNat||Ko c.toNat
def digB(c:UInt8):Bool:=Ko c.toNat
def mC:List (List UInt8):=[[71],[101,116,97],[116,104,101,116,97],[68,101,108,116,97],[106],[110,101,119,102,111,114,109],[86],[85],[84],[116,119,105,115,116],[115,101,114,114,101],[98,114,97,99,107,101,116]]
def Zj(s:List UInt8):Bool:=decide (1<s.length)&&decide (s.getD 0 0=69)&&(s.drop 1).all digB
def Kn(s:List UInt8):Bool:=decide (s∈mC)||Zj s
def Km(s:List UInt8):Bool:=decide (1≤s.length)&&decide (s.length≤20)&&Ky (s.getD 0 0).toNat && !Kn s&&s.all okB
theorem mb{p:UInt8→Bool}{s:List UInt8}:s.all p=true↔∀j,j<s.length→p (s.getD j 0)=true:=by
 rw[Um];constructor
 ·intro h j hj;rw[Tq,Tt hj];exact h _ (List.getElem_mem hj)
 ·intro h _ hc;obtain⟨j,hj,rfl⟩:=UP.1 hc
  have:=h j hj
  rwa [Tq,Tt hj] at this
theorem FB{p:UInt8→Bool}{s:List UInt8}(hj:j<s.length)(h:p (s.getD j 0)=false):s.all p=false:=
 Bool.eq_false_iff.2 fun ha=>by rw[mb.1 ha j hj] at h;cases h
theorem nM{n:Nat}(h:128≤n):Ky n=false:=decide_eq_false o
theorem xo{n:Nat}(h:128≤n):Ko n=false:=decide_eq_false o
theorem Ls{n:Nat}{C:Prop}(h:128≤n)(a:Ky n=true):C:=by rw[nM h] at a;cases a
theorem Ex{n:Nat}{C:Prop}(h:128≤n)(a:Ko n=true):C:=by rw[xo h] at a;cases a
theorem Ll{c:UInt8}(h:Ky c.toNat=true):okB c=true:=by unfold okB;rw[h];rfl
theorem Ey{c:UInt8}(h:Ko c.toNat=true):okB c=true:=by unfold okB;rw[h,Bool.or_true]
theorem Hs{c:UInt8}(h:Ky c.toNat=false)(a:Ko c.toNat=false):okB c=false:=by unfold okB;rw[h,a];rfl
theorem Nm{c:UInt8}(h:128≤c.toNat):okB c=false:=Hs (nM h) (xo h)
section
variable {s:List UInt8}
theorem Hq(h:(20:Int)<((s.length:Nat):Int)):false=Km s:=by unfold Km;rw[decide_eq_false (show ¬s.length≤20 by omega)];simp
theorem Ms(h:s=[]):false=Km s:=by rw[h];rfl
theorem Dw(h:Ky (s.getD 0 0).toNat=false):false=Km s:=by unfold Km;rw[h];simp
theorem Aj{i:Nat}(h:Ky (s.getD i 0).toNat=false)(a:((i:Nat):Int)=0):false=Km s:=by
 have e:i=0:=o
 subst e;exact Dw h
theorem w8(hj:j<s.length)(h:okB (s.getD j 0)=false):false=Km s:=by unfold Km;rw[FB hj h];simp
theorem KU(h:Kn s=true):false=Km s:=by unfold Km;rw[h];simp
theorem X4(h:s∈mC):false=Km s:=KU (by unfold Kn;rw[decide_eq_true h];rfl)
theorem Mj(e:¬((s.length:Nat):Int)<1)(g:¬(20:Int)<((s.length:Nat):Int))(a:Ky (s.getD 0 0).toNat=true)(b:Kn s=false)(d:∀j,j<s.length→okB (s.getD j 0)=true):true=Km s:=by
 unfold Km;rw[decide_eq_true (show 1≤s.length by omega),decide_eq_true (show s.length≤20 by omega),a,b,mb.2 d];rfl
theorem Na(hj:j<s.length)(h:Ko (s.getD j 0).toNat=false):false=(s.all digB&&decide (¬s=[])):=by rw[FB (p:=digB) hj h];rfl
theorem OB(hj:j<s.length)(h:128≤(s.getD j 0).toNat):false=(s.all digB&&decide (¬s=[])):=Na hj (xo h)
theorem DV(h:∀i,i<j→Ko (s.getD i 0).toNat=true)(hj:s.length≤j){b:Bool}(hb:b=decide (¬s=[])):b=(s.all digB&&decide (¬s=[])):=by
 rw[mb.2 fun i _=>h i o,Bool.true_and];exact hb
theorem nm_E(a:¬s=[])(hw:s∉mC)(b:¬(20:Int)<((s.length:Nat):Int))(d:Ky (s.getD 0 0).toNat=true)(g:∀j,j<s.length→okB (s.getD j 0)=true)(h:¬(((s.getD 0 0).toNat:Nat):Int)=69):true=Km s:=by
 have hp:=UH.2 a;refine Mj o b d ?_ g;unfold Kn Zj;rw[decide_eq_false hw,decide_eq_false (show ¬s.getD 0 0=69 from fun e=>h P')];simp
theorem nm_D(a:¬s=[])(hw:s∉mC)(g:¬(20:Int)<((s.length:Nat):Int))(b:Ky (s.getD 0 0).toNat=true)(d:∀j,j<s.length→okB (s.getD j 0)=true)(h:(((s.getD 0 0).toNat:Nat):Int)=69):
  (!((s.drop 1).all digB&&decide (¬s.drop 1=[])))=Km s:=by
 have hp:=UH.2 a;have he:s.getD 0 0=69:=UInt8.toNat_inj.1 (by have:(69:UInt8).toNat=69:=rfl;omega);have hd:decide (¬s.drop 1=[])=decide (1<s.length):=decide_eq_decide.2 (by
  have e:¬s.drop 1=[]↔0<(s.drop 1).length:=(UH (l:=s.drop 1)).symm;rw[e,Tn];omega)
 have hr:Kn s=((s.drop 1).all digB&&decide (1<s.length)):=by
  unfold Kn Zj;rw[decide_eq_false hw,he];simp[Bool.and_comm]
 unfold Km;rw[decide_eq_true (show 1≤s.length by omega),decide_eq_true (show s.length≤20 by omega),b,mb.2 d,hr,hd];simp
end
mutual
def cntE:GExpr→Nat
 |.mk _ _ _ _ l=>1+cntL l
def cntL:List GExpr→Nat
 |[]=>0
 |a::l=>cntE a+cntL l
end
mutual
def lvlE:GExpr→Nat
 |.mk _ _ _ _ l=>lvlL l+1
def lvlL:List GExpr→Nat
 |[]=>0
 |a::l=>max (lvlE a) (lvlL l)
end
theorem Z7(a:GExpr):cntE a=1+cntL a.args:=by cases a;rw[cntE];rfl
theorem K6(a:GExpr):lvlE a=lvlL a.args+1:=by cases a;rw[lvlE];rfl
theorem yw:∀l m:List GExpr,cntL (l++m)=cntL l+cntL m
 |[],m=>by simp[cntL]
 |a::l,m=>by rw[Un,cntL,cntL,yw l m];omega
theorem mO:∀l m:List GExpr,lvlL (l++m)=max (lvlL l) (lvlL m)
 |[],m=>by simp[lvlL]
 |a::l,m=>by rw[Un,lvlL,lvlL,mO l m];omega
theorem xm{i:Nat}(h:i<l.length):l.take (i+1)=l.take i++[l.getD i Δ]:=by
 rw[List.take_succ_eq_append_getElem h,Tq,Tt h];rfl
theorem Cz{i:Nat}(h:i<l.length):cntL (l.take (i+1))=cntL (l.take i)+cntE (l.getD i Δ):=by
 rw[xm h,yw,cntL,cntL];omega
theorem qO(l:List GExpr)(i:Nat):cntL l=cntL (l.take i)+cntL (l.drop i):=by
 rw[←yw,U0]
theorem xP(l:List GExpr)(i:Nat):lvlL l=max (lvlL (l.take i)) (lvlL (l.drop i)):=by
 rw[←mO,U0]
theorem Zv{i:Nat}(h:i<l.length):l.drop i=l.getD i Δ::l.drop (i+1):=by
 rw[Uu h,Tq,Tt h];rfl
theorem yb{i:Nat}(h:i<l.length):cntE (l.getD i Δ)≤cntL l:=by
 rw[qO l i,Zv h,cntL];omega
theorem Fj{i:Nat}(h:i<l.length):lvlE (l.getD i Δ)≤lvlL l:=by
 rw[xP l i,Zv h,lvlL];omega
theorem qh(a:GExpr):1≤cntE a:=by rw[Z7];omega
theorem zd:∀l:List GExpr,l.length≤cntL l
 |[]=>Tv _
 |a::l=>by rw[Td,cntL];have:=zd l;have:=qh a;omega
theorem mt{i:Nat}(h:l.length≤i):l.take i=l:=TE h
theorem Gk{a:GExpr}{i:Nat}(h:i<a.args.length)(hz:z=min (1+cntL (a.args.take i)) (m+1))(hm:z≤m):
  z+min (cntE (a.args.getD i Δ)) (m-z+1)=min (1+cntL (a.args.take (i+1))) (m+1):=by
 rw[Cz h];omega
theorem HK{a:GExpr}{i:Nat}(h:a.args.length≤i)(hz:z=min (1+cntL (a.args.take i)) (m+1)):z=min (cntE a) (m+1):=by
 rw[hz,mt h,Z7]
theorem GP{a:GExpr}{i:Nat}(hm:m<z)(hz:z=min (1+cntL (a.args.take i)) (m+1)):z=min (cntE a) (m+1):=by
 have:=qO a.args i
 rw[Z7];omega
mutual
def pszE:GExpr→Nat→Nat→Nat×Bool
 |.mk _ _ _ _ l,k,v=>if 60<k+1∨12<v then(k+1,false) else pszL l (k+1) (v+1)
def pszL:List GExpr→Nat→Nat→Nat×Bool
 |[],k,_=>(k,true)
 |a::l,k,v=>if(pszE a k v).2=true then pszL l (pszE a k v).1 v else(pszE a k v)
end
theorem ob(a:GExpr)(k v:Nat):pszE a k v=if 60<k+1∨12<v then(k+1,false) else pszL a.args (k+1) (v+1):=by cases a;rw[pszE];rfl
theorem Ch{i k:Nat}(h:i<l.length)(hR:pszL (l.drop i) k v=R)(hb:(pszE (l.getD i Δ) k v).2=true):pszL (l.drop (i+1)) (pszE (l.getD i Δ) k v).1 v=R:=by
 rw[←hR,Zv h,pszL,if_pos hb]
theorem Cu{i k:Nat}(h:i<l.length)(hR:pszL (l.drop i) k v=R)(hb:(pszE (l.getD i Δ) k v).2=false):pszE (l.getD i Δ) k v=R:=by
 rw[←hR,Zv h,pszL,if_neg (by rw[hb];simp)]
theorem G8{i k:Nat}(h:l.length≤i)(hR:pszL (l.drop i) k v=R):(k,true)=R:=by
 rw[←hR,TI h,pszL]
theorem uB:∀n:Nat,(∀a:GExpr,SizeOf.sizeOf a<n→∀k v,k≤60→(pszE a k v).2=decide (k+cntE a≤60∧v+lvlE a≤13)∧((pszE a k v).2=true→(pszE a k v).1=k+cntE a))∧
  ∀l:List GExpr,SizeOf.sizeOf l<n→∀k v,k≤60→v≤13→(pszL l k v).2=decide (k+cntL l≤60∧v+lvlL l≤13)∧((pszL l k v).2=true→(pszL l k v).1=k+cntL l):=by
 intro n
 induction n with
 |zero=>exact⟨fun _ h=>absurd h (TC _),fun _ h=>absurd h (TC _)⟩
 |succ n ih=>
  refine⟨fun a h k v hk=>?_,fun l h k v hk hv=>?_⟩
  ·rw[ob,Z7,K6];split
   ·rename_i hc;refine⟨(decide_eq_false o).symm,fun h=>by cases h⟩
   ·rename_i hc;obtain⟨d,b⟩:=ih.2 a.args (by cases a;simp[GExpr.args] at h ⊢;omega) (k+1) (v+1) o o;refine⟨?_,fun hb=>by rw[b hb];omega⟩;rw[d];exact decide_eq_decide.2 o
  ·cases l with
   |nil=>
    rw[pszL,cntL,lvlL];exact⟨(decide_eq_true o).symm,fun _=>rfl⟩
   |cons a l=>
    simp at h;obtain⟨d,b⟩:=ih.1 a o k v hk;rw[pszL,cntL,lvlL];by_cases hb:(pszE a k v).2=true
    ·rw[if_pos hb];have hb':=hb;rw[d] at hb';have hd:=of_decide_eq_true hb';obtain⟨g,i⟩:=ih.2 l o (pszE a k v).1 v (by rw[b hb];omega) hv;refine⟨?_,fun hc=>by rw[i hc,b hb];omega⟩;rw[g,b hb];exact decide_eq_decide.2 o
    ·rw[if_neg hb];refine⟨?_,fun hc=>absurd hc hb⟩;rw[d] at hb ⊢;have hd:¬(k+cntE a≤60∧v+lvlE a≤13):=fun e=>hb (decide_eq_true e);rw[decide_eq_false hd]
     exact(decide_eq_false o).symm
theorem wj(a:GExpr):(pszE a 0 1).2=decide (cntE a≤60∧lvlE a≤12):=by
 rw[((uB _).1 a (VM _) 0 1 o).1];exact decide_eq_decide.2 o
def cA(n:Int):Int:=if n=1∨n=6∨n=7∨n=8 then 0 else if n=2 then 1 else if n=3∨n=9 then 4 else if n=4 then 2 else if n=5 then 2 else if n=10∨n=11 then 0 else if n=12∨n=13∨n=14∨n=15∨n=16 then 1 else if n=17 then 0 else 1
def cB(n:Int):Int:=if n=1∨n=6∨n=7∨n=8 then 0 else if n=2 then 1 else if n=3∨n=9 then 4 else if n=4 then 41 else if n=5 then 65 else if n=10∨n=11 then 0 else if n=12∨n=13∨n=14∨n=15∨n=16 then 1 else if n=17 then 0 else 1
def cC(n:Int):Int:=if 1≤n∧n≤9 then 0 else if n=10∨n=11 then 2 else if 12≤n∧n≤17 then 1 else 2
def cD(n:Int):Int:=if 1≤n∧n≤9 then 0 else if n=10∨n=11 then 60 else if 12≤n∧n≤17 then 1 else 2
def lA(n:Int):Int:=if n=12 then -200 else if n=13∨n=14∨n=15 then 1 else if n=18 then 0 else if n=2 then 0 else -1000000
def lB(n:Int):Int:=if n=12 then 200 else if n=13∨n=14∨n=15 then 1000 else if n=18 then 6 else 1000000
def sA(n:Int):Int:=if 1≤n∧n≤18 then cA n else 0
def sB(n:Int):Int:=if 1≤n∧n≤18 then cB n else 0
def sC(n:Int):Int:=if n=10∨n=11 then -1 else if 1≤n∧n≤18 then cC n else 0
def okOp(n:Int):Bool:=decide (1≤n∧n≤18)
theorem Xh{a b c a' b' c':Int}(d:a=a')(e:b=b')(g:c=c'):(Value.agg #[.int .i64 a,.int .i64 b,.int .i64 c])= .agg #[.int .i64 a',.int .i64 b',.int .i64 c']:=by rw[d,e,g]
structure cntOk (a:GExpr):Prop where
 o1:1≤a.op
 o2:a.op≤18
 n1:cA a.op≤((a.n.length:Nat):Int)
 n2:((a.n.length:Nat):Int)≤cB a.op
 a1:cC a.op≤((a.args.length:Nat):Int)
 a2:((a.args.length:Nat):Int)≤cD a.op
structure nameOk (a:GExpr):Prop where
 e:decide (a.op=8)=Km a.name
 s:a.op=8∨a.name=[]
 c:a.op=1∨Xr a.c.q=0
def mH(a:GExpr):Prop:=∀i,i<a.n.length→lA a.op≤a.n.getD i 0∧a.n.getD i 0≤lB a.op
open Classical in
def Xm(a:GExpr):Int:=if cntOk a∧nameOk a then if mH a then 0 else 2 else 3
mutual
def errE:GExpr→Int
 |.mk o n c s l=>if Xm (.mk o n c s l)=0 then errL l else Xm (.mk o n c s l)
def errL:List GExpr→Int
 |[]=>0
 |a::l=>if errE a=0 then errL l else errE a
end
theorem xd(a:GExpr):errE a=if Xm a=0 then errL a.args else Xm a:=by cases a;rw[errE];rfl
section
variable {a:GExpr}
theorem nX(h:¬cntOk a):3=Xm a:=by unfold Xm;rw[if_neg fun e=>h e.1]
theorem y0(h:¬nameOk a):3=Xm a:=by unfold Xm;rw[if_neg fun e=>h e.2]
theorem Ed(b:cntOk a)(d:nameOk a){i:Nat}(hi:i<a.n.length)(h:a.n.getD i 0<lA a.op∨lB a.op<a.n.getD i 0):2=Xm a:=by
 unfold Xm;rw[if_pos ⟨b,d⟩,if_neg fun e=>by have:=e i hi;omega]
theorem Pp(b:cntOk a)(d:nameOk a){i:Nat}(hi:a.n.length≤i)(h:∀j,j<i→lA a.op≤a.n.getD j 0∧a.n.getD j 0≤lB a.op):0=Xm a:=by
 unfold Xm;rw[if_pos ⟨b,d⟩,if_pos (show mH a from fun j _=>h j o)]
theorem H8{e:Int}(h:e=Xm a)(b:¬e=0):e=errE a:=by rw[xd,if_neg (by rw[←h];exact b)];exact h
theorem FY{i:Nat}(hi:i<a.args.length)(hv:errL (a.args.drop i)=errL a.args)(h:errE (a.args.getD i Δ)=0):errL (a.args.drop (i+1))=errL a.args:=by
 rw[←hv,Zv hi,errL,if_pos h]
theorem Iy{i:Nat}(b:Xm a=0)(hi:i<a.args.length)(hv:errL (a.args.drop i)=errL a.args)(h:¬errE (a.args.getD i Δ)=0):errE (a.args.getD i Δ)=errE a:=by
 rw[xd a,if_pos b,←hv,Zv hi,errL,if_neg h]
theorem Lq{i:Nat}(b:Xm a=0)(hi:a.args.length≤i)(hv:errL (a.args.drop i)=errL a.args):0=errE a:=by
 rw[xd a,if_pos b,←hv,TI hi,errL]
end
theorem LH{n:Int}(h:okOp n=true):sA n=cA n:=if_pos (of_decide_eq_true h)
theorem tY{a:GExpr}(h:okOp a.op=true)(e:¬((a.n.length:Nat):Int)<sA a.op)(g:¬sB a.op<((a.n.length:Nat):Int))(b:0≤sC a.op→((a.args.length:Nat):Int)=sC a.op)(d:sC a.op<0→¬((a.args.length:Nat):Int)<2)(i:a.args.length≤60):cntOk a:=by
 have hr:=of_decide_eq_true h;have hb:sB a.op=cB a.op:=if_pos hr;rw[LH h] at e;rw[hb] at g;refine⟨hr.1,hr.2,o,o,?_,?_⟩
 ·unfold sC at b d;unfold cC
  (repeat' split at b)<;>(repeat' split)<;>first|omega|(unfold cC at b;(repeat' split at b)<;>omega)
 ·unfold sC at b d;unfold cD
  (repeat' split at b)<;>(repeat' split)<;>first|omega|(unfold cC at b;(repeat' split at b)<;>omega)
theorem nY{a:GExpr}(h:okOp a.op=false∨((a.n.length:Nat):Int)<sA a.op∨sB a.op<((a.n.length:Nat):Int)∨(0≤sC a.op∧¬((a.args.length:Nat):Int)=sC a.op)∨(sC a.op<0∧((a.args.length:Nat):Int)<2)):¬cntOk a:=by
 intro c;have hr:okOp a.op=true:=decide_eq_true ⟨c.o1,c.o2⟩;have hp:=of_decide_eq_true hr;have hb:sB a.op=cB a.op:=if_pos hp;rw[LH hr,hb,hr] at h;have c1:=c.n1;have c2:=c.n2;have b:=c.a1;have d:=c.a2;rcases h with h|h|h|h|h
 ·cases h
 ·omega
 ·omega
 ·unfold sC at h;unfold cC at b h;unfold cD at d
  (repeat' split at h)<;>(repeat' split at b)<;>(repeat' split at d)<;>omega
 ·unfold sC at h;unfold cC at b h;unfold cD at d
  (repeat' split at h)<;>(repeat' split at b)<;>(repeat' split at d)<;>omega
theorem qL{a:GExpr}(e:(a.op=8∧Km a.name=true)∨(¬a.op=8∧a.name=[]))(d:a.op=1∨Xr a.c.q=0):nameOk a:=by
 rcases e with ⟨h,b⟩|⟨h,b⟩
 ·exact⟨by rw[decide_eq_true h,b],.inl h,d⟩
 ·exact⟨by rw[decide_eq_false h,b];rfl,.inr b,d⟩
theorem su{a:GExpr}(h:(a.op=8∧Km a.name=false)∨(¬a.op=8∧¬a.name=[])∨(¬a.op=1∧¬Xr a.c.q=0)):¬nameOk a:=by
 intro c;rcases h with ⟨h,b⟩|⟨h,b⟩|⟨h,b⟩
 ·have:=c.e;rw[decide_eq_true h,b] at this;cases this
 ·exact c.s.elim h b
 ·exact c.c.elim h b
def Jn(a:GExpr):Int:=if cntE a≤60∧lvlE a≤12 then errE a else 7
theorem tX{a:GExpr}{k:Nat}(h:60<k+1∨12<v):(k+1,false)=pszE a k v:=by rw[ob,if_pos h]
theorem AP{a:GExpr}{k i kk:Nat}(h:¬(60<k+1∨12<v))(hi:i<a.args.length)(hR:pszL (a.args.drop i) kk (v+1)=pszL a.args (k+1) (v+1))(hb:(pszE (a.args.getD i Δ) kk (v+1)).2=false):pszE (a.args.getD i Δ) kk (v+1)=pszE a k v:=by
 rw[ob a,if_neg h];exact Cu hi hR hb
theorem EP{a:GExpr}{k i kk:Nat}(h:¬(60<k+1∨12<v))(hi:a.args.length≤i)(hR:pszL (a.args.drop i) kk (v+1)=pszL a.args (k+1) (v+1)):(kk,true)=pszE a k v:=by
 rw[ob a,if_neg h];exact G8 hi hR
theorem OI{a:GExpr}{k:Nat}(hk:k≤60)(hb:(pszE a k v).2=true):(pszE a k v).1≤60:=by
 obtain⟨b,d⟩:=(uB _).1 a (VM _) k v hk;rw[d hb];rw[b] at hb
 have:=of_decide_eq_true hb
 omega
end Go.Wf
namespace Go.Wf
open Go Go.Proofs Go.RowKit
variable{a:Bs}{t:TypeId}{α:Type}{T:Ty α}
def ItB(w:World)(g:Nat)(s:List UInt8)(pos:Nat):Prop:=w.heap[g]? =some (.stringIter ⟨s.toArray⟩ pos)
theorem ItB.lt{w:World}{g:Nat}{s:List UInt8}{pos:Nat}(h:ItB w g s pos):g<w.heap.size:=(TY.1 h).1
structure Itr (w0:Bs) (y:Nat→Prop) (w:World) (g:Nat) (s:List UInt8) (pos:Nat):Prop where
 mem:y g
 ge:w0.heap.size≤g∨w0.M g
 blk:ItB w g s pos
section
variable {w0:Bs} {X0 x y x' y':Nat→Prop} {w w':World} {g g':Nat} {s:List UInt8} {pos:Nat}
theorem Itr.sp{ch:Nat→Prop}(h:Itr w0 y w g s pos)(p:Sp x y w x' y' w' ch)(hn:¬ch g):Itr w0 y' w' g s pos:=⟨p.up _ h.mem,h.ge,(p.same g h.blk.lt hn).trans h.blk⟩
theorem Itr.spn(h:Itr w0 y w g s pos)(p:Sp x y w x' y' w' Zl):Itr w0 y' w' g s pos:=h.sp p id
theorem Cx.iter(C:Cx X0 w0 x y w)(s:List UInt8):
  Cx X0 w0 (fun b=>x b∨b=w.heap.size) (fun b=>y b∨b=w.heap.size) (w.alloc (.stringIter ⟨s.toArray⟩ 0))∧
  Sp x y w (fun b=>x b∨b=w.heap.size) (fun b=>y b∨b=w.heap.size) (w.alloc (.stringIter ⟨s.toArray⟩ 0)) Zl∧
  Itr w0 (fun b=>y b∨b=w.heap.size) (w.alloc (.stringIter ⟨s.toArray⟩ 0)) w.heap.size s 0:=by
 have hle:=C.below.size;refine⟨⟨C.below.trans ((K5 w _).mono hle),fun b h=> .inl (C.base b h),?_,?_⟩,⟨?_,?_,fun _ h=> .inl h,fun b hb _=>Kk hb⟩,⟨.inr r,.inl hle,heap_alloc_new _ _⟩⟩
 ·rintro b (h|rfl)
  ·have:=C.bd b h;simp;omega
  ·simp
 ·rintro b (h|rfl)
  ·exact .inl (C.yx b h)
  ·exact .inr r
 ·refine⟨?_,fun b hb _=>Kk hb,by simp⟩;rintro b hb (h|rfl)
  ·exact h
  ·omega
 ·refine⟨?_,fun b hb _=>Kk hb,by simp⟩;rintro b hb (h|rfl)
  ·exact h
  ·omega
def itSet(w:World)(g:Nat)(s:List UInt8)(pos:Nat):World:={w with heap:=w.heap.setIfInBounds g (.stringIter ⟨s.toArray⟩ pos)}
theorem Cx.itSet(C:Cx X0 w0 x y w)(I:Itr w0 y w g s pos)(q:Nat):Cx X0 w0 x y (itSet w g s q)∧Sp x y w x y (itSet w g s q) (· =g)∧Itr w0 y (itSet w g s q) g s q:=by
 have hs:(Wf.itSet w g s q).heap.size=w.heap.size:=by simp[Wf.itSet]
 have ho:∀b,b≠g→(Wf.itSet w g s q).heap[b]? =w.heap[b]? :=fun b hb=>by simp[Wf.itSet,TB,TA hb]
 have hb:Bel ⟨w,(· =g)⟩ (Wf.itSet w g s q):=⟨rfl,rfl,rfl,by rw[hs];exact Tu _,fun k _ hm=>ho k hm⟩;refine⟨⟨C.below.turn hb I.ge,C.base,fun b h=>by rw[hs];exact C.bd b h,C.yx⟩,⟨⟨fun _ _ h=>h,fun b hb hx=>ho b fun e=>hx (e▸C.yx _ I.mem),by rw[hs];exact Tu _⟩,⟨fun _ _ h=>h,fun b hb hx=>ho b fun e=>hx (e▸I.mem),by rw[hs];exact Tu _⟩,fun _ h=>h,fun b hb hn=>ho b hn⟩,⟨I.mem,I.ge,?_⟩⟩;simp[ItB,Wf.itSet,TB,I.blk.lt]
end
section
variable {P:Program} {ρ:Operand→Value} {w:World} {K:Value→World→Prop} {Kp:List PanicEntry→World→Prop} {dst:Option Tmp} {ty:TypeId} {pos:String} {after:Array Edge} {gd:Option (Nat×Bool)} {X0 x y:Nat→Prop} {w0:Bs}
theorem R6  {a:Operand} {s:List UInt8} (C:Cx X0 w0 x y w) (ht:P.underlying t=some .string) (hx:ρ a=str s)
  (h:∀g w' x' y',(∀b,b<w.heap.size→b≠g)→Cx X0 w0 x' y' w'→Sp x y w x' y' w' Zl→Itr w0 y' w' g s 0→K (.pointer (some ⟨g,0,none⟩)) w'):
  St P ρ ⟨dst,.range t a,ty,pos,after,gd⟩ w K Kp:=by
 obtain⟨c,p,i⟩:=C.iter s;refine P9 (v:= .pointer (some ⟨w.heap.size,0,none⟩)) (w':=w.alloc (.stringIter ⟨s.toArray⟩ 0)) ?_ (h _ _ _ _ (fun b _=>by omega) c p i);simp only[execOp,hx,str]
 have:=run_range_string (P:=P) w t ⟨s.toArray⟩ ht
 simp[this,World.iter]
theorem Dj{w:World}{g:Nat}{s:List UInt8}{q:Nat}{ty:TypeId}(h:ItB w g s q)(hq:s.length≤q):(Instr.next (.pointer (some ⟨g,0,none⟩)) true ty).run P w= .ok (.tuple #[.bool false]) w:=by
 have hn:¬q<(⟨s.toArray⟩:ByteArray).size:=by simp[ByteArray.size];omega
 simp[Instr.next,getObj,Sem.run,show w.heap[g]? =_ from h,hn]
theorem Dz{w:World}{g:Nat}{s:List UInt8}{q:Nat}{ty:TypeId}(h:ItB w g s q)(hq:q<s.length):
  (Instr.next (.pointer (some ⟨g,0,none⟩)) true ty).run P w= .ok (.tuple #[.bool true,.int .i64 q,.int .i32 (Utf8.decode ⟨s.toArray⟩ q).1]) (itSet w g s (q+(Utf8.decode ⟨s.toArray⟩ q).2)):=by
 have hn:q<(⟨s.toArray⟩:ByteArray).size:=by simp[ByteArray.size];omega
 simp[Instr.next,getObj,setObj,Sem.run,show w.heap[g]? =_ from h,hn,itSet,goInt]
theorem Se {it:Operand} {g:Nat} {s:List UInt8} {q:Nat} (C:Cx X0 w0 x y w) (I:Itr w0 y w g s q) (hx:ρ it= .pointer (some ⟨g,0,none⟩))
  (he:s.length≤q→K (.tuple #[.bool false]) w)
  (ha:∀w',q<s.length→(s.getD q 0).toNat<128→Cx X0 w0 x y w'→Sp x y w x y w' (· =g)→Itr w0 y w' g s (q+1)→K (.tuple #[.bool true,.int .i64 q,.int .i32 (((s.getD q 0).toNat:Nat):Int)]) w')
  (hh:∀w' r p,q<s.length→128≤(s.getD q 0).toNat→128≤r→Cx X0 w0 x y w'→Sp x y w x y w' (· =g)→Itr w0 y w' g s p→K (.tuple #[.bool true,.int .i64 q,.int .i32 ((r:Nat):Int)]) w'):
  St P ρ ⟨dst,.next it true,ty,pos,after,gd⟩ w K Kp:=by
 rcases TN q s.length with hq|hq
 ·obtain⟨c,p,i⟩:=C.itSet I (q+(Utf8.decode ⟨s.toArray⟩ q).2);refine P9 (v:= .tuple #[.bool true,.int .i64 q,.int .i32 (Utf8.decode ⟨s.toArray⟩ q).1]) (w':=Wf.itSet w g s (q+(Utf8.decode ⟨s.toArray⟩ q).2)) ?_ ?_
  ·simp[execOp,hx,Dz I.blk hq]
  ·have hn:q<(⟨s.toArray⟩:ByteArray).size:=by simp[ByteArray.size];omega
   have hb:((⟨s.toArray⟩:ByteArray)[q]'hn)=s.getD q 0:=by
    rw[Tq,Tt hq];rfl
   rcases TN (s.getD q 0).toNat 128 with a|a
   ·have hd:=decode_ascii ⟨s.toArray⟩ q hn (by rw[hb];exact a);rw[hb] at hd;rw[hd] at c p i ⊢;exact ha _ hq a c p i
   ·have hd:=decode_high ⟨s.toArray⟩ q hn (by rw[hb];exact a);exact hh _ _ _ hq a hd.1 c p i
 ·refine P9 (v:= .tuple #[.bool false]) (w':=w) ?_ (he hq);simp[execOp,hx,Dj I.blk hq]
end
section
variable {P:Program} {ρ:Operand→Value} {w:World} {K:Value→World→Prop} {Kp:List PanicEntry→World→Prop} {dst:Option Tmp} {ty:TypeId} {pos:String} {after:Array Edge} {gd:Option (Nat×Bool)} {X0 x y:Nat→Prop} {w0:Bs}
theorem R5   {E:TypeId} {z u:Value} {by_ g:Nat} {m:List α} {a b:Operand} (C:Cx X0 w0 x y w) (ht:P.underlying t=some (.slice E)) (hi:Zf P E=some (z,T.sz,by_)) (hx:ρ a= .slice (some ⟨g,0,none⟩) 0 0) (hy:ρ b=u)
  (hs:RS T x w u m) (d:m.length≤maxLen) (hby:m.length*by_≤140737488355328) (hz:z.cells.size=T.sz)
  (h:∀v' w',Cx X0 w0 x y w'→Sp x y w x y w' Zl→RS T x w' v' m→K v' w'):
  St P ρ ⟨dst,.call {callee:= .builtin .append,args:= #[a,b],argTypes:= #[t,t]},ty,pos,after,gd⟩ w K Kp:=by
 obtain⟨inf,hi',hz',hsz,hbyt⟩:=J0 hi;obtain⟨css',k1,k2,ad,c,rfl,e⟩:=Z5 hs;have hal':=Ks k1 k2;by_cases hml:m=[]
 ·subst hml;have hrun:(Builtin.append_ #[t,t] ty #[.slice (some ⟨g,0,none⟩) 0 0,.slice ad ([]:List α).length c]).run P w= .ok (.slice (some ⟨g,0,none⟩) 0 0) w:=by
   cases ad<;>simp[Builtin.append_,run_underlying ht,sizeOf,typeInfo,hi',Builtin.lenOf,Builtin.firstCells,loadCells,loadCellsFrom,storeCells]
  refine P9 (v:= .slice (some ⟨g,0,none⟩) 0 0) (w':=w) Wu (h _ _ C Sp.refl ⟨_,0,rfl,Tu _,by unfold maxLen;omega,.inl r⟩)
 ·rcases e with e|⟨bb,oo,rfl,hcell⟩
  ·exact absurd e hml
  have hmpos:0<m.length:=UH.2 hml;have hnl:css'.flatten.length=m.length*T.sz:=by
   have:∀(css:List (List Value)),(∀cs∈css,cs.length=T.sz)→css.flatten.length=css.length*T.sz:=by
    intro css
    induction css with
    |nil=>intro _;simp
    |cons c css ih=>intro hh;rw[Uy,Tc,hh c χ,ih fun cs h=>hh cs WY,Td,Wb];omega
   rw[this css' hal',k1]
  have hnews:∀j u,css'.flatten[j]? =some u→w.cell? ((⟨bb,oo,none⟩:Addr).add j)=some u:=fun j u hj=>by rw[Addr.add_lit];exact hcell j u hj
  have hr:=run_append_grow (P:=P) w t ty E inf z ht hi' hz' ⟨g,0,none⟩ 0 0 [] χ (fun j v hj=>by simp at hj) ⟨bb,oo,none⟩ m.length c css'.flatten WO hnews o (by simp only[maxLen] at d;omega)
   (by rw[hbyt];exact growslice_fits o (by rw[Wg];exact hby))
  simp only[Wg,TJ] at hr;refine P9 (v:= .slice (some ⟨w.heap.size,0,none⟩) m.length (grownCap w m.length 0 E)) (w':=w.drew.alloc (.cells (#[]++css'.flatten.toArray++Builtin.zeroCells z.cells (grownCap w m.length 0 E-m.length)) E)) (by
   simp[execOp,resolve,invoke,builtin,hx,hy,hr]) ?_
  have hB:Below w.heap.size w (w.drew.alloc (.cells (#[]++css'.flatten.toArray++Builtin.zeroCells z.cells (grownCap w m.length 0 E-m.length)) E)):=((Below.refl _ _).drew).alloc (Tu _) _;obtain⟨C',S'⟩:=C.next hB;have ho:OS T E w0 (fun b=>x b∨b=w.heap.size) y (w.drew.alloc (.cells (#[]++css'.flatten.toArray++Builtin.zeroCells z.cells (grownCap w m.length 0 E-m.length)) E)) (.slice (some ⟨w.heap.size,0,none⟩) m.length (grownCap w m.length 0 E)) m:=by
   refine⟨⟨css',k1,fun i cs u l p=>T.tr (k2 i cs u l p) ⟨?_,S'.tx.blk,S'.tx.size⟩,by rw[hnl],.inr ⟨w.heap.size,_,_,rfl,Tv _,heap_alloc_new w.drew _,grownCap_ge w _ _ E,grownCap_le_maxLen w _ _ E (by simpa using d),?_,?_⟩⟩,fun k hk=>?_⟩
   ·rintro b hb (h|rfl)
    ·exact h
    ·exact absurd hb (Nat.lt_irrefl _)
   ·have hge:=grownCap_ge w m.length 0 E;simp only[T0,UY,size_zeroCells,hz,hnl,Array.size_empty,Te,Wg,←U2]
    congr 1;omega
   ·simp only[Array.toList_append,Array.toList_empty,TJ,←hnl];exact List.take_left
   ·simp[Value.ownBlock] at hk;subst hk;exact⟨⟨.inr r,fun hy=>by have:=C.bd _ (C.yx _ hy);omega⟩,.inl C.below.size⟩
  exact h _ _ C' S' (ho.pub (fun _ h=> .inl h) fun k hk=>by
   simp[Value.ownBlock] at hk;subst hk;exact fun hx=>by have:=C.bd _ hx;omega)
end
section
variable {P:Program} {ρ:Operand→Value} {w:World} {K:Value→World→Prop} {Kp:List PanicEntry→World→Prop} {dst:Option Tmp} {ty:TypeId} {pos:String} {after:Array Edge} {gd:Option (Nat×Bool)} {X0 x y:Nat→Prop} {w0:Bs}
theorem Ta {E:TypeId} {z:Value} {by_:Nat} (C:Cx X0 w0 x y w) (ht:P.underlying t=some (.slice E)) (hi:Zf P E=some (z,1,by_))
  (h:∀g w',Cx X0 w0 x y w'→Sp x y w x y w' Zl→K (.slice (some ⟨g,0,none⟩) 0 0) w'):
  St P ρ ⟨dst,.buildSlice t 0 #[],ty,pos,after,gd⟩ w K Kp:=by
 refine SO (T:=Jh) C ht hi fun g w' _ C' S' _ _=>h g w' ⟨C'.below,C.base,fun b hb=>Ti (C.bd b hb) S'.tx.size,C.yx⟩ ⟨⟨fun _ _ h=>h,S'.tx.blk,S'.tx.size⟩,S'.ty,fun _ h=>h,S'.same⟩
def RU(X0:Nat→Prop)(b0:Bs)(x y:Nat→Prop):Unit→World→Unit→World→Prop:=fun _ w _ w'=>Cx X0 b0 x y w'∧Sp x y w x y w' Zl
def ur{α:Type}(x:Nat→Prop)(T:Ty α)(m:α):Unit→Value→World→Prop:=fun _ v w=>RV T x w v m
def us{α:Type}(x:Nat→Prop)(T:Ty α)(m:List α):Unit→Value→World→Prop:=fun _ v w=>RS T x w v m
def uE{α:Type}(x:Nat→Prop)(T:Ty α)(m:α):Unit→Value→World→Prop:=fun _ v w=>∃(b o:Nat) (cs:List Value),v= .pointer (some ⟨b,o,none⟩)∧ElAt T x w b o cs m
def u0{τ:Type}:τ→Value→World→Prop:=fun _ v _=>∃g,v= .slice (some ⟨g,0,none⟩) 0 0
theorem tr{m:α}:∀v s w s' w',ur x T m s v w→RU X0 a x y s w s' w'→ur x T m s' v w':=fun _ _ _ _ _ h r=>RV.tr h r.2.tx
theorem ts{m:List α}:∀v s w s' w',us x T m s v w→RU X0 a x y s w s' w'→us x T m s' v w':=fun _ _ _ _ _ h r=>RS.tr h r.2.tx
theorem tE{m:α}:∀v s w s' w',uE x T m s v w→RU X0 a x y s w s' w'→uE x T m s' v w':=fun _ _ _ _ _ ⟨b,o,cs,e,h⟩ r=>⟨b,o,cs,e,h.tr r.2.tx⟩
end
section
variable {fc:Fence} [Fw fc] {P:Program} {ops:Array Oper} {n:Nat} {D:List Deferred} {Q:Post} {f0:Fr} {w0:World}
theorem Rb {id:Nat} (hm:P.follows .mixedOrders=true) (m:Nat) (dl:List (List Nat)) {X0 x y:Nat→Prop}  (C:Cx X0 a x y w0) (Gl:List (Unit→Value→World→Prop))
  (chk:ya ops m n dl=true) (hG:Qh (RU X0 a x y) Gl)
  (h:∀f w,Cx X0 a x y w→Sp x y w0 x y w Zl→Keep (J2 ops m) f0 f→x7 P ops Q (RU X0 a x y) Gl f () w ops.toList dl 0∧(Deps ops Gl f () w (List.range m)→Sq P ops n Q (ops.toList.drop m) f w)):
  W fc P (Code.region id ops true) n D Q f0 w0:=
 Sc hm m dl () (RU X0 a x y) Gl chk WE (fun _ _ _ _ _ _ h k=>⟨k.1,h.2.trans k.2⟩) hG fun f s w r k=>h f w r.1 r.2 k
end
end Go.Wf
namespace Go.Wf
open Go Go.RowKit
variable{σ:Type}{R R0:σ→World→σ→World→Prop}
section
variable {fc:Fence} [Fw fc] {P:Program} {ops:Array Oper} {n:Nat} {D:List Deferred} {Q:Post} {f0:Fr} {w0:World}
def mo{σ:Type}(P:Program)(ops:Array Oper)(Q:Post)(R R0:σ→World→σ→World→Prop)(N:σ→World→Prop)(q:Nat)(Gl:List (σ→Value→World→Prop))(f:Fr)(s:σ)(w:World):List Oper→List (List Nat)→Nat→Prop
 |o::l,d::dl,k=>
  (Deps ops Gl f s w d→(Nat.beq k q=true→N s w)→OpSt P ops f o w (fun v w'=>∃s',(bif Nat.beq k q then R else R0) s w s' w'∧(Gl.getD k noG) s' v w') (fun ch w'=>∀f,Q (.panic ch) f w'))∧mo P ops Q R R0 N q Gl f s w l dl (k+1)
 |_,_,_=>True
def y4{σ:Type}(R R0:σ→World→σ→World→Prop)(q:Nat):List (σ→Value→World→Prop)→Nat→Prop
 |[],_=>True
 |g::r,k=>(∀v s w s' w',g s v w→(bif Nat.beq k q then R0 else R) s w s' w'→g s' v w')∧y4 R R0 q r (k+1)
theorem y4.at{q:Nat}:∀(Gl:List (σ→Value→World→Prop)) (k:Nat),y4 R R0 q Gl k→∀j v s w s' w',(Gl.getD j noG) s v w→(bif Nat.beq (k+j) q then R0 else R) s w s' w'→(Gl.getD j noG) s' v w':=by
 intro Gl
 induction Gl with
 |nil=>intro k _ j v s w s' w' _ _;simp[List.getD,noG]
 |cons g r ih=>
  intro k h j v s w s' w' hg hr;cases j with
  |zero=>exact h.1 v s w s' w' hg hr
  |succ j=>exact ih (k+1) h.2 j v s w s' w' hg (by rw[show k+1+j=k+(j+1) by omega];exact hr)
theorem mo.at{N:σ→World→Prop}{q:Nat}{Gl:List (σ→Value→World→Prop)}{f:Fr}{s:σ}{w:World}:∀(l:List Oper) (dl:List (List Nat)) (k:Nat),mo P ops Q R R0 N q Gl f s w l dl k→
  ∀i o,l[i]? =some o→i<dl.length→Deps ops Gl f s w (dl.getD i [])→(Nat.beq (k+i) q=true→N s w)→
   OpSt P ops f o w (fun v w'=>∃s',(bif Nat.beq (k+i) q then R else R0) s w s' w'∧(Gl.getD (k+i) noG) s' v w') (fun ch w'=>∀f,Q (.panic ch) f w'):=by
 intro l
 induction l with
 |nil=>intro dl k _ i o h;simp at h
 |cons x l ih=>
  intro dl k hst i o ho hi;cases dl with
  |nil=>simp at hi
  |cons d dl=>
   cases i with
   |zero=>simp at ho;subst ho;exact hst.1
   |succ i=>
    have:=ih dl (k+1) hst.2 i o O' ς
    intro b a;rw[show k+(i+1)=k+1+i by omega] at a ⊢;exact this (by simpa using b) a
theorem tQ  {s0:σ} {m q:Nat} {dl:List (List Nat)} (F:DrawFacts ops m n dl)  {N:σ→World→Prop} {Gl:List (σ→Value→World→Prop)}
  (htr:∀s a t b u c,R s a t b→R t b u c→R s a u c) (A:∀s a t b,R0 s a t b→R s a t b) (hN:∀s a t b,N s a→R0 s a t b→N t b) (hG:y4 R R0 q Gl 0)
  (hst:∀f s w,R s0 w0 s w→Keep (J2 ops m) f0 f→mo P ops Q R R0 N q Gl f s w ops.toList dl 0)
  (htail:∀f s w,R s0 w0 s w→Keep (J2 ops m) f0 f→Deps ops Gl f s w (List.range m)→Sq P ops n Q (ops.toList.drop m) f w):
  ∀(fuel:Nat) (L:Array Bool) (a:Act) (s:σ) (w:World),unl ops.size L=fuel→L.size=ops.size→Xl ops L→
   (∀i,i<ops.size→m≤i→L.getD i true=false)→Good n D a→R s0 w0 s w→Keep (J2 ops m) f0 (frOf a)→
   (∀j,j<m→L.getD j true=true→(Gl.getD j noG) s (frOf a (Ye ops j)) w)→(L.getD q true=false→N s w)→
   wpAnyIn fc 0 P .any ops (fun e a' w'=>Good n D a'∧Q e (frOf a') w') fuel L a w:=by
 intro fuel;have bridge:∀(L:Array Bool),L.size=ops.size→∀i,i<ops.size→L.getD i false=L.getD i true:=by
  intro L hs i hi
  have:L[i]? =some L[i]:=by simp[hs,hi]
  simp[Ts,this]
 have done:∀(L:Array Bool) (a:Act) (s:σ) (w:World),unl ops.size L=ops.size-m→L.size=ops.size→(∀i,i<m→L.getD i true=true)→
   (∀i,i<ops.size→m≤i→L.getD i true=false)→Good n D a→R s0 w0 s w→Keep (J2 ops m) f0 (frOf a)→
   (∀j,j<m→L.getD j true=true→(Gl.getD j noG) s (frOf a (Ye ops j)) w)→
   wpAnyIn fc 0 P .any ops (fun e a' w'=>Good n D a'∧Q e (frOf a') w') (ops.size-m) L a w:=by
  intro L a s w _ hs hall hno ha hR hK hg;refine BO F (ops.size-m) m L a w (Tu _) (by have:=F.le;omega) hs ?_ ha (htail _ _ _ hR hK (Deps.of _ fun j hj=>hg j Wr (hall j Wr)));intro i hi;constructor
  ·intro h;rcases TN i m with hl|hl
   ·exact hl
   ·rw[hno i hi hl] at h;cases h
  ·intro h;exact hall i h
 have cnt:∀(L:Array Bool),(∀i,i<m→L.getD i true=true)→(∀i,i<ops.size→m≤i→L.getD i true=false)→unl ops.size L=ops.size-m:=by
  intro L l p;have hle:=F.le
  have:∀N,m≤N→N≤ops.size→unl N L=N-m:=by
   intro N hN
   induction N with
   |zero=>intro _;simp[unl]
   |succ N ih=>
    intro _;simp only[unl,List.range_succ,List.countP_append,Ut];rcases VD hN with e|hlt
    ·have:unl N L=0:=by
      refine Ur.2 ?_;intro i hi;have hi':i<N:=by simpa using hi
      simp[l i ω]
     unfold unl at this;rw[this,l N ω];simp;omega
    ·have:=ih ω ω
     unfold unl at this;rw[this,p N ω ω];simp;omega
  exact this ops.size hle (Tu _)
 induction fuel with
 |zero=>
  intro L a s w hu hs hc hno ha hR hK hg hNn;have hall:=qf hu;have hall':∀i,i<m→L.getD i true=true:=fun i hi=>hall i (by have:=F.le;omega);have hu':=cnt L hall' hno
  have:=done L a s w hu' hs hall' hno ha hR hK hg
  rw[hu'.symm,hu] at this;exact this
 |succ fuel ih=>
  intro L a s w hu hs hc hno ha hR hK hg hNn;by_cases hall:∀i,i<m→L.getD i true=true
  ·have hu':=cnt L hall hno
   have:=done L a s w hu' hs hall hno ha hR hK hg
   rw[hu'.symm,hu] at this;exact this
  ·
   have hex:∃i,i<m∧L.getD i true=false:=by
    refine T6 fun hn=>hall fun i hi=>?_
    cases hb:L.getD i true with
    |true=>rfl
    |false=>exact absurd ⟨i,hi,hb⟩ hn
   have hmin:∃i,i<m∧L.getD i true=false∧∀j,j<i→L.getD j true=true:=by
    obtain⟨i,hi,hb⟩:=hex
    induction i using Nat.strongRecOn with
    |_ i ihh=>
     by_cases h:∃j,j<i∧L.getD j true=false
     ·obtain⟨j,hj,hjb⟩:=h;exact ihh j hj ω hjb
     ·refine⟨i,hi,hb,fun j hj=>?_⟩
      cases hjb:L.getD j true with
      |true=>rfl
      |false=>exact absurd ⟨j,hj,hjb⟩ h
   obtain⟨i0,_,x,hlow⟩:=hmin;have hle:=F.le;have y:i0∈Region.ready .any ops L:=by
    have hok:ops[i0]? =some ops[i0]:=by simp[show i0<ops.size by omega]
    refine J4.2 ⟨by omega,x,ops[i0],hok,?_⟩;intro e he hbe;have hlt:=F.back i0 _ hok e he hbe;rw[bridge L hs _ ω];exact hlow _ hlt
   refine⟨(fun hnil=>by rw[hnil] at y;cases y),?_⟩;intro i hi;obtain⟨l,p,o,ho,z⟩:=J4.1 hi;have him:i<m:=by
    rcases TN i m with hl|hl
    ·exact hl
    ·exfalso
     have:=Ym hs hc ops.size i0 i l (fun o' ho'=>by rw[ho] at ho';cases ho';exact z) (F.tail i l hl i0 ω)
     rw[bridge L hs i0 ω,x] at this;cases this
   have hdep:Deps ops Gl (frOf a) s w (dl.getD i []):=by
    refine Deps.of _ fun j hj=>?_
    obtain⟨hanc,hjm⟩:=F.deps i him j hj
    have:=Ym hs hc ops.size j i l (fun o' ho'=>by rw[ho] at ho';cases ho';exact z) hanc
    rw[bridge L hs j ω] at this;exact hg j hjm this
   have hstep:=mo.at ops.toList dl 0 (hst (frOf a) s w hR hK) i o O' XD hdep (fun e=>hNn (by rw[←Wg i,VC e] at p;exact p));rw[Wg] at hstep;have hsome:=F.some i him;rw[ho] at hsome;have hdi:Ye ops i=(o.dst).getD 0:=by simp[Ye,ho]
   obtain⟨d,hd⟩:=Wk.1 hsome;simp only[Wi] at hd;have hdd:Ye ops i=d:=by rw[hdi,hd];rfl
   have hlo:=F.dst i o ho;refine zj (Kv:=fun v w'=>∃s',(bif Nat.beq i q then R else R0) s w s' w'∧(Gl.getD i noG) s' v w') (Kp:=fun ch w'=>∀f,Q (.panic ch) f w') ho ha hstep ?_ ?_
   ·rintro v w' ⟨s',g,hgv⟩;have hRR:R s w s' w':=by
     cases hb:Nat.beq i q with
     |true=>rw[hb] at g;exact g
     |false=>rw[hb] at g;exact A _ _ _ _ g
    refine ih _ _ s' _ ?_ M' ?_ ?_ (ha.put _ _) (htr _ _ _ _ _ _ hR hRR) ?_ ?_ ?_
    ·have:=V8 hs l p;omega
    ·intro k hk hl o' ho' e he hb;rw[Ts,TB];by_cases e1:i=e.on
     ·subst e1;simp[hs,l]
     ·simp only[e1,if_false];rw[←Ts];by_cases e2:i=k
      ·subst e2;rw[ho] at ho';cases ho';exact z e he hb
      ·rw[Ts,TB] at hl;simp only[e2,if_false] at hl;rw[←Ts] at hl;exact hc k hk hl o' ho' e he hb
    ·intro k hk hmk
     have:¬i=k:=ω
     rw[Ts,TB];simp only[this,if_false];rw[←Ts];exact hno k hk hmk
    ·rw[Yp ha _ hlo,hd];intro t ht;have htd:t≠d:=by
      rintro rfl
      have:t∈J2 ops m:=by
       refine UO.2 ⟨o,?_,hd⟩;have h':ops.toList[i]? =some o:=by simpa using ho
       have:(ops.toList.take m)[i]? =some o:=by rw[UD,if_pos him];exact h'
       exact US this
      have:(J2 ops m).contains t=true:=by simpa using this
      rw[this] at ht;cases ht
     simp only[updO,upd,htd,if_false];exact hK t ht
    ·intro j hj hl;rw[Yp ha _ hlo,hd];by_cases e:j=i
     ·subst e;rw[hdd];simp only[updO,upd,if_true];exact hgv
     ·have hne:Ye ops j≠d:=by rw[←hdd];exact F.apart i him j hj e
      simp only[updO,upd,hne,if_false];have e':¬i=j:=fun h=>e h.symm;rw[Ts,TB] at hl;simp only[e',if_false] at hl;rw[←Ts] at hl;have hsj:=y4.at Gl 0 hG j _ s w s' w' (hg j hj hl);rw[Wg] at hsj;cases hb:Nat.beq j q with
      |true=>
       have hjq:=VC hb;subst hjq;rw[hb] at hsj;have hbi:Nat.beq i j=false:=Bool.eq_false_iff.2 fun e=>e' (VC e);rw[hbi] at g;exact hsj g
      |false=>rw[hb] at hsj;exact hsj hRR
    ·intro hl;rw[Ts,TB] at hl;by_cases e:i=q
     ·subst e;simp[hs,l] at hl
     ·simp only[e,if_false] at hl;rw[←Ts] at hl;have hbi:Nat.beq i q=false:=Bool.eq_false_iff.2 fun e2=>e (VC e2);rw[hbi] at g;exact hN _ _ _ _ (hNn hl) g
   ·intro c w' hq;exact hq _
structure RA (X0:Nat→Prop) (b0:Bs) (s:Gh) (w:World) (s':Gh) (w':World):Prop where
 cx:Cx X0 b0 s'.1 s'.2 w'
 yy:s'.2=s.2
 ap:Ap s.1 w s'.1 s.2 w'
end
end Go.Wf
namespace Go.Wf
open Go
variable{v:Value}{w:World}{α:Type}
mutual
def okE:GExpr→Prop
 |.mk _ _ c s l=>c.num.mag.length≤1000∧c.den.mag.length≤1000∧s.length≤1000∧okL l
def okL:List GExpr→Prop
 |[]=>True
 |a::l=>okE a∧okL l
end
theorem Qo(a:GExpr):okE a=(a.c.num.mag.length≤1000∧a.c.den.mag.length≤1000∧a.name.length≤1000∧okL a.args):=by cases a;rw[okE];rfl
theorem qK:∀ {l:List GExpr},okL l↔∀i,i<l.length→okE (l.getD i Δ)
 |[]=>⟨fun _ i h=>absurd h (TC _),fun _=>trivial⟩
 |a::l=>by
  rw[okL,qK (l:=l)];constructor
  ·rintro⟨b,d⟩ i hi
   cases i with
   |zero=>exact b
   |succ i=>exact d i XM
  ·intro h;exact⟨h 0 χ,fun i hi=>h (i+1) B'⟩
theorem xL{a:GExpr}{i:Nat}(h:okE a)(hi:i<a.args.length):okE (a.args.getD i Δ):=by
 rw[Qo] at h;exact qK.1 h.2.2.2 i hi
theorem rX:∀n:Nat,∀a:GExpr,SizeOf.sizeOf a<n→Yi a=true→okE a:=by
 intro n
 induction n with
 |zero=>intro _ h;exact absurd h (TC _)
 |succ n ih=>
  intro a _ h;obtain⟨_,_,_,_,b⟩:=K9.1 h;rw[Qo];exact⟨by omega,o,o,qK.2 fun i hi=>ih _ (by have:=Kz hi;omega) (b i hi)⟩
theorem ue{a:GExpr}(h:Yi a=true):okE a:=rX _ a (VM _) h
theorem qo(a:GExpr):a.args.length<cntE a:=by rw[Z7];have:=zd a.args;omega
theorem RV.n_max{X:Nat→Prop}{a:GExpr}(h:RV Jc X w v a):a.n.length≤9223372036854775807:=by
 obtain⟨_,_,_,_,_,_,_,_,_,h'⟩:=SR h;obtain⟨_,_,_,_,_⟩:=h'.n.len;have hml:maxLen=9223372036854775807:=rfl;omega
theorem Ju {X:Nat→Prop}  {a e g i:Value} (m:GExpr) (j: -9223372036854775808≤m.op) (k:m.op≤9223372036854775807) (l:m.name.length≤maxLen)
  (p:RS Zg X w a m.n) (s:RS Jh X w e m.c.num.mag) (v:RS Jh X w g m.c.den.mag) (x:RS Jc X w i m.args):
  Jc.rd X w [.int .i64 m.op,a,.bool m.c.num.neg,e,.bool m.c.den.neg,g,str m.name,i] m:=by
 have h:=Vg (b:=m.c.num.neg) (d:=m.c.den.neg) j k l p s v x;cases m;exact h
theorem zI{a:GExpr}(h:¬(cntE a≤60∧lvlE a≤12)):7=Jn a:=by unfold Jn;rw[if_neg h]
theorem GD{a:GExpr}(h:cntE a≤60∧lvlE a≤12):errE a=Jn a:=by unfold Jn;rw[if_pos h]
def Y3:GRat:=⟨⟨false,[]⟩,⟨false,[]⟩⟩
def Xu:GExpr:= .mk 0 [] Y3 [] []
def lowC(o:Int)(c:GRat):GRat:=if o=1 then ofQ c.q else Y3
mutual
def lowE:GExpr→GExpr
 |.mk o n c s l=> .mk o n (lowC o c) s (lowL l)
def lowL:List GExpr→List GExpr
 |[]=>[]
 |a::l=>lowE a::lowL l
end
mutual
def repE(nm:List UInt8)(y:GExpr):GExpr→GExpr
 |.mk o n c s l=>if o=8∧s=nm then y else .mk o n c s (repL nm y l)
def repL(nm:List UInt8)(y:GExpr):List GExpr→List GExpr
 |[]=>[]
 |a::l=>repE nm y a::repL nm y l
end
theorem zb(a:GExpr):lowE a= .mk a.op a.n (lowC a.op a.c) a.name (lowL a.args):=by cases a;rw[lowE];rfl
theorem q9(nm:List UInt8)(y a:GExpr):repE nm y a=if a.op=8∧a.name=nm then y else .mk a.op a.n a.c a.name (repL nm y a.args):=by cases a;rw[repE];rfl
theorem Kx:∀l:List GExpr,lowL l=l.map lowE
 |[]=>rfl
 |a::l=>by rw[lowL,Kx l];rfl
theorem Xo(nm:List UInt8)(y:GExpr):∀l:List GExpr,repL nm y l=l.map (repE nm y)
 |[]=>rfl
 |a::l=>by rw[repL,Xo nm y l];rfl
theorem Bk{f:GExpr→GExpr}{l:List GExpr}{i:Nat}(h:i<l.length):(l.map f).getD i Δ=f (l.getD i Δ):=by
 rw[Tq,Tq,TV,Tt h];rfl
section
variable {a y:GExpr} {nm:List UInt8} {p:List GExpr} {i:Nat}
theorem Di(hp:p=lowL (a.args.take i))(hi:i<a.args.length):p++[lowE (a.args.getD i Δ)]=lowL (a.args.take (i+1)):=by
 rw[hp,xm hi,Kx,Kx,UK];rfl
theorem B5(hp:p=repL nm y (a.args.take i))(hi:i<a.args.length):p++[repE nm y (a.args.getD i Δ)]=repL nm y (a.args.take (i+1)):=by
 rw[hp,xm hi,Xo,Xo,UK];rfl
theorem G9(hp:p=lowL (a.args.take i))(hi:a.args.length≤i):GExpr.mk a.op a.n ⟨⟨(lowC a.op a.c).num.neg,(lowC a.op a.c).num.mag⟩,⟨(lowC a.op a.c).den.neg,(lowC a.op a.c).den.mag⟩⟩ a.name p=lowE a:=by
 rw[zb,hp,mt hi]
theorem Gs(b:a.op=8)(d:a.name=nm):y=repE nm y a:=by rw[q9,if_pos ⟨b,d⟩]
theorem IF(h:¬(a.op=8∧a.name=nm))(hp:p=repL nm y (a.args.take i))(hi:a.args.length≤i):GExpr.mk a.op a.n ⟨⟨a.c.num.neg,a.c.num.mag⟩,⟨a.c.den.neg,a.c.den.mag⟩⟩ a.name p=repE nm y a:=by
 rw[q9,if_neg h,hp,mt hi]
end
theorem Es{T:Ty α}{x:Nat→Prop}{l:List α}(h:RS T x w v l):l.length≤9223372036854775807:=by
 obtain⟨_,_,_,_,_⟩:=h.len
 have:maxLen=9223372036854775807:=rfl
 omega
theorem JL{x:Nat→Prop}{a:GInt}(h:RV Z0 x w v a):a.mag.length≤9223372036854775807:=by
 obtain⟨_,_,_,b⟩:=RV.int h;exact Es b
theorem Vo{p:GExpr→Prop}(h:∀a,(∀i,i<a.args.length→p (a.args.getD i Δ))→p a):∀a,p a:=by
 have:∀n:Nat,∀a:GExpr,SizeOf.sizeOf a<n→p a:=by
  intro n
  induction n with
  |zero=>intro _ h;exact absurd h (TC _)
  |succ n ih=>intro a _;exact h a fun i hi=>ih _ (by have:=Kz hi;omega)
 exact fun a=>this _ a (VM _)
theorem rJ{f:GExpr→GExpr}{k:Nat}:∀l:List GExpr,(∀i,i<l.length→cntE (f (l.getD i Δ))≤cntE (l.getD i Δ)*k)→cntL (l.map f)≤cntL l*k
 |[],_=>by simp[cntL]
 |a::l,h=>by
  have b:=h 0 χ;have d:=rJ l fun i _=>h (i+1) B';rw[TU,cntL,cntL,U2];simp only[TK] at b;omega
theorem xV:∀a:GExpr,cntE (lowE a)≤cntE a*1:=Vo fun a ih=>by
 rw[zb,cntE,Kx,Z7 a]
 have:=rJ (f:=lowE) (k:=1) a.args ih
 omega
theorem Ii(nm:List UInt8)(y:GExpr):∀a:GExpr,cntE (repE nm y a)≤cntE a*cntE y:=Vo fun a ih=>by
 have hy:=qh y;rw[q9];split
 ·exact Nat.le_mul_of_pos_left _ (qh a)
 ·rw[cntE,Xo,Z7 a]
  have:=rJ (f:=repE nm y) (k:=cntE y) a.args ih
  rw[U2];omega
theorem y7:∀ {l:List GExpr},errL l=0↔∀i,i<l.length→errE (l.getD i Δ)=0
 |[]=>⟨fun _ i h=>absurd h (TC _),fun _=>by rw[errL]⟩
 |a::l=>by
  rw[errL];constructor
  ·intro h i hi;by_cases b:errE a=0
   ·rw[if_pos b] at h;cases i with
    |zero=>exact b
    |succ i=>exact y7.1 h i XM
   ·rw[if_neg b] at h;exact absurd h b
  ·intro h;rw[if_pos (show errE a=0 from h 0 χ)];exact y7.2 fun i hi=>h (i+1) B'
theorem za{a:GExpr}:errE a=0↔Xm a=0∧∀i,i<a.args.length→errE (a.args.getD i Δ)=0:=by
 rw[xd];constructor
 ·intro h;by_cases b:Xm a=0
  ·rw[if_pos b] at h;exact⟨b,y7.1 h⟩
  ·rw[if_neg b] at h;exact absurd h b
 ·rintro⟨d,e⟩
  rw[if_pos d];exact y7.2 e
theorem z6{a:GExpr}:Xm a=0↔(cntOk a∧nameOk a)∧mH a:=by
 unfold Xm;constructor
 ·intro h;by_cases b:cntOk a∧nameOk a
  ·rw[if_pos b] at h;by_cases d:mH a
   ·exact⟨b,d⟩
   ·rw[if_neg d] at h;cases h
  ·rw[if_neg b] at h;cases h
 ·rintro⟨b,d⟩
  rw[if_pos b,if_pos d]
theorem qF{a:GExpr}{c:GRat}{l:List GExpr}(h:Xm a=0)(hc:a.op=1∨Xr c.q=0)(hl:l.length=a.args.length):Xm (.mk a.op a.n c a.name l)=0:=by
 obtain⟨⟨b,d⟩,g⟩:=z6.1 h;refine z6.2 ⟨⟨⟨b.o1,b.o2,b.n1,b.n2,?_,?_⟩,⟨d.e,d.s,hc⟩⟩,g⟩
 ·show cC a.op≤((l.length:Nat):Int);rw[hl];exact b.a1
 ·show((l.length:Nat):Int)≤cD a.op
  rw[hl];exact b.a2
theorem vX:Xr Y3.q=0:=by
 unfold Y3 GRat.q;simp[Xr,GInt.toZ,val,Yh]
theorem rL:∀a:GExpr,errE a=0→errE (lowE a)=0:=Vo fun a ih h=>by
 obtain⟨d,e⟩:=za.1 h;rw[zb];refine za.2 ⟨qF d ?_ (by rw[Kx,UG]),?_⟩
 ·rcases Classical.em (a.op=1) with b|b
  ·exact .inl b
  ·exact .inr (by rw[lowC,if_neg b];exact vX)
 ·intro i hi;have hi':i<a.args.length:=by simpa[GExpr.args,Kx] using hi
  show errE ((lowL a.args).getD i Δ)=0;rw[Kx,Bk hi'];exact ih i hi' (e i hi')
theorem xS{nm:List UInt8}{y:GExpr}(hy:errE y=0):∀a:GExpr,errE a=0→errE (repE nm y a)=0:=Vo fun a ih h=>by
 obtain⟨b,d⟩:=za.1 h;rw[q9];split
 ·exact hy
 ·refine za.2 ⟨qF b (z6.1 b).1.2.c (by rw[Xo,UG]),?_⟩;intro i hi;have hi':i<a.args.length:=by simpa[GExpr.args,Xo] using hi
  show errE ((repL nm y a.args).getD i Δ)=0;rw[Xo,Bk hi'];exact ih i hi' (d i hi')
def smE(a:GExpr):Prop:=∃(X:Nat→Prop) (w:World) (v:Value),RV Jc X w v a
theorem E3{a:GExpr}{i:Nat}(h:smE a)(hi:i<a.args.length):smE (a.args.getD i Δ):=by
 obtain⟨X,w,_,h⟩:=h;obtain⟨_,_,_,_,_,_,_,_,_,h'⟩:=SR h;obtain⟨_,_,_,_,_,b⟩:=h'.args;rcases b with b|⟨_,_,_,_,b⟩
 ·rw[b] at hi;exact absurd hi (TC _)
 ·obtain⟨cs,hr,_⟩:=b i (a.args.getD i Δ) (Je hi);exact⟨X,w,.agg cs.toArray,cs,rfl,hr⟩
inductive Rr (α:Type) where
 |ok (a:α) (p:Nat)
 |er (e:Int) (p:Nat)
def Rr.th{α β:Type}(x:Rr α)(f:α→Nat→Rr β):Rr β:=match x with
 |.ok a p=>f a p
 |.er e p=> .er e p
theorem Rr.th_ok{β:Type}(a:α)(p:Nat)(f:α→Nat→Rr β):(Rr.ok a p).th f=f a p:=rfl
def spM(s:List UInt8)(p:Nat):Nat:=p+((s.drop p).takeWhile (fun c=>decide (c.toNat=32))).length
def hdM(s:List UInt8)(p:Nat):Nat:=(s.getD (spM s p) 0).toNat
def folB(s:List UInt8)(p c:Nat):Bool:=decide (spM s p<s.length∧hdM s p=c)
def tkM(s:List UInt8)(p c:Nat):Rr Unit:=if folB s p c then .ok () (spM s p+1) else .er 19 (spM s p)
def opnM(s:List UInt8)(o p:Nat):Rr Unit:=if folB s p 40 then(if o=64 then .er 7 (spM s p) else .ok () (spM s p+1)) else .er 19 (spM s p)
def digL(s:List UInt8)(p:Nat):List UInt8:=(s.drop p).takeWhile digB
def dgsM(s:List UInt8)(p:Nat):Rr (List UInt8):=
 if digL s (spM s p)=[] then .er 19 (spM s p) else .ok (digL s (spM s p)) (spM s p+(digL s (spM s p)).length)
def Jm(d:List UInt8):Nat:=d.foldl (fun n c=>n*10+(c.toNat-48)) 0
def fpM(s:List UInt8)(p c:Nat):Nat:=if folB s p c then spM s p+1 else spM s p
def intM(s:List UInt8)(p:Nat):Rr Int:=(dgsM s (fpM s p 45)).th fun d q=>
 if 1000000<Jm d then .er 2 (spM s p) else .ok (if folB s p 45 then -(Jm d:Int) else(Jm d:Int)) q
def Vj(s:List UInt8)(c:Nat):Nat→List Int→Nat→Rr (List Int)
 |0,_,p=> .er 0 p
 |k+1,l,p=>if folB s p 44 then(intM s (spM s p+1)).th fun i q=>Vj s c k (l++[i]) q
  else(tkM s p c).th fun _ q=> .ok l q
def Vf(s:List UInt8)(c p:Nat):Rr (List Int):=(intM s p).th fun i q=>Vj s c (s.length+1) [i] q
def eNum(n d:Int):GExpr:= .mk 1 [] (ofQ (Rat.divInt n d)) [] []
def eOp(op:Int)(n:List Int)(l:List GExpr):GExpr:= .mk op n Y3 [] l
def Bo(w:List UInt8):GExpr:= .mk 8 [] Y3 w []
def numM(s:List UInt8)(p:Nat):Rr GExpr:=(dgsM s p).th fun n q=>
 if folB s q 47 then(dgsM s (spM s q+1)).th fun d q'=>
  if Jm d=0 then .er 19 (spM s (spM s q+1)) else .ok (eNum (Jm n) (Jm d)) q'
 else .ok (eNum (Jm n) 1) (spM s q)
def Zt(s:List UInt8)(p:Nat):List UInt8:=(s.drop p).takeWhile okB
section
variable (s:List UInt8) (S:Nat→Nat→Rr GExpr)
def oneM(op:Int)(two:Bool)(o p:Nat):Rr GExpr:=(opnM s o p).th fun _ p1=>(intM s p1).th fun n p2=>(tkM s p2 44).th fun _ p3=>(S (o+1) p3).th fun a p4=>
 if two then(tkM s p4 44).th fun _ p5=>(S (o+1) p5).th fun b p6=>(tkM s p6 41).th fun _ p7=> .ok (eOp op [n] [a,b]) p7
 else(tkM s p4 41).th fun _ p5=> .ok (eOp op [n] [a]) p5
def V5(op:Int)(o p:Nat):Rr GExpr:=(opnM s o p).th fun _ p1=>(Vf s 41 p1).th fun l p2=> .ok (eOp op l []) p2
def twoM(op:Int)(o p:Nat):Rr GExpr:=(opnM s o p).th fun _ p1=>(intM s p1).th fun n p2=>(tkM s p2 41).th fun _ p3=>(tkM s p3 91).th fun _ p4=>
 (Vf s 93 p4).th fun l p5=> .ok (eOp op (n::l) []) p5
def serM(o p:Nat):Rr GExpr:=(opnM s o p).th fun _ p1=>(S (o+1) p1).th fun a p2=>(tkM s p2 41).th fun _ p3=> .ok (eOp 17 [] [a]) p3
def Zx(w:List UInt8)(q o p:Nat):Rr GExpr:=
 if w=[68,101,108,116,97] then .ok (eOp 6 [] []) p
 else if w=[106] then .ok (eOp 7 [] []) p
 else if w=[71] then V5 s 3 o p
 else if w=[110,101,119,102,111,114,109] then V5 s 9 o p
 else if w=[101,116,97] then twoM s 4 o p
 else if w=[116,104,101,116,97] then twoM s 5 o p
 else if w=[86] then oneM s S 13 false o p
 else if w=[85] then oneM s S 14 false o p
 else if w=[84] then oneM s S 15 false o p
 else if w=[116,119,105,115,116] then oneM s S 16 false o p
 else if w=[98,114,97,99,107,101,116] then oneM s S 18 true o p
 else if w=[115,101,114,114,101] then serM s S o p
 else if Km w then .ok (Bo w) p else .er 19 q
def Yg(o p:Nat):Rr (GExpr×Bool):=
 if Ko (hdM s p) then(numM s (spM s p)).th fun a q=> .ok (a,true) q
 else if hdM s p=40 then(opnM s o (spM s p)).th fun _ p1=>(S (o+1) p1).th fun a p2=>(tkM s p2 41).th fun _ p3=> .ok (a,false) p3
 else if Ky (hdM s p) then
  let w:=Zt s (spM s p)
  let q:=spM s p+w.length
  if Zj w then(if 1000000<Jm (w.drop 1) then .er 2 (spM s p+1) else .ok (eOp 2 [(Jm (w.drop 1):Int)] [],false) q)
  else(Zx s S w (spM s p) o q).th fun a q=> .ok (a,false) q
 else .er 19 (spM s p)
def powM(o p:Nat):Rr (GExpr×Bool):=(Yg s S o p).th fun a q=>
 if folB s q 94 then(intM s (spM s q+1)).th fun n q'=> .ok (eOp 12 [n] [a.1],false) q' else .ok a (spM s q)
def yj(o:Nat):Nat→List GExpr→Nat→Rr (List GExpr)
 |0,_,p=> .er 0 p
 |k+1,l,p=>if folB s p 42 then(powM s S o (spM s p+1)).th fun a q=>yj o k (l++[a.1]) q else .ok l (spM s p)
def Ki(op:Int)(l:List GExpr):GExpr:=match l with
 |[a]=>a
 |l=>eOp op [] l
def negE(a:GExpr):GExpr:= .mk a.op a.n (ofQ (-a.c.q)) a.name a.args
def negL(minus plain:Bool)(l:List GExpr):List GExpr:=
 if minus then(if plain then negE (l.getD 0 Δ)::l.drop 1 else eNum (-1) 1::l) else l
def Kw(minus:Bool)(o p:Nat):Rr GExpr:=(powM s S o p).th fun a q=>(yj s S o (s.length+1) [a.1] q).th fun l q'=> .ok (Ki 11 (negL minus a.2 l)) q'
def sumL(o:Nat):Nat→List GExpr→Nat→Rr (List GExpr)
 |0,_,p=> .er 0 p
 |k+1,l,p=>if folB s p 43 then(Kw s S false o (spM s p+1)).th fun a q=>sumL o k (l++[a]) q
  else if folB s p 45 then(Kw s S true o (spM s p+1)).th fun a q=>sumL o k (l++[a]) q else .ok l (spM s p)
def sumF(o p:Nat):Rr GExpr:=(Kw s S (folB s p 45) o (fpM s p 45)).th fun a q=>(sumL s S o (s.length+1) [a] q).th fun l q'=> .ok (Ki 10 l) q'
end
def sumM(s:List UInt8):Nat→Nat→Nat→Rr GExpr
 |0,_,p=> .er 0 p
 |k+1,o,p=>sumF s (sumM s k) o p
def Ve(s:List UInt8):Rr GExpr:=(sumM s (s.length+1) 0 0).th fun a p=>if spM s p<s.length then .er 19 (spM s p) else .ok a 0
def Jj(s:List UInt8):GExpr×Nat×Int:=if 4000<s.length then(Xu,0,7) else match Ve s with
 |.er e p=>(Xu,p,e)
 |.ok a _=>if Jn a=0 then(a,0,0) else(Xu,0,Jn a)
theorem Xk{s:List UInt8}{p:Nat}:p≤spM s p:=Nat.le_add_right _ _
theorem mx{α:Type}(f:α→Bool):∀l:List α,(l.takeWhile f).length≤l.length
 |[]=>Tu _
 |a::l=>by
  rw[List.takeWhile_cons];split
  ·simp only[Td];have:=mx f l;omega
  ·exact Tv _
theorem K2{s:List UInt8}{p:Nat}(h:p≤s.length):spM s p≤s.length:=by
 unfold spM
 have:=mx (fun c:UInt8=>decide (c.toNat=32)) (s.drop p)
 rw[Tn] at this;omega
theorem zg{s:List UInt8}{p:Nat}(h:p<s.length):s.drop p=s.getD p 0::s.drop (p+1):=by
 rw[Uu h,Tq,Tt h];rfl
theorem wT{s:List UInt8}{p:Nat}(h:p<s.length)(a:(s.getD p 0).toNat=32):spM s (p+1)=spM s p:=by
 unfold spM;rw[zg h,List.takeWhile_cons,if_pos (decide_eq_true a),Td];omega
theorem sY{s:List UInt8}{p:Nat}(a:¬(s.getD p 0).toNat=32):spM s p=p:=by
 unfold spM;by_cases h:p<s.length
 ·rw[zg h,List.takeWhile_cons,if_neg (by rw[decide_eq_true_eq];exact a)];rfl
 ·rw[List.drop_eq_nil_of_le ω];rfl
theorem yN{s:List UInt8}{p:Nat}(h:s.length≤p):spM s p=p:=by
 unfold spM;rw[List.drop_eq_nil_of_le h];rfl
theorem wL:∀(n:Nat) (s:List UInt8) (p:Nat),s.length≤p+n→¬(s.getD (spM s p) 0).toNat=32
 |0,s,p,h=>by rw[yN ω,Tq,TQ ω];decide
 |n+1,s,p,h=>by
  by_cases b:p<s.length
  ·by_cases a:(s.getD p 0).toNat=32
   ·rw[←wT b a];exact wL n s (p+1) ω
   ·rw[sY a];exact a
  ·rw[yN ω,Tq,TQ ω];decide
theorem we(s:List UInt8)(p:Nat):spM s (spM s p)=spM s p:=sY (wL s.length s p ω)
theorem Mr{s:List UInt8}{p c:Nat}(a:spM s p<s.length)(b:hdM s p=c):folB s p c=true:=decide_eq_true ⟨a,b⟩
theorem Dg{s:List UInt8}{p c:Nat}(h:¬(spM s p<s.length∧hdM s p=c)):folB s p c=false:=decide_eq_false h
theorem Kc{s:List UInt8}{p c:Nat}:folB s p c=true↔spM s p<s.length∧hdM s p=c:=decide_eq_true_iff
theorem Pz(s:List UInt8)(p:Nat):hdM s (spM s p)=hdM s p:=by unfold hdM;rw[we]
theorem pP(s:List UInt8)(p c:Nat):folB s (spM s p) c=folB s p c:=by unfold folB;rw[we,Pz]
theorem vd{s:List UInt8}{p c:Nat}:p≤fpM s p c:=by
 unfold fpM;have:=Xk (s:=s) (p:=p);split<;>omega
theorem Y2{s:List UInt8}{p c:Nat}(h:p≤s.length):fpM s p c≤s.length:=by
 unfold fpM;have:=K2 h;split
 ·rename_i hf;exact(Kc.1 hf).1
 ·exact this
theorem zD{s:List UInt8}{i p:Nat}(hR:spM s i=spM s p)(h:s.length≤i):i=spM s p:=by rw[←hR,yN h]
theorem Lf{s:List UInt8}{i p:Nat}(hR:spM s i=spM s p)(h:s.length≤i):(0:Int)=((hdM s p:Nat):Int):=by
 unfold hdM;rw[←zD hR h,Tq,TQ h];rfl
theorem E9{s:List UInt8}{i p:Nat}(hR:spM s i=spM s p)(h:¬(s.getD i 0).toNat=32):i=spM s p:=by rw[←hR,sY h]
theorem Oj{s:List UInt8}{i p:Nat}(hR:spM s i=spM s p)(h:¬(s.getD i 0).toNat=32):(((s.getD i 0).toNat:Nat):Int)=((hdM s p:Nat):Int):=by
 unfold hdM;rw[←E9 hR h]
theorem wR{α:Type}(f:α→Bool):∀l:List α,l.takeWhile f=l.take (l.takeWhile f).length
 |[]=>rfl
 |a::l=>by
  rw[List.takeWhile_cons];split
  ·rw[Td,List.take_succ_cons,←wR f l]
  ·rfl
section
variable {f:UInt8→Bool} {s:List UInt8} {i p:Nat}
theorem yT(h:i<s.length)(a:f (s.getD i 0)=true):(i+1)+((s.drop (i+1)).takeWhile f).length=i+((s.drop i).takeWhile f).length:=by
 rw[zg h,List.takeWhile_cons,if_pos a,Td];omega
theorem uh(h:s.length≤i):(s.drop i).takeWhile f=[]:=by rw[List.drop_eq_nil_of_le h];rfl
theorem rF(a:f (s.getD i 0)=false):(s.drop i).takeWhile f=[]:=by
 by_cases h:i<s.length
 ·rw[zg h,List.takeWhile_cons,if_neg (by rw[a];decide)]
 ·exact uh ω
theorem sV(a:(s.drop i).takeWhile f=[])(hR:i+((s.drop i).takeWhile f).length=p+((s.drop p).takeWhile f).length):i=p+((s.drop p).takeWhile f).length:=by
 rw[a] at hR;exact hR
theorem EF(a:(s.drop i).takeWhile f=[])(hR:i+((s.drop i).takeWhile f).length=p+((s.drop p).takeWhile f).length):(s.take i).drop p=(s.drop p).takeWhile f:=by
 have h:=sV a hR;rw[List.drop_take,wR f (s.drop p)]
 congr 1;omega
end
theorem yU{s:List UInt8}{i:Nat}(h:i<s.length)(a:Ky (s.getD i 0).toNat=true∨Ko (s.getD i 0).toNat=true):(i+1)+(Zt s (i+1)).length=i+(Zt s i).length:=by
 refine yT h ?_;unfold okB;rcases a with a|a
 ·rw[a];rfl
 ·rw[a,Bool.or_true]
theorem zF{s:List UInt8}{i:Nat}(a:¬Ky (s.getD i 0).toNat=true)(b:¬Ko (s.getD i 0).toNat=true):Zt s i=[]:=
 rF (Hs (Bool.eq_false_iff.2 a) (Bool.eq_false_iff.2 b))
theorem Fq{s:List UInt8}{i:Nat}(h:s.length≤i):Zt s i=[]:=uh h
theorem EK{s:List UInt8}{i p:Nat}(a:Zt s i=[])(hR:i+(Zt s i).length=p+(Zt s p).length):(s.take i).drop p=Zt s p:=EF a hR
theorem BF{s:List UInt8}{i p:Nat}(a:Zt s i=[])(hR:i+(Zt s i).length=p+(Zt s p).length):i=p+(Zt s p).length:=sV a hR
theorem KQ{s:List UInt8}{i p:Nat}(a:digL s i=[])(hR:i+(digL s i).length=spM s p+(digL s (spM s p)).length)(hc:i=spM s p):dgsM s p= .er 19 i:=by
 have h:digL s (spM s p)=[]:=by rw[←hc];exact a
 unfold dgsM;rw[if_pos h,hc]
theorem Mg{s:List UInt8}{i p:Nat}(a:digL s i=[])(hR:i+(digL s i).length=spM s p+(digL s (spM s p)).length)(hc:¬i=spM s p):dgsM s p= .ok ((s.take i).drop (spM s p)) i:=by
 have b:=sV (f:=digB) a hR;have h:¬digL s (spM s p)=[]:=fun h=>by
  have:(digL s (spM s p)).length=0:=by rw[h];rfl
  unfold digL at this;omega
 unfold dgsM;rw[if_neg h,EF (f:=digB) a hR];unfold digL;rw[←b]
def Rr.fw{α:Type}(s:List UInt8)(p:Nat)(x:Rr α):Prop:=match x with
 |.ok _ q=>p≤q∧q≤s.length
 |.er _ q=>q≤s.length
theorem Rr.fw_th{β:Type}{s:List UInt8}{p:Nat}{x:Rr α}{f:α→Nat→Rr β}(h:x.fw s p)(hf:∀a q,p≤q→q≤s.length→(f a q).fw s q):(x.th f).fw s p:=by
 cases x with
 |ok a q=>
  rw[Rr.th_ok]
  have:=hf a q h.1 h.2
  cases hx:f a q with
  |ok b r=>rw[hx] at this;exact⟨Tj h.1 this.1,this.2⟩
  |er e r=>rw[hx] at this;exact this
 |er e q=>exact h
theorem Rr.fw_mono{s:List UInt8}{p q:Nat}{x:Rr α}(h:x.fw s q)(hp:p≤q):x.fw s p:=by
 cases x with
 |ok a r=>exact⟨Tj hp h.1,h.2⟩
 |er e r=>exact h
theorem Rr.fw_ite{c:Prop}[Decidable c]{s:List UInt8}{p:Nat}{x y:Rr α}(hx:x.fw s p)(hy:y.fw s p):(if c then x else y).fw s p:=by split<;>assumption
theorem Kh{s:List UInt8}{p c:Nat}(h:p≤s.length):(tkM s p c).fw s (p+1):=by
 unfold tkM;have a:=Xk (s:=s) (p:=p);split
 ·rename_i hf;exact⟨by omega,(Kc.1 hf).1⟩
 ·exact K2 h
theorem Zp{s:List UInt8}{o p:Nat}(h:p≤s.length):(opnM s o p).fw s (p+1):=by
 unfold opnM;have a:=Xk (s:=s) (p:=p);split
 ·rename_i hf;split
  ·exact K2 h
  ·exact⟨by omega,(Kc.1 hf).1⟩
 ·exact K2 h
theorem x1{s:List UInt8}{p:Nat}(h:p≤s.length):(dgsM s p).fw s (p+1):=by
 unfold dgsM;have d:=Xk (s:=s) (p:=p);have a:=K2 h;have b:=mx digB (s.drop (spM s p));rw[Tn] at b;split
 ·exact a
 ·rename_i hn
  have:0<(digL s (spM s p)).length:=UH.2 hn
  unfold digL at this ⊢;exact⟨by omega,ω⟩
theorem Z9{s:List UInt8}{p:Nat}(h:p≤s.length):(intM s p).fw s p:=by
 unfold intM;refine Rr.fw_th (Rr.fw_mono (x1 (Y2 h)) (by have:=vd (s:=s) (p:=p) (c:=45);omega)) fun _ _ _ a=>?_
 split
 ·exact K2 h
 ·exact⟨Tu _,a⟩
theorem t6{s:List UInt8}{c:Nat}:∀(k:Nat) (l:List Int) (p:Nat),p≤s.length→(Vj s c k l p).fw s p
 |0,l,p,h=>h
 |k+1,l,p,h=>by
  unfold Vj;have a:=Xk (s:=s) (p:=p);split
  ·rename_i hf;exact Rr.fw_mono (Rr.fw_th (Z9 (Kc.1 hf).1) fun _ q _ hq=>t6 k _ q hq) ω
  ·exact Rr.fw_th (Rr.fw_mono (Kh h) ω) fun _ q _ hq=>⟨Tu _,hq⟩
theorem oh{s:List UInt8}{c p:Nat}(h:p≤s.length):(Vf s c p).fw s p:=Rr.fw_th (Z9 h) fun _ q _ hq=>t6 _ _ q hq
theorem D6{s:List UInt8}{p:Nat}(h:p≤s.length):(numM s p).fw s p:=by
 unfold numM;refine Rr.fw_th (Rr.fw_mono (x1 h) ω) fun _ q _ b=>?_
 have d:=Xk (s:=s) (p:=q);split
 ·rename_i hf;have a:=(Kc.1 hf).1;refine Rr.fw_mono (Rr.fw_th (Rr.fw_mono (x1 (p:=spM s q+1) a) (Nat.le_succ _)) fun _ _ _ e=>?_) ω;split
  ·exact K2 a
  ·exact⟨Tu _,e⟩
 ·exact⟨d,K2 b⟩
section
variable {s:List UInt8} {S:Nat→Nat→Rr GExpr} (hS:∀o p,p≤s.length→(S o p).fw s p)
include hS
theorem pN{op:Int}{two:Bool}{o p:Nat}(h:p≤s.length):(oneM s S op two o p).fw s p:=by
 unfold oneM;refine Rr.fw_th (Rr.fw_mono (Zp h) (Nat.le_succ _)) fun _ _ _ d=>Rr.fw_th (Z9 d) fun _ _ _ e=>Rr.fw_th (Rr.fw_mono (Kh e) (Nat.le_succ _)) fun _ _ _ g=>Rr.fw_th (hS _ _ g) fun _ _ _ b=>?_
 split
 ·exact Rr.fw_th (Rr.fw_mono (Kh b) (Nat.le_succ _)) fun _ j _ a=>Rr.fw_th (hS _ _ a) fun _ _ _ k=>Rr.fw_th (Rr.fw_mono (Kh k) (Nat.le_succ _)) fun _ _ _ l=>⟨Tu _,l⟩
 ·exact Rr.fw_th (Rr.fw_mono (Kh b) (Nat.le_succ _)) fun _ j _ a=>⟨Tu _,a⟩
theorem MF{o p:Nat}(h:p≤s.length):(serM s S o p).fw s p:=
 Rr.fw_th (Rr.fw_mono (Zp h) (Nat.le_succ _)) fun _ _ _ a=>Rr.fw_th (hS _ _ a) fun _ _ _ b=>Rr.fw_th (Rr.fw_mono (Kh b) (Nat.le_succ _)) fun _ _ _ d=>⟨Tu _,d⟩
omit hS in
theorem BB{op:Int}{o p:Nat}(h:p≤s.length):(V5 s op o p).fw s p:=
 Rr.fw_th (Rr.fw_mono (Zp h) (Nat.le_succ _)) fun _ _ _ a=>Rr.fw_th (oh a) fun _ _ _ b=>⟨Tu _,b⟩
omit hS in
theorem D4{op:Int}{o p:Nat}(h:p≤s.length):(twoM s op o p).fw s p:=
 Rr.fw_th (Rr.fw_mono (Zp h) (Nat.le_succ _)) fun _ _ _ a=>Rr.fw_th (Z9 a) fun _ _ _ b=>Rr.fw_th (Rr.fw_mono (Kh b) (Nat.le_succ _)) fun _ _ _ d=>
  Rr.fw_th (Rr.fw_mono (Kh d) (Nat.le_succ _)) fun _ _ _ e=>Rr.fw_th (oh e) fun _ _ _ g=>⟨Tu _,g⟩
theorem Ij{w:List UInt8}{q o p:Nat}(h:p≤s.length)(hq:q≤s.length):(Zx s S w q o p).fw s p:=by
 unfold Zx;have e:∀a:GExpr,(Rr.ok a p).fw s p:=fun a=>⟨Tu _,h⟩;refine Rr.fw_ite (e _) (Rr.fw_ite (e _) (Rr.fw_ite (BB h) (Rr.fw_ite (BB h) (Rr.fw_ite (D4 h) (Rr.fw_ite (D4 h) ?_)))));refine Rr.fw_ite (pN hS h) (Rr.fw_ite (pN hS h) (Rr.fw_ite (pN hS h) (Rr.fw_ite (pN hS h) (Rr.fw_ite (pN hS h) (Rr.fw_ite (MF hS h) (Rr.fw_ite (e _) hq))))))
theorem X2{o p:Nat}(h:p≤s.length):(Yg s S o p).fw s p:=by
 have d:=Xk (s:=s) (p:=p);have b:=K2 h;have hw:spM s p+(Zt s (spM s p)).length≤s.length:=by
  have:=mx okB (s.drop (spM s p))
  rw[Tn] at this;unfold Zt;omega
 unfold Yg;split
 ·exact Rr.fw_mono (Rr.fw_th (D6 b) fun a q _ hq=>⟨Tu _,hq⟩) d
 split
 ·exact Rr.fw_mono (Rr.fw_th (Rr.fw_mono (Zp b) (Nat.le_succ _)) fun _ _ _ e=>Rr.fw_th (hS _ _ e) fun a _ _ g=>Rr.fw_th (Rr.fw_mono (Kh g) (Nat.le_succ _)) fun _ _ _ j=>⟨Tu _,j⟩) d
 split
 ·dsimp only;split
  ·rename_i hwt;split
   ·have:0<(Zt s (spM s p)).length:=by
     unfold Zj at hwt;simp only[T2,decide_eq_true_eq] at hwt;omega
    show _≤_;omega
   ·exact⟨by omega,hw⟩
  ·exact Rr.fw_mono (Rr.fw_th (Ij hS hw b) fun a q _ hq=>⟨Tu _,hq⟩) ω
 ·exact b
theorem mT{o p:Nat}(h:p≤s.length):(powM s S o p).fw s p:=by
 unfold powM;refine Rr.fw_th (X2 hS h) fun _ q _ a=>?_
 have b:=Xk (s:=s) (p:=q);split
 ·rename_i hf;exact Rr.fw_mono (Rr.fw_th (Z9 (Kc.1 hf).1) fun _ _ _ hr=>⟨Tu _,hr⟩) ω
 ·exact⟨b,K2 a⟩
theorem tB{o:Nat}:∀(k:Nat) (l:List GExpr) (p:Nat),p≤s.length→(yj s S o k l p).fw s p
 |0,l,p,h=>h
 |k+1,l,p,h=>by
  unfold yj;have a:=Xk (s:=s) (p:=p);split
  ·rename_i hf;exact Rr.fw_mono (Rr.fw_th (mT hS (Kc.1 hf).1) fun _ q _ hq=>tB k _ q hq) ω
  ·exact⟨a,K2 h⟩
theorem Y5{minus:Bool}{o p:Nat}(h:p≤s.length):(Kw s S minus o p).fw s p:=
 Rr.fw_th (mT hS h) fun _ q _ hq=>Rr.fw_th (tB hS _ _ q hq) fun _ _ _ hr=>⟨Tu _,hr⟩
theorem sX{o:Nat}:∀(k:Nat) (l:List GExpr) (p:Nat),p≤s.length→(sumL s S o k l p).fw s p
 |0,l,p,h=>h
 |k+1,l,p,h=>by
  unfold sumL;have b:=Xk (s:=s) (p:=p);split
  ·rename_i hf;exact Rr.fw_mono (Rr.fw_th (Y5 hS (Kc.1 hf).1) fun a q _ hq=>sX k _ q hq) ω
  split
  ·rename_i hf;exact Rr.fw_mono (Rr.fw_th (Y5 hS (Kc.1 hf).1) fun a q _ hq=>sX k _ q hq) ω
  ·exact⟨b,K2 h⟩
theorem H4{o p:Nat}(h:p≤s.length):(sumF s S o p).fw s p:=
 Rr.fw_mono (Rr.fw_th (Y5 hS (Y2 h)) fun _ q _ hq=>Rr.fw_th (sX hS _ _ q hq) fun _ _ _ hr=>⟨Tu _,hr⟩) vd
end
theorem xz{s:List UInt8}:∀(k o p:Nat),p≤s.length→(sumM s k o p).fw s p
 |0,o,p,h=>h
 |k+1,o,p,h=>H4 (xz k) h
end Go.Wf
namespace Go.Wf
open Go Go.RowKit
variable{a:Operand}{by_ j m:Nat}{e t:TypeId}{vs:List Value}{z:Value}
structure OW {α:Type} (T:Ty α) (E:TypeId) (x:Nat→Prop) (w:World) (v:Value) (l:List α):Prop where
 ex:∃css:List (List Value),css.length=l.length∧(∀(i:Nat) (cs:List Value) (u:α),css[i]? =some cs→l[i]? =some u→T.rd x w cs u)∧w.ownsRow 0 E T.sz v l.length css.flatten
def RetO(w:World)(o:Option Nat)(Φ:Value→World→Prop):Ending→World→Prop
 |.returned v,w'=>Φ v w'∧Bel ⟨w,fun k=>o=some k⟩ w'
 |_,_=>False
def OWr{α:Type}(T:Ty α)(E:TypeId)(X:Nat→Prop)(w:World)(o:Option Nat)(v:Value)(w':World)(l:List α):Prop:=
 OW T E (fun b=>X b∨v.ownBlock=some b) w' v l∧∀k,v.ownBlock=some k→o=some k∨w.heap.size≤k
section
variable {α:Type} {T:Ty α} {E:TypeId} {X X0 x y:Nat→Prop} {w w':World} {w0:Bs} {v:Value} {l:List α}
theorem OW.opn(h:OW T E X w v l):∃a c,v= .slice a l.length c∧l.length≤c∧c≤maxLen:=by
 obtain⟨⟨_,_,_,b⟩⟩:=h;rcases b.2 with ⟨rfl,h⟩|⟨_,cap,_,rfl,_,_,d,e,_⟩
 ·exact⟨none,0,by rw[h],o,by unfold maxLen;omega⟩
 ·exact⟨_,cap,rfl,d,e⟩
theorem OW.start(h:OW T E X w v l)(hX:∀b,X b→b<w.heap.size)(hm:∀k,v.ownBlock=some k→X k):
  ∃M:Nat→Prop,Cx X ⟨w,M⟩ X Zl w∧OS T E ⟨w,M⟩ X Zl w v l∧∀k,M k→v.ownBlock=some k:=
 ⟨fun k=>v.ownBlock=some k,⟨Bel.refl _,fun _ h=>h,hX,fun _ h=>h.elim⟩,⟨h.ex,fun k hk=>⟨⟨hm k hk,id⟩,.inr hk⟩⟩,fun _ h=>h⟩
theorem RetO.fin{M:Nat→Prop}{o:Option Nat}{l':List α}(C:Cx X ⟨w,M⟩ x y w')(hM:∀k,M k→o=some k)(h:OS T E ⟨w,M⟩ x y w' v l)(e:l=l'):RetO w o (fun v w'=>OWr T E X w o v w' l') (.returned v) w':=by
 subst e;refine⟨⟨?_,fun k hk=>?_⟩,⟨C.below.os,C.below.tape,C.below.output,C.below.size,fun k hk hm=>C.below.block k hk fun hmk=>hm (hM k hmk)⟩⟩
 ·obtain⟨⟨css,a,d,g⟩,hm⟩:=h;refine⟨css,a,fun i cs u hi hu=>T.tr (d i cs u hi hu) (Tr.weak ?_),g⟩;rintro b (hb|hb)
  ·exact C.base b hb
  ·exact(hm b hb).1.1
 ·rcases(h.mem k hk).2 with a|a
  ·exact .inr a
  ·exact .inl (hM k a)
theorem Cx.backO{d:Value}{l2:List α}(C:Cx X0 w0 x y w)(ho:∀k,v.ownBlock=some k→(x k∧¬y k)∧(w0.heap.size≤k∨w0.M k))(b:Bel ⟨w,fun k=>v.ownBlock=some k⟩ w')(h:OWr T E x w v.ownBlock d w' l2):
  Cx X0 w0 (fun b=>x b∨d.ownBlock=some b) y w'∧Ap x w (fun b=>x b∨d.ownBlock=some b) y w'∧OS T E w0 (fun b=>x b∨d.ownBlock=some b) y w' d l2:=by
 obtain⟨⟨css,j,m,i⟩,hn⟩:=h;have hsz:w.heap.size≤w'.heap.size:=b.size;have hlt:∀k,d.ownBlock=some k→k<w'.heap.size:=fun k hk=>(i.lt k hk).2;refine⟨⟨⟨b.os.trans C.below.os,b.tape.trans C.below.tape,b.output.trans C.below.output,Tj C.below.size hsz,fun k hk hm=>?_⟩,fun k hk=> .inl (C.base k hk),?_,fun k hk=> .inl (C.yx k hk)⟩,⟨⟨?_,fun k hk hx=>b.block k hk fun e=>hx (ho k e).1.1,hsz⟩,fun k hk hy=>b.block k hk fun e=>(ho k e).1.2 hy⟩,⟨⟨css,j,m,i⟩,fun k hk=>?_⟩⟩
 ·refine(b.block k (Ti hk C.below.size) fun e=>?_).trans (C.below.block k hk hm)
  rcases(ho k e).2 with g|g
  ·omega
  ·exact hm g
 ·rintro k (hk|hk)
  ·exact Ti (C.bd k hk) hsz
  ·exact hlt k hk
 ·rintro k hk (g|g)
  ·exact g
  ·rcases hn k g with a|a
   ·exact(ho k a).1.1
   ·omega
 ·rcases hn k hk with a|a
  ·exact⟨⟨.inr hk,(ho k a).1.2⟩,(ho k a).2⟩
  ·exact⟨⟨.inr hk,fun hy=>by have:=C.bd k (C.yx k hy);omega⟩,.inl (Tj C.below.size a)⟩
theorem OS.ow(h:OS T E w0 x y w v l):OW T E x w v l:=⟨h.ex⟩
theorem OS.take{a:Option Addr}{n c:Nat}(h:OS T E w0 x y w (.slice a n c) l)(hj:j≤l.length):OS T E w0 x y w (.slice a j c) (l.take j):=by
 obtain⟨⟨css,m,b,p⟩,hm⟩:=h;have hall:=Ks m b;have hfl:∀(css:List (List Value)) (j:Nat),(∀cs∈css,cs.length=T.sz)→j≤css.length→(css.take j).flatten=css.flatten.take (j*T.sz)∧(css.take j).flatten.length=j*T.sz:=by
  intro css
  induction css with
  |nil=>intro j _ hj;simp at hj;subst hj;simp
  |cons cs css ih=>
   intro j hh hj;cases j with
   |zero=>simp
   |succ j=>
    obtain⟨e1,e2⟩:=ih j (fun q hq=>hh q WG) Wr;have d:=hh cs χ;rw[List.take_succ_cons,Uy,Uy,List.take_append,e1,Wb,d];refine⟨?_,?_⟩
    ·rw[show cs.take (j*T.sz+T.sz)=cs from TE o,show j*T.sz+T.sz-T.sz=j*T.sz by omega]
    ·rw[Tc,←e1,e2,d];omega
 obtain⟨e1,e2⟩:=hfl css j hall o;refine⟨⟨css.take j,by rw[To,To];omega,fun i cs u hi hu=>?_,?_⟩,fun k hk=>hm k (by cases a<;>simp[Value.ownBlock] at hk ⊢ <;> exact hk)⟩
 ·rw[UD] at hi hu;split at hi
  ·rename_i hlt;rw[if_pos hlt] at hu;exact b i cs u hi hu
  ·cases hi
 ·have hjl:(l.take j).length=j:=by rw[To];omega
  rw[hjl];refine⟨e2,?_⟩;rcases p.2 with ⟨e,h⟩|⟨g,_,cur,e,hb,hg,_,s,z,A⟩
  ·cases e;left;refine⟨by rw[show j=0 by omega],o⟩
  ·injection e with B D C;subst B;subst C;right;refine⟨g,c,cur,rfl,hb,hg,o,s,z,?_⟩;rw[e1,←A,List.take_take,VN (VQ _ hj)]
end
section
variable {P:Program} {ρ:Operand→Value} {w:World} {K:Value→World→Prop} {Kp:List PanicEntry→World→Prop} {dst:Option Tmp} {ty:TypeId} {pos:String} {after:Array Edge} {gd:Option (Nat×Bool)} {X0 x y:Nat→Prop} {w0:Bs} {α:Type} {T:Ty α} {E:TypeId}
theorem RO {k:FuncId} {args:Array Operand} {ts:Array TypeId}  {d:Value} {l l2:List α} (C:Cx X0 w0 x y w) (ho:OS T E w0 x y w d l) (hk:Jd P k=true)
  (ha:args.toList.map ρ=vs) (he:ρ (.func k)= .func (.func k) #[] #[]) (hc:Calls P k vs.toArray w (RetO w d.ownBlock fun v w'=>OWr T E x w d.ownBlock v w' l2))
  (h:∀v w' x',Cx X0 w0 x' y w'→Ap x w x' y w'→(∀b,x b→x' b)→OS T E w0 x' y w' v l2→K v w'):
  St P ρ ⟨dst,.call {callee:= .value (.func k),args:=args,argTypes:=ts},ty,pos,after,gd⟩ w K Kp:=by
 unfold Jd at hk;split at hk
 ·rename_i fn hf;simp only[T2,T3] at hk;refine RG hf hk.1 hk.2 ha (Calls.mono hc ?_) he;intro e w' hr;cases e with
  |returned v=>obtain⟨g,i⟩:=hr;obtain⟨c,a,o⟩:=C.backO ho.mem i g;exact h v w' _ c a (fun _ h=> .inl h) o
  |panicked ch=>exact hr.elim
  |outgrown=>exact hr.elim
 ·cases hk
theorem RQ {k:FuncId} {args:Array Operand} {ts:Array TypeId}  {d:Value} {l l2:List α} (C:Cx X0 w0 x y w) (ho:OS T E w0 x y w d l) (hk:Jd P k=true)
  (ha:args.toList.map ρ=vs) (he:ρ (.func k)= .func (.func k) #[] #[]) (hc:Calls P k vs.toArray w (RetO w d.ownBlock fun _ w'=>OWr T E x w d.ownBlock d w' l2))
  (h:∀v w' x',Cx X0 w0 x' y w'→Ap x w x' y w'→(∀b,x b→x' b)→OS T E w0 x' y w' d l2→K v w'):
  St P ρ ⟨dst,.call {callee:= .value (.func k),args:=args,argTypes:=ts},ty,pos,after,gd⟩ w K Kp:=by
 unfold Jd at hk;split at hk
 ·rename_i fn hf;simp only[T2,T3] at hk;refine RG hf hk.1 hk.2 ha (Calls.mono hc ?_) he;intro e w' hr;cases e with
  |returned v=>obtain⟨g,i⟩:=hr;obtain⟨c,a,o⟩:=C.backO ho.mem i g;exact h v w' _ c a (fun _ h=> .inl h) o
  |panicked ch=>exact hr.elim
  |outgrown=>exact hr.elim
 ·cases hk
theorem S9 {r:Operand}    {ad:Option Addr} {n c:Nat} {l:List α} {k:IntKind} {m:Int}  (ho:OS T E w0 x y w (.slice ad n c) l) (ht:P.underlying t=some (.slice e)) (hi:Zf P e=some (z,T.sz,by_))
  (hx:ρ a= .slice ad n c) (hy:ρ r= .int k m) (hm:m=j) (hj:j≤l.length)
  (h:K (.slice ad j c) w):St P ρ ⟨dst,.slice t a none (some r) none,ty,pos,after,gd⟩ w K Kp:=by
 subst hm;obtain⟨_,hi',_,_,_⟩:=J0 hi;obtain⟨_,_,e',_,_⟩:=ho.len;cases e';have hjc:j≤c:=o
 refine P9 (v:= .slice ad j c) ?_ h;have hz:(if c=0 then ad else Option.map (fun x=>Addr.add x 0) ad)=ad:=by
  have:∀p:Addr,p.add 0=p:=fun p=>Addr.add_zero' p
  split<;>cases ad<;>simp[this]
 simp[execOp,hx,hy,Instr.sliceAt,Instr.slice,run_underlying ht,Instr.sliceBounds,Instr.sliceBound,asIntOf,hjc,sizeOf,typeInfo,hi',Addr.add]
theorem QQ {i:Operand}    {ad:Option Addr} {n c:Nat} {l:List α} {k:IntKind} {m:Int}  (ho:OS T E w0 x y w (.slice ad n c) l) (ht:P.underlying t=some (.slice e)) (hi:Zf P e=some (z,T.sz,by_))
  (hx:ρ a= .slice ad n c) (hy:ρ i= .int k m) (hm:m=j) (hj:j<l.length)
  (h:K (.pointer (ad.map (·.add (j*T.sz)))) w):St P ρ ⟨dst,.indexAddr t a i,ty,pos,after,gd⟩ w K Kp:=by
 obtain⟨_,hi',_,hs,_⟩:=J0 hi;obtain⟨⟨_,_,_,b⟩,_⟩:=ho;rcases b.2 with ⟨e1,d⟩|⟨g,_,_,e1,_,_,d,_,_⟩
 ·omega
 ·cases e1;refine Rv ht hi' hs hx hy hm hj ?_;have p:(Value.pointer (Option.map (fun x=>x.add (j*T.sz)) (some (⟨g,0,none⟩:Addr))))= .pointer (some ⟨g,0+j*T.sz,none⟩):=by simp[Addr.add];intro h;exact h.symm
  rw[p] at h;exact h
end
section
variable {P:Program} {ρ:Operand→Value} {w:World} {K:Value→World→Prop} {Kp:List PanicEntry→World→Prop} {dst:Option Tmp} {ty:TypeId} {pos:String} {after:Array Edge} {gd:Option (Nat×Bool)} {X0 x y:Nat→Prop} {w0:Bs}
theorem S4  {o:Operand}  (C:Cx X0 w0 x y w) (hx:(ρ o).cells=vs.toArray)
  (h:∀g w' x' y',(∀b,b<w.heap.size→b≠g)→Cx X0 w0 x' y' w'→Sp x y w x' y' w' Zl→Own w0 y' w' g vs e→(∀b,x b→x' b)→K (.pointer (some ⟨g,0,none⟩)) w'):
  St P ρ ⟨dst,.box e o,ty,pos,after,gd⟩ w K Kp:=
 SN hx (h _ _ _ _ (fun b _=>by omega) (C.box vs e).1 (C.box vs e).2.1 (C.box vs e).2.2 fun _ h=> .inl h)
theorem QU   {sz:Nat}  (C:Cx X0 w0 x y w) (hi:Zf P e=some (z,sz,by_)) (hv:z.cells=vs.toArray)
  (h:∀g w' x' y',(∀b,b<w.heap.size→b≠g)→Cx X0 w0 x' y' w'→Sp x y w x' y' w' Zl→Own w0 y' w' g vs e→(∀b,x b→x' b)→K (.pointer (some ⟨g,0,none⟩)) w'):
  St P ρ ⟨dst,.alloc e,ty,pos,after,gd⟩ w K Kp:=by
 obtain⟨_,hi',hz,_,_⟩:=J0 hi;exact St.alloc hi' hz hv (h _ _ _ _ (fun b _=>by omega) (C.box vs e).1 (C.box vs e).2.1 (C.box vs e).2.2 fun _ h=> .inl h)
end
section
variable {P:Program} {ρ:Operand→Value} {w:World} {K:Value→World→Prop} {Kp:List PanicEntry→World→Prop} {dst:Option Tmp} {ty:TypeId} {pos:String} {after:Array Edge} {gd:Option (Nat×Bool)} {X0 x y:Nat→Prop} {w0:Bs}
theorem Ri {α:Type} {T:Ty α} {E:TypeId} {u:Value} {g n:Nat} {l m:List α} {b:Operand} (C:Cx X0 w0 x y w) (ht:P.underlying t=some (.slice E)) (hi:Zf P E=some (z,T.sz,by_)) (hx:ρ a= .slice (some ⟨g,0,none⟩) n n) (hy:ρ b=u)
  (hv:RS T x w (.slice (some ⟨g,0,none⟩) n n) l) (hs:Src T x w u m) (s:l.length+m.length≤maxLen) (hby:(l.length+m.length)*by_≤140737488355328) (hz:z.cells.size=T.sz)
  (h:∀v' w',Cx X0 w0 x y w'→Sp x y w x y w' Zl→RS T x w' v' (l++m)→K v' w'):
  St P ρ ⟨dst,.call {callee:= .builtin .append,args:= #[a,b],argTypes:= #[t,t]},ty,pos,after,gd⟩ w K Kp:=by
 obtain⟨inf,hi',hz',hsz,hbyt⟩:=J0 hi;obtain⟨css',k1,k2,ad,c,rfl,A⟩:=hs;have hal':=Ks k1 k2;obtain⟨_,_,D,_,_⟩:=hv.len;obtain⟨rfl⟩:n=l.length:=by injection D
 have hfl:∀(css:List (List Value)),(∀cs∈css,cs.length=T.sz)→css.flatten.length=css.length*T.sz:=by
  intro css
  induction css with
  |nil=>intro _;simp
  |cons c css ih=>intro hh;rw[Uy,Tc,hh c χ,ih fun cs h=>hh cs WY,Td,Wb];omega
 by_cases hml:m=[]
 ·subst hml;have hcss':css'=[]:=TD (by simpa using k1);subst hcss';have hrun:(Builtin.append_ #[t,t] ty #[.slice (some ⟨g,0,none⟩) l.length l.length,.slice ad ([]:List α).length c]).run P w= .ok (.slice (some ⟨g,0,none⟩) l.length l.length) w:=by
   cases ad<;>simp[Builtin.append_,run_underlying ht,sizeOf,typeInfo,hi',Builtin.lenOf,Builtin.firstCells,loadCells,loadCellsFrom,storeCells]
  refine P9 (v:= .slice (some ⟨g,0,none⟩) l.length l.length) (w':=w) Wu (h _ _ C Sp.refl (by rw[TT];exact hv))
 ·rcases A with A|⟨bb,oo,rfl,hcell⟩
  ·exact absurd A hml
  have hmpos:0<m.length:=UH.2 hml;have hnl:css'.flatten.length=m.length*T.sz:=by rw[hfl css' hal',k1]
  have hnews:∀j u,css'.flatten[j]? =some u→w.cell? ((⟨bb,oo,none⟩:Addr).add j)=some u:=fun j u hj=>by rw[Addr.add_lit];exact hcell j u hj
  obtain⟨⟨css,d,B,_,_,e2,e⟩⟩:=Z5 hv;have hal:=Ks d B;have hcl:css.flatten.length=l.length*T.sz:=by rw[hfl css hal,d]
  have holds:∀j u,css.flatten[j]? =some u→w.cell? ((⟨g,0,none⟩:Addr).add j)=some u:=by
   intro j u hj;rcases e with e|⟨_,_,F,e⟩
   ·subst e
    have:css=[]:=TD (by simpa using d)
    subst this;simp at hj
   ·injection e2 with p _ _;rw[F] at p;injection p with p;injection p with G H _;subst G;subst H;rw[Addr.add_lit];exact e j u hj
  have hr:=run_append_grow (P:=P) w t ty E inf z ht hi' hz' ⟨g,0,none⟩ l.length l.length css.flatten (by rw[hcl,hsz]) holds ⟨bb,oo,none⟩ m.length c css'.flatten WO hnews o (by simp only[maxLen] at s;omega) XL;have hlen:(css.flatten++css'.flatten).length=(l.length+m.length)*T.sz:=by rw[Tc,hnl,hcl,U2]
  have hB:=((Below.refl w.heap.size w).drew).alloc (Tu _) (.cells (css.flatten.toArray++css'.flatten.toArray++Builtin.zeroCells z.cells (grownCap w (l.length+m.length) l.length E-(l.length+m.length))) E);obtain⟨C',S'⟩:=C.next hB;have ho:OS T E w0 (fun b=>x b∨b=w.heap.size) y (w.drew.alloc (.cells (css.flatten.toArray++css'.flatten.toArray++Builtin.zeroCells z.cells (grownCap w (l.length+m.length) l.length E-(l.length+m.length))) E)) (.slice (some ⟨w.heap.size,0,none⟩) (l++m).length (grownCap w (l.length+m.length) l.length E)) (l++m):=by
   have hT:Tr x w (fun b=>x b∨b=w.heap.size) (w.drew.alloc (.cells (css.flatten.toArray++css'.flatten.toArray++Builtin.zeroCells z.cells (grownCap w (l.length+m.length) l.length E-(l.length+m.length))) E)):=⟨by
    rintro b hb (h|rfl)
    ·exact h
    ·exact absurd hb (Nat.lt_irrefl _),S'.tx.blk,S'.tx.size⟩
   refine⟨⟨css++css',by simp[d,k1],?_,by rw[List.flatten_append,hlen,Tc],.inr ⟨w.heap.size,_,_,by rw[Tc],Tv _,heap_alloc_new w.drew _,by rw[Tc];exact grownCap_ge w _ _ E,grownCap_le_maxLen w _ _ E s,?_,?_⟩⟩,fun k hk=>?_⟩
   ·intro i cs u hic hiu;rw[List.getElem?_append] at hic hiu;by_cases hil:i<l.length
    ·rw[if_pos o] at hic;rw[if_pos hil] at hiu;exact T.tr (B i cs u hic hiu) hT
    ·rw[if_neg o] at hic;rw[if_neg hil] at hiu;rw[d] at hic;exact T.tr (k2 _ cs u hic hiu) hT
   ·have hge:=grownCap_ge w (l.length+m.length) l.length E;simp only[T0,UY,size_zeroCells,hz,hnl,hcl,←U2]
    congr 1;omega
   ·simp only[Array.toList_append,Tm,List.flatten_append];rw[←Tm,Tc,←hlen];exact List.take_left
   ·simp[Value.ownBlock] at hk;subst hk;exact⟨⟨.inr r,fun hy=>by have:=C.bd _ (C.yx _ hy);omega⟩,.inl C.below.size⟩
  refine P9 (v:= .slice (some ⟨w.heap.size,0,none⟩) (l++m).length (grownCap w (l.length+m.length) l.length E)) (w':=_) (by
   rw[Tc];simp[execOp,resolve,invoke,builtin,hx,hy,hr]) (h _ _ C' S' (ho.pub (fun _ h=> .inl h) fun k hk=>by
   simp[Value.ownBlock] at hk;subst hk;exact fun hx=>by have:=C.bd _ hx;omega))
end
def oF(ops:Array Oper)(m p n:Nat)(dl:List (List Nat)):Bool:=
 let N:=ops.size
 m<N&&p<m&&dl.length==m&&((ops[m]?).bind (·.dst)).isNone &&
 (ops.toList.all fun o=>match o.dst with|some d=>d<n|none=>true) &&
 ((List.range N).all fun k=>((ops[k]?).map fun o=>o.after.all fun e=> !Region.binds .any e||e.on<k).getD false) &&
 ((List.range m).all fun k=>(dl.getD k []).all fun j=>ancB ops N j k&&j<m) &&
 ((List.range N).all fun k=>k<m+1||(List.range k).all fun j=>ancB ops N j k) &&
 ((List.range m).all fun j=>j==p||ancB ops N j m) &&
 ((List.range m).all fun k=>((ops[k]?).bind (·.dst)).isSome&&(List.range m).all fun j=>j==k||Ye ops j != Ye ops k)
section
variable {fc:Fence} [Fw fc] {P:Program} {ops:Array Oper} {n:Nat} {D:List Deferred} {Q:Post} {f0:Fr} {w0:World}
structure DrawFactsF (ops:Array Oper) (m p n:Nat) (dl:List (List Nat)):Prop where
 le:m<ops.size
 pm:p<m
 len:dl.length=m
 none:((ops[m]?).bind (·.dst))=none
 dst:∀(k:Nat) (o:Oper),ops[k]? =some o→lo n o.dst
 back:∀(k:Nat) (o:Oper),ops[k]? =some o→∀e∈o.after,Region.binds .any e=true→e.on<k
 deps:∀k,k<m→∀j∈dl.getD k [],ancB ops ops.size j k=true∧j<m
 tail:∀k,k<ops.size→m<k→∀j,j<k→ancB ops ops.size j k=true
 q:∀j,j<m→j≠p→ancB ops ops.size j m=true
 some:∀k,k<m→((ops[k]?).bind (·.dst)).isSome=true
 apart:∀k,k<m→∀j,j<m→j≠k→Ye ops j≠Ye ops k
theorem oU{p:Nat}{dl:List (List Nat)}(h:oF ops m p n dl=true):DrawFactsF ops m p n dl:=by
 simp only[oF,T2,decide_eq_true_eq,beq_iff_eq,Um,UT,T5,bne_iff_ne,Option.isNone_iff_eq_none] at h;obtain⟨⟨⟨⟨⟨⟨⟨⟨⟨b,g⟩,i⟩,l⟩,s⟩,v⟩,w⟩,x⟩,y⟩,a⟩:=h;refine⟨b,g,i,l,?_,?_,fun k hk j hj=>by have:=w k hk j hj;exact this,?_,?_,fun k hk=>(a k hk).1,?_⟩
 ·intro k o ho;have hm:o∈ops.toList:=by
   have:=TY.1 ho
   obtain⟨hk,rfl⟩:=this;simp
  have:=s o hm
  unfold lo;cases hd:o.dst with
  |none=>trivial
  |some d=>rw[hd] at this;simpa using this
 ·intro k o ho e he hb;have hk:=(TY.1 ho).1
  have:=v k hk
  rw[ho] at this;simp only[Wm,Wj,TW] at this
  have:=this e he
  simpa[hb] using this
 ·intro k hk hm j hj;rcases x k hk with h|h
  ·omega
  ·exact h j hj
 ·intro j hj hne;rcases y j hj with h|h
  ·exact absurd h hne
  ·exact h
 ·intro k hk j hj hne
  rcases(a k hk).2 j hj with h|h
  ·exact absurd h hne
  ·exact h
theorem MW(hB:∀(k:Nat) (o:Oper),ops[k]? =some o→∀e∈o.after,Region.binds .any e=true→e.on<k):∀fuel j k,k<ops.size→ancB ops fuel j k=true→j<k:=by
 intro fuel
 induction fuel with
 |zero=>intro j k _ h;simp[ancB] at h
 |succ fuel ih=>
  intro j k hk h;have ho:ops[k]? =some ops[k]:=by simp[hk]
  simp only[ancB,rx,ho,Wm,Wj,T5,Array.any_eq_true',T2,beq_iff_eq] at h;rcases h with ⟨e,he,hb,rfl⟩|⟨e,he,hb,hanc⟩
  ·exact hB k _ ho e he hb
  ·have a:=hB k _ ho e he hb
   have:=ih j e.on ω hanc
   omega
theorem cntG{L:Array Bool}(m:Nat)(hle:m≤ops.size)(a:∀i,i<m→L.getD i true=true)(b:∀i,i<ops.size→m≤i→L.getD i true=false):unl ops.size L=ops.size-m:=by
 have:∀N,m≤N→N≤ops.size→unl N L=N-m:=by
  intro N hN
  induction N with
  |zero=>intro _;simp[unl]
  |succ N ih=>
   intro _;simp only[unl,List.range_succ,List.countP_append,Ut];rcases VD hN with _|_
   ·have:unl N L=0:=by
     refine Ur.2 ?_;intro i hi;have hi':i<N:=by simpa using hi
     simp[a i o]
    unfold unl at this;rw[this,a N o];simp;omega
   ·have:=ih o o
    unfold unl at this;rw[this,b N o o];simp;omega
 exact this ops.size hle (Tu _)
theorem uR(hB:∀(k:Nat) (o:Oper),ops[k]? =some o→∀e∈o.after,Region.binds .any e=true→e.on<k)(hT:∀k,k<ops.size→m≤k→∀j,j<k→ancB ops ops.size j k=true):∀(fuel k:Nat) (L:Array Bool) (a:Act) (w:World),m≤k→k+fuel=ops.size→L.size=ops.size→
  (∀i,i<ops.size→(L.getD i true=true↔i<k))→Good n D a→Sq P ops n Q (ops.toList.drop k) (frOf a) w→
  wpAnyIn fc 0 P .any ops (fun e a' w'=>Good n D a'∧Q e (frOf a') w') fuel L a w:=by
 intro fuel;have bridge:∀(L:Array Bool),L.size=ops.size→∀i,i<ops.size→L.getD i false=L.getD i true:=by
  intro L hs i hi
  have:L[i]? =some L[i]:=by simp[hs,hi]
  simp[Ts,this]
 induction fuel with
 |zero=>
  intro k L a w hm hk hs hL ha h;refine⟨?_,?_⟩
  ·rw[Uw];intro i hi;obtain⟨b,d,_⟩:=J4.1 hi
   have:=(hL i b).2 ω
   rw[this] at d;cases d
  ·rw[TI B'] at h;exact⟨ha,h⟩
 |succ fuel ih=>
  intro k L a w hm hk hs hL ha h;have hkN:k<ops.size:=ω
  have hok:ops[k]? =some ops[k]:=by simp[hkN]
  have hdr:ops.toList.drop k=ops[k]::ops.toList.drop (k+1):=by
   rw[Uu (by simpa using hkN)];simp
  rw[hdr] at h;have hrk:k∈Region.ready .any ops L:=by
   refine J4.2 ⟨hkN,?_,ops[k],hok,?_⟩
   ·cases hb:L.getD k true with
    |false=>rfl
    |true=>have:=(hL k hkN).1 hb;omega
   ·intro e he hb;have hlt:=hB k _ hok e he hb;rw[bridge L hs _ ω]
    exact(hL _ ω).2 hlt
  refine⟨(fun hnil=>by rw[hnil] at hrk;cases hrk),?_⟩;intro i hi;obtain⟨b,d,o,ho,g⟩:=J4.1 hi;have hik:i=k:=by
   have hge:k≤i:=by
    rcases TN i k with hl|hl
    ·rw[(hL i b).2 hl] at d;cases d
    ·exact hl
   rcases VD hge with e|hlt
   ·exact e.symm
   ·exfalso;have hc:Xl ops L:=by
     intro k' hk' hl o' ho' e' he' hb';have hlt':=hB k' _ ho' e' he' hb';rw[bridge L hs _ ω]
     have:=(hL k' hk').1 hl
     exact(hL _ ω).2 ω
    have:=Ym hs hc ops.size k i b (fun o' ho'=>by rw[ho] at ho';cases ho';exact g) (hT i b ω k hlt)
    rw[bridge L hs k hkN] at this
    have:=(hL k hkN).1 this
    omega
  subst hik;simp only[Sq] at h;obtain⟨hlo,h⟩:=h;refine zj (Kv:=fun v w'=>Sq P ops n Q (ops.toList.drop (i+1)) (updO (frOf a) ops[i].dst v) w') (Kp:=fun ch w'=>Q (.panic ch) (frOf a) w') hok ha h ?_ (fun _ _ q=>q)
  intro v w' hk';refine ih (i+1) _ _ _ ω ω M' ?_ (ha.put _ _) (by rw[Yp ha _ hlo];exact hk');intro j hj;rw[Ts,TB];by_cases e:i=j
  ·subst e;simp[hs,hkN]
  ·have:=hL j hj
   rw[Ts] at this;simp only[e,if_false];rw[this];omega
theorem Da {σ:Type} {s0:σ} {p:Nat} {c:Value} {dl:List (List Nat)} (F:DrawFactsF ops m p n dl) {R:σ→World→σ→World→Prop} {Gl:List (σ→Value→World→Prop)}
  (htr:∀s a t b u c,R s a t b→R t b u c→R s a u c) (hG:Qh R Gl)
  (hst:m8 P ops Q R Gl f0 s0 w0 (J2 ops m) ops.toList dl 0)
  (hc:∀s v w,(Gl.getD p noG) s v w→v=c)
  (hp:∀f s w,R s0 w0 s w→Keep (J2 ops m) f0 f→Deps ops Gl f s w (dl.getD p [])→∀w' o,ops[p]? =some o→OpSt P ops f o w' (fun v g=>v=c∧g=w') (fun ch g=>∀f,Q (.panic ch) f g))
  (hq:∀f s w,R s0 w0 s w→Keep (J2 ops m) f0 f→Deps ops Gl f s w ((List.range m).filter fun j=> !Nat.beq j p)→∀o,ops[m]? =some o→
   OpSt P ops f o w (fun _ w'=>∀f',(∀t,t≠Ye ops p→f' t=f t)→f' (Ye ops p)=c→Sq P ops n Q (ops.toList.drop (m+1)) f' w') (fun ch g=>∀f,Q (.panic ch) f g)):
  ∀(fuel:Nat) (L:Array Bool) (a:Act) (s:σ) (w:World),unl ops.size L=fuel→L.size=ops.size→Xl ops L→
   (∀i,i<ops.size→m≤i→L.getD i true=false)→Good n D a→R s0 w0 s w→Keep (J2 ops m) f0 (frOf a)→
   (∀j,j<m→L.getD j true=true→(Gl.getD j noG) s (frOf a (Ye ops j)) w)→
   wpAnyIn fc 0 P .any ops (fun e a' w'=>Good n D a'∧Q e (frOf a') w') fuel L a w:=by
 intro fuel;have bridge:∀(L:Array Bool),L.size=ops.size→∀i,i<ops.size→L.getD i false=L.getD i true:=by
  intro L hs i hi
  have:L[i]? =some L[i]:=by simp[hs,hi]
  simp[Ts,this]
 induction fuel with
 |zero=>
  intro L a s w hu hs hc' hno ha hR hK hg
  have:=qf hu m F.le
  rw[hno m F.le (Tu _)] at this;cases this
 |succ fuel ih=>
  intro L a s w hu hs hc' hno ha hR hK hg
  ·have hle:=F.le;have z:=hno m hle (Tu _);have hmin:∃i,i≤m∧L.getD i true=false∧∀j,j<i→L.getD j true=true:=by
    have key:∀i,i≤m→L.getD i true=false→∃i,i≤m∧L.getD i true=false∧∀j,j<i→L.getD j true=true:=by
     intro i
     induction i using Nat.strongRecOn with
     |_ i ihh=>
      intro hi hb;by_cases h:∃j,j<i∧L.getD j true=false
      ·obtain⟨j,hj,hjb⟩:=h;exact ihh j hj ω hjb
      ·refine⟨i,hi,hb,fun j hj=>?_⟩
       cases hjb:L.getD j true with
       |true=>rfl
       |false=>exact absurd ⟨j,hj,hjb⟩ h
    exact key m (Tu _) z
   obtain⟨i0,_,G,hlow⟩:=hmin;have A:i0∈Region.ready .any ops L:=by
    have hok:ops[i0]? =some ops[i0]:=by simp[show i0<ops.size by omega]
    refine J4.2 ⟨by omega,G,ops[i0],hok,?_⟩;intro e he hbe;have hlt:=F.back i0 _ hok e he hbe;rw[bridge L hs _ ω];exact hlow _ hlt
   refine⟨(fun hnil=>by rw[hnil] at A;cases A),?_⟩;intro i hi;obtain⟨l,H,o,ho,x⟩:=J4.1 hi;have him':i≤m:=by
    rcases TN m i with hl|hl
    ·exfalso
     have:=Ym hs hc' ops.size m i l (fun o' ho'=>by rw[ho] at ho';cases ho';exact x) (F.tail i l hl m hl)
     rw[bridge L hs m hle,z] at this;cases this
    ·exact hl
   rcases VD him' with him|him
   ·
    subst him;have hdone:∀j,j<i→j≠p→L.getD j true=true:=by
     intro j hj hjp
     have:=Ym hs hc' ops.size j i l (fun o' ho'=>by rw[ho] at ho';cases ho';exact x) (F.q j hj hjp)
     rw[bridge L hs j ω] at this;exact this
    have hdep:Deps ops Gl (frOf a) s w ((List.range i).filter fun j=> !Nat.beq j p):=by
     refine Deps.of _ fun j hj=>?_
     obtain⟨B,C⟩:=UN.1 hj;have hjp:j≠p:=fun e=>by subst e;rw[Nat.beq_refl] at C;cases C
     exact hg j (by simpa using B) (hdone j (by simpa using B) hjp)
    have hstep:=hq (frOf a) s w hR hK hdep o ho;have hnone:o.dst=none:=by have:=F.none;rw[ho] at this;simpa using this
    refine zj (Kv:=fun _ w'=>∀f',(∀t,t≠Ye ops p→f' t=frOf a t)→f' (Ye ops p)=c→Sq P ops n Q (ops.toList.drop (i+1)) f' w') (Kp:=fun ch w'=>∀f,Q (.panic ch) f w') ho ha hstep ?_ (fun c' w' hq'=>hq' _);intro v w' hS;rw[hnone];have hput:a.put none v=a:=rfl;rw[hput];have hpi:p<i:=F.pm;have hpp:¬p=i:=ω
    obtain⟨op,hop⟩:∃op,ops[p]? =some op:=⟨ops[p],by simp[show p<ops.size by omega]⟩;have hset:∀j,j<ops.size→(L.setIfInBounds i true).getD j true=(if i=j then true else L.getD j true):=by
     intro j hj;rw[Ts,TB];by_cases e:i=j
     ·subst e;simp[hs,l]
     ·simp only[e,if_false];rw[←Ts]
    have hfu:fuel=unl ops.size (L.setIfInBounds i true):=by have:=V8 hs l H;omega
    cases hpb:L.getD p true with
    |true=>
     have hcp:=hc _ _ _ (hg p hpi hpb);have y:fuel=ops.size-(i+1):=by
      rw[hfu];refine cntG (i+1) ω ?_ ?_
      ·intro j hj;rw[hset j ω];by_cases e:i=j
       ·rw[if_pos e]
       ·rw[if_neg e];by_cases e2:j=p
        ·subst e2;exact hpb
        ·exact hdone j ω e2
      ·intro j hj hjm;rw[hset j hj,if_neg ω];exact hno j hj ω
     rw[y];refine uR (m:=i+1) F.back (fun k hk hm j hj=>F.tail k hk ω j hj) (ops.size-(i+1)) (i+1) _ a w' (Tu _) ω M' ?_ ha (hS _ (fun _ _=>rfl) hcp);intro j hj;rw[hset j hj];by_cases e:i=j
     ·rw[if_pos e];simp;omega
     ·rw[if_neg e];constructor
      ·intro h;rcases TN j (i+1) with hl|hl
       ·exact hl
       ·rw[hno j hj ω] at h;cases h
      ·intro h;by_cases e2:j=p
       ·subst e2;exact hpb
       ·exact hdone j ω e2
    |false=>
     have y:fuel=ops.size-(i+1)+1:=by
      have S:=V8 (L:=L.setIfInBounds i true) M' (show p<ops.size by omega) (by rw[hset p ω,if_neg (fun e=>hpp e.symm)];exact hpb);have M:=cntG (ops:=ops) (L:=(L.setIfInBounds i true).setIfInBounds p true) (i+1) ω (by
       intro j hj;rw[Ts,TB];by_cases e:p=j
       ·subst e;simp[hs,show p<ops.size by omega]
       ·simp only[e,if_false];rw[←Ts,hset j ω];by_cases e2:i=j
        ·rw[if_pos e2]
        ·rw[if_neg e2];exact hdone j ω (fun E=>e E.symm)) (by
       intro j hj hjm;rw[Ts,TB];have e:¬p=j:=ω
       simp only[e,if_false];rw[←Ts,hset j hj,if_neg ω];exact hno j hj ω)
      omega
     rw[y];have hpr:p∈Region.ready .any ops (L.setIfInBounds i true):=by
      refine J4.2 ⟨by omega,by rw[hset p ω,if_neg (fun e=>hpp e.symm)];exact hpb,op,hop,?_⟩;intro e he hbe;have hlt:=F.back p _ hop e he hbe;rw[bridge _ M' _ ω,hset _ ω,if_neg ω];exact hdone _ ω ω
     refine⟨(fun hnil=>by rw[hnil] at hpr;cases hpr),?_⟩;intro k hk;obtain⟨k1,k2,_,hok,K⟩:=J4.1 hk;have hkp:k=p:=by
      rcases TN k i with hl|hl
      ·by_cases e:k=p
       ·exact e
       ·rw[hset k k1,if_neg ω,hdone k hl e] at k2;cases k2
      ·rcases VD hl with e|I
       ·rw[hset k k1,if_pos e] at k2;cases k2
       ·exfalso;have J:Xl ops (L.setIfInBounds i true):=by
         intro k' hk' hl' o' ho' e' he' hb';rw[bridge _ M' _ (by have:=F.back k' _ ho' e' he' hb';omega)];rw[hset k' hk'] at hl';rw[hset _ (by have:=F.back k' _ ho' e' he' hb';omega)];by_cases e:i=e'.on
         ·rw[if_pos e]
         ·rw[if_neg e];by_cases e2:i=k'
          ·subst e2;rw[ho] at ho';cases ho'
           have:=x e' he' hb'
           rw[bridge L hs _ (by have:=F.back i _ ho e' he' hb';omega)] at this;exact this
          ·rw[if_neg e2] at hl'
           have:=hc' k' hk' hl' o' ho' e' he' hb'
           rw[bridge L hs _ (by have:=F.back k' _ ho' e' he' hb';omega)] at this;exact this
        have:=Ym M' J ops.size p k k1 (fun o' ho'=>by rw[hok] at ho';cases ho';exact K) (F.tail k k1 I p ω)
        rw[bridge _ M' p ω,hset p ω,if_neg (fun e=>hpp e.symm),hpb] at this;cases this
     subst hkp;rw[hop] at hok;cases hok;have hdepp:Deps ops Gl (frOf a) s w (dl.getD k []):=by
      refine Deps.of _ fun j hj=>?_
      obtain⟨hanc,hjm⟩:=F.deps k hpi j hj;have hjk:j≠k:=fun e=>by
       have N:=MW F.back ops.size j k k1 hanc;omega
      exact hg j hjm (hdone j hjm hjk)
     have hsp:=hp (frOf a) s w hR hK hdepp w' op hop;have hsome:=F.some k hpi;rw[hop] at hsome;have hdi:Ye ops k=(op.dst).getD 0:=by simp[Ye,hop]
     obtain⟨dk,hdk⟩:=Wk.1 hsome;simp only[Wi] at hdk;have hdd:Ye ops k=dk:=by rw[hdi,hdk];rfl
     have hlo:=F.dst k op hop;refine zj (Kv:=fun v g=>v=c∧g=w') (Kp:=fun ch g=>∀f,Q (.panic ch) f g) hop ha hsp ?_ (fun c' g hq'=>hq' _);rintro _ g ⟨rfl,rfl⟩;refine uR (m:=i+1) F.back (fun k hk hm j hj=>F.tail k hk ω j hj) (ops.size-(i+1)) (i+1) _ _ _ (Tu _) ω M' ?_ (ha.put _ _) ?_
     ·intro j hj;rw[Ts,TB];by_cases e:k=j
      ·subst e;simp[hs,k1];omega
      ·simp only[e,if_false];rw[←Ts,hset j hj];by_cases e2:i=j
       ·rw[if_pos e2];simp;omega
       ·rw[if_neg e2];constructor
        ·intro h;rcases TN j (i+1) with hl|hl
         ·exact hl
         ·rw[hno j hj ω] at h;cases h
        ·intro h;exact hdone j ω (fun E=>e E.symm)
     ·rw[Yp ha _ hlo,hdk];refine hS _ (fun t ht=>?_) ?_
      ·rw[hdd] at ht;simp only[updO,upd,ht,if_false]
      ·rw[hdd];simp only[updO,upd,if_true]
   ·have hdep:Deps ops Gl (frOf a) s w (dl.getD i []):=by
     refine Deps.of _ fun j hj=>?_
     obtain⟨hanc,hjm⟩:=F.deps i him j hj
     have:=Ym hs hc' ops.size j i l (fun o' ho'=>by rw[ho] at ho';cases ho';exact x) hanc
     rw[bridge L hs j ω] at this;exact hg j hjm this
    have hstep:=m8.at ops.toList dl 0 hst i o O' XD (frOf a) s w hR hK hdep;rw[Wg] at hstep;have hsome:=F.some i him;rw[ho] at hsome;have hdi:Ye ops i=(o.dst).getD 0:=by simp[Ye,ho]
    obtain⟨d,hd⟩:=Wk.1 hsome;simp only[Wi] at hd;have hdd:Ye ops i=d:=by rw[hdi,hd];rfl
    have hlo:=F.dst i o ho;refine zj (Kv:=fun v w'=>∃s',R s w s' w'∧(Gl.getD i noG) s' v w') (Kp:=fun ch w'=>∀f,Q (.panic ch) f w') ho ha hstep ?_ ?_
    ·rintro v w' ⟨s',hRR,hgv⟩;refine ih _ _ s' _ ?_ M' ?_ ?_ (ha.put _ _) (htr _ _ _ _ _ _ hR hRR) ?_ ?_
     ·have:=V8 hs l H;omega
     ·intro k hk hl o' ho' e he hb;rw[Ts,TB];by_cases e1:i=e.on
      ·subst e1;simp[hs,l]
      ·simp only[e1,if_false];rw[←Ts];by_cases e2:i=k
       ·subst e2;rw[ho] at ho';cases ho';exact x e he hb
       ·rw[Ts,TB] at hl;simp only[e2,if_false] at hl;rw[←Ts] at hl;exact hc' k hk hl o' ho' e he hb
     ·intro k hk hmk
      have:¬i=k:=ω
      rw[Ts,TB];simp only[this,if_false];rw[←Ts];exact hno k hk hmk
     ·rw[Yp ha _ hlo,hd];intro t ht;have htd:t≠d:=by
       rintro rfl
       have:t∈J2 ops m:=by
        refine UO.2 ⟨o,?_,hd⟩;have h':ops.toList[i]? =some o:=by simpa using ho
        have:(ops.toList.take m)[i]? =some o:=by rw[UD,if_pos him];exact h'
        exact US this
       have:(J2 ops m).contains t=true:=by simpa using this
       rw[this] at ht;cases ht
      simp only[updO,upd,htd,if_false];exact hK t ht
     ·intro j hj hl;rw[Yp ha _ hlo,hd];by_cases e:j=i
      ·subst e;rw[hdd];simp only[updO,upd,if_true];exact hgv
      ·have hne:Ye ops j≠d:=by rw[←hdd];exact F.apart i him j hj e
       simp only[updO,upd,hne,if_false];have e':¬i=j:=fun h=>e h.symm;rw[Ts,TB] at hl;simp only[e',if_false] at hl;rw[←Ts] at hl;exact Qh.at Gl hG j _ s w s' w' (hg j hj hl) hRR
    ·intro c w' hq;exact hq _
def AtOp(K:Oper→Prop):List Oper→Prop
 |o::_=>K o
 |[]=>True
theorem AtOp.get{K:Oper→Prop}{k:Nat}{o:Oper}(ho:ops[k]? =some o)(h:AtOp K (ops.toList.drop k)):K o:=by
 obtain⟨hk,rfl⟩:=TY.1 ho;rw[Uu WT] at h;simpa[AtOp] using h
end
end Go.Wf
namespace Go.Wf
open Go Go.Proofs
variable{s:Gh}{w':World}{α:Type}
abbrev rc(s:List UInt8)(p o:Nat):List Value:=[str s,.int .i64 ((p:Nat):Int),.int .i64 ((o:Nat):Int)]
def flt(e:Int)(p:Nat):PanicEntry:={v:= .iface 82 (.agg #[.int .i64 e,.int .i64 ((p:Nat):Int)]),recovered:=false}
def RetP{α:Type}(w:World)(g:Nat)(x:Rr α)(Φ:α→Nat→Value→World→Prop):Ending→World→Prop
 |.returned v,w'=>(∃a q,x= .ok a q∧Φ a q v w')∧Bel ⟨w,(· =g)⟩ w'
 |.panicked ch,w'=>(∃e q,x= .er e q∧ch=[flt e q])∧Bel ⟨w,(· =g)⟩ w'
 |.outgrown,_=>False
theorem RetP.ok{w:World}{g:Nat}{x:Rr α}{Φ:α→Nat→Value→World→Prop}{v:Value}{a:α}{q:Nat}(hx:x= .ok a q)(h:Φ a q v w')(b:Bel ⟨w,(· =g)⟩ w'):RetP w g x Φ (.returned v) w':=⟨⟨a,q,hx,h⟩,b⟩
section
variable {P:Program} {ρ:Operand→Value} {dst:Option Tmp} {ty:TypeId} {pos:String} {after:Array Edge} {gd:Option (Nat×Bool)}
 {w:World} {K:Value→World→Prop} {Kp:List PanicEntry→World→Prop} {X0 x y:Nat→Prop} {w0:Bs}
theorem QJ  {k:FuncId} {args:Array Operand} {ts:Array TypeId} {vs:List Value} {g:Nat} {cs:List Value} {T:TypeId} {m:Rr α} {Φ:α→Nat→Value→World→Prop} {cs':α→Nat→List Value}
  (C:Cx X0 w0 x y w) (o:Own w0 y w g cs T) (hk:Jd P k=true)
  (ha:args.toList.map ρ=vs) (he:ρ (.func k)= .func (.func k) #[] #[]) (hc:Calls P k vs.toArray w (RetP w g m fun a q v w'=>Φ a q v w'∧Blk w' g (cs' a q) T))
  (hp:∀w' e q,m= .er e q→Bel w0 w'→Kp [flt e q] w')
  (h:∀v w' a q,m= .ok a q→Cx X0 w0 x y w'→Sp x y w x y w' (· =g)→Own w0 y w' g (cs' a q) T→Φ a q v w'→K v w'):
  St P ρ ⟨dst,.call {callee:= .value (.func k),args:=args,argTypes:=ts},ty,pos,after,gd⟩ w K Kp:=by
 unfold Jd at hk;split at hk
 ·rename_i fn hf;simp only[T2,T3] at hk;refine RG hf hk.1 hk.2 ha (Calls.mono hc ?_) he;intro e w' hr;cases e with
  |returned v=>
   obtain⟨⟨a,q,hx,d,hb⟩,b⟩:=hr;obtain⟨c,s,o'⟩:=C.turn o b hb;exact h v w' a q hx c s o' d
  |panicked ch=>
   obtain⟨⟨e,q,hx,rfl⟩,b⟩:=hr;exact hp w' e q hx (C.below.turn b o.ge)
  |outgrown=>exact hr.elim
 ·cases hk
theorem Rz{x:Operand}{t:TypeId}{v:Value}(hx:ρ x= .iface t v)(h:Kp [{v:= .iface t v,recovered:=false}] w):St P ρ ⟨dst,.panic x,ty,pos,after,gd⟩ w K Kp:=by
 unfold St;have hr:(execOp ρ ⟨dst,.panic x,ty,pos,after,gd⟩).run P w= .halt (.panic (.iface t v)) w:=by
  have hp:Sem.run P (Instr.panic (.iface t v)) w= .halt (.panic (.iface t v)) w:=rfl;simp[execOp,hx,hp]
 rw[hr];exact h
end
theorem Ze{w:World}{g:Nat}{x:Rr α}{e:Int}{q:Nat}(hx:x= .er e q)(b:Bel ⟨w,(· =g)⟩ w'):(∃e' q',x= .er e' q'∧[flt e q]=[flt e' q'])∧Bel ⟨w,(· =g)⟩ w':=⟨⟨e,q,hx,rfl⟩,b⟩
structure RZ (X0:Nat→Prop) (b0:Bs) (s:Gh) (w:World) (s':Gh) (w':World):Prop where
 eq:s'=s
 cx:Cx X0 b0 s'.1 s'.2 w'
 sp:Sp s.1 s.2 w s'.1 s'.2 w' Zl
structure RT (X0:Nat→Prop) (b0:Bs) (g:Nat) (s:Gh) (w:World) (s':Gh) (w':World):Prop where
 eq:s'=s
 cx:Cx X0 b0 s'.1 s'.2 w'
 sp:Sp s.1 s.2 w s'.1 s'.2 w' (· =g)
section
variable {fc:Fence} [Fw fc] {P:Program} {ops:Array Oper} {n:Nat} {D:List Deferred} {Q:Post} {f0:Fr} {w0:World} {X0 x y:Nat→Prop} {b0:Bs} {g:Nat}
theorem RT.of:∀(s:Gh) (a:World) (t:Gh) (b:World),RZ X0 b0 s a t b→RT X0 b0 g s a t b:=fun _ _ _ _ r=>⟨r.eq,r.cx,r.sp.wide⟩
theorem RT.trans:∀(s:Gh) (a:World) (t:Gh) (b:World) (u:Gh) (c:World),RT X0 b0 g s a t b→RT X0 b0 g t b u c→RT X0 b0 g s a u c:=fun _ _ _ _ _ _ h k=>⟨k.eq.trans h.eq,k.cx,h.sp.transW k.sp⟩
theorem RT.step{w:World}(C:Cx X0 b0 x y w')(S:Sp x y w x y w' (· =g)):RT X0 b0 g (x,y) w (x,y) w':=⟨rfl,C,S⟩
theorem RZ.same{w:World}(C:Cx X0 b0 s.1 s.2 w):RZ X0 b0 s w s w:=⟨rfl,C,Sp.refl⟩
theorem RZ.go{w:World}(C:Cx X0 b0 s.1 s.2 w')(S:Sp s.1 s.2 w s.1 s.2 w' Zl):RZ X0 b0 s w s w':=⟨rfl,C,S⟩
theorem RT.up{w:World}(r:RT X0 b0 g (x,y) w s w'):∀b,x b→s.1 b:=fun _ h=>by rw[r.eq];exact h
theorem tSl{T:Ty α}{m:List α}:∀v s w s' w',fs T m s v w→RT X0 b0 g s w s' w'→fs T m s' v w':=fun _ _ _ _ _ h r=>RS.tr h r.sp.tx
theorem RK {cs:List Value} {T:TypeId} {id:Nat} (hm:P.follows .mixedOrders=true) (m q:Nat) (dl:List (List Nat)) (C:Cx X0 b0 x y w0) (ho:Own b0 y w0 g cs T)
  (Gl:List (Gh→Value→World→Prop)) (chk:ya ops m n dl=true) (hG:y4 (RT X0 b0 g) (RZ X0 b0) q Gl 0)
  (h:∀f s w,RT X0 b0 g (x,y) w0 s w→Keep (J2 ops m) f0 f→mo P ops Q (RT X0 b0 g) (RZ X0 b0) (fun s w=>Own b0 s.2 w g cs T) q Gl f s w ops.toList dl 0∧(Deps ops Gl f s w (List.range m)→Sq P ops n Q (ops.toList.drop m) f w)):
  W fc P (Code.region id ops true) n D Q f0 w0:=by
 intro a ha hf;have F:=Xw chk;refine wpIn_region_any hm ?_;have hz:∀i,i<ops.size→(Array.replicate ops.size false).getD i true=false:=by
  intro i hi;simp[Ts,hi]
 have b:RZ X0 b0 (x,y) w0 (x,y) w0.drew:=⟨rfl,(RB C).cx,(RB C).sp⟩;refine tQ (R:=RT X0 b0 g) F RT.trans RT.of (fun s a t _ o r=>o.spn r.sp) hG (fun f s w r k=>(h f s w r k).1) (fun f s w r k=>(h f s w r k).2) ops.size _ a (x,y) _ ?_ χ ?_ (fun i hi _=>hz i hi) ha (RT.of _ _ _ _ b) (fun t _=>by rw[hf]) ?_ (fun _=>ho.spn b.sp)
 ·unfold unl
  have:(List.range ops.size).countP (fun i=> !(Array.replicate ops.size false).getD i true)=(List.range ops.size).length:=by
   refine Up.2 ?_;intro i hi;simp[hz i ς]
  rw[this];simp
 ·intro k hk hl;rw[hz k hk] at hl;cases hl
 ·intro j _ hl;rw[hz j (by have:=F.le;omega)] at hl;cases hl
end
end Go.Wf
namespace Go.Wf
open Go Go.RowKit
variable{a:Operand}{ad:Option Addr}{e t:TypeId}{j:Nat}
section
variable {X0 x y:Nat→Prop} {w0:Bs} {w:World} {E:TypeId} {v:Value} {l:List Nat}
theorem OS.u32(h:OS Jh E w0 x y w v l):(∀u∈l,u<4294967296)∧w.ownsRow 0 E 1 v l.length (l.map u32v):=by
 obtain⟨⟨css,b,e,d⟩,_⟩:=h;have hc:∀(i:Nat) (u:Nat),l[i]? =some u→css[i]? =some [u32v u]∧u<4294967296:=by
  intro i u hu;have hi:i<css.length:=by rw[b];exact(UC.1 hu).1
  have hci:css[i]? =some css[i]:=Tt hi;have hr:css[i]=[.int .u32 u]∧u<4294967296:=e i _ u hci hu;exact⟨by rw[hci,hr.1];rfl,hr.2⟩
 have hcss:css=l.map fun u=>[u32v u]:=by
  apply Ux;intro i;cases hu:l[i]? with
  |none=>rw[TV,hu,TQ (by rw[b];exact List.getElem?_eq_none_iff.1 hu)];rfl
  |some u=>rw[TV,hu,(hc i u hu).1];rfl
 have hfl:∀m:List Nat,(m.map fun u=>[u32v u]).flatten=m.map u32v:=by
  intro m
  induction m with
  |nil=>rfl
  |cons a m ih=>simp only[TU,Uy,ih];rfl
 rw[hcss,hfl] at d;refine⟨fun u hu=>?_,d⟩
 obtain⟨i,hi⟩:=UQ.1 hu
 exact(hc i u hi).2
theorem S0(hl:∀u∈l,u<4294967296)(h:w.ownsRow 0 E 1 v l.length (l.map u32v))(hm:∀k,v.ownBlock=some k→(x k∧¬y k)∧(w0.heap.size≤k∨w0.M k)):OS Jh E w0 x y w v l:=by
 have hfl:∀m:List Nat,(m.map fun u=>[u32v u]).flatten=m.map u32v:=by
  intro m
  induction m with
  |nil=>rfl
  |cons a m ih=>simp only[TU,Uy,ih];rfl
 refine⟨⟨l.map fun u=>[u32v u],by simp,fun _ _ u hcs hu=>?_,by rw[hfl];exact h⟩,hm⟩;rw[TV,hu] at hcs;cases hcs;exact⟨rfl,hl u (US hu)⟩
end
section
variable {P:Program} {ρ:Operand→Value} {w:World} {K:Value→World→Prop} {Kp:List PanicEntry→World→Prop} {dst:Option Tmp} {ty:TypeId} {pos:String} {after:Array Edge} {gd:Option (Nat×Bool)} {X0 x y:Nat→Prop} {w0:Bs}
theorem RR{o:Operand}{E:TypeId}{n c:Nat}{l:List Nat}(ho:OS Jh E w0 x y w (.slice ad n c) l)(ht:Yw P t=true)(hx:ρ o= .pointer (ad.map (·.add (j*1))))(hj:j<l.length)(h:K (.int .u32 ((l.getD j 0:Nat):Int)) w):
  St P ρ ⟨dst,.load t o,ty,pos,after,gd⟩ w K Kp:=by
 obtain⟨_,a⟩:=ho.u32;rcases a.2 with ⟨e,h⟩|⟨g,_,_,e,_,_,_,_,_⟩
 ·omega
 ·cases e;have d:(Value.pointer (Option.map (fun x=>x.add (j*1)) (some (⟨g,0,none⟩:Addr))))= .pointer (some ⟨g,j,none⟩):=by simp[Addr.add];intro h;exact h.symm
  rw[d] at hx;have b:=a.cells (g:=g) r j (u32v (l.getD j 0)) (by rw[TV,Je hj];rfl);rw[Addr.add_lit,Wg] at b;exact P0 ht hx b h
theorem R3 {b:Operand} {E:TypeId} {z:Value} {by_:Nat}  {n c u:Nat} {l:List Nat} (C:Cx X0 w0 x y w) (ho:OS Jh E w0 x y w (.slice ad n c) l) (hi:Zf P t=some (z,1,by_))
  (hx:ρ a= .pointer (ad.map (·.add (j*1)))) (hv:ρ b= .int .u32 ((u:Nat):Int)) (hj:j<l.length) (hu:u<4294967296)
  (h:∀w',Cx X0 w0 x y w'→Ap x w x y w'→OS Jh E w0 x y w' (.slice ad n c) (l.set j u)→K undef w'):St P ρ ⟨dst,.store t a b,ty,pos,after,gd⟩ w K Kp:=by
 obtain⟨p,s⟩:=ho.u32;have hmem:=ho.mem;obtain⟨_,hi',_,hs,_⟩:=J0 hi;rcases s.2 with ⟨e,_⟩|⟨g,_,cur,e,hb,hg,A,B,i,k⟩
 ·omega
 ·cases e;have D:(Value.pointer (Option.map (fun x=>x.add (j*1)) (some (⟨g,0,none⟩:Addr))))= .pointer (some ⟨g,j,none⟩):=by simp[Addr.add];intro h;exact h.symm
  rw[D] at hx;have hB:Blk w g cur.toList E:=by unfold Blk;rw[hg]
  have hcl:cur.toList.length=c:=by rw[TZ,i,VS]
  refine RN (vs:=[u32v u]) hi' hs hx (by rw[hv];rfl) r hB o r fun C' hC'=>?_
  have d:C'=cur.toList.set j (u32v u):=by
   rw[hC',UX,if_pos o];simp
  have hm:=hmem g r;have hsz:(Y8 w g C').heap.size=w.heap.size:=by simp[Y8,World.setRow]
  have hsame:∀b,b<w.heap.size→¬b=g→(Y8 w g C').heap[b]? =w.heap[b]? :=fun b _ hb=>Q3 hb;have m:Bel w0 (Y8 w g C'):=C.below.turn (g:=g) ⟨rfl,rfl,rfl,by rw[hsz];exact Tu _,fun b hb hm=>hsame b hb hm⟩ hm.2;refine h _ ⟨m,C.base,fun b hb=>by rw[hsz];exact C.bd b hb,C.yx⟩ ⟨⟨fun _ _ h=>h,fun b hb hx=>hsame b hb (fun e=>hx (e▸hm.1.1)),o⟩,fun b hb hy=>hsame b hb (fun e=>hm.1.2 (e▸hy))⟩ ?_;refine S0 (fun q hq=>?_) ?_ hmem
  ·rcases List.mem_or_eq_of_mem_set hq with hq|rfl
   ·exact p q hq
   ·exact hu
  ·refine⟨by simp,.inr ⟨g,c,C'.toArray,by simp,Tv _,hB.set,by simpa using A,B,?_,?_⟩⟩
   ·rw[d];simp[i]
   ·rw[d,List.map_set];simp only[UI,VS] at k ⊢;rw[←k,List.take_set]
theorem Sh  {l c:Operand} {kl kc:IntKind} {a:Int} {n by_:Nat} (C:Cx X0 w0 x y w) (ht:P.underlying t=some (.slice e)) (hl:ρ l= .int kl 0) (hc:ρ c= .int kc a) (ha:a=n) (hb:n≤1099511627776)
  (hi:Zf P e=some (.int .u32 0,1,by_)) (hby:by_≤8)
  (h:∀g w' x',Cx X0 w0 x' y w'→Sp x y w x' y w' Zl→OS Jh e w0 x' y w' (.slice (some ⟨g,0,none⟩) 0 n) []→K (.slice (some ⟨g,0,none⟩) 0 n) w'):
  St P ρ ⟨dst,.makeSlice t l c,ty,pos,after,gd⟩ w K Kp:=by
 obtain⟨i,hi',hz,hs,hby'⟩:=J0 hi;subst ha;have hbytes:(i.bytes:Int)*(n:Int)≤281474976710656:=by
  rw[hby'];have d:=VP hby hb;have b:((by_*n:Nat):Int)≤281474976710656:=o
  rw[T9] at b;exact b
 have hr:=run_make (P:=P) w t e i (.int .u32 0) ht hi' hz kl kc 0 (n:Int) (Int.le_refl _) o hbytes o;simp only[Int.toNat_natCast,Int.toNat_zero,hs,VS] at hr;obtain⟨vs,hvs⟩:∃vs:List Value,madeCells (Value.int IntKind.u32 0).cells n=vs.toArray:=⟨_,(Array.toArray_toList).symm⟩;have hvl:vs.toArray.size=n:=by rw[←hvs];simp[madeCells]
 rw[hvs] at hr;refine P9 (v:= .slice (some ⟨w.heap.size,0,none⟩) 0 n) (w':=w.alloc (.cells vs.toArray e (0,0))) ?_ (h _ _ _ (C.row vs e).1 (C.row vs e).2 (S0 (fun _ hu=>by cases hu) ⟨rfl,.inr ⟨w.heap.size,n,vs.toArray,rfl,Tv _,heap_alloc_new w _,Tv _,by unfold maxLen;omega,by rw[hvl,VS],by simp⟩⟩ fun _ hk=>?_))
 ·simp[execOp,hl,hc,hr]
 ·simp[Value.ownBlock] at hk;subst hk;exact⟨⟨.inr r,fun hy=>by have:=C.bd _ (C.yx _ hy);omega⟩,.inl C.below.size⟩
theorem Sd  {src b:TypeId} {s:List UInt8} (C:Cx X0 w0 x y w) (hs:P.underlying src=some .string) (hd:P.underlying b=some (.slice e)) (he:P.underlying e=some (.int .u8)) (hl:s.length≤65536) (hx:ρ a=str s)
  (h:∀g c w',Cx X0 w0 x y w'→Sp x y w x y w' Zl→RS u8Ty x w' (.slice (some ⟨g,0,none⟩) s.length c) s→K (.slice (some ⟨g,0,none⟩) s.length c) w'):St P ρ ⟨dst,.convert src b a,ty,pos,after,gd⟩ w K Kp:=by
 have hsz:(⟨s.toArray⟩:ByteArray).size=s.length:=by simp[ByteArray.size]
 have hr:=Lib.run_convert_string_bytes (P:=P) w src b e ⟨s.toArray⟩ hs hd he;rw[hsz] at hr;have d:=Lib.bytesWorld_size w e ⟨s.toArray⟩;have hbel:Below w.heap.size w (Lib.bytesWorld w e ⟨s.toArray⟩):=⟨by simp[Lib.bytesWorld,World.freeze,World.alloc,World.drew,-World.alloc_eq,-World.drew_eq],by simp[Lib.bytesWorld,World.freeze,World.alloc,World.drew,-World.alloc_eq,-World.drew_eq],
  by simp[Lib.bytesWorld,World.freeze,World.alloc,World.drew,-World.alloc_eq,-World.drew_eq],o,fun k hk=>Lib.bytesWorld_at_old w e _ k hk⟩
 obtain⟨C',S'⟩:=C.next hbel;refine P9 (v:= .slice (some ⟨w.heap.size,0,none⟩) s.length (grownCap w s.length 0 e)) (by simp[execOp,hx,str,hr]) (h _ _ _ C' S' ⟨_,_,rfl,grownCap_ge _ _ _ _,grownCap_le_maxLen _ _ _ _ (by unfold maxLen;omega),.inr ⟨w.heap.size,0,rfl,fun hx=>by have:=C.bd _ hx;omega,?_⟩⟩);intro i u hu;refine⟨[.int .u8 u.toNat],rfl,?_⟩;intro j _ hq;have hi:=(UC.1 hu).1;have hj:j=0:=by
  have:=(UC.1 hq).1
  simp at this;exact this
 subst hj;simp at hq;subst hq
 have:=Lib.bytesWorld_cell w e ⟨s.toArray⟩ i (by rw[hsz];exact hi)
 rw[show 0+i*u8Ty.sz+0=i by show 0+i*1+0=i;omega,this];simp[List.getD,hu]
end
def u8v(u:UInt8):Value:= .int .u8 (u.toNat:Int)
section
variable {X0 x y:Nat→Prop} {w0:Bs} {w:World} {E:TypeId} {v:Value} {l:List UInt8}
theorem GR:∀m:List UInt8,(m.map fun u=>[u8v u]).flatten=m.map u8v
 |[]=>rfl
 |a::m=>by simp only[TU,Uy,GR m];rfl
theorem row8{css:List (List Value)}(a:css.length=l.length)(b:∀(i:Nat) (cs:List Value) (u:UInt8),css[i]? =some cs→l[i]? =some u→u8Ty.rd x w cs u):css.flatten=l.map u8v:=by
 have hcss:css=l.map fun u=>[u8v u]:=by
  apply Ux;intro i;cases hu:l[i]? with
  |none=>rw[TV,hu,TQ (by rw[a];exact List.getElem?_eq_none_iff.1 hu)];rfl
  |some u=>
   have hi:i<css.length:=by rw[a];exact(UC.1 hu).1
   have hci:css[i]? =some css[i]:=Tt hi;have hr:css[i]=[.int .u8 u.toNat]:=b i _ u hci hu;rw[TV,hu,hci,hr];rfl
 rw[hcss,GR]
theorem OS.u8(h:OS u8Ty E w0 x y w v l):w.ownsRow 0 E 1 v l.length (l.map u8v):=by
 obtain⟨⟨_,b,d,a⟩,_⟩:=h;rw[row8 b d] at a;exact a
theorem OW.u8{X:Nat→Prop}(h:OW u8Ty E X w v l):w.ownsRow 0 E 1 v l.length (l.map u8v):=by
 obtain⟨⟨_,b,d,a⟩⟩:=h;rw[row8 b d] at a;exact a
theorem OW.of8{X:Nat→Prop}(h:w.ownsRow 0 E 1 v l.length (l.map u8v)):OW u8Ty E X w v l:=by
 refine⟨⟨l.map fun u=>[u8v u],by simp,fun _ _ u hcs hu=>?_,by rw[GR];exact h⟩⟩;rw[TV,hu] at hcs;cases hcs;exact rfl
end
section
variable {P:Program} {ρ:Operand→Value} {w:World} {K:Value→World→Prop} {Kp:List PanicEntry→World→Prop} {dst:Option Tmp} {ty:TypeId} {pos:String} {after:Array Edge} {gd:Option (Nat×Bool)} {X0 x y:Nat→Prop} {w0:Bs}
theorem Sv{o:Operand}{E:TypeId}{n c:Nat}{l:List UInt8}(ho:OS u8Ty E w0 x y w (.slice ad n c) l)(ht:Yw P t=true)(hx:ρ o= .pointer (ad.map (·.add (j*1))))(hj:j<l.length)(h:K (.int .u8 (((l.getD j 0).toNat:Nat):Int)) w):
  St P ρ ⟨dst,.load t o,ty,pos,after,gd⟩ w K Kp:=by
 have a:=ho.u8;rcases a.2 with ⟨e,h⟩|⟨g,_,_,e,_,_,_,_,_⟩
 ·omega
 ·cases e;have d:(Value.pointer (Option.map (fun x=>x.add (j*1)) (some (⟨g,0,none⟩:Addr))))= .pointer (some ⟨g,j,none⟩):=by simp[Addr.add];intro h;exact h.symm
  rw[d] at hx;have b:=a.cells (g:=g) r j (u8v (l.getD j 0)) (by rw[TV,Je hj];rfl);rw[Addr.add_lit,Wg] at b;exact P0 ht hx b h
theorem Sk  {src b E:TypeId}  {n c:Nat} {l:List UInt8} (ho:OS u8Ty E w0 x y w (.slice ad n c) l) (hs:P.underlying src=some (.slice e)) (he:P.underlying e=some (.int .u8)) (hd:P.underlying b=some .string) (hx:ρ a= .slice ad n c)
  (h:K (str l) w):St P ρ ⟨dst,.convert src b a,ty,pos,after,gd⟩ w K Kp:=by
 have d:=ho.u8;have hr:(convert src b (.slice ad n c)).run P w= .ok (str l) w:=by
  rcases d.2 with ⟨e,i⟩|⟨g,_,_,e,_,_,_,_,_⟩
  ·cases e;obtain rfl:=TD i;rw[run_convert_bytes_string w src b _ none 0 0 hs he hd];simp[Conv.bytesToString]
   rfl
  ·cases e;refine run_convert_bytes_back w src b _ _ c l hs he hd fun j hj=>?_
   exact d.cells (g:=g) r j (u8v l[j]) (by rw[TV,Tt hj];rfl)
 refine P9 (v:=str l) ?_ h;simp[execOp,hx,hr]
theorem R9{k:FuncId}{cap:Array Operand}{cs:List Value}(hc:cap.toList.map ρ=cs)(h:K (.func (.func k) #[] cs.toArray) w):St P ρ ⟨dst,.makeFunc (.func k) #[] cap,ty,pos,after,gd⟩ w K Kp:=by
 refine P9 (v:= .func (.func k) #[] cs.toArray) ?_ h
 have:cap.map ρ=cs.toArray:=by rw[←hc];apply TX;simp
 simp[execOp,Instr.makeFunc,this]
theorem Rs {o:Operand} {k:FuncId} {cap:List Value} {args:Array Operand} {ts:Array TypeId} {vs:List Value} {Φ:Value→World→Prop} (C:Cx X0 w0 x y w) (hk:Jd P k=true)
  (ha:args.toList.map ρ++cap=vs) (he:ρ o= .func (.func k) #[] cap.toArray) (hc:Calls P k vs.toArray w (Ret w Φ))
  (h:∀v w',Cx X0 w0 x y w'→Sp x y w x y w' Zl→Φ v w'→K v w'):
  St P ρ ⟨dst,.call {callee:= .value o,args:=args,argTypes:=ts},ty,pos,after,gd⟩ w K Kp:=by
 unfold Jd at hk;split at hk
 ·rename_i fn hf;simp only[T2,T3] at hk;refine Sg he hf hk.1 hk.2 (by rw[←ha]) (Calls.mono hc ?_);intro e w' hr;cases e with
  |returned v=>obtain⟨a,b⟩:=hr;obtain⟨c,s⟩:=C.next b;exact h v w' c s a
  |panicked ch=>exact hr.elim
  |outgrown=>exact hr.elim
 ·cases hk
end
structure Tb (P:Program) (nm:String) (k:IntKind) (zs:List Int) (X:Nat→Prop) (w:World):Prop where
 tab:Lib.TabIs P w nm k zs
 out:∀g,P.globalNamed nm=some g→¬X g∧g<w.heap.size
section
variable {P:Program} {nm:String} {k:IntKind} {zs:List Int} {X X' x y x' y':Nat→Prop} {w w':World} {ch:Nat→Prop}
theorem Tb.tr(h:Tb P nm k zs X w)(t:Tr X w X' w'):Tb P nm k zs X' w':=by
 obtain⟨a,b⟩:=h;refine⟨?_,fun g hg=>⟨fun hx=>(b g hg).1 (t.sub g (b g hg).2 hx),Ti (b g hg).2 t.size⟩⟩;unfold Lib.TabIs World.var? at a ⊢;cases hg:P.globalNamed nm with
 |none=>rw[hg] at a;cases a
 |some g=>
  rw[hg] at a
  have:=b g hg
  simp only[Wi] at a ⊢;rw[t.blk g this.2 this.1];exact a
theorem Tb.sp(h:Tb P nm k zs x w)(s:Sp x y w x' y' w' ch):Tb P nm k zs x' w':=h.tr s.tx
end
end Go.Wf
namespace Go.Proofs
open Go.Shelf
def Tryz.lays156_ren:Go.Shelf.Ren:=⟨fun|156=>109|165=>159|166=>160|169=>161|240=>212|241=>213|276=>237|277=>238|n=>n,fun|31=>50|9=>9|3=>3|4=>4|0=>0|20=>20|72=>160|76=>164|70=>157|37=>158|75=>163|127=>191|164=>214|5=>5|80=>166|n=>n,fun|n=>n⟩
theorem Tryz.lays156:Go.Proofs.Lays.n156 Tryz.prog Tryz.lays156_ren:={
 mixed:=k
 f156:=Tryz.func109.trans (congrArg some k)
 f165:=Tryz.func159.trans (congrArg some k)
 f166:=Tryz.func160.trans (congrArg some k)
 f169:=Tryz.func161.trans (congrArg some k)
 f240:=Tryz.func212.trans (congrArg some k)
 f241:=Tryz.func213.trans (congrArg some k)
 f276:=Tryz.func237.trans (congrArg some k)
 f277:=Tryz.func238.trans (congrArg some k)
 t0:=Tryz.underlying0
 a0:=Tryz.isAgg0
 z0:=Tryz.sizeOf0
 v0:=Tryz.zeroValue0
 t3:=Tryz.underlying3
 a3:=Tryz.isAgg3
 z3:=Tryz.sizeOf3
 v3:=Tryz.zeroValue3
 t4:=Tryz.underlying4
 a4:=Tryz.isAgg4
 z4:=Tryz.sizeOf4
 v4:=Tryz.zeroValue4
 t9:=Tryz.underlying9
 a9:=Tryz.isAgg9
 z9:=Tryz.sizeOf9
 v9:=Tryz.zeroValue9
 t20:=Tryz.underlying20
 a20:=Tryz.isAgg20
 z20:=Tryz.sizeOf20
 v20:=Tryz.zeroValue20
 t31:=Tryz.underlying50
 a31:=Tryz.isAgg50
 z31:=Tryz.sizeOf50
 v31:=Tryz.zeroValue50
 t37:=Tryz.underlying158
 a37:=Tryz.isAgg158
 z37:=Tryz.sizeOf158
 v37:=Tryz.zeroValue158
 t70:=Tryz.underlying157
 a70:=Tryz.isAgg157
 z70:=Tryz.sizeOf157
 v70:=Tryz.zeroValue157
 t72:=Tryz.underlying160
 a72:=Tryz.isAgg160
 z72:=Tryz.sizeOf160
 v72:=Tryz.zeroValue160
 t75:=Tryz.underlying163
 a75:=Tryz.isAgg163
 z75:=Tryz.sizeOf163
 v75:=Tryz.zeroValue163
 t76:=Tryz.underlying164
 a76:=Tryz.isAgg164
 z76:=Tryz.sizeOf164
 v76:=Tryz.zeroValue164
 t127:=Tryz.underlying191
 a127:=Tryz.isAgg191
 z127:=Tryz.sizeOf191
 v127:=Tryz.zeroValue191
 t164:=Tryz.underlying214
 a164:=Tryz.isAgg214
 z164:=Tryz.sizeOf214
 v164:=Tryz.zeroValue214}
theorem Tryz.Builder_Extra_156:Builder.Extra Tryz.prog Tryz.lays156_ren:={
 sizeBuilder:=k
 liesBuilder:=k
 t5:=Tryz.underlying5
 a5:=Tryz.isAgg5
 z5:=Tryz.sizeOf5
 v5:=Tryz.zeroValue5
 infoByte:=k
 cellsByte:=k
 sizeByte:=k
 neB5:=by decide}
def Tryz.laysM171_ren:Go.Shelf.Ren:=⟨fun|171=>157|243=>210|246=>236|283=>249|284=>250|285=>251|286=>252|129=>136|317=>266|318=>267|319=>268|320=>269|337=>274|338=>275|n=>n,fun|3=>3|9=>9|2=>2|4=>4|171=>221|0=>0|53=>140|37=>158|5=>5|173=>223|212=>236|51=>118|20=>20|213=>237|46=>110|232=>242|233=>243|n=>n,fun|17=>2|18=>3|19=>4|n=>n⟩
theorem Tryz.laysM171:Go.Proofs.LaysM.n171 Tryz.prog Tryz.laysM171_ren:={
 mixed:=k
 f129:=Tryz.func136.trans (congrArg some k)
 f171:=Tryz.func157.trans (congrArg some k)
 f243:=Tryz.func210.trans (congrArg some k)
 f246:=Tryz.func236.trans (congrArg some k)
 f283:=Tryz.func249.trans (congrArg some k)
 f284:=Tryz.func250.trans (congrArg some k)
 f285:=Tryz.func251.trans (congrArg some k)
 f286:=Tryz.func252.trans (congrArg some k)
 f317:=Tryz.func266.trans (congrArg some k)
 f318:=Tryz.func267.trans (congrArg some k)
 f319:=Tryz.func268.trans (congrArg some k)
 f320:=Tryz.func269.trans (congrArg some k)
 f337:=Tryz.func274.trans (congrArg some k)
 f338:=Tryz.func275.trans (congrArg some k)
 t0:=Tryz.underlying0
 a0:=Tryz.isAgg0
 z0:=Tryz.sizeOf0
 v0:=Tryz.zeroValue0
 t2:=Tryz.underlying2
 a2:=Tryz.isAgg2
 z2:=Tryz.sizeOf2
 v2:=Tryz.zeroValue2
 t3:=Tryz.underlying3
 a3:=Tryz.isAgg3
 z3:=Tryz.sizeOf3
 v3:=Tryz.zeroValue3
 t4:=Tryz.underlying4
 a4:=Tryz.isAgg4
 z4:=Tryz.sizeOf4
 v4:=Tryz.zeroValue4
 t5:=Tryz.underlying5
 a5:=Tryz.isAgg5
 z5:=Tryz.sizeOf5
 v5:=Tryz.zeroValue5
 t9:=Tryz.underlying9
 a9:=Tryz.isAgg9
 z9:=Tryz.sizeOf9
 v9:=Tryz.zeroValue9
 t20:=Tryz.underlying20
 a20:=Tryz.isAgg20
 z20:=Tryz.sizeOf20
 v20:=Tryz.zeroValue20
 t37:=Tryz.underlying158
 a37:=Tryz.isAgg158
 z37:=Tryz.sizeOf158
 v37:=Tryz.zeroValue158
 t46:=Tryz.underlying110
 a46:=Tryz.isAgg110
 z46:=Tryz.sizeOf110
 v46:=Tryz.zeroValue110
 t51:=Tryz.underlying118
 a51:=Tryz.isAgg118
 z51:=Tryz.sizeOf118
 v51:=Tryz.zeroValue118
 t53:=Tryz.underlying140
 a53:=Tryz.isAgg140
 z53:=Tryz.sizeOf140
 v53:=Tryz.zeroValue140
 t171:=Tryz.underlying221
 a171:=Tryz.isAgg221
 z171:=Tryz.sizeOf221
 v171:=Tryz.zeroValue221
 t173:=Tryz.underlying223
 a173:=Tryz.isAgg223
 z173:=Tryz.sizeOf223
 v173:=Tryz.zeroValue223
 t212:=Tryz.underlying236
 a212:=Tryz.isAgg236
 z212:=Tryz.sizeOf236
 v212:=Tryz.zeroValue236
 t213:=Tryz.underlying237
 a213:=Tryz.isAgg237
 z213:=Tryz.sizeOf237
 t232:=Tryz.underlying242
 a232:=Tryz.isAgg242
 z232:=Tryz.sizeOf242
 v232:=Tryz.zeroValue242
 t233:=Tryz.underlying243
 a233:=Tryz.isAgg243
 z233:=Tryz.sizeOf243
 v233:=Tryz.zeroValue243
 g17:=k
 g18:=k
 g19:=k
 i0:=k
 i2:=k
 i3:=k
 i4:=k
 i5:=k
 i9:=k
 i20:=k
 i37:=k
 i46:=k
 i51:=k
 i53:=k
 i171:=k
 i173:=k
 i212:=k
 i232:=k
 i233:=k
 m17:=k
 m18:=k
 m19:=by kernel_rfl}
def Tryz.rev8_ren:Go.Shelf.Ren:=⟨fun|35=>207|n=>n,fun|22=>158|23=>5|3=>3|4=>4|0=>0|n=>n,fun|n=>n⟩
theorem Tryz.rev8:Go.Proofs.SlLaysE.n35 Tryz.prog Tryz.rev8_ren:={
 mixed:=k
 f35:=⟨Tryz.f207.name,d,Tryz.func207.trans (congrArg some k)⟩
 t0:=Tryz.underlying0
 a0:=Tryz.isAgg0
 z0:=Tryz.sizeOf0
 v0:=Tryz.zeroValue0
 t3:=Tryz.underlying3
 a3:=Tryz.isAgg3
 z3:=Tryz.sizeOf3
 v3:=Tryz.zeroValue3
 t4:=Tryz.underlying4
 a4:=Tryz.isAgg4
 z4:=Tryz.sizeOf4
 v4:=Tryz.zeroValue4
 t22:=Tryz.underlying158
 a22:=Tryz.isAgg158
 z22:=Tryz.sizeOf158
 v22:=Tryz.zeroValue158
 a23:=Tryz.isAgg5
 z23:=Tryz.sizeOf5}
end Go.Proofs
namespace Go.Wf
open Go Go.Proofs Go.RowKit Go.Sort
abbrev T10(X:Nat→Prop)(w:World):Prop:=Tb Tryz.prog "internal/strconv.uint64pow10" .u64 Lib.pow10Tab X w
section
variable {X:Nat→Prop} {w:World} {v:Value} {E:TypeId}
theorem rh(hX:∀b,X b→b<w.heap.size){n:Int}(hT:T10 X w)(a: -9223372036854775808≤n)(d:n≤9223372036854775807):
  Calls Tryz.prog 157 #[.int .i64 n] w (Ret w fun v w'=>v=str (Lib.itoa n)):=by
 refine(Any.strconv_Itoa Tryz.laysM171 n a d w hT.tab).mono ?_
 rintro _ w' ⟨rfl,_,_,rfl⟩;refine⟨rfl,⟨rfl,rfl,rfl,by simp[grow],fun _ hi=>?_⟩⟩
 simp only[grow];exact Array.getElem?_append_left hi
def bas(l:List UInt8):ByteArray:=⟨l.toArray⟩
theorem Ic(l:List (List UInt8)):(l.map bas).map (·.data.toList)=l:=by
 induction l with
 |nil=>rfl
 |cons a l ih=>rw[TU,TU,ih];rfl
theorem Fb(hX:∀b,X b→b<w.heap.size){l:List (List UInt8)}{s:List UInt8}(g:RS Y1 X w v l)(hl:l.length≤10000000000)(hj:(Lib.join l s).length≤100000000000):
  Calls Tryz.prog 109 #[v,str s] w (Ret w fun v w'=>v=str (Lib.join l s)):=by
 obtain⟨a,c,rfl,i,_,d⟩:=g;by_cases hn:l=[]
 ·subst hn
  refine(Any.strings_Join_none Tryz.lays156 Tryz.Builder_Extra_156 a c (bas s) w).mono ?_
  rintro e w' ⟨rfl,rfl⟩;exact⟨rfl,Below.refl _ _⟩
 ·rcases d with d|⟨b,o,rfl,_,d⟩
  ·exact absurd d hn
  have hc:∀(j:Nat) (u:ByteArray),(l.map bas)[j]? =some u→w.cell? ⟨b,o+j,none⟩=some (.string u):=by
   intro j u hu;rw[TV] at hu;obtain⟨q,hq,rfl⟩:=Wl.1 hu;obtain⟨_,⟨rfl,_⟩,k⟩:=d j q hq
   have:=k 0 _ r
   rw[show o+j=o+j*Y1.sz+0 by show o+j=o+j*1+0;omega];exact this
  have hp:0<l.length:=UH.2 hn;have hb:b<w.heap.size:=World.block_lt_of_cell? w _ (hc 0 (bas l[0]) (by rw[TV,Tt hp];rfl));have hml:(l.map bas).length=l.length:=UG ..;have hjj:Lib.join ((l.map bas).map (·.data.toList)) (bas s).data.toList=Lib.join l s:=by rw[Ic];rfl
  have h:=Any.strings_Join Tryz.lays156 Tryz.Builder_Extra_156 b o c (l.map bas) (bas s) w hc hb (by rw[hml];omega) (by rw[hml];exact i) (by rw[hjj];omega);rw[hjj,hml] at h;refine h.mono ?_;rintro e w' ⟨rfl,hbl⟩;exact⟨rfl,hbl⟩
theorem DX(hX:∀b,X b→b<w.heap.size){l:List UInt8}(a:OW u8Ty E X w v l)(i:∀k,v.ownBlock=some k→X k)(hl:l.length≤100000000000):
  Calls Tryz.prog 207 #[v] w (RetO w v.ownBlock fun _ w'=>OWr u8Ty E X w v.ownBlock v w' l.reverse):=by
 have h:=a.u8;by_cases hv:v= .slice none 0 0
 ·subst hv;have d:l=[]:=by
   obtain⟨_,_,e,_,_⟩:=a.opn;injection e with _ e2 _;exact TD e2.symm
  subst d
  refine(AnyE.slices_Reverse_empty Tryz.rev8 none 0 w).mono ?_
  rintro e w' ⟨rfl,rfl⟩;exact⟨⟨OW.of8 (World.ownsRow_nil _ _ _ _),fun k hk=> .inl hk⟩,Bel.refl _⟩
 ·obtain⟨g,cap,rfl,_,_,_,_,_,hH⟩:=Lib.holds_of_ownsRow h hv
  refine(AnyE.slices_Reverse Tryz.rev8 u8v (fun _=>rfl) g 0 cap l w hH o).mono ?_
  rintro e w' ⟨rfl,q,rfl⟩;have hr:=Lib.ownsRow_putRow (q:=q) (k:=l.length) (ys:=l.reverse) h List.length_reverse (Tu _);rw[TE (by rw[List.length_reverse];exact Tu _)] at hr;refine⟨⟨OW.of8 (by rw[List.length_reverse];exact hr),fun k hk=> .inl hk⟩,⟨rfl,rfl,rfl,by simp[putRow,mapBlock,Sort.ahead],fun k hk hm=>?_⟩⟩
  have hgk:g≠k:=fun e=>hm WU;simp[putRow,mapBlock,Sort.ahead,Array.getElem?_modify,hgk]
end
theorem rs_n{α:Type}{T:Ty α}{x:Nat→Prop}{w:World}{a:Option Addr}{n m c:Nat}{l:List α}(h:RS T x w (.slice a n c) l)(e:n=m):RS T x w (.slice a m c) l:=e▸h
theorem EB{α:Type}{l:List α}{j:Nat}(h:j≤l.length):(l.take j).length=j:=by rw[To,VN h]
theorem OS.tk8{b:Bs}{x y:Nat→Prop}{w:World}{E:TypeId}{a:Option Addr}{n c j:Nat}{l:List UInt8}(h:OS u8Ty E b x y w (.slice a n c) l)(hj:j≤l.length):OS u8Ty E b x y w (.slice a (l.take j).length c) (l.take j):=by
 rw[EB hj];exact h.take hj
theorem RV.n_rng{X:Nat→Prop}{w:World}{v:Value}{a:GExpr}{i:Nat}(h:RV Jc X w v a)(hi:i<a.n.length): -9223372036854775808≤a.n.getD i 0∧a.n.getD i 0≤9223372036854775807:=by
 obtain⟨_,_,_,_,_,_,_,_,_,h'⟩:=SR h;obtain⟨_,_,_,_,_,hr,_⟩:=h'.n.at (Tt hi);rw[Tq,Tt hi];exact hr.2
theorem NR{P:Program}{X:Nat→Prop}{w:World}{g:Nat}{cs:List Value}{E:TypeId}{a:GExpr}(hB:Blk w g cs E)(hr:Jc.rd X w cs a)(hX:¬X g):ElAt Jc X w g 0 cs a:=
 ⟨hX,hr,fun _ _ hq=>by rw[Wg];exact hB.cell hq⟩
end Go.Wf
namespace Go.Proofs.YtjiojpmoleilgaaGreatDoor
open Go Go.Proofs Go.Wf Go.RowKit
theorem Cf:(Rows.laid_internal_strconv_uint64pow10:DataW Unit)=Lib.tabData .u64 Lib.pow10Tab:=k
theorem gP10:Tryz.prog.globalNamed "internal/strconv.uint64pow10" =some 2:=k
theorem tP10:(Tryz.prog.globals[2]?).map (·.type)=some 236:=k
theorem uP10:Tryz.prog.underlying 236=some (.array 20 140):=k
theorem u140:Tryz.prog.underlying 140=some (.int .u64):=k
theorem c140:Tryz.prog.cellsOf 140=1:=k
theorem cP10:Tryz.prog.cellsOf 236=20:=k
theorem MU{W:World}(h:laidMetH Tryz.prog qt W):T10 (fun _=>False) W:=by
 rw[MakeChecks.laidMetH_plain _ _ _ Ef] at h;obtain⟨g,_,_,_,_,b,i,a,e⟩:=Lib.laidMet.reads h (n:= "internal/strconv.uint64pow10") (d:=Rows.laid_internal_strconv_uint64pow10) (.tail _ (.tail _ (.head _)));obtain rfl:=Wn (gP10.symm.trans b);obtain rfl:=Wn (tP10.symm.trans i);rw[Cf] at e;have hcs:=Lib.cells_of_tab uP10 u140 c140 cP10 e;refine⟨?_,fun g hg=>⟨id,?_⟩⟩
 ·unfold Lib.TabIs;rw[a];exact congrArg some (by rw[←hcs])
 ·obtain rfl:=Wn (gP10.symm.trans hg);unfold World.var? at a;rw[b] at a;simp only[Wi] at a;rcases TN 2 W.heap.size with hl|hl
  ·exact hl
  ·rw[Array.getElem?_eq_none hl] at a;cases a
end Go.Proofs.YtjiojpmoleilgaaGreatDoor
namespace Go.Wf
open Go Go.Proofs
theorem pl2:Yw Tryz.prog 2=true:=k
theorem io3:Zf Tryz.prog 3=some (.int .i64 0,1,8):=k
theorem pl3:Yw Tryz.prog 3=true:=k
theorem pl4:Yw Tryz.prog 4=true:=k
theorem io5:Zf Tryz.prog 5=some (.int .u8 0,1,1):=k
theorem pl5:Yw Tryz.prog 5=true:=k
theorem io9:Zf Tryz.prog 9=some (str [],1,16):=k
theorem pl9:Yw Tryz.prog 9=true:=k
theorem io23:Zf Tryz.prog 23=some (.slice none 0 0,1,24):=k
theorem pl23:Yw Tryz.prog 23=true:=k
theorem pl24:Yw Tryz.prog 24=true:=k
theorem io26:Zf Tryz.prog 26=some (.agg #[.bool false,.slice none 0 0],2,32):=k
theorem ag26:yv Tryz.prog 26 2=true:=k
theorem io28:Zf Tryz.prog 28=some (.agg #[.bool false,.slice none 0 0,.bool false,.slice none 0 0],4,64):=k
theorem ag28:yv Tryz.prog 28 4=true:=k
theorem io29:Zf Tryz.prog 29=some (.slice none 0 0,1,24):=k
theorem pl29:Yw Tryz.prog 29=true:=k
theorem io31:Zf Tryz.prog 31=some (.agg #[.int .i64 0,.slice none 0 0,.bool false,.slice none 0 0,.bool false,.slice none 0 0,str [],.slice none 0 0],8,136):=k
theorem ag31:yv Tryz.prog 31 8=true:=k
theorem io32:Zf Tryz.prog 32=some (.int .i64 0,1,8):=k
theorem pl32:Yw Tryz.prog 32=true:=k
theorem Js:Zf Tryz.prog 118=some (.int .u32 0,1,4):=k
theorem Yj:Yw Tryz.prog 118=true:=k
theorem sl23:Tryz.prog.underlying 23=some (.slice 3):=k
theorem sl24:Tryz.prog.underlying 24=some (.slice 118):=k
theorem sl29:Tryz.prog.underlying 29=some (.slice 31):=k
theorem sl50:Tryz.prog.underlying 50=some (.slice 9):=k
theorem z7:Tryz.prog.underlying 158=some (.slice 5):=k
theorem un3:Tryz.prog.underlying 3=some (.int .i64):=k
theorem us3:(Tryz.prog.underlying 3).isSome=true:=k
theorem un5:Tryz.prog.underlying 5=some (.int .u8):=k
theorem us5:(Tryz.prog.underlying 5).isSome=true:=k
theorem Vh:Tryz.prog.underlying 118=some (.int .u32):=k
theorem Kj:(Tryz.prog.underlying 118).isSome=true:=k
theorem Kq:Tryz.prog.underlying 140=some (.int .u64):=k
theorem X3:(Tryz.prog.underlying 140).isSome=true:=k
theorem r7:Tryz.prog.underlying 110=some (.int .u64):=k
theorem Cs:(Tryz.prog.underlying 110).isSome=true:=k
theorem un9:Tryz.prog.underlying 9=some .string:=k
theorem un4:Tryz.prog.underlying 4=some .bool:=k
theorem Xc:Zs Tryz.prog 26 0=some 0:=k
theorem Yu:Zs Tryz.prog 26 1=some 1:=k
theorem Y7:Zs Tryz.prog 28 0=some 0:=k
theorem Yy:Zs Tryz.prog 28 1=some 2:=k
theorem Jw:Zs Tryz.prog 31 0=some 0:=k
theorem Zi:Zs Tryz.prog 31 1=some 1:=k
theorem Yv:Zs Tryz.prog 31 2=some 2:=k
theorem X5:Zs Tryz.prog 31 3=some 6:=k
theorem J8:Zs Tryz.prog 31 4=some 7:=k
theorem cb9:Jd Tryz.prog 9=true:=k
theorem cb10:Jd Tryz.prog 10=true:=k
theorem cb12:Jd Tryz.prog 12=true:=k
theorem cb13:Jd Tryz.prog 13=true:=k
theorem cb14:Jd Tryz.prog 14=true:=k
theorem cb18:Jd Tryz.prog 18=true:=k
theorem cb20:Jd Tryz.prog 20=true:=k
theorem cb25:Jd Tryz.prog 25=true:=k
theorem cb27:Jd Tryz.prog 27=true:=k
theorem cb29:Jd Tryz.prog 29=true:=k
theorem cb30:Jd Tryz.prog 30=true:=k
theorem cb34:Jd Tryz.prog 34=true:=k
theorem cb35:Jd Tryz.prog 35=true:=k
theorem cb36:Jd Tryz.prog 36=true:=k
theorem cb37:Jd Tryz.prog 37=true:=k
theorem cb38:Jd Tryz.prog 38=true:=k
theorem cb39:Jd Tryz.prog 39=true:=k
theorem cb43:Jd Tryz.prog 43=true:=k
theorem cb44:Jd Tryz.prog 44=true:=k
theorem cb45:Jd Tryz.prog 45=true:=k
theorem cb49:Jd Tryz.prog 49=true:=k
theorem cb50:Jd Tryz.prog 50=true:=k
theorem cb51:Jd Tryz.prog 51=true:=k
theorem cb54:Jd Tryz.prog 54=true:=k
theorem cb58:Jd Tryz.prog 58=true:=k
theorem cb59:Jd Tryz.prog 59=true:=k
theorem cb60:Jd Tryz.prog 60=true:=k
theorem cb62:Jd Tryz.prog 62=true:=k
theorem cb63:Jd Tryz.prog 63=true:=k
theorem cb65:Jd Tryz.prog 65=true:=k
theorem cb67:Jd Tryz.prog 67=true:=k
theorem cb68:Jd Tryz.prog 68=true:=k
theorem cb72:Jd Tryz.prog 72=true:=k
theorem cb73:Jd Tryz.prog 73=true:=k
theorem cb79:Jd Tryz.prog 79=true:=k
theorem cb80:Jd Tryz.prog 80=true:=k
theorem cb84:Jd Tryz.prog 84=true:=k
theorem cb85:Jd Tryz.prog 85=true:=k
theorem cb86:Jd Tryz.prog 86=true:=k
theorem cb87:Jd Tryz.prog 87=true:=k
theorem cb90:Jd Tryz.prog 90=true:=k
theorem cb91:Jd Tryz.prog 91=true:=k
theorem cb92:Jd Tryz.prog 92=true:=k
theorem cb93:Jd Tryz.prog 93=true:=k
theorem cb94:Jd Tryz.prog 94=true:=k
theorem cb95:Jd Tryz.prog 95=true:=k
theorem cb96:Jd Tryz.prog 96=true:=k
theorem cb97:Jd Tryz.prog 97=true:=k
theorem cb98:Jd Tryz.prog 98=true:=k
theorem cb99:Jd Tryz.prog 99=true:=k
theorem GI:Jd Tryz.prog 104=true:=k
theorem DK:Jd Tryz.prog 105=true:=k
theorem Cp:Jd Tryz.prog 106=true:=k
theorem KF:Jd Tryz.prog 107=true:=k
theorem oA:Jd Tryz.prog 108=true:=k
theorem Ml:Jd Tryz.prog 109=true:=k
theorem Ov:Jd Tryz.prog 120=true:=k
theorem nh:Jd Tryz.prog 121=true:=k
theorem Ok:Jd Tryz.prog 122=true:=k
theorem PC:Jd Tryz.prog 123=true:=k
theorem Pa:Jd Tryz.prog 124=true:=k
theorem Nn:Jd Tryz.prog 135=true:=k
theorem N6:Jd Tryz.prog 136=true:=k
theorem ns:Jd Tryz.prog 137=true:=k
theorem KW:Jd Tryz.prog 138=true:=k
theorem MC:Jd Tryz.prog 139=true:=k
theorem KJ:Jd Tryz.prog 140=true:=k
theorem I9:Jd Tryz.prog 141=true:=k
theorem Ib:Jd Tryz.prog 142=true:=k
theorem vK:Jd Tryz.prog 143=true:=k
theorem OZ:Jd Tryz.prog 144=true:=k
theorem N4:Jd Tryz.prog 145=true:=k
theorem LY:Jd Tryz.prog 146=true:=k
theorem N0:Jd Tryz.prog 147=true:=k
theorem wS:Jd Tryz.prog 148=true:=k
theorem sf:Jd Tryz.prog 152=true:=k
theorem G3:Jd Tryz.prog 153=true:=k
theorem GX:Jd Tryz.prog 154=true:=k
theorem qT:Jd Tryz.prog 155=true:=k
theorem Gn:Jd Tryz.prog 156=true:=k
theorem ww:Jd Tryz.prog 157=true:=k
theorem ox:Jd Tryz.prog 158=true:=k
theorem vS:Jd Tryz.prog 171=true:=k
theorem Lo:Jd Tryz.prog 172=true:=k
theorem IB:Jd Tryz.prog 182=true:=k
theorem Ld:Jd Tryz.prog 183=true:=k
theorem Dy:Jd Tryz.prog 184=true:=k
theorem Pk:Jd Tryz.prog 185=true:=k
theorem Ia:Jd Tryz.prog 186=true:=k
theorem ve:Jd Tryz.prog 187=true:=k
theorem LE:Jd Tryz.prog 188=true:=k
theorem pQ:Jd Tryz.prog 189=true:=k
theorem DP:Jd Tryz.prog 190=true:=k
theorem yO:Jd Tryz.prog 191=true:=k
theorem O1:Jd Tryz.prog 192=true:=k
theorem xp:Jd Tryz.prog 193=true:=k
theorem Ck:Jd Tryz.prog 194=true:=k
theorem Px:Jd Tryz.prog 195=true:=k
theorem GU:Jd Tryz.prog 196=true:=k
theorem L2:Jd Tryz.prog 197=true:=k
theorem Dv:Jd Tryz.prog 198=true:=k
theorem Vq:Jd Tryz.prog 205=true:=k
theorem KC:Jd Tryz.prog 206=true:=k
theorem JA:Jd Tryz.prog 207=true:=k
theorem zm:Jd Tryz.prog 208=true:=k
theorem Ca:Jd Tryz.prog 209=true:=k
theorem rI:Jd Tryz.prog 211=true:=k
theorem OR:Jd Tryz.prog 221=true:=k
theorem Ot:Jd Tryz.prog 222=true:=k
theorem Lk:Jd Tryz.prog 223=true:=k
theorem Dp:Jd Tryz.prog 224=true:=k
theorem N5:Jd Tryz.prog 225=true:=k
theorem N8:Jd Tryz.prog 226=true:=k
theorem G6:Jd Tryz.prog 227=true:=k
theorem NG:Jd Tryz.prog 228=true:=k
theorem M7:Jd Tryz.prog 229=true:=k
theorem KG:Jd Tryz.prog 230=true:=k
theorem OH:Jd Tryz.prog 235=true:=k
theorem DO:Jd Tryz.prog 241=true:=k
theorem Iz:Jd Tryz.prog 242=true:=k
theorem JI:Jd Tryz.prog 243=true:=k
theorem HS:Jd Tryz.prog 244=true:=k
theorem Pj:Jd Tryz.prog 245=true:=k
theorem M1:Jd Tryz.prog 246=true:=k
theorem Pi:Jd Tryz.prog 247=true:=k
theorem MG:Jd Tryz.prog 248=true:=k
theorem Oo:Jd Tryz.prog 253=true:=k
theorem LJ:Jd Tryz.prog 254=true:=k
theorem Pb:Jd Tryz.prog 255=true:=k
theorem OQ:Jd Tryz.prog 256=true:=k
theorem BH:Jd Tryz.prog 257=true:=k
theorem Cr:Jd Tryz.prog 258=true:=k
theorem Ip:Jd Tryz.prog 259=true:=k
theorem O3:Jd Tryz.prog 260=true:=k
theorem O2:Jd Tryz.prog 261=true:=k
theorem Pt:Jd Tryz.prog 265=true:=k
theorem PD:Jd Tryz.prog 273=true:=k
theorem O5:Jd Tryz.prog 278=true:=k
theorem mixed:Tryz.prog.follows .mixedOrders=true:=k
end Go.Wf
namespace Go.Wf
open Go Go.Proofs Go.RowKit
variable{a b m:List Nat}{s x y:Nat}{v0 v1:Value}
section
variable{X:Nat→Prop}{w:World}(hX:XB X w)
include hX
theorem KV{n:Int}  :CRt 260 #[(.int .i64 n)] w fun v _=>v=(.int .i64 ((n).sign)):=by
 have C:=PV hX;refine Cgo Tryz.func260 r r rfl<|Rg<|Ua<|PT<|W.block<|Rg<|Ub<|P2 r r (fun a=>?_)<|fun a=>?_
 ·exact Ua<|Uf<|Ua<|PS<|Wq r r C<|YR (by rw[Uh o])
 refine Ua<|Ug<|Ub<|QN r r (fun b=>?_)<|fun b=>?_
 ·exact Ua<|Uf<|Ua<|PS<|Wq r r C<|YR (by rw[Ui o])
 exact Ua<|Uc<|Rg<|Ua<|PS<|Wq r r C<|YR (by rw[show n=0 by omega];rfl)
theorem Zq{k:Value}(l:RS Jh X w k m)(hm:m.length≤1099511627776):CRt 205 #[k] w fun v w'=>RS Jh X w' v (trim m):=by
 obtain⟨a1,h,rfl,_,_⟩:=l.len;have C:=PV hX;refine Cgo Tryz.func205 r r r (Rg<|Ua<|PT<|W.block<|P7 (fun μ f v=>∃(x y:Nat→Prop) (j:Nat),Cx X w x y v∧f 0=(.slice a1 j h)∧RS Jh x v (.slice a1 j h) (m.take j)∧j≤m.length∧trim (m.take j)=trim m∧μ=j) _ ⟨_,_,m.length,C,rfl,(by rw[U1];exact l),(Tu _),(by rw[U1]),rfl⟩ ?_);rintro _ _ _ ⟨_,_,j,d,p,hj,hjl,htr,_⟩;obtain⟨_,rfl⟩:=rebK (aC p aN);clear p;refine Rh<|Ub<|St.len sl24 rfl<|Ol<|QN r r (fun a=>?_)<|fun a=>?_
 ·refine Om (OgD<|PP<|OgD<|PP<|OgD<|St.len sl24 rfl<|OgD<|St.sub (z:=((j:Int)-1)) r r (Tz _ o)<|OgD<|P4 (j:=(j-1)) (u:=(m.getD (j-1) 0)) hj sl24 Js r r o (Ie hjl o) ?_);intro _ _ i e;obtain⟨rfl,_⟩:i=_∧_:=e.rd;refine OgD<|P0 Yj r (e.cell 0 _ r)<|OgD<|PW r r (fun b=>?_)<|fun b=>?_
  ·refine OT (Nl<|Ud<|PR<|W.block<|PN<|Om<|Ub<|St.len sl24 rfl<|Ol<|St.sub (z:=((j:Int)-1)) r r (Tz _ o)<|Ol<|SQ (j:=(j-1)) hj sl24 Js r r o Ww ?_);intro g;refine Ua<|⟨_,o,_,_,(j-1),d,rfl,(by rw[List.take_take,VN o] at g;exact g),o,(A0 hjl a b htr),rfl⟩
  exact OT<|Nl<|Ue<|QB<|Rg<|Om<|Ua<|PS<|Wq r r d<|SX ((hj:RS _ _ _ _ _).tr d.wb)<|(AN hjl a b htr)
 exact Om<|Oz<|Oz<|Oz<|Oz<|Oz<|Oz<|Oz<|OF<|Nl<|Ue<|QB<|Rg<|Om<|Ua<|PS<|Wq r r d<|SX ((hj:RS _ _ _ _ _).tr d.wb)<|(DA hjl a htr)
theorem Yr{b:Bool}{z:Value}(d:RS Jh X w z m)(hm:m.length≤1099511627776):CRt 208 #[(.bool b),z] w fun v w'=>RV Z0 X w' v (mkSg b m):=by
 obtain⟨a1,A,rfl,_,_⟩:=d.len;have C:=PV hX;cases b
 ·refine Cgo Tryz.func208 r r r (Rg<|Ol<|PU C io26 r ?_);intro _ _ _ _ _ B M h;have d:=d.sp M;refine Nl (Rg<|Ub<|PK B Vq r r (Zq B.bd d o) ?_);intro _ _ D E e;have h:=h.spn E;obtain⟨j,k,rfl,_,_⟩:=e.len;refine Oa (Nl<|Rg<|Om<|Om<|Oz<|Oz<|Oz<|OF<|Ub<|PX (cs:=[b13,(.slice j (trim m).length k)]) r κ<|On<|Us (cs':=[b13,(.slice j (trim m).length k)]) D h io26 ?_);intro _ l F G;have e:=e.sp F;refine Nl (PS<|J1 r r G ag26 l ?_);exact SS (a:=(⟨false,(trim m)⟩:GInt)) ((Jl e).tr l.wb) (by simp[mkSg])
 refine Cgo Tryz.func208 r r r (Rg<|Ol<|PU C io26 r ?_);intro _ _ _ _ _ p H i;have d:=d.sp H;refine Nl (Rg<|Ub<|PK p Vq r r (Zq p.bd d o) ?_);intro _ _ I J g;have i:=i.spn J;obtain⟨s,x,rfl,_,_⟩:=g.len;refine Oa (Nl<|Rg<|Om<|Om<|OgD<|PP<|OgD<|St.len sl24 rfl<|OgD<|Rw r r rfl<|OT<|Ub<|PX (cs:=[(.bool (decide<|0<((trim m).length:Int))),(.slice s (trim m).length x)]) r κ<|On<|Us (cs':=[(.bool (decide<|0<((trim m).length:Int))),(.slice s (trim m).length x)]) I i io26 ?_);intro _ y K L;have g:=g.sp K;refine Nl (PS<|J1 r r L ag26 y ?_);exact SS (a:=(⟨(decide<|0<((trim m).length:Int)),(trim m)⟩:GInt)) ((Jl g).tr y.wb) (by simp[mkSg])
theorem md{e:Value}(a:RS Jh X w e m)(hm:m.length≤1099511627776):CRt 209 #[e] w fun v w'=>RS Jh X w' v m:=by
 obtain⟨a1,h,rfl,_,_⟩:=a.len;have C:=PV hX;refine Cgo Tryz.func209 r r rfl<|Rg<|Ua<|Rh<|Ub<|R8 sl24 a r r (fun g=>?_) ?_
 ·exact Nl<|Uf<|Ua<|PS<|Wq r r C<|SX ((RS.nil:RS _ _ _ _ _).tr C.wb)<|g.symm
 refine Nl (Uc<|Rg<|Ol<|SO (T:=Jh) C sl24 Js ?_);intro _ _ _ i j _ k;have a:=a.sp j;refine Om (Ol<|P8 (T:=Jh) i sl24 Js r r k (Z5 a) (by simp only[Te,maxLen];omega) (by simp only[Te];omega) r ?_);intro _ _ _ d _ _ b;rw[TJ] at b;obtain⟨_,_,rfl,_,_⟩:=b.len;exact Ua<|PS<|Wq r r d<|SX (b.toRS d hX)<|rfl
theorem mA{n:Nat}(hn:n<18446744073709551616):CRt 211 #[(.int .u64 n)] w fun v w'=>RS Jh X w' v (digs n):=by
 have C:=PV hX;refine Cgo Tryz.func211 r r rfl<|Rg<|Ua<|PT<|W.block<|Rg<|Ub<|PW r r (fun b=>?_)<|fun b=>?_
 ·exact Ua<|Uf<|Ua<|PS<|Wq r r C<|SX ((RS.nil:RS _ _ _ _ _).tr C.wb) (by rw[show n=0 by omega];rfl)
 refine Ua<|Ug<|Ub<|P2 r r (fun e=>?_)<|fun e=>?_
 ·refine Oa (Nl<|Uf<|Ub<|P6 (z:=((n%4294967296:Nat):Int)) X3 Vh r (J5 _)<|Ol<|P5 (T:=Jh) (css:=[[(.int .u32 ((n%4294967296:Nat):Int))]]) (l:=[n%4294967296]) C sl24 Js δ δ r k ⟨⟨rfl,o⟩,trivial⟩ ?_);intro _ _ g _ i;exact Ua<|PS<|Wq r r g<|SX ((i:RS _ _ _ _ _).tr g.wb) (by rw[oO o o];congr 1;omega)
 refine Oa (Nl<|Uc<|Rg<|Ub<|P6 (z:=((n%4294967296:Nat):Int)) X3 Vh r (J5 _)<|Ub<|Rl r r δ (Ka (d:=4294967296) _ δ)<|Ol<|P6 (z:=(((n/4294967296)%4294967296:Nat):Int)) X3 Vh r (J5 _) ?_);refine Ol (P5 (T:=Jh) (css:=[[(.int .u32 ((n%4294967296:Nat):Int))],[(.int .u32 (((n/4294967296)%4294967296:Nat):Int))]]) (l:=[n%4294967296,(n/4294967296)%4294967296]) C sl24 Js δ δ r k ⟨⟨rfl,o⟩,⟨rfl,o⟩,trivial⟩ ?_);intro _ _ a _ h;exact Ua<|PS<|Wq r r a<|SX ((h:RS _ _ _ _ _).tr a.wb) (by rw[DH o o];congr 2;omega)
theorem tW{D:Value}(e:RS Jh X w D m)(hm:m.length≤2):CRt 241 #[D] w fun v _=>v=(.int .u64 (((val m):Nat):Int)):=by
 obtain⟨a1,l,rfl,_,_⟩:=e.len;have C:=PV hX;have hs:=e.u32_small;have aj:=Jk hs 0;have ak:=Jk hs 1;refine Cgo Tryz.func241 r r rfl<|Rg<|Ua<|Rh<|Ub<|St.len sl24 rfl<|Nl<|W.block<|Rg<|Ol<|PW r r (fun E=>?_)<|fun E=>?_
 ·exact Ua<|Uf<|Ua<|PS<|Wq r r C<|YR<|LT o
 refine Ua<|Ug<|Ol<|PW r r (fun F=>?_)<|fun F=>?_
 ·refine Oa (Nl<|Uf<|Ub<|P4 (j:=0) (u:=(m.getD 0 0)) e sl24 Js r r r (Je o) ?_);intro _ _ G H;obtain⟨rfl,_⟩:G=_∧_:=H.rd;exact Ol<|P0 Yj r (H.cell 0 _ r)<|Ol<|P6 (z:=(((m.getD 0 0):Nat):Int)) Kj Kq r (Tw _ o)<|Ua<|PS<|Wq r r C<|YR<|ML o
 refine Ua<|Uc<|PT<|QL mixed 9 [[],[0],[1],[2],[3],[],[5],[6],[7]] C [fx<|.slice a1 m.length l,fE Jh<|m.getD 1 0,fx<|.int .u32 (((m.getD 1 0):Nat):Int),fx<|.int .u64 (((m.getD 1 0):Nat):Int),fx<|.int .u64 ((m.getD 1 0*4294967296:Nat):Int),fx<|.slice a1 m.length l,fE Jh<|m.getD 0 0,fx<|.int .u32 (((m.getD 0 0):Nat):Int),fx<|.int .u64 (((m.getD 0 0):Nat):Int)] κ ⟨sx,sE,sx,sx,sx,sx,sE,sx,sx,trivial⟩ fun I d _ ⟨b,J⟩ a=>?_
 have e:=e.sp J;have a:Keep [13,14,15,16,17,18,19,20,21] _ I:=a;refine⟨⟨fun _=>?_,fun⟨K,_⟩=>?_,fun⟨L,_⟩=>?_,fun⟨M,_⟩=>?_,fun⟨N,_⟩=>?_,fun _=>?_,fun⟨P,_⟩=>?_,fun⟨Q,_⟩=>?_,fun⟨R,_⟩=>?_,trivial⟩,fun⟨S,T,U,V,Y,Z,aa,ab,ac,_⟩=>?_⟩
 ·exact Sd0 a fun _=>PP ⟨d,PQ b,rfl⟩
 ·refine Sd1 a K fun _=>P4 (j:=1) (u:=(m.getD 1 0)) e sl24 Js r r r (Je o) ?_;intro _ _ p g;obtain⟨rfl,_⟩:p=_∧_:=g.rd;exact⟨d,PQ b,⟨_,_,_,rfl,g⟩⟩
 ·obtain⟨_,_,s,ad,h⟩:=L;obtain⟨rfl,_⟩:s=_∧_:=h.rd;exact Sd1 a ad fun _=>P0 Yj r (h.cell 0 _ r) ⟨d,PQ b,rfl⟩
 ·exact Sd1 a M fun _=>P6 (z:=(((m.getD 1 0):Nat):Int)) Kj Kq r (Tw _ o) ⟨d,PQ b,rfl⟩
 ·exact Sd1 a N fun _=>RY (z:=((m.getD 1 0*4294967296:Nat):Int)) r r δ (pi<|Jk hs 1) ⟨d,PQ b,rfl⟩
 ·exact Sd0 a fun _=>PP ⟨d,PQ b,rfl⟩
 ·refine Sd1 a P fun _=>P4 (j:=0) (u:=(m.getD 0 0)) e sl24 Js r r r (Je o) ?_;intro _ _ x i;obtain⟨rfl,_⟩:x=_∧_:=i.rd;exact⟨d,PQ b,⟨_,_,_,rfl,i⟩⟩
 ·obtain⟨_,_,y,ae,k⟩:=Q;obtain⟨rfl,_⟩:y=_∧_:=k.rd;exact Sd1 a ae fun _=>P0 Yj r (k.cell 0 _ r) ⟨d,PQ b,rfl⟩
 ·exact Sd1 a R fun _=>P6 (z:=(((m.getD 0 0):Nat):Int)) Kj Kq r (Tw _ o) ⟨d,PQ b,rfl⟩
 obtain⟨_,_,A,af,ag⟩:=T;obtain⟨rfl,_⟩:A=_∧_:=ag.rd;obtain⟨_,_,B,ah,ai⟩:=aa;obtain⟨rfl,_⟩:B=_∧_:=ai.rd;obtain⟨_,rfl⟩:=mixK a (aC S<|aC af<|aC U<|aC V<|aC Y<|aC Z<|aC ah<|aC ab<|aC ac aN);exact Ol<|Sa (z:=((m.getD 1 0*4294967296+m.getD 0 0:Nat):Int)) r r (oH (Jk hs 1)<|Jk hs 0)<|Ua<|PS<|Wq r r b<|YR<|Mw o
theorem pF(l:RS Jh X w v0 a)(m:RS Jh X w v1 b)(ha:trim a=a)(hb:trim b=b)(hla:a.length≤1099511627776)(hlb:b.length≤1099511627776):CRt 246 #[v0,v1] w fun v _=>v=(.int .i64 (cmpN (val a) (val b))):=by
 obtain⟨a1,p,rfl,_,_⟩:=l.len;obtain⟨s,A,rfl,_,_⟩:=m.len;have C:=PV hX;have sa:=l.u32_small;have sb:=m.u32_small;refine Cgo Tryz.func246 r r rfl<|Rg<|Ua<|Rh<|Ub<|St.len sl24 rfl<|Ub<|St.len sl24 rfl<|Ol<|QH r r (fun aK=>?_)<|fun aK=>?_
 ·refine Nl (Uf<|Ub<|St.len sl24 rfl<|Ub<|St.len sl24 rfl<|Ol<|St.sub (z:=((a.length:Int)-(b.length:Int))) r r (Tz _ o)<|Ol<|PK C O3 r r (KV C.bd) ?_);intro _ _ C8 _ aL;subst aL;exact Ua<|PS<|Wq r r C8<|YR<|(Hb ha hb sa sb o)
 refine Nl (Uc<|Rh<|Ub<|St.len sl24 rfl<|Ol<|St.sub (z:=((a.length:Int)-1)) r r (Tz _ o)<|Ua<|W.block<|P7 (fun μ f v=>∃(x y:Nat→Prop) (j:Nat),Cx X w x y v∧f 0=(S12 a1 a p)∧f 1=(S12 s b A)∧f 5=(.int .i64 ((j:Int)-1))∧RS Jh x v (S12 a1 a p) a∧RS Jh x v (S12 s b A) b∧j≤a.length∧a.drop j=b.drop j∧μ=j) _ ⟨_,_,a.length,C,rfl,rfl,rfl,l,m,(Tu _),(by rw[TI<|Tu _,TI o]),rfl⟩ ?_);rintro _ _ _ ⟨_,_,j,Q,R,S,T,l,m,_,heq,_⟩;obtain⟨_,rfl⟩:=rebK (aC R<|aC S<|aC T aN);clear R S T;refine Rh<|Ub<|Ra r r (fun ab=>?_)<|fun ab=>?_
 ·refine Nl<|Ud<|PR<|PT<|W.block<|PT<|QL mixed 8 [[],[],[0,1],[2],[],[],[4,5],[6]] Q [fx<|.slice a1 a.length p,fx<|.int .i64 ((j:Int)-1),fE Jh<|a.getD (j-1) 0,fx<|.int .u32 (((a.getD (j-1) 0):Nat):Int),fx<|.slice s b.length A,fx<|.int .i64 ((j:Int)-1),fE Jh<|b.getD (j-1) 0,fx<|.int .u32 (((b.getD (j-1) 0):Nat):Int)] κ ⟨sx,sx,sE,sx,sx,sx,sE,sx,trivial⟩ fun aM k _ ⟨i,U⟩ g=>?_
  have l:=l.sp U;have m:=m.sp U;have g:Keep [24,25,26,27,28,29,30,31] _ aM:=g;refine⟨⟨fun _=>?_,fun _=>?_,fun⟨aO,aP,_⟩=>?_,fun⟨aQ,_⟩=>?_,fun _=>?_,fun _=>?_,fun⟨aR,aS,_⟩=>?_,fun⟨aT,_⟩=>?_,trivial⟩,fun⟨aU,aV,aW,aX,aY,aZ,a0,a4,_⟩=>?_⟩
  ·exact Sd0 g fun _=>PP ⟨k,PQ i,rfl⟩
  ·exact Sd0 g fun _=>PP ⟨k,PQ i,rfl⟩
  ·refine Jf g (aC aO<|aC aP aN) fun _=>P1 (P4 (j:=(j-1)) (u:=(a.getD (j-1) 0)) l sl24 Js r r o (Je o) ?_);intro _ _ ac V;obtain⟨rfl,_⟩:ac=_∧_:=V.rd;exact⟨k,PQ i,⟨_,_,_,rfl,V⟩⟩
  ·obtain⟨_,_,ad,a5,Y⟩:=aQ;obtain⟨rfl,_⟩:ad=_∧_:=Y.rd;exact Sd1 g a5 fun _=>P0 Yj r (Y.cell 0 _ r) ⟨k,PQ i,rfl⟩
  ·exact Sd0 g fun _=>PP ⟨k,PQ i,rfl⟩
  ·exact Sd0 g fun _=>PP ⟨k,PQ i,rfl⟩
  ·refine Jf g (aC aR<|aC aS aN) fun _=>P1 (P4 (j:=(j-1)) (u:=(b.getD (j-1) 0)) m sl24 Js r r o (Je o) ?_);intro _ _ ae Z;obtain⟨rfl,_⟩:ae=_∧_:=Z.rd;exact⟨k,PQ i,⟨_,_,_,rfl,Z⟩⟩
  ·obtain⟨_,_,af,a6,aa⟩:=aT;obtain⟨rfl,_⟩:af=_∧_:=aa.rd;exact Sd1 g a6 fun _=>P0 Yj r (aa.cell 0 _ r) ⟨k,PQ i,rfl⟩
  obtain⟨_,_,ag,a7,a8⟩:=aW;obtain⟨rfl,_⟩:ag=_∧_:=a8.rd;obtain⟨_,_,ah,a9,ba⟩:=a0;obtain⟨rfl,_⟩:ah=_∧_:=ba.rd;obtain⟨_,rfl⟩:=mixK g (aC aU<|aC aV<|aC a7<|aC aX<|aC aY<|aC aZ<|aC a9<|aC a4 aN);refine Ol<|QH r r (fun B=>?_)<|fun B=>?_
  ·refine Nl<|Ud<|PT<|PT<|QL mixed 8 [[],[],[0,1],[2],[],[],[4,5],[6]] i [fx<|.slice a1 a.length p,fx<|.int .i64 ((j:Int)-1),fE Jh<|a.getD (j-1) 0,fx<|.int .u32 (((a.getD (j-1) 0):Nat):Int),fx<|.slice s b.length A,fx<|.int .i64 ((j:Int)-1),fE Jh<|b.getD (j-1) 0,fx<|.int .u32 (((b.getD (j-1) 0):Nat):Int)] κ ⟨sx,sx,sE,sx,sx,sx,sE,sx,trivial⟩ fun ai h _ ⟨e,D⟩ d=>?_
   have l:=l.sp D;have m:=m.sp D;have d:Keep [33,34,35,36,37,38,39,40] _ ai:=d;refine⟨⟨fun _=>?_,fun _=>?_,fun⟨aj,ak,_⟩=>?_,fun⟨am,_⟩=>?_,fun _=>?_,fun _=>?_,fun⟨an,ao,_⟩=>?_,fun⟨aq,_⟩=>?_,trivial⟩,fun⟨ar,au,av,aw,ax,ay,az,aA,_⟩=>?_⟩
   ·exact Sd0 d fun _=>PP ⟨h,PQ e,rfl⟩
   ·exact Sd0 d fun _=>PP ⟨h,PQ e,rfl⟩
   ·refine Jf d (aC aj<|aC ak aN) fun _=>P1 (P4 (j:=(j-1)) (u:=(a.getD (j-1) 0)) l sl24 Js r r o (Je o) ?_);intro _ _ I E;obtain⟨rfl,_⟩:I=_∧_:=E.rd;exact⟨h,PQ e,⟨_,_,_,rfl,E⟩⟩
   ·obtain⟨_,_,J,aB,F⟩:=am;obtain⟨rfl,_⟩:J=_∧_:=F.rd;exact Sd1 d aB fun _=>P0 Yj r (F.cell 0 _ r) ⟨h,PQ e,rfl⟩
   ·exact Sd0 d fun _=>PP ⟨h,PQ e,rfl⟩
   ·exact Sd0 d fun _=>PP ⟨h,PQ e,rfl⟩
   ·refine Jf d (aC an<|aC ao aN) fun _=>P1 (P4 (j:=(j-1)) (u:=(b.getD (j-1) 0)) m sl24 Js r r o (Je o) ?_);intro _ _ K G;obtain⟨rfl,_⟩:K=_∧_:=G.rd;exact⟨h,PQ e,⟨_,_,_,rfl,G⟩⟩
   ·obtain⟨_,_,L,aD,H⟩:=aq;obtain⟨rfl,_⟩:L=_∧_:=H.rd;exact Sd1 d aD fun _=>P0 Yj r (H.cell 0 _ r) ⟨h,PQ e,rfl⟩
   obtain⟨_,_,M,aE,aF⟩:=av;obtain⟨rfl,_⟩:M=_∧_:=aF.rd;obtain⟨_,_,N,aG,aH⟩:=az;obtain⟨rfl,_⟩:N=_∧_:=aH.rd;obtain⟨_,rfl⟩:=mixK d (aC ar<|aC au<|aC aE<|aC aw<|aC ax<|aC ay<|aC aG<|aC aA aN);refine Ol<|P2 r r (fun P=>?_)<|fun P=>?_
   ·exact Nl<|Uf<|Ua<|PS<|Wq r r e<|YR<|(Ee sa sb o o o o heq)
   exact Nl<|Uc<|Rg<|Ua<|PS<|Wq r r e<|YR<|(Nf sa sb o o o o o heq)
  refine Nl<|Uc<|PN<|Ub<|St.sub (z:=(((j:Int)-1)-1)) r r (Tz _ o)<|Ua<|⟨_,o,_,_,(j-1),i,rfl,rfl,(congrArg (Value.int .i64) o),l,m,o,(CT o o o B heq),rfl⟩
 exact Nl<|Ue<|QB<|Rg<|Ua<|PS<|Wq r r Q<|YR<|(JS (show j=0 by omega) heq)
end
section
variable{X:Nat→Prop}{w:World}(hX:XB X w)
include hX
theorem mS{c:Nat}(hx:x<4294967296)(hy:y<4294967296)(hc:c≤1):CRt 257 #[(.int .u32 x),(.int .u32 y),(.int .u32 c)] w fun v _=>(∃e g,v= .tuple #[e,g]∧(e=(.int .u32 ((((x+y+c)%4294967296):Nat):Int)))∧(g=(.int .u32 ((((x+y+c)/4294967296):Nat):Int)))):=by
 have C:=PV hX;refine Cgo Tryz.func257 r r r (Rg<|Oa<|Ua<|Rg<|Ub<|P6 (z:=(x:Int)) Kj Kq r (Tw _ o)<|Om ?_);refine Ol (P6 (z:=(y:Int)) Kj Kq r (Tw _ o)<|Ol<|St.add r r (Yz (a:=x) (b:=y) o)<|Ub<|P6 (z:=(c:Int)) Kj Kq r (Tw _ o)<|Ol<|St.add r r (Yz (a:=x+y) (b:=c) o)<|Ua<|PT ?_);refine PN (Ub<|P6 (z:=((((x+y)+c)%4294967296:Nat):Int)) X3 Vh r (J5 _)<|Ua<|Rg<|Ub<|Rl r r δ (Ka (d:=4294967296) _ δ)<|Ol<|P6 (z:=(((((x+y)+c)/4294967296)%4294967296:Nat):Int)) X3 Vh r (J5 _) ?_);refine Oa (Nl<|PS<|Xi r r r C ?_);refine⟨_,_,rfl,?_,?_⟩
 ·skip
  rfl
 ·exact YR o
theorem oI{b:Nat}(hx:x<4294967296)(hy:y<4294967296)(hb:b≤1):CRt 258 #[(.int .u32 x),(.int .u32 y),(.int .u32 b)] w fun v _=>(∃e g,v= .tuple #[e,g]∧(e=(.int .u32 ((((x+8589934592-y-b)%4294967296):Nat):Int)))∧(g=(.int .u32 (((if x<y+b then 1 else 0):Nat):Int)))):=by
 have C:=PV hX;have hxy:x ^^^ y<4294967296:=Nat.xor_lt_two_pow (n:=32) hx hy;have i:(4294967295-x) &&& y<4294967296:=U6 _ (n:=32) hy;have h:∀d,d<4294967296→(4294967295-(x ^^^ y)) &&& d<4294967296:=fun d hd=>U6 _ (n:=32) hd;refine Cgo Tryz.func258 r r r (Rg<|Oa<|Ua<|Rg<|Om<|Ub<|St.sub (z:=(((x+4294967296-y)%4294967296:Nat):Int)) r r (FF hy) ?_);refine Om (Ol<|St.sub (z:=(((x+8589934592-y-b)%4294967296:Nat):Int)) r r ((FF o).trans o)<|Ua<|Rg<|Ub<|Sy r (mP o)<|Ub<|Sf r r (ml (a:=4294967295-x) (b:=y) o o)<|Om ?_);refine Om (Ol<|St.xor r r (r3 (a:=x) (b:=y) o o)<|Ol<|Sy r (mP o)<|Ub<|Sf r r (ml (a:=4294967295-(x ^^^ y)) (b:=(x+8589934592-y-b)%4294967296) o o)<|Ol<|Sa r r (nV (a:=(4294967295-x) &&& y) (b:=(4294967295-(x ^^^ y)) &&& ((x+8589934592-y-b)%4294967296)) o<|h _ o) ?_);refine Ol (Rl r r δ (Ka (d:=2147483648) _ δ)<|Ua<|PS<|Xi r r r C ?_);refine⟨_,_,rfl,?_,?_⟩
 ·skip
  rfl
 ·exact YR<|congrArg _<|wg hx hy hb r
theorem Gc{hi:Nat}{lo:Nat}(hh:hi<y)(hl:lo<4294967296)(hy:y<4294967296):CRt 235 #[(.int .u32 hi),(.int .u32 lo),(.int .u32 y)] w fun v _=>(∃e g,v= .tuple #[e,g]∧(e=(.int .u32 ((((hi*4294967296+lo)/y):Nat):Int)))∧(g=(.int .u32 ((((hi*4294967296+lo)%y):Nat):Int)))):=by
 have C:=PV hX;have hq:(hi*4294967296+lo)/y<4294967296:=VB (by have:=VQ 4294967296 (show hi+1≤y by omega);omega);have hr:=Tp (hi*4294967296+lo) (show 0<y by omega);refine Cgo Tryz.func235 r r r (Rg<|Oa<|Ua<|Rh<|Ub<|Rj (t:=true) r r (by rw[decide_eq_false o];rfl)<|Om ?_);refine OgD (PP<|OgD<|PP<|OgD<|Rx (t:=false) r r (decide_eq_false o)<|OT<|Nl<|Uc<|Rg<|Ub<|P6 (z:=(hi:Int)) Kj Kq r (Tw _ o)<|Ol<|RY r r δ (m5 (a:=hi) (d:=4294967296) δ o) ?_);refine Om (Ol<|P6 (z:=(lo:Int)) Kj Kq r (Tw _ o)<|Ol<|Sa (z:=((hi*4294967296+lo:Nat):Int)) r r (oH o o)<|Ua<|PT<|QY mixed 11 C<|Qm<|Qm<|Qp (fun _=>P6 (z:=(y:Int)) Kj Kq r (Tw _ o) ⟨rfl,rfl⟩) ?_);refine Qp (fun _=>Ry r r o (ym (a:=hi*4294967296+lo) (b:=y) o) ⟨rfl,rfl⟩) (Qp (fun _=>P6 (z:=((((hi*4294967296+lo)/y)%4294967296:Nat):Int)) X3 Vh r (J5 _) ⟨rfl,rfl⟩)<|Qm<|Qm<|Qp (fun _=>P6 (z:=(y:Int)) Kj Kq r (Tw _ o) ⟨rfl,rfl⟩)<|Qp (fun _=>RI r r o (yu (hi*4294967296+lo) y) ⟨rfl,rfl⟩) ?_);refine Qp (fun _=>P6 (z:=((((hi*4294967296+lo)%y)%4294967296:Nat):Int)) X3 Vh r (J5 _) ⟨rfl,rfl⟩) (Qa<|Qz fun _ h _=>(Ua<|PS<|Xi r r r h ?_));refine⟨_,_,rfl,?_,?_⟩
 ·exact YR<|congrArg _<|VO hq
 ·exact YR<|congrArg _<|VO<|Nat.lt_trans hr hy
theorem EJ(d:RS Jh X w v0 a)(e:RS Jh X w v1 b)(hla:a.length≤549755813888)(hlb:b.length≤549755813888):CRt 243 #[v0,v1] w fun v w'=>RS Jh X w' v (Zc (max a.length b.length+1) (val a+val b)):=by
 obtain⟨a1,z,rfl,_,_⟩:=d.len;obtain⟨D,E,rfl,_,_⟩:=e.len;have C:=PV hX;have sa:=d.u32_small;have sb:=e.u32_small;refine Cgo Tryz.func243 r r rfl<|Rg<|Ua<|Rh<|Ub<|St.len sl24 rfl<|Ub<|St.len sl24 rfl<|Ol<|P2 r r (fun aM=>?_)<|fun aM=>?_
 ·refine Nl (Uk<|Om<|Om<|Oa<|Ua<|Rg<|Ub<|St.len sl24 rfl<|Ol<|St.add r r (Ja (a:=b.length) (b:=1) o)<|Ol<|Rp (n:=(b.length+1)) C sl24 r r r o Js δ ?_);intro g6 _ _ _ _ aP S aQ;have d:=d.sp S;have e:=e.sp S;refine Oa (Nl<|Rg<|Ua<|Rh<|Ub<|St.len sl24 rfl<|Om<|Nl<|W.block<|P7 (fun μ f v=>∃(x y:Nat→Prop) (i:Nat) (p:List Nat) (c:Nat),Cx X w x y v∧f 0=(S12 D b E)∧f 1=(S12 a1 a z)∧f 5=(.slice (some ⟨g6,0,none⟩) (b.length+1) (b.length+1))∧f 21=(S12 D b E)∧f 22=(.int .i64 b.length)∧f 23=(.int .i64 i)∧f 6=(.int .u32 c)∧RS Jh x v (S12 a1 a z) a∧RS Jh x v (S12 D b E) b∧Own w y v g6 ((p++List.replicate ((b.length+1)-i) 0).map u32v) 118∧i≤b.length∧p.length=i∧Jr p∧c≤1∧val p+4294967296^i*c=val (b.take i)+val (a.take i)∧μ=(b.length-i)) _ ⟨_,_,0,[],0,aP,rfl,rfl,rfl,rfl,rfl,rfl,rfl,d,e,aQ,(Tv _),rfl,Zh,o,WB,rfl⟩ ?_);rintro _ _ _ ⟨_,_,i,p,c,k,T,U,V,Y,Z,aa,ab,d,e,g,hi,hp,hs,hc,hv,_⟩;obtain⟨_,rfl⟩:=rebK (aC T<|aC U<|aC V<|aC Y<|aC Z<|aC aa<|aC ab aN);clear T U V Y Z aa ab;refine Rg<|Ol<|P2 r r (fun ax=>?_)<|fun ax=>?_
  ·refine Nl (PT<|Ud<|PR<|PT<|W.block<|Rg<|Ub<|P4 (j:=i) (u:=(b.getD i 0)) e sl24 Js r r r (Je o) ?_);intro _ _ ay ac;obtain⟨rfl,_⟩:ay=_∧_:=ac.rd;refine Ol<|P0 Yj r (ac.cell 0 _ r)<|Oa<|Ua<|Rg<|Ua<|Rh<|Om<|Ub<|St.len sl24 rfl<|Ol<|P2 r r (fun az=>?_)<|fun az=>?_
   ·refine Nl (Uk<|Om<|Ub<|P4 (j:=i) (u:=(a.getD i 0)) d sl24 Js r r r (Je o) ?_);intro _ _ aA ad;obtain⟨rfl,_⟩:aA=_∧_:=ad.rd;refine Ol (P0 Yj r (ad.cell 0 _ r)<|Ua<|PN<|Om<|Om<|Om<|Om<|Ub<|PK k BH r r (mS k.bd (x:=(b.getD i 0)) (y:=(a.getD i 0)) (c:=c) o o hc) ?_);intro _ _ aR F aS;have g:=g.spn F;obtain⟨_,_,rfl,rfl,rfl⟩:=aS;refine Om (Ol<|St.extract r rfl<|Ol<|St.extract r rfl<|Ol<|QX (j:=i) sl24 Js r r r o<|On<|QR (j:=i) (u:=(((b.getD i 0)+(a.getD i 0)+c)%4294967296)) aR g Js r r G' ?_);intro _ aT ae af;have d:=(d.sp F).sp ae;have e:=(e.sp F).sp ae;rw[X7 hp o] at af;refine Ua<|PN<|Ol<|St.add r r (Ja (a:=i) (b:=1) o)<|Om<|Nl<|⟨_,o,_,_,(i+1),(p++[(((b.getD i 0)+(a.getD i 0)+c)%4294967296)]),(((b.getD i 0)+(a.getD i 0)+c)/4294967296),aT,rfl,rfl,rfl,rfl,rfl,rfl,rfl,d,e,af,o,E',(Zz hs o),o,(qg hp hv r r),rfl⟩
   refine Nl (Uc<|PN<|Om<|Om<|Om<|Om<|Ub<|PK k BH r r (mS k.bd (x:=(b.getD i 0)) (y:=0) (c:=c) o o hc) ?_);intro _ _ aU G aV;have g:=g.spn G;obtain⟨_,_,rfl,rfl,rfl⟩:=aV;refine Om (Ol<|St.extract r rfl<|Ol<|St.extract r rfl<|Ol<|QX (j:=i) sl24 Js r r r o<|On<|QR (j:=i) (u:=(((b.getD i 0)+0+c)%4294967296)) aU g Js r r G' ?_);intro _ aW ag ah;have d:=(d.sp G).sp ag;have e:=(e.sp G).sp ag;rw[X7 hp o] at ah;refine Ua<|PN<|Ol<|St.add r r (Ja (a:=i) (b:=1) o)<|Om<|Nl<|⟨_,o,_,_,(i+1),(p++[(((b.getD i 0)+0+c)%4294967296)]),(((b.getD i 0)+0+c)/4294967296),aW,rfl,rfl,rfl,rfl,rfl,rfl,rfl,d,e,ah,o,E',(Zz hs o),o,(qg hp hv rfl<|my o),rfl⟩
  refine Nl (PT<|Ue<|QB<|Rg<|Om<|Ub<|St.len sl24 rfl<|Ub<|QX (j:=b.length) sl24 Js r r r o<|On<|QR (j:=b.length) (u:=c) k g Js r r G' ?_);intro _ ai _ aj;rw[pO hp o] at aj;exact Nl<|Rg<|Om<|Ua<|PS<|Wq r r ai<|SX (aj.rowRS ai hX (by rw[Tc,hp];show _=_+1;omega) o (Zz hs o) id)<|((tC (A:=b) (B:=a) hs o r o hc (by rw[show b.length=i by omega];exact hv)).trans (by rw[Nat.max_eq_right o,Nat.add_comm<|val b]))
 refine Nl (Uc<|Rg<|Ub<|St.len sl24 rfl<|Ol<|St.add r r (Ja (a:=a.length) (b:=1) o)<|Ol<|Rp (n:=(a.length+1)) C sl24 r r r o Js δ ?_);intro ak _ _ _ _ aX am aY;have d:=d.sp am;have e:=e.sp am;refine Oa (Nl<|Rg<|Ua<|Rh<|Ub<|St.len sl24 rfl<|Om<|Nl<|W.block<|P7 (fun μ f v=>∃(x y:Nat→Prop) (i:Nat) (p:List Nat) (c:Nat),Cx X w x y v∧f 0=(S12 a1 a z)∧f 1=(S12 D b E)∧f 5=(.slice (some ⟨ak,0,none⟩) (a.length+1) (a.length+1))∧f 21=(S12 a1 a z)∧f 22=(.int .i64 a.length)∧f 23=(.int .i64 i)∧f 6=(.int .u32 c)∧RS Jh x v (S12 a1 a z) a∧RS Jh x v (S12 D b E) b∧Own w y v ak ((p++List.replicate ((a.length+1)-i) 0).map u32v) 118∧i≤a.length∧p.length=i∧Jr p∧c≤1∧val p+4294967296^i*c=val (a.take i)+val (b.take i)∧μ=(a.length-i)) _ ⟨_,_,0,[],0,aX,rfl,rfl,rfl,rfl,rfl,rfl,rfl,d,e,aY,(Tv _),rfl,Zh,o,WB,rfl⟩ ?_);rintro _ _ _ ⟨_,_,i,p,c,l,an,ao,aq,ar,au,av,aw,d,e,h,hi,hp,hs,hc,hv,_⟩;obtain⟨_,rfl⟩:=rebK (aC an<|aC ao<|aC aq<|aC ar<|aC au<|aC av<|aC aw aN);clear an ao aq ar au av aw;refine Rg<|Ol<|P2 r r (fun aB=>?_)<|fun aB=>?_
 ·refine Nl (PT<|Ud<|PR<|PT<|W.block<|Rg<|Ub<|P4 (j:=i) (u:=(a.getD i 0)) d sl24 Js r r r (Je o) ?_);intro _ _ aD H;obtain⟨rfl,_⟩:aD=_∧_:=H.rd;refine Ol<|P0 Yj r (H.cell 0 _ r)<|Oa<|Ua<|Rg<|Ua<|Rh<|Om<|Ub<|St.len sl24 rfl<|Ol<|P2 r r (fun Q=>?_)<|fun Q=>?_
  ·refine Nl (Uk<|Om<|Ub<|P4 (j:=i) (u:=(b.getD i 0)) e sl24 Js r r r (Je o) ?_);intro _ _ R I;obtain⟨rfl,_⟩:R=_∧_:=I.rd;refine Ol (P0 Yj r (I.cell 0 _ r)<|Ua<|PN<|Om<|Om<|Om<|Om<|Ub<|PK l BH r r (mS l.bd (x:=(a.getD i 0)) (y:=(b.getD i 0)) (c:=c) o o hc) ?_);intro _ _ aE m aF;have h:=h.spn m;obtain⟨_,_,rfl,rfl,rfl⟩:=aF;refine Om (Ol<|St.extract r rfl<|Ol<|St.extract r rfl<|Ol<|QX (j:=i) sl24 Js r r r o<|On<|QR (j:=i) (u:=(((a.getD i 0)+(b.getD i 0)+c)%4294967296)) aE h Js r r G' ?_);intro _ aG J K;have d:=(d.sp m).sp J;have e:=(e.sp m).sp J;rw[X7 hp o] at K;refine Ua<|PN<|Ol<|St.add r r (Ja (a:=i) (b:=1) o)<|Om<|Nl<|⟨_,o,_,_,(i+1),(p++[(((a.getD i 0)+(b.getD i 0)+c)%4294967296)]),(((a.getD i 0)+(b.getD i 0)+c)/4294967296),aG,rfl,rfl,rfl,rfl,rfl,rfl,rfl,d,e,K,o,E',(Zz hs o),o,(qg hp hv r r),rfl⟩
  refine Nl (Uc<|PN<|Om<|Om<|Om<|Om<|Ub<|PK l BH r r (mS l.bd (x:=(a.getD i 0)) (y:=0) (c:=c) o o hc) ?_);intro _ _ aH s aI;have h:=h.spn s;obtain⟨_,_,rfl,rfl,rfl⟩:=aI;refine Om (Ol<|St.extract r rfl<|Ol<|St.extract r rfl<|Ol<|QX (j:=i) sl24 Js r r r o<|On<|QR (j:=i) (u:=(((a.getD i 0)+0+c)%4294967296)) aH h Js r r G' ?_);intro _ aJ L M;have d:=(d.sp s).sp L;have e:=(e.sp s).sp L;rw[X7 hp o] at M;refine Ua<|PN<|Ol<|St.add r r (Ja (a:=i) (b:=1) o)<|Om<|Nl<|⟨_,o,_,_,(i+1),(p++[(((a.getD i 0)+0+c)%4294967296)]),(((a.getD i 0)+0+c)/4294967296),aJ,rfl,rfl,rfl,rfl,rfl,rfl,rfl,d,e,M,o,E',(Zz hs o),o,(qg hp hv rfl<|my o),rfl⟩
 refine Nl (PT<|Ue<|QB<|Rg<|Om<|Ub<|St.len sl24 rfl<|Ub<|QX (j:=a.length) sl24 Js r r r o<|On<|QR (j:=a.length) (u:=c) l h Js r r G' ?_);intro _ N _ P;rw[pO hp o] at P;exact Nl<|Rg<|Om<|Ua<|PS<|Wq r r N<|SX (P.rowRS N hX (by rw[Tc,hp];show _=_+1;omega) o (Zz hs o) id)<|((tC (A:=a) (B:=b) hs o r o hc (by rw[show a.length=i by omega];exact hv)).trans (by rw[Nat.max_eq_left o]))
theorem A6{T:Value}(d:RS Jh X w T a){U:Value}(e:RS Jh X w U b)(hla:a.length≤1099511627776)(hlb:b.length≤a.length)(hle:val b≤val a):CRt 244 #[T,U] w fun v w'=>RS Jh X w' v (Zc a.length (val a-val b)):=by
 obtain⟨a1,L,rfl,_,_⟩:=d.len;obtain⟨M,N,rfl,_,_⟩:=e.len;have C:=PV hX;have sa:=d.u32_small;have sb:=e.u32_small;refine Cgo Tryz.func244 r r r (Rg<|Ua<|Rg<|Ub<|St.len sl24 rfl<|Ol<|Rp (n:=a.length) C sl24 r r r o Js δ ?_);intro V _ _ _ _ Y m Z;have d:=d.sp m;have e:=e.sp m;refine Oa (Nl<|Rg<|Ua<|Rh<|Ub<|St.len sl24 rfl<|Om<|Nl<|W.block<|P7 (fun μ f v=>∃(x y:Nat→Prop) (i:Nat) (p:List Nat) (c:Nat),Cx X w x y v∧f 1=(S12 M b N)∧f 5=(S12 (some ⟨V,0,none⟩) a a.length)∧f 13=(S12 a1 a L)∧f 14=(.int .i64 a.length)∧f 15=(.int .i64 i)∧f 6=(.int .u32 c)∧RS Jh x v (S12 a1 a L) a∧RS Jh x v (S12 M b N) b∧Own w y v V ((p++List.replicate (a.length-i) 0).map u32v) 118∧i≤a.length∧p.length=i∧Jr p∧c≤1∧val p+val (b.take i)=val (a.take i)+4294967296^i*c∧μ=(a.length-i)) _ ⟨_,_,0,[],0,Y,rfl,rfl,rfl,rfl,rfl,rfl,d,e,Z,(Tv _),rfl,Zh,o,WB,rfl⟩ ?_);rintro _ _ _ ⟨_,_,i,p,c,h,s,z,A,B,D,E,d,e,g,_,hp,hs,hc,hv,_⟩;obtain⟨_,rfl⟩:=rebK (aC s<|aC z<|aC A<|aC B<|aC D<|aC E aN);clear s z A B D E;refine Rg<|Ol<|P2 r r (fun P=>?_)<|fun P=>?_
 ·refine Nl (PT<|Ud<|PR<|PT<|W.block<|Rg<|Ub<|P4 (j:=i) (u:=(a.getD i 0)) d sl24 Js r r r (Je o) ?_);intro _ _ Q F;obtain⟨rfl,_⟩:Q=_∧_:=F.rd;refine Ol<|P0 Yj r (F.cell 0 _ r)<|Oa<|Ua<|Rg<|Ua<|Rh<|Om<|Ub<|St.len sl24 rfl<|Ol<|P2 r r (fun R=>?_)<|fun R=>?_
  ·refine Nl (Uk<|Om<|Ub<|P4 (j:=i) (u:=(b.getD i 0)) e sl24 Js r r r (Je o) ?_);intro _ _ S G;obtain⟨rfl,_⟩:S=_∧_:=G.rd;refine Ol (P0 Yj r (G.cell 0 _ r)<|Ua<|PN<|Om<|Om<|Om<|Om<|Ub<|PK h Cr r r (oI h.bd (x:=(a.getD i 0)) (y:=(b.getD i 0)) (b:=c) o o hc) ?_);intro _ _ aa k ab;have g:=g.spn k;obtain⟨_,_,rfl,rfl,rfl⟩:=ab;refine Om (Ol<|St.extract r rfl<|Ol<|St.extract r rfl<|Ol<|QX (j:=i) sl24 Js r r r o<|On<|QR (j:=i) (u:=(((a.getD i 0)+8589934592-(b.getD i 0)-c)%4294967296)) aa g Js r r G' ?_);intro _ ac H I;have d:=(d.sp k).sp H;have e:=(e.sp k).sp H;rw[X7 hp o] at I;refine Ua<|PN<|Ol<|St.add r r (Ja (a:=i) (b:=1) o)<|Om<|Nl<|⟨_,o,_,_,(i+1),(p++[(((a.getD i 0)+8589934592-(b.getD i 0)-c)%4294967296)]),(if(a.getD i 0)<(b.getD i 0)+c then 1 else 0),ac,rfl,rfl,rfl,rfl,rfl,rfl,d,e,I,o,E',(Zz hs o),D',(qX hp hc (Jk sa _) (Jk sb _) hv r r),rfl⟩
  refine Nl (Uc<|PN<|Om<|Om<|Om<|Om<|Ub<|PK h Cr r r (oI h.bd (x:=(a.getD i 0)) (y:=0) (b:=c) o o hc) ?_);intro _ _ ad l ae;have g:=g.spn l;obtain⟨_,_,rfl,rfl,rfl⟩:=ae;refine Om (Ol<|St.extract r rfl<|Ol<|St.extract r rfl<|Ol<|QX (j:=i) sl24 Js r r r o<|On<|QR (j:=i) (u:=(((a.getD i 0)+8589934592-0-c)%4294967296)) ad g Js r r G' ?_);intro _ af J K;have d:=(d.sp l).sp J;have e:=(e.sp l).sp J;rw[X7 hp o] at K;refine Ua<|PN<|Ol<|St.add r r (Ja (a:=i) (b:=1) o)<|Om<|Nl<|⟨_,o,_,_,(i+1),(p++[(((a.getD i 0)+8589934592-0-c)%4294967296)]),(if(a.getD i 0)<0+c then 1 else 0),af,rfl,rfl,rfl,rfl,rfl,rfl,d,e,K,o,E',(Zz hs o),D',(qX hp hc (Jk sa _) o hv rfl<|my o),rfl⟩
 exact Nl<|PT<|Ue<|QB<|Rg<|Om<|Ua<|PS<|Wq r r h<|SX (g.rowRS h hX G' o (Yo hs<|V9 _) id)<|(by rw[show a.length-i=0 by omega,UU,TT];exact DI hs hp o hlb hle hv)
end
section
variable{X:Nat→Prop}{w:World}(hX:XB X w)
include hX
theorem HE(e:RS Jh X w v0 a)(g:RS Jh X w v1 b)(hla:a.length≤549755813888)(hlb:b.length≤549755813888):CRt 226 #[v0,v1] w fun v w'=>RS Jh X w' v (Qq a b):=by
 obtain⟨a1,B,rfl,_,_⟩:=e.len;obtain⟨s,A,rfl,_,_⟩:=g.len;have C:=PV hX;have sa:=e.u32_small;have sb:=g.u32_small;have bp:=Du (Jk sa 0) (Jk sb 0);have bq:=Jk sa 0;have br:=Jk sb 0;refine Cgo Tryz.func226 r r rfl<|Rg<|Ua<|Rh<|Ub<|St.len sl24 rfl<|Ol<|PW r r (fun aQ=>?_)<|fun aQ=>?_
 ·exact Om<|Oz<|Oz<|Oz<|OT<|Nl<|Uf<|Ua<|PS<|Wq r r C<|SX ((RS.nil:RS _ _ _ _ _).tr C.wb)<|(rs o)
 refine Om<|OgD<|PP<|OgD<|St.len sl24 rfl<|OgD<|PW r r (fun aR=>?_)<|fun aR=>?_
 ·exact OF<|Nl<|Uf<|Ua<|PS<|Wq r r C<|SX ((RS.nil:RS _ _ _ _ _).tr C.wb)<|(rs o)
 refine OF<|Nl<|Uc<|PT<|Rm (fun f v=>∃(x y:Nat→Prop),Cx X w x y v∧f 0=(S12 a1 a B)∧f 1=(S12 s b A)∧RS Jh x v (S12 a1 a B) a∧RS Jh x v (S12 s b A) b∧0<a.length∧0<b.length∧¬(a.length=1∧b.length=1)) ?_ ?_
 ·refine Rg<|Ub<|St.len sl24 rfl<|Ol<|PW r r (fun aS=>?_)<|fun aS=>?_
  ·refine Om<|OgD<|PP<|OgD<|St.len sl24 rfl<|OgD<|PW r r (fun aT=>?_)<|fun aT=>?_
   ·refine OT<|Nl<|Ud<|PT<|QL mixed 8 [[],[0],[1],[2],[],[4],[5],[6]] C [fx<|.slice a1 a.length B,fE Jh<|a.getD 0 0,fx<|.int .u32 (((a.getD 0 0):Nat):Int),fx<|.int .u64 (((a.getD 0 0):Nat):Int),fx<|.slice s b.length A,fE Jh<|b.getD 0 0,fx<|.int .u32 (((b.getD 0 0):Nat):Int),fx<|.int .u64 (((b.getD 0 0):Nat):Int)] κ ⟨sx,sE,sx,sx,sx,sE,sx,sx,trivial⟩ fun aU p _ ⟨m,an⟩ h=>?_
    have e:=e.sp an;have g:=g.sp an;have h:Keep [28,29,30,31,32,33,34,35] _ aU:=h;refine⟨⟨fun _=>?_,fun⟨aV,_⟩=>?_,fun⟨aW,_⟩=>?_,fun⟨aX,_⟩=>?_,fun _=>?_,fun⟨aY,_⟩=>?_,fun⟨aZ,_⟩=>?_,fun⟨a0,_⟩=>?_,trivial⟩,fun⟨a4,a5,a6,a7,a8,a9,ba,bb,_⟩=>?_⟩
    ·exact Sd0 h fun _=>PP ⟨p,PQ m,rfl⟩
    ·refine Sd1 h aV fun _=>P4 (j:=0) (u:=(a.getD 0 0)) e sl24 Js r r r (Je o) ?_;intro _ _ aD ao;obtain⟨rfl,_⟩:aD=_∧_:=ao.rd;exact⟨p,PQ m,⟨_,_,_,rfl,ao⟩⟩
    ·obtain⟨_,_,aE,bc,aq⟩:=aW;obtain⟨rfl,_⟩:aE=_∧_:=aq.rd;exact Sd1 h bc fun _=>P0 Yj r (aq.cell 0 _ r) ⟨p,PQ m,rfl⟩
    ·exact Sd1 h aX fun _=>P6 (z:=(((a.getD 0 0):Nat):Int)) Kj Kq r (Tw _ o) ⟨p,PQ m,rfl⟩
    ·exact Sd0 h fun _=>PP ⟨p,PQ m,rfl⟩
    ·refine Sd1 h aY fun _=>P4 (j:=0) (u:=(b.getD 0 0)) g sl24 Js r r r (Je o) ?_;intro _ _ aF ar;obtain⟨rfl,_⟩:aF=_∧_:=ar.rd;exact⟨p,PQ m,⟨_,_,_,rfl,ar⟩⟩
    ·obtain⟨_,_,aG,be,au⟩:=aZ;obtain⟨rfl,_⟩:aG=_∧_:=au.rd;exact Sd1 h be fun _=>P0 Yj r (au.cell 0 _ r) ⟨p,PQ m,rfl⟩
    ·exact Sd1 h a0 fun _=>P6 (z:=(((b.getD 0 0):Nat):Int)) Kj Kq r (Tw _ o) ⟨p,PQ m,rfl⟩
    obtain⟨_,_,aH,bf,bg⟩:=a5;obtain⟨rfl,_⟩:aH=_∧_:=bg.rd;obtain⟨_,_,aI,bh,bi⟩:=a9;obtain⟨rfl,_⟩:aI=_∧_:=bi.rd;obtain⟨_,rfl⟩:=mixK h (aC a4<|aC bf<|aC a6<|aC a7<|aC a8<|aC bh<|aC ba<|aC bb aN);refine Ol (Rq r r (Xj (a:=(a.getD 0 0)) (b:=(b.getD 0 0)) o)<|Ol<|PK m rI r r (mA m.bd (n:=(a.getD 0 0)*(b.getD 0 0)) o) ?_);intro _ _ av _ aw;obtain⟨_,_,rfl,_,_⟩:=aw.len;exact Ua<|PS<|Wq r r av<|SX ((aw:RS _ _ _ _ _).tr av.wb)<|(xG o o)
   refine OT<|Nl<|Uc<|⟨_,_,C,rfl,rfl,e,g,o,o,o⟩
  refine Om<|Oz<|Oz<|Oz<|OF<|Nl<|Uc<|⟨_,_,C,rfl,rfl,e,g,o,o,o⟩
 rintro _ _ ⟨_,_,bj,ax,ay,e,g,h0,h1,h2⟩;obtain⟨_,rfl⟩:=rebK (aC ax<|aC ay aN);clear ax ay;refine Rg (Ub<|St.len sl24 rfl<|Ub<|St.len sl24 rfl<|Ol<|St.add r r (Ja (a:=a.length) (b:=b.length) o)<|Ol<|Rp (n:=(a.length+b.length)) bj sl24 r r r o Js δ ?_);intro F _ _ _ _ bk az bl;have e:=e.sp az;have g:=g.sp az;refine Oa (Nl<|Rh<|Ub<|St.len sl24 rfl<|Om<|Nl<|W.block<|P7 (fun μ f v=>∃(x y:Nat→Prop) (i:Nat) (L:List Nat),Cx X w x y v∧f 1=(S12 s b A)∧f 5=(.slice (some ⟨F,0,none⟩) (a.length+b.length) (a.length+b.length))∧f 44=(S12 a1 a B)∧f 45=(.int .i64 a.length)∧f 46=(.int .i64 i)∧RS Jh x v (S12 a1 a B) a∧RS Jh x v (S12 s b A) b∧Own w y v F (L.map u32v) 118∧i≤a.length∧L.length=a.length+b.length∧Jr L∧(∀k,L.getD (i+b.length+k) 0=0∨L.length≤i+b.length+k)∧val L=val (a.take i)*val b∧μ=(a.length-i)) _ ⟨_,_,0,(List.replicate (a.length+b.length) 0),bk,rfl,rfl,rfl,rfl,rfl,e,g,bl,(Tv _),(Tl ..),(V9 _),(fun k=> .inl (by simp[Tq,List.getElem?_replicate];split<;>rfl)),(by rw[F8];simp[val]),rfl⟩ ?_);rintro _ _ _ ⟨_,_,i,L,D,G,H,I,J,K,e,g,M,_,hL,hs,hz,hv,_⟩;obtain⟨_,rfl⟩:=rebK (aC G<|aC H<|aC I<|aC J<|aC K aN);clear G H I J K;refine Rg<|Ol<|P2 r r (fun ai=>?_)<|fun ai=>?_
 ·refine Nl (PT<|Ud<|PR<|PT<|W.block<|Rg<|Ub<|P4 (j:=i) (u:=(a.getD i 0)) e sl24 Js r r r (Je o) ?_);intro _ _ aj N;obtain⟨rfl,_⟩:aj=_∧_:=N.rd;refine Ol (P0 Yj r (N.cell 0 _ r)<|Oa<|Ua<|Rg<|Ua<|Rh<|Ub<|St.len sl24 rfl<|Om<|Nl<|W.block<|P7 (fun μ f v=>∃(x y:Nat→Prop) (j:Nat) (l:List Nat) (c:Nat),Cx X w x y v∧f 1=(S12 s b A)∧f 5=(.slice (some ⟨F,0,none⟩) (a.length+b.length) (a.length+b.length))∧f 6=(.int .i64 i)∧f 7=(.int .u32 (((a.getD i 0):Nat):Int))∧f 44=(S12 a1 a B)∧f 45=(.int .i64 a.length)∧f 46=(.int .i64 i)∧f 51=(S12 s b A)∧f 52=(.int .i64 b.length)∧f 53=(.int .i64 j)∧f 8=(.int .u64 c)∧RS Jh x v (S12 a1 a B) a∧RS Jh x v (S12 s b A) b∧Own w y v F (l.map u32v) 118∧j≤b.length∧l.length=a.length+b.length∧Jr l∧c<4294967296∧(∀k,l.getD (i+b.length+k) 0=0∨l.length≤i+b.length+k)∧val l+4294967296^(i+j)*c=val (a.take i)*val b+4294967296^i*(a.getD i 0*val (b.take j))∧μ=(b.length-j)) _ ⟨_,_,0,L,0,D,rfl,rfl,rfl,rfl,rfl,rfl,rfl,rfl,rfl,rfl,rfl,e,g,M,(Tv _),hL,hs,o,hz,(by rw[hv];simp[val]),rfl⟩ ?_);rintro _ _ _ ⟨_,_,j,l,c,P,Q,R,S,T,U,V,Y,Z,aa,ab,ac,e,g,E,_,aA,ad,_,ae,aB,_⟩;obtain⟨_,rfl⟩:=rebK (aC Q<|aC R<|aC S<|aC T<|aC U<|aC V<|aC Y<|aC Z<|aC aa<|aC ab<|aC ac aN);clear Q R S T U V Y Z aa ab ac;have hxi:=Jk sa i;have hyj:=Jk sb j;have hm:=Du hxi hyj;have bs:=Jk ad (i+j);refine Rg<|Ol<|P2 r r (fun ak=>?_)<|fun ak=>?_
  ·refine Nl (PT<|Ud<|PR<|PT<|W.block<|Rg<|Ub<|P4 (j:=j) (u:=(b.getD j 0)) g sl24 Js r r r (Je o) ?_);intro _ _ am af;obtain⟨rfl,_⟩:am=_∧_:=af.rd;refine Ol (P0 Yj r (af.cell 0 _ r)<|Oa<|Ua<|Rg<|Ub<|P6 (z:=(((a.getD i 0):Nat):Int)) Kj Kq r (Tw _ o)<|Ub<|P6 (z:=(((b.getD j 0):Nat):Int)) Kj Kq r (Tw _ o)<|Ol<|Rq r r (Xj (a:=(a.getD i 0)) (b:=(b.getD j 0)) o) ?_);refine Om (Om<|Ub<|St.add r r (Ja (a:=i) (b:=j) o)<|Ol<|QX (j:=i+j) sl24 Js r r r o<|Ol<|RL (j:=i+j) (u:=(l.getD (i+j) 0)) E Yj r (Je o)<|Ol<|P6 (z:=(((l.getD (i+j) 0):Nat):Int)) Kj Kq r (Tw _ o) ?_);refine Ol (St.add r r (Yz (a:=(a.getD i 0)*(b.getD j 0)) (b:=(l.getD (i+j) 0)) o)<|Ub<|St.add r r (Yz (a:=((a.getD i 0)*(b.getD j 0))+(l.getD (i+j) 0)) (b:=c) o)<|Ua<|PN<|Om<|Om<|Ub<|St.add r r (Ja (a:=i) (b:=j) o) ?_);refine Om (Ol<|P6 (z:=((((((a.getD i 0)*(b.getD j 0))+(l.getD (i+j) 0))+c)%4294967296:Nat):Int)) X3 Vh r (J5 _)<|Ub<|Rl r r δ (Ka (d:=4294967296) _ δ)<|Ol<|QX (j:=i+j) sl24 Js r r r o<|On<|QR (j:=i+j) (u:=((((a.getD i 0)*(b.getD j 0))+(l.getD (i+j) 0))+c)%4294967296) P E Js r r o ?_);intro _ aJ ag aK;have e:=e.sp ag;have g:=g.sp ag;refine Ua<|PN<|Ol<|St.add r r (Ja (a:=j) (b:=1) o)<|Om<|Nl<|⟨_,o,_,_,(j+1),(l.set (i+j)<|((((a.getD i 0)*(b.getD j 0))+(l.getD (i+j) 0))+c)%4294967296),((((a.getD i 0)*(b.getD j 0))+(l.getD (i+j) 0))+c)/4294967296,aJ,rfl,rfl,rfl,rfl,rfl,rfl,rfl,rfl,rfl,rfl,rfl,e,g,aK,o,(by rw[UI];exact aA),(qe ad (Tp _ o) _),o,(C0 o ae),(vR o aB<|Jv b j),rfl⟩
  refine Nl (PT<|Ue<|QB<|PN<|Om<|Om<|Ub<|St.len sl24 rfl<|Ol<|St.add r r (Ja (a:=i) (b:=b.length) o)<|Ub<|P6 (z:=(c:Int)) X3 Vh r (IntWalk.u32_in _ o)<|Ol<|QX (j:=i+b.length) sl24 Js r r r o ?_);refine On (QR (j:=i+b.length) (u:=c) P E Js r r o ?_);intro _ aL ah aM;have e:=e.sp ah;have g:=g.sp ah;refine Nl<|PN<|Ol<|St.add r r (Ja (a:=i) (b:=1) o)<|Om<|Nl<|⟨_,o,_,_,(i+1),(l.set (i+b.length) c),aL,rfl,rfl,rfl,rfl,rfl,e,g,aM,o,(by rw[UI];exact aA),(qe ad o _),(Gf ae),(by rw[Jv];exact yC o (B8 ae o) (by rw[show i+b.length=i+j by omega,aB,TE (show b.length≤j by omega)])),rfl⟩
 exact Nl<|PT<|Ue<|QB<|Rg<|Om<|Ua<|PS<|Wq r r D<|SX (M.rowRS D hX o o hs id)<|(Br h0 h1 h2 hL hs (by rw[hv,TE (show a.length≤i by omega)]))
theorem yY{h:Value}(b:RS Jh X w h a){d:Nat}(hla:a.length≤1099511627776)(hd:0<d)(H:d<4294967296):CRt 206 #[h,(.int .u32 d)] w fun v w'=>(∃h I,v= .tuple #[h,I]∧(RS Jh X w' h (Zc a.length (val a/d)))∧(I=(.int .u32 (((val a%d):Nat):Int)))):=by
 obtain⟨a1,E,rfl,_,_⟩:=b.len;have C:=PV hX;have sa:=b.u32_small;refine Cgo Tryz.func206 ϱ ϱ ϱ (Rg<|Oa<|Ua<|Rg<|Ub<|St.len sl24 rfl<|Ol<|Rp (n:=a.length) C sl24 ϱ ϱ ϱ o Js δ ?_);intro J _ _ _ _ P Q i;have b:=b.sp Q;refine Oa (Nl<|Rg<|Ua<|Rh<|Ub<|St.len sl24 rfl<|Ol<|St.sub (z:=((a.length:Int)-1)) ϱ ϱ (Tz _ o)<|Ua<|W.block ?_);rw[←TT (List.replicate a.length 0)] at i;refine P7 (fun μ f v=>∃(x y:Nat→Prop) (j:Nat) (q:List Nat) (r:Nat),Cx X w x y v∧f 0=(S12 a1 a E)∧f 1=(.int .u32 d)∧f 6=(S12 (some ⟨J,0,none⟩) a a.length)∧f 8=(.int .i64 ((j:Int)-1))∧f 7=(.int .u32 r)∧RS Jh x v (S12 a1 a E) a∧Own w y v J ((List.replicate j 0++q).map u32v) 118∧j≤a.length∧j+q.length=a.length∧Jr q∧r<d∧val q*d+r=val (a.drop j)∧μ=j) _ ⟨_,_,a.length,[],0,P,rfl,rfl,rfl,rfl,rfl,b,i,(Tu _),rfl,Zh,hd,(by rw[TI<|Tu _];simp[val]),rfl⟩ ?_;rintro _ _ _ ⟨_,_,j,q,r,e,k,l,m,p,s,b,g,hj,hl,hq,hr,hv,_⟩;obtain⟨_,rfl⟩:=rebK (aC k<|aC l<|aC m<|aC p<|aC s aN);clear k l m p s;have hQ:(r*4294967296+a.getD (j-1) 0)/d<4294967296:=VB (by have:=VQ 4294967296 (show r+1≤d by omega);have:=Jk sa (j-1);omega);refine Rh<|Ub<|Ra ϱ ϱ (fun F=>?_)<|fun F=>?_
 ·refine Nl (Ud<|PR<|PT<|W.block<|PN<|Om<|Om<|Om<|Om<|Ub<|P4 (j:=(j-1)) (u:=(a.getD (j-1) 0)) b sl24 Js ϱ ϱ o (Je o) ?_);intro _ _ G A;obtain⟨rfl,_⟩:G=_∧_:=A.rd;refine Ol (P0 Yj ϱ (A.cell 0 _ ϱ)<|Ub<|PK e OH ϱ ϱ (Gc e.bd (hi:=r) (lo:=(a.getD (j-1) 0)) (y:=d) hr (Jk sa _) H) ?_);intro _ _ K B L;have g:=g.spn B;obtain⟨_,_,rfl,rfl,rfl⟩:=L;refine Om (Ol<|St.extract ϱ rfl<|Ol<|St.extract ϱ rfl<|Ol<|QX (j:=(j-1)) sl24 Js ϱ ϱ o o<|On<|QR (j:=(j-1)) (u:=((r*4294967296+(a.getD (j-1) 0))/d)) K g Js ϱ ϱ WR ?_);intro _ M N D;have b:=(b.sp B).sp N;rw[tA o] at D;refine Ua<|PN<|Ub<|St.sub (z:=(((j:Int)-1)-1)) ϱ ϱ (Tz _ o)<|Ua<|⟨_,o,_,_,(j-1),(((r*4294967296+(a.getD (j-1) 0))/d)::q),((r*4294967296+(a.getD (j-1) 0))%d),M,rfl,rfl,rfl,(congrArg (Value.int .i64) o),rfl,b,D,o,XA,(Yl o hq),(Tp _ hd),(vL o hj hv),rfl⟩
 refine Nl (Ue<|QB<|Rg<|Om<|Om<|Oa<|Ua<|PS<|Xi ϱ ϱ ϱ e ?_);refine⟨_,_,rfl,?_,?_⟩
 ·exact SX (g.rowRS e hX WR o (Yo (V9 _) hq) id)<|(pW o hq hl hr hv).1
 ·exact YR<|(congrArg _ (pW o hq hl hr hv).2)
theorem rW{L:Value}(e:RS Jh X w L a)(hla:a.length≤1099511627776)(hs:s<32):CRt 256 #[L,(.int .u64 s)] w fun v w'=>RS Jh X w' v (Zc a.length (val a/2^s)):=by
 obtain⟨a1,G,rfl,_,_⟩:=e.len;have C:=PV hX;have sa:=e.u32_small;refine Cgo Tryz.func256 r r r (Rg<|Ua<|Rg<|Ub<|St.len sl24 rfl<|Ol<|Rp (n:=a.length) C sl24 r r r o Js δ ?_);intro M _ _ _ _ T U N;have e:=e.sp U;refine Oa (Nl<|Rh<|Ub<|St.len sl24 rfl<|Om<|Nl<|W.block<|P7 (fun μ f v=>∃(x y:Nat→Prop) (i:Nat),Cx X w x y v∧f 0=(S12 a1 a G)∧f 1=(.int .u64 s)∧f 5=(S12 (some ⟨M,0,none⟩) a a.length)∧f 12=(.int .i64 a.length)∧f 13=(.int .i64 i)∧RS Jh x v (S12 a1 a G) a∧Own w y v M ((Zc i (val a/2^s)++List.replicate (a.length-i) 0).map u32v) 118∧i≤a.length∧μ=(a.length-i)) _ ⟨_,_,0,T,rfl,rfl,rfl,rfl,rfl,e,N,(Tv _),rfl⟩ ?_);rintro _ _ _ ⟨_,_,i,g,k,l,m,p,A,e,h,_,_⟩;obtain⟨_,rfl⟩:=rebK (aC k<|aC l<|aC m<|aC p<|aC A aN);clear k l m p A;have hx:=Jk sa i;have V:=Jk sa (i+1);have hlN:=Jt i (val a/2^s);refine Rg<|Ol<|P2 r r (fun H=>?_)<|fun H=>?_
 ·refine Nl (PT<|Ud<|PR<|PT<|W.block<|Rg<|Om<|Ua<|Rg<|Om<|Ub<|P4 (j:=i) (u:=(a.getD i 0)) e sl24 Js r r r (Je o) ?_);intro _ _ I B;obtain⟨rfl,_⟩:I=_∧_:=B.rd;refine Ol<|P0 Yj r (B.cell 0 _ r)<|Ol<|P6 (z:=(((a.getD i 0):Nat):Int)) Kj Kq r (Tw _ o)<|Ua<|Rh<|Ub<|St.add r r (Ja (a:=i) (b:=1) o)<|Ub<|St.len sl24 rfl<|Ol<|P2 r r (fun J=>?_)<|fun J=>?_
  ·refine Nl (Uk<|Om<|Om<|Ub<|St.add r r (Ja (a:=i) (b:=1) o)<|Ol<|P4 (j:=i+1) (u:=(a.getD (i+1) 0)) e sl24 Js r r r (Je o) ?_);intro _ _ K D;obtain⟨rfl,_⟩:K=_∧_:=D.rd;refine Ol (P0 Yj r (D.cell 0 _ r)<|Ol<|P6 (z:=(((a.getD (i+1) 0):Nat):Int)) Kj Kq r (Tw _ o)<|Ol<|RY r r δ (m5 (a:=(a.getD (i+1) 0)) (d:=4294967296) δ o)<|Ol<|Sa (z:=((a.getD i 0+a.getD (i+1) 0*4294967296:Nat):Int)) r r ((vY (a:=a.getD i 0) (b:=a.getD (i+1) 0*4294967296) o o).trans (congrArg _<|Ny hx)) ?_);refine Oa (Nl<|PN<|Om<|Om<|Om<|Ub<|Rl r r o (xr o)<|Ol<|P6 (z:=((((a.getD i 0+a.getD (i+1) 0*4294967296)/2^s)%4294967296:Nat):Int)) X3 Vh r (J5 _)<|Ol<|QX (j:=i) sl24 Js r r r o ?_);refine On (QR (j:=i) (u:=((a.getD i 0+a.getD (i+1) 0*4294967296)/2^s)%4294967296) g h Js r r (by rw[Tc,Tl,hlN];omega) ?_);intro _ P Q E;have e:=e.sp Q;rw[X7 hlN o,rl sa hs o rfl] at E;refine Nl<|PN<|Ol<|St.add r r (Ja (a:=i) (b:=1) o)<|Om<|Nl<|⟨_,o,_,_,(i+1),P,rfl,rfl,rfl,rfl,rfl,e,E,o,rfl⟩
  refine Nl (Uc<|PN<|Om<|Om<|Om<|Ub<|Rl r r o (xr o)<|Ol<|P6 (z:=((((a.getD i 0)/2^s)%4294967296:Nat):Int)) X3 Vh r (J5 _)<|Ol<|QX (j:=i) sl24 Js r r r o<|On<|QR (j:=i) (u:=((a.getD i 0)/2^s)%4294967296) g h Js r r (by rw[Tc,Tl,hlN];omega) ?_);intro _ R S F;have e:=e.sp S;rw[X7 hlN o,wh sa hs o o] at F;refine Nl<|PN<|Ol<|St.add r r (Ja (a:=i) (b:=1) o)<|Om<|Nl<|⟨_,o,_,_,(i+1),R,rfl,rfl,rfl,rfl,rfl,e,F,o,rfl⟩
 exact Nl<|PT<|Ue<|QB<|Rg<|Om<|Ua<|PS<|Wq r r g<|SX (h.rowRS g hX (by rw[Tc,Tl,Jt];omega) o (Yo (Zm _ _)<|V9 _) id)<|(by rw[show a.length-i=0 by omega,UU,TT,show i=a.length by omega])
end
section
variable{X:Nat→Prop}{w:World}(hX:XB X w)
include hX
theorem wC(hx:x<4294967296):CRt 135 #[(.int .u32 x)] w fun v _=>v=(.int .i64 (((blen x):Nat):Int)):=by
 have C:=PV hX;refine Cgo Tryz.func135 r r rfl<|Rg<|Ua<|Rh<|Ub<|Ra r r (fun g=>?_)<|fun g=>?_
 ·refine Nl<|Uf<|Ub<|Rl r r δ (Ka (d:=65536) _ δ)<|Ua<|PN<|Ua<|Rh<|Ub<|Ra r r (fun h=>?_)<|fun h=>?_
  ·refine Nl (Uf<|Ub<|Rl r r δ (Ka (d:=256) _ δ)<|Ua<|PN<|Ub<|St.add (z:=(16+8)) r r (Tz _ o)<|Ua<|PT ?_);have e:=UInt8.toNat_lt (UInt8.ofNat<|blen<|(x/65536)/256%256);refine PN (Om<|Ub<|P6 (z:=((((x/65536)/256)%256:Nat):Int)) Kj un5 r (Y0 _)<|Ol<|QO (j:=((x/65536)/256)%256) (c:=(UInt8.ofNat<|blen<|((x/65536)/256)%256)) un9 r r r (K8<|Tp _ δ)<|Ol<|P6 (z:=((UInt8.ofNat<|blen<|((x/65536)/256)%256).toNat:Int)) us5 un3 r (Tz _ o) ?_);exact Ol<|St.add (z:=((16+8)+((UInt8.ofNat<|blen<|((x/65536)/256)%256).toNat:Int))) r r (Tz _ o)<|Ua<|PS<|Wq r r C<|YR<|W7
  refine Nl (Uc<|PT ?_);have e:=UInt8.toNat_lt (UInt8.ofNat<|blen<|x/65536%256);refine PN (Om<|Ub<|P6 (z:=(((x/65536)%256:Nat):Int)) Kj un5 r (Y0 _)<|Ol<|QO (j:=(x/65536)%256) (c:=(UInt8.ofNat<|blen<|(x/65536)%256)) un9 r r r (K8<|Tp _ δ)<|Ol<|P6 (z:=((UInt8.ofNat<|blen<|(x/65536)%256).toNat:Int)) us5 un3 r (Tz _ o) ?_);exact Ol<|St.add r r (Ja (a:=16) (b:=(UInt8.ofNat<|blen<|(x/65536)%256).toNat) o)<|Ua<|PS<|Wq r r C<|YR<|XH
 refine Nl<|Uc<|Rh<|Ub<|Ra r r (fun i=>?_)<|fun i=>?_
 ·refine Nl (Uf<|Ub<|Rl r r δ (Ka (d:=256) _ δ)<|Ua<|PN<|Ub<|St.add (z:=(0+8)) r r (Tz _ o)<|Ua<|PT ?_);have e:=UInt8.toNat_lt (UInt8.ofNat<|blen<|x/256%256);refine PN (Om<|Ub<|P6 (z:=(((x/256)%256:Nat):Int)) Kj un5 r (Y0 _)<|Ol<|QO (j:=(x/256)%256) (c:=(UInt8.ofNat<|blen<|(x/256)%256)) un9 r r r (K8<|Tp _ δ)<|Ol<|P6 (z:=((UInt8.ofNat<|blen<|(x/256)%256).toNat:Int)) us5 un3 r (Tz _ o) ?_);exact Ol<|St.add (z:=((0+8)+((UInt8.ofNat<|blen<|(x/256)%256).toNat:Int))) r r (Tz _ o)<|Ua<|PS<|Wq r r C<|YR<|XI
 refine Nl (Uc<|PT ?_);have e:=UInt8.toNat_lt (UInt8.ofNat<|blen<|x%256);refine PN (Om<|Ub<|P6 (z:=((x%256:Nat):Int)) Kj un5 r (Y0 _)<|Ol<|QO (j:=x%256) (c:=(UInt8.ofNat<|blen<|x%256)) un9 r r r (K8<|Tp _ δ)<|Ol<|P6 (z:=((UInt8.ofNat<|blen<|x%256).toNat:Int)) us5 un3 r (Tz _ o) ?_);exact Ol<|St.add r r (Ja (a:=0) (b:=(UInt8.ofNat<|blen<|x%256).toNat) o)<|Ua<|PS<|Wq r r C<|YR<|XK
theorem MJ(hx:x<4294967296):CRt 253 #[(.int .u32 x)] w fun v _=>v=(.int .i64 (((32-blen x):Nat):Int)):=by
 have C:=PV hX;have hb:=rD hx;refine Cgo Tryz.func253 r r r (Rg<|Ua<|Rg<|Ub<|PK C Nn r r (wC C.bd (x:=x) o) ?_);intro _ _ a _ b;subst b;exact Ol<|St.sub (z:=(32-(((blen x):Nat):Int))) r r (Tz _ o)<|Ua<|PS<|Wq r r a<|YR<|o
theorem Hu{g j c:Nat}{A U Z:List Nat}(hA:A.length=j)(hB:Blk w g ((A++U++Z).map u32v) 118)(hXg:X g){V:List Nat}(F:RS Jh X w v1 V)(sU:Jr U)(hn:2≤V.length)(hnB:V.length≤1099511627776)(hU:U.length=V.length+1)(htop:0<(V.getD (V.length-1) 0))(hlt:val U<val V*4294967296):Calls Tryz.prog 255 #[(S12 (some ⟨g,j,none⟩) U c),v1] w (RetM w g fun v w'=>v=(.int .u32 (((val U/val V):Nat):Int))∧Blk w' g ((A++(Zc (V.length+1) (val U%val V))++Z).map u32v) 118):=by
 obtain⟨a1,L,rfl,_,_⟩:=F.len;have C:=Rd g hX hXg;have o0:=SW hB;have sv:=F.u32_small;have hUe:=OU hn hU;have hVe:=Pu hn;have bt:=Jk sU (V.length-2);have hun:=Jk sU V.length;have bu:=Jk sU (V.length-1);have dr:=Jk sv (V.length-1);have P:=Jk sv (V.length-2);have hUl:=Vz (k:=V.length-2) sU o;have hVl:=Vz (k:=V.length-2) sv o;have htopb:=Gv hVl P bu (by rw[←hUe,←hVe];exact hlt);have hVpos:0<val V:=by rw[hVe];exact Ti (VT (VY δ) (show 0<(V.getD (V.length-2) 0)+4294967296*(V.getD (V.length-1) 0) by omega))<|VF _ _
 refine Cgo Tryz.func255 ϱ ϱ rfl<|Rg<|Ua<|Rg<|Ub<|St.len sl24 rfl<|Ua<|PT<|QL mixed 12 [[],[],[0,1],[2],[3],[4],[],[],[7],[6,8],[9],[10]] C [fx<|.slice (some ⟨g,j,none⟩) U.length c,fx<|.int .i64 (V.length:Int),fx<|.pointer (some ⟨g,j+V.length,none⟩),fx<|.int .u32 (((U.getD V.length 0):Nat):Int),fx<|.int .u64 (((U.getD V.length 0):Nat):Int),fx<|.int .u64 (((U.getD V.length 0)*4294967296:Nat):Int),fx<|.slice (some ⟨g,j,none⟩) U.length c,fx<|.int .i64 (V.length:Int),fx<|.int .i64 ((V.length-1:Nat):Int),fx<|.pointer (some ⟨g,j+(V.length-1),none⟩),fx<|.int .u32 (((U.getD (V.length-1) 0):Nat):Int),fx<|.int .u64 (((U.getD (V.length-1) 0):Nat):Int)] κ ⟨sx,sx,sx,sx,sx,sx,sx,sx,sx,sx,sx,sx,trivial⟩ fun f4 T _ ⟨Q,bv⟩ N=>?_
 have o0:=o0.spn bv;have N:Keep [19,20,21,22,23,24,25,26,27,28,29,30] _ f4:=N;refine⟨⟨fun _=>?_,fun _=>?_,fun⟨ds,dt,_⟩=>?_,fun⟨du,_⟩=>?_,fun⟨dv,_⟩=>?_,fun⟨dw,_⟩=>?_,fun _=>?_,fun _=>?_,fun⟨dx,_⟩=>?_,fun⟨dy,dz,_⟩=>?_,fun⟨dA,_⟩=>?_,fun⟨dB,_⟩=>?_,trivial⟩,fun⟨dC,dD,dE,dF,dG,dH,dI,dJ,dK,dL,dM,dN,_⟩=>?_⟩
 ·exact Sd0 N fun _=>PP ⟨T,PQ Q,rfl⟩
 ·exact Sd0 N fun _=>PP ⟨T,PQ Q,rfl⟩
 ·exact Jf N (aC ds<|aC dt aN) fun _=>P1<|Re (j:=V.length) sl24 Js ϱ ϱ ϱ o ⟨T,PQ Q,rfl⟩
 ·exact Sd1 N du fun _=>Ro (j:=V.length) (u:=(U.getD V.length 0)) hA o0 Yj ϱ (Je o) ⟨T,PQ Q,rfl⟩
 ·exact Sd1 N dv fun _=>P6 (z:=(((U.getD V.length 0):Nat):Int)) Kj Kq ϱ (Tw _ o) ⟨T,PQ Q,rfl⟩
 ·exact Sd1 N dw fun _=>RY (z:=(((U.getD V.length 0)*4294967296:Nat):Int)) ϱ ϱ δ (pi hun) ⟨T,PQ Q,rfl⟩
 ·exact Sd0 N fun _=>PP ⟨T,PQ Q,rfl⟩
 ·exact Sd0 N fun _=>PP ⟨T,PQ Q,rfl⟩
 ·exact Sd1 N dx fun _=>St.sub ϱ ϱ (Zy (a:=V.length) (b:=1) o o) ⟨T,PQ Q,rfl⟩
 ·exact Jf N (aC dy<|aC dz aN) fun _=>P1<|Re (j:=V.length-1) sl24 Js ϱ ϱ ϱ o ⟨T,PQ Q,rfl⟩
 ·exact Sd1 N dA fun _=>Ro (j:=V.length-1) (u:=(U.getD (V.length-1) 0)) hA o0 Yj ϱ (Je o) ⟨T,PQ Q,rfl⟩
 ·exact Sd1 N dB fun _=>P6 (z:=(((U.getD (V.length-1) 0):Nat):Int)) Kj Kq ϱ (Tw _ o) ⟨T,PQ Q,rfl⟩
 obtain⟨_,rfl⟩:=mixK N (aC dC<|aC dD<|aC dE<|aC dF<|aC dG<|aC dH<|aC dI<|aC dJ<|aC dK<|aC dL<|aC dM<|aC dN aN);refine Ol<|Sa (z:=(((U.getD V.length 0)*4294967296+(U.getD (V.length-1) 0):Nat):Int)) ϱ ϱ (oH hun bu)<|Ua<|PT<|QL mixed 17 [[],[],[],[2],[1,3],[4],[5],[0,6],[],[],[],[10],[9,11],[12],[13],[8,14],[7]] Q [fx<|.int .u64 (((U.getD V.length 0)*4294967296+(U.getD (V.length-1) 0):Nat):Int),fx<|.slice a1 V.length L,fx<|.int .i64 (V.length:Int),fx<|.int .i64 ((V.length-1:Nat):Int),fE Jh<|V.getD (V.length-1) 0,fx<|.int .u32 (((V.getD (V.length-1) 0):Nat):Int),fx<|.int .u64 (((V.getD (V.length-1) 0):Nat):Int),fx<|.int .u64 ((((U.getD V.length 0)*4294967296+(U.getD (V.length-1) 0))/(V.getD (V.length-1) 0):Nat):Int),fx<|.int .u64 (((U.getD V.length 0)*4294967296+(U.getD (V.length-1) 0):Nat):Int),fx<|.slice a1 V.length L,fx<|.int .i64 (V.length:Int),fx<|.int .i64 ((V.length-1:Nat):Int),fE Jh<|V.getD (V.length-1) 0,fx<|.int .u32 (((V.getD (V.length-1) 0):Nat):Int),fx<|.int .u64 (((V.getD (V.length-1) 0):Nat):Int),fx<|.int .u64 ((((U.getD V.length 0)*4294967296+(U.getD (V.length-1) 0))%(V.getD (V.length-1) 0):Nat):Int),fx<|.int .u64 ((((U.getD V.length 0)*4294967296+(U.getD (V.length-1) 0))/(V.getD (V.length-1) 0):Nat):Int)] κ ⟨sx,sx,sx,sx,sE,sx,sx,sx,sx,sx,sx,sx,sE,sx,sx,sx,sx,trivial⟩ fun dO I _ ⟨H,bw⟩ G=>?_
 have F:=(F.sp bv).sp bw;have o0:=o0.spn bw;have G:Keep [32,33,34,35,36,37,38,39,40,41,42,43,44,45,46,47,7] _ dO:=G;refine⟨⟨fun _=>?_,fun _=>?_,fun _=>?_,fun⟨dP,_⟩=>?_,fun⟨dQ,dR,_⟩=>?_,fun⟨dS,_⟩=>?_,fun⟨dT,_⟩=>?_,fun⟨dU,dV,_⟩=>?_,fun _=>?_,fun _=>?_,fun _=>?_,fun⟨dW,_⟩=>?_,fun⟨dX,dY,_⟩=>?_,fun⟨dZ,_⟩=>?_,fun⟨d0,_⟩=>?_,fun⟨d1,d2,_⟩=>?_,fun⟨d3,_⟩=>?_,trivial⟩,fun⟨d4,d5,d6,d7,d8,d9,eb,ed,ee,ef,eg,eh,ei,ej,ek,el,em,_⟩=>?_⟩
 ·exact Sd0 G fun _=>PP ⟨I,PQ H,rfl⟩
 ·exact Sd0 G fun _=>PP ⟨I,PQ H,rfl⟩
 ·exact Sd0 G fun _=>PP ⟨I,PQ H,rfl⟩
 ·exact Sd1 G dP fun _=>St.sub ϱ ϱ (Zy (a:=V.length) (b:=1) o o) ⟨I,PQ H,rfl⟩
 ·refine Jf G (aC dQ<|aC dR aN) fun _=>P1 (P4 (j:=V.length-1) (u:=(V.getD (V.length-1) 0)) F sl24 Js ϱ ϱ ϱ (Je o) ?_);intro _ _ bC bx;obtain⟨rfl,_⟩:bC=_∧_:=bx.rd;exact⟨I,PQ H,⟨_,_,_,rfl,bx⟩⟩
 ·obtain⟨_,_,bD,en,bz⟩:=dS;obtain⟨rfl,_⟩:bD=_∧_:=bz.rd;exact Sd1 G en fun _=>P0 Yj ϱ (bz.cell 0 _ ϱ) ⟨I,PQ H,rfl⟩
 ·exact Sd1 G dT fun _=>P6 (z:=(((V.getD (V.length-1) 0):Nat):Int)) Kj Kq ϱ (Tw _ o) ⟨I,PQ H,rfl⟩
 ·exact Jf G (aC dU<|aC dV aN) fun _=>P1<|Ry ϱ ϱ o (ym (a:=(U.getD V.length 0)*4294967296+(U.getD (V.length-1) 0)) (b:=(V.getD (V.length-1) 0)) o) ⟨I,PQ H,rfl⟩
 ·exact Sd0 G fun _=>PP ⟨I,PQ H,rfl⟩
 ·exact Sd0 G fun _=>PP ⟨I,PQ H,rfl⟩
 ·exact Sd0 G fun _=>PP ⟨I,PQ H,rfl⟩
 ·exact Sd1 G dW fun _=>St.sub ϱ ϱ (Zy (a:=V.length) (b:=1) o o) ⟨I,PQ H,rfl⟩
 ·refine Jf G (aC dX<|aC dY aN) fun _=>P1 (P4 (j:=V.length-1) (u:=(V.getD (V.length-1) 0)) F sl24 Js ϱ ϱ ϱ (Je o) ?_);intro _ _ bb ae;obtain⟨rfl,_⟩:bb=_∧_:=ae.rd;exact⟨I,PQ H,⟨_,_,_,rfl,ae⟩⟩
 ·obtain⟨_,_,bc,bE,af⟩:=dZ;obtain⟨rfl,_⟩:bc=_∧_:=af.rd;exact Sd1 G bE fun _=>P0 Yj ϱ (af.cell 0 _ ϱ) ⟨I,PQ H,rfl⟩
 ·exact Sd1 G d0 fun _=>P6 (z:=(((V.getD (V.length-1) 0):Nat):Int)) Kj Kq ϱ (Tw _ o) ⟨I,PQ H,rfl⟩
 ·exact Jf G (aC d1<|aC d2 aN) fun _=>P1<|RI ϱ ϱ o (yu ((U.getD V.length 0)*4294967296+(U.getD (V.length-1) 0))<|V.getD (V.length-1) 0) ⟨I,PQ H,rfl⟩
 ·exact Sd1 G d3 fun _=>RD ⟨I,PQ H,rfl⟩
 obtain⟨_,_,be,bF,bG⟩:=d8;obtain⟨rfl,_⟩:be=_∧_:=bG.rd;obtain⟨_,_,bf,bH,bI⟩:=ei;obtain⟨rfl,_⟩:bf=_∧_:=bI.rd;obtain⟨_,rfl⟩:=mixK G (aC d4<|aC d5<|aC d6<|aC d7<|aC bF<|aC d9<|aC eb<|aC ed<|aC ee<|aC ef<|aC eg<|aC eh<|aC bH<|aC ej<|aC ek<|aC el<|aC em aN);refine Ua<|PT<|Rm (fun f v=>∃(x y:Nat→Prop) (q:Nat),Cx X ⟨w,(· =g)⟩ x y v∧f 0=(S12 (some ⟨g,j,none⟩) U c)∧f 1=(S12 a1 V L)∧f 5=(.int .i64 V.length)∧f 7=(.int .u64 q)∧RS Jh x v (S12 a1 V L) V∧Own ⟨w,(· =g)⟩ y v g ((A++U++Z).map u32v) 118∧val U/val V≤q∧q≤val U/val V+1∧q<4294967296) ?_ ?_
 ·refine W.block (P7 (fun μ f v=>∃(x y:Nat→Prop) (k:Nat) (r:Nat),Cx X ⟨w,(· =g)⟩ x y v∧f 0=(S12 (some ⟨g,j,none⟩) U c)∧f 1=(S12 a1 V L)∧f 5=(.int .i64 V.length)∧f 7=(.int .u64 k)∧f 8=(.int .u64 r)∧RS Jh x v (S12 a1 V L) V∧Own ⟨w,(· =g)⟩ y v g ((A++U++Z).map u32v) 118∧val U/val V≤k∧k*(V.getD (V.length-1) 0)+r=(U.getD V.length 0)*4294967296+(U.getD (V.length-1) 0)∧r<4294967296∧μ=k) _ ⟨_,_,((U.getD V.length 0)*4294967296+(U.getD (V.length-1) 0))/(V.getD (V.length-1) 0),((U.getD V.length 0)*4294967296+(U.getD (V.length-1) 0))%(V.getD (V.length-1) 0),H,rfl,rfl,rfl,rfl,rfl,F,o0,(by rw[hUe,hVe];exact(OK hUl bt).resolve_right o),(by rw[TR];exact U7 _ _),(Nat.lt_trans (Tp _ htop) dr),rfl⟩ ?_);rintro _ _ _ ⟨_,_,k,r,ag,ah,ai,aj,ak,am,F,J,hk,hkr,hr,_⟩;obtain⟨_,rfl⟩:=rebK (aC ah<|aC ai<|aC aj<|aC ak<|aC am aN);clear ah ai aj ak am;have hkb:=PB htop hkr;refine PT (PT ?_);by_cases hgB:4294967296≤k
  ·refine QL mixed 20 [[],[0],[1],[2],[2],[2],[2,5],[2,4,6],[2,7],[2,8],[2,3,9],[2],[2,11],[2],[2],[2,14],[2,13,15],[2,16],[2,17],[2,12,18]] ag [fx<|.int .u64 (k:Int),fx<|.bool true,fx<|.bool true,noG,noG,noG,noG,noG,noG,noG,noG,noG,noG,noG,noG,noG,noG,noG,noG,noG] κ ⟨sx,sx,sx,YV,YV,YV,YV,YV,YV,YV,YV,YV,YV,YV,YV,YV,YV,YV,YV,YV,trivial⟩ fun bJ D _ ⟨B,an⟩ l=>?_
   have F:=F.sp an;have J:=J.spn an;have l:Keep [48,49,50,51,52,53,54,55,56,57,58,59,60,61,62,63,64,65,66,67] _ bJ:=l;refine⟨⟨fun _=>?_,fun⟨bK,_⟩=>?_,fun⟨bL,_⟩=>?_,fun⟨bM,_⟩=>?_,fun⟨bN,_⟩=>?_,fun⟨bO,_⟩=>?_,fun⟨bP,_,_⟩=>?_,fun⟨bQ,_,_,_⟩=>?_,fun⟨bR,_,_⟩=>?_,fun⟨bS,_,_⟩=>?_,fun⟨bT,_,_,_⟩=>?_,fun⟨bU,_⟩=>?_,fun⟨bV,_,_⟩=>?_,fun⟨bW,_⟩=>?_,fun⟨bX,_⟩=>?_,fun⟨bY,_,_⟩=>?_,fun⟨bZ,_,_,_⟩=>?_,fun⟨b0,_,_⟩=>?_,fun⟨b1,_,_⟩=>?_,fun⟨b2,_,_,_⟩=>?_,trivial⟩,fun⟨b3,b4,b5,_,_,_,_,_,_,_,_,_,_,_,_,_,_,_,_,_,_⟩=>?_⟩
   ·exact Sd0 l fun _=>PP ⟨D,PQ B,rfl⟩
   ·exact Sd1 l bK fun _=>R1 (t:=true) ϱ ϱ (decide_eq_true o) ⟨D,PQ B,rfl⟩
   ·exact Sd1 l bL fun _=>PP ⟨D,PQ B,rfl⟩
   ·exact Jf l (aC bM aN) fun _=>OpSt.opn ϱ ϱ ⟨D,PQ B,trivial⟩
   ·exact Jf l (aC bN aN) fun _=>OpSt.opn ϱ ϱ ⟨D,PQ B,trivial⟩
   ·exact Jf l (aC bO aN) fun _=>OpSt.opn ϱ ϱ ⟨D,PQ B,trivial⟩
   ·exact Jf l (aC bP aN) fun _=>OpSt.opn ϱ ϱ ⟨D,PQ B,trivial⟩
   ·exact Jf l (aC bQ aN) fun _=>OpSt.opn ϱ ϱ ⟨D,PQ B,trivial⟩
   ·exact Jf l (aC bR aN) fun _=>OpSt.opn ϱ ϱ ⟨D,PQ B,trivial⟩
   ·exact Jf l (aC bS aN) fun _=>OpSt.opn ϱ ϱ ⟨D,PQ B,trivial⟩
   ·exact Jf l (aC bT aN) fun _=>OpSt.opn ϱ ϱ ⟨D,PQ B,trivial⟩
   ·exact Jf l (aC bU aN) fun _=>OpSt.opn ϱ ϱ ⟨D,PQ B,trivial⟩
   ·exact Jf l (aC bV aN) fun _=>OpSt.opn ϱ ϱ ⟨D,PQ B,trivial⟩
   ·exact Jf l (aC bW aN) fun _=>OpSt.opn ϱ ϱ ⟨D,PQ B,trivial⟩
   ·exact Jf l (aC bX aN) fun _=>OpSt.opn ϱ ϱ ⟨D,PQ B,trivial⟩
   ·exact Jf l (aC bY aN) fun _=>OpSt.opn ϱ ϱ ⟨D,PQ B,trivial⟩
   ·exact Jf l (aC bZ aN) fun _=>OpSt.opn ϱ ϱ ⟨D,PQ B,trivial⟩
   ·exact Jf l (aC b0 aN) fun _=>OpSt.opn ϱ ϱ ⟨D,PQ B,trivial⟩
   ·exact Jf l (aC b1 aN) fun _=>OpSt.opn ϱ ϱ ⟨D,PQ B,trivial⟩
   ·exact Jf l (aC b2 aN) fun _=>OpSt.opn ϱ ϱ ⟨D,PQ B,trivial⟩
   obtain⟨_,rfl⟩:=mixK l (aC b3<|aC b4<|aC b5 aN);refine Oz (OT<|Nl<|Ud<|PR<|W.block<|PT ?_);have hq:val U/val V<k:=by rw[hUe,hVe];exact KI (by rw[←hUe,←hVe];exact hlt) hgB
   have Y:0<k:=o
   refine PN (Ub<|St.sub ϱ ϱ (yg (a:=k) (b:=1) o o)<|Ua<|Rg<|Om<|Om<|Ub<|St.sub ϱ ϱ (Zy (a:=V.length) (b:=1) o o)<|Ol<|P4 (j:=V.length-1) (u:=(V.getD (V.length-1) 0)) F sl24 Js ϱ ϱ ϱ (Je o) ?_);intro _ _ bg ao;obtain⟨rfl,_⟩:bg=_∧_:=ao.rd;refine Ol<|P0 Yj ϱ (ao.cell 0 _ ϱ)<|Ol<|P6 (z:=(((V.getD (V.length-1) 0):Nat):Int)) Kj Kq ϱ (Tw _ o)<|Ol<|St.add ϱ ϱ (Yz (a:=r) (b:=(V.getD (V.length-1) 0)) o)<|Ua<|Rg<|Ub<|Ra ϱ ϱ (fun bh=>?_)<|fun bh=>?_
   ·refine Nl<|Ud<|QB<|⟨_,_,(k-1),B,rfl,rfl,rfl,rfl,F,J,(oN hq),WJ,(B4 (Ul:=0) (u2:=0) hVl P htop htopb (vP Y hkr) o).2⟩
   refine Nl<|Uc<|⟨_,o,_,_,(k-1),(r+(V.getD (V.length-1) 0)),B,rfl,rfl,rfl,rfl,rfl,F,J,(oN hq),(vP Y hkr),o,rfl⟩
  refine QL mixed 20 [[],[0],[1],[2],[2],[2],[2,5],[2,4,6],[2,7],[2,8],[2,3,9],[2],[2,11],[2],[2],[2,14],[2,13,15],[2,16],[2,17],[2,12,18]] ag [fx<|.int .u64 (k:Int),fx<|.bool false,fx<|.bool false,fx<|.int .u64 (k:Int),fx<|.slice a1 V.length L,fx<|.int .i64 (V.length:Int),fx<|.int .i64 ((V.length-2:Nat):Int),fE Jh<|V.getD (V.length-2) 0,fx<|.int .u32 (((V.getD (V.length-2) 0):Nat):Int),fx<|.int .u64 (((V.getD (V.length-2) 0):Nat):Int),fx<|.int .u64 ((k*(V.getD (V.length-2) 0):Nat):Int),fx<|.int .u64 (r:Int),fx<|.int .u64 ((r*4294967296:Nat):Int),fx<|.slice (some ⟨g,j,none⟩) U.length c,fx<|.int .i64 (V.length:Int),fx<|.int .i64 ((V.length-2:Nat):Int),fx<|.pointer (some ⟨g,j+(V.length-2),none⟩),fx<|.int .u32 (((U.getD (V.length-2) 0):Nat):Int),fx<|.int .u64 (((U.getD (V.length-2) 0):Nat):Int),fx<|.int .u64 ((r*4294967296+(U.getD (V.length-2) 0):Nat):Int)] κ ⟨sx,sx,sx,sx,sx,sx,sx,sE,sx,sx,sx,sx,sx,sx,sx,sx,sx,sx,sx,sx,trivial⟩ fun b6 E _ ⟨m,aq⟩ s=>?_
  have F:=F.sp aq;have J:=J.spn aq;have s:Keep [48,49,50,51,52,53,54,55,56,57,58,59,60,61,62,63,64,65,66,67] _ b6:=s;refine⟨⟨fun _=>?_,fun⟨b7,_⟩=>?_,fun⟨b8,_⟩=>?_,fun⟨b9,_⟩=>?_,fun⟨ca,_⟩=>?_,fun⟨cb,_⟩=>?_,fun⟨cc,cd,_⟩=>?_,fun⟨ce,cf,cg,_⟩=>?_,fun⟨ch,ci,_⟩=>?_,fun⟨cj,ck,_⟩=>?_,fun⟨cm,cn,co,_⟩=>?_,fun⟨cp,_⟩=>?_,fun⟨cq,cr,_⟩=>?_,fun⟨cs,_⟩=>?_,fun⟨ct,_⟩=>?_,fun⟨cu,cv,_⟩=>?_,fun⟨cw,cx,cz,_⟩=>?_,fun⟨cE,cF,_⟩=>?_,fun⟨cG,cH,_⟩=>?_,fun⟨cI,cJ,cK,_⟩=>?_,trivial⟩,fun⟨cL,cM,cN,cO,cP,cQ,cR,cS,cT,cU,cV,cW,cX,cY,cZ,c0,c1,c3,c4,c5,_⟩=>?_⟩
  ·exact Sd0 s fun _=>PP ⟨E,PQ m,rfl⟩
  ·exact Sd1 s b7 fun _=>R1 (t:=false) ϱ ϱ (decide_eq_false o) ⟨E,PQ m,rfl⟩
  ·exact Sd1 s b8 fun _=>PP ⟨E,PQ m,rfl⟩
  ·exact Jf s (aC b9 aN) fun _=>PY rfl<|PP ⟨E,PQ m,rfl⟩
  ·exact Jf s (aC ca aN) fun _=>PY rfl<|PP ⟨E,PQ m,rfl⟩
  ·exact Jf s (aC cb aN) fun _=>PY rfl<|PP ⟨E,PQ m,rfl⟩
  ·exact Jf s (aC cc<|aC cd aN) fun _=>PY rfl<|St.sub ϱ ϱ (Zy (a:=V.length) (b:=2) o o) ⟨E,PQ m,rfl⟩
  ·refine Jf s (aC ce<|aC cf<|aC cg aN) fun _=>PY ϱ (P4 (j:=V.length-2) (u:=(V.getD (V.length-2) 0)) F sl24 Js ϱ ϱ ϱ (Je o) ?_);intro _ _ bi ar;obtain⟨rfl,_⟩:bi=_∧_:=ar.rd;exact⟨E,PQ m,⟨_,_,_,rfl,ar⟩⟩
  ·obtain⟨_,_,bj,c6,au⟩:=ci;obtain⟨rfl,_⟩:bj=_∧_:=au.rd;exact Jf s (aC ch<|aC c6 aN) fun _=>PY rfl<|P0 Yj ϱ (au.cell 0 _ ϱ) ⟨E,PQ m,rfl⟩
  ·exact Jf s (aC cj<|aC ck aN) fun _=>PY rfl<|P6 (z:=(((V.getD (V.length-2) 0):Nat):Int)) Kj Kq ϱ (Tw _ o) ⟨E,PQ m,rfl⟩
  ·exact Jf s (aC cm<|aC cn<|aC co aN) fun _=>PY rfl<|Rq ϱ ϱ (Xj (a:=k) (b:=(V.getD (V.length-2) 0)) (by have hmu:=Du (show k<4294967296 by omega) P;omega)) ⟨E,PQ m,rfl⟩
  ·exact Jf s (aC cp aN) fun _=>PY rfl<|PP ⟨E,PQ m,rfl⟩
  ·exact Jf s (aC cq<|aC cr aN) fun _=>PY rfl<|RY (z:=((r*4294967296:Nat):Int)) ϱ ϱ δ (pi hr) ⟨E,PQ m,rfl⟩
  ·exact Jf s (aC cs aN) fun _=>PY rfl<|PP ⟨E,PQ m,rfl⟩
  ·exact Jf s (aC ct aN) fun _=>PY rfl<|PP ⟨E,PQ m,rfl⟩
  ·exact Jf s (aC cu<|aC cv aN) fun _=>PY rfl<|St.sub ϱ ϱ (Zy (a:=V.length) (b:=2) o o) ⟨E,PQ m,rfl⟩
  ·exact Jf s (aC cw<|aC cx<|aC cz aN) fun _=>PY rfl<|Re (j:=V.length-2) sl24 Js ϱ ϱ ϱ o ⟨E,PQ m,rfl⟩
  ·exact Jf s (aC cE<|aC cF aN) fun _=>PY rfl<|Ro (j:=V.length-2) (u:=(U.getD (V.length-2) 0)) hA J Yj ϱ (Je o) ⟨E,PQ m,rfl⟩
  ·exact Jf s (aC cG<|aC cH aN) fun _=>PY rfl<|P6 (z:=(((U.getD (V.length-2) 0):Nat):Int)) Kj Kq ϱ (Tw _ o) ⟨E,PQ m,rfl⟩
  ·exact Jf s (aC cI<|aC cJ<|aC cK aN) fun _=>PY rfl<|Sa (z:=((r*4294967296+(U.getD (V.length-2) 0):Nat):Int)) ϱ ϱ (oH hr bt) ⟨E,PQ m,rfl⟩
  obtain⟨_,_,bk,c7,c8⟩:=cS;obtain⟨rfl,_⟩:bk=_∧_:=c8.rd;obtain⟨_,rfl⟩:=mixK s (aC cL<|aC cM<|aC cN<|aC cO<|aC cP<|aC cQ<|aC cR<|aC c7<|aC cT<|aC cU<|aC cV<|aC cW<|aC cX<|aC cY<|aC cZ<|aC c0<|aC c1<|aC c3<|aC c4<|aC c5 aN);refine OgD<|QN ϱ ϱ (fun ad=>?_)<|fun ad=>?_
  ·refine OF (Nl<|Ud<|PR<|W.block<|PT ?_);have av:r*4294967296+(U.getD (V.length-2) 0)<k*(V.getD (V.length-2) 0):=Int.ofNat_lt.1 ad;have hq:val U/val V<k:=by rw[hUe,hVe];exact LA hUl hkr av
   have Y:0<k:=JU av;refine PN (Ub<|St.sub ϱ ϱ (yg (a:=k) (b:=1) o o)<|Ua<|Rg<|Om<|Om<|Ub<|St.sub ϱ ϱ (Zy (a:=V.length) (b:=1) o o)<|Ol<|P4 (j:=V.length-1) (u:=(V.getD (V.length-1) 0)) F sl24 Js ϱ ϱ ϱ (Je o) ?_);intro _ _ bl aw;obtain⟨rfl,_⟩:bl=_∧_:=aw.rd;refine Ol<|P0 Yj ϱ (aw.cell 0 _ ϱ)<|Ol<|P6 (z:=(((V.getD (V.length-1) 0):Nat):Int)) Kj Kq ϱ (Tw _ o)<|Ol<|St.add ϱ ϱ (Yz (a:=r) (b:=(V.getD (V.length-1) 0)) o)<|Ua<|Rg<|Ub<|Ra ϱ ϱ (fun bm=>?_)<|fun bm=>?_
   ·refine Nl<|Ud<|QB<|⟨_,_,(k-1),m,rfl,rfl,rfl,rfl,F,J,(oN hq),WJ,(B4 (Ul:=0) (u2:=0) hVl P htop htopb (vP Y hkr) o).2⟩
   refine Nl<|Uc<|⟨_,o,_,_,(k-1),(r+(V.getD (V.length-1) 0)),m,rfl,rfl,rfl,rfl,rfl,F,J,(oN hq),(vP Y hkr),o,rfl⟩
  refine OF<|Nl<|Ue<|QB<|⟨_,_,k,m,rfl,rfl,rfl,rfl,F,J,hk,(by rw[hUe,hVe];exact NV (VY δ) hVl htop o hkr o),o⟩
 rintro _ _ ⟨_,_,q,c9,ax,ay,az,aA,F,da,bA,eo,hqb⟩;obtain⟨_,rfl⟩:=rebK (aC ax<|aC ay<|aC az<|aC aA aN);clear ax ay az aA;refine Rg (Ua<|Rg<|Ua<|Rh<|Ub<|St.len sl24 rfl<|Om<|Nl<|W.block<|P7 (fun μ f v=>∃(x y:Nat→Prop) (i:Nat) (p:List Nat) (cy:Nat) (bo:Nat),Cx X ⟨w,(· =g)⟩ x y v∧f 0=(S12 (some ⟨g,j,none⟩) U c)∧f 1=(S12 a1 V L)∧f 5=(.int .i64 V.length)∧f 7=(.int .u64 q)∧f 82=(S12 a1 V L)∧f 83=(.int .i64 V.length)∧f 84=(.int .i64 i)∧f 9=(.int .u64 cy)∧f 10=(.int .u32 bo)∧RS Jh x v (S12 a1 V L) V∧Own ⟨w,(· =g)⟩ y v g ((A++(p++U.drop i)++Z).map u32v) 118∧i≤V.length∧p.length=i∧Jr p∧cy<4294967296∧bo≤1∧val p+q*val (V.take i)=val (U.take i)+4294967296^i*(cy+bo)∧μ=(V.length-i)) _ ⟨_,_,0,[],0,0,c9,rfl,rfl,rfl,rfl,rfl,rfl,rfl,rfl,rfl,F,da,(Tv _),rfl,Zh,o,o,WB,rfl⟩ ?_);rintro _ _ _ ⟨_,_,i,p,cy,bo,aa,aB,aD,aE,aF,aG,aH,aI,aJ,aK,F,K,hi,hp,hsp,hcy,hbo,P,_⟩;obtain⟨_,rfl⟩:=rebK (aC aB<|aC aD<|aC aE<|aC aF<|aC aG<|aC aH<|aC aI<|aC aJ<|aC aK aN);clear aB aD aE aF aG aH aI aJ aK;have hx:=Jk sv i;have hui:=Jk sU i;have hcar:=Nc hqb hx hcy;refine Rg<|Ol<|P2 ϱ ϱ (fun bn=>?_)<|fun bn=>?_
 ·refine Nl (PT<|Ud<|PR<|PT<|W.block<|Rg<|Ub<|P4 (j:=i) (u:=(V.getD i 0)) F sl24 Js ϱ ϱ ϱ (Je o) ?_);intro _ _ bp aL;obtain⟨rfl,_⟩:bp=_∧_:=aL.rd;refine Ol (P0 Yj ϱ (aL.cell 0 _ ϱ)<|Oa<|Ua<|Rg<|Om<|Ub<|P6 (z:=(((V.getD i 0):Nat):Int)) Kj Kq ϱ (Tw _ o)<|Ol<|Rq ϱ ϱ (Xj (a:=q) (b:=(V.getD i 0)) o)<|Ub<|St.add ϱ ϱ (Yz (a:=q*(V.getD i 0)) (b:=cy) o) ?_);refine Oa (Nl<|Rg<|Om<|Om<|Om<|Ub<|Re (j:=i) sl24 Js ϱ ϱ ϱ o<|Ol<|Ro (j:=i) (u:=(U.getD i 0)) hA K Yj ϱ (CQ hp ϱ o)<|Ub<|P6 (z:=((((q*(V.getD i 0))+cy)%4294967296:Nat):Int)) X3 Vh ϱ (J5 _) ?_);refine Om (Ol<|PK aa Cr ϱ ϱ (oI aa.bd (x:=(U.getD i 0)) (y:=((q*(V.getD i 0))+cy)%4294967296) (b:=bo) hui (Tp _ δ) hbo) ?_);intro _ _ dc aM dd;have K:=K.spn aM;obtain⟨_,_,rfl,rfl,rfl⟩:=dd;refine Om (Ol<|St.extract ϱ rfl<|Ol<|St.extract ϱ rfl<|Ol<|Re (j:=i) sl24 Js ϱ ϱ ϱ o<|On<|Ru (j:=i) (u:=(((U.getD i 0)+8589934592-(((q*(V.getD i 0))+cy)%4294967296)-bo)%4294967296)) hA dc K Js ϱ ϱ WI ?_);intro _ de df aO;have F:=(F.sp aM).sp df;rw[Ht hp o] at aO;refine Ua<|PN<|Ub<|Rl ϱ ϱ δ (Ka (d:=4294967296) _ δ)<|Ua<|PN<|Ol<|St.add ϱ ϱ (Ja (a:=i) (b:=1) o)<|Om<|Nl<|⟨_,o,_,_,(i+1),(p++[(((U.getD i 0)+8589934592-(((q*(V.getD i 0))+cy)%4294967296)-bo)%4294967296)]),((q*(V.getD i 0))+cy)/4294967296,(if(U.getD i 0)<(((q*(V.getD i 0))+cy)%4294967296)+bo then 1 else 0),de,rfl,rfl,rfl,rfl,rfl,rfl,rfl,rfl,rfl,F,aO,o,E',(Zz hsp o),hcar.2,D',(IX hp hqb hx hcy hbo hui P<|Jv V i),rfl⟩
 refine Nl<|PT<|Ue<|QB<|PT<|Rm (fun f v=>∃(x y:Nat→Prop) (R:List Nat) (e:Nat),Cx X ⟨w,(· =g)⟩ x y v∧f 0=(S12 (some ⟨g,j,none⟩) U c)∧f 1=(S12 a1 V L)∧f 5=(.int .i64 V.length)∧f 7=(.int .u64 q)∧f 10=(.int .u32 e)∧RS Jh x v (S12 a1 V L) V∧Own ⟨w,(· =g)⟩ y v g ((A++R++Z).map u32v) 118∧R.length=V.length+1∧Jr R∧e≤1∧val R+q*val V=val U+4294967296^(V.length+1)*e) ?_ ?_
 ·refine PN (Om<|Om<|Om<|Ub<|Re (j:=V.length) sl24 Js ϱ ϱ ϱ o<|Ol<|Ro (j:=V.length) (u:=(U.getD V.length 0)) hA K Yj ϱ (CQ hp o o)<|Ub<|P6 (z:=(cy:Int)) X3 Vh ϱ (IntWalk.u32_in _ o) ?_);refine Om (Ol<|PK aa Cr ϱ ϱ (oI aa.bd (x:=(U.getD V.length 0)) (y:=cy) (b:=bo) hun hcy hbo) ?_);intro _ _ dg aP dh;have K:=K.spn aP;obtain⟨_,_,rfl,rfl,rfl⟩:=dh;refine Om (Ol<|St.extract ϱ rfl<|Ol<|St.extract ϱ rfl<|Ol<|Re (j:=V.length) sl24 Js ϱ ϱ ϱ o<|On<|Ru (j:=V.length) (u:=(((U.getD V.length 0)+8589934592-cy-bo)%4294967296)) hA dg K Js ϱ ϱ WI ?_);intro _ di dj aQ;have F:=(F.sp aP).sp dj;rw[Er hp o o] at aQ;refine Ua<|⟨_,_,(p++[(((U.getD V.length 0)+8589934592-cy-bo)%4294967296)]),(if(U.getD V.length 0)<cy+bo then 1 else 0),di,rfl,rfl,rfl,rfl,rfl,F,aQ,(by rw[Tc,hp];show i+1=_;omega),(Zz hsp o),D',(FU o hcy hbo hun hU (by have hh:=P;rw[show i=V.length by omega,U1] at hh;exact hh))⟩
 rintro _ _ ⟨_,_,R,e,aR,aS,aT,aU,aV,aW,F,aX,hR,hRs,_,hRv⟩;obtain⟨_,rfl⟩:=rebK (aC aS<|aC aT<|aC aU<|aC aV<|aC aW aN);clear aS aT aU aV aW;refine Rh<|Ub<|QH ϱ ϱ (fun bq=>?_)<|fun bq=>?_
 ·refine Nl (Ud<|PT ?_);obtain⟨ep,_,eq⟩:=HN (U:=val U) (V:=val V) (R:=val R) (M:=4294967296^(V.length+1)) (g:=q) hVpos eo (by have hh:=Yk R hRs;rwa [hR] at hh) (by rw[hRv,show e=1 by omega,VS]);refine PN (Ub<|St.sub ϱ ϱ (yg (a:=q) (b:=1) o o)<|Ua<|Rg<|Ua<|Rh<|Ub<|St.len sl24 rfl<|Om<|Nl<|W.block<|P7 (fun μ f v=>∃(x y:Nat→Prop) (i:Nat) (p:List Nat) (cy:Nat),Cx X ⟨w,(· =g)⟩ x y v∧f 0=(S12 (some ⟨g,j,none⟩) U c)∧f 5=(.int .i64 V.length)∧f 7=(.int .u64 ((q-1:Nat):Int))∧f 130=(S12 a1 V L)∧f 131=(.int .i64 V.length)∧f 132=(.int .i64 i)∧f 14=(.int .u32 cy)∧RS Jh x v (S12 a1 V L) V∧Own ⟨w,(· =g)⟩ y v g ((A++(p++R.drop i)++Z).map u32v) 118∧i≤V.length∧p.length=i∧Jr p∧cy≤1∧val p+4294967296^i*cy=val (R.take i)+val (V.take i)∧μ=(V.length-i)) _ ⟨_,_,0,[],0,aR,rfl,rfl,rfl,rfl,rfl,rfl,rfl,F,aX,(Tv _),rfl,Zh,o,WB,rfl⟩ ?_);rintro _ _ _ ⟨_,_,i,p,cy,ac,aY,aZ,a0,a3,a4,a5,a6,F,S,hi,hp,hsp,hcy,bB,_⟩;obtain⟨_,rfl⟩:=rebK (aC aY<|aC aZ<|aC a0<|aC a3<|aC a4<|aC a5<|aC a6 aN);clear aY aZ a0 a3 a4 a5 a6;have hx:=Jk sv i;have hri:=Jk hRs i;refine Rg<|Ol<|P2 ϱ ϱ (fun br=>?_)<|fun br=>?_
  ·refine Nl (PT<|Ud<|PR<|PT<|W.block<|Rg<|Ub<|P4 (j:=i) (u:=(V.getD i 0)) F sl24 Js ϱ ϱ ϱ (Je o) ?_);intro _ _ bs a7;obtain⟨rfl,_⟩:bs=_∧_:=a7.rd;refine Ol (P0 Yj ϱ (a7.cell 0 _ ϱ)<|Oa<|Ua<|PN<|Om<|Om<|Om<|Ub<|Re (j:=i) sl24 Js ϱ ϱ ϱ o<|Ol<|Ro (j:=i) (u:=(R.getD i 0)) hA S Yj ϱ (CQ hp ϱ o)<|Om<|Om ?_);refine Ol (PK ac BH ϱ ϱ (mS ac.bd (x:=(R.getD i 0)) (y:=(V.getD i 0)) (c:=cy) hri hx hcy) ?_);intro _ _ dk a8 dl;have S:=S.spn a8;obtain⟨_,_,rfl,rfl,rfl⟩:=dl;refine Om (Ol<|St.extract ϱ rfl<|Ol<|St.extract ϱ rfl<|Ol<|Re (j:=i) sl24 Js ϱ ϱ ϱ o<|On<|Ru (j:=i) (u:=(((R.getD i 0)+(V.getD i 0)+cy)%4294967296)) hA dk S Js ϱ ϱ WI ?_);intro _ dm dn a9;have F:=(F.sp a8).sp dn;rw[Ht hp o] at a9;refine Ua<|PN<|Ol<|St.add ϱ ϱ (Ja (a:=i) (b:=1) o)<|Om<|Nl<|⟨_,o,_,_,(i+1),(p++[(((R.getD i 0)+(V.getD i 0)+cy)%4294967296)]),(((R.getD i 0)+(V.getD i 0)+cy)/4294967296),dm,rfl,rfl,rfl,rfl,rfl,rfl,rfl,F,a9,o,E',(Zz hsp o),o,(vQ hp bB<|Jv V i),rfl⟩
  refine Nl (PT<|Ue<|QB<|PN<|Om<|Ub<|Re (j:=V.length) sl24 Js ϱ ϱ ϱ o<|Ol<|Ro (j:=V.length) (u:=(R.getD V.length 0)) hA S Yj ϱ (CQ hp o o)<|Ub<|St.add (z:=(((R.getD V.length 0+cy)%4294967296:Nat):Int)) ϱ ϱ (by rw[←Int.natCast_add];exact J5 _) ?_);refine Ol (Re (j:=V.length) sl24 Js ϱ ϱ ϱ o<|On<|Ru (j:=V.length) (u:=(R.getD V.length 0+cy)%4294967296) hA ac S Js ϱ ϱ WI ?_);intro _ dp _ ba;rw[Er hp o o] at ba;refine Nl<|Rg<|Ub<|P6 (z:=((q-1:Nat):Int)) X3 Vh ϱ (IntWalk.u32_in _ o)<|Ua<|PS<|Kd ϱ (SV ϱ)<|RetM.intro ⟨?_,?_⟩ dp.below
  ·exact YR<|congrArg _ ep
  have hh:=ba.blk;rw[vT o hsp hcy hR (kn_T sv hVpos) (by have hh:=bB;rw[show i=V.length by omega,U1] at hh;exact hh) eq] at hh;exact hh
 refine Nl<|Uc<|Rg<|Ub<|P6 (z:=(q:Int)) X3 Vh ϱ (IntWalk.u32_in _ o)<|Ua<|PS<|Kd ϱ (SV ϱ)<|RetM.intro ⟨?_,?_⟩ aR.below
 ·exact YR<|congrArg _ (Nh hVpos bA YD).1
 have hh:=aX.blk;rw[show R=Zc (V.length+1) (val U%val V) from Xn hRs hR (Nh hVpos bA YD).2] at hh;exact hh
end
section
variable {P:Program} {ρ:Operand→Value} {dst:Option Tmp} {ty:TypeId} {pos:String} {after:Array Edge} {gd:Option (Nat×Bool)}
 {w:World} {K:Value→World→Prop} {Kp:List PanicEntry→World→Prop}
theorem R4 {a lo r:Operand} {t e:TypeId} {z:Value} {by_ g n c:Nat} {k k':IntKind} {m m':Int} {i j u:Nat} (hu:j-i=u)
  (ht:P.underlying t=some (.slice e)) (hi:Zf P e=some (z,1,by_)) (hx:ρ a= .slice (some ⟨g,0,none⟩) n c) (hy:ρ lo= .int k m) (hm:m=i) (hy':ρ r= .int k' m') (hm':m'=j) (hij:i≤j) (hj:j≤c) (hic:i<c)
  (h:K (.slice (some ⟨g,i,none⟩) u (c-i)) w):St P ρ ⟨dst,.slice t a (some lo) (some r) none,ty,pos,after,gd⟩ w K Kp:=
 Sb ht hi hx hy hm hy' hm' hij hj hic (by rw[hu];exact h)
end
section
variable{X:Nat→Prop}{w:World}(hX:XB X w)
include hX
theorem nK{L:Value}(e:RS Jh X w L a)(hla:a.length<1099511627776)(hs:s<32):CRt 254 #[L,(.int .u64 s)] w fun v w'=>Ig w ((Zc (a.length+1) (val a*2^s)).map u32v) (a.length+1) 118 v w':=by
 obtain⟨a1,H,rfl,_,_⟩:=e.len;have C:=PV hX;have sa:=e.u32_small;have hps:=pd hs;refine Cgo Tryz.func254 r r r (Rg<|Ua<|Rg<|Ub<|St.len sl24 rfl<|Ol<|St.add r r (Ja (a:=a.length) (b:=1) o)<|Ol<|Rp (n:=(a.length+1)) C sl24 r r r o Js δ ?_);intro M _ _ _ _ U V N;have e:=e.sp V;refine Oa (Nl<|Rh<|Ub<|St.len sl24 rfl<|Om<|Nl<|W.block<|P7 (fun μ f v=>∃(x y:Nat→Prop) (i:Nat) (p:List Nat) (h:Nat),Cx X w x y v∧f 1=(.int .u64 s)∧f 5=(.slice (some ⟨M,0,none⟩) (a.length+1) (a.length+1))∧f 13=(S12 a1 a H)∧f 14=(.int .i64 a.length)∧f 15=(.int .i64 i)∧RS Jh x v (S12 a1 a H) a∧Own w y v M ((p++h::List.replicate (a.length-i) 0).map u32v) 118∧i≤a.length∧p.length=i∧Jr p∧h<2^s∧val p+4294967296^i*h=val (a.take i)*2^s∧μ=(a.length-i)) _ ⟨_,_,0,[],0,U,rfl,rfl,rfl,rfl,rfl,e,N,(Tv _),rfl,Zh,(We s),WB,rfl⟩ ?_);rintro _ _ _ ⟨_,_,i,p,h,k,l,m,A,B,D,e,g,_,hp,hq,hh,hv,_⟩;obtain⟨_,rfl⟩:=rebK (aC l<|aC m<|aC A<|aC B<|aC D aN);clear l m A B D;have hx:=Jk sa i;have hxd:=GO (s:=s) hx;refine Rg<|Ol<|P2 r r (fun I=>?_)<|fun I=>?_
 ·refine Nl (PT<|Ud<|PR<|PT<|W.block<|Rg<|Ub<|P4 (j:=i) (u:=(a.getD i 0)) e sl24 Js r r r (Je o) ?_);intro _ _ J E;obtain⟨rfl,_⟩:J=_∧_:=E.rd;refine Ol (P0 Yj r (E.cell 0 _ r)<|Oa<|Ua<|Rg<|Ub<|P6 (z:=(((a.getD i 0):Nat):Int)) Kj Kq r (Tw _ o)<|Ub<|RY r r o (pY<|KP hx hs)<|Ua<|Rg<|Om ?_);refine Om (Ol<|QX (j:=i) sl24 Js r r r o<|Ol<|RL (j:=i) (u:=h) g Yj r (FS hp)<|Ub<|P6 (z:=((((a.getD i 0)*2^s)%4294967296:Nat):Int)) X3 Vh r (J5 _)<|Ol<|Sa (z:=((h+a.getD i 0*2^s%4294967296:Nat):Int)) r r ((nV (a:=h) (b:=a.getD i 0*2^s%4294967296) o o).trans (congrArg _<|D1 hs hh)) ?_);refine Ol (QX (j:=i) sl24 Js r r r o<|On<|QR (j:=i) (u:=h+a.getD i 0*2^s%4294967296) k g Js r r (by simp only[Tc,Td,Tl,Te];omega) ?_);intro _ Q R F;rw[Np hp] at F;refine Nl (PN<|Om<|Ub<|St.add r r (Ja (a:=i) (b:=1) o)<|Ub<|Rl r r δ (Ka (d:=4294967296) _ δ)<|Ol<|P6 (z:=((a.getD i 0*2^s/4294967296:Nat):Int)) X3 Vh r (IntWalk.u32_in _ o)<|Ol<|QX (j:=i+1) sl24 Js r r r o ?_);refine On (QR (j:=i+1) (u:=a.getD i 0*2^s/4294967296) Q F Js r r (by simp only[Tc,Td,Tl,Te];omega) ?_);intro _ S T G;have e:=(e.sp R).sp T;rw[F0 hp o] at G;refine Nl<|PN<|Ol<|St.add r r (Ja (a:=i) (b:=1) o)<|Om<|Nl<|⟨_,o,_,_,(i+1),(p++[h+a.getD i 0*2^s%4294967296]),(a.getD i 0*2^s/4294967296),S,rfl,rfl,rfl,rfl,rfl,e,G,o,E',(Zz hq<|AU hs hh),hxd,(pL hp hv),rfl⟩
 refine Nl (PT<|Ue<|QB<|Rg<|Om<|Ua<|PS<|Wq r r k ?_);refine⟨_,rfl,g.ge.resolve_right id,?_⟩;have hblk:=g.blk;rw[ta hq hs hh hp o hv] at hblk;exact hblk
theorem CD{l:List Nat}{n:Nat}(hl:l.length=n)(hn:n≤maxLen)(hs:∀x∈l,x<4294967296){v:Value}{w':World}(h:Ig w (l.map u32v) n 118 v w'):RS Jh X w' v l:=by
 obtain⟨g,rfl,hg,hb⟩:=h;subst hl;refine⟨_,_,rfl,Tu _,hn,.inr ⟨g,0,rfl,fun hx=>Nat.lt_irrefl _<|Ti (hX g hx) hg,fun i x hi=>⟨[.int .u32 x],⟨rfl,hs x<|US hi⟩,fun j _ hj=>?_⟩⟩⟩
 cases j with
 |zero=>
  cases hj;refine hb.cell (j:=0+i*1+0) ?_;rw[TV,show 0+i*1+0=i by omega,hi];rfl
 |succ j=>cases hj
theorem xB{b:Value}(d:RS Jh X w b a)(hla:a.length<1099511627776)(hs:s<32):CRt 254 #[b,(.int .u64 s)] w fun v w'=>RS Jh X w' v (Zc (a.length+1) (val a*2^s)):=by
 refine(nK hX d hla hs).mono ?_
 rintro(⟨v⟩|_|_) w' h<;>first|exact⟨CD hX (Jt _ _) (by simp only[maxLen];omega) (Zm _ _) h.1,h.2⟩|exact h.elim
theorem pv(F:RS Jh X w v0 a)(B:RS Jh X w v1 b)(ha:trim a=a)(hb:trim b=b)(hne:b≠[])(hla:a.length≤549755813888)(hlb:b.length≤549755813888):CRt 242 #[v0,v1] w fun v w'=>(∃v0 v1,v= .tuple #[v0,v1]∧(RS Jh X w' v0 (digs (val a/val b)))∧(RS Jh X w' v1 (digs (val a%val b)))):=by
 obtain⟨a1,c2,rfl,_,_⟩:=F.len;obtain⟨a3,c4,rfl,_,_⟩:=B.len;have C:=PV hX;have sa:=F.u32_small;have sb:=B.u32_small;have hbpos:0<val b:=Ti (VY δ) (Vx hb hne);have b5:=UH.2 hne;refine Cgo Tryz.func242 r r r (Rg<|Oa<|Ua<|Rh<|Om<|Ub<|PK C M1 r r (pF C.bd F B ha hb o o) ?_);intro _ _ C7 s8 h9;have F:=F.sp s8;have B:=B.sp s8;subst h9;refine Ol<|P2 r r (fun G=>?_)<|fun G=>?_
 ·refine Nl (Uf<|Ub<|PK C7 Ca r r (md C7.bd F o) ?_);intro _ _ ak _ aW;obtain⟨_,_,rfl,_,_⟩:=aW.len;refine Oa (Ua<|PS<|Xi r r r ak ?_);refine⟨_,_,rfl,?_,?_⟩
  ·exact SX ((RS.nil:RS _ _ _ _ _).tr ak.wb)<|(Ou<|sG G)
  ·exact SX ((aW:RS _ _ _ _ _).tr ak.wb)<|(LI ha sa<|sG G)
 refine Nl<|Uc<|Rh<|Ub<|St.len sl24 rfl<|Ol<|Rt r r (fun a7=>?_)<|fun a7=>?_
 ·refine Nl (Ud<|PT ?_);have hlab:=Q7 hb sa (rB G);refine PN (Ub<|PK C7 DO r r (tW C7.bd F o) ?_);intro _ _ aX bF bG;have B:=B.sp bF;subst bG;refine Om (Ol<|PK aX DO r r (tW aX.bd B o) ?_);intro _ _ bH _ bI;subst bI;refine Oa (Ua<|PT ?_);have b1:=Vs sa o;refine QL mixed 7 [[],[],[0,1],[2],[],[],[4,5]] bH [fx<|.int .u64 (((val a):Nat):Int),fx<|.int .u64 (((val b):Nat):Int),fx<|.int .u64 (((val a)/(val b):Nat):Int),fs Jh<|digs<|(val a)/(val b),fx<|.int .u64 (((val a):Nat):Int),fx<|.int .u64 (((val b):Nat):Int),fx<|.int .u64 (((val a)%(val b):Nat):Int)] κ ⟨sx,sx,sx,ss,sx,sx,sx,trivial⟩ fun bJ H _ ⟨l,_⟩ m=>?_
  have m:Keep [28,29,30,31,32,33,34] _ bJ:=m;refine⟨⟨fun _=>?_,fun _=>?_,fun⟨bK,bL,_⟩=>?_,fun⟨bM,_⟩=>?_,fun _=>?_,fun _=>?_,fun⟨bN,bO,_⟩=>?_,trivial⟩,fun⟨bP,bQ,bR,ab,bS,bT,bU,_⟩=>?_⟩
  ·exact Sd0 m fun _=>PP ⟨H,PQ l,rfl⟩
  ·exact Sd0 m fun _=>PP ⟨H,PQ l,rfl⟩
  ·exact Jf m (aC bK<|aC bL aN) fun _=>P1<|Ry r r o (ym (a:=(val a)) (b:=(val b)) o) ⟨H,PQ l,rfl⟩
  ·refine Sd1 m bM fun _=>PK l rI r r (mA l.bd (n:=(val a)/(val b))<|DC<|Vs sa o) ?_;intro _ _ bV bW bX;exact⟨H,⟨bV,bW⟩,bX⟩
  ·exact Sd0 m fun _=>PP ⟨H,PQ l,rfl⟩
  ·exact Sd0 m fun _=>PP ⟨H,PQ l,rfl⟩
  ·exact Jf m (aC bN<|aC bO aN) fun _=>P1<|RI r r o (yu (val a)<|val b) ⟨H,PQ l,rfl⟩
  obtain⟨_,_,bY,ab⟩:=RS.opn ab;obtain⟨_,rfl⟩:=mixK m (aC bP<|aC bQ<|aC bR<|aC bY<|aC bS<|aC bT<|aC bU aN);refine Ol (PK l rI r r (mA l.bd (n:=(val a)%(val b))<|Cq<|Vs sa o) ?_);intro _ _ am bZ aY;have ab:=ab.sp bZ;obtain⟨_,_,rfl,_,_⟩:=aY.len;refine Oa (Ua<|PS<|Xi r r r am ?_);refine⟨_,_,rfl,?_,?_⟩
  ·exact SX ((ab:RS _ _ _ _ _).tr am.wb)<|rfl
  ·exact SX ((aY:RS _ _ _ _ _).tr am.wb)<|rfl
 refine Nl (Uc<|PT<|PT ?_);have hlab:=Q7 hb sa (rB G);refine PN<|Ub<|St.len sl24 rfl<|Ol<|PW r r (fun a8=>?_)<|fun a8=>?_
 ·refine Nl (Ud<|PT ?_);have h1v:=sM (a:=b) o;refine PN (Om<|Ub<|P4 (j:=0) (u:=(b.getD 0 0)) B sl24 Js r r r (Je o) ?_);intro _ _ a9 aZ;obtain⟨rfl,_⟩:a9=_∧_:=aZ.rd;refine Ol (P0 Yj r (aZ.cell 0 _ r)<|Ol<|PK C7 KC r r (yY C7.bd F (d:=(b.getD 0 0)) o (by rw[h1v];exact hbpos)<|Jk sb _) ?_);intro _ _ a0 _ b0;obtain⟨_,_,rfl,a4,rfl⟩:=b0;obtain⟨_,_,rfl,_,_⟩:=a4.len;refine Om (Ol<|St.extract r rfl<|Ol<|St.extract r rfl<|Oa<|Ua<|Rg<|Ub<|PK a0 Vq r r (Zq a0.bd a4 Wx) ?_);intro _ _ a5 _ ah;obtain⟨_,_,rfl,_,_⟩:=ah.len;refine Om (Ol<|P6 (z:=((val a%b.getD 0 0:Nat):Int)) Kj Kq r (Tw _ (by have:=Jk sb 0;have:=Tp (val a) (show 0<b.getD 0 0 by rw[h1v];exact hbpos);omega))<|Ol<|PK a5 rI r r (mA a5.bd (n:=val a%b.getD 0 0) (by have:=Jk sb 0;have:=Tp (val a) (show 0<b.getD 0 0 by rw[h1v];exact hbpos);omega)) ?_);intro _ _ an ba ao;have ah:=ah.sp ba;obtain⟨_,_,rfl,_,_⟩:=ao.len;refine Oa (Ua<|PS<|Xi r r r an ?_);refine⟨_,_,rfl,?_,?_⟩
  ·exact SX ((ah:RS _ _ _ _ _).tr an.wb)<|(by rw[h1v];exact Vi<|TS (VA _ _)<|Yk a sa)
  ·exact SX ((ao:RS _ _ _ _ _).tr an.wb)<|(by rw[h1v])
 refine Nl (Uc<|Rg<|Om<|Ub<|St.len sl24 rfl<|Ol<|St.sub (z:=((b.length:Int)-1)) r r (Tz _ o)<|Ol<|P4 (j:=(b.length-1)) (u:=(b.getD (b.length-1) 0)) B sl24 Js r r o (Je o) ?_);intro _ _ aT aq;obtain⟨rfl,_⟩:aT=_∧_:=aq.rd;refine Ol (P0 Yj r (aq.cell 0 _ r)<|Ol<|PK C7 Oo r r (MJ C7.bd (x:=(b.getD (b.length-1) 0))<|Jk sb _) ?_);intro _ _ ar au bb;have F:=F.sp au;subst bb;refine Ol (P6 (z:=(((32-blen (b.getD (b.length-1) 0)):Nat):Int)) us3 r7 r (Tw _ o)<|Ua<|PT ?_);have hbl:=oY (s5 hb sb hne);refine PN (Om<|Ub<|SL ar LJ r r (nK ar.bd F (s:=(32-blen (b.getD (b.length-1) 0))) o o) ?_);intro N _ _ _ _ av bc D;have B:=(B.sp au).sp bc;refine Om (Ub<|PK av LJ r r (xB av.bd B (s:=(32-blen (b.getD (b.length-1) 0))) o o) ?_);intro _ _ aw be ax;obtain⟨_,_,rfl,_,_⟩:=ax.len;refine Ol (PK aw Vq r r (Zq aw.bd ax Wx) ?_);intro _ _ bf bg e;have D:=(D.spn be).spn bg;obtain⟨ay,az,rfl,_,_⟩:=e.len;refine Oa (Ua<|PT ?_);have ac:(32-blen (b.getD (b.length-1) 0))<32:=o
 obtain⟨hVl,hVv,hVt⟩:=Il hb sb hne (Tu<|32-blen (b.getD (b.length-1) 0));have hVs:=e.u32_small;have a6:=GB sa hb hne (s:=(32-blen (b.getD (b.length-1) 0))) hlab (Jt (a.length+1)<|val a*2^(32-blen (b.getD (b.length-1) 0))) (Zm _ _) (Yq _ _<|ET sa<|VI ac);have hva:=Yq (a.length+1) (val a*2^(32-blen (b.getD (b.length-1) 0))) (ET sa<|VI ac);generalize (trim<|Zc (b.length+1)<|val b*2^(32-blen (b.getD (b.length-1) 0)))=V at *;generalize (32-blen (b.getD (b.length-1) 0))=s at *;rw[←hVl,←hVv] at a6;have hVD:=Yk V hVs;have hVpos:0<val V:=by rw[hVv];exact VT hbpos<|We s
 have hVne:V≠[]:=by rintro rfl;simp at hVl;omega
 refine PN (Ub<|St.len sl24 rfl<|Ua<|Rg<|Ub<|St.len sl24 rfl<|Ub<|St.sub r r (Zy (a:=(a.length+1)) (b:=V.length) o o)<|Ol<|Rp (n:=(a.length+1-V.length)) bf sl24 r r r o Js δ ?_);intro R _ _ _ aU bh aA aB;have ad:=aU _ D.blk.lt;have e:=e.sp aA;have D:=D.spn aA;refine Oa (Nl<|Rh<|Ub<|St.len sl24 rfl<|Ol<|St.sub (z:=((((a.length+1-V.length):Nat):Int)-1)) r r (Tz _ o)<|Ua<|W.block ?_);rw[←TT (List.replicate (a.length+1-V.length) 0)] at aB;refine P7 (fun μ f v=>∃(x y:Nat→Prop) (J:Nat) (Q:List Nat) (L:List Nat),Cx X w x y v∧f 4=(.slice (some ⟨R,0,none⟩) (a.length+1-V.length) (a.length+1-V.length))∧f 10=(.int .u64 s)∧f 11=(.slice (some ⟨N,0,none⟩) (a.length+1) (a.length+1))∧f 12=(S12 ay V az)∧f 13=(.int .i64 V.length)∧f 14=(.int .i64 ((J:Int)-1))∧RS Jh x v (S12 ay V az) V∧Own w y v N (L.map u32v) 118∧Own w y v R ((List.replicate J 0++Q).map u32v) 118∧J≤a.length+1-V.length∧J+Q.length=a.length+1-V.length∧Jr Q∧L.length=a.length+1∧Jr L∧val (L.drop J)<val V∧val a*2^s=val Q*val V*4294967296^J+val L∧μ=J) _ ⟨_,_,(a.length+1-V.length),[],(Zc (a.length+1)<|val a*2^s),bh,rfl,rfl,rfl,rfl,rfl,(congrArg (Value.int .i64) o),e,D,aB,(Tu _),rfl,Zh,(Jt _ _),(Zm _ _),a6,(by rw[hva];simp[val]),rfl⟩ ?_;rintro _ _ _ ⟨aD,_,J,Q,L,S,aE,aF,aG,aH,aI,aJ,e,p,I,_,_,hQs,hLl,hLs,hlo,hN,_⟩;obtain⟨_,rfl⟩:=rebK (aC aE<|aC aF<|aC aG<|aC aH<|aC aI<|aC aJ aN);clear aE aF aG aH aI aJ;have hJL:0<J→J+V.length≤L.length:=fun _=>o
 refine Rh<|Ub<|Ra r r (fun aV=>?_)<|fun aV=>?_
 ·refine Nl (Ud<|PR<|PT<|W.block<|PN<|Om<|Om<|Om<|Om<|Om<|Ub<|St.add (z:=(((J:Int)-1)+(V.length:Int))) r r (Tz _ o)<|Ol<|St.add (z:=((((J:Int)-1)+(V.length:Int))+1)) r r (Tz _ o) ?_);refine Ol (R4 (i:=(J-1)) (j:=(J+V.length)) (by rw[xE o o];omega) sl24 Js r r o r o o o o<|Ub<|QT S p Pb r r (Hu S.bd (A:=(L.take<|J-1)) (U:=((L.drop<|J-1).take (V.length+1))) (Z:=(L.drop<|J+V.length)) Ww (by have hh:=p.blk;rw[Cg (L:=L) (J:=J) (n:=V.length) o o] at hh;exact hh) (S.yx _ p.mem) e (zu (nC hLs _) _) o o (xE o o) (s5 hVt hVs hVne)<|EE hLs o o hVD hlo) ?_);intro _ _ bi aK ae bj;have I:=I.spo aK (TA ad);subst bj;refine Ol (QX (j:=(J-1)) sl24 Js r r o o<|On<|QR (j:=(J-1)) (u:=(val ((L.drop<|J-1).take (V.length+1))/val V)) bi I Js r r WR ?_);intro _ bk aL aM;have e:=(e.sp aK).sp aL;have ae:=ae.spo aL ad;rw[tA o] at aM;refine Nl<|PN<|Ub<|St.sub (z:=(((J:Int)-1)-1)) r r (Tz _ o)<|Ua<|⟨_,o,_,_,(J-1),((val<|(L.drop<|J-1).take (V.length+1))/val V::Q),(L.take (J-1)++Zc (V.length+1) ((val<|(L.drop<|J-1).take (V.length+1))%val V)++L.drop (J+V.length)),bk,rfl,rfl,rfl,rfl,rfl,(congrArg (Value.int .i64) o),e,ae,aM,o,XA,(Yl (Cj<|EE hLs o o hVD hlo) hQs),((DZ o o).trans hLl),(Be hLs),(by rw[u7 o o hVD hlo];exact Tp _ hVpos),(HF o o hVD hlo hN),rfl⟩
 refine Nl (Ue<|QB<|PT ?_);have aO:J=0:=o
 rw[hVv,aO] at hN;rw[hVv,aO] at hlo;have T:=I.frRS (x:=aD) (n:=(a.length+1-V.length)) (c:=(a.length+1-V.length)) WR (Tu _) o (Yo (V9 _) hQs);rw[aO,UU,TJ,TE o] at T;have bl:=S.freeze hX I id;replace p:=p.frz ad;have Y:=p.frRS (x:=(vO aD R)) (n:=(a.length+1)) (c:=(a.length+1)) o (Tu _) o hLs;rw[TE o] at Y;have bm:=bl.freeze hX p id;refine QL mixed 6 [[],[0],[],[],[2,3],[]] bm [fx<|.slice (some ⟨R,0,none⟩) (a.length+1-V.length) (a.length+1-V.length),fs Jh<|trim Q,fx<|.slice (some ⟨N,0,none⟩) (a.length+1) (a.length+1),fx<|.int .i64 (V.length:Int),fs Jh<|L.take V.length,fx<|.int .u64 (s:Int)] κ ⟨sx,ss,sx,sx,ss,sx,trivial⟩ fun bn E _ ⟨h,aP⟩ k=>?_
 have T:=(T.tr<|Tr.frz (g:=N)).sp aP;have Y:=Y.sp aP;have k:Keep [93,94,95,96,97,98] _ bn:=k;refine⟨⟨fun _=>?_,fun⟨bo,_⟩=>?_,fun _=>?_,fun _=>?_,fun⟨bp,bq,_⟩=>?_,fun _=>?_,trivial⟩,fun⟨br,M,bs,bt,af,bu,_⟩=>?_⟩
 ·exact Sd0 k fun _=>PP ⟨E,PQ h,rfl⟩
 ·refine Sd1 k bo fun _=>PK h Vq r r (Zq h.bd T o) ?_;intro _ _ bv bw bx;exact⟨E,⟨bv,bw⟩,bx⟩
 ·exact Sd0 k fun _=>PP ⟨E,PQ h,rfl⟩
 ·exact Sd0 k fun _=>PP ⟨E,PQ h,rfl⟩
 ·refine Jf k (aC bp<|aC bq aN) fun _=>P1 (SQ (j:=V.length) Y sl24 Js r r r o ?_);intro bz;exact⟨E,PQ h,bz⟩
 ·exact Sd0 k fun _=>PP ⟨E,PQ h,rfl⟩
 obtain⟨_,_,bA,M⟩:=RS.opn M;obtain⟨_,_,bB,af⟩:=RS.opn af;obtain⟨_,rfl⟩:=mixK k (aC br<|aC bA<|aC bs<|aC bt<|aC bB<|aC bu aN);refine Ol (PK h OQ r r (rW h.bd af (s:=s) Ww ac) ?_);intro _ _ aQ bC aR;obtain⟨_,_,rfl,_,_⟩:=aR.len;refine Ol (PK aQ Vq r r (Zq aQ.bd aR (by rw[Jt,To];omega)) ?_);intro _ _ ag bD aS;have M:=(M.sp bC).sp bD;obtain⟨_,_,rfl,_,_⟩:=aS.len;refine Oa (Ua<|PS<|Xi r r r ag ?_);refine⟨_,_,rfl,?_,?_⟩
 ·exact SX ((M:RS _ _ _ _ _).tr ag.wb)<|(dv_q hQs hbpos hN hlo)
 ·exact SX ((aS:RS _ _ _ _ _).tr ag.wb)<|(dv_r hLs hbpos o (by rw[←hVv];exact hVD) hN hlo)
end
theorem RV.int_small{X:Nat→Prop}{w:World}{v:Value}{a:GInt}(h:RV Z0 X w v a):Jr a.mag:=by
 obtain⟨_,_,rfl,b⟩:=RV.int h;exact b.u32_small
theorem yJ(sa:Jr a)(sb:Jr b):val a+val b<4294967296^(max a.length b.length+1):=by
 have d:=Yk a sa;have e:=Yk b sb;have g:4294967296^a.length≤4294967296^max a.length b.length:=TM o (Nat.le_max_left _ _);have h:4294967296^b.length≤4294967296^max a.length b.length:=TM o (Nat.le_max_right _ _);rw[TF];omega
section
variable{X:Nat→Prop}{w:World}(hX:XB X w)
include hX
theorem n7{y:Value}{a:GInt}(z:RV Z0 X w y a)(hl:a.mag.length≤1099511627776):CRt 182 #[y] w fun v w'=>RV Z0 X w' v (ofZ a.toZ):=by
 obtain⟨a1,A,rfl,h⟩:=RV.int z;have C:=PV hX;have sa:=z.int_small;refine Cgo Tryz.func182 r r r (Rg<|Ol<|QA C r ?_);intro B _ _ _ _ C9 D g;have h:=h.sp D;refine Ol (PU C9 io26 r ?_);intro _ _ _ _ _ E p i;refine Nl<|PT<|QL mixed 6 [[],[0],[],[2],[3],[4]] E [fx<|.pointer (some ⟨B,0,none⟩),fx<|.bool a.neg,fx<|.pointer (some ⟨B,1,none⟩),fx<|.slice a1 a.mag.length A,fs Jh<|trim a.mag,fs Jh<|trim a.mag] κ ⟨sx,sx,sx,sx,ss,ss,trivial⟩ fun F e _ ⟨b,j⟩ d=>?_
 have h:=(h.sp p).sp j;have g:=(g.spn p).spn j;have d:Keep [3,4,5,6,7,8] _ F:=d;refine⟨⟨fun _=>?_,fun⟨G,_⟩=>?_,fun _=>?_,fun⟨H,_⟩=>?_,fun⟨I,_⟩=>?_,fun⟨k,_⟩=>?_,trivial⟩,fun⟨J,K,L,M,s,l,_⟩=>?_⟩
 ·exact Sd0 d fun _=>PJ Xc r ⟨e,PQ b,rfl⟩
 ·exact Sd1 d G fun _=>PO g pl4 r r ⟨e,PQ b,rfl⟩
 ·exact Sd0 d fun _=>PJ Yu r ⟨e,PQ b,rfl⟩
 ·exact Sd1 d H fun _=>PO g pl24 r r ⟨e,PQ b,rfl⟩
 ·refine Sd1 d I fun _=>PK b Vq r r (Zq b.bd h o) ?_;intro _ _ N P Q;exact⟨e,⟨N,P⟩,Q⟩
 ·obtain⟨_,_,R,k⟩:=RS.opn k;refine Sd1 d R fun _=>PK b Ca r r (md b.bd k<|Tj (Jx _) o) ?_;intro _ _ S T U;exact⟨e,⟨S,T⟩,U⟩
 obtain⟨_,_,V,s⟩:=RS.opn s;obtain⟨_,_,Y,l⟩:=RS.opn l;obtain⟨_,rfl⟩:=mixK d (aC J<|aC K<|aC L<|aC M<|aC V<|aC Y aN);refine Ol (PK b zm r r (Yr b.bd l<|Tj (Jx _) o) ?_);intro _ _ Z aa ab;have i:=(i.spn j).spn aa;obtain⟨ac,ad,rfl,m⟩:=RV.int ab;refine On (Us (cs':=(zzC (mkSg a.neg<|trim a.mag) ac ad)) Z i io26 ?_);intro _ x ae af;have m:=m.sp ae;refine Nl (PS<|J1 r r af ag26 x ?_);exact SS (a:=(mkSg a.neg<|trim a.mag)) ((Jl m).tr x.wb)<|Y4 (Zo sa) (by rw[Kt];rfl)
theorem xn{j:Value}{a:GInt}(k:RV Z0 X w j a)(hl:a.mag.length≤1099511627776):CRt 171 #[j] w fun v _=>v=(.int .i64 a.toZ.sign):=by
 obtain⟨a1,x,rfl,i⟩:=RV.int k;have C:=PV hX;have sa:=k.int_small;refine Cgo Tryz.func171 r r r (Rg<|Ol<|QA C r ?_);intro _ _ _ _ _ l m e;have i:=i.sp m;refine Oa (Nl<|PT<|W.block<|Rg<|Ol<|PJ Yu rfl<|Ol<|PO e pl24 r rfl<|Ol<|PK l Vq r r (Zq l.bd i o) ?_);intro _ _ g p s;have e:=e.spn p;obtain⟨_,_,rfl,_,_⟩:=s.len;refine Ol<|St.len sl24 rfl<|Ol<|PW r r (fun b=>?_)<|fun b=>?_
 ·exact Ua<|Uf<|Ua<|PS<|Wq r r g<|YR<|(xN<|(X6 sa).1 o)
 refine Ua<|Ug<|Ol<|PJ Xc rfl<|Ol<|QF<|PO e pl4 r r ⟨_,rfl,fun d=>?_,fun d=>?_⟩
 ·exact Ua<|Uf<|Ua<|PS<|Wq r r g<|YR<|(pu d<|fun h=>b (by rw[(X6 sa).2 h];rfl))
 exact Ua<|Uc<|Rg<|Ua<|PS<|Wq r r g<|YR<|(DJ d<|fun h=>b (by rw[(X6 sa).2 h];rfl))
theorem wq{y:Value}{a:GInt}(z:RV Z0 X w y a)(hl:a.mag.length≤1099511627776):CRt 154 #[y] w fun v w'=>RV Z0 X w' v (ofZ (-a.toZ)):=by
 obtain⟨a1,A,rfl,h⟩:=RV.int z;have C:=PV hX;have sa:=z.int_small;refine Cgo Tryz.func154 r r r (Rg<|Ol<|QA C r ?_);intro B _ _ _ _ C9 D g;have h:=h.sp D;refine Ol (PU C9 io26 r ?_);intro _ _ _ _ _ E p i;refine Nl<|PT<|QL mixed 7 [[],[0],[1],[],[3],[4],[5]] E [fx<|.pointer (some ⟨B,0,none⟩),fx<|.bool a.neg,fx<|.bool (!a.neg),fx<|.pointer (some ⟨B,1,none⟩),fx<|.slice a1 a.mag.length A,fs Jh<|trim a.mag,fs Jh<|trim a.mag] κ ⟨sx,sx,sx,sx,sx,ss,ss,trivial⟩ fun F e _ ⟨b,j⟩ d=>?_
 have h:=(h.sp p).sp j;have g:=(g.spn p).spn j;have d:Keep [3,4,5,6,7,8,9] _ F:=d;refine⟨⟨fun _=>?_,fun⟨G,_⟩=>?_,fun⟨H,_⟩=>?_,fun _=>?_,fun⟨I,_⟩=>?_,fun⟨J,_⟩=>?_,fun⟨k,_⟩=>?_,trivial⟩,fun⟨K,L,M,N,P,s,l,_⟩=>?_⟩
 ·exact Sd0 d fun _=>PJ Xc r ⟨e,PQ b,rfl⟩
 ·exact Sd1 d G fun _=>PO g pl4 r r ⟨e,PQ b,rfl⟩
 ·exact Sd1 d H fun _=>QI r ⟨e,PQ b,rfl⟩
 ·exact Sd0 d fun _=>PJ Yu r ⟨e,PQ b,rfl⟩
 ·exact Sd1 d I fun _=>PO g pl24 r r ⟨e,PQ b,rfl⟩
 ·refine Sd1 d J fun _=>PK b Vq r r (Zq b.bd h o) ?_;intro _ _ Q R S;exact⟨e,⟨Q,R⟩,S⟩
 ·obtain⟨_,_,T,k⟩:=RS.opn k;refine Sd1 d T fun _=>PK b Ca r r (md b.bd k<|Tj (Jx _) o) ?_;intro _ _ U V Y;exact⟨e,⟨U,V⟩,Y⟩
 obtain⟨_,_,Z,s⟩:=RS.opn s;obtain⟨_,_,aa,l⟩:=RS.opn l;obtain⟨_,rfl⟩:=mixK d (aC K<|aC L<|aC M<|aC N<|aC P<|aC Z<|aC aa aN);refine Ol (PK b zm r r (Yr b.bd l<|Tj (Jx _) o) ?_);intro _ _ ab ac ad;have i:=(i.spn j).spn ac;obtain⟨ae,af,rfl,m⟩:=RV.int ad;refine On (Us (cs':=(zzC (mkSg (!a.neg)<|trim a.mag) ae af)) ab i io26 ?_);intro _ x ag ah;have m:=m.sp ag;refine Nl (PS<|J1 r r ah ag26 x ?_);exact SS (a:=(mkSg (!a.neg)<|trim a.mag)) ((Jl m).tr x.wb)<|Y4 (Zo sa) (by rw[Kt,BR];rfl)
theorem L5{a:GInt}(r0:RV Z0 X w v0 a){n:Bool}{v2:Value}(e:RS Jh X w v2 b)(hla:a.mag.length≤549755813888)(hb:trim b=b)(hlb:b.length≤549755813888):CRt 225 #[v0,(.bool n),v2] w fun v w'=>RV Z0 X w' v (ofZ (a.toZ+Yh n (val b))):=by
 obtain⟨a1,c2,rfl,Q⟩:=RV.int r0;obtain⟨a4,c5,rfl,_,_⟩:=e.len;have C:=PV hX;have sa:=r0.int_small;have sb:=e.u32_small;have tt:=Qr sa;have tl:=Jx a.mag;have tv:=Kt a.mag;have tb:¬cmpN (val<|trim a.mag) (val b)≥0→val a.mag≤val b:=fun h=>by rw[←tv];exact VI<|sG o
 have tg:cmpN (val<|trim a.mag) (val b)≥0→val b≤val (trim a.mag):=fun h=>rB o;have tll:val a.mag≤val b→(trim a.mag).length≤b.length:=fun h=>Q7 tt sb o;have tgl:val b≤val (trim a.mag)→b.length≤(trim a.mag).length:=fun h=>Q7 hb (Zo sa) h;refine Cgo Tryz.func225 r r r (Rg<|Ol<|QA C r ?_);intro g6 _ _ _ _ aj K g;have e:=e.sp K;refine Ol (PU aj io26 r ?_);intro _ _ _ _ _ L z d;have Q:=(Q.sp K).sp z;have g:=g.spn z;refine Nl (Rg<|Ol<|PJ Yu rfl<|Ol<|PO g pl24 r rfl<|Ol<|PK L Vq r r (Zq L.bd Q o) ?_);intro _ _ s A i;have e:=(e.sp z).sp A;have g:=g.spn A;have d:=d.spn A;obtain⟨ak,am,rfl,_,_⟩:=i.len;refine Ua<|Rh<|Ol<|PJ Xc rfl<|Ol<|PO g pl4 r rfl<|Ub<|QF<|S5 un4 r r r ⟨_,rfl,fun l=>?_,fun l=>?_⟩
 ·refine Nl (Uf<|Om<|Om<|Ub<|PK s JI r r (EJ s.bd i e o o) ?_);intro _ _ M an N;obtain⟨_,_,rfl,_,_⟩:=N.len;refine Ol (PK M zm r r (Yr M.bd N Wx) ?_);intro _ _ ao aq ar;have d:=(d.spn an).spn aq;obtain⟨au,av,rfl,B⟩:=RV.int ar;refine On (Us (cs':=(zzC (mkSg n<|Zc (max (trim a.mag).length b.length+1)<|val (trim a.mag)+val b) au av)) ao d io26 ?_);intro _ P aw ax;have B:=B.sp aw;refine Nl (PS<|J1 r r ax ag26 P ?_);exact SS (a:=(mkSg n<|Zc (max (trim a.mag).length b.length+1)<|val (trim a.mag)+val b)) ((Jl B).tr P.wb)<|Y4 (Zm _ _) (by rw[Yq _ _<|yJ (Zo sa) sb,tv];exact CG (by simpa using l))
 refine Nl (Uc<|Rh<|Om<|Ub<|PK s M1 r r (pF s.bd i e tt hb o o) ?_);intro _ _ D x ay;have e:=e.sp x;have i:=i.sp x;have d:=d.spn x;subst ay;refine Ol<|Ra r r (fun R=>?_)<|fun R=>?_
 ·refine Nl<|Ud<|PT<|QL mixed 5 [[],[0],[],[],[2,3]] D [fx<|.pointer (some ⟨g6,0,none⟩),fx<|.bool a.neg,fx<|.slice ak (trim a.mag).length am,fx<|.slice a4 b.length c5,fs Jh<|Zc (trim a.mag).length<|val (trim a.mag)-val b] κ ⟨sx,sx,sx,sx,ss,trivial⟩ fun az m _ ⟨j,y⟩ k=>?_
  have e:=e.sp y;have i:=i.sp y;have g:=(g.spn x).spn y;have k:Keep [24,25,26,27,28] _ az:=k;refine⟨⟨fun _=>?_,fun⟨aA,_⟩=>?_,fun _=>?_,fun _=>?_,fun⟨aB,aD,_⟩=>?_,trivial⟩,fun⟨aE,aF,aG,aH,E,_⟩=>?_⟩
  ·exact Sd0 k fun _=>PJ Xc r ⟨m,PQ j,rfl⟩
  ·exact Sd1 k aA fun _=>PO g pl4 r r ⟨m,PQ j,rfl⟩
  ·exact Sd0 k fun _=>PP ⟨m,PQ j,rfl⟩
  ·exact Sd0 k fun _=>PP ⟨m,PQ j,rfl⟩
  ·refine Jf k (aC aB<|aC aD aN) fun _=>P1 (PK j HS r r (A6 j.bd i e o (tgl<|tg o)<|tg o) ?_);intro _ _ aI aJ aK;exact⟨m,⟨aI,aJ⟩,aK⟩
  obtain⟨_,_,aL,E⟩:=RS.opn E;obtain⟨_,rfl⟩:=mixK k (aC aE<|aC aF<|aC aG<|aC aH<|aC aL aN);refine Ol (PK j zm r r (Yr j.bd E Wx) ?_);intro _ _ aM aO aP;have d:=(d.spn y).spn aO;obtain⟨aQ,aR,rfl,F⟩:=RV.int aP;refine On (Us (cs':=(zzC (mkSg a.neg<|Zc (trim a.mag).length<|val (trim a.mag)-val b) aQ aR)) aM d io26 ?_);intro _ G S T;have F:=F.sp S;refine Nl (PS<|J1 r r T ag26 G ?_);exact SS (a:=(mkSg a.neg<|Zc (trim a.mag).length<|val (trim a.mag)-val b)) ((Jl F).tr G.wb)<|Y4 (Zm _ _) (by rw[Yq _ _<|TS (VZ _ _)<|Yk _<|Zo sa,tv];exact NK (by simpa using l) (by rw[←tv];exact tg o))
 refine Nl (Uc<|Rg<|Om<|Om<|Ub<|PK D HS r r (A6 D.bd e i o (tll<|tb o) (by rw[tv];exact tb o)) ?_);intro _ _ H U I;obtain⟨_,_,rfl,_,_⟩:=I.len;refine Ol (PK H zm r r (Yr H.bd I Wx) ?_);intro _ _ V Y Z;have d:=(d.spn U).spn Y;obtain⟨aa,ab,rfl,p⟩:=RV.int Z;refine On (Us (cs':=(zzC (mkSg n<|Zc b.length<|val b-val (trim a.mag)) aa ab)) V d io26 ?_);intro _ J ac ad;have p:=p.sp ac;refine Nl (PS<|J1 r r ad ag26 J ?_);exact SS (a:=(mkSg n<|Zc b.length<|val b-val (trim a.mag))) ((Jl p).tr J.wb)<|Y4 (Zm _ _) (by rw[Yq _ _<|TS (VZ _ _)<|Yk _ sb,tv];exact Lx (by simpa using l)<|tb o)
end
end Go.Wf
