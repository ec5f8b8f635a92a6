/- Part 6 of the texts for the claim. -/
import Derived.Test.YtjiojpmoleilgaaGreatDoorPrints5
set_option linter.unusedVariables false
set_option linter.unusedSimpArgs false
set_option maxRecDepth 100000
set_option maxHeartbeats 4000000
noncomputable section
namespace Go.Wf
open Go Go.Proofs Go.RowKit
theorem Ju0{a:GExpr}(h:SgS a∧(sgE a).length≤1000):∀ i,i < [a].length→SgS ([a].getD i default)∧(sgE ([a].getD i default)).length≤1000:=by
 intro i hi
 have:i=0:=by simp at hi;exact hi
 subst this;exact h
theorem Jzf{X:Nat→Prop}{w:World}(hX:XB X w){v0:Value}{a:GExpr}(r0:RV Jf X w v0 a)(hlw:(wrE a).length≤1000)(hal:a.args.length≤100)(hG:a.op=10→∀ i,i < a.args.length→SgS (Ar a i)∧(sgE (Ar a i)).length≤1000)(hN:¬ a.op=10→SgS a∧(sgE a).length≤1000):CRt 39 #[v0] w fun v w'=>v=(str (wrE a)):=by
 obtain⟨a1,A,B,D,E,F,r,s,rfl,d⟩:=J8e r0;have C:=J4z hX;refine Cgo (args:=[(ea a a1 A B D E F r s)]) Tryz.func39 rfl rfl rfl (Rg<|Ol<|J5a C rfl ?_);intro Z aK aL aM aI ar au m;replace d:=d.sp au;refine Oa (Nl<|Rg<|Ol<|Uo (vs:=(ec a a1 A B D E F r s)) m ag31<|Ol<|J5f (T:=Jf) (css:=[(ec a a1 A B D E F r s)]) (l:=[a]) ar sl29 io31 (by decide) (by decide) rfl (by kernel_rfl) ⟨(Zm a d.lo d.hi d.name d.n d.num d.den d.args),trivial⟩ ?_);intro av aO aa ab aw;replace d:=d.sp ab;replace m:=m.spn ab;refine Ua<|J40<|J55 (fun f v=>∃ (x y:Nat→Prop) (l:List GExpr) (la:Option Addr) (lc:Nat),Cx X w x y v∧f 2=(str [])∧f 3=(.slice la l.length lc)∧ExprParts x v a a1 A B D E F r s∧RS Jf x v (.slice la l.length lc) l∧Own w y v Z (ec a a1 A B D E F r s) 31∧[]++sumX 0 (l.drop 0)=wrE a∧(∀ i,i < l.length→SgS (l.getD i default)∧(sgE<|l.getD i default).length≤1000)∧l.length≤100) ?_ ?_
 ·refine Rg<|Ol<|J4o Js rfl<|Ol<|J4t m pl3 rfl rfl<|Ol<|J42 rfl rfl (fun o=>?_)<|fun o=>?_
  ·refine Nl<|Uk<|Ol<|J4o J1 rfl<|Ol<|J4t m pl29 rfl rfl<|Ua<|⟨_,_,a.args,r,s,aa,rfl,rfl,d,d.args,m,(Jkm o),(hG o),(by omega)⟩
  refine Nl<|Uc<|⟨_,_,[a],(some ⟨av,0,none⟩),1,aa,rfl,rfl,d,aw,m,(su_w o),(Ju0<|hN o),(by rw [J82];decide)⟩
 rintro aP aQ ⟨aR,aS,l,la,lc,ax,ac,ad,d,e,ay,az,hGl,hll⟩;obtain⟨aT,rfl⟩:=rebK (aC ac<|aC ad aN);clear ac ad;refine Rg (Ua<|Rh<|Ub<|St.len sl29 rfl<|Om<|Nl<|W.block<|J5e (fun μ f v=>∃ (x y:Nat→Prop) (i:Nat) (out:List UInt8),Cx X w x y v∧f 2=(str [])∧f 16=(.slice la l.length lc)∧f 17=(.int .i64 ((l.length:Nat):Int))∧f 18=(.int .i64 ((i:Nat):Int))∧f 4=(str out)∧ExprParts x v a a1 A B D E F r s∧RS Jf x v (.slice la l.length lc) l∧Own w y v Z (ec a a1 A B D E F r s) 31∧i≤l.length∧out++sumX i (l.drop i)=wrE a∧(i=0→out=[])∧μ=(l.length - i)) _ ⟨_,_,0,[],ax,rfl,rfl,rfl,rfl,rfl,d,e,ay,(J9h _),az,(fun _=>rfl),rfl⟩ ?_);rintro aU aV aW ⟨aX,aY,i,out,ae,af,ag,ah,ai,aj,d,e,g,hi,hM,ho,aG⟩;obtain⟨aZ,rfl⟩:=rebK (aC af<|aC ag<|aC ah<|aC ai<|aC aj aN);clear af ag ah ai aj;refine Rg<|Ol<|J5c rfl rfl (fun an=>?_)<|fun an=>?_
 ·refine Nl (J40<|Ud<|J4v<|J40<|W.block<|Rg<|Ub<|J49 (j:=i) (u:=(l.getD i default)) e sl29 io31 rfl rfl rfl (Jc (by omega)) ?_);intro a0 a4 aJ ak;obtain⟨L,M,N,P,Q,R,S,U,rfl,V⟩:=Jd ak.rd;refine Ol (J5l (cs:=(ec (l.getD i default) L M N P Q R S U)) ag31 rfl rfl ak.cell<|Ol<|J41 ae io31 rfl ?_);intro a6 a8 a9 ba ao aA I aB;have aD:=ao _ g.blk.lt;replace d:=d.sp I;replace e:=e.sp I;replace g:=g.spn I;refine Oa (On<|Us (cs':=(ec (l.getD i default) L M N P Q R S U)) aA aB io31 ?_);intro bb am J aE;replace V:=(V.sp I).sp J;refine Nl (Rg<|Ol<|Uo (vs:=(ec (l.getD i default) L M N P Q R S U)) aE ag31<|Ol<|J4p am cb73 rfl rfl ((hGl i (by omega)).1 am.bd (Mx (l.getD i default) V)) ?_);intro bc be K Y aF;replace d:=(d.sp J).sp Y;replace e:=(e.sp J).sp Y;replace g:=(g.spo J aD).spn Y;obtain⟨bf,bg,rfl,rfl,rfl⟩:=aF;refine Ub<|St.extract rfl rfl<|Ol<|St.extract rfl rfl<|Oa<|Ua<|J40<|W.block<|Rg<|Ub<|J42 rfl rfl (fun p=>?_)<|fun p=>?_
  ·refine Om<|OgD<|J5h<|J4x ⟨_,rfl,fun G=>?_,fun G=>?_⟩
   ·refine OT (Ua<|Uk<|Ua<|J4u<|Om<|Ub<|J43 rfl rfl (by have:=Q5 hM hlw;have:=(hGl i (by omega)).2;(try simp only [J8z,J80,J81]);omega)<|Ua<|J4u<|Ol<|St.add rfl rfl (Ja (a:=i) (b:=1) (by omega)) ?_);refine Om<|Nl<|⟨_,(by omega),_,_,(i+1),([45]++(sgE<|l.getD i default)),K,rfl,rfl,rfl,rfl,rfl,d,e,g,(by omega),(Jp3 hM (by omega) p ho G),(fun h=>absurd h<|Nat.succ_ne_zero _),rfl⟩
   refine OT (Ua<|Ug<|Ub<|J6a (t:=false) rfl rfl (J83 (by omega))<|Om<|Oz<|OF<|Ua<|Ug<|Ub<|J6a (t:=false) rfl rfl (J83 (by omega)) ?_);refine Oa (Nl<|Uc<|J4u<|Om<|Ub<|J43 rfl rfl (by have:=Q5 hM hlw;have:=(hGl i (by omega)).2;(try simp only [J8z,J80,J81]);omega)<|Ua<|J4u<|Ol<|St.add rfl rfl (Ja (a:=i) (b:=1) (by omega))<|Om ?_);refine Nl<|⟨_,(by omega),_,_,(i+1),(out++(sgE<|l.getD i default)),K,rfl,rfl,rfl,rfl,rfl,d,e,g,(by omega),(Jpa hM (by omega) p G),(fun h=>absurd h<|Nat.succ_ne_zero _),rfl⟩
  refine Om<|Oz<|OF<|Ua<|Ug<|Ub<|J6a (t:=true) rfl rfl (J84 (by omega))<|Om<|OgD<|J5h<|J4x ⟨_,rfl,fun H=>?_,fun H=>?_⟩
  ·refine OT (Ua<|Uk<|Ub<|J43 rfl rfl (by have:=Q5 hM hlw;have:=(hGl i (by omega)).2;(try simp only [J8z,J80,J81]);omega)<|Ua<|J4u<|Om<|Ub<|J43 rfl rfl (by have:=Q5 hM hlw;have:=(hGl i (by omega)).2;(try simp only [J8z,J80,J81]);omega) ?_);refine Ua<|J4u<|Ol<|St.add rfl rfl (Ja (a:=i) (b:=1) (by omega))<|Om<|Nl<|⟨_,(by omega),_,_,(i+1),((out++[32,45,32])++(sgE<|l.getD i default)),K,rfl,rfl,rfl,rfl,rfl,d,e,g,(by omega),(Jou hM (by omega) p H),(fun h=>absurd h<|Nat.succ_ne_zero _),rfl⟩
  refine OT (Ua<|Ug<|Ub<|J6a (t:=true) rfl rfl (J84 (by omega))<|Ua<|Uk<|Ub<|J43 rfl rfl (by have:=Q5 hM hlw;have:=(hGl i (by omega)).2;(try simp only [J8z,J80,J81]);omega) ?_);refine Oa (Nl<|J4u<|Om<|Ub<|J43 rfl rfl (by have:=Q5 hM hlw;have:=(hGl i (by omega)).2;(try simp only [J8z,J80,J81]);omega)<|Ua<|J4u<|Ol<|St.add rfl rfl (Ja (a:=i) (b:=1) (by omega))<|Om<|Nl ?_);refine⟨_,(by omega),_,_,(i+1),((out++[32,43,32])++(sgE<|l.getD i default)),K,rfl,rfl,rfl,rfl,rfl,d,e,g,(by omega),(Jpm hM (by omega) p H),(fun h=>absurd h<|Nat.succ_ne_zero _),rfl⟩
 exact Nl<|J40<|Ue<|J5i<|Rg<|Om<|Ua<|J4y<|Wq rfl rfl ae<|J87 (str)<|(Jjm hM (by omega))
theorem c_PrS{X:Nat→Prop}{w:World}(hX:XB X w){e:Value}{a:GExpr}(E:RV Jf X w e a)(hok:okE a)(hck:Zs a=0)(hW:WrS a)(hlw:(wrE a).length≤1000):CRt 14 #[e] w fun v w'=>(∃ e x,v= .tuple #[e,x]∧(e=(str (wrE a)))∧(x=(.int .i64 0))):=by
 obtain⟨a1,j,l,m,o,p,r,s,rfl,d⟩:=J8e E;have C:=J4z hX;refine Cgo (args:=[(ea a a1 j l m o p r s)]) Tryz.func14 rfl rfl rfl (Rg<|Ol<|J5a C rfl ?_);intro G H I J F g y b;replace d:=d.sp y;refine Oa (Ua<|Rh<|Ol<|Uo (vs:=(ec a a1 j l m o p r s)) b ag31<|Ol<|J4p g cb20 rfl rfl (Jfa g.bd (Mx a d) hok) ?_);intro K L h i A;replace d:=d.sp i;replace b:=b.spn i;subst A;refine Oa (Nl<|Rg<|Ub<|J58 (t:=false) rfl rfl (by rw [J84 hck];rfl)<|Nl<|Uc<|Rg<|Ol<|Uo (vs:=(ec a a1 j l m o p r s)) b ag31<|Ol<|J4p h cb39 rfl rfl (hW h.bd<|Mx a d) ?_);intro M N B P D;subst D;refine Oa (Nl<|Rh<|Ub<|J5x un9 rfl<|Ol<|J6a (t:=false) rfl rfl (J83 (by omega))<|Nl<|Uc<|Rg<|Om<|Oa<|Ua<|J4y<|J9 rfl (J8d rfl) (J8d rfl)<|J4w ?_ B.below);refine⟨_,_,rfl,?_,?_⟩
 ·skip
  rfl
 ·skip
  rfl
theorem itl{n:Int}(a: -100 < n)(b:n < 100):(Lib.itoa n).length≤3:=by
 have:=Jbq n 1 (by omega)
 omega
section
variable {k n:Int} (hk:0≤k∧k < 100) (hn:0≤n∧n < 100)
theorem plE_E:plE (eOp 2 [k] [])=[69]++Lib.itoa k:=(pl_2 rfl).symm
theorem Jvw:sgE (eOp 2 [k] [])=[69]++Lib.itoa k∧miE (eOp 2 [k] [])=false:=by
 have h:=zj (a:=eOp 2 [k] []) (by show ¬ (2:Int)=10;decide) rfl (by show ¬ (2:Int)=11;decide);exact⟨h.1.trans plE_E,h.2⟩
theorem Jvm:wrE (eOp 2 [k] [])=[69]++Lib.itoa k:=by
 rw [Jaa (by show ¬ (2:Int)=10;decide),Jvw.1,Jvw.2];rfl
theorem J0b:okE (eOp 2 [k] []):=Jsw trivial
include hk in
theorem wr_E:WrS (eOp 2 [k] []):=by
 have hl:=itl (n:=k) (by omega) (by omega);have pl:PlS (eOp 2 [k] []):=fun {X w} hX {v} r=>Jzr hX r (.inl rfl) (by show 0 < 1;decide) hk (fun h=>absurd h (by show ¬ (2:Int)=12;decide));have sg:SgS (eOp 2 [k] []):=fun {X w} hX {v} r=>Jq6 hX r (.inr rfl) J0b pl;refine fun {X w} hX {v} r=>Jzf hX r ?_ (by show 0≤100;decide) (fun h=>absurd h (by show ¬ (2:Int)=10;decide))<|fun _=>⟨sg,?_⟩
 ·rw [Jvm,J8z,J82];omega
 ·rw [Jvw.1,J8z,J82];omega
theorem Jv7:plE (eOp 12 [n] [eOp 2 [k] []])=(([69]++Lib.itoa k)++[94])++Lib.itoa n:=by
 rw [← Jez (a:=eOp 12 [n] [eOp 2 [k] []]) (t:=wrE<|eOp 2 [k] []) rfl (by show 0 < 1;decide) (bs_f (by show ¬ ((2:Int)=10∨(2:Int)=11∨(2:Int)=12∨(2:Int)=1);decide)),Jvm];rfl
theorem sgE_P:sgE (eOp 12 [n] [eOp 2 [k] []])=(([69]++Lib.itoa k)++[94])++Lib.itoa n∧miE (eOp 12 [n] [eOp 2 [k] []])=false:=by
 have h:=zj (a:=eOp 12 [n] [eOp 2 [k] []]) (by show ¬ (12:Int)=10;decide) rfl (by show ¬ (12:Int)=11;decide);exact⟨h.1.trans Jv7,h.2⟩
theorem okE_P:okE (eOp 12 [n] [eOp 2 [k] []]):=Jsw ⟨J0b,trivial⟩
include hk hn in
theorem pl_P:PlS (eOp 12 [n] [eOp 2 [k] []])∧(plE (eOp 12 [n] [eOp 2 [k] []])).length≤1000:=by
 have hl:=itl (n:=k) (by omega) (by omega);have a:=itl (n:=n) (by omega) (by omega);refine⟨fun {X w} hX {v} r=>Jzr hX r (.inr rfl) (by show 0 < 1;decide) hn<|fun _=>⟨by show 0 < 1;decide,wr_E hk,?_,rfl⟩,?_⟩
 ·show(wrE<|eOp 2 [k] []).length≤1000
  rw [Jvm,J8z,J82];omega
 ·rw [Jv7];simp only [J8z,J82];omega
include hk hn in
theorem sg_P:SgS (eOp 12 [n] [eOp 2 [k] []])∧(sgE (eOp 12 [n] [eOp 2 [k] []])).length≤1000:=by
 refine⟨fun {X w} hX {v} r=>Jq6 hX r (.inl rfl) okE_P (pl_P hk hn).1,?_⟩
 have:=(pl_P hk hn).2
 rw [sgE_P.1,← Jv7];exact this
end
theorem qm1: -(ofQ (Rat.divInt (-1) 1)).q=1:=by rw [Yb];rfl
theorem sg_Ap:SgS eAp∧(sgE eAp).length≤1000:=by
 have hp:=pl_P (k:=6) (n:=2) ⟨by decide,by decide⟩ ⟨by decide,by decide⟩;have hok:okE eAp:=xq (i:=1) okA1 (by show 1 < 2;decide);have e:sgE eAp=plE eA2:=by
  have h:=Jfd (a:=eAp) rfl (by show 2≤2;decide) (ngm rfl qm1) qm1 (by show ¬ (12:Int)=1;decide);rw [h]
  show Lib.join [(txE eA2).f] [42]=_
  rw [Lib.join_one,← fa_0 (by show ¬ (12:Int)=10;decide) (by show ¬ (12:Int)=11;decide) rfl]
 have hl:(sgE eAp).length≤1000:=by rw [e];exact hp.2
 exact⟨fun {X w} hX {v} r=>Jxv hX r rfl hok rfl rfl qm1 ⟨Zx _,Zx _⟩ rfl hp.1 hp.2 hl,hl⟩
theorem wr_A1:WrS eA1:=by
 refine fun {X w} hX {v} r=>Jzf hX r (by rw [wrA1];decide) (by show 2≤100;decide) (fun _ i hi=>?_) (fun h=>absurd rfl h);have hi:i < 2:=hi
 rcases(by omega:i=0∨i=1) with rfl | rfl
 ·exact sg_P (k:=4) (n:=3) ⟨by decide,by decide⟩ ⟨by decide,by decide⟩
 ·exact sg_Ap
abbrev P3(a:GExpr)(n e:Int)(X:Nat→Prop)(w:World):Ending→World→Prop:=Ret w fun v w'=>∃ v0 v1 v2,v= .tuple #[v0,v1,v2]∧(RV Jf X w' v0 a)∧(v1= .int .i64 n)∧(v2= .int .i64 e)
theorem pA1{X:Nat→Prop}{w:World}(hX:XB X w):Calls Tryz.prog 10 #[str tA1] w (P3 eA1 0 0 X w):=by
 have h:=Jb9 hX (s:=tA1) (by decide) rfA1 rkA1;rw [paA1] at h;exact h
theorem pA2{X:Nat→Prop}{w:World}(hX:XB X w):Calls Tryz.prog 10 #[str tA2] w (P3 Vj 4 19 X w):=by
 have h:=Jb9 hX (s:=tA2) (by decide) rfA2 rkA2;rw [paA2] at h;exact h
theorem pA3{X:Nat→Prop}{w:World}(hX:XB X w){v:Value}(d:RV Jf X w v eA1):Calls Tryz.prog 14 #[v] w (Ret w fun v' w'=>∃ a b,v'= .tuple #[a,b]∧(a=str tA1)∧(b= .int .i64 0)):=by
 have h:=c_PrS hX d okA1 ckA1 wr_A1 (by rw [wrA1];decide);rw [wrA1] at h;exact h
theorem Jfr{X:Nat→Prop}{w:World}(hX:XB X w)   :CRt 9 #[] w fun v w'=>v=(.bool true):=by
 have C:=J4z hX;refine Cgo (args:=[]) Tryz.func9 rfl rfl rfl (Rg<|Ua<|Rg<|Ol<|J4p C cb10 rfl rfl (pA1 C.bd) ?_);intro v1 w2 S s4 T;obtain⟨v6,v7,v8,rfl,U,rfl,rfl⟩:=T;obtain⟨d,e,g,h,i,j,l,m,rfl,a⟩:=J8e U;refine Om (Ol<|St.extract rfl rfl<|Ol<|St.extract rfl rfl<|Ol<|St.extract rfl rfl<|Ol<|J41 S io31 rfl ?_);intro Z aa ab ac V r s x;refine On (Us (cs':=(ec eA1 d e g h i j l m)) r x io31 ?_);intro ad o y A;replace a:=(a.sp s).sp y;refine Oa (Ua<|Rg<|Ol<|Uo (vs:=(ec eA1 d e g h i j l m)) A ag31<|Ol<|J4p o cb14 rfl rfl (pA3 o.bd<|Mx eA1 a) ?_);intro ae af p ag B;obtain⟨ah,ai,rfl,rfl,rfl⟩:=B;refine Om (Ol<|St.extract rfl rfl<|Ol<|St.extract rfl rfl<|Oa<|Ua<|Rg<|Ol<|J4p p cb10 rfl rfl (pA2 p.bd) ?_);intro aj ak D am E;obtain⟨an,ao,aq,rfl,F,rfl,rfl⟩:=E;obtain⟨G,H,I,J,K,L,M,N,rfl,ar⟩:=J8e F;refine Om (Ol<|St.extract rfl rfl<|Ol<|St.extract rfl rfl<|Ol<|St.extract rfl rfl<|Ol<|J41 D io31 rfl ?_);intro au av aw ax Y P ay Q;refine On (Us (cs':=(ec Vj G H I J K L M N)) P Q io31 ?_);intro az R aA aB;refine Oa (Ua<|Rg<|Ub<|J5y (t:=true) rfl rfl (J84 rfl)<|Om<|OgD<|J4x<|OgD<|J5y (t:=true) rfl rfl (J84 rfl)<|OT<|Om<|OgD<|J4x<|OgD<|J5y (t:=true) rfl rfl (J84 rfl) ?_);refine OT (Om<|OgD<|J4x<|OgD<|J5u rfl rfl (fun b=>?_)<|fun b=>absurd rfl b);refine OT<|Om<|OgD<|J4x<|OgD<|J5y (t:=true) rfl rfl (J84 rfl)<|OT<|Om<|OgD<|J4x<|OgD<|J5y (t:=true) rfl rfl (J84 rfl)<|OT<|Ua<|J4y<|Ju rfl (J8d rfl)<|J4w ?_ R.below
 rfl
end Go.Wf
namespace Go.Wf
open Go Go.Lib
def db(u:By):By:=u.dropWhile fun c=>decide (c.toNat=32)
def Yt(s:By)(p:Nat)(t:By):Prop:=s.drop (spM s p)=t
def hd0(t:By):Nat:=(t.getD 0 0).toNat
theorem Jmp{α:Type}(f:α→Bool):∀ l:List α,l.dropWhile f=l.drop (l.takeWhile f).length
 | []=>rfl
 | a::l=>by
  rw [List.dropWhile_cons,List.takeWhile_cons]
  split
  ·rw [J80,List.drop_succ_cons,Jmp f l]
  ·rfl
section
variable {s t u v w:By} {p q c:Nat}
theorem Yt.of(h:s.drop q=u):Yt s q (db u):=by
 unfold Yt db spM;rw [Jmp,← h,List.drop_drop]
theorem Yt.len(h:Yt s p t):t.length+spM s p≤s.length∨t=[]:=by
 unfold Yt at h
 rcases J9w (spM s p) s.length with h1 | h1
 ·left;rw [← h,J9a];omega
 ·right;rw [← h,J9s h1]
theorem Yt.le(h:Yt s p t):t.length≤s.length:=by unfold Yt at h;rw [← h,J9a];omega
theorem Yt.hd(h:Yt s p t):hdM s p=hd0 t:=by
 unfold Yt at h;unfold hdM hd0;rw [← h,J9d,J9d,List.getElem?_drop,Nat.add_zero]
theorem Yt.sp(h:Yt s p t):Yt s (spM s p) t:=by unfold Yt at *;rw [Jih];exact h
theorem Yt.lt{b:UInt8}(h:Yt s p (b::t)):spM s p < s.length:=by
 unfold Yt at h
 rcases J9w (spM s p) s.length with h1 | h1
 ·exact h1
 ·rw [J9s h1] at h;cases h
theorem Yt.fol(h:Yt s p t)(hc:0 < c):folB s p c=decide (hd0 t=c):=by
 cases t with
 | nil=>
  have h1:s.length≤spM s p:=by
   unfold Yt at h;exact List.drop_eq_nil_iff.1 h
  rw [Jpi (fun k=>by omega),J83]
  show ¬ (0:Nat)=c
  omega
 | cons b t=>
  have h1:=h.lt;have h2:=h.hd
  by_cases hb:hd0 (b::t)=c
  ·rw [Jz0 h1 (by rw [h2];exact hb),J84 hb]
  ·rw [Jpi (fun k=>hb (by rw [← h2];exact k.2)),J83 hb]
theorem Yt.nx{b:UInt8}(h:Yt s p (b::t)):s.drop (spM s p+1)=t:=by
 unfold Yt at h;rw [← List.drop_drop,h];rfl
theorem Yt.next{b:UInt8}(h:Yt s p (b::t)):Yt s (spM s p+1) (db t):=Yt.of h.nx
theorem Yt.mv(h:Yt s p (u++t)):s.drop (spM s p+u.length)=t:=by
 unfold Yt at h;rw [← List.drop_drop,h,List.drop_left]
theorem Y8(h:hd0 t≠32):db t=t:=by
 cases t with
 | nil=>rfl
 | cons b t=>unfold db;rw [List.dropWhile_cons,if_neg (by rw [decide_eq_true_eq];exact h)]
theorem Jh9:db (32::t)=db t:=by unfold db;rw [List.dropWhile_cons,if_pos (by decide)]
def Rds{α:Type}(s:By)(x:Rr α)(a:α)(t:By):Prop:=∃ q,x= .ok a q∧Yt s q t
theorem Rds.th{α β:Type}{x:Rr α}{f:α→Nat→Rr β}{a:α}{b:β}{t t':By}(h:Rds s x a t)(hf:∀ q,Yt s q t→Rds s (f a q) b t'):Rds s (x.th f) b t':=by
 obtain⟨q,rfl,hq⟩:=h;exact hf q hq
theorem Rds.ok{α:Type}{a:α}(h:Yt s p t):Rds s (.ok a p) a t:=⟨p,rfl,h⟩
theorem Jaf{b:UInt8}(h:Yt s p (b::t))(hc:b.toNat=c)(h0:0 < c):Rds s (tkM s p c) () (db t):=by
 unfold tkM;rw [h.fol h0,J84 (show hd0 (b::t)=c from hc),if_pos rfl];exact Rds.ok h.next
theorem Jba{o:Nat}(h:Yt s p (40::t))(ho:o < 64):Rds s (opnM s o p) () (db t):=by
 unfold opnM;rw [h.fol (by decide),J84 (show hd0 (40::t)=40 from rfl),if_pos rfl,if_neg (by omega)];exact Rds.ok h.next
theorem Jr3{f:UInt8→Bool}(hu:∀ c ∈ u,f c=true)(ht:∀ b r,t=b::r→f b=false):(u++t).takeWhile f=u:=by
 induction u with
 | nil=>
  cases t with
  | nil=>rfl
  | cons b r=>rw [J9t,List.takeWhile_cons,if_neg (by rw [ht b r rfl];decide)]
 | cons a u ih=>
  rw [List.cons_append,List.takeWhile_cons,if_pos (hu a (by simp)),ih fun c hc=>hu c (by simp [hc])]
def nok(f:UInt8→Bool)(t:By):Prop:=∀ b r,t=b::r→f b=false
theorem Jde(h:Yt s p (u++t))(h0:u≠[])(hu:∀ c ∈ u,digB c=true)(ht:nok digB t):Rds s (dgsM s p) u (db t):=by
 have e:digL s (spM s p)=u:=by
  unfold digL;have h:=h;unfold Yt at h;rw [h,Jr3 hu ht]
 unfold dgsM;rw [e,if_neg h0];exact Rds.ok (Yt.of h.mv)
theorem wd_at(h:Yt s p (u++t))(hu:∀ c ∈ u,okB c=true)(ht:nok okB t):Zo s (spM s p)=u:=by
 unfold Zo;have h:=h;unfold Yt at h;rw [h,Jr3 hu ht]
theorem Ji7:∀ (k n:Nat),n < 10 ^ (k+1)→∀ c ∈ decDigits n,digB c=true
 | 0,n,h,c,hc=>by
  have h:n < 10:=by simpa using h
  rw [decDigits_one h,List.mem_singleton] at hc;subst hc;exact dg48 h
 | k+1,n,h,c,hc=>by
  rw [J9p] at h;rw [decDigits] at hc
  split at hc
  ·rename_i h1;rw [List.mem_singleton] at hc;subst hc;exact dg48 h1
  ·rw [List.mem_append,List.mem_singleton] at hc
   rcases hc with hc | rfl
   ·exact Ji7 k (n / 10) (by omega) c hc
   ·exact dg48 (J9c _ (by decide))
where
 dg48 {n:Nat} (h:n < 10):digB (UInt8.ofNat (48+n))=true:=by
  have e:(UInt8.ofNat (48+n)).toNat=48+n:=UInt8.toNat_ofNat_of_lt' (by show 48+n < 256;omega);unfold digB Yn;rw [e];exact J84 (by omega)
theorem Jqe(n:Nat):n < 10 ^ (n+1):=by
 induction n with
 | zero=>decide
 | succ n ih=>rw [J9p];omega
theorem qk{n:Nat}:∀ c ∈ decDigits n,digB c=true:=Ji7 n n (Jqe n)
theorem Jeb(n:Nat):decDigits n≠[]:=by
 rw [decDigits];split <;> simp
theorem Jyd(u:By)(c:UInt8):Jm (u++[c])=Jm u * 10+(c.toNat - 48):=by unfold Jm;rw [List.foldl_append];rfl
theorem Jke:∀ (k n:Nat),n < 10 ^ (k+1)→Jm (decDigits n)=n
 | 0,n,h=>by
  have h:n < 10:=by simpa using h
  rw [decDigits_one h]
  show 0 * 10+((UInt8.ofNat (48+n)).toNat - 48)=n
  rw [UInt8.toNat_ofNat_of_lt' (by show 48+n < 256;omega)];omega
 | k+1,n,h=>by
  rw [J9p] at h;rw [decDigits]
  split
  ·rename_i h1
   show 0 * 10+((UInt8.ofNat (48+n)).toNat - 48)=n
   rw [UInt8.toNat_ofNat_of_lt' (by show 48+n < 256;omega)];omega
  ·rw [Jyd,Jke k (n / 10) (by omega),UInt8.toNat_ofNat_of_lt' (by show 48+n % 10 < 256;omega)];omega
theorem xu(n:Nat):Jm (decDigits n)=n:=Jke n n (Jqe n)
theorem Jxl{c:UInt8}(h:digB c=true):48≤c.toNat∧c.toNat≤57:=of_decide_eq_true h
theorem Jil(n:Nat):∃ c r,decDigits n=c::r∧48≤c.toNat∧c.toNat≤57:=by
 cases h:decDigits n with
 | nil=>exact absurd h (Jeb n)
 | cons c r=>exact⟨c,r,rfl,Jxl (qk c (by rw [h];simp))⟩
theorem Jam{n:Int}(h:Yt s p (itoa n++t))(ht:nok digB t)(h0: -1000000≤n)(h1:n≤1000000):Rds s (intM s p) n (db t):=by
 unfold intM
 by_cases hn:n < 0
 ·have e:itoa n=45::decDigits n.natAbs:=by unfold itoa;rw [if_pos hn]
  rw [e,List.cons_append] at h;have hf:folB s p 45=true:=by rw [h.fol (by decide)];rfl
  have e2:fpM s p 45=spM s p+1:=by unfold fpM;rw [if_pos hf]
  obtain⟨c,r,ec,hc1,hc2⟩:=Jil n.natAbs;have h2:Yt s (fpM s p 45) (decDigits n.natAbs++t):=by
   have h3:=h.next;rw [Y8 (by rw [ec];show c.toNat≠32;omega)] at h3;rw [e2];exact h3
  refine(Jde h2 (Jeb _) qk ht).th fun q hq=>?_
  rw [xu,if_neg (by omega),hf,if_pos rfl]
  have: -((n.natAbs:Nat):Int)=n:=by omega
  rw [this];exact Rds.ok hq
 ·have e:itoa n=decDigits n.toNat:=by unfold itoa;rw [if_neg hn]
  rw [e] at h;obtain⟨c,r,ec,hc1,hc2⟩:=Jil n.toNat;have hf:folB s p 45=false:=by
   rw [h.fol (by decide),ec];exact J83 (by show ¬ c.toNat=45;omega)
  have e2:fpM s p 45=spM s p:=by unfold fpM;rw [if_neg (by rw [hf];decide)]
  rw [e2]
  refine(Jde h.sp (Jeb _) qk ht).th fun q hq=>?_
  rw [xu,if_neg (by omega),hf,if_neg (by decide)]
  have:((n.toNat:Nat):Int)=n:=by omega
  rw [this];exact Rds.ok hq
def Q4:List Int→By
 | []=>[]
 | n::l=>[44,32]++itoa n++Q4 l
theorem vy{f:UInt8→Bool}{b:UInt8}(h:f b=false):nok f (b::t):=fun c r e=>by cases e;exact h
theorem Jco(n:Int):∃ c r,itoa n=c::r∧c.toNat≠32:=by
 unfold itoa
 split
 ·exact⟨45,_,rfl,by decide⟩
 ·obtain⟨c,r,e,h1,h2⟩:=Jil n.toNat;exact⟨c,r,e,by omega⟩
theorem Jgh{l:List Int}{b:UInt8}(hb:digB b=false):nok digB (Q4 l++b::t):=by
 cases l with
 | nil=>exact vy hb
 | cons n l=>exact vy (by decide)
theorem Jf4{b:UInt8}(hb:digB b=false)(h44:b.toNat≠44)(h32:b.toNat≠32)(hb0:0 < b.toNat):∀ (l acc:List Int) (k p:Nat),l.length < k→Yt s p (Q4 l++b::t)→(∀ n ∈ l,-1000000≤n∧n≤1000000)→Rds s (Q3 s b.toNat k acc p) (acc++l) (db t)
 | l,acc,0,p,hk,_,_=>absurd hk (J9m _)
 | [],acc,k+1,p,_,h,_=>by
  unfold Q3;rw [h.fol (by decide),J83 (show ¬ hd0 (Q4 []++b::t)=44 from h44),if_neg (by decide),J92]
  exact(Jaf h rfl hb0).th fun q hq=>Rds.ok hq
 | n::l,acc,k+1,p,hk,h,hr=>by
  unfold Q3;have h':Yt s p (44::32::(itoa n++(Q4 l++b::t))):=by simpa [Q4] using h
  rw [h'.fol (by decide),J84 (show hd0 (44::_)=44 from rfl),if_pos rfl];obtain⟨c,r,ec,hc⟩:=Jco n;have h2:=h'.next;rw [Jh9,Y8 (by rw [ec];exact hc)] at h2
  refine(Jam h2 (Jgh hb) (hr n (by simp)).1 (hr n (by simp)).2).th fun q hq=>?_
  rw [Y8 (by cases l with
   | nil=>exact h32
   | cons m l=>show(44:UInt8).toNat≠32;decide)] at hq
  have:=Jf4 hb h44 h32 hb0 l (acc++[n]) k q (by simpa using hk) hq fun m hm=>hr m (by simp [hm])
  rwa [J89] at this
end
def En(r:By):Prop:=r=[]∨hd0 r=41∨hd0 r=44
theorem En.db{r:By}(h:En r):db r=r:=by
 rcases h with rfl | h | h
 ·rfl
 ·exact Y8 (by omega)
 ·exact Y8 (by omega)
structure Fe (r:By):Prop where
 nk:nok okB r
 n47:hd0 (db r)≠47
theorem Jeu{r:By}(h:nok okB r):nok digB r:=fun b t e=>by
 have:=h b t e
 unfold okB at this;unfold digB;rw [Bool.or_eq_false_iff] at this;exact this.2
def gh(t:By):Prop:=∃ c r,t=c::r∧(Yn c.toNat=true∨Y6 c.toNat=true∨c.toNat=40)
theorem gh.ne{t:By}(h:gh t)(r:By):hd0 (t++r)≠32∧hd0 (t++r)≠45∧t≠[]:=by
 obtain⟨c,u,rfl,h⟩:=h;have h1:hd0 (c::u++r)=c.toNat:=rfl;rw [h1];refine⟨?_,?_,by simp⟩ <;> rcases h with h | h | h
 ·have:=of_decide_eq_true h;omega
 ·have:=of_decide_eq_true h;omega
 ·omega
 ·have:=of_decide_eq_true h;omega
 ·have:=of_decide_eq_true h;omega
 ·omega
theorem Jnf{t r:By}(h:gh t):gh (t++r):=by
 obtain⟨c,u,rfl,h⟩:=h;exact⟨c,u++r,rfl,h⟩
theorem Jzi(n:Nat):gh (decDigits n):=by
 obtain⟨c,r,e,h1,h2⟩:=Jil n;exact⟨c,r,e,.inl (J84 ⟨h1,h2⟩)⟩
theorem gh_c{c:UInt8}{r:By}(h:(Yn c.toNat || Y6 c.toNat || decide (c.toNat=40))=true):gh (c::r):=by
 refine⟨c,r,rfl,?_⟩;rw [Bool.or_eq_true,Bool.or_eq_true,decide_eq_true_eq] at h
 rcases h with (h | h) | h
 ·exact .inl h
 ·exact .inr (.inl h)
 ·exact .inr (.inr h)
theorem J0c{q:Rat}(h:0≤q):itoa q.num=decDigits q.num.toNat:=by
 unfold itoa;rw [if_neg (by have:=Rat.num_nonneg.2 h;omega)]
theorem gh_q{q:Rat}(h:0≤q):gh (qTxt q):=by
 unfold qTxt;rw [J0c h]
 split
 ·exact Jzi _
 ·rw [J89];exact Jnf (Jzi _)
theorem zr{a:GExpr}(h:negB a.op a.c.q=true):a.op=1∧0≤ -a.c.q:=by
 unfold negB at h;rw [Bool.and_eq_true,decide_eq_true_eq,decide_eq_true_eq] at h;refine⟨h.1,?_⟩;have h1:a.c.q≤0:=Jbb.1 (by omega)
 have:=Rat.neg_le_neg h1
 rwa [Rat.neg_zero] at this
theorem Jsm{a:GExpr}(h:negB a.op a.c.q=false)(h1:a.op=1):0≤a.c.q:=by
 unfold negB at h;rw [J84 h1,Bool.true_and] at h;have h2:=of_decide_eq_false h
 rcases Rat.le_total (a:=0) (b:=a.c.q) with h3 | h3
 ·exact h3
 ·have h4:=Jbb.2 h3;have h5:K5 a.c.q=0:=by omega
  have h6:a.c.q.num=0:=by unfold K5 at h5;exact Int.sign_eq_zero_iff_zero.1 h5
  have h7:a.c.q=0:=by rw [← Rat.num_divInt_den a.c.q,h6,Rat.zero_divInt]
  rw [h7];exact Rat.le_refl
theorem Jzz{a:GExpr}(h:Kc a.name=true):gh a.name∧(∀ c ∈ a.name,okB c=true)∧Z1 a.name=false:=by
 unfold Kc at h;simp only [Bool.and_eq_true,Bool.not_eq_true',decide_eq_true_eq] at h;obtain⟨⟨⟨⟨h1,h2⟩,h3⟩,h4⟩,h5⟩:=h;refine⟨?_,List.all_eq_true.1 h5,h4⟩
 cases hn:a.name with
 | nil=>rw [hn] at h1;simp at h1
 | cons c r=>
  rw [hn] at h3;exact⟨c,r,rfl,.inr (.inl h3)⟩
theorem Jbo{a:GExpr}(h:Gd a)(h8:a.op=8):Kc a.name=true:=by
 have:=h.parts.2.1.e
 rw [J84 h8] at this;exact this.symm
section
variable {a:GExpr}
theorem Jer{x:By}{l:List By}(h:gh x)(s:By):gh (join (x::l) s):=by rw [join_cons];exact Jnf h
theorem qn:∀ a:GExpr,Gd a→(¬ a.op=10→¬ a.op=11→negB a.op a.c.q=false→gh (plE a))∧gh (sgE a):=va fun a ih=>by
 intro hg;have hp:¬ a.op=10→¬ a.op=11→negB a.op a.c.q=false→gh (plE a):=by
  intro h10 h11 hn;have o1:=hg.parts.1.o1;have o2:=hg.parts.1.o2;rw [Jjs];unfold Qb
  by_cases h1:a.op=1
  ·rw [if_pos h1];exact gh_q (Jsm hn h1)
  rw [if_neg h1]
  by_cases h2:a.op=2
  ·rw [if_pos h2];exact gh_c rfl
  rw [if_neg h2]
  by_cases h3:a.op=3
  ·rw [if_pos h3];exact gh_c rfl
  rw [if_neg h3]
  by_cases h4:a.op=4
  ·rw [if_pos h4];exact gh_c rfl
  rw [if_neg h4]
  by_cases h5:a.op=5
  ·rw [if_pos h5];exact gh_c rfl
  rw [if_neg h5]
  by_cases h6:a.op=6
  ·rw [if_pos h6];exact gh_c rfl
  rw [if_neg h6]
  by_cases h7:a.op=7
  ·rw [if_pos h7];exact gh_c rfl
  rw [if_neg h7]
  by_cases h8:a.op=8
  ·rw [if_pos h8];exact(Jzz (Jbo hg h8)).1
  rw [if_neg h8]
  by_cases h9:a.op=9
  ·rw [if_pos h9];exact gh_c rfl
  rw [if_neg h9]
  by_cases h13:a.op=13
  ·rw [if_pos h13];exact gh_c rfl
  rw [if_neg h13]
  by_cases h14:a.op=14
  ·rw [if_pos h14];exact gh_c rfl
  rw [if_neg h14]
  by_cases h15:a.op=15
  ·rw [if_pos h15];exact gh_c rfl
  rw [if_neg h15]
  by_cases h16:a.op=16
  ·rw [if_pos h16];exact gh_c rfl
  rw [if_neg h16]
  by_cases h17:a.op=17
  ·rw [if_pos h17];exact gh_c rfl
  rw [if_neg h17]
  by_cases h18:a.op=18
  ·rw [if_pos h18];exact gh_c rfl
  rw [if_neg h18];have hl:0 < a.args.length:=hg.a1 (by omega);rw [Jdg hl,J89];refine Jnf ?_;unfold V2;rw [qp]
  split
  ·exact gh_c rfl
  ·rename_i hb
   have hb1:negB (a.args.getD 0 default).op (a.args.getD 0 default).c.q=false:=by
    unfold negB;rw [J83 (fun e=>hb (.inr (.inr (.inr e))))];rfl
   have hb2:¬ (a.args.getD 0 default).op=10:=fun e=>hb (.inl e);have hb3:¬ (a.args.getD 0 default).op=11:=fun e=>hb (.inr (.inl e));have hs:=zj hb2 hb1 hb3
   show gh (wrE (a.args.getD 0 default))
   rw [Jaa hb2,hs.2,hs.1]
   exact(ih 0 hl (hg.arg hl)).1 hb2 hb3 hb1
 refine⟨hp,?_⟩;have hf:∀ i,i < a.args.length→gh (txE (a.args.getD i default)).f:=by
  intro i hi;unfold Tx.f;rw [qp,Jat]
  split
  ·exact gh_c rfl
  ·rename_i hb
   exact(ih i hi (hg.arg hi)).1 (fun e=>hb (.inl e)) (fun e=>hb (.inr (.inl e))) (by
    cases hn:negB (a.args.getD i default).op (a.args.getD i default).c.q with
    | true=>exact absurd (.inr (.inr hn)) hb
    | false=>rfl)
 have hfl:∀ i,i < a.args.length→∃ r,facT (txL (a.args.drop i))=(txE (a.args.getD i default)).f::r:=by
  intro i hi;rw [Zt hi,txL,facT,J93];exact⟨_,rfl⟩
 by_cases h10:a.op=10
 ·rw [(z6 h10).1];exact gh_c rfl
 by_cases hn:negB a.op a.c.q=true
 ·rw [(zp hn).1];exact gh_q (zr hn).2
 by_cases h11:a.op=11
 ·have hl:=hg.a2 h11
  cases hn0:negB (a.args.getD 0 default).op (a.args.getD 0 default).c.q with
  | false=>
   rw [sg_p h11 hl hn0,J9t];obtain⟨r,e⟩:=hfl 0 (by omega);rw [List.drop_zero] at e;rw [e];exact Jer (hf 0 (by omega)) _
  | true=>
   by_cases hc:¬ (-(a.args.getD 0 default).c.q=1)∨(a.args.getD 1 default).op=1
   ·rw [Jhx h11 hl hn0 hc];exact Jer (gh_q (zr hn0).2) _
   ·rw [Jfd h11 hl hn0 (Decidable.not_not.1 fun k=>hc (.inl k)) (fun k=>hc (.inr k)),J9t];obtain⟨r,e⟩:=hfl 1 (by omega);rw [e];exact Jer (hf 1 (by omega)) _
 ·rw [(zj h10 (by simpa using hn) h11).1];exact hp h10 h11 (by simpa using hn)
theorem Jfc(h:Gd a)(r:By):hd0 (wrE a++r)≠32:=by
 by_cases h10:a.op=10
 ·have hl:=ca2 h.parts.1 (.inl h10);rw [vj h10]
  cases hl0:a.args with
  | nil=>rw [hl0] at hl;simp at hl
  | cons x l=>
   have hx:Gd x:=by have:=h.arg (i:=0) (by omega);rw [hl0] at this;exact this
   rw [txL,sumT]
   show hd0 (((if(txE x).mi=true then [45] else [])++sgE x++sumR (txL l))++r)≠32
   split
   ·exact(by decide:(45:UInt8).toNat≠32)
   ·rw [J9t,J89];exact((qn x hx).2.ne _).1
 ·rw [Jaa h10]
  split
  ·exact(by decide:(45:UInt8).toNat≠32)
  ·rw [J9t];exact((qn a h).2.ne _).1
end
section
variable {a:GExpr}
theorem Jhf(h:Gd a)(h1:¬ a.op=1)(h8:¬ a.op=8):lowE a=eOp a.op a.n (lowL a.args):=by
 have:=h.parts.2.1.s.resolve_left h8
 rw [Qq,lowC,if_neg h1,this];rfl
theorem len0{α:Type}{l:List α}(h:((l.length:Nat):Int)≤0):l=[]:=J9n (by omega)
theorem Jfo(h:Gd a)(h1:a.op=1):lowE a= .mk 1 [] (ofQ a.c.q) [] []:=by
 have hc:=h.parts.1;have e1:a.n=[]:=len0 (by have:=hc.n2;rw [h1] at this;exact this);have e2:a.args=[]:=len0 (by have:=hc.a2;rw [h1] at this;exact this);have e3:=h.parts.2.1.s.resolve_left (by omega);rw [Qq,lowC,if_pos h1,h1,e1,e2,e3,lowL]
theorem Jnr(h:Gd a)(h8:a.op=8):lowE a=Jmq a.name:=by
 have hc:=h.parts.1;have e1:a.n=[]:=len0 (by have:=hc.n2;rw [h8] at this;exact this);have e2:a.args=[]:=len0 (by have:=hc.a2;rw [h8] at this;exact this);rw [Qq,lowC,if_neg (by omega),h8,e1,e2,lowL];rfl
theorem nrg(h:Gd a):∀ n ∈ a.n,-1000000≤n∧n≤1000000:=by
 intro n hn;obtain⟨i,hi,rfl⟩:=List.mem_iff_getElem.1 hn
 have:=h.parts.2.2 i hi
 rw [J9d,J9f hi] at this;exact⟨Int.le_trans (Jza _) this.1,Int.le_trans this.2 (Jx5 _)⟩
end
theorem Kr(n:Int)(l:List Int):Y3 (n::l)=itoa n++Q4 l:=by
 have e:∀ l:List Int,joinTail [44,32] (za l)=Q4 l:=by
  intro l
  induction l with
  | nil=>rfl
  | cons x l ih=>
   unfold joinTail za at *;rw [J93,J93,List.flatten_cons,ih];rfl
 unfold Y3 za;rw [J93,join_cons];exact J87 _ (e l)
section
variable {s t u:By} {p q o:Nat} {S:Nat→Nat→Rr GExpr} {op:Int} {n:Int} {l:List Int} {x y:GExpr}
theorem Jlm{b:UInt8}(hb:digB b=false)(h44:b.toNat≠44)(h32:b.toNat≠32)(hb0:0 < b.toNat)(h:Yt s p (Y3 (n::l)++b::t))(hr:∀ m ∈ n::l,-1000000≤m∧m≤1000000):Rds s (Qj s b.toNat p) (n::l) (db t):=by
 rw [Kr,J89] at h;have hlen:=h.le;unfold Qj
 refine(Jam h (Jgh hb) (hr n (by simp)).1 (hr n (by simp)).2).th fun q hq=>?_
 rw [Y8 (by cases l with
  | nil=>exact h32
  | cons m l=>show(44:UInt8).toNat≠32;decide)] at hq
 have hml:∀ l:List Int,l.length≤(Q4 l).length:=by
  intro l
  induction l with
  | nil=>exact J9g _
  | cons m l ih=>rw [Q4,J8z,J8z,J80];simp only [J80,J81];omega
 have h1:=hml l;rw [J8z,J8z] at hlen;exact Jf4 hb h44 h32 hb0 l [n] (s.length+1) q (by omega) hq fun m hm=>hr m (by simp [hm])
theorem Jkv(h:Yt s p (40::(Y3 (n::l)++41::t)))(ho:o < 64)(hr:∀ m ∈ n::l,-1000000≤m∧m≤1000000):Rds s (V8 s op o p) (eOp op (n::l) []) (db t):=by
 unfold V8
 refine(Jba h ho).th fun q hq=>?_
 obtain⟨c,r,ec,hc⟩:=Jco n;rw [Y8 (by rw [Kr,ec];exact hc)] at hq
 exact(Jlm (b:=41) (by decide) (by decide) (by decide) (by decide) hq hr).th fun q hq=>Rds.ok hq
theorem Jsf{m:Int}(h:Yt s p (40::(itoa n++41::91::(Y3 (m::l)++93::t))))(ho:o < 64)(hr:∀ k ∈ n::m::l,-1000000≤k∧k≤1000000):Rds s (twoM s op o p) (eOp op (n::m::l) []) (db t):=by
 unfold twoM
 refine(Jba h ho).th fun q hq=>?_
 obtain⟨c,r,ec,hc⟩:=Jco n;obtain⟨c',r',ec',hc'⟩:=Jco m;rw [Y8 (by rw [ec];exact hc)] at hq
 refine(Jam hq (vy (by decide)) (hr n (by simp)).1 (hr n (by simp)).2).th fun q hq=>?_
 rw [Y8 (by show(41:UInt8).toNat≠32;decide)] at hq
 refine(Jaf hq (c:=41) rfl (by decide)).th fun q hq=>?_
 rw [Y8 (by show(91:UInt8).toNat≠32;decide)] at hq
 refine(Jaf hq (c:=91) rfl (by decide)).th fun q hq=>?_
 rw [Y8 (by rw [Kr,ec'];exact hc')] at hq
 exact(Jlm (b:=93) (by decide) (by decide) (by decide) (by decide) hq fun k hk=>hr k (by simp [List.mem_cons.1 hk])).th fun q hq=>Rds.ok hq
def HW(s:By)(S:Nat→Nat→Rr GExpr)(x:GExpr):Prop:=∀ o p r,o+lvlE x≤64→Yt s p (wrE x++r)→En r→Rds s (S o p) (lowE x) r
theorem Jgy(h:Yt s p (40::(itoa n++44::32::(wrE x++41::t))))(ho:o+1+lvlE x≤64)(hn: -1000000≤n∧n≤1000000)(hg:Gd x)(hx:HW s S x):Rds s (oneM s S op false o p) (eOp op [n] [lowE x]) (db t):=by
 unfold oneM
 refine(Jba h (by omega)).th fun q hq=>?_
 obtain⟨c,r,ec,hc⟩:=Jco n;rw [Y8 (by rw [ec];exact hc)] at hq
 refine(Jam hq (vy (by decide)) hn.1 hn.2).th fun q hq=>?_
 rw [Y8 (by show(44:UInt8).toNat≠32;decide)] at hq
 refine(Jaf hq (c:=44) rfl (by decide)).th fun q hq=>?_
 rw [Jh9,Y8 (Jfc hg _)] at hq
 refine(hx (o+1) q _ ho hq (.inr (.inl rfl))).th fun q hq=>?_
 rw [if_neg (by decide)]
 exact(Jaf hq (c:=41) rfl (by decide)).th fun q hq=>Rds.ok hq
theorem rd_br(h:Yt s p (40::(itoa n++44::32::(wrE x++44::32::(wrE y++41::t)))))(ho:o+1+lvlE x≤64)(ho2:o+1+lvlE y≤64)(hn: -1000000≤n∧n≤1000000)(hg:Gd x)(hg2:Gd y)(hx:HW s S x)(hy:HW s S y):
  Rds s (oneM s S op true o p) (eOp op [n] [lowE x,lowE y]) (db t):=by
 unfold oneM
 refine(Jba h (by omega)).th fun q hq=>?_
 obtain⟨c,r,ec,hc⟩:=Jco n;rw [Y8 (by rw [ec];exact hc)] at hq
 refine(Jam hq (vy (by decide)) hn.1 hn.2).th fun q hq=>?_
 rw [Y8 (by show(44:UInt8).toNat≠32;decide)] at hq
 refine(Jaf hq (c:=44) rfl (by decide)).th fun q hq=>?_
 rw [Jh9,Y8 (Jfc hg _)] at hq
 refine(hx (o+1) q _ ho hq (.inr (.inr rfl))).th fun q hq=>?_
 rw [if_pos rfl]
 refine(Jaf hq (c:=44) rfl (by decide)).th fun q hq=>?_
 rw [Jh9,Y8 (Jfc hg2 _)] at hq
 refine(hy (o+1) q _ ho2 hq (.inr (.inl rfl))).th fun q hq=>?_
 exact(Jaf hq (c:=41) rfl (by decide)).th fun q hq=>Rds.ok hq
theorem J0k(h:Yt s p (40::(wrE x++41::t)))(ho:o+1+lvlE x≤64)(hg:Gd x)(hx:HW s S x):Rds s (serM s S o p) (eOp 17 [] [lowE x]) (db t):=by
 unfold serM
 refine(Jba h (by omega)).th fun q hq=>?_
 rw [Y8 (Jfc hg _)] at hq
 refine(hx (o+1) q _ ho hq (.inr (.inl rfl))).th fun q hq=>?_
 exact(Jaf hq (c:=41) rfl (by decide)).th fun q hq=>Rds.ok hq
theorem Jt5(h:Yt s p (40::(wrE x++41::t)))(ho:o+1+lvlE x≤64)(hg:Gd x)(hx:HW s S x):Rds s (Yj s S o p) (lowE x,false) (db t):=by
 unfold Yj;have hh:hdM s p=40:=h.hd;rw [hh,if_neg (by decide),if_pos rfl]
 refine(Jba h.sp (by omega)).th fun q hq=>?_
 rw [Y8 (Jfc hg _)] at hq
 refine(hx (o+1) q _ ho hq (.inr (.inl rfl))).th fun q hq=>?_
 exact(Jaf hq (c:=41) rfl (by decide)).th fun q hq=>Rds.ok hq
theorem Jt2{v:Rat}(h:Yt s p (qTxt v++t))(hv:0≤v)(hf:Fe t):Rds s (Yj s S o p) (.mk 1 [] (ofQ v) [] [],true) (db t):=by
 obtain⟨c,r,ec,hc1,hc2⟩:=Jil v.num.toNat;have e0:qTxt v++t=decDigits v.num.toNat++((if v.den=1 then [] else 47::decDigits v.den)++t):=by
  unfold qTxt;rw [J0c hv]
  split
  ·rfl
  ·rw [itoa_nonneg];simp
 rw [e0] at h;have hh:hdM s p=c.toNat:=by rw [h.hd,ec];rfl
 unfold Yj;rw [hh,if_pos (show Yn c.toNat=true from J84 ⟨hc1,hc2⟩)];have hnum:((v.num.toNat:Nat):Int)=v.num:=by have:=Rat.num_nonneg.2 hv;omega
 have key:Rds s (numM s (spM s p)) (.mk 1 [] (ofQ v) [] []) (db t):=by
  unfold numM
  by_cases hd:v.den=1
  ·rw [if_pos hd,J9t] at h
   refine(Jde h.sp (Jeb _) qk (Jeu hf.nk)).th fun q hq=>?_
   rw [hq.fol (by decide),J83 hf.n47,if_neg (by decide),xu];have e:eNum ((v.num.toNat:Nat):Int) 1= .mk 1 [] (ofQ v) [] []:=by
    unfold eNum;rw [hnum]
    have:=Rat.num_divInt_den v
    rw [hd] at this;exact J87 (fun z=>GExpr.mk 1 [] (ofQ z) [] []) this
   rw [e];exact Rds.ok hq.sp
  ·rw [if_neg hd,List.cons_append] at h
   refine(Jde h.sp (Jeb _) qk (vy (by decide))).th fun q hq=>?_
   rw [Y8 (by show(47:UInt8).toNat≠32;decide)] at hq;rw [hq.fol (by decide),J84 (show hd0 (47::_)=47 from rfl),if_pos rfl];have h2:=hq.next;obtain⟨c',r',ec',hc1',hc2'⟩:=Jil v.den;rw [Y8 (by rw [ec'];show c'.toNat≠32;omega)] at h2
   refine(Jde h2 (Jeb _) qk (Jeu hf.nk)).th fun q hq=>?_
   rw [xu,xu,if_neg v.den_nz];have e:eNum ((v.num.toNat:Nat):Int) ((v.den:Nat):Int)= .mk 1 [] (ofQ v) [] []:=by
    unfold eNum;rw [hnum,Rat.num_divInt_den]
   rw [e];exact Rds.ok hq
 exact key.th fun q hq=>Rds.ok hq
theorem Jqu{w:By}(h:Yt s p (w++t))(hw:∀ c ∈ w,okB c=true)(ht:nok okB t)(hl:Y6 (hd0 w)=true)(hne:w≠[]):
  ∃ q,s.drop q=t∧Yj s S o p=if J2 w then(if 1000000 < Jm (w.drop 1) then .er 2 (spM s p+1) else .ok (eOp 2 [(Jm (w.drop 1):Int)] [],false) q) else(Z2 s S w (spM s p) o q).th fun a q=> .ok (a,false) q:=by
 have e:=wd_at h hw ht;refine⟨spM s p+w.length,h.mv,?_⟩;have hh:hdM s p=hd0 w:=by
  rw [h.hd]
  cases w with
  | nil=>exact absurd rfl hne
  | cons c r=>rfl
 have hl2:=of_decide_eq_true hl;unfold Yj;rw [hh,if_neg (by unfold Yn;rw [decide_eq_true_eq];omega),if_neg (by omega),if_pos hl];simp only [e]
end
section
variable {s t u w:By} {p q o q0:Nat} {S:Nat→Nat→Rr GExpr} {a:GExpr} {e:GExpr}
theorem wt_E(n:Nat):J2 (69::decDigits n)=true:=by
 unfold J2;have h1:1 < (69::decDigits n).length:=by
  rw [J80];have:=List.length_pos_iff.2 (Jeb n);omega
 have h2:((69::decDigits n).drop 1).all digB=true:=by
  rw [List.drop_succ_cons,List.drop_zero,List.all_eq_true];exact fun c hc=>qk c hc
 rw [J84 h1,h2];rfl
theorem ym(h:Yt s p (w++u))(hw:(w.all okB && Y6 (hd0 w))=true)(hu:nok okB u)(hwt:J2 w=false)(hne:w≠[])(hu2:db u=u∨True)(hr:∀ q,s.drop q=u→Rds s (Z2 s S w (spM s p) o q) e t):Rds s (Yj s S o p) (e,false) t:=by
 rw [Bool.and_eq_true] at hw;obtain⟨q,hq,he⟩:=Jqu (S:=S) (o:=o) h (List.all_eq_true.1 hw.1) hu hw.2 hne;rw [he,hwt,if_neg (by decide)]
 exact(hr q hq).th fun q hq=>Rds.ok hq
theorem y40(h:s.drop q=40::u):Yt s q (40::u):=by
 have:=Yt.of h
 rwa [Y8 (by show ¬ _;intro h;cases h)] at this
theorem Jad:nok okB (40::u):=vy (by decide)
section
variable (S)
theorem rs6:Z2 s S [68,101,108,116,97] q0 o q= .ok (eOp 6 [] []) q:=by unfold Z2;rw [if_pos rfl]
theorem rs7:Z2 s S [106] q0 o q= .ok (eOp 7 [] []) q:=by unfold Z2;rw [if_neg (by decide),if_pos rfl]
theorem rs3:Z2 s S [71] q0 o q=V8 s 3 o q:=by unfold Z2;rw [if_neg (by decide),if_neg (by decide),if_pos rfl]
theorem rs9:Z2 s S [110,101,119,102,111,114,109] q0 o q=V8 s 9 o q:=by unfold Z2;rw [if_neg (by decide),if_neg (by decide),if_neg (by decide),if_pos rfl]
theorem rs4:Z2 s S [101,116,97] q0 o q=twoM s 4 o q:=by unfold Z2;rw [if_neg (by decide),if_neg (by decide),if_neg (by decide),if_neg (by decide),if_pos rfl]
theorem rs5:Z2 s S [116,104,101,116,97] q0 o q=twoM s 5 o q:=by unfold Z2;rw [if_neg (by decide),if_neg (by decide),if_neg (by decide),if_neg (by decide),if_neg (by decide),if_pos rfl]
theorem rs13:Z2 s S [86] q0 o q=oneM s S 13 false o q:=by
                                  unfold Z2;(iterate 6 rw [if_neg (by decide)]);rw [if_pos rfl]
theorem rs14:Z2 s S [85] q0 o q=oneM s S 14 false o q:=by
                                  unfold Z2;(iterate 7 rw [if_neg (by decide)]);rw [if_pos rfl]
theorem rs15:Z2 s S [84] q0 o q=oneM s S 15 false o q:=by
                                  unfold Z2;(iterate 8 rw [if_neg (by decide)]);rw [if_pos rfl]
theorem rs16:Z2 s S [116,119,105,115,116] q0 o q=oneM s S 16 false o q:=by
                                            unfold Z2;(iterate 9 rw [if_neg (by decide)]);rw [if_pos rfl]
theorem rs18:Z2 s S [98,114,97,99,107,101,116] q0 o q=oneM s S 18 true o q:=by
                                               unfold Z2;(iterate 10 rw [if_neg (by decide)]);rw [if_pos rfl]
theorem rs17:Z2 s S [115,101,114,114,101] q0 o q=serM s S o q:=by
                                        unfold Z2;(iterate 11 rw [if_neg (by decide)]);rw [if_pos rfl]
theorem rs8(h:Z1 w=false)(hn:Kc w=true):Z2 s S w q0 o q= .ok (Jmq w) q:=by
 unfold Z1 at h;rw [Bool.or_eq_false_iff] at h;have hm:=of_decide_eq_false h.1;unfold Xn at hm;simp only [List.mem_cons,List.not_mem_nil,or_false,not_or] at hm;obtain⟨h1,h2,h3,h4,h5,h6,h7,h8,h9,h10,h11,h12⟩:=hm;unfold Z2;rw [if_neg h4,if_neg h5,if_neg h1,if_neg h6,if_neg h2,if_neg h3,if_neg h7,if_neg h8,if_neg h9,if_neg h10,if_neg h12,if_neg h11,if_pos hn]
end
theorem Js9{l:List Int}{n:Int}:Zf w (n::l) (txL [])++t=w++40::(Y3 (n::l)++41::t):=by
 unfold Zf;rw [if_neg (by simp),txL,Xe];simp
theorem Jlo{n:Int}{x:GExpr}:Zf w [n] (txL [x])++t=w++40::(itoa n++44::32::(wrE x++41::t)):=by
 unfold Zf;rw [if_neg (by simp),Kr,Q4,txL,txL,Xe,Xe];simp;rfl
theorem J0r{n:Int}{x y:GExpr}:Zf w [n] (txL [x,y])++t=w++40::(itoa n++44::32::(wrE x++44::32::(wrE y++41::t))):=by
 unfold Zf;rw [if_neg (by simp),Kr,Q4,txL,txL,txL,Xe,Xe,Xe];simp;rfl
theorem Jzv{x:GExpr}:Zf w [] (txL [x])++t=w++40::(wrE x++41::t):=by
 unfold Zf;rw [if_pos rfl,txL,txL,Xe,Xe];simp;rfl
theorem et_a{n m:Int}{l:List Int}:etaT (w++[40]) (n::m::l)++t=w++40::(itoa n++41::91::(Y3 (m::l)++93::t)):=by
 unfold etaT;simp
theorem l1{α:Type}{l:List α}(h:l.length=1):∃ x,l=[x]:=by
 match l,h with
 | [x],_=>exact⟨x,rfl⟩
theorem l2{α:Type}{l:List α}(h:l.length=2):∃ x y,l=[x,y]:=by
 match l,h with
 | [x,y],_=>exact⟨x,y,rfl⟩
theorem lc1{α:Type}{l:List α}(h:1≤l.length):∃ x r,l=x::r:=by
 match l,h with
 | x::r,_=>exact⟨x,r,rfl⟩
theorem lc2{α:Type}{l:List α}(h:2≤l.length):∃ x y r,l=x::y::r:=by
 match l,h with
 | x::y::r,_=>exact⟨x,y,r,rfl⟩
theorem ze{i:Nat}(h:i < a.args.length):lvlE (a.args.getD i default)+1≤lvlE a:=by
 rw [Ky a]
 have:∀ (l:List GExpr) (i:Nat),i < l.length→lvlE (l.getD i default)≤lvlL l:=by
  intro l
  induction l with
  | nil=>intro i h;exact absurd h (J9m _)
  | cons x l ih=>
   intro i h;rw [lvlL]
   cases i with
   | zero=>rw [J9u];omega
   | succ i=>rw [List.getD_cons_succ];have:=ih i (by simpa using h);omega
 have:=this a.args i h
 omega
theorem Jfx(hg:Gd a)(h10:¬ a.op=10)(h11:¬ a.op=11)(h12:¬ a.op=12)(hn:negB a.op a.c.q=false)(hW:∀ i,i < a.args.length→HW s S (a.args.getD i default))(ho:o+lvlE a≤64)(h:Yt s p (plE a++t))(hf:Fe t):
  Rds s (Yj s S o p) (lowE a,decide (a.op=1)) (db t):=by
 have hc:=hg.parts.1;have hr:=nrg hg;have o1:=hc.o1;have o2:=hc.o2;have n1:=hc.n1;have n2:=hc.n2;have a1:=hc.a1;have a2:=hc.a2;have hl1:1≤lvlE a:=by rw [Ky];omega
 by_cases h1:a.op=1
 ·rw [← pl_1 h1] at h;rw [Jfo hg h1,J84 h1];exact Jt2 h (Jsm hn h1) hf
 rw [J83 h1]
 by_cases h8:a.op=8
 ·rw [← pl_8 h8] at h;obtain⟨g1,g2,g3⟩:=Jzz (Jbo hg h8);obtain⟨c,r,ec,_⟩:=g1;have hw:(a.name.all okB && Y6 (hd0 a.name))=true:=by
   have:=Jbo hg h8
   unfold Kc at this;simp only [Bool.and_eq_true] at this;rw [Bool.and_eq_true];exact⟨this.2,this.1.1.2⟩
  have hwt:J2 a.name=false:=by unfold Z1 at g3;rw [Bool.or_eq_false_iff] at g3;exact g3.2
  refine ym h hw hf.nk hwt (by rw [ec];simp) (.inr trivial) fun q hq=>?_
  rw [rs8 S g3 (Jbo hg h8),Jnr hg h8];exact Rds.ok (Yt.of hq)
 rw [Jhf hg h1 h8]
 by_cases h2:a.op=2
 ·rw [← pl_2 h2] at h;obtain⟨n,en⟩:=l1 (l:=a.n) (by rw [h2] at n1 n2;have:cA 2=1:=rfl;have:cB 2=1:=rfl;omega);have ea:a.args=[]:=len0 (by rw [h2] at a2;exact a2);have hn0:0≤n:=by
   have:=(hg.parts.2.2 0 (by rw [en];simp)).1
   rw [h2,en] at this;exact this
  have hn1:=hr n (by rw [en];simp);have eit:itoa (a.n.getD 0 0)=decDigits n.toNat:=by rw [en];show itoa n=_;unfold itoa;rw [if_neg (by omega)]
  rw [eit] at h;obtain⟨q,hq,he⟩:=Jqu (w:=69::decDigits n.toNat) (S:=S) (o:=o) h (fun c hc=>by
   rcases List.mem_cons.1 hc with rfl | hc
   ·decide
   ·exact Jkd (qk c hc)) hf.nk rfl (by simp)
  rw [he,wt_E,if_pos rfl,List.drop_succ_cons,List.drop_zero,xu,if_neg (by omega),ea,h2,en,lowL]
  have:((n.toNat:Nat):Int)=n:=by omega
  rw [this];exact Rds.ok (Yt.of hq)
 by_cases h6:a.op=6
 ·rw [← pl_6 h6] at h;have en:a.n=[]:=len0 (by rw [h6] at n2;exact n2);have ea:a.args=[]:=len0 (by rw [h6] at a2;exact a2);rw [h6,en,ea,lowL];exact ym h (by decide) hf.nk (by decide) (by simp) (.inr trivial) fun q hq=>by rw [rs6];exact Rds.ok (Yt.of hq)
 by_cases h7:a.op=7
 ·rw [← pl_7 h7] at h;have en:a.n=[]:=len0 (by rw [h7] at n2;exact n2);have ea:a.args=[]:=len0 (by rw [h7] at a2;exact a2);rw [h7,en,ea,lowL];exact ym h (by decide) hf.nk (by decide) (by simp) (.inr trivial) fun q hq=>by rw [rs7];exact Rds.ok (Yt.of hq)
 by_cases h3:a.op=3
 ·rw [← pl_3 h3] at h;obtain⟨n,l,en⟩:=lc1 (l:=a.n) (by rw [h3] at n1;have:cA 3=4:=rfl;omega);have ea:a.args=[]:=len0 (by rw [h3] at a2;exact a2);rw [en] at hr;rw [en,ea,Js9] at h;rw [h3,en,ea,lowL];exact ym h (by decide) Jad (by decide) (by simp) (.inr trivial) fun q hq=>by rw [rs3];exact Jkv (y40 hq) (by omega) hr
 by_cases h9:a.op=9
 ·rw [← pl_9 h9] at h;obtain⟨n,l,en⟩:=lc1 (l:=a.n) (by rw [h9] at n1;have:cA 9=4:=rfl;omega);have ea:a.args=[]:=len0 (by rw [h9] at a2;exact a2);rw [en] at hr;rw [en,ea,Js9] at h;rw [h9,en,ea,lowL];exact ym h (by decide) Jad (by decide) (by simp) (.inr trivial) fun q hq=>by rw [rs9];exact Jkv (y40 hq) (by omega) hr
 by_cases h4:a.op=4
 ·rw [← pl_4 h4] at h;obtain⟨n,m,l,en⟩:=lc2 (l:=a.n) (by rw [h4] at n1;have:cA 4=2:=rfl;omega);have ea:a.args=[]:=len0 (by rw [h4] at a2;exact a2);rw [en] at hr;rw [en,show([101,116,97,40]:By)=[101,116,97]++[40] from rfl,et_a] at h;rw [h4,en,ea,lowL];exact ym h (by decide) Jad (by decide) (by simp) (.inr trivial) fun q hq=>by rw [rs4];exact Jsf (y40 hq) (by omega) hr
 by_cases h5:a.op=5
 ·rw [← pl_5 h5] at h;obtain⟨n,m,l,en⟩:=lc2 (l:=a.n) (by rw [h5] at n1;have:cA 5=2:=rfl;omega);have ea:a.args=[]:=len0 (by rw [h5] at a2;exact a2);rw [en] at hr;rw [en,show([116,104,101,116,97,40]:By)=[116,104,101,116,97]++[40] from rfl,et_a] at h;rw [h5,en,ea,lowL];exact ym h (by decide) Jad (by decide) (by simp) (.inr trivial) fun q hq=>by rw [rs5];exact Jsf (y40 hq) (by omega) hr
 have ha0:0 < a.args.length:=by have:=ca1 hc (by omega);omega
 have hg0:=hg.arg ha0;have hW0:=hW 0 ha0;have hl0:=ze ha0
 by_cases h17:a.op=17
 ·rw [← Jn8 h17] at h;have en:a.n=[]:=len0 (by rw [h17] at n2;exact n2);obtain⟨x,ea⟩:=l1 (l:=a.args) (by rw [h17] at a1 a2;have:cC 17=1:=rfl;have:cD 17=1:=rfl;omega);rw [ea] at hg0 hW0 hl0;rw [en,ea,Jzv] at h;rw [h17,en,ea,lowL,lowL];exact ym h (by decide) Jad (by decide) (by simp) (.inr trivial) fun q hq=>by rw [rs17];exact J0k (y40 hq) (by simp only [J9u] at hl0;omega) hg0 hW0
 by_cases h18:a.op=18
 ·rw [← Jnx h18] at h;obtain⟨n,en⟩:=l1 (l:=a.n) (by rw [h18] at n1 n2;have:cA 18=1:=rfl;have:cB 18=1:=rfl;omega);obtain⟨x,y,ea⟩:=l2 (l:=a.args) (by rw [h18] at a1 a2;have:cC 18=2:=rfl;have:cD 18=2:=rfl;omega);have hg1:=hg.arg (i:=1) (by rw [ea];simp);have hW1:=hW 1 (by rw [ea];simp);have hl1':=ze (a:=a) (i:=1) (by rw [ea];simp);rw [ea] at hg0 hW0 hl0 hg1 hW1 hl1';rw [en,ea,J0r] at h;rw [h18,en,ea,lowL,lowL,lowL];exact ym h (by decide) Jad (by decide) (by simp) (.inr trivial) fun q hq=>by
   rw [rs18];exact rd_br (y40 hq) (by simp only [J9u] at hl0;omega) (by simp only [List.getD_cons_succ,J9u] at hl1';omega) (hr n (by rw [en];simp)) hg0 hg1 hW0 hW1
 obtain⟨n,en⟩:=l1 (l:=a.n) (by
  have h13:a.op=13∨a.op=14∨a.op=15∨a.op=16:=by omega
  rcases h13 with h | h | h | h <;> rw [h] at n1 n2
  ·have:cA 13=1:=rfl;have:cB 13=1:=rfl;omega
  ·have:cA 14=1:=rfl;have:cB 14=1:=rfl;omega
  ·have:cA 15=1:=rfl;have:cB 15=1:=rfl;omega
  ·have:cA 16=1:=rfl;have:cB 16=1:=rfl;omega)
 obtain⟨x,ea⟩:=l1 (l:=a.args) (by
  have h13:a.op=13∨a.op=14∨a.op=15∨a.op=16:=by omega
  rcases h13 with h | h | h | h <;> rw [h] at a1 a2
  ·have:cC 13=1:=rfl;have:cD 13=1:=rfl;omega
  ·have:cC 14=1:=rfl;have:cD 14=1:=rfl;omega
  ·have:cC 15=1:=rfl;have:cD 15=1:=rfl;omega
  ·have:cC 16=1:=rfl;have:cD 16=1:=rfl;omega)
 have hrn:=hr n (by rw [en];simp);rw [ea] at hg0 hW0 hl0;have hl0':o+1+lvlE x≤64:=by simp only [J9u] at hl0;omega
 by_cases h13:a.op=13
 ·rw [← Jol h13,en,ea,Jlo] at h;rw [h13,en,ea,lowL,lowL];exact ym h (by decide) Jad (by decide) (by simp) (.inr trivial) fun q hq=>by rw [rs13];exact Jgy (y40 hq) hl0' hrn hg0 hW0
 by_cases h14:a.op=14
 ·rw [← Jpb h14,en,ea,Jlo] at h;rw [h14,en,ea,lowL,lowL];exact ym h (by decide) Jad (by decide) (by simp) (.inr trivial) fun q hq=>by rw [rs14];exact Jgy (y40 hq) hl0' hrn hg0 hW0
 by_cases h15:a.op=15
 ·rw [← Jns h15,en,ea,Jlo] at h;rw [h15,en,ea,lowL,lowL];exact ym h (by decide) Jad (by decide) (by simp) (.inr trivial) fun q hq=>by rw [rs15];exact Jgy (y40 hq) hl0' hrn hg0 hW0
 have h16:a.op=16:=by omega
 rw [← Jpz h16,en,ea,Jlo] at h;rw [h16,en,ea,lowL,lowL];exact ym h (by decide) Jad (by decide) (by simp) (.inr trivial) fun q hq=>by rw [rs16];exact Jgy (y40 hq) hl0' hrn hg0 hW0
end
structure Pe (r:By):Prop where
 nk:nok okB r
 hd:hd0 (db r)=0∨hd0 (db r)=41∨hd0 (db r)=43∨hd0 (db r)=44∨hd0 (db r)=45
theorem En.pe{r:By}(h:En r):Pe r:=by
 refine⟨?_,?_⟩
 ·intro b t e;subst e
  rcases h with h | h | h
  ·cases h
  ·have h:b.toNat=41:=h;unfold okB Y6 Yn;simp [h]
  ·have h:b.toNat=44:=h;unfold okB Y6 Yn;simp [h]
 ·rw [h.db]
  rcases h with rfl | h | h
  ·exact .inl rfl
  ·omega
  ·omega
def mulT:List GExpr→By
 | []=>[]
 | a::l=>42::((txE a).f++mulT l)
theorem Jct:∀ l:List GExpr,l.length≤(mulT l).length
 | []=>J9g _
 | a::l=>by have:=Jct l;rw [mulT,J80,J80,J8z];omega
theorem Qu:∀ l:List GExpr,joinTail [42] (facT (txL l))=mulT l
 | []=>rfl
 | a::l=>by
  have:=Qu l
  unfold joinTail facT at *;rw [txL,mulT,J93,J93,List.flatten_cons,this];rfl
theorem Jgv:∀ l:List GExpr,l.length≤(sumR (txL l)).length
 | []=>J9g _
 | a::l=>by
  have:=Jgv l
  rw [txL,sumR,J8z,J8z,J80]
  have:(if(txE a).mi=true then([32,45,32]:By) else [32,43,32]).length=3:=by split <;> rfl
  omega
section
variable {s t u r:By} {p q o:Nat} {S:Nat→Nat→Rr GExpr} {a x:GExpr} {l:List GExpr}
theorem Pe.fe{l:List GExpr}(h:Pe t):Fe (mulT l++t):=by
 cases l with
 | nil=>
  refine⟨h.nk,?_⟩
  have:=h.hd
  show hd0 (db t)≠47
  omega
 | cons a l=>
  refine⟨vy (by decide),?_⟩;rw [Y8 (by show(42:UInt8).toNat≠32;decide)]
  show(42:UInt8).toNat≠47
  decide
theorem Pe.n94{l:List GExpr}(h:Pe t):hd0 (db (mulT l++t))≠94:=by
 cases l with
 | nil=>have:=h.hd;show hd0 (db t)≠94;omega
 | cons a l=>
  rw [Y8 (by show(42:UInt8).toNat≠32;decide)]
  show(42:UInt8).toNat≠94
  decide
def Lw(s:By)(S:Nat→Nat→Rr GExpr)(n:Nat):Prop:=∀ x,Gd x→lvlE x < n→HW s S x
theorem Jla{b:Bool}(h:Rds s (Yj s S o p) (x,b) t)(h94:hd0 t≠94):Rds s (powM s S o p) (x,b) t:=by
 unfold powM;refine h.th fun q hq=>?_
 rw [hq.fol (by decide),J83 h94,if_neg (by decide)];exact Rds.ok hq.sp
theorem Jyq(hg:Gd a)(h10:¬ a.op=10)(h11:¬ a.op=11)(hn:negB a.op a.c.q=false)(hW:Lw s S (lvlE a))(ho:o+lvlE a≤64)(h:Yt s p (plE a++t))(hf:Fe t)(h94:hd0 (db t)≠94):
  Rds s (powM s S o p) (lowE a,decide (a.op=1)) (db t):=by
 by_cases h12:a.op=12
 ·have hc:=hg.parts.1;have n1:=hc.n1;have n2:=hc.n2;have a1:=hc.a1;have a2:=hc.a2;obtain⟨n,en⟩:=l1 (l:=a.n) (by rw [h12] at n1 n2;have:cA 12=1:=rfl;have:cB 12=1:=rfl;omega);obtain⟨x,ea⟩:=l1 (l:=a.args) (by rw [h12] at a1 a2;have:cC 12=1:=rfl;have:cD 12=1:=rfl;omega);have hr:=nrg hg;have hl:0 < a.args.length:=by rw [ea];simp
  have hgx:=hg.arg hl;have hlx:=ze hl;rw [ea] at hgx hlx;simp only [J9u] at hgx hlx;rw [← Jez h12 hl rfl,ea,en,J9u] at h;have e0:V2 (txE x)++[94]++itoa ([n].getD 0 0)++t=V2 (txE x)++94::(itoa n++t):=by simp
  rw [e0] at h;have key:Rds s (Yj s S o p) (lowE x,false) (94::(itoa n++t)):=by
   have e94:db (94::(itoa n++t))=94::(itoa n++t):=Y8 (by show(94:UInt8).toNat≠32;decide)
   by_cases hb:x.op=10∨x.op=11∨x.op=12∨x.op=1
   ·rw [← bs_t hb] at h
    have:=Jt5 (S:=S) (o:=o) (t:=94::(itoa n++t)) (by simpa using h) (by omega) hgx (hW x hgx (by omega))
    rwa [e94] at this
   ·rw [← bs_f hb] at h;have hx1:¬ x.op=1:=fun e=>hb (.inr (.inr (.inr e)));have hxn:negB x.op x.c.q=false:=by unfold negB;rw [J83 hx1];rfl
    have hx10:¬ x.op=10:=fun e=>hb (.inl e);have hx11:¬ x.op=11:=fun e=>hb (.inr (.inl e));have hx12:¬ x.op=12:=fun e=>hb (.inr (.inr (.inl e)));have hs:=zj hx10 hxn hx11;rw [Jaa hx10,hs.2,hs.1] at h
    have:=Jfx hgx hx10 hx11 hx12 hxn (fun i hi=>hW _ (hgx.arg hi) (by have:=ze hi;omega)) (by omega) (o:=o) h ⟨vy (by decide),by rw [e94];show(94:UInt8).toNat≠47;decide⟩
    rwa [e94,J83 hx1] at this
  unfold powM;refine key.th fun q hq=>?_
  rw [hq.fol (by decide),J84 (show hd0 (94::_)=94 from rfl),if_pos rfl];have h2:=hq.next;obtain⟨c,r,ec,hc⟩:=Jco n;rw [Y8 (by rw [ec];exact hc)] at h2;rw [J83 (show ¬ a.op=1 by omega),Jhf hg (by omega) (by omega),h12,en,ea,lowL,lowL];have hrn:=hr n (by rw [en];simp)
  exact(Jam h2 (Jeu hf.nk) hrn.1 hrn.2).th fun q hq=>Rds.ok hq
 ·exact Jla (Jfx hg h10 h11 h12 hn (fun i hi=>hW _ (hg.arg hi) (by have:=ze hi;omega)) ho h hf) h94
theorem pw_f(hg:Gd a)(hx:HW s S a)(hW:Lw s S (lvlE a))(ho:o+1+lvlE a≤64)(h:Yt s p ((txE a).f++t))(hf:Fe t)(h94:hd0 (db t)≠94):
  Rds s (powM s S o p) (lowE a,decide (a.op=1) && !negB a.op a.c.q) (db t):=by
 by_cases hb:a.op=10∨a.op=11∨negB a.op a.c.q=true
 ·rw [← fa_1 hb] at h;have e:(decide (a.op=1) && !negB a.op a.c.q)=false:=by
   rcases hb with h | h | h
   ·rw [J83 (by omega)];rfl
   ·rw [J83 (by omega)];rfl
   ·rw [h];simp
  rw [e];exact Jla (Jt5 (by simpa using h) ho hg hx) h94
 ·have h10:¬ a.op=10:=fun e=>hb (.inl e);have h11:¬ a.op=11:=fun e=>hb (.inr (.inl e));have hn:negB a.op a.c.q=false:=by
   cases hn:negB a.op a.c.q with
   | true=>exact absurd (.inr (.inr hn)) hb
   | false=>rfl
  rw [← fa_0 h10 h11 hn] at h
  have:=Jyq (o:=o) hg h10 h11 hn hW (by omega) h hf h94
  rwa [hn,Bool.not_false,Bool.and_true]
theorem Jcu(ht:Pe t):∀ (l acc:List GExpr) (k p:Nat),l.length < k→Yt s p (db (mulT l++t))→(∀ x ∈ l,Gd x∧HW s S x∧Lw s S (lvlE x)∧o+1+lvlE x≤64)→Rds s (Jb1 s S o k acc p) (acc++lowL l) (db t)
 | l,acc,0,p,hk,_,_=>absurd hk (J9m _)
 | [],acc,k+1,p,_,h,_=>by
  have h:Yt s p (db t):=h;unfold Jb1;rw [h.fol (by decide),J83 (by have:=ht.hd;omega),if_neg (by decide),lowL,J92];exact Rds.ok h.sp
 | x::l,acc,k+1,p,hk,h,hl=>by
  rw [mulT,List.cons_append,Y8 (by show(42:UInt8).toNat≠32;decide),J89] at h;unfold Jb1;rw [h.fol (by decide),J84 (show hd0 (42::_)=42 from rfl),if_pos rfl];obtain⟨h1,h2,h3,h4⟩:=hl x (by simp);have hn:=h.next;have hh:hd0 ((txE x).f++(mulT l++t))≠32:=by
   unfold Tx.f;rw [qp,Jat]
   split
   ·exact(by decide:(40:UInt8).toNat≠32)
   ·rename_i hb
    exact(((qn x h1).1 (fun e=>hb (.inl e)) (fun e=>hb (.inr (.inl e))) (by
     cases hn:negB x.op x.c.q with
     | true=>exact absurd (.inr (.inr hn)) hb
     | false=>rfl)).ne _).1
  rw [Y8 hh] at hn
  refine(pw_f h1 h2 h3 h4 hn ht.fe ht.n94).th fun q hq=>?_
  have:=Jcu ht l (acc++[lowE x]) k q (by simpa using hk) hq fun y hy=>hl y (by simp [hy])
  rwa [J89] at this
theorem Jwy{op:Int}(h:2≤l.length):Kg op l=eOp op [] l:=by
 match l,h with
 | _::_::_,_=>rfl
theorem Jg7:(lowL l).length=l.length:=by rw [Yh,List.length_map]
theorem Jmu(hg:Gd a)(h1:a.op=1):negE (.mk 1 [] (ofQ (-a.c.q)) [] [])=lowE a:=by
 rw [Jfo hg h1];unfold negE
 show GExpr.mk 1 [] (ofQ (-(ofQ (-a.c.q)).q)) [] []=_
 rw [Yb,Rat.neg_neg]
theorem Jtn(hg:Gd a)(h1:a.op=1)(h: -a.c.q=1):eNum (-1) 1=lowE a:=by
 rw [Jfo hg h1]
 have:a.c.q=Rat.divInt (-1) 1:=by
  have h2:a.c.q= -1:=by rw [← h,Rat.neg_neg]
  rw [h2];rfl
 rw [this];rfl
theorem Jqz{P:GExpr→Prop}(h:∀ i,i < l.length→P (l.getD i default)):∀ x ∈ l,P x:=by
 intro x hx;obtain⟨i,hi,rfl⟩:=List.mem_iff_getElem.1 hx
 have:=h i hi
 rwa [J9d,J9f hi] at this
theorem Jd5(hg:Gd a)(hW:Lw s S (lvlE a))(h10:a.op=10→HW s S a∧o+1+lvlE a≤64)(ho:o+lvlE a≤64)(h:Yt s p (sgE a++t))(ht:Pe t):Rds s (Kz s S (miE a) o p) (lowE a) (db t):=by
 have hf:Fe t:=ht.fe (l:=[]);have h94:hd0 (db t)≠94:=ht.n94 (l:=[]);have one:∀ {x:GExpr} {b:Bool} {m:Bool} {y:GExpr},Rds s (powM s S o p) (x,b) (db t)→Kg 11 (negL m b [x])=y→Rds s (Kz s S m o p) y (db t):=by
  intro x b m y hp hy;unfold Kz;refine hp.th fun q hq=>?_
  have hq':Yt s q (db (mulT []++t)):=hq
  refine(Jcu ht [] [x] (s.length+1) q (by simp) hq' (by simp)).th fun q hq=>?_
  rw [lowL,J92]
  show Rds s (Rr.ok (Kg 11 (negL m b [x])) q) y (db t)
  rw [hy];exact Rds.ok hq
 by_cases h1:a.op=10
 ·rw [(z6 h1).1] at h;rw [(z6 h1).2];exact one (Jla (Jt5 (by simpa using h) (h10 h1).2 hg (h10 h1).1) h94) rfl
 by_cases hn:negB a.op a.c.q=true
 ·rw [(zp hn).1] at h;rw [(zp hn).2];obtain⟨o1,hq⟩:=zr hn;exact one (Jla (Jt2 h hq hf) h94) (Jmu hg o1)
 have hn:negB a.op a.c.q=false:=by simpa using hn
 by_cases h11:¬ a.op=11
 ·have hs:=zj h1 hn h11;rw [hs.1] at h;rw [hs.2];exact one (Jyq hg h1 h11 hn hW ho h hf h94) rfl
 have h11:a.op=11:=Decidable.not_not.1 h11;have hl:=hg.a2 h11;have hc:=hg.parts.1;have en:a.n=[]:=len0 (by have:=hc.n2;rw [h11] at this;exact this);have elow:lowE a=Kg 11 (lowL a.args):=by rw [Jhf hg (by omega) (by omega),h11,en,Jwy (by rw [Jg7];exact hl)]
 have hgi:∀ i,i < a.args.length→Gd (a.args.getD i default)∧HW s S (a.args.getD i default)∧Lw s S (lvlE (a.args.getD i default))∧o+1+lvlE (a.args.getD i default)≤64:=by
  intro i hi;have h3:=ze hi;exact⟨hg.arg hi,hW _ (hg.arg hi) (by omega),fun x hx hx2=>hW x hx (by omega),by omega⟩
 have hmi:=Jc8 h11 hl;obtain⟨x,y,l,ea⟩:=lc2 hl;rw [ea] at hgi hmi hl elow;have g0:=hgi 0 (by simp);have g1:=hgi 1 (by simp);simp only [J9u,List.getD_cons_succ] at g0 g1 hmi;have gy:∀ z ∈ y::l,Gd z∧HW s S z∧Lw s S (lvlE z)∧o+1+lvlE z≤64:=fun z hz=>Jqz (P:=fun z=>Gd z∧HW s S z∧Lw s S (lvlE z)∧o+1+lvlE z≤64) hgi z (List.mem_cons_of_mem _ hz);have gl:∀ z ∈ l,Gd z∧HW s S z∧Lw s S (lvlE z)∧o+1+lvlE z≤64:=fun z hz=>gy z (List.mem_cons_of_mem _ hz);have hlen:=h.le;rw [J8z] at hlen;rw [← hmi,elow]
 cases hn0:negB x.op x.c.q with
 | false=>
  have e:=sg_p h11 (by rw [ea];exact hl) (by rw [ea];exact hn0);rw [ea,J9t,txL,facT,J93,join_cons] at e;have e2:joinTail [42] (List.map Tx.f (txL (y::l)))=mulT (y::l):=Qu _;rw [e2] at e;rw [e,J89] at h;rw [e,J8z] at hlen;have hml:=Jct (y::l);unfold Kz
  refine(pw_f g0.1 g0.2.1 g0.2.2.1 g0.2.2.2 h ht.fe ht.n94).th fun q hq=>?_
  refine(Jcu ht (y::l) [lowE x] (s.length+1) q (by omega) hq gy).th fun q hq=>?_
  show Rds s (Rr.ok (Kg 11 (lowL (x::y::l))) q) _ _
  exact Rds.ok hq
 | true=>
  obtain⟨o1,hq⟩:=zr hn0
  by_cases hc:¬ (-x.c.q=1)∨y.op=1
  ·have e:=Jhx h11 (by rw [ea];exact hl) (by rw [ea];exact hn0) (by rw [ea];exact hc);rw [ea,List.drop_succ_cons,List.drop_zero,J9u,List.singleton_append,join_cons,Qu] at e;rw [e,J89] at h;rw [e,J8z] at hlen;have hml:=Jct (y::l);unfold Kz
   refine(Jla (Jt2 h hq ht.fe) ht.n94).th fun q hq=>?_
   refine(Jcu ht (y::l) _ (s.length+1) q (by omega) hq gy).th fun q hq=>?_
   show Rds s (Rr.ok (Kg 11 (negE (.mk 1 [] (ofQ (-x.c.q)) [] [])::lowL (y::l))) q) _ _
   rw [Jmu g0.1 o1];exact Rds.ok hq
  ·have hc1: -x.c.q=1:=Decidable.not_not.1 fun k=>hc (.inl k);have hc2:¬ y.op=1:=fun k=>hc (.inr k);have e:=Jfd h11 (by rw [ea];exact hl) (by rw [ea];exact hn0) (by rw [ea];exact hc1) (by rw [ea];exact hc2);rw [ea,List.drop_succ_cons,List.drop_zero,J9t,txL,facT,J93,join_cons] at e;have e2:joinTail [42] (List.map Tx.f (txL l))=mulT l:=Qu _;rw [e2] at e;rw [e,J89] at h;rw [e,J8z] at hlen;have hml:=Jct l;unfold Kz
   refine(pw_f g1.1 g1.2.1 g1.2.2.1 g1.2.2.2 h ht.fe ht.n94).th fun q hq=>?_
   refine(Jcu ht l [lowE y] (s.length+1) q (by omega) hq gl).th fun q hq=>?_
   rw [J83 hc2,Bool.false_and]
   show Rds s (Rr.ok (Kg 11 (eNum (-1) 1::lowL (y::l))) q) _ _
   rw [Jtn g0.1 o1 hc1];exact Rds.ok hq
theorem Jsb{l:List GExpr}(hr:En r):Pe (sumR (txL l)++r):=by
 cases l with
 | nil=>exact hr.pe
 | cons x l=>
  rw [txL,sumR]
  split
  ·exact⟨vy (by decide),.inr (.inr (.inr (.inr rfl)))⟩
  ·exact⟨vy (by decide),.inr (.inr (.inl rfl))⟩
theorem Jek(hr:En r):∀ (l acc:List GExpr) (k p:Nat),l.length < k→Yt s p (db (sumR (txL l)++r))→(∀ x ∈ l,Gd x∧HW s S x∧Lw s S (lvlE x)∧o+1+lvlE x≤64)→Rds s (sumL s S o k acc p) (acc++lowL l) r
 | l,acc,0,p,hk,_,_=>absurd hk (J9m _)
 | [],acc,k+1,p,_,h,_=>by
  have h:Yt s p (db r):=h;rw [hr.db] at h;have hh:¬ hd0 r=43∧¬ hd0 r=45:=by
   rcases hr with rfl | h | h
   ·exact⟨by decide,by decide⟩
   ·omega
   ·omega
  unfold sumL;rw [h.fol (by decide),J83 hh.1,if_neg (by decide),h.fol (by decide),J83 hh.2,if_neg (by decide),lowL,J92];exact Rds.ok h.sp
 | x::l,acc,k+1,p,hk,h,hl=>by
  obtain⟨h1,h2,h3,h4⟩:=hl x (by simp);have hg:=(qn x h1).2;have go:∀ q m,miE x=m→Yt s q (sgE x++(sumR (txL l)++r))→Rds s ((Kz s S m o q).th fun a q=>sumL s S o k (acc++[a]) q) (acc++lowL (x::l)) r:=by
   intro q m hm hq;subst hm
   refine(Jd5 h1 h3 (fun _=>⟨h2,h4⟩) (by omega) hq (Jsb hr)).th fun q hq=>?_
   have:=Jek hr l (acc++[lowE x]) k q (by simpa using hk) hq fun y hy=>hl y (by simp [hy])
   rwa [J89] at this
  rw [txL,sumR] at h;unfold sumL
  cases hm:miE x with
  | true=>
   unfold miE at hm;rw [hm,if_pos rfl] at h;have h:Yt s p (45::32::(sgE x++(sumR (txL l)++r))):=by
    have e:db ([32,45,32]++(txE x).sg++sumR (txL l)++r)=45::32::(sgE x++(sumR (txL l)++r)):=by
     simp only [J89];rfl
    rwa [e] at h
   rw [h.fol (by decide),J83 (show ¬ hd0 (45::_)=43 by show ¬ (45:UInt8).toNat=43;decide),if_neg (by decide),h.fol (by decide),J84 (show hd0 (45::_)=45 from rfl),if_pos rfl];have hq:=h.next;rw [Jh9,Y8 (hg.ne _).1] at hq;exact go _ _ hm hq
  | false=>
   unfold miE at hm;rw [hm,if_neg (by decide)] at h;have h:Yt s p (43::32::(sgE x++(sumR (txL l)++r))):=by
    have e:db ([32,43,32]++(txE x).sg++sumR (txL l)++r)=43::32::(sgE x++(sumR (txL l)++r)):=by
     simp only [J89];rfl
    rwa [e] at h
   rw [h.fol (by decide),J84 (show hd0 (43::_)=43 from rfl),if_pos rfl];have hq:=h.next;rw [Jh9,Y8 (hg.ne _).1] at hq;exact go _ _ hm hq
theorem Jvi(hg:Gd a)(hW:Lw s S (lvlE a))(ho:o+lvlE a≤64)(h:Yt s p (wrE a++r))(hr:En r):Rds s (sumF s S o p) (lowE a) r:=by
 have start:∀ {x:GExpr} {u:By},Gd x→Yt s p ((if miE x=true then [45] else [])++(sgE x++u))→folB s p 45=miE x∧Yt s (fpM s p 45) (sgE x++u):=by
  intro x u hx h;have hgx:=(qn x hx).2
  cases hm:miE x with
  | true=>
   rw [hm,if_pos rfl] at h;have h:Yt s p (45::(sgE x++u)):=h;have e:folB s p 45=true:=by rw [h.fol (by decide)];rfl
   refine⟨e,?_⟩;unfold fpM;rw [if_pos e]
   have:=h.next
   rwa [Y8 (hgx.ne _).1] at this
  | false=>
   rw [hm,if_neg (by decide),J9t] at h;have e:folB s p 45=false:=by rw [h.fol (by decide)];exact J83 (hgx.ne _).2.1
   refine⟨e,?_⟩;unfold fpM;rw [if_neg (by rw [e];decide)];exact h.sp
 have hlen:=h.le;rw [J8z] at hlen
 by_cases h10:a.op=10
 ·have hl:=ca2 hg.parts.1 (.inl h10);have hc:=hg.parts.1;have en:a.n=[]:=len0 (by have:=hc.n2;rw [h10] at this;exact this);have elow:lowE a=Kg 10 (lowL a.args):=by rw [Jhf hg (by omega) (by omega),h10,en,Jwy (by rw [Jg7];exact hl)]
  have hgi:∀ i,i < a.args.length→Gd (a.args.getD i default)∧HW s S (a.args.getD i default)∧Lw s S (lvlE (a.args.getD i default))∧o+1+lvlE (a.args.getD i default)≤64:=by
   intro i hi;have h3:=ze hi;exact⟨hg.arg hi,hW _ (hg.arg hi) (by omega),fun x hx hx2=>hW x hx (by omega),by omega⟩
  obtain⟨x,y,l,ea⟩:=lc2 hl;rw [vj h10] at h hlen;rw [ea] at hgi elow h hlen;have g0:=hgi 0 (by simp);simp only [J9u] at g0;have gy:∀ z ∈ y::l,Gd z∧HW s S z∧Lw s S (lvlE z)∧o+1+lvlE z≤64:=fun z hz=>Jqz (P:=fun z=>Gd z∧HW s S z∧Lw s S (lvlE z)∧o+1+lvlE z≤64) hgi z (List.mem_cons_of_mem _ hz);have hml:=Jgv (y::l);rw [txL,sumT] at h hlen;rw [J8z] at hlen;have h:Yt s p ((if miE x=true then [45] else [])++(sgE x++(sumR (txL (y::l))++r))):=by
   simp only [J89] at h;exact h
  obtain⟨e1,e2⟩:=start g0.1 h;unfold sumF;rw [e1,elow]
  refine(Jd5 g0.1 g0.2.2.1 (fun _=>⟨g0.2.1,g0.2.2.2⟩) (by omega) e2 (Jsb hr)).th fun q hq=>?_
  refine(Jek hr (y::l) [lowE x] (s.length+1) q (by omega) hq gy).th fun q hq=>?_
  show Rds s (Rr.ok (Kg 10 (lowL (x::y::l))) q) _ _
  exact Rds.ok hq
 ·rw [Jaa h10,J89] at h;obtain⟨e1,e2⟩:=start hg h;unfold sumF;rw [e1]
  refine(Jd5 hg hW (fun e=>absurd e h10) ho e2 hr.pe).th fun q hq=>?_
  have hq':Yt s q (db (sumR (txL [])++r)):=hq
  refine(Jek hr [] [lowE a] (s.length+1) q (by simp) hq' (by simp)).th fun q hq=>?_
  rw [lowL,J92];exact Rds.ok hq
theorem Jlv(s:By):∀ (k:Nat) (a:GExpr),Gd a→lvlE a≤k→HW s (sumM s k) a
 | 0,a,_,h=>by rw [Ky] at h;omega
 | k+1,a,hg,h=>fun o p r ho hp hr=>by
  show Rds s (sumF s (sumM s k) o p) _ _
  exact Jvi hg (fun x hx hl=>Jlv s k x hx (by omega)) ho hp hr
end
theorem Jjh{t:By}(h:gh t):1≤t.length:=by obtain⟨c,r,rfl,_⟩:=h;simp
theorem vh{l:List GExpr}{k:Nat}(h:∀ i,i < l.length→lvlE (l.getD i default)≤k):lvlL l≤k:=by
 induction l with
 | nil=>exact J9h _
 | cons x l ih=>
  rw [lvlL];have h0:=h 0 (by simp);have h1:=ih fun i hi=>by have:=h (i+1) (by simpa using hi);simpa only [List.getD_cons_succ] using this
  simp only [J9u] at h0;omega
theorem Jf5(b:Bool):∀ {l:List GExpr} {i:Nat},i < l.length→(wrE (l.getD i default)).length≤(Xe b (txL l)).length
 | [],i,h=>absurd h (J9m _)
 | a::l,0,h=>by
  rw [txL,Xe,J8z,J8z,J9u];unfold wrE;omega
 | a::l,i+1,h=>by
  have:=Jf5 true (l:=l) (i:=i) (by simpa using h)
  rw [txL,Xe,J8z,J8z,List.getD_cons_succ];omega
theorem Jmd:∀ {l:List GExpr} {i:Nat},i < l.length→(txE (l.getD i default)).f.length+l.length≤(join (facT (txL l)) [42]).length+1∨(∃ j,j < l.length∧¬ gh (txE (l.getD j default)).f)
 | [],i,h=>absurd h (J9m _)
 | a::l,0,h=>by
  left
  have:=Jct l
  rw [txL,facT,J93,join_cons];have e2:joinTail [42] (List.map Tx.f (txL l))=mulT l:=Qu _;rw [e2,J8z,J9u,J80];omega
 | a::l,i+1,h=>by
  have hi:i < l.length:=by simpa using h
  rcases Classical.em (gh (txE a).f) with hg | hg
  ·rcases Jmd hi with h1 | ⟨j,hj,h1⟩
   ·left
    have g1:=Jjh hg
    cases l with
    | nil=>simp at hi
    | cons y l=>
     rw [txL,facT,J93,join_cons] at h1 ⊢;rw [txL,J93];have e2:joinTail [42] (List.map Tx.f (txL l))=mulT l:=Qu _;have e3:joinTail [42] ((txE y).f::List.map Tx.f (txL l))=42::((txE y).f++mulT l):=by
      unfold joinTail at *;rw [J93,List.flatten_cons,e2];rfl
     rw [e2,J8z] at h1;rw [e3,List.getD_cons_succ];simp only [J80,J8z] at h1 ⊢;omega
   ·exact .inr ⟨j+1,by simpa using hj,by simpa only [List.getD_cons_succ] using h1⟩
  ·exact .inr ⟨0,by simp,by simpa only [J9u] using hg⟩
theorem Jff:∀ {l:List GExpr} {i:Nat},i < l.length→(sgE (l.getD i default)).length+3≤(sumR (txL l)).length
 | [],i,h=>absurd h (J9m _)
 | a::l,0,h=>by
  rw [txL,sumR,J8z,J8z,J9u]
  have:(if(txE a).mi=true then([32,45,32]:By) else [32,43,32]).length=3:=by split <;> rfl
  unfold sgE;omega
 | a::l,i+1,h=>by
  have:=Jff (l:=l) (i:=i) (by simpa using h)
  rw [txL,sumR,J8z,J8z,List.getD_cons_succ];omega
theorem Jk8{l:List GExpr}{i:Nat}(h:i < l.length)(h2:2≤l.length):(sgE (l.getD i default)).length+3≤(sumT (txL l)).length:=by
 match l,h,h2 with
 | x::y::l,h,_=>
  have h0:=Jff (l:=y::l) (i:=0) (by simp);rw [txL,sumT,J8z,J8z]
  cases i with
  | zero=>rw [J9u];unfold sgE;omega
  | succ i=>
   have:=Jff (l:=y::l) (i:=i) (by simpa using h)
   rw [List.getD_cons_succ];omega
theorem f_gh{a:GExpr}(hg:Gd a):gh (txE a).f:=by
 unfold Tx.f;rw [qp,Jat]
 split
 ·exact gh_c rfl
 ·rename_i hb
  exact(qn a hg).1 (fun e=>hb (.inl e)) (fun e=>hb (.inr (.inl e))) (by
   cases hn:negB a.op a.c.q with
   | true=>exact absurd (.inr (.inr hn)) hb
   | false=>rfl)
theorem Jm5:∀ a:GExpr,Gd a→(¬ a.op=10→¬ a.op=11→negB a.op a.c.q=false→lvlE a≤(plE a).length)∧lvlE a≤(sgE a).length+1∧lvlE a≤(wrE a).length:=va fun a ih=>by
 intro hg;have h1:a.args=[]→lvlE a=1:=fun e=>by rw [Ky,e,lvlL]
 have hgi:∀ i,i < a.args.length→Gd (a.args.getD i default):=fun i hi=>hg.arg hi;have hc:=hg.parts.1;have key:¬ a.op=10→¬ a.op=11→negB a.op a.c.q=false→lvlE a≤(plE a).length:=by
  intro h10 h11 hn
  cases hl:a.args with
  | nil=>rw [h1 hl];exact Jjh ((qn a hg).1 h10 h11 hn)
  | cons x l=>
   have hl0:0 < a.args.length:=by rw [hl];simp
   have ho:12≤a.op:=by
    have h2:=hc.a2;have o1:=hc.o1
    rcases Classical.em (12≤a.op) with h | h
    ·exact h
    ·exfalso
     have:cD a.op=0:=by unfold cD;(repeat' split) <;> omega
     omega
   have o2:=hc.o2;rw [Ky]
   by_cases h12:a.op=12
   ·have a2:=hc.a2;have hlen:a.args.length=1:=by rw [h12] at a2;have:cD 12=1:=rfl;omega
    rw [← Jez h12 hl0 rfl,J8z,J8z];have hw:=(ih 0 hl0 (hgi 0 hl0)).2.2;have hb:(wrE (a.args.getD 0 default)).length≤(V2 (txE (a.args.getD 0 default))).length:=by
     unfold V2
     split
     ·rw [J8z,J8z];unfold wrE;omega
     ·exact J9g _
    have:lvlL a.args≤(wrE (a.args.getD 0 default)).length:=vh fun i hi=>by
     obtain rfl:i=0:=by omega
     exact hw
    simp only [J82];omega
   ·have hcall:∃ nm:By,plE a=Zf nm a.n (txL a.args):=by
     have:a.op=13∨a.op=14∨a.op=15∨a.op=16∨a.op=17∨a.op=18:=by omega
     rcases this with h | h | h | h | h | h
     ·exact⟨_,(Jol h).symm⟩
     ·exact⟨_,(Jpb h).symm⟩
     ·exact⟨_,(Jns h).symm⟩
     ·exact⟨_,(Jpz h).symm⟩
     ·exact⟨_,(Jn8 h).symm⟩
     ·exact⟨_,(Jnx h).symm⟩
    obtain⟨nm,e⟩:=hcall;rw [e];unfold Zf
    have:lvlL a.args≤(Xe (decide (¬ a.n=[])) (txL a.args)).length:=vh fun i hi=>J86 (ih i hi (hgi i hi)).2.2 (Jf5 _ hi)
    simp only [J8z,J80,J81];omega
 by_cases h10:a.op=10
 ·have hl:=ca2 hc (.inl h10);have hs:lvlE a≤(wrE a).length:=by
   rw [Ky,vj h10]
   have:lvlL a.args+1≤(sumT (txL a.args)).length:=by
    have h0:=Jk8 (l:=a.args) (i:=0) (by omega) hl
    have:lvlL a.args≤(sumT (txL a.args)).length - 1:=vh fun i hi=>by
     have h2:=(ih i hi (hgi i hi)).2.1;have h3:=Jk8 hi hl;omega
    omega
   exact this
  refine⟨key,?_,hs⟩;rw [(z6 h10).1];simp only [J8z,J80,J81];omega
 by_cases hn:negB a.op a.c.q=true
 ·have ea:a.args=[]:=len0 (by have:=hc.a2;rw [(zr hn).1] at this;exact this);rw [Jaa h10,(zp hn).2,if_pos rfl,h1 ea];refine⟨fun _ _ h=>(by rw [hn] at h;cases h),by omega,?_⟩;rw [J8z,J82];omega
 have hn:negB a.op a.c.q=false:=by simpa using hn
 by_cases h11:¬ a.op=11
 ·have hs:=zj h10 hn h11;rw [Jaa h10,hs.2,hs.1,if_neg (by decide),J9t];exact⟨key,Nat.le_succ_of_le (key h10 h11 hn),key h10 h11 hn⟩
 have h11:a.op=11:=Decidable.not_not.1 h11;have hl:=hg.a2 h11;refine⟨fun _ h=>absurd h11 h,?_⟩;have hfl:∀ i,i < a.args.length→lvlE (a.args.getD i default)≤(txE (a.args.getD i default)).f.length:=by
  intro i hi;have hI:=ih i hi (hgi i hi)
  by_cases hb:(a.args.getD i default).op=10∨(a.args.getD i default).op=11∨negB (a.args.getD i default).op (a.args.getD i default).c.q=true
  ·rw [← fa_1 hb,J8z,J8z];have:=hI.2.2;omega
  ·have hh:negB (a.args.getD i default).op (a.args.getD i default).c.q=false:=by
    cases hn:negB (a.args.getD i default).op (a.args.getD i default).c.q with
    | true=>exact absurd (.inr (.inr hn)) hb
    | false=>rfl
   rw [← fa_0 (fun e=>hb (.inl e)) (fun e=>hb (.inr (.inl e))) hh];exact hI.1 (fun e=>hb (.inl e)) (fun e=>hb (.inr (.inl e))) hh
 have hfac:∀ {l:List GExpr},(∀ i,i < l.length→Gd (l.getD i default)∧lvlE (l.getD i default)≤(txE (l.getD i default)).f.length)→0 < l.length→lvlL l+l.length≤(join (facT (txL l)) [42]).length+1:=by
  intro l h0 hl0
  have:∀ i,i < l.length→lvlE (l.getD i default)+l.length≤(join (facT (txL l)) [42]).length+1:=fun i hi=>by
   rcases Jmd hi with h1 | ⟨j,hj,h1⟩
   ·have:=(h0 i hi).2;omega
   ·exact absurd (f_gh (h0 j hj).1) h1
  have h1:lvlL l≤(join (facT (txL l)) [42]).length+1 - l.length:=vh fun i hi=>by have:=this i hi;omega
  have h2:=this 0 hl0;omega
 rw [Jaa h10]
 cases hn0:negB (a.args.getD 0 default).op (a.args.getD 0 default).c.q with
 | false=>
  rw [(Jc8 h11 hl).symm,hn0,if_neg (by decide),J9t,sg_p h11 hl hn0,J9t,Ky]
  have:=hfac (l:=a.args) (fun i hi=>⟨hgi i hi,hfl i hi⟩) (by omega)
  omega
 | true=>
  rw [(Jc8 h11 hl).symm,hn0,if_pos rfl,J8z,J82,Ky];have h3:=hfac (l:=a.args.drop 1) (zl (a:=a) (P:=fun x=>Gd x∧lvlE x≤(txE x).f.length) fun i hi=>⟨hgi i hi,hfl i hi⟩) (by rw [J9a];omega);rw [J9a] at h3;have e0:lvlL a.args=max 1 (lvlL (a.args.drop 1)):=by
   cases hh:a.args with
   | nil=>rw [hh] at hl;simp at hl
   | cons x l=>
    have hx:lvlE x=1:=by
     have hi:=hgi 0 (by rw [hh];simp);rw [hh,J9u] at hi hn0;have ea:x.args=[]:=len0 (by have:=hi.parts.1.a2;rw [(zr hn0).1] at this;exact this);rw [Ky,ea,lvlL]
    rw [lvlL,hx,List.drop_succ_cons,List.drop_zero]
  have h4:=Jjh (qn a hg).2
  by_cases hc:¬ (-(a.args.getD 0 default).c.q=1)∨(a.args.getD 1 default).op=1
  ·have e:=Jhx h11 hl hn0 hc;have e5:(sgE a).length=(qTxt (-(a.args.getD 0 default).c.q)).length+((join (facT (txL (a.args.drop 1))) [42]).length+1):=by
    rw [e,List.singleton_append,join_cons,J8z]
    congr 1
    cases hh:a.args.drop 1 with
    | nil=>have:=J87 List.length hh;rw [J9a] at this;simp at this;omega
    | cons y l=>
     rw [txL,facT,J93,join_cons];unfold joinTail;rw [J93,List.flatten_cons];simp only [J8z,J80,J81];omega
   omega
  ·have hc1: -(a.args.getD 0 default).c.q=1:=Decidable.not_not.1 fun k=>hc (.inl k);have hc2:¬ (a.args.getD 1 default).op=1:=fun k=>hc (.inr k);have e:=Jfd h11 hl hn0 hc1 hc2;rw [J9t] at e;rw [← e] at h3;omega
theorem Jtw:∀ a:GExpr,lvlE (lowE a)≤lvlE a:=va fun a ih=>by
 rw [Ky (lowE a),Ky a,Qq]
 have:lvlL (lowL a.args)≤lvlL a.args:=vh fun i hi=>by
  have hi':i < a.args.length:=by simpa [Yh] using hi
  rw [Yh,Jmn hi']
  have:=ih i hi';have:=J0p hi';omega
 show lvlL (lowL a.args)+1≤_
 omega
theorem Jle{a:GExpr}(h:Zs a=0):Zs (lowE a)=0:=by
 unfold Zs at h ⊢
 split at h
 ·rename_i hc
  have h1:=Jt0 a;rw [if_pos ⟨by omega,by have:=Jtw a;omega⟩];exact Jtl a h
 ·simp at h
theorem Jwq{a:GExpr}(h:Zs a=0)(hg:Gd a)(hl:(wrE a).length≤4000):Yz (wrE a)=(lowE a,0,0):=by
 have hlv:lvlE a≤12:=by
  unfold Zs at h
  split at h
  ·rename_i hc;exact hc.2
  ·simp at h
 have h0:Yt (wrE a) 0 (wrE a++[]):=by
  have h1:Yt (wrE a) 0 (db (wrE a)):=Yt.of (List.drop_zero ..);rw [Y8 (by have:=Jfc hg [];rwa [J92] at this)] at h1;rw [J92];exact h1
 obtain⟨q,hq,hy⟩:=Jlv (wrE a) ((wrE a).length+1) a hg (Nat.le_succ_of_le (Jm5 a hg).2.2) 0 0 [] (by omega) h0 (.inl rfl);have h1:(wrE a).length≤spM (wrE a) q:=List.drop_eq_nil_iff.1 hy;unfold Yz;rw [if_neg (by omega)];unfold zd;rw [hq,Rr.th_ok,if_neg (by omega)]
 show(if Zs (lowE a)=0 then(lowE a,0,0) else(Vj,0,Zs (lowE a)))=_
 rw [if_pos (Jle h)]
section
variable {a q m:List Nat} {j r:Nat}
theorem tn_lt(hr:r < 10)(hx:a.getD (j - 1) 0 < 4294967296):(r * 4294967296+a.getD (j - 1) 0) / 10 % 4294967296=(r * 4294967296+a.getD (j - 1) 0) / 10:=Nat.mod_eq_of_lt (by omega)
theorem Jwc(h0:0 < j)(hj:j≤a.length)(hr:r < 10)(hx:a.getD (j - 1) 0 < 4294967296)(hv:val q * 10+r=val (a.drop j)):
  val (((r * 4294967296+a.getD (j - 1) 0) / 10 % 4294967296)::q) * 10+(r * 4294967296+a.getD (j - 1) 0) % 10=val (a.drop (j - 1)):=by
 rw [tn_lt hr hx];exact Jan h0 hj hv
theorem Jmo(hm:Jn m):val (trim (Jq m.length (val m / 10)))=val m / 10:=by
 rw [Y2,Zd _ _ (J91 (Nat.div_le_self _ _) (Zp _ hm))]
theorem Jmh(hm:Jn m):((((trim (Jq m.length (val m / 10))).length:Nat):Int)=0)↔val m < 10:=by
 have h:=Jmo hm;have ht:trim (Jq m.length (val m / 10))=digs (val m / 10):=by
  rw [X5 (J0 _ _),Zd _ _ (J91 (Nat.div_le_self _ _) (Zp _ hm))]
 constructor
 ·intro h2
  have:trim (Jq m.length (val m / 10))=[]:=J9n (by omega)
  rw [this] at h;have h:0=val m / 10:=h;omega
 ·intro h2;have h3:val m / 10=0:=Nat.div_eq_of_lt h2;rw [ht,h3]
  have:digs 0=[]:=by rw [digs];rfl
  rw [this];rfl
end
section
variable {m:List Nat} {N:Nat} {s:List UInt8}
theorem Jgq(h:N < 10):decDigits N=[dgB N]:=by rw [decDigits_one h,dgB,Nat.mod_eq_of_lt h]
theorem Jj4(h:¬ N < 10):decDigits N=decDigits (N / 10)++[dgB N]:=by
 conv=>lhs;rw [decDigits,dif_neg (by omega)]
 rfl
theorem Ju1(hm:Jn m)(h:decDigits N=decDigits (val m)++s)(h2:¬ (((trim (Jq m.length (val m / 10))).length:Nat):Int)=0):
  decDigits N=decDigits (val (trim (Jq m.length (val m / 10))))++([dgB (val m % 10)]++s):=by
 rw [Jmo hm,h,Jj4 (fun k=>h2 ((Jmh hm).2 k)),J89,Jbe (Nat.mod_mod _ _)]
theorem Jro(hm:Jn m)(h:decDigits N=decDigits (val m)++s)(h2:(((trim (Jq m.length (val m / 10))).length:Nat):Int)=0):[dgB (val m % 10)]++s=decDigits N:=by
 rw [h,Jgq ((Jmh hm).1 h2),Jbe (Nat.mod_mod _ _)]
theorem Ju2{r:Nat}(h:r < 10):IntKind.u8.wrap (48+(r:Int))=(((dgB r).toNat:Nat):Int):=by
 rw [Jbn,Nat.mod_eq_of_lt h]
 have:IntKind.u8.wrap (48+(r:Int))=(48+(r:Int)) % 256:=rfl
 rw [this];omega
end
theorem Jym{m:List Nat}(hm:Jn m)(h2:¬ (((trim (Jq m.length (val m / 10))).length:Nat):Int)=0):val (trim (Jq m.length (val m / 10))) < val m:=by
 rw [Jmo hm]
 have:¬ val m < 10:=fun k=>h2 ((Jmh hm).2 k)
 omega
theorem Jyo{z:Int}{k:Nat}{s:List UInt8}(hl:(ofZ z).mag.length≤100000)(h:decDigits (val (ofZ z).mag)=decDigits k++s):s.length≤1000002:=by
 have h1:=yv z;have h2:=J87 List.length h;rw [J8z,Y7] at h2;have h3:(decDigits z.natAbs).length≤(itoa z).length:=by
  unfold itoa
  split
  ·rw [J80];omega
  ·have:z.toNat=z.natAbs:=by omega
   rw [this];exact J9g _
 omega
theorem Xp{n:Int}(h0: -1000000≤n)(h1:n≤1000000):(itoa n).length≤9:=
 Jbq n 7 (by have:(10:Nat) ^ (7+1)=100000000:=(by decide);omega)

theorem xf_ng{z:Int}{s:List UInt8}(h:(ofZ z).neg=true)(hs:s=decDigits (val (ofZ z).mag)):[45]++s=itoa z:=by
 rw [yh,decide_eq_true_eq] at h;have e:val (ofZ z).mag=z.natAbs:=Y7 z;rw [hs,e];unfold itoa;rw [if_pos h];rfl
theorem xf_ps{z:Int}{s:List UInt8}(h:(ofZ z).neg=false)(hs:s=decDigits (val (ofZ z).mag)):s=itoa z:=by
 rw [yh,decide_eq_false_iff_not] at h;have e:val (ofZ z).mag=z.natAbs:=Y7 z;rw [hs,e];unfold itoa;rw [if_neg h]
 congr 1;omega
theorem Jy6{n:Int}(h:n < 0):[45]++itoa (-n)=itoa n:=by
 unfold itoa;rw [if_neg (by omega),if_pos h]
 have:(-n).toNat=n.natAbs:=by omega
 rw [this];rfl
theorem J0f{n:Int}(h0:¬ n < 0)(h:n < 10):(([48,49,50,51,52,53,54,55,56,57]:List UInt8).take (n.toNat+1)).drop n.toNat=itoa n:=by
 obtain⟨k,rfl⟩:∃ k:Nat,n=k:=⟨n.toNat,by omega⟩;have hk:k < 10:=by omega
 rw [itoa_nonneg,Int.toNat_natCast,Jgq hk]
 have:∀ k,k < 10→(([48,49,50,51,52,53,54,55,56,57]:List UInt8).take (k+1)).drop k=[dgB k]:=by decide
 exact this k hk
theorem J1l{n:Int}(h:¬ n < 10):itoa (n / 10)++itoa (n % 10)=itoa n:=by
 obtain⟨k,rfl⟩:∃ k:Nat,n=k:=⟨n.toNat,by omega⟩;have e1:((k:Int) / 10)=((k / 10:Nat):Int):=by omega
 have e2:((k:Int) % 10)=((k % 10:Nat):Int):=by omega
 rw [e1,e2,itoa_nonneg,itoa_nonneg,itoa_nonneg,Jj4 (N:=k) (by omega),Jgq (N:=k % 10) (J9c _ (by decide)),Jbe (Nat.mod_mod _ _)]
theorem cm_0{l:List Int}:[]=Y3 (l.take 0):=by rw [List.take_zero];rfl
theorem Juw:∀ (l:List Int) (n:Int),l≠[]→Y3 (l++[n])=Y3 l++[44,32]++itoa n
 | [],n,h=>absurd rfl h
 | x::l,n,_=>by
  rw [List.cons_append,Kr,Kr]
  have:∀ l:List Int,Q4 (l++[n])=Q4 l++[44,32]++itoa n:=by
   intro l
   induction l with
   | nil=>simp [Q4]
   | cons y l ih=>rw [List.cons_append,Q4,Q4,ih];simp
  rw [this];simp
theorem Jln{l:List Int}{i:Nat}(hi:i < l.length):l.take (i+1)=l.take i++[l.getD i 0]:=by
 rw [List.take_succ_eq_append_getElem hi,J9d,J9f hi];rfl
theorem Jwh{l:List Int}{s:List UInt8}{i:Nat}(hs:s=Y3 (l.take i))(hi:i < l.length)(h0:(0:Int) < (i:Int)):(s++[44,32])++itoa (l.getD i 0)=Y3 (l.take (i+1)):=by
 have hne:l.take i≠[]:=by
  intro h
  have:=J87 List.length h
  rw [J9b,J81] at this;omega
 rw [Jln hi,Juw _ _ hne,hs]
theorem Jn7{l:List Int}{s:List UInt8}{i:Nat}(hs:s=Y3 (l.take i))(hi:i < l.length)(h0:¬ (0:Int) < (i:Int)):s++itoa (l.getD i 0)=Y3 (l.take (i+1)):=by
 obtain rfl:i=0:=by omega
 rw [Jln hi,hs,List.take_zero,J9t,Kr,Q4,J92];rfl
theorem Jy3{l:List Int}{s:List UInt8}{i:Nat}(hs:s=Y3 (l.take i))(hi:l.length≤i):s=Y3 l:=by rw [hs,J9o hi]
theorem Jlt{l:List Int}{i:Nat}:(Y3 (l.take i)).length≤lnI l:=by
 refine J86 (Y9 _) ?_
 have:∀ (l:List Int) (i:Nat),lnI (l.take i)≤lnI l:=by
  intro l
  induction l with
  | nil=>intro i;rw [List.take_nil];exact J9g _
  | cons x l ih=>
   intro i
   cases i with
   | zero=>rw [List.take_zero];exact J9h _
   | succ i=>rw [List.take_succ_cons,lnI,lnI];have:=ih i;omega
 exact this l i
def Tx.z(t:Tx):Tx:=if t.neg=true then t else⟨t.op,0,t.neg,t.w,t.sg,t.mi,t.p⟩
section
variable (t:Tx) (ts:List Tx)
theorem z_op:t.z.op=t.op:=by unfold Tx.z;split <;> rfl
theorem Jtj:t.z.neg=t.neg:=by unfold Tx.z;split <;> rfl
theorem z_w:t.z.w=t.w:=by unfold Tx.z;split <;> rfl
theorem z_sg:t.z.sg=t.sg:=by unfold Tx.z;split <;> rfl
theorem z_mi:t.z.mi=t.mi:=by unfold Tx.z;split <;> rfl
theorem z_p:t.z.p=t.p:=by unfold Tx.z;split <;> rfl
theorem z_f:t.z.f=t.f:=by unfold Tx.f;rw [z_op,Jtj,z_w,z_p]
theorem Jzs:V2 t.z=V2 t:=by unfold V2;rw [z_op,z_w]
theorem Jri(b:Bool):∀ ts:List Tx,Xe b (ts.map Tx.z)=Xe b ts
 | []=>rfl
 | t::l=>by
  have:=Jri true l
  rw [J93,Xe,Xe,this,z_w]
theorem J01(nm:By)(n:List Int):Zf nm n (ts.map Tx.z)=Zf nm n ts:=by unfold Zf;rw [Jri]
theorem Jqa:∀ ts:List Tx,sumR (ts.map Tx.z)=sumR ts
 | []=>rfl
 | t::l=>by rw [J93,sumR,sumR,Jqa l,z_mi,z_sg]
theorem Jy0:sumT (ts.map Tx.z)=sumT ts:=by
 cases ts with
 | nil=>rfl
 | cons t l=>rw [J93,sumT,sumT,Jqa l,z_mi,z_sg]
theorem Jw4:facT (ts.map Tx.z)=facT ts:=by
 unfold facT;rw [List.map_map];exact List.map_congr_left fun t _=>z_f t
theorem Joq(i:Nat):(ts.map Tx.z).getD i Tx0=(ts.getD i Tx0).z:=by
 rw [J9d,J9d,J94]
 cases ts[i]? with
 | none=>rfl
 | some t=>rfl
theorem z_q(h:t.neg=true):t.z.q=t.q:=by unfold Tx.z;rw [if_pos h]
theorem Jzh:Jai (ts.map Tx.z)=Jai ts:=by
 unfold Jai;rw [Joq,Joq,Jtj,z_op,Jw4,← List.map_drop,Jw4]
 split
 ·rename_i h;rw [z_q _ h]
 ·rfl
theorem Jvg(op:Int)(n:List Int)(q:Rat)(nm:By):Qb op n q nm (ts.map Tx.z)=Qb op n q nm ts:=by
 unfold Qb;simp only [J01,Joq,Jzs]
theorem z_mk(op:Int)(n:List Int)(q:Rat)(nm:By):mkT op n q nm (ts.map Tx.z)=mkT op n q nm ts:=by
 unfold mkT sgT miT;simp only [Jvg,Jzh,Jy0,Joq,Jtj]
theorem z_mk2{op:Int}{n:List Int}{q q':Rat}{nm:By}(h:op=1→q=q'):(mkT op n q nm ts).z=(mkT op n q' nm ts).z:=by
 by_cases h1:op=1
 ·rw [h h1]
 ·have e:∀ q,negB op q=false:=fun q=>by unfold negB;rw [J83 h1];rfl
  have e2:∀ q q',Qb op n q nm ts=Qb op n q' nm ts:=fun q q'=>by unfold Qb;rw [if_neg h1,if_neg h1]
  unfold mkT sgT miT Tx.z;simp only [e,e2 q q']
  rfl
end
theorem z_low:∀ a:GExpr,(txE (lowE a)).z=(txE a).z:=va fun a ih=>by
 have el:∀ l:List GExpr,(∀ i,i < l.length→(txE (lowE (l.getD i default))).z=(txE (l.getD i default)).z)→(txL (lowL l)).map Tx.z=(txL l).map Tx.z:=by
  intro l
  induction l with
  | nil=>intro _;rw [lowL]
  | cons x l ihl=>
   intro h;have h0:=h 0 (by simp);have h1:=ihl fun i hi=>by have:=h (i+1) (by simpa using hi);simpa only [List.getD_cons_succ] using this
   simp only [J9u] at h0;rw [lowL,txL,txL,J93,J93,h0,h1]
 rw [V5 (lowE a),V5 a,Qq]
 show(mkT a.op a.n (lowC a.op a.c).q a.name (txL (lowL a.args))).z=_
 rw [← z_mk (txL (lowL a.args)),el a.args ih,z_mk];exact z_mk2 _ fun h=>by rw [lowC,if_pos h,Yb]
theorem Jku(a:GExpr):wrE (lowE a)=wrE a:=by
 have h:=J87 Tx.w (z_low a)
 rwa [z_w,z_w] at h
end Go.Wf
namespace Go.Wf
open Go Go.Proofs Go.RowKit
theorem Jv8(N:Nat):∀ {X:Nat→Prop} {w:World} (hX:XB X w) {n:Int} (e: -1000000≤n) (g:n≤1000000) (hN:(n.natAbs+(n.natAbs - n.toNat)) < N),CRt 163 #[(.int .i64 n)] w fun v w'=>v=(str (Lib.itoa n)):=by
 induction N with
 | zero=>intro X w hX n e g hN;exact absurd hN<|J9m _
 | succ N ih=>
  intro X w hX n e g hN;have C:=J4z hX;refine Cgo (args:=[(.int .i64 n)]) Tryz.func163 rfl rfl rfl<|Rg<|Ua<|Rh<|Ub<|J5c rfl rfl (fun a=>?_)<|fun a=>?_
  ·refine Nl (Uf<|Ub<|St.neg (z:=(-n)) rfl (vk (by omega))<|Ol<|J4p C zh rfl rfl (ih C.bd (by omega) (by omega) (by omega)) ?_);intro A B m D o;subst o;exact Ol<|J43 rfl rfl (by have p:maxLen=9223372036854775807:=rfl;have:=Xp (n:= -n) (by omega) (by omega);simp only [J82];omega)<|Ua<|J4y<|Wq rfl rfl m<|J87 (str)<|(Jy6 a)
  refine Nl<|Uc<|Rh<|Ub<|J5c rfl rfl (fun b=>?_)<|fun b=>?_
  ·exact Nl<|Uf<|Om<|Ub<|St.add (z:=(n+1)) rfl rfl (J9j _ (by omega))<|Ol<|J6s (i:=n.toNat) (j:=(n.toNat+1)) un9 rfl rfl rfl (by omega) (by omega) (by omega) (by simp only [J80,J81];omega)<|Ua<|J4y<|Wq rfl rfl C<|J87 (str)<|(J0f a b)
  refine Nl (Uc<|Rg<|Ub<|J6c rfl rfl (by decide) (IntWalk.i64_quo _ _ (by omega))<|Ol<|J4p C zh rfl rfl (ih C.bd (by omega) (by omega) (by omega)) ?_);intro E F d r h;subst h;refine Om (Ol<|J6p rfl rfl (by decide) (IntWalk.rem_in _ _ (by omega))<|Ol<|J4p d zh rfl rfl (ih d.bd (by omega) (by omega) (by omega)) ?_);intro s x k y l;subst l;exact Ol<|J43 rfl rfl (by have p:maxLen=9223372036854775807:=rfl;have G:=Xp (n:=n / 10) (by omega) (by omega);have H:=Xp (n:=n % 10) (by omega) (by omega);omega)<|Ua<|J4y<|Wq rfl rfl k<|J87 (str)<|(J1l b)
theorem qr{X:Nat→Prop}{w:World}(hX:XB X w){n:Int}(a: -1000000≤n)(b:n≤1000000):CRt 163 #[(.int .i64 n)] w fun v w'=>v=(str (Lib.itoa n)):=Jv8 ((n.natAbs+(n.natAbs - n.toNat))+1) hX a b (Nat.lt_succ_self _)
theorem Jbx{X:Nat→Prop}{w:World}(hX:XB X w){D:Value}{l:List Int}(d:RS Zi X w D l)(hln:lnI l≤1000000000)(hr:∀ n ∈ l,-1000000≤n∧n≤1000000):CRt 164 #[D] w fun v w'=>v=(str (Y3 l)):=by
 obtain⟨a1,p,rfl,_,_⟩:=d.len;have C:=J4z hX;have R:=ok_n (l:=l);have hri:∀ i,i < l.length→ -1000000≤l.getD i 0∧l.getD i 0≤1000000:=fun i hi=>hr _ (by rw [J9d,J9f hi];exact List.getElem_mem _);refine Cgo (args:=[(.slice a1 l.length p)]) Tryz.func164 rfl rfl rfl (Rg<|Ua<|Rg<|Ua<|Rh<|Ua<|W.block<|J5e (fun μ f v=>∃ (x y:Nat→Prop) (i:Nat) (s:List UInt8),Cx X w x y v∧f 0=(.slice a1 l.length p)∧f 2=(str [])∧f 4=(.int .i64 ((i:Nat):Int))∧f 3=(str s)∧RS Zi x v (.slice a1 l.length p) l∧i≤l.length∧s=Y3 (l.take i)∧μ=(l.length - i)) _ ⟨_,_,0,[],C,rfl,rfl,rfl,rfl,d,(J9h _),cm_0,rfl⟩ ?_);rintro S f3 w4 ⟨x5,y6,i,s,g,E,F,h,k,d,hi,hs,M⟩;obtain⟨T,rfl⟩:=rebK (aC E<|aC F<|aC h<|aC k aN);clear E F h k;refine Rh<|Om<|Ub<|St.len sl23 rfl<|Ol<|J5c rfl rfl (fun r=>?_)<|fun r=>?_
 ·refine Nl<|Ud<|J4v<|J40<|W.block<|Rh<|Ub<|J5o rfl rfl (fun e=>?_)<|fun e=>?_
  ·refine Nl (Uk<|Ub<|J43 rfl rfl (by have:=Jlt (l:=l) (i:=i);rw [← hs] at this;simp only [J8z,J80,J81];omega)<|Ua<|J4u<|Om<|Om<|Ub<|J49 (j:=i) (u:=(l.getD i 0)) d sl23 io3 rfl rfl rfl (Jc (by omega)) ?_);intro U V A m;obtain⟨rfl,N⟩:A=_∧_:=m.rd;refine Ol (J44 pl3 rfl (m.cell 0 _ rfl)<|Ol<|J4p g zh rfl rfl (qr g.bd (hri i (by omega)).1 (hri i (by omega)).2) ?_);intro Y Z G H I;replace d:=d.sp H;subst I;refine Ol (J43 rfl rfl (by have P:=Xp (hri i (by omega)).1 (hri i (by omega)).2;have:=Jlt (l:=l) (i:=i);rw [← hs] at this;(try simp only [J8z,J80,J81]);omega)<|Ua<|J4u<|Ub<|St.add rfl rfl (Ja (a:=i) (b:=1) (by omega))<|Oa<|Nl ?_);refine⟨_,(by omega),_,_,(i+1),((s++[44,32])++(Lib.itoa<|l.getD i 0)),G,rfl,rfl,rfl,rfl,d,(by omega),(Jwh hs (by omega) e),rfl⟩
  refine Nl (Uc<|J4u<|Om<|Om<|Ub<|J49 (j:=i) (u:=(l.getD i 0)) d sl23 io3 rfl rfl rfl (Jc (by omega)) ?_);intro aa ab B o;obtain⟨rfl,Q⟩:B=_∧_:=o.rd;refine Ol (J44 pl3 rfl (o.cell 0 _ rfl)<|Ol<|J4p g zh rfl rfl (qr g.bd (hri i (by omega)).1 (hri i (by omega)).2) ?_);intro ac ad J K L;replace d:=d.sp K;subst L;refine Ol (J43 rfl rfl (by have P:=Xp (hri i (by omega)).1 (hri i (by omega)).2;have:=Jlt (l:=l) (i:=i);rw [← hs] at this;(try simp only [J8z,J80,J81]);omega)<|Ua<|J4u<|Ub<|St.add rfl rfl (Ja (a:=i) (b:=1) (by omega))<|Oa<|Nl ?_);refine⟨_,(by omega),_,_,(i+1),(s++(Lib.itoa<|l.getD i 0)),J,rfl,rfl,rfl,rfl,d,(by omega),(Jn7 hs (by omega) e),rfl⟩
 exact Nl<|Ue<|J5i<|Rg<|Om<|Ua<|J4y<|Wq rfl rfl g<|J87 (str)<|(Jy3 hs (by omega))
theorem Juj{X:Nat→Prop}{w:World}(hX:XB X w){g:Value}{a:List Nat}(e:RS Je X w g a)(hla:a.length≤100000):CRt 214 #[g] w fun v w'=>(∃ g L,v= .tuple #[g,L]∧(RS Je X w' g (trim (Jq a.length (val a / 10))))∧(L=(.int .i64 ((val a % 10:Nat):Int)))):=by
 obtain⟨a1,I,rfl,_,_⟩:=e.len;have C:=J4z hX;have sa:=e.u32_small;refine Cgo (args:=[(.slice a1 a.length I)]) Tryz.func214 rfl rfl rfl (Rg<|Oa<|Ua<|Rg<|Ub<|St.len sl24 rfl<|Ol<|J51 (n:=a.length) C sl24 rfl rfl rfl (by omega) Jh (by decide) ?_);intro M w4 x5 y6 Z U V i;replace e:=e.sp V;refine Oa (Nl<|Rg<|Ua<|Rh<|Ub<|St.len sl24 rfl<|Ol<|St.sub (z:=(((a.length:Nat):Int) - 1)) rfl rfl (J9j _ (by omega))<|Ua<|W.block ?_);rw [← J92 (List.replicate a.length 0)] at i;refine J5e (fun μ f v=>∃ (x y:Nat→Prop) (j:Nat) (q:List Nat) (r:Nat),Cx X w x y v∧f 0=(.slice a1 a.length I)∧f 2=(.slice none 0 0)∧f 3=(.int .i64 0)∧f 4=(.slice (some ⟨M,0,none⟩) a.length a.length)∧f 6=(.int .i64 ((j:Int) - 1))∧f 5=(.int .u64 ((r:Nat):Int))∧RS Je x v (.slice a1 a.length I) a∧Own w y v M ((List.replicate j 0++q).map u32v) 118∧j≤a.length∧j+q.length=a.length∧Jn q∧r < 10∧val q * 10+r=val (a.drop j)∧μ=j) _ ⟨_,_,a.length,[],0,U,rfl,rfl,rfl,rfl,rfl,rfl,e,i,(J9g _),rfl,J6,(by decide),(by rw [J9s<|J9g _];simp [val]),rfl⟩ ?_;rintro aa ab ac ⟨N,ad,j,q,r,k,l,m,o,p,s,A,e,h,hj,hl,hq,hr,hv,T⟩;obtain⟨ae,rfl⟩:=rebK (aC l<|aC m<|aC o<|aC p<|aC s<|aC A aN);clear l m o p s A;have hxj:=Jj sa (j - 1);refine Rh<|Ub<|J50 rfl rfl (fun J=>?_)<|fun J=>?_
 ·refine Nl (Ud<|J4v<|J40<|W.block<|Rg<|Ub<|J6o rfl rfl (by decide) (Q1 (a:=r) (d:=4294967296) (by decide) (by omega))<|Om<|Ub<|J49 (j:=(j - 1)) (u:=(a.getD (j - 1) 0)) e sl24 Jh rfl rfl (by omega) (Jc (by omega)) ?_);intro af ag K B;obtain⟨rfl,Y⟩:K=_∧_:=B.rd;refine Ol (J44 Zj rfl (B.cell 0 _ rfl)<|Ol<|J48 (z:=(((a.getD (j - 1) 0):Nat):Int)) Z8 Z9 rfl (J9i _ (by omega))<|Ol<|St.add rfl rfl (J8 (a:=r * 4294967296) (b:=(a.getD (j - 1) 0)) (by omega))<|Ua<|Rg<|Om<|Om<|Ub<|J6c rfl rfl (by decide) (Xo (a:=(r * 4294967296)+(a.getD (j - 1) 0)) (b:=10) (by omega)) ?_);refine Ol (J48 (z:=(((((r * 4294967296)+(a.getD (j - 1) 0)) / 10) % 4294967296:Nat):Int)) Yl Yo rfl (Jk _)<|Ol<|J5s (j:=(j - 1)) sl24 Jh rfl rfl (by omega) (by omega)<|On<|J5p (j:=(j - 1)) (u:=(((r * 4294967296)+(a.getD (j - 1) 0)) / 10) % 4294967296) k h Jh rfl rfl (by rw [J8z,J88];omega) ?_);intro ah P Q D;replace e:=e.sp Q;rw [Jbh (by omega)] at D;refine Nl<|J4u<|Ub<|J6p rfl rfl (by decide) (Xr ((r * 4294967296)+(a.getD (j - 1) 0)) 10)<|Ua<|J4u<|Ub<|St.sub (z:=(((j:Int) - 1) - 1)) rfl rfl (J9j _ (by omega))<|Ua<|⟨_,(by omega),_,_,(j - 1),((((r * 4294967296)+(a.getD (j - 1) 0)) / 10) % 4294967296::q),((r * 4294967296)+(a.getD (j - 1) 0)) % 10,P,rfl,rfl,rfl,rfl,(J87 (Value.int .i64) (by omega)),rfl,e,D,(by omega),(by rw [J80];omega),(Zu (by omega) hq),(by omega),(Jwc (by omega) hj hr (Jj sa _) hv),rfl⟩
 refine Nl (Ue<|J5i<|J40 ?_);obtain⟨R,S⟩:=xw (by omega) hq hl hr hv;have E:=h.frRS (x:=N) (n:=a.length) (c:=a.length) (by rw [J8z,J88];omega) (J9g _) (by omega) (Zz (Kt _) hq);rw [J9o (by rw [J8z,J88];omega),R] at E;have F:=k.freeze hX h id;refine J4u (Ub<|J4p F Jei rfl rfl (xp F.bd E (by rw [Jg];omega)) ?_);intro ai aj G ak H;obtain⟨am,an,rfl,_,_⟩:=H.len;refine Om (Ol<|J48 (z:=((r:Nat):Int)) Yl un3 rfl (J9j _ (by omega))<|Oa<|Ua<|J4y<|J9 rfl (J8d rfl) (J8d rfl)<|J4w ?_ G.below);refine⟨_,_,rfl,?_,?_⟩
 ·exact J8i ((H:RS _ _ _ _ _).tr (Tr.weak G.base))<|rfl
 ·exact J87 (Value.int _)<|(J87 (fun n:Nat=>(n:Int)) S)
theorem Jsk{X:Nat→Prop}{w:World}(hX:XB X w){R:Value}{a:GInt}(S:RV Jv X w R a)(hla:a.mag.length≤100000):CRt 162 #[R] w fun v w'=>v=(str (Lib.itoa a.toZ)):=by
 obtain⟨a1,G,rfl,e⟩:=RV.int S;have C:=J4z hX;have sa:=S.int_small;refine Cgo (args:=[(.agg #[(.bool a.neg),(.slice a1 a.mag.length G)])]) Tryz.func162 rfl rfl rfl (Rg<|Ol<|J5a C rfl ?_);intro g4 w5 x6 y7 an U V g;replace e:=e.sp V;refine Oa (Nl<|Rg<|Ol<|Uo (vs:=[(.bool a.neg),(.slice a1 a.mag.length G)]) g ag26<|Ol<|J4p U vp rfl rfl (Va U.bd (a:=a) (Ji e) (by omega)) ?_);intro ao aq Y H Z;replace e:=e.sp H;replace g:=g.spn H;obtain⟨k,o,rfl,d⟩:=RV.int Z;refine Ol (J41 Y io26 rfl ?_);intro I ar au av Q aa B ab;have ac:=Q _ g.blk.lt;refine On (Us (cs':=[(.bool (ofZ a.toZ).neg),(.slice k (ofZ a.toZ).mag.length o)]) aa ab io26 ?_);intro aw ad D J;replace e:=(e.sp B).sp D;replace d:=(d.sp B).sp D;replace g:=(g.spn B).spo D ac;refine Nl (Rg<|Ua<|Rg<|Ol<|J4o J5 rfl<|Ol<|J4t J pl24 rfl rfl<|Ua<|J40<|W.block<|J5e (fun μ f v=>∃ (x y:Nat→Prop) (m:List Nat) (ma:Option Addr) (mc:Nat) (s:List UInt8),Cx X w x y v∧f 2=(str [])∧f 3=(.pointer (some ⟨I,0,none⟩))∧f 5=(.slice ma m.length mc)∧f 4=(str s)∧RS Je x v (.slice a1 a.mag.length G) a.mag∧RS Je x v (.slice k (ofZ a.toZ).mag.length o) (ofZ a.toZ).mag∧RS Je x v (.slice ma m.length mc) m∧Own w y v g4 [(.bool a.neg),(.slice a1 a.mag.length G)] 26∧Own w y v I [(.bool (ofZ a.toZ).neg),(.slice k (ofZ a.toZ).mag.length o)] 26∧Lib.decDigits (val (ofZ a.toZ).mag)=Lib.decDigits (val m)++s∧m.length≤a.mag.length∧Jn m∧μ=(val m)) _ ⟨_,_,(ofZ a.toZ).mag,k,o,[],ad,rfl,rfl,rfl,rfl,e,d,d,g,J,(J92 _).symm,(J3 sa),(Kf _),rfl⟩ ?_);rintro ax ay az ⟨aA,aB,m,ma,mc,s,K,L,M,N,P,e,d,hm,E,p,hI,hml,hms,aj⟩;obtain⟨aD,rfl⟩:=rebK (aC L<|aC M<|aC N<|aC P aN);clear L M N P;refine W.block (Rg<|Ub<|J4p K cb214 rfl rfl (Juj K.bd hm (by omega)) ?_);intro aE aF ae r af;obtain⟨aG,aH,rfl,A,rfl⟩:=af;obtain⟨ag,ah,rfl,_,_⟩:=A.len;refine Om (Ol<|St.extract rfl rfl<|Ol<|St.extract rfl rfl<|Oa<|Ua<|J40 ?_);have hsl:=Jyo (J86 (J3 sa) hla) hI;refine J4u (Ub<|St.add rfl rfl (Ja (a:=48) (b:=val m % 10) (by omega))<|Ol<|J48 (z:=((dgB<|val m % 10).toNat:Int)) us3 un5 rfl (Ju2<|J9c _ (by decide))<|Ol<|J5f (T:=u8Ty) (css:=[[(.int .u8 ((dgB<|val m % 10).toNat:Int))]]) (l:=[(dgB<|val m % 10)]) ae Q6 io5 (by decide) (by decide) rfl (by kernel_rfl) ⟨rfl,trivial⟩ ?_);intro aI aJ F i ai;replace e:=(e.sp r).sp i;replace d:=(d.sp r).sp i;replace A:=A.sp i;replace E:=(E.spn r).spn i;replace p:=(p.spn r).spn i;refine Ol<|J78 ai Q6 un5 un9 rfl<|Ub<|J43 rfl rfl (by have h0:maxLen=9223372036854775807:=rfl;simp only [J8z,J80,J81];omega)<|Ua<|Rg<|Om<|Ua<|Rg<|Ub<|St.len sl24 rfl<|Ol<|J42 rfl rfl (fun h=>?_)<|fun h=>?_
 ·refine Nl<|Ud<|J5i<|Rh<|Ol<|J4o Zv rfl<|Ol<|J5h<|J4t p pl4 rfl rfl ⟨_,rfl,fun j=>?_,fun j=>?_⟩
  ·exact Nl<|Uf<|Ub<|J43 rfl rfl (by have h0:maxLen=9223372036854775807:=rfl;simp only [J8z,J80,J81];omega)<|Ua<|J4y<|Wq rfl rfl F<|J87 (str)<|(xf_ng j<|Jro hms hI h)
  exact Nl<|Uc<|Rg<|Om<|Ua<|J4y<|Wq rfl rfl F<|J87 (str)<|(xf_ps j<|Jro hms hI h)
 refine Nl<|Uc<|⟨_,(by have:=Jym hms h;omega),_,_,(trim<|Jq m.length<|val m / 10),ag,ah,([(dgB<|val m % 10)]++s),F,rfl,rfl,rfl,rfl,e,d,A,E,p,(Ju1 hms hI h),(Jwx hml),(Zk<|J0 _ _),rfl⟩
end Go.Wf
namespace Go.Wf
open Go Go.Lib
def numE(q:Rat):GExpr:= .mk 1 [] (ofQ q) [] []
def ngE(a:GExpr):GExpr:=
 if negB a.op a.c.q=true then numE (-a.c.q)
 else if a.op=11∧negB (a.args.getD 0 default).op (a.args.getD 0 default).c.q=true then
  (if ¬ (-(a.args.getD 0 default).c.q=1)∨(a.args.getD 1 default).op=1 then eOp 11 [] ([numE (-(a.args.getD 0 default).c.q)]++a.args.drop 1) else eOp 11 [] (a.args.drop 1))
 else a
def facE(e:GExpr):By:=if e.op=11 then join (facT (txL e.args)) [42] else plE e
section
variable {a:GExpr}
theorem ng_1(h:a.op=1)(h2:K5 a.c.q < 0):numE (-a.c.q)=ngE a∧true=miE a:=by
 have hn:negB a.op a.c.q=true:=by unfold negB;rw [J84 h,J84 h2];rfl
 unfold ngE;rw [if_pos hn];exact⟨rfl,(zp hn).2.symm⟩
theorem Je1(h:¬ (a.op=1∧K5 a.c.q < 0)):negB a.op a.c.q=false:=by
 unfold negB;rw [Bool.and_eq_false_iff]
 by_cases h1:a.op=1
 ·exact .inr (J83 fun k=>h ⟨h1,k⟩)
 ·exact .inl (J83 h1)
theorem ng_2(h:negB a.op a.c.q=false)(h2:¬ a.op=11):a=ngE a∧false=miE a:=by
 unfold ngE;rw [if_neg (by rw [h];decide),if_neg (fun k=>h2 k.1)];refine⟨rfl,?_⟩
 by_cases h10:a.op=10
 ·exact(z6 h10).2.symm
 ·exact(zj h10 h h2).2.symm
theorem ng_3(h:negB a.op a.c.q=false)(h2:a.op=11)(hl:2≤a.args.length)(h3:¬ ((a.args.getD 0 default).op=1∧K5 (a.args.getD 0 default).c.q < 0)):a=ngE a∧false=miE a:=by
 have h4:=Je1 h3;unfold ngE;rw [if_neg (by rw [h];decide),if_neg (by rw [h4];simp)];exact⟨rfl,by rw [← Jc8 h2 hl,h4]⟩
theorem ng_4(h2:a.op=11)(hl:2≤a.args.length)(h3:(a.args.getD 0 default).op=1)(h4:K5 (a.args.getD 0 default).c.q < 0)(h5:¬ (-(a.args.getD 0 default).c.q=1)∨(a.args.getD 1 default).op=1):
  eOp 11 [] ([numE (-(a.args.getD 0 default).c.q)]++a.args.drop 1)=ngE a∧true=miE a:=by
 have hn:negB a.op a.c.q=false:=by unfold negB;rw [J83 (by omega)];rfl
 have hn0:negB (a.args.getD 0 default).op (a.args.getD 0 default).c.q=true:=by unfold negB;rw [J84 h3,J84 h4];rfl
 unfold ngE;rw [if_neg (by rw [hn];decide),if_pos ⟨h2,hn0⟩,if_pos h5];exact⟨rfl,by rw [← Jc8 h2 hl,hn0]⟩
theorem ng_5(h2:a.op=11)(hl:2≤a.args.length)(h3:(a.args.getD 0 default).op=1)(h4:K5 (a.args.getD 0 default).c.q < 0)(h5: -(a.args.getD 0 default).c.q=1)(h6:¬ (a.args.getD 1 default).op=1):
  eOp 11 [] (a.args.drop 1)=ngE a∧true=miE a:=by
 have hn:negB a.op a.c.q=false:=by unfold negB;rw [J83 (by omega)];rfl
 have hn0:negB (a.args.getD 0 default).op (a.args.getD 0 default).c.q=true:=by unfold negB;rw [J84 h3,J84 h4];rfl
 unfold ngE;rw [if_neg (by rw [hn];decide),if_pos ⟨h2,hn0⟩,if_neg (fun k=>k.elim (fun k=>k h5) h6)];exact⟨rfl,by rw [← Jc8 h2 hl,hn0]⟩
theorem Jzy{q:Rat}:qTxt q=[49]↔q=1:=by
 constructor
 ·intro h;unfold qTxt at h
  split at h
  ·rename_i hd
   have hp:q.num=1:=by
    by_cases hn:q.num < 0
    ·have e:itoa q.num=45::decDigits q.num.natAbs:=by unfold itoa;rw [if_pos hn]
     rw [e] at h;cases h
    ·have e:itoa q.num=decDigits q.num.toNat:=by unfold itoa;rw [if_neg hn]
     rw [e] at h
     have:=xu q.num.toNat
     rw [h] at this;have h1:Jm [49]=1:=by decide
     omega
   have:=Rat.num_divInt_den q
   rw [hp,hd] at this;rw [← this];rfl
  ·have:=J87 List.length h
   rw [J8z,J8z,J82,J82] at this;obtain⟨c,r,ec,_⟩:=Jco q.num;rw [ec,J80] at this;omega
 ·rintro rfl;have e:qTxt 1=itoa 1:=by unfold qTxt;rw [if_pos (by rfl)];rfl
  rw [e];unfold itoa;rw [if_neg (by decide),Jgq (by decide)];rfl
theorem Jef{e:GExpr}(h:¬ e.op=11):plE e=facE e:=by unfold facE;rw [if_neg h]
theorem Jrr(q:Rat):plE (numE q)=qTxt q:=(pl_1 rfl).symm.trans (by show qTxt (ofQ q).q=_;rw [Yb])
theorem Jqc(hg:Gd a)(h10:¬ a.op=10):facE (ngE a)=sgE a:=by
 by_cases hn:negB a.op a.c.q=true
 ·have e:ngE a=numE (-a.c.q):=by unfold ngE;rw [if_pos hn]
  have h1:¬ (numE (-a.c.q)).op=11:=by show ¬ (1:Int)=11;decide
  rw [e,← Jef h1,Jrr,(zp hn).1]
 have hn:negB a.op a.c.q=false:=by simpa using hn
 by_cases h11:¬ a.op=11
 ·rw [← (ng_2 hn h11).1,← Jef h11,(zj h10 hn h11).1]
 have h11:a.op=11:=Decidable.not_not.1 h11;have hl:=hg.a2 h11
 cases hn0:negB (a.args.getD 0 default).op (a.args.getD 0 default).c.q with
 | false=>
  have e:ngE a=a:=by unfold ngE;rw [if_neg (by rw [hn];decide),if_neg (by rw [hn0];simp)]
  rw [e];unfold facE;rw [if_pos h11,sg_p h11 hl hn0,J9t]
 | true=>
  by_cases hc:¬ (-(a.args.getD 0 default).c.q=1)∨(a.args.getD 1 default).op=1
  ·have e:ngE a=eOp 11 [] ([numE (-(a.args.getD 0 default).c.q)]++a.args.drop 1):=by unfold ngE;rw [if_neg (by rw [hn];decide),if_pos ⟨h11,hn0⟩,if_pos hc]
   rw [e,Jhx h11 hl hn0 hc];unfold facE;rw [if_pos (show(eOp 11 [] ([numE (-(a.args.getD 0 default).c.q)]++a.args.drop 1)).op=11 from rfl)]
   show join (facT (txL (numE (-(a.args.getD 0 default).c.q)::a.args.drop 1))) [42]=_
   rw [txL,facT,J93];have hb:negB 1 (ofQ (-(a.args.getD 0 default).c.q)).q=false:=by
    rw [Yb]
    have:=(zr hn0).2
    unfold negB;rw [J84 rfl,Bool.true_and];refine J83 fun k=>?_
    have h3:=Rat.le_antisymm (Jbb.1 (by omega)) this;rw [h3] at k
    have:K5 0=0:=rfl
    omega
   have hf:(txE (numE (-(a.args.getD 0 default).c.q))).f=qTxt (-(a.args.getD 0 default).c.q):=by
    rw [← fa_0 (a:=numE (-(a.args.getD 0 default).c.q)) (by show ¬ (1:Int)=10;decide) (by show ¬ (1:Int)=11;decide) hb,Jrr]
   rw [hf];rfl
  ·have hc1: -(a.args.getD 0 default).c.q=1:=Decidable.not_not.1 fun k=>hc (.inl k);have hc2:¬ (a.args.getD 1 default).op=1:=fun k=>hc (.inr k);have e:ngE a=eOp 11 [] (a.args.drop 1):=by unfold ngE;rw [if_neg (by rw [hn];decide),if_pos ⟨h11,hn0⟩,if_neg hc]
   rw [e,Jfd h11 hl hn0 hc1 hc2];unfold facE;rw [if_pos (show(eOp 11 [] (a.args.drop 1)).op=11 from rfl),J9t];rfl
theorem V7{b:GExpr}(hg:Gd b):(ofQ (-b.c.q)).num.mag.length≤2000∧(ofQ (-b.c.q)).den.mag.length≤2000:=by
 have hq:=sm_s hg.sm;have l1:=Kd hq.1;have l2:=Ke hq.2;have m1:=hg.m1;have m2:=hg.m2;have e:(ofQ (-b.c.q)).den=(ofQ b.c.q).den:=by show ofZ _=ofZ _;rw [(Jfv _).2]
 rw [K2,e];omega
section
variable (hg:Gd a)
include hg
omit hg in
theorem Jht{nm:By}(hn:0 < a.n.length)(ha:a.args=[]):(((nm++[40])++Y3 a.n)++[41])=Zf nm a.n (txL a.args):=by
 obtain⟨n,l,en⟩:=lc1 hn
 have:=Js9 (w:=nm) (t:=[]) (l:=l) (n:=n)
 rw [J92] at this;rw [ha,en,this];simp
theorem si_3(h:a.op=3):([71,40]++Y3 a.n)++[41]=plE a:=by
 have hc:=hg.parts.1;rw [← pl_3 h];exact Jht (nm:=[71]) (by have:=hc.n1;rw [h] at this;have:cA 3=4:=rfl;omega) (len0 (by have:=hc.a2;rw [h] at this;exact this))
theorem si_9(h:a.op=9):([110,101,119,102,111,114,109,40]++Y3 a.n)++[41]=plE a:=by
 have hc:=hg.parts.1;rw [← pl_9 h];exact Jht (nm:=[110,101,119,102,111,114,109]) (by have:=hc.n1;rw [h] at this;have:cA 9=4:=rfl;omega) (len0 (by have:=hc.a2;rw [h] at this;exact this))
omit hg in
theorem si_4(h:a.op=4):((([101,116,97,40]++itoa (a.n.getD 0 0))++[41,91])++Y3 (a.n.drop 1))++[93]=plE a:=pl_4 h
omit hg in
theorem si_5(h:a.op=5):((([116,104,101,116,97,40]++itoa (a.n.getD 0 0))++[41,91])++Y3 (a.n.drop 1))++[93]=plE a:=pl_5 h
theorem Jhb(h:a.op=12)(hb:(a.args.getD 0 default).op=10∨(a.args.getD 0 default).op=11∨(a.args.getD 0 default).op=12∨(a.args.getD 0 default).op=1):
  (([40]++wrE (a.args.getD 0 default))++[41,94])++itoa (a.n.getD 0 0)=plE a:=by
 rw [← Jez h (by have:=ca1 hg.parts.1 (by omega);omega) (bs_t hb)];simp
theorem si_12(h:a.op=12)(h1:¬ (a.args.getD 0 default).op=10)(h2:¬ (a.args.getD 0 default).op=11)(h3:¬ (a.args.getD 0 default).op=12)(h4:¬ (a.args.getD 0 default).op=1):
  (plE (a.args.getD 0 default)++[94])++itoa (a.n.getD 0 0)=plE a:=by
 have hn:negB (a.args.getD 0 default).op (a.args.getD 0 default).c.q=false:=by unfold negB;rw [J83 h4];rfl
 have hs:=zj h1 hn h2;refine Jez h (by have:=ca1 hg.parts.1 (by omega);omega) ?_;rw [← bs_f (fun k=>by omega),Jaa h1,hs.2,hs.1];rfl
theorem si_17(h:a.op=17):([115,101,114,114,101,40]++wrE (a.args.getD 0 default))++[41]=plE a:=by
 have hc:=hg.parts.1;have en:a.n=[]:=len0 (by have:=hc.n2;rw [h] at this;exact this);obtain⟨x,ea⟩:=l1 (l:=a.args) (by have a1:=hc.a1;have a2:=hc.a2;rw [h] at a1 a2;have:cC 17=1:=rfl;have:cD 17=1:=rfl;omega)
 have:=Jzv (w:=[115,101,114,114,101]) (t:=[]) (x:=x)
 rw [J92] at this;rw [← Jn8 h,en,ea,this,J9u];simp
theorem si_18(h:a.op=18):(((([98,114,97,99,107,101,116,40]++itoa (a.n.getD 0 0))++[44,32])++wrE (a.args.getD 0 default))++[44,32])++wrE (a.args.getD 1 default)++[41]=plE a:=by
 have hc:=hg.parts.1;have n1:=hc.n1;have n2:=hc.n2;have a1:=hc.a1;have a2:=hc.a2;obtain⟨n,en⟩:=l1 (l:=a.n) (by rw [h] at n1 n2;have:cA 18=1:=rfl;have:cB 18=1:=rfl;omega);obtain⟨x,y,ea⟩:=l2 (l:=a.args) (by rw [h] at a1 a2;have:cC 18=2:=rfl;have:cD 18=2:=rfl;omega)
 have:=J0r (w:=[98,114,97,99,107,101,116]) (t:=[]) (n:=n) (x:=x) (y:=y)
 rw [J92] at this;rw [← Jnx h,en,ea,this];simp
omit hg in
theorem wd_le(k:Nat):(([[86],[85],[84],[116,119,105,115,116]]:List By).getD k []).length≤5:=by
 match k with
 | 0=>decide
 | 1=>decide
 | 2=>decide
 | 3=>decide
 | k+4=>simp [J9d]
theorem si_w(h1:13≤a.op)(h2:a.op≤16):((((([[86],[85],[84],[116,119,105,115,116]]:List By).getD (a.op - 13).toNat [])++[40])++itoa (a.n.getD 0 0))++[44,32])++wrE (a.args.getD 0 default)++[41]=plE a:=by
 have hc:=hg.parts.1;have n1:=hc.n1;have n2:=hc.n2;have a1:=hc.a1;have a2:=hc.a2;have key:∀ nm:By,plE a=Zf nm a.n (txL a.args)→a.n.length=1→a.args.length=1→(((nm++[40])++itoa (a.n.getD 0 0))++[44,32])++wrE (a.args.getD 0 default)++[41]=plE a:=by
  intro nm e en ea;obtain⟨n,en⟩:=l1 en;obtain⟨x,ea⟩:=l1 ea
  have:=Jlo (w:=nm) (t:=[]) (n:=n) (x:=x)
  rw [J92] at this;rw [e,en,ea,this];simp
 have ho:a.op=13∨a.op=14∨a.op=15∨a.op=16:=by omega
 rcases ho with h | h | h | h <;> rw [h] at n1 n2 a1 a2 ⊢
 ·exact key _ (Jol h).symm (by have:cA 13=1:=rfl;have:cB 13=1:=rfl;omega) (by have:cC 13=1:=rfl;have:cD 13=1:=rfl;omega)
 ·exact key _ (Jpb h).symm (by have:cA 14=1:=rfl;have:cB 14=1:=rfl;omega) (by have:cC 14=1:=rfl;have:cD 14=1:=rfl;omega)
 ·exact key _ (Jns h).symm (by have:cA 15=1:=rfl;have:cB 15=1:=rfl;omega) (by have:cC 15=1:=rfl;have:cD 15=1:=rfl;omega)
 ·exact key _ (Jpz h).symm (by have:cA 16=1:=rfl;have:cB 16=1:=rfl;omega) (by have:cC 16=1:=rfl;have:cD 16=1:=rfl;omega)
end
section
variable {l:List GExpr} {s:By} {i:Nat} {T:By}
def mulX(i:Nat)(l:List GExpr):By:=if i=0 then join (facT (txL l)) [42] else mulT l
theorem Jge(hM:s++mulX i (l.drop i)=T)(hi:i < l.length)(h0:(0:Int) < (i:Int)):(s++[42])++(txE (l.getD i default)).f++mulX (i+1) (l.drop (i+1))=T:=by
 rw [← hM];unfold mulX;rw [if_neg (show ¬ i=0 by omega),if_neg (by omega),Zt hi,mulT];simp
theorem Jg6(hM:s++mulX i (l.drop i)=T)(hi:i < l.length)(h0:¬ (0:Int) < (i:Int)):s++(txE (l.getD i default)).f++mulX (i+1) (l.drop (i+1))=T:=by
 obtain rfl:i=0:=by omega
 rw [← hM];unfold mulX;rw [if_pos rfl,if_neg (by omega),Zt hi,txL,facT,J93,join_cons];have e2:joinTail [42] (List.map Tx.f (txL (l.drop (0+1))))=mulT (l.drop (0+1)):=Qu _;rw [e2];simp
theorem Jy5(hM:s++mulX i (l.drop i)=T)(hi:l.length≤i)(hl:0 < l.length):s=T:=by
 rw [← hM,J9s hi];unfold mulX;rw [if_neg (by omega),mulT,J92]
theorem Jvx{x:By}{a:GExpr}(h:a.op=10∨a.op=11∨negB a.op a.c.q=true):((x++[40])++wrE a)++[41]=x++(txE a).f:=by
 rw [← fa_1 h];simp
theorem Jps{x:By}{a:GExpr}(h:a.op=10):((x++[40])++wrE a)++[41]=x++sgE a:=by
 rw [(z6 h).1];simp
end
end
theorem Jlj{l:List GExpr}:(l.drop 1).getD 0 default=l.getD 1 default:=by
 rw [J9d,J9d,List.getElem?_drop]
theorem Jlx{q:Rat}:qTxt (ofQ q).q=[49]↔q=1:=by rw [Yb];exact Jzy
theorem nr0{a:GExpr}(hg:Gd a)(h:0 < a.n.length): -1000000≤a.n.getD 0 0∧a.n.getD 0 0≤1000000:=nrg hg _ (by rw [J9d,J9f h];exact List.getElem_mem _)
theorem nrd{a:GExpr}(hg:Gd a):∀ n ∈ a.n.drop 1,-1000000≤n∧n≤1000000:=fun n hn=>nrg hg n (List.mem_of_mem_drop hn)
section
variable {l:List GExpr} {s T:By} {i:Nat} {a:GExpr}
theorem fx_0(h:a.op=11):[]++mulX 0 (a.args.drop 0)=facE a:=by
 unfold mulX facE;rw [if_pos rfl,if_pos h,List.drop_zero,J9t]
theorem Jy9(hM:s++mulX i (l.drop i)=T)(hi:i < l.length):(txE (l.getD i default)).f.length≤T.length:=by
 by_cases h:(0:Int) < (i:Int)
 ·rw [← Jge hM hi h];simp only [J8z];omega
 ·rw [← Jg6 hM hi h];simp only [J8z];omega
theorem Jul(hM:s++mulX i (l.drop i)=T)(hi:i < l.length)(hb:(l.getD i default).op=10∨(l.getD i default).op=11∨negB (l.getD i default).op (l.getD i default).c.q=true):(wrE (l.getD i default)).length≤T.length:=by
 have:=Jy9 hM hi
 rw [← fa_1 hb,J8z,J8z] at this;omega
theorem Jxw(hM:s++mulX i (l.drop i)=T)(hi:i < l.length)(h1:¬ (l.getD i default).op=10)(h2:¬ (l.getD i default).op=11)(h3:negB (l.getD i default).op (l.getD i default).c.q=false):(plE (l.getD i default)).length≤T.length:=by
 have:=Jy9 hM hi
 rwa [← fa_0 h1 h2 h3] at this
theorem J08(h:a.op=1)(h2:K5 a.c.q < 0):negB a.op a.c.q=true:=by unfold negB;rw [J84 h,J84 h2];rfl
theorem J1d(h:Zs a=0)(h2:(4000:Int) < (((wrE (lowE a)).length:Nat):Int)):([],7)=prE a:=Jvh h (by rwa [Jku] at h2)
theorem J06(h:Zs a=0)(h2:¬ (4000:Int) < (((wrE (lowE a)).length:Nat):Int)):(wrE (lowE a),0)=prE a:=by rw [Jku];exact Jt9 h (by rwa [Jku] at h2)
theorem Jv2(h:(prE a).2=0):Zs a=0∧(prE a).1=wrE a∧(wrE a).length≤4000:=by
 unfold prE at h ⊢
 by_cases hc:Zs a=0
 ·rw [if_pos hc] at h ⊢
  by_cases hl:4000 < (wrE a).length
  ·rw [if_pos hl] at h;cases h
  ·rw [if_neg hl];exact⟨hc,rfl,by omega⟩
 ·rw [if_neg hc] at h;exact absurd h hc
theorem Joo(h:(prE a).2=0)(ho:okE a)(hs:smE a):Yz (prE a).1=(lowE a,0,0):=by
 obtain⟨hc,e,hl⟩:=Jv2 h;rw [e];exact Jwq hc (Jbm hc ho hs) hl
end
end Go.Wf
namespace Go.Wf
open Go Go.Proofs Go.RowKit
theorem Jnh(N:Nat):∀ {X:Nat→Prop} {w:World} (hX:XB X w) {v0:Value} {a:GExpr} (r0:RV Jf X w v0 a) (hpl:Yd a=true) (hl:cntE a≤1000) (hN:(SizeOf.sizeOf a) < N),CRt 15 #[v0] w fun v w'=>RV Jf X w' v a:=by
 induction N with
 | zero=>intro X w hX v0 a r0 hpl hl hN;exact absurd hN<|J9m _
 | succ N ih=>
  intro X w hX v0 a r0 hpl hl hN;obtain⟨a1,c2,a3,c4,a5,c6,a7,c8,rfl,F⟩:=J8e r0;have C:=J4z hX;have hal:=r0.args_max;have hce:=K3 a;have hac:=zz a;obtain⟨cn,eG,eH,eI,eJ⟩:=Ka.1 hpl;refine Cgo (args:=[(ea a a1 c2 a3 c4 a5 c6 a7 c8)]) Tryz.func15 rfl rfl rfl (Rg<|Ol<|J5a C rfl ?_);intro ac eK eL eM c7 co cp G;replace F:=F.sp cp;refine Ol (J41 co io31 rfl ?_);intro aq cq eN eO c9 cr aR ak;replace G:=G.spn aR;refine Nl<|J40<|J5g mixed 13 [[],[0],[],[],[3],[2,4],[],[6],[7],[],[9],[1,5,8,10],[]] cr [fx<|.pointer (some ⟨ac,0,none⟩),fx<|.int .i64 a.op,u0,fx<|.pointer (some ⟨ac,1,none⟩),fx<|.slice a1 a.n.length c2,fs Zi a.n,fx<|.pointer (some ⟨ac,2,none⟩),fx<|.agg #[(.bool a.c.num.neg),(.slice a3 a.c.num.mag.length c4),(.bool a.c.den.neg),(.slice a5 a.c.den.mag.length c6)],fr Yp a.c,fx<|.pointer (some ⟨ac,6,none⟩),fx<|str a.name,fun(s:Gh) (v:Value) (w':World)=>∃ (a1':Option Addr) (c1':Nat) (a3':Option Addr) (c3':Nat) (a5':Option Addr) (c5':Nat),v= .agg #[(.int .i64 a.op),(.slice a1' a.n.length c1'),(.bool a.c.num.neg),(.slice a3' a.c.num.mag.length c3'),(.bool a.c.den.neg),(.slice a5' a.c.den.mag.length c5'),(str a.name),(.slice none 0 0)]∧RS Zi s.1 w' (.slice a1' a.n.length c1') a.n∧RS Je s.1 w' (.slice a3' a.c.num.mag.length c3') a.c.num.mag∧RS Je s.1 w' (.slice a5' a.c.den.mag.length c5') a.c.den.mag,fun(s:Gh) (v:Value) (w':World)=>∃ g':Nat,v= .pointer (some ⟨g',0,none⟩)∧Own w s.2 w' g' zX 31∧cq.heap.size≤g'] (by kernel_rfl) ⟨sx,sx,(fun _ _ _ _ _ h _=>h),sx,sx,ss,sx,sx,sr,sx,sx,(fun _ _ _ _ _ ⟨a1,c1,a3,c3,a5,c5,e,h1,h3,h5⟩ r=>⟨a1,c1,a3,c3,a5,c5,e,h1.tr r.sp.tx,h3.tr r.sp.tx,h5.tr r.sp.tx⟩),(fun _ _ _ _ _ ⟨g,e,o,l⟩ r=>⟨g,e,o.spn r.sp,l⟩),trivial⟩ fun ct H eP ⟨E,am⟩ D=>?_
  have aT:=G.blk.lt;have aU:=ak.blk.lt;have ar:=am.tx.size;replace F:=(F.sp aR).sp am;replace G:=G.spn am;have D:Keep [5,6,7,8,9,10,11,12,13,14,15,16,3] _ ct:=D;refine⟨⟨fun _=>?_,fun⟨cu,_⟩=>?_,fun _=>?_,fun _=>?_,fun⟨cv,_⟩=>?_,fun⟨cw,cx,_⟩=>?_,fun _=>?_,fun⟨cy,_⟩=>?_,fun⟨cz,_⟩=>?_,fun _=>?_,fun⟨cE,_⟩=>?_,fun⟨cF,au,cG,cH,_⟩=>?_,fun _=>?_,trivial⟩,fun⟨cI,cJ,cK,cL,cM,aS,cN,cO,cP,cQ,cR,cS,cT,_⟩=>?_⟩
  ·exact Sd0 D fun _=>J4o Js rfl ⟨H,J4q E,rfl⟩
  ·exact Sd1 D cu fun _=>J4t G pl3 rfl rfl ⟨H,J4q E,rfl⟩
  ·refine Sd0 D fun _=>J66 E sl23 io3 ?_;intro eQ eR cU cV;exact⟨H,⟨cU,cV⟩,⟨_,rfl⟩⟩
  ·exact Sd0 D fun _=>J4o Zb rfl ⟨H,J4q E,rfl⟩
  ·exact Sd1 D cv fun _=>J4t G pl23 rfl rfl ⟨H,J4q E,rfl⟩
  ·obtain⟨eS,cW⟩:=cw;refine Jp D (aC cW<|aC cx aN) fun _=>J5b (J6i (T:=Zi) E sl23 io3 rfl rfl F.n (J86 cn (by decide)) (by omega) rfl ?_);intro dh di aV aW aX;exact⟨H,⟨aV,aW⟩,aX⟩
  ·exact Sd0 D fun _=>J4o Z6 rfl ⟨H,J4q E,rfl⟩
  ·exact Sd1 D cy fun _=>J46 (vs:=[(.bool a.c.num.neg),(.slice a3 a.c.num.mag.length c4),(.bool a.c.den.neg),(.slice a5 a.c.den.mag.length c6)]) G ag28 rfl rfl rfl ⟨H,J4q E,rfl⟩
  ·refine Sd1 D cz fun _=>J4p E cb40 rfl rfl (x_cpR E.bd (a:=a.c) (Za F.num F.den) (by omega) (by omega)) ?_;intro dj dk aY aZ a0;exact⟨H,⟨aY,aZ⟩,a0⟩
  ·exact Sd0 D fun _=>J4o X9 rfl ⟨H,J4q E,rfl⟩
  ·exact Sd1 D cE fun _=>J4t G pl9 rfl rfl ⟨H,J4q E,rfl⟩
  ·obtain⟨a4,a6,a8,au⟩:=RS.opn au;obtain⟨a9,ba,bb,bc,be,bf,bg⟩:=J8h cG;exact Jp D (aC cF<|aC a8<|aC be<|aC cH aN) fun _=>J5b<|J47 (cs:=[(.int .i64 a.op),(.slice a4 a.n.length a6),(.bool a.c.num.neg),(.slice a9 a.c.num.mag.length ba),(.bool a.c.den.neg),(.slice bb a.c.den.mag.length bc),(str a.name),(.slice none 0 0)]) rfl (by kernel_rfl)<|⟨H,J4q E,⟨_,_,_,_,_,_,rfl,au,bf,bg⟩⟩
  ·refine Sd0 D fun _=>J41 E io31 rfl ?_;intro bh dl bi bj aP bk bl bm;exact⟨(bi,bj),⟨bk,bl⟩,bh,rfl,bm,Nat.le_of_not_lt fun hh=>aP _ (J85 hh ar) rfl⟩
  obtain⟨dm,bn⟩:=cK;obtain⟨dn,dp,bo,aS⟩:=RS.opn aS;obtain⟨dq,dr,ds,dt,bp,du,dv⟩:=J8h cP;obtain⟨R,S,U,V,Y,Z,bq,d,k,m⟩:=cS;obtain⟨ad,br,bs,av⟩:=cT;have aw:ac≠ad:=Nat.ne_of_lt (J85 aT av);have ax:aq≠ad:=Nat.ne_of_lt (J85 aU av);obtain⟨dw,rfl⟩:=mixK D (aC cI<|aC cJ<|aC bn<|aC cL<|aC cM<|aC bo<|aC cN<|aC cO<|aC bp<|aC cQ<|aC cR<|aC bq<|aC br aN);refine On (Us (cs':=[(.int .i64 a.op),(.slice R a.n.length S),(.bool a.c.num.neg),(.slice U a.c.num.mag.length V),(.bool a.c.den.neg),(.slice Y a.c.den.mag.length Z),(str a.name),(.slice none 0 0)]) E bs io31 ?_);intro dx bt aa bu;replace F:=F.sp aa;replace d:=d.sp aa;replace k:=k.sp aa;replace m:=m.sp aa;replace G:=G.spo aa aw;replace ak:=(ak.spn am).spo aa ax;refine Nl (Rh<|Ua<|W.block<|J5e (fun μ f v=>∃ (x y:Nat→Prop) (i:Nat) (p:List GExpr) (pa:Option Addr) (pc:Nat),Cx X w x y v∧f 1=(.pointer (some ⟨ac,0,none⟩))∧f 2=(.pointer (some ⟨aq,0,none⟩))∧f 3=(.pointer (some ⟨ad,0,none⟩))∧f 4=(.int .i64 ((i:Nat):Int))∧ExprParts x v a a1 c2 a3 c4 a5 c6 a7 c8∧RS Zi x v (.slice R a.n.length S) a.n∧RS Je x v (.slice U a.c.num.mag.length V) a.c.num.mag∧RS Je x v (.slice Y a.c.den.mag.length Z) a.c.den.mag∧OS Jf 31 w x y v (.slice pa p.length pc) p∧Own w y v ac (ec a a1 c2 a3 c4 a5 c6 a7 c8) 31∧Own w y v aq zX 31∧Own w y v ad [(.int .i64 a.op),(.slice R a.n.length S),(.bool a.c.num.neg),(.slice U a.c.num.mag.length V),(.bool a.c.den.neg),(.slice Y a.c.den.mag.length Z),(str a.name),(.slice pa p.length pc)] 31∧i≤a.args.length∧p=a.args.take i∧μ=(a.args.length - i)) _ ⟨_,_,0,[],none,0,bt,rfl,rfl,rfl,rfl,F,d,k,m,J8k,G,ak,bu,(J9h _),rfl,rfl⟩ ?_);rintro dy dz dA ⟨af,dB,i,p,pa,pc,ay,az,aA,aB,aD,F,d,k,m,hP,I,L,J,hi,hp,cX⟩;obtain⟨dC,rfl⟩:=rebK (aC az<|aC aA<|aC aB<|aC aD aN);clear az aA aB aD;refine Rh<|Ub<|J4o J1 rfl<|Ol<|J4t I pl29 rfl rfl<|Ol<|St.len sl29 rfl<|Ol<|J5c rfl rfl (fun aQ=>?_)<|fun aQ=>?_
  ·refine Nl<|Ud<|J4v<|J40<|W.block<|J63 mixed 9 [[],[0],[],[2],[],[3,4],[5],[6],[7]] ay [fx<|.pointer (some ⟨ad,7,none⟩),fx<|.slice pa p.length pc,fx<|.pointer (some ⟨ac,7,none⟩),fx<|.slice a7 a.args.length c8,fx<|.int .i64 ((i:Nat):Int),uE af Jf<|Ar a i,ur af Jf<|Ar a i,ur af Jf<|Ar a i,us af Jf [(Ar a i)]] (by kernel_rfl) ⟨sx,sx,sx,sx,sx,tE,tr,tr,ts,trivial⟩ fun bv dD A K B=>?_
   replace F:=F.sp K;replace d:=d.sp K;replace k:=k.sp K;replace m:=m.sp K;replace hP:=hP.sp K A<|fun _ h=>h
   replace I:=I.spn K;replace L:=L.spn K;replace J:=J.spn K;have B:Keep [24,25,26,27,28,29,30,31,32] _ bv:=B;refine⟨⟨fun _=>?_,fun⟨bw,_⟩=>?_,fun _=>?_,fun⟨bx,_⟩=>?_,fun _=>?_,fun⟨bz,bA,_⟩=>?_,fun⟨bB,_⟩=>?_,fun⟨bC,_⟩=>?_,fun⟨bD,_⟩=>?_,trivial⟩,fun⟨bE,bF,bG,bH,bI,bJ,bK,bL,aj,_⟩=>?_⟩
   ·exact Sd0 B fun _=>J4o J1 rfl<|⟨(),⟨A,Sp.refl⟩,rfl⟩
   ·exact Sd1 B bw fun _=>J4t J pl29 rfl rfl<|⟨(),⟨A,Sp.refl⟩,rfl⟩
   ·exact Sd0 B fun _=>J4o J1 rfl<|⟨(),⟨A,Sp.refl⟩,rfl⟩
   ·exact Sd1 B bx fun _=>J4t I pl29 rfl rfl<|⟨(),⟨A,Sp.refl⟩,rfl⟩
   ·exact Sd0 B fun _=>J4x<|⟨(),⟨A,Sp.refl⟩,rfl⟩
   ·refine Jp B (aC bz<|aC bA aN) fun _=>J5b (J49 (j:=i) (u:=(Ar a i)) F.args sl29 io31 rfl rfl rfl (Jc (by omega)) ?_);intro dE dF cY aE;obtain⟨dG,dH,dI,dJ,dK,dL,dM,dN,rfl,dO⟩:=Jd aE.rd;exact⟨(),⟨A,Sp.refl⟩,⟨_,_,_,rfl,aE⟩⟩
   ·obtain⟨dP,dQ,cZ,bM,aF⟩:=bB;obtain⟨bN,bO,bP,bQ,bR,bS,bT,bU,rfl,bV⟩:=Jd aF.rd;exact Sd1 B bM fun _=>J5l (cs:=(ec (Ar a i) bN bO bP bQ bR bS bT bU)) ag31 rfl rfl aF.cell<|⟨(),⟨A,Sp.refl⟩,(Mx (Ar a i) bV)⟩
   ·obtain⟨dR,dS,dT,dU,dV,dW,dX,dY,bW,bX⟩:=J8e bC;refine Sd1 B bW fun _=>J4p A cb15 rfl rfl (ih A.bd (Mx (Ar a i) bX) (Vb hpl (by omega)) (by have h7:=Ja3 (l:=a.args) (i:=i) (by omega);unfold Ar at *;omega)<|J85 (Qi (by omega))<|Nat.le_of_lt_succ hN) ?_;intro dZ d0 bY bZ b0;exact⟨(),⟨bY,bZ⟩,b0⟩
   ·obtain⟨b1,b2,b3,b4,b5,b6,b7,b8,b9,M⟩:=J8e bD;refine Sd1 B b9 fun _=>J5f (T:=Jf) (css:=[(ec (Ar a i) b1 b2 b3 b4 b5 b6 b7 b8)]) (l:=[(Ar a i)]) A sl29 io31 (by decide) (by decide) rfl (by kernel_rfl) ⟨(Zm (Ar a i) M.lo M.hi M.name M.n M.num M.den M.args),trivial⟩ ?_;intro d1 d2 ca cb cc;exact⟨(),⟨ca,cb⟩,cc⟩
   obtain⟨d3,d4,c0,cd,ce⟩:=bJ;obtain⟨d5,d6,d7,d8,d9,eb,ed,ee,rfl,ef⟩:=Jd ce.rd;obtain⟨eg,eh,ei,ej,ek,el,em,en,cf,eo⟩:=J8e bK;obtain⟨ep,eq,es,et,eu,ev,ew,ex,cg,ey⟩:=J8e bL;obtain⟨ch,ci,cj,aj⟩:=RS.opn aj;obtain⟨ez,rfl⟩:=mixK B (aC bE<|aC bF<|aC bG<|aC bH<|aC bI<|aC cd<|aC cf<|aC cg<|aC cj aN);refine Ol (J5k (T:=Jf) (v:=(.slice pa p.length pc)) (u:=(.slice ch [(Ar a i)].length ci)) A sl29 io31 rfl rfl hP (Yi aj) (by rw [hp,J9b];simp [maxLen];omega) (by rw [hp,J9b];simp;omega) rfl ?_);intro eA eB eC ck P eD ag;replace J:=J.ap P J.mem;obtain⟨aG,aH,rfl,_,_⟩:=ag.len;refine Ol (J4o J1 rfl<|On<|Us (cs':=[(.int .i64 a.op),(.slice R a.n.length S),(.bool a.c.num.neg),(.slice U a.c.num.mag.length V),(.bool a.c.den.neg),(.slice Y a.c.den.mag.length Z),(str a.name),(.slice aG (p++[(Ar a i)]).length aH)]) ck J io29 ?_);intro eE aI Q cl;replace F:=(F.tr P.tx).sp Q;replace d:=(d.tr P.tx).sp Q;replace k:=(k.tr P.tx).sp Q;replace m:=(m.tr P.tx).sp Q;replace ag:=ag.sp Q aI<|fun _ h=>h
   replace I:=(I.ap P I.mem).spo Q aw;replace L:=(L.ap P L.mem).spo Q ax;refine Nl<|J4u<|Ub<|St.add rfl rfl (Ja (a:=i) (b:=1) (by omega))<|Ua<|⟨_,(by omega),_,_,(i+1),(p++[(Ar a i)]),aG,aH,aI,rfl,rfl,rfl,rfl,F,d,k,m,ag,I,L,cl,(by omega),(Jun hp (by omega)),rfl⟩
  refine Nl (Ue<|J5i<|Rg<|Ol<|Uo (vs:=[(.int .i64 a.op),(.slice R a.n.length S),(.bool a.c.num.neg),(.slice U a.c.num.mag.length V),(.bool a.c.den.neg),(.slice Y a.c.den.mag.length Z),(str a.name),(.slice pa p.length pc)]) J ag31<|On<|Us (cs':=[(.int .i64 a.op),(.slice R a.n.length S),(.bool a.c.num.neg),(.slice U a.c.num.mag.length V),(.bool a.c.den.neg),(.slice Y a.c.den.mag.length Z),(str a.name),(.slice pa p.length pc)]) ay L io31 ?_);intro eF ab ae cm;replace F:=F.sp ae;replace d:=d.sp ae;replace k:=k.sp ae;replace m:=m.sp ae;replace hP:=hP.sp ae ab<|fun _ h=>h
  refine Nl (J4y<|Ju rfl (resV.c cm rfl ag31 rfl)<|J4w ?_ ab.below);exact J8f (a:=(GExpr.mk a.op a.n ⟨⟨a.c.num.neg,a.c.num.mag⟩,⟨a.c.den.neg,a.c.den.mag⟩⟩ a.name p)) (vz (GExpr.mk a.op a.n ⟨⟨a.c.num.neg,a.c.num.mag⟩,⟨a.c.den.neg,a.c.den.mag⟩⟩ a.name p) F.lo F.hi F.name ((d:RS _ _ _ _ _).tr (Tr.weak ab.base)) ((k:RS _ _ _ _ _).tr (Tr.weak ab.base)) ((m:RS _ _ _ _ _).tr (Tr.weak ab.base))<|hP.toRS ab hX)<|J09 hp (by omega)
theorem Jxh{X:Nat→Prop}{w:World}(hX:XB X w){b:Value}{a:GExpr}(d:RV Jf X w b a)(hpl:Yd a=true)(hl:cntE a≤1000):CRt 15 #[b] w fun v w'=>RV Jf X w' v a:=Jnh ((SizeOf.sizeOf a)+1) hX d hpl hl (Nat.lt_succ_self _)
theorem J0v{X:Nat→Prop}{w:World}(hX:XB X w){N:Value}{a:List Int}(h:RS Zi X w N a){P:Value}{b:List Int}(k:RS Zi X w P b)(hab:a=b):CRt 34 #[N,P] w fun v w'=>v=(.bool true):=by
 obtain⟨a1,l,rfl,_,_⟩:=h.len;obtain⟨m,o,rfl,_,_⟩:=k.len;have C:=J4z hX;have hlen:a.length=b.length:=by rw [hab]
 have hml:=Jq2 h;refine Cgo (args:=[(.slice a1 a.length l),(.slice m b.length o)]) Tryz.func34 rfl rfl rfl (Rg<|Ua<|Rh<|Ub<|St.len sl23 rfl<|Ub<|St.len sl23 rfl<|Ol<|J58 (t:=false) rfl rfl (by rw [J84 (by omega)];rfl)<|Nl<|J4s rfl ?_);refine J4v (Rh<|Ua<|W.block<|J5e (fun μ f v=>∃ (x y:Nat→Prop) (i:Nat),Cx X w x y v∧f 0=(.slice a1 a.length l)∧f 1=(.slice m b.length o)∧f 5=(.int .i64 ((i:Nat):Int))∧RS Zi x v (.slice a1 a.length l) a∧RS Zi x v (.slice m b.length o) b∧i≤a.length∧μ=(a.length - i)) _ ⟨_,_,0,C,rfl,rfl,rfl,h,k,(J9h _),rfl⟩ ?_);rintro az f5 w6 ⟨x7,y8,i,Q,p,r,s,h,k,hi,aq⟩;obtain⟨aA,rfl⟩:=rebK (aC p<|aC r<|aC s aN);clear p r s;refine Rh<|Om<|Ub<|St.len sl23 rfl<|Ol<|J5c rfl rfl (fun G=>?_)<|fun G=>?_
 ·refine Nl<|Ud<|J4v<|J40<|W.block<|J40<|J5g mixed 8 [[],[],[0,1],[2],[],[],[4,5],[6]] Q [fx<|.slice a1 a.length l,fx<|.int .i64 ((i:Nat):Int),fE Zi<|a.getD i 0,fx<|.int .i64 (a.getD i 0),fx<|.slice m b.length o,fx<|.int .i64 ((i:Nat):Int),fE Zi<|b.getD i 0,fx<|.int .i64 (b.getD i 0)] (by kernel_rfl) ⟨sx,sx,sE,sx,sx,sx,sE,sx,trivial⟩ fun R g aB ⟨e,A⟩ d=>?_
  replace h:=h.sp A;replace k:=k.sp A;have d:Keep [17,18,19,20,21,22,23,24] _ R:=d;refine⟨⟨fun _=>?_,fun _=>?_,fun⟨S,T,_⟩=>?_,fun⟨U,_⟩=>?_,fun _=>?_,fun _=>?_,fun⟨V,Y,_⟩=>?_,fun⟨Z,_⟩=>?_,trivial⟩,fun⟨aa,ab,ac,ad,ae,af,ag,ah,_⟩=>?_⟩
  ·exact Sd0 d fun _=>J4x ⟨g,J4q e,rfl⟩
  ·exact Sd0 d fun _=>J4x ⟨g,J4q e,rfl⟩
  ·refine Jp d (aC S<|aC T aN) fun _=>J5b (J49 (j:=i) (u:=(a.getD i 0)) h sl23 io3 rfl rfl rfl (Jc (by omega)) ?_);intro aD aE H B;obtain⟨rfl,ar⟩:H=_∧_:=B.rd;exact⟨g,J4q e,⟨_,_,_,rfl,B⟩⟩
  ·obtain⟨aF,aG,I,ai,D⟩:=U;obtain⟨rfl,au⟩:I=_∧_:=D.rd;exact Sd1 d ai fun _=>J44 pl3 rfl (D.cell 0 _ rfl) ⟨g,J4q e,rfl⟩
  ·exact Sd0 d fun _=>J4x ⟨g,J4q e,rfl⟩
  ·exact Sd0 d fun _=>J4x ⟨g,J4q e,rfl⟩
  ·refine Jp d (aC V<|aC Y aN) fun _=>J5b (J49 (j:=i) (u:=(b.getD i 0)) k sl23 io3 rfl rfl rfl (Jc (by omega)) ?_);intro aH aI J E;obtain⟨rfl,av⟩:J=_∧_:=E.rd;exact⟨g,J4q e,⟨_,_,_,rfl,E⟩⟩
  ·obtain⟨aJ,aK,K,aj,F⟩:=Z;obtain⟨rfl,aw⟩:K=_∧_:=F.rd;exact Sd1 d aj fun _=>J44 pl3 rfl (F.cell 0 _ rfl) ⟨g,J4q e,rfl⟩
  obtain⟨aL,aM,L,ak,am⟩:=ac;obtain⟨rfl,ax⟩:L=_∧_:=am.rd;obtain⟨aO,aP,M,an,ao⟩:=ag;obtain⟨rfl,ay⟩:M=_∧_:=ao.rd;obtain⟨aQ,rfl⟩:=mixK d (aC aa<|aC ab<|aC ak<|aC ad<|aC ae<|aC af<|aC an<|aC ah aN);refine Ol<|J58 (t:=false) rfl rfl (by rw [J84 (by rw [hab])];rfl)<|Nl<|Uc<|J4u<|Ub<|St.add rfl rfl (Ja (a:=i) (b:=1) (by omega))<|Ua<|⟨_,(by omega),_,_,(i+1),e,rfl,rfl,rfl,h,k,(by omega),rfl⟩
 refine Nl<|Ue<|J5i<|Rg<|Ua<|J4y<|Ju rfl (J8d rfl)<|J4w ?_ Q.below
 rfl
theorem Jjl{X:Nat→Prop}{w:World}(hX:XB X w){v0:Value}{a:GInt}(r0:RV Jv X w v0 a){v1:Value}{b:GInt}(r1:RV Jv X w v1 b)(hab:a=b):CRt 72 #[v0,v1] w fun v w'=>v=(.bool true):=by
 obtain⟨a1,B,rfl,h⟩:=RV.int r0;obtain⟨D,E,rfl,k⟩:=RV.int r1;have C:=J4z hX;have hlen:a.mag.length=b.mag.length:=by rw [hab]
 have hml:=Jxf r0;refine Cgo (args:=[(.agg #[(.bool a.neg),(.slice a1 a.mag.length B)]),(.agg #[(.bool b.neg),(.slice D b.mag.length E)])]) Tryz.func72 rfl rfl rfl (Rg<|Ol<|J5a C rfl ?_);intro R w8 x9 aY aM af H l;refine Ol (J5a af rfl ?_);intro r aZ a0 a3 aO ag s A;replace h:=(h.sp H).sp s;replace k:=(k.sp H).sp s;replace l:=l.spn s;refine Oa (Nl<|Rh<|Ol<|J4o Zv rfl<|Ol<|J4t l pl4 rfl rfl<|Ol<|J4o Zv rfl<|Ol<|J4t A pl4 rfl rfl<|Ol<|J6m (u:=false) un4 rfl rfl (by rw [hab];exact bne_self_eq_false _)<|Om<|OgD<|J4o J5 rfl<|OgD<|J4t l pl24 rfl rfl ?_);refine OgD (St.len sl24 rfl<|OgD<|J4o J5 rfl<|OgD<|J4t A pl24 rfl rfl<|OgD<|St.len sl24 rfl<|OgD<|J58 (t:=false) rfl rfl (by rw [J84 (by omega)];rfl)<|OF<|Nl<|Uc<|Rh<|Ua<|W.block<|J5e (fun μ f v=>∃ (x y:Nat→Prop) (i:Nat),Cx X w x y v∧f 2=(.pointer (some ⟨R,0,none⟩))∧f 3=(.pointer (some ⟨r,0,none⟩))∧f 5=(.int .i64 ((i:Nat):Int))∧RS Je x v (.slice a1 a.mag.length B) a.mag∧RS Je x v (.slice D b.mag.length E) b.mag∧Own w y v R [(.bool a.neg),(.slice a1 a.mag.length B)] 26∧Own w y v r [(.bool b.neg),(.slice D b.mag.length E)] 26∧i≤a.mag.length∧μ=(a.mag.length - i)) _ ⟨_,_,0,ag,rfl,rfl,rfl,h,k,l,A,(J9h _),rfl⟩ ?_);rintro a5 a6 a7 ⟨a8,a9,i,I,J,K,L,h,k,m,o,hi,aI⟩;obtain⟨ba,rfl⟩:=rebK (aC J<|aC K<|aC L aN);clear J K L;refine Rh<|Ub<|J4o J5 rfl<|Ol<|J4t m pl24 rfl rfl<|Ol<|St.len sl24 rfl<|Ol<|J5c rfl rfl (fun S=>?_)<|fun S=>?_
 ·refine Nl<|Ud<|J4v<|J40<|W.block<|J40<|J5g mixed 10 [[],[0],[],[1,2],[3],[],[5],[],[6,7],[8]] I [fx<|.pointer (some ⟨R,1,none⟩),fx<|.slice a1 a.mag.length B,fx<|.int .i64 ((i:Nat):Int),fE Je<|a.mag.getD i 0,fx<|.int .u32 (((a.mag.getD i 0):Nat):Int),fx<|.pointer (some ⟨r,1,none⟩),fx<|.slice D b.mag.length E,fx<|.int .i64 ((i:Nat):Int),fE Je<|b.mag.getD i 0,fx<|.int .u32 (((b.mag.getD i 0):Nat):Int)] (by kernel_rfl) ⟨sx,sx,sx,sE,sx,sx,sx,sx,sE,sx,trivial⟩ fun ah g bb ⟨e,p⟩ d=>?_
  replace h:=h.sp p;replace k:=k.sp p;replace m:=m.spn p;replace o:=o.spn p;have d:Keep [27,28,29,30,31,32,33,34,35,36] _ ah:=d;refine⟨⟨fun _=>?_,fun⟨ai,_⟩=>?_,fun _=>?_,fun⟨aj,ak,_⟩=>?_,fun⟨am,_⟩=>?_,fun _=>?_,fun⟨an,_⟩=>?_,fun _=>?_,fun⟨ao,aq,_⟩=>?_,fun⟨ar,_⟩=>?_,trivial⟩,fun⟨au,av,aw,ax,ay,az,aA,aB,aD,aE,_⟩=>?_⟩
  ·exact Sd0 d fun _=>J4o J5 rfl ⟨g,J4q e,rfl⟩
  ·exact Sd1 d ai fun _=>J4t m pl24 rfl rfl ⟨g,J4q e,rfl⟩
  ·exact Sd0 d fun _=>J4x ⟨g,J4q e,rfl⟩
  ·refine Jp d (aC aj<|aC ak aN) fun _=>J5b (J49 (j:=i) (u:=(a.mag.getD i 0)) h sl24 Jh rfl rfl rfl (Jc (by omega)) ?_);intro bc bd T M;obtain⟨rfl,aP⟩:T=_∧_:=M.rd;exact⟨g,J4q e,⟨_,_,_,rfl,M⟩⟩
  ·obtain⟨be,bf,U,aF,N⟩:=am;obtain⟨rfl,aQ⟩:U=_∧_:=N.rd;exact Sd1 d aF fun _=>J44 Zj rfl (N.cell 0 _ rfl) ⟨g,J4q e,rfl⟩
  ·exact Sd0 d fun _=>J4o J5 rfl ⟨g,J4q e,rfl⟩
  ·exact Sd1 d an fun _=>J4t o pl24 rfl rfl ⟨g,J4q e,rfl⟩
  ·exact Sd0 d fun _=>J4x ⟨g,J4q e,rfl⟩
  ·refine Jp d (aC ao<|aC aq aN) fun _=>J5b (J49 (j:=i) (u:=(b.mag.getD i 0)) k sl24 Jh rfl rfl rfl (Jc (by omega)) ?_);intro bg bh V P;obtain⟨rfl,aR⟩:V=_∧_:=P.rd;exact⟨g,J4q e,⟨_,_,_,rfl,P⟩⟩
  ·obtain⟨bi,bj,Y,aG,Q⟩:=ar;obtain⟨rfl,aS⟩:Y=_∧_:=Q.rd;exact Sd1 d aG fun _=>J44 Zj rfl (Q.cell 0 _ rfl) ⟨g,J4q e,rfl⟩
  obtain⟨aT,aU,F,aH,Z⟩:=ax;obtain⟨rfl,aJ⟩:F=_∧_:=Z.rd;obtain⟨aV,aW,G,aa,ab⟩:=aD;obtain⟨rfl,aK⟩:G=_∧_:=ab.rd;obtain⟨aX,rfl⟩:=mixK d (aC au<|aC av<|aC aw<|aC aH<|aC ay<|aC az<|aC aA<|aC aB<|aC aa<|aC aE aN);refine Ol<|J58 (t:=false) rfl rfl (by rw [J84 (by rw [hab])];rfl)<|Nl<|Uc<|J4u<|Ub<|St.add rfl rfl (Ja (a:=i) (b:=1) (by omega))<|Ua<|⟨_,(by omega),_,_,(i+1),e,rfl,rfl,rfl,h,k,m,o,(by omega),rfl⟩
 refine Nl<|Ue<|J5i<|Rg<|Ua<|J4y<|Ju rfl (J8d rfl)<|J4w ?_ I.below
 rfl
theorem Jte{X:Nat→Prop}{w:World}(hX:XB X w){s:Value}{a:GRat}(K:RV Yp X w s a){x:Value}{b:GRat}(L:RV Yp X w x b)(hab:a=b):CRt 35 #[s,x] w fun v w'=>v=(.bool true):=by
 obtain⟨a1,y,A,B,rfl,r,k⟩:=J8h K;obtain⟨D,E,F,m,rfl,l,e⟩:=J8h L;have C:=J4z hX;refine Cgo (args:=[(.agg #[(.bool a.num.neg),(.slice a1 a.num.mag.length y),(.bool a.den.neg),(.slice A a.den.mag.length B)]),(.agg #[(.bool b.num.neg),(.slice D b.num.mag.length E),(.bool b.den.neg),(.slice F b.den.mag.length m)])]) Tryz.func35 rfl rfl rfl (Rg<|Ol<|J5a C rfl ?_);intro P Q R S M G h d;replace k:=k.sp h;replace e:=e.sp h;refine Ol (J5a G rfl ?_);intro T U V Y N o g i;replace r:=(r.sp h).sp g;replace l:=(l.sp h).sp g;replace d:=d.spn g;refine Oa (Nl<|Rg<|Ol<|J4o Km rfl<|Ol<|Uo (vs:=[(.bool a.num.neg),(.slice a1 a.num.mag.length y)]) d ag26<|Ol<|J4o Km rfl<|Ol<|Uo (vs:=[(.bool b.num.neg),(.slice D b.num.mag.length E)]) i ag26<|Ol<|J4p o cb72 rfl rfl (Jjl o.bd (a:=a.num) (Ji r) (b:=b.num) (Ji l) (by rw [hab])) ?_);intro Z aa p j H;replace k:=(k.sp g).sp j;replace e:=(e.sp g).sp j;replace d:=d.spn j;replace i:=i.spn j;subst H;refine Om (OgD<|J4o Yk rfl<|OgD<|Uo (vs:=[(.bool a.den.neg),(.slice A a.den.mag.length B)]) d ag26<|OgD<|J4o Yk rfl<|OgD<|Uo (vs:=[(.bool b.den.neg),(.slice F b.den.mag.length m)]) i ag26<|OgD<|J4p p cb72 rfl rfl (Jjl p.bd (a:=a.den) (Ji k) (b:=b.den) (Ji e) (by rw [hab])) ?_);intro ab ac I ad J;subst J;refine OT<|Ua<|J4y<|Ju rfl (J8d rfl)<|J4w ?_ I.below
 rfl
theorem Jj0(N:Nat):∀ {X:Nat→Prop} {w:World} (hX:XB X w) {V:Value} {a:GExpr} (Y:RV Jf X w V a) {Z:Value} {b:GExpr} (r1:RV Jf X w Z b) (hab:a=b) (hN:(SizeOf.sizeOf a) < N),CRt 12 #[V,Z] w fun v w'=>v=(.bool true):=by
 induction N with
 | zero=>intro X w hX V a Y Z b r1 hab hN;exact absurd hN<|J9m _
 | succ N ih=>
  intro X w hX V a Y Z b r1 hab hN;obtain⟨a1,c2,a3,c4,a5,c6,a7,c8,rfl,k⟩:=J8e Y;obtain⟨J,K,s,A,B,D,E,F,rfl,d⟩:=J8e r1;have C:=J4z hX;have hal:=Y.args_max;have hlen:a.args.length=b.args.length:=by rw [hab]
  refine Cgo (args:=[(ea a a1 c2 a3 c4 a5 c6 a7 c8),(ea b J K s A B D E F)]) Tryz.func12 rfl rfl rfl (Rg<|Ol<|J5a C rfl ?_);intro L cM cN cO bB bl ag g;refine Ol (J5a bl rfl ?_);intro M cP cQ cR lt31 ah P l;replace k:=(k.sp ag).sp P;replace d:=(d.sp ag).sp P;replace g:=g.spn P;refine Oa (Nl<|Rh<|Ol<|J4o Js rfl<|Ol<|J4t g pl3 rfl rfl<|Ol<|J4o Js rfl<|Ol<|J4t l pl3 rfl rfl<|Ol<|J58 (t:=false) rfl rfl (by rw [J84 (by rw [hab])];rfl)<|Om<|OgD<|J4o Zb rfl<|OgD<|J4t g pl23 rfl rfl ?_);refine OgD (J4o Zb rfl<|OgD<|J4t l pl23 rfl rfl<|OgD<|J4p ah cb34 rfl rfl (J0v ah.bd k.n d.n (by rw [hab])) ?_);intro cS cT ai G bm;replace k:=k.sp G;replace d:=d.sp G;replace g:=g.spn G;replace l:=l.spn G;subst bm;refine OgD (J5n rfl<|OF<|Om<|OgD<|J4o Z6 rfl<|OgD<|Uo (vs:=[(.bool a.c.num.neg),(.slice a3 a.c.num.mag.length c4),(.bool a.c.den.neg),(.slice a5 a.c.den.mag.length c6)]) g ag28<|OgD<|J4o Z6 rfl<|OgD<|Uo (vs:=[(.bool b.c.num.neg),(.slice s b.c.num.mag.length A),(.bool b.c.den.neg),(.slice B b.c.den.mag.length D)]) l ag28 ?_);refine OgD (J4p ai cb35 rfl rfl (Jte ai.bd (a:=a.c) (Za k.num k.den) (b:=b.c) (Za d.num d.den) (by rw [hab])) ?_);intro cU cV bn H bo;replace k:=k.sp H;replace d:=d.sp H;replace g:=g.spn H;replace l:=l.spn H;subst bo;refine OgD (J5n rfl<|OF<|Om<|OgD<|J4o X9 rfl<|OgD<|J4t g pl9 rfl rfl<|OgD<|J4o X9 rfl<|OgD<|J4t l pl9 rfl rfl<|OgD<|J6r rfl rfl (fun Q=>absurd (by rw [hab]) Q)<|fun Q=>(OF<|Om ?_));refine OgD (J4o J1 rfl<|OgD<|J4t g pl29 rfl rfl<|OgD<|St.len sl29 rfl<|OgD<|J4o J1 rfl<|OgD<|J4t l pl29 rfl rfl<|OgD<|St.len sl29 rfl<|OgD<|J58 (t:=false) rfl rfl (by rw [J84 (by omega)];rfl)<|OF<|Nl<|Ue<|J4v ?_);refine Rh (Ua<|W.block<|J5e (fun μ f v=>∃ (x y:Nat→Prop) (i:Nat),Cx X w x y v∧f 2=(.pointer (some ⟨L,0,none⟩))∧f 3=(.pointer (some ⟨M,0,none⟩))∧f 5=(.int .i64 ((i:Nat):Int))∧ExprParts x v a a1 c2 a3 c4 a5 c6 a7 c8∧ExprParts x v b J K s A B D E F∧Own w y v L (ec a a1 c2 a3 c4 a5 c6 a7 c8) 31∧Own w y v M (ec b J K s A B D E F) 31∧i≤a.args.length∧μ=(a.args.length - i)) _ ⟨_,_,0,bn,rfl,rfl,rfl,k,d,g,l,(J9h _),rfl⟩ ?_);rintro cW cX cY ⟨cZ,c0,i,aj,ak,am,an,k,d,o,p,hi,bt⟩;obtain⟨c1,rfl⟩:=rebK (aC ak<|aC am<|aC an aN);clear ak am an;refine Rh<|Ub<|J4o J1 rfl<|Ol<|J4t o pl29 rfl rfl<|Ol<|St.len sl29 rfl<|Ol<|J5c rfl rfl (fun ar=>?_)<|fun ar=>?_
  ·refine Nl<|Ud<|J4v<|J40<|W.block<|J40<|J5g mixed 10 [[],[0],[],[1,2],[3],[],[5],[],[6,7],[8]] aj [fx<|.pointer (some ⟨L,7,none⟩),fx<|.slice a7 a.args.length c8,fx<|.int .i64 ((i:Nat):Int),fE Jf<|Ar a i,fr Jf<|Ar a i,fx<|.pointer (some ⟨M,7,none⟩),fx<|.slice E b.args.length F,fx<|.int .i64 ((i:Nat):Int),fE Jf<|Ar b i,fr Jf<|Ar b i] (by kernel_rfl) ⟨sx,sx,sx,sE,sr,sx,sx,sx,sE,sr,trivial⟩ fun bp m c3 ⟨h,I⟩ e=>?_
   replace k:=k.sp I;replace d:=d.sp I;replace o:=o.spn I;replace p:=p.spn I;have e:Keep [50,51,52,53,54,55,56,57,58,59] _ bp:=e;refine⟨⟨fun _=>?_,fun⟨bq,_⟩=>?_,fun _=>?_,fun⟨br,bs,_⟩=>?_,fun⟨au,_⟩=>?_,fun _=>?_,fun⟨av,_⟩=>?_,fun _=>?_,fun⟨aw,ax,_⟩=>?_,fun⟨ay,_⟩=>?_,trivial⟩,fun⟨az,aA,aB,aD,aE,aF,aG,aH,aI,aJ,_⟩=>?_⟩
   ·exact Sd0 e fun _=>J4o J1 rfl ⟨m,J4q h,rfl⟩
   ·exact Sd1 e bq fun _=>J4t o pl29 rfl rfl ⟨m,J4q h,rfl⟩
   ·exact Sd0 e fun _=>J4x ⟨m,J4q h,rfl⟩
   ·refine Jp e (aC br<|aC bs aN) fun _=>J5b (J49 (j:=i) (u:=(Ar a i)) k.args sl29 io31 rfl rfl rfl (Jc (by omega)) ?_);intro bC bD bu R;obtain⟨bE,bF,bG,bH,bI,bJ,bK,bL,rfl,bM⟩:=Jd R.rd;exact⟨m,J4q h,⟨_,_,_,rfl,R⟩⟩
   ·obtain⟨bN,bO,bv,aK,S⟩:=au;obtain⟨aL,aM,aO,aP,aQ,aR,aS,aT,rfl,aU⟩:=Jd S.rd;exact Sd1 e aK fun _=>J5l (cs:=(ec (Ar a i) aL aM aO aP aQ aR aS aT)) ag31 rfl rfl S.cell ⟨m,J4q h,(Mx (Ar a i) aU)⟩
   ·exact Sd0 e fun _=>J4o J1 rfl ⟨m,J4q h,rfl⟩
   ·exact Sd1 e av fun _=>J4t p pl29 rfl rfl ⟨m,J4q h,rfl⟩
   ·exact Sd0 e fun _=>J4x ⟨m,J4q h,rfl⟩
   ·refine Jp e (aC aw<|aC ax aN) fun _=>J5b (J49 (j:=i) (u:=(Ar b i)) d.args sl29 io31 rfl rfl rfl (Jc (by omega)) ?_);intro bP bQ bw T;obtain⟨bR,bS,bT,bU,bV,bW,bX,bY,rfl,bZ⟩:=Jd T.rd;exact⟨m,J4q h,⟨_,_,_,rfl,T⟩⟩
   ·obtain⟨b0,b1,bx,aV,U⟩:=ay;obtain⟨aW,aX,aY,aZ,a0,a4,a6,a8,rfl,a9⟩:=Jd U.rd;exact Sd1 e aV fun _=>J5l (cs:=(ec (Ar b i) aW aX aY aZ a0 a4 a6 a8)) ag31 rfl rfl U.cell ⟨m,J4q h,(Mx (Ar b i) a9)⟩
   obtain⟨b2,b3,bz,ba,bb⟩:=aD;obtain⟨b4,b5,b6,b7,b8,b9,ca,cb,rfl,cc⟩:=Jd bb.rd;obtain⟨cd,ce,cf,cg,ch,ci,cj,ck,bc,be⟩:=J8e aE;obtain⟨cl,cm,bA,bf,bg⟩:=aI;obtain⟨cn,co,cp,cq,cr,ct,cu,cv,rfl,cw⟩:=Jd bg.rd;obtain⟨cx,cy,cz,cE,cF,cG,cH,cI,bh,bi⟩:=J8e aJ;obtain⟨cJ,rfl⟩:=mixK e (aC az<|aC aA<|aC aB<|aC ba<|aC bc<|aC aF<|aC aG<|aC aH<|aC bf<|aC bh aN);refine Ol (J4p h cb12 rfl rfl (ih h.bd (Mx (Ar a i) be) (Mx (Ar b i) bi) (by rw [hab])<|J85 (Qi (by omega))<|Nat.le_of_lt_succ hN) ?_);intro cK cL bj r bk;replace k:=k.sp r;replace d:=d.sp r;replace o:=o.spn r;replace p:=p.spn r;subst bk;refine Ol<|J5n rfl<|Nl<|Uc<|J4u<|Ub<|St.add rfl rfl (Ja (a:=i) (b:=1) (by omega))<|Ua<|⟨_,(by omega),_,_,(i+1),bj,rfl,rfl,rfl,k,d,o,p,(by omega),rfl⟩
  refine Nl<|Ue<|J5i<|Rg<|Ua<|J4y<|Ju rfl (J8d rfl)<|J4w ?_ aj.below
  rfl
theorem Ju3{X:Nat→Prop}{w:World}(hX:XB X w){d:Value}{a:GExpr}(g:RV Jf X w d a){e:Value}{b:GExpr}(h:RV Jf X w e b)(hab:a=b):CRt 12 #[d,e] w fun v w'=>v=(.bool true):=Jj0 ((SizeOf.sizeOf a)+1) hX g h hab (Nat.lt_succ_self _)
theorem Jop{X:Nat→Prop}{w:World}(hX:XB X w){e:Value}{m:List Int}(a:RS Zi X w e m)(hm:m.length≤1000):CRt 91 #[e] w fun v w'=>RS Zi X w' v m:=by
 obtain⟨a1,h,rfl,_,_⟩:=a.len;have C:=J4z hX;refine Cgo (args:=[(.slice a1 m.length h)]) Tryz.func91 rfl rfl rfl<|Rg<|Ua<|Rh<|Ub<|J7d sl23 a rfl rfl (fun g=>?_) ?_
 ·exact Nl<|Uf<|Ua<|J4y<|Wq rfl rfl C<|J8i ((J8g:RS _ _ _ _ _).tr (Tr.weak C.base))<|g.symm
 refine Nl (Uc<|Rg<|Ol<|J66 C sl23 io3 ?_);intro p r i j;replace a:=a.sp j;refine Om (Ol<|J6i (T:=Zi) i sl23 io3 rfl rfl a (J86 hm (by decide)) (by omega) rfl ?_);intro s x b k d;obtain⟨l,o,rfl,_,_⟩:=d.len;exact Ua<|J4y<|Wq rfl rfl b<|J8i ((d:RS _ _ _ _ _).tr (Tr.weak b.base))<|rfl
theorem c_tidy_r(N:Nat):∀ {X:Nat→Prop} {w:World} (hX:XB X w) {v0:Value} {a:GExpr} (r0:RV Jf X w v0 a) (hpl:Yd a=true) (hl:cntE a≤10000) (hN:(SizeOf.sizeOf a) < N),CRt 63 #[v0] w fun v w'=>RV Jf X w' v (lowE a):=by
 induction N with
 | zero=>intro X w hX v0 a r0 hpl hl hN;exact absurd hN<|J9m _
 | succ N ih=>
  intro X w hX v0 a r0 hpl hl hN;obtain⟨a1,c2,a3,c4,a5,c6,a7,c8,rfl,d⟩:=J8e r0;have C:=J4z hX;have hal:=r0.args_max;have hce:=K3 a;have hac:=zz a;obtain⟨dP,dQ,dR,dS,dT⟩:=Ka.1 hpl;refine Cgo (args:=[(ea a a1 c2 a3 c4 a5 c6 a7 c8)]) Tryz.func63 rfl rfl rfl (Rg<|Ol<|J5a C rfl ?_);intro af dU dV dW cY ci cj m;replace d:=d.sp cj;refine Ol (J41 ci io31 rfl ?_);intro aE ck dX dY cZ cl bu ag;replace m:=m.spn bu;refine Nl<|J40<|J5g mixed 9 [[],[0],[],[2],[3],[],[5],[1,4,6],[]] cl [fx<|.pointer (some ⟨af,0,none⟩),fx<|.int .i64 a.op,fx<|.pointer (some ⟨af,1,none⟩),fx<|.slice a1 a.n.length c2,fs Zi a.n,fx<|.pointer (some ⟨af,6,none⟩),fx<|str a.name,fun(s:Gh) (v:Value) (w':World)=>∃ (a1':Option Addr) (c1':Nat),v= .agg #[(.int .i64 a.op),(.slice a1' a.n.length c1'),(.bool false),(.slice none 0 0),(.bool false),(.slice none 0 0),(str a.name),(.slice none 0 0)]∧RS Zi s.1 w' (.slice a1' a.n.length c1') a.n,fun(s:Gh) (v:Value) (w':World)=>∃ g':Nat,v= .pointer (some ⟨g',0,none⟩)∧Own w s.2 w' g' zX 31∧ck.heap.size≤g'] (by kernel_rfl) ⟨sx,sx,sx,sx,ss,sx,sx,(fun _ _ _ _ _ ⟨a1,c1,e,h1⟩ r=>⟨a1,c1,e,h1.tr r.sp.tx⟩),(fun _ _ _ _ _ ⟨g,e,o,l⟩ r=>⟨g,e,o.spn r.sp,l⟩),trivial⟩ fun cm K dZ ⟨L,aL⟩ H=>?_
  have bx:=m.blk.lt;have bz:=ag.blk.lt;have aU:=aL.tx.size;replace d:=(d.sp bu).sp aL;replace m:=m.spn aL;have H:Keep [6,7,8,9,10,11,12,13,3] _ cm:=H;refine⟨⟨fun _=>?_,fun⟨cn,_⟩=>?_,fun _=>?_,fun⟨co,_⟩=>?_,fun⟨cp,_⟩=>?_,fun _=>?_,fun⟨cq,_⟩=>?_,fun⟨cr,aV,ct,_⟩=>?_,fun _=>?_,trivial⟩,fun⟨cu,cv,cw,cx,bv,cy,cz,cE,cF,_⟩=>?_⟩
  ·exact Sd0 H fun _=>J4o Js rfl ⟨K,J4q L,rfl⟩
  ·exact Sd1 H cn fun _=>J4t m pl3 rfl rfl ⟨K,J4q L,rfl⟩
  ·exact Sd0 H fun _=>J4o Zb rfl ⟨K,J4q L,rfl⟩
  ·exact Sd1 H co fun _=>J4t m pl23 rfl rfl ⟨K,J4q L,rfl⟩
  ·refine Sd1 H cp fun _=>J4p L cb91 rfl rfl (Jop L.bd d.n (by omega)) ?_;intro d0 d1 cG cH cI;exact⟨K,⟨cG,cH⟩,cI⟩
  ·exact Sd0 H fun _=>J4o X9 rfl ⟨K,J4q L,rfl⟩
  ·exact Sd1 H cq fun _=>J4t m pl9 rfl rfl ⟨K,J4q L,rfl⟩
  ·obtain⟨cJ,cK,cL,aV⟩:=RS.opn aV;exact Jp H (aC cr<|aC cL<|aC ct aN) fun _=>J5b<|J47 (cs:=[(.int .i64 a.op),(.slice cJ a.n.length cK),(.bool false),(.slice none 0 0),(.bool false),(.slice none 0 0),(str a.name),(.slice none 0 0)]) rfl (by kernel_rfl)<|⟨K,J4q L,⟨_,_,rfl,aV⟩⟩
  ·refine Sd0 H fun _=>J41 L io31 rfl ?_;intro cM d2 cN cO bA cP cQ cR;exact⟨(cN,cO),⟨cP,cQ⟩,cM,rfl,cR,Nat.le_of_not_lt fun hh=>bA _ (J85 hh aU) rfl⟩
  obtain⟨d3,d4,cS,bv⟩:=RS.opn bv;obtain⟨Q,R,cT,k⟩:=cE;obtain⟨aa,cU,cV,bw⟩:=cF;have aF:af≠aa:=Nat.ne_of_lt (J85 bx bw);have aG:aE≠aa:=Nat.ne_of_lt (J85 bz bw);obtain⟨c5,rfl⟩:=mixK H (aC cu<|aC cv<|aC cw<|aC cx<|aC cS<|aC cy<|aC cz<|aC cT<|aC cU aN);refine On (Us (cs':=[(.int .i64 a.op),(.slice Q a.n.length R),(.bool false),(.slice none 0 0),(.bool false),(.slice none 0 0),(str a.name),(.slice none 0 0)]) L cV io31 ?_);intro aH aI ak am;replace d:=d.sp ak;replace k:=k.sp ak;replace m:=m.spo ak aF;replace ag:=(ag.spn aL).spo ak aG;refine Nl<|J40<|J55 (fun f v=>∃ (x y:Nat→Prop) (ab:Option Addr) (ac:Nat) (ad:Option Addr) (ae:Nat),Cx X w x y v∧f 1=(.pointer (some ⟨af,0,none⟩))∧f 2=(.pointer (some ⟨aE,0,none⟩))∧f 3=(.pointer (some ⟨aa,0,none⟩))∧ExprParts x v a a1 c2 a3 c4 a5 c6 a7 c8∧RS Zi x v (.slice Q a.n.length R) a.n∧RS Je x v (.slice ab (lowC a.op a.c).num.mag.length ac) (lowC a.op a.c).num.mag∧RS Je x v (.slice ad (lowC a.op a.c).den.mag.length ae) (lowC a.op a.c).den.mag∧Own w y v af (ec a a1 c2 a3 c4 a5 c6 a7 c8) 31∧Own w y v aE zX 31∧Own w y v aa [(.int .i64 a.op),(.slice Q a.n.length R),(.bool (lowC a.op a.c).num.neg),(.slice ab (lowC a.op a.c).num.mag.length ac),(.bool (lowC a.op a.c).den.neg),(.slice ad (lowC a.op a.c).den.mag.length ae),(str a.name),(.slice none 0 0)] 31) ?_ ?_
  ·refine Rg<|Ol<|J4o Js rfl<|Ol<|J4t m pl3 rfl rfl<|Ol<|J42 rfl rfl (fun an=>?_)<|fun an=>?_
   ·refine Nl (Uk<|Ol<|J4o Z6 rfl<|Ol<|Uo (vs:=[(.bool a.c.num.neg),(.slice a3 a.c.num.mag.length c4),(.bool a.c.den.neg),(.slice a5 a.c.den.mag.length c6)]) m ag28<|Ol<|J4p aI cb92 rfl rfl (z7 aI.bd (a:=a.c) (Za d.num d.den) (by omega) (by omega)) ?_);intro c7 c9 bB ah bC;replace am:=am.spn ah;obtain⟨aW,aX,aY,aZ,rfl,ao,aq⟩:=J8h bC;refine Ol (J4o Z6 rfl<|On<|Us (cs':=[(.int .i64 a.op),(.slice Q a.n.length R),(.bool (ofQ a.c.q).num.neg),(.slice aW (ofQ a.c.q).num.mag.length aX),(.bool (ofQ a.c.q).den.neg),(.slice aY (ofQ a.c.q).den.mag.length aZ),(str a.name),(.slice none 0 0)]) bB am io28 ?_);intro da bD Y a0;replace d:=(d.sp ah).sp Y;replace k:=(k.sp ah).sp Y;replace ao:=ao.sp Y;replace aq:=aq.sp Y;replace m:=(m.spn ah).spo Y aF;replace ag:=(ag.spn ah).spo Y aG;refine Nl ?_;have bE:ofQ a.c.q=lowC a.op a.c:=(if_pos an).symm;rw [bE] at a0 ao aq;refine⟨_,_,aW,aX,aY,aZ,bD,rfl,rfl,rfl,d,k,ao,aq,m,ag,a0⟩
   refine Nl (Ue<|J4v ?_);have bF:Xb=lowC a.op a.c:=(if_neg an).symm;have a4:Own w K.2 aH aa [(.int .i64 a.op),(.slice Q a.n.length R),.bool Xb.num.neg,.slice none Xb.num.mag.length 0,.bool Xb.den.neg,.slice none Xb.den.mag.length 0,(str a.name),(.slice none 0 0)] 31:=am;have a6:RS Je K.1 aH (.slice none Xb.num.mag.length 0) Xb.num.mag:=J8g;have a8:RS Je K.1 aH (.slice none Xb.den.mag.length 0) Xb.den.mag:=J8g;rw [bF] at a4 a6 a8;refine⟨_,_,none,0,none,0,aI,rfl,rfl,rfl,d,k,a6,a8,m,ag,a4⟩
  rintro dc dd ⟨de,df,ab,ac,ad,ae,bG,a9,ba,bb,d,k,I,J,bc,bH,bI⟩;obtain⟨dg,rfl⟩:=rebK (aC a9<|aC ba<|aC bb aN);clear a9 ba bb;refine Rh (Ol<|J4o J1 rfl<|Ol<|J4t bc pl29 rfl rfl<|Ol<|St.len sl29 rfl<|Om<|Nl<|W.block<|J5e (fun μ f v=>∃ (x y:Nat→Prop) (i:Nat) (p:List GExpr) (pa:Option Addr) (pc:Nat),Cx X w x y v∧f 2=(.pointer (some ⟨aE,0,none⟩))∧f 3=(.pointer (some ⟨aa,0,none⟩))∧f 22=(.slice a7 a.args.length c8)∧f 23=(.int .i64 ((a.args.length:Nat):Int))∧f 24=(.int .i64 ((i:Nat):Int))∧ExprParts x v a a1 c2 a3 c4 a5 c6 a7 c8∧RS Zi x v (.slice Q a.n.length R) a.n∧RS Je x v (.slice ab (lowC a.op a.c).num.mag.length ac) (lowC a.op a.c).num.mag∧RS Je x v (.slice ad (lowC a.op a.c).den.mag.length ae) (lowC a.op a.c).den.mag∧OS Jf 31 w x y v (.slice pa p.length pc) p∧Own w y v af (ec a a1 c2 a3 c4 a5 c6 a7 c8) 31∧Own w y v aE zX 31∧Own w y v aa [(.int .i64 a.op),(.slice Q a.n.length R),(.bool (lowC a.op a.c).num.neg),(.slice ab (lowC a.op a.c).num.mag.length ac),(.bool (lowC a.op a.c).den.neg),(.slice ad (lowC a.op a.c).den.mag.length ae),(str a.name),(.slice pa p.length pc)] 31∧i≤a.args.length∧p=lowL (a.args.take i)∧μ=(a.args.length - i)) _ ⟨_,_,0,[],none,0,bG,rfl,rfl,rfl,rfl,rfl,d,k,I,J,J8k,bc,bH,bI,(J9h _),rfl,rfl⟩ ?_);rintro dh di dj ⟨dk,dl,i,p,pa,pc,be,bf,bg,bh,bi,bj,d,k,I,J,hP,E,B,A,hi,hp,cW⟩;obtain⟨dm,rfl⟩:=rebK (aC bf<|aC bg<|aC bh<|aC bi<|aC bj aN);clear bf bg bh bi bj;refine Rg<|Ol<|J5c rfl rfl (fun bt=>?_)<|fun bt=>?_
  ·refine Nl (J40<|Ud<|J4v<|J40<|W.block<|Rg<|Ol<|J49 (j:=i) (u:=(Ar a i)) d.args sl29 io31 rfl rfl rfl (Jc (by omega)) ?_);intro dn dp cX bk;obtain⟨ar,au,av,aw,ax,ay,az,aA,rfl,ai⟩:=Jd bk.rd;refine Ol (J5l (cs:=(ec (Ar a i) ar au av aw ax ay az aA)) ag31 rfl rfl bk.cell<|Ol<|J6w be io31 rfl ?_);intro dq dr bl ds aB bm F bJ bK;have bL:=aB _ E.blk.lt;have bM:=aB _ B.blk.lt;have bN:=aB _ A.blk.lt;replace d:=d.sp F;replace k:=k.sp F;replace I:=I.sp F;replace J:=J.sp F;replace hP:=hP.sp F bm bK;replace ai:=ai.sp F;replace E:=E.spn F;replace B:=B.spn F;replace A:=A.spn F;refine On (Us (cs':=(ec (Ar a i) ar au av aw ax ay az aA)) bm bJ io31 ?_);intro dt bn G aJ;refine Nl<|J63 mixed 5 [[],[0],[],[2],[3]] bn [fx<|.pointer (some ⟨aa,7,none⟩),fx<|.slice pa p.length pc,fx<|ea (Ar a i) ar au av aw ax ay az aA,ur bl Jf<|lowE<|Ar a i,us bl Jf [(lowE<|Ar a i)]] (by kernel_rfl) ⟨sx,sx,sx,tr,ts,trivial⟩ fun bO du M D P=>?_
   replace d:=(d.sp G).sp D;replace k:=(k.sp G).sp D;replace I:=(I.sp G).sp D;replace J:=(J.sp G).sp D;replace hP:=(hP.sp G bn<|fun _ h=>h).sp D M (fun _ h=>h)
   replace ai:=(ai.sp G).sp D;replace E:=(E.spo G bL).spn D;replace B:=(B.spo G bM).spn D;replace A:=(A.spo G bN).spn D;replace aJ:=aJ.spn D;have P:Keep [28,29,30,31,32] _ bO:=P;refine⟨⟨fun _=>?_,fun⟨bP,_⟩=>?_,fun _=>?_,fun⟨bQ,_⟩=>?_,fun⟨bR,_⟩=>?_,trivial⟩,fun⟨bS,bT,bU,bV,aK,_⟩=>?_⟩
   ·exact Sd0 P fun _=>J4o J1 rfl<|⟨(),⟨M,Sp.refl⟩,rfl⟩
   ·exact Sd1 P bP fun _=>J4t A pl29 rfl rfl<|⟨(),⟨M,Sp.refl⟩,rfl⟩
   ·exact Sd0 P fun _=>Uo (vs:=(ec (Ar a i) ar au av aw ax ay az aA)) aJ ag31<|⟨(),⟨M,Sp.refl⟩,rfl⟩
   ·refine Sd1 P bQ fun _=>J4p M cb63 rfl rfl (ih M.bd (Mx (Ar a i) ai) (Vb hpl (by omega)) (by have h7:=Ja3 (l:=a.args) (i:=i) (by omega);unfold Ar at *;omega)<|J85 (Qi (by omega))<|Nat.le_of_lt_succ hN) ?_;intro dv dw bW bX bY;exact⟨(),⟨bW,bX⟩,bY⟩
   ·obtain⟨bZ,b0,b1,b2,b3,b4,b5,b6,b7,S⟩:=J8e bR;refine Sd1 P b7 fun _=>J5f (T:=Jf) (css:=[(ec (lowE<|Ar a i) bZ b0 b1 b2 b3 b4 b5 b6)]) (l:=[(lowE<|Ar a i)]) M sl29 io31 (by decide) (by decide) rfl (by kernel_rfl) ⟨(Zm (lowE<|Ar a i) S.lo S.hi S.name S.n S.num S.den S.args),trivial⟩ ?_;intro dx dy b8 b9 ca;exact⟨(),⟨b8,b9⟩,ca⟩
   obtain⟨dz,dA,dB,dC,dD,dE,dF,dG,cb,dH⟩:=J8e bV;obtain⟨cc,cd,ce,aK⟩:=RS.opn aK;obtain⟨dI,rfl⟩:=mixK P (aC bS<|aC bT<|aC bU<|aC cb<|aC ce aN);refine Ol (J5k (T:=Jf) (v:=(.slice pa p.length pc)) (u:=(.slice cc [(lowE<|Ar a i)].length cd)) M sl29 io31 rfl rfl hP (Yi aK) (by rw [hp,Yh,List.length_map,J9b];simp [maxLen];omega) (by rw [hp,Yh,List.length_map,J9b];simp;omega) rfl ?_);intro dJ dK dL cf U dM aD;replace A:=A.ap U A.mem;obtain⟨bo,bp,rfl,_,_⟩:=aD.len;refine Ol (J4o J1 rfl<|On<|Us (cs':=[(.int .i64 a.op),(.slice Q a.n.length R),(.bool (lowC a.op a.c).num.neg),(.slice ab (lowC a.op a.c).num.mag.length ac),(.bool (lowC a.op a.c).den.neg),(.slice ad (lowC a.op a.c).den.mag.length ae),(str a.name),(.slice bo (p++[(lowE<|Ar a i)]).length bp)]) cf A io29 ?_);intro dN bq V cg;replace d:=(d.tr U.tx).sp V;replace k:=(k.tr U.tx).sp V;replace I:=(I.tr U.tx).sp V;replace J:=(J.tr U.tx).sp V;replace aD:=aD.sp V bq<|fun _ h=>h
   replace E:=(E.ap U E.mem).spo V aF;replace B:=(B.ap U B.mem).spo V aG;refine Nl<|J4u<|Ol<|St.add rfl rfl (Ja (a:=i) (b:=1) (by omega))<|Om<|Nl<|⟨_,(by omega),_,_,(i+1),(p++[(lowE<|Ar a i)]),bo,bp,bq,rfl,rfl,rfl,rfl,rfl,d,k,I,J,aD,E,B,cg,(by omega),(Jgz hp (by omega)),rfl⟩
  refine Nl (J40<|Ue<|J5i<|Rg<|Ol<|Uo (vs:=[(.int .i64 a.op),(.slice Q a.n.length R),(.bool (lowC a.op a.c).num.neg),(.slice ab (lowC a.op a.c).num.mag.length ac),(.bool (lowC a.op a.c).den.neg),(.slice ad (lowC a.op a.c).den.mag.length ae),(str a.name),(.slice pa p.length pc)]) A ag31<|On<|Us (cs':=[(.int .i64 a.op),(.slice Q a.n.length R),(.bool (lowC a.op a.c).num.neg),(.slice ab (lowC a.op a.c).num.mag.length ac),(.bool (lowC a.op a.c).den.neg),(.slice ad (lowC a.op a.c).den.mag.length ae),(str a.name),(.slice pa p.length pc)]) be B io31 ?_);intro dO Z aj ch;replace d:=d.sp aj;replace k:=k.sp aj;replace I:=I.sp aj;replace J:=J.sp aj;replace hP:=hP.sp aj Z<|fun _ h=>h
  refine Nl (J4y<|Ju rfl (resV.c ch rfl ag31 rfl)<|J4w ?_ Z.below);exact J8f (a:=(GExpr.mk a.op a.n ⟨⟨(lowC a.op a.c).num.neg,(lowC a.op a.c).num.mag⟩,⟨(lowC a.op a.c).den.neg,(lowC a.op a.c).den.mag⟩⟩ a.name p)) (vz (GExpr.mk a.op a.n ⟨⟨(lowC a.op a.c).num.neg,(lowC a.op a.c).num.mag⟩,⟨(lowC a.op a.c).den.neg,(lowC a.op a.c).den.mag⟩⟩ a.name p) d.lo d.hi d.name ((k:RS _ _ _ _ _).tr (Tr.weak Z.base)) ((I:RS _ _ _ _ _).tr (Tr.weak Z.base)) ((J:RS _ _ _ _ _).tr (Tr.weak Z.base))<|hP.toRS Z hX)<|Jkw hp (by omega)
theorem Juv(N:Nat):∀ {X:Nat→Prop} {w:World} (hX:XB X w) {v0:Value} {a:GExpr} (r0:RV Jf X w v0 a) (hpl:Yd a=true) (hl:cntE a≤10000) (hN:(SizeOf.sizeOf a) < N),CRt 17 #[v0] w fun v w'=>RV Jf X w' v (lowE a):=by
 induction N with
 | zero=>intro X w hX v0 a r0 hpl hl hN;exact absurd hN<|J9m _
 | succ N ih=>
  intro X w hX v0 a r0 hpl hl hN;obtain⟨a1,c2,a3,c4,a5,c6,a7,c8,rfl,k⟩:=J8e r0;have C:=J4z hX;have hal:=r0.args_max;have hce:=K3 a;have hac:=zz a;obtain⟨cq,eF,eG,eH,eI⟩:=Ka.1 hpl;refine Cgo (args:=[(ea a a1 c2 a3 c4 a5 c6 a7 c8)]) Tryz.func17 rfl rfl rfl (Rg<|Ol<|J5a C rfl ?_);intro V eJ eK eL dg cr ct B;replace k:=k.sp ct;refine Ol (J41 cr io31 rfl ?_);intro aq cu eM eN dh cv bf ae;replace B:=B.spn bf;refine Nl<|J40<|J5g mixed 10 [[],[0],[],[],[3],[2,4],[],[6],[1,5,7],[]] cv [fx<|.pointer (some ⟨V,0,none⟩),fx<|.int .i64 a.op,u0,fx<|.pointer (some ⟨V,1,none⟩),fx<|.slice a1 a.n.length c2,fs Zi a.n,fx<|.pointer (some ⟨V,6,none⟩),fx<|str a.name,fun(s:Gh) (v:Value) (w':World)=>∃ (a1':Option Addr) (c1':Nat),v= .agg #[(.int .i64 a.op),(.slice a1' a.n.length c1'),(.bool false),(.slice none 0 0),(.bool false),(.slice none 0 0),(str a.name),(.slice none 0 0)]∧RS Zi s.1 w' (.slice a1' a.n.length c1') a.n,fun(s:Gh) (v:Value) (w':World)=>∃ g':Nat,v= .pointer (some ⟨g',0,none⟩)∧Own w s.2 w' g' zX 31∧cu.heap.size≤g'] (by kernel_rfl) ⟨sx,sx,(fun _ _ _ _ _ h _=>h),sx,sx,ss,sx,sx,(fun _ _ _ _ _ ⟨a1,c1,e,h1⟩ r=>⟨a1,c1,e,h1.tr r.sp.tx⟩),(fun _ _ _ _ _ ⟨g,e,o,l⟩ r=>⟨g,e,o.spn r.sp,l⟩),trivial⟩ fun cw G eO ⟨H,ay⟩ F=>?_
  have bh:=B.blk.lt;have bi:=ae.blk.lt;have aH:=ay.tx.size;replace k:=(k.sp bf).sp ay;replace B:=B.spn ay;have F:Keep [5,6,7,8,9,10,11,12,13,3] _ cw:=F;refine⟨⟨fun _=>?_,fun⟨cx,_⟩=>?_,fun _=>?_,fun _=>?_,fun⟨cy,_⟩=>?_,fun⟨cz,cE,_⟩=>?_,fun _=>?_,fun⟨cF,_⟩=>?_,fun⟨cG,aI,cH,_⟩=>?_,fun _=>?_,trivial⟩,fun⟨cI,cJ,cK,cL,cM,bg,cN,cO,cP,cQ,_⟩=>?_⟩
  ·exact Sd0 F fun _=>J4o Js rfl ⟨G,J4q H,rfl⟩
  ·exact Sd1 F cx fun _=>J4t B pl3 rfl rfl ⟨G,J4q H,rfl⟩
  ·refine Sd0 F fun _=>J66 H sl23 io3 ?_;intro eP eQ cR cS;exact⟨G,⟨cR,cS⟩,⟨_,rfl⟩⟩
  ·exact Sd0 F fun _=>J4o Zb rfl ⟨G,J4q H,rfl⟩
  ·exact Sd1 F cy fun _=>J4t B pl23 rfl rfl ⟨G,J4q H,rfl⟩
  ·obtain⟨eR,cT⟩:=cz;refine Jp F (aC cT<|aC cE aN) fun _=>J5b (J6i (T:=Zi) H sl23 io3 rfl rfl k.n (J86 cq (by decide)) (by omega) rfl ?_);intro eS eT cU cV cW;exact⟨G,⟨cU,cV⟩,cW⟩
  ·exact Sd0 F fun _=>J4o X9 rfl ⟨G,J4q H,rfl⟩
  ·exact Sd1 F cF fun _=>J4t B pl9 rfl rfl ⟨G,J4q H,rfl⟩
  ·obtain⟨cX,cY,cZ,aI⟩:=RS.opn aI;exact Jp F (aC cG<|aC cZ<|aC cH aN) fun _=>J5b<|J47 (cs:=[(.int .i64 a.op),(.slice cX a.n.length cY),(.bool false),(.slice none 0 0),(.bool false),(.slice none 0 0),(str a.name),(.slice none 0 0)]) rfl (by kernel_rfl)<|⟨G,J4q H,⟨_,_,rfl,aI⟩⟩
  ·refine Sd0 F fun _=>J41 H io31 rfl ?_;intro c0 eU c3 c5 bj c7 c9 da;exact⟨(c3,c5),⟨c7,c9⟩,c0,rfl,da,Nat.le_of_not_lt fun hh=>bj _ (J85 hh aH) rfl⟩
  obtain⟨dk,bk⟩:=cK;obtain⟨dl,dm,bl,bg⟩:=RS.opn bg;obtain⟨D,E,bm,d⟩:=cP;obtain⟨I,bn,bo,aJ⟩:=cQ;have ar:V≠I:=Nat.ne_of_lt (J85 bh aJ);have au:aq≠I:=Nat.ne_of_lt (J85 bi aJ);obtain⟨dn,rfl⟩:=mixK F (aC cI<|aC cJ<|aC bk<|aC cL<|aC cM<|aC bl<|aC cN<|aC cO<|aC bm<|aC bn aN);refine On (Us (cs':=[(.int .i64 a.op),(.slice D a.n.length E),(.bool false),(.slice none 0 0),(.bool false),(.slice none 0 0),(str a.name),(.slice none 0 0)]) H bo io31 ?_);intro av aw ah ai;replace k:=k.sp ah;replace d:=d.sp ah;replace B:=B.spo ah ar;replace ae:=(ae.spn ay).spo ah au;refine Nl<|J40<|J55 (fun f v=>∃ (x y:Nat→Prop) (aa:Option Addr) (ab:Nat) (ac:Option Addr) (ad:Nat),Cx X w x y v∧f 1=(.pointer (some ⟨V,0,none⟩))∧f 2=(.pointer (some ⟨aq,0,none⟩))∧f 3=(.pointer (some ⟨I,0,none⟩))∧ExprParts x v a a1 c2 a3 c4 a5 c6 a7 c8∧RS Zi x v (.slice D a.n.length E) a.n∧RS Je x v (.slice aa (lowC a.op a.c).num.mag.length ab) (lowC a.op a.c).num.mag∧RS Je x v (.slice ac (lowC a.op a.c).den.mag.length ad) (lowC a.op a.c).den.mag∧Own w y v V (ec a a1 c2 a3 c4 a5 c6 a7 c8) 31∧Own w y v aq zX 31∧Own w y v I [(.int .i64 a.op),(.slice D a.n.length E),(.bool (lowC a.op a.c).num.neg),(.slice aa (lowC a.op a.c).num.mag.length ab),(.bool (lowC a.op a.c).den.neg),(.slice ac (lowC a.op a.c).den.mag.length ad),(str a.name),(.slice none 0 0)] 31) ?_ ?_
  ·refine Rg<|Ol<|J4o Js rfl<|Ol<|J4t B pl3 rfl rfl<|Ol<|J42 rfl rfl (fun aj=>?_)<|fun aj=>?_
   ·refine Nl (Uk<|Ol<|J4o Z6 rfl<|Ol<|Uo (vs:=[(.bool a.c.num.neg),(.slice a3 a.c.num.mag.length c4),(.bool a.c.den.neg),(.slice a5 a.c.den.mag.length c6)]) B ag28<|Ol<|J4p aw cb42 rfl rfl (xy aw.bd (a:=a.c) (Za k.num k.den) (by omega) (by omega)) ?_);intro dp dq bp af bq;replace ai:=ai.spn af;obtain⟨aK,aL,aM,aO,rfl,ak,am⟩:=J8h bq;refine Ol (J4o Z6 rfl<|On<|Us (cs':=[(.int .i64 a.op),(.slice D a.n.length E),(.bool (ofQ a.c.q).num.neg),(.slice aK (ofQ a.c.q).num.mag.length aL),(.bool (ofQ a.c.q).den.neg),(.slice aM (ofQ a.c.q).den.mag.length aO),(str a.name),(.slice none 0 0)]) bp ai io28 ?_);intro dr br Y aP;replace k:=(k.sp af).sp Y;replace d:=(d.sp af).sp Y;replace ak:=ak.sp Y;replace am:=am.sp Y;replace B:=(B.spn af).spo Y ar;replace ae:=(ae.spn af).spo Y au;refine Nl ?_;have bs:ofQ a.c.q=lowC a.op a.c:=(if_pos aj).symm;rw [bs] at aP ak am;refine⟨_,_,aK,aL,aM,aO,br,rfl,rfl,rfl,k,d,ak,am,B,ae,aP⟩
   refine Nl (Ue<|J4v ?_);have bt:Xb=lowC a.op a.c:=(if_neg aj).symm;have aQ:Own w G.2 av I [(.int .i64 a.op),(.slice D a.n.length E),.bool Xb.num.neg,.slice none Xb.num.mag.length 0,.bool Xb.den.neg,.slice none Xb.den.mag.length 0,(str a.name),(.slice none 0 0)] 31:=ai;have aR:RS Je G.1 av (.slice none Xb.num.mag.length 0) Xb.num.mag:=J8g;have aS:RS Je G.1 av (.slice none Xb.den.mag.length 0) Xb.den.mag:=J8g;rw [bt] at aQ aR aS;refine⟨_,_,none,0,none,0,aw,rfl,rfl,rfl,k,d,aR,aS,B,ae,aQ⟩
  rintro ds dt ⟨du,dv,aa,ab,ac,ad,bu,aT,aU,aV,k,d,M,P,bv,bw,bx⟩;obtain⟨dw,rfl⟩:=rebK (aC aT<|aC aU<|aC aV aN);clear aT aU aV;refine Rh (Ua<|W.block<|J5e (fun μ f v=>∃ (x y:Nat→Prop) (i:Nat) (p:List GExpr) (pa:Option Addr) (pc:Nat),Cx X w x y v∧f 1=(.pointer (some ⟨V,0,none⟩))∧f 2=(.pointer (some ⟨aq,0,none⟩))∧f 3=(.pointer (some ⟨I,0,none⟩))∧f 4=(.int .i64 ((i:Nat):Int))∧ExprParts x v a a1 c2 a3 c4 a5 c6 a7 c8∧RS Zi x v (.slice D a.n.length E) a.n∧RS Je x v (.slice aa (lowC a.op a.c).num.mag.length ab) (lowC a.op a.c).num.mag∧RS Je x v (.slice ac (lowC a.op a.c).den.mag.length ad) (lowC a.op a.c).den.mag∧OS Jf 31 w x y v (.slice pa p.length pc) p∧Own w y v V (ec a a1 c2 a3 c4 a5 c6 a7 c8) 31∧Own w y v aq zX 31∧Own w y v I [(.int .i64 a.op),(.slice D a.n.length E),(.bool (lowC a.op a.c).num.neg),(.slice aa (lowC a.op a.c).num.mag.length ab),(.bool (lowC a.op a.c).den.neg),(.slice ac (lowC a.op a.c).den.mag.length ad),(str a.name),(.slice pa p.length pc)] 31∧i≤a.args.length∧p=lowL (a.args.take i)∧μ=(a.args.length - i)) _ ⟨_,_,0,[],none,0,bu,rfl,rfl,rfl,rfl,k,d,M,P,J8k,bv,bw,bx,(J9h _),rfl,rfl⟩ ?_);rintro dx dy dz ⟨an,dA,i,p,pa,pc,aW,aX,aY,aZ,a0,k,d,M,P,hP,J,Q,K,hi,hp,dc⟩;obtain⟨dB,rfl⟩:=rebK (aC aX<|aC aY<|aC aZ<|aC a0 aN);clear aX aY aZ a0;refine Rh<|Ub<|J4o J1 rfl<|Ol<|J4t J pl29 rfl rfl<|Ol<|St.len sl29 rfl<|Ol<|J5c rfl rfl (fun be=>?_)<|fun be=>?_
  ·refine Nl<|Ud<|J4v<|J40<|W.block<|J63 mixed 9 [[],[0],[],[2],[],[3,4],[5],[6],[7]] aW [fx<|.pointer (some ⟨I,7,none⟩),fx<|.slice pa p.length pc,fx<|.pointer (some ⟨V,7,none⟩),fx<|.slice a7 a.args.length c8,fx<|.int .i64 ((i:Nat):Int),uE an Jf<|Ar a i,ur an Jf<|Ar a i,ur an Jf<|lowE<|Ar a i,us an Jf [(lowE<|Ar a i)]] (by kernel_rfl) ⟨sx,sx,sx,sx,sx,tE,tr,tr,ts,trivial⟩ fun bz dC m L A=>?_
   replace k:=k.sp L;replace d:=d.sp L;replace M:=M.sp L;replace P:=P.sp L;replace hP:=hP.sp L m<|fun _ h=>h
   replace J:=J.spn L;replace Q:=Q.spn L;replace K:=K.spn L;have A:Keep [28,29,30,31,32,33,34,35,36] _ bz:=A;refine⟨⟨fun _=>?_,fun⟨bA,_⟩=>?_,fun _=>?_,fun⟨bB,_⟩=>?_,fun _=>?_,fun⟨bC,bD,_⟩=>?_,fun⟨bE,_⟩=>?_,fun⟨bF,_⟩=>?_,fun⟨bG,_⟩=>?_,trivial⟩,fun⟨bH,bI,bJ,bK,bL,bM,bN,bO,ax,_⟩=>?_⟩
   ·exact Sd0 A fun _=>J4o J1 rfl<|⟨(),⟨m,Sp.refl⟩,rfl⟩
   ·exact Sd1 A bA fun _=>J4t K pl29 rfl rfl<|⟨(),⟨m,Sp.refl⟩,rfl⟩
   ·exact Sd0 A fun _=>J4o J1 rfl<|⟨(),⟨m,Sp.refl⟩,rfl⟩
   ·exact Sd1 A bB fun _=>J4t J pl29 rfl rfl<|⟨(),⟨m,Sp.refl⟩,rfl⟩
   ·exact Sd0 A fun _=>J4x<|⟨(),⟨m,Sp.refl⟩,rfl⟩
   ·refine Jp A (aC bC<|aC bD aN) fun _=>J5b (J49 (j:=i) (u:=(Ar a i)) k.args sl29 io31 rfl rfl rfl (Jc (by omega)) ?_);intro dD dE dd a4;obtain⟨dF,dG,dH,dI,dJ,dK,dL,dM,rfl,dN⟩:=Jd a4.rd;exact⟨(),⟨m,Sp.refl⟩,⟨_,_,_,rfl,a4⟩⟩
   ·obtain⟨dO,dP,de,bP,a6⟩:=bE;obtain⟨bQ,bR,bS,bT,bU,bV,bW,bX,rfl,bY⟩:=Jd a6.rd;exact Sd1 A bP fun _=>J5l (cs:=(ec (Ar a i) bQ bR bS bT bU bV bW bX)) ag31 rfl rfl a6.cell<|⟨(),⟨m,Sp.refl⟩,(Mx (Ar a i) bY)⟩
   ·obtain⟨dQ,dR,dS,dT,dU,dV,dW,dX,bZ,b0⟩:=J8e bF;refine Sd1 A bZ fun _=>J4p m cb17 rfl rfl (ih m.bd (Mx (Ar a i) b0) (Vb hpl (by omega)) (by have h7:=Ja3 (l:=a.args) (i:=i) (by omega);unfold Ar at *;omega)<|J85 (Qi (by omega))<|Nat.le_of_lt_succ hN) ?_;intro dY dZ b1 b2 b3;exact⟨(),⟨b1,b2⟩,b3⟩
   ·obtain⟨b4,b5,b6,b7,b8,b9,ca,cb,cc,R⟩:=J8e bG;refine Sd1 A cc fun _=>J5f (T:=Jf) (css:=[(ec (lowE<|Ar a i) b4 b5 b6 b7 b8 b9 ca cb)]) (l:=[(lowE<|Ar a i)]) m sl29 io31 (by decide) (by decide) rfl (by kernel_rfl) ⟨(Zm (lowE<|Ar a i) R.lo R.hi R.name R.n R.num R.den R.args),trivial⟩ ?_;intro d0 d1 cd ce cf;exact⟨(),⟨cd,ce⟩,cf⟩
   obtain⟨d2,d3,df,cg,ch⟩:=bM;obtain⟨d4,d5,d6,d7,d8,d9,eb,ed,rfl,ee⟩:=Jd ch.rd;obtain⟨ef,eg,eh,ei,ej,ek,el,em,ci,en⟩:=J8e bN;obtain⟨eo,ep,eq,es,et,eu,ev,ew,cj,ex⟩:=J8e bO;obtain⟨ck,cl,cm,ax⟩:=RS.opn ax;obtain⟨ey,rfl⟩:=mixK A (aC bH<|aC bI<|aC bJ<|aC bK<|aC bL<|aC cg<|aC ci<|aC cj<|aC cm aN);refine Ol (J5k (T:=Jf) (v:=(.slice pa p.length pc)) (u:=(.slice ck [(lowE<|Ar a i)].length cl)) m sl29 io31 rfl rfl hP (Yi ax) (by rw [hp,Yh,List.length_map,J9b];simp [maxLen];omega) (by rw [hp,Yh,List.length_map,J9b];simp;omega) rfl ?_);intro ez eA eB cn S eC ao;replace K:=K.ap S K.mem;obtain⟨a8,a9,rfl,_,_⟩:=ao.len;refine Ol (J4o J1 rfl<|On<|Us (cs':=[(.int .i64 a.op),(.slice D a.n.length E),(.bool (lowC a.op a.c).num.neg),(.slice aa (lowC a.op a.c).num.mag.length ab),(.bool (lowC a.op a.c).den.neg),(.slice ac (lowC a.op a.c).den.mag.length ad),(str a.name),(.slice a8 (p++[(lowE<|Ar a i)]).length a9)]) cn K io29 ?_);intro eD ba U co;replace k:=(k.tr S.tx).sp U;replace d:=(d.tr S.tx).sp U;replace M:=(M.tr S.tx).sp U;replace P:=(P.tr S.tx).sp U;replace ao:=ao.sp U ba<|fun _ h=>h
   replace J:=(J.ap S J.mem).spo U ar;replace Q:=(Q.ap S Q.mem).spo U au;refine Nl<|J4u<|Ub<|St.add rfl rfl (Ja (a:=i) (b:=1) (by omega))<|Ua<|⟨_,(by omega),_,_,(i+1),(p++[(lowE<|Ar a i)]),a8,a9,ba,rfl,rfl,rfl,rfl,k,d,M,P,ao,J,Q,co,(by omega),(Jgz hp (by omega)),rfl⟩
  refine Nl (Ue<|J5i<|Rg<|Ol<|Uo (vs:=[(.int .i64 a.op),(.slice D a.n.length E),(.bool (lowC a.op a.c).num.neg),(.slice aa (lowC a.op a.c).num.mag.length ab),(.bool (lowC a.op a.c).den.neg),(.slice ac (lowC a.op a.c).den.mag.length ad),(str a.name),(.slice pa p.length pc)]) K ag31<|On<|Us (cs':=[(.int .i64 a.op),(.slice D a.n.length E),(.bool (lowC a.op a.c).num.neg),(.slice aa (lowC a.op a.c).num.mag.length ab),(.bool (lowC a.op a.c).den.neg),(.slice ac (lowC a.op a.c).den.mag.length ad),(str a.name),(.slice pa p.length pc)]) aW Q io31 ?_);intro eE Z ag cp;replace k:=k.sp ag;replace d:=d.sp ag;replace M:=M.sp ag;replace P:=P.sp ag;replace hP:=hP.sp ag Z<|fun _ h=>h
  refine Nl (J4y<|Ju rfl (resV.c cp rfl ag31 rfl)<|J4w ?_ Z.below);exact J8f (a:=(GExpr.mk a.op a.n ⟨⟨(lowC a.op a.c).num.neg,(lowC a.op a.c).num.mag⟩,⟨(lowC a.op a.c).den.neg,(lowC a.op a.c).den.mag⟩⟩ a.name p)) (vz (GExpr.mk a.op a.n ⟨⟨(lowC a.op a.c).num.neg,(lowC a.op a.c).num.mag⟩,⟨(lowC a.op a.c).den.neg,(lowC a.op a.c).den.mag⟩⟩ a.name p) k.lo k.hi k.name ((d:RS _ _ _ _ _).tr (Tr.weak Z.base)) ((M:RS _ _ _ _ _).tr (Tr.weak Z.base)) ((P:RS _ _ _ _ _).tr (Tr.weak Z.base))<|hP.toRS Z hX)<|Jkw hp (by omega)
theorem Jyj{X:Nat→Prop}{w:World}(hX:XB X w){b:Value}{a:GExpr}(d:RV Jf X w b a)(hpl:Yd a=true)(hl:cntE a≤10000):CRt 17 #[b] w fun v w'=>RV Jf X w' v (lowE a):=Juv ((SizeOf.sizeOf a)+1) hX d hpl hl (Nat.lt_succ_self _)
theorem Jqi{X:Nat→Prop}{w:World}(hX:XB X w){J:Value}{a:GRat}(G:RV Yp X w J a)(hln:a.num.mag.length≤10000)(hld:a.den.mag.length≤10000):CRt 110 #[J] w fun v w'=>v=(str (qTxt a.q)):=by
 obtain⟨a1,K,L,M,rfl,H,I⟩:=J8h G;have C:=J4z hX;have sn:=G.rat_small.1;have sd:=G.rat_small.2;have q1:=Kd sn;have q2:=Ke sd;refine Cgo (args:=[(.agg #[(.bool a.num.neg),(.slice a1 a.num.mag.length K),(.bool a.den.neg),(.slice L a.den.mag.length M)])]) Tryz.func110 rfl rfl rfl (Rg<|Ol<|J5a C rfl ?_);intro g7 w8 x9 ao am p r N;replace H:=H.sp r;replace I:=I.sp r;refine Oa (Nl<|Rg<|Ol<|Uo (vs:=[(.bool a.num.neg),(.slice a1 a.num.mag.length K),(.bool a.den.neg),(.slice L a.den.mag.length M)]) N ag28<|Ol<|J4p p cb42 rfl rfl (xy p.bd (a:=a) (Za H I) (by omega) (by omega)) ?_);intro aq ar P au Q;obtain⟨s,x,j,k,rfl,l,d⟩:=J8h Q;refine Ol (J41 P io28 rfl ?_);intro R av aw ax an S y T;refine On (Us (cs':=[(.bool (ofQ a.q).num.neg),(.slice s (ofQ a.q).num.mag.length x),(.bool (ofQ a.q).den.neg),(.slice j (ofQ a.q).den.mag.length k)]) S T io28 ?_);intro ay A B e;replace l:=(l.sp y).sp B;replace d:=(d.sp y).sp B;refine Nl (Rg<|Ol<|J4o Km rfl<|Ol<|Uo (vs:=[(.bool (ofQ a.q).num.neg),(.slice s (ofQ a.q).num.mag.length x)]) e ag26<|Ol<|J4p A J0j rfl rfl (Jsk A.bd (a:=(ofQ a.q).num) (Ji l) (by omega)) ?_);intro az aA U D V;subst V;refine Ua<|J40<|J40<|J5g mixed 3 [[],[0],[]] U [fx<|.pointer (some ⟨R,2,none⟩),fx<|.agg #[(.bool (ofQ a.q).den.neg),(.slice j (ofQ a.q).den.mag.length k)],fr Jv<|ofZ 1] (by kernel_rfl) ⟨sx,sx,sr,trivial⟩ fun Y m aB ⟨g,E⟩ h=>?_
 replace d:=(d.sp D).sp E;replace e:=(e.spn D).spn E;have h:Keep [10,11,12] _ Y:=h;refine⟨⟨fun _=>?_,fun⟨Z,_⟩=>?_,fun _=>?_,trivial⟩,fun⟨aa,ab,ac,_⟩=>?_⟩
 ·exact Sd0 h fun _=>J4o Yk rfl ⟨m,J4q g,rfl⟩
 ·exact Sd1 h Z fun _=>J46 (vs:=[(.bool (ofQ a.q).den.neg),(.slice j (ofQ a.q).den.mag.length k)]) e ag26 rfl rfl rfl ⟨m,J4q g,rfl⟩
 ·refine Sd0 h fun _=>J4p g Jjv rfl rfl (x_of g.bd (by decide) (by decide)) ?_;intro aD aE ad ae af;exact⟨m,⟨ad,ae⟩,af⟩
 obtain⟨aF,aG,ag,ah⟩:=RV.int ac;obtain⟨aH,rfl⟩:=mixK h (aC aa<|aC ab<|aC ag aN);refine Ol (J5h<|J4p g Jsv rfl rfl (Jjr g.bd (a:=(ofQ a.q).den) (Ji d) (b:=(ofZ 1)) (Ji ah) (by omega) (by decide)) ?_);intro aI aJ o F ai;replace d:=d.sp F;replace e:=e.spn F;refine⟨_,ai,fun i=>?_,fun i=>?_⟩
 ·exact Ol<|J5n rfl<|Nl<|Uc<|Rg<|Om<|Ua<|J4y<|Wq rfl rfl o<|J87 (str)<|(Jqv<|of_decide_eq_true i)
 refine Ol (J5n rfl<|Nl<|Uk<|Ub<|J43 rfl rfl (by have:=Jpp (q:=a.q);rw [J82];omega)<|Ol<|J4o Yk rfl<|Ol<|Uo (vs:=[(.bool (ofQ a.q).den.neg),(.slice j (ofQ a.q).den.mag.length k)]) e ag26<|Ol<|J4p o J0j rfl rfl (Jsk o.bd (a:=(ofQ a.q).den) (Ji d) (by omega)) ?_);intro aK aL aj aM ak;subst ak;exact Ol<|J43 rfl rfl (by have:=Jpp (q:=a.q);have:=Jw5 (q:=a.q);rw [J8z,J82];omega)<|Ua<|Rg<|Om<|Ua<|J4y<|Wq rfl rfl aj<|J87 (str)<|(Jrx<|of_decide_eq_false i)
set_option maxHeartbeats 8000000 in
theorem x_ngE{X:Nat→Prop}{w:World}(hX:XB X w){v0:Value}{a:GExpr}(r0:RV Jf X w v0 a)(hg:Gd a):CRt 75 #[v0] w fun v w'=>(∃ v0 v1,v= .tuple #[v0,v1]∧(RV Jf X w' v0 (ngE a))∧(v1=(.bool (miE a)))):=by
 obtain⟨a1,N,B,D,E,F,P,o,rfl,d⟩:=J8e r0;have C:=J4z hX;have cr:=hg.m1;have ct:=hg.m2;have hal:=hg.al;refine Cgo (args:=[(ea a a1 N B D E F P o)]) Tryz.func75 rfl rfl rfl (Rg<|Ol<|J5a C rfl ?_);intro ai dH dI dJ cu b1 b2 K;refine Ol (J41 b1 io31 rfl ?_);intro ac dK dL dM cv ay bc ab;replace d:=(d.sp b2).sp bc;replace K:=K.spn bc;refine Ua<|J40<|J55 (fun f v=>∃ (x y:Nat→Prop),Cx X w x y v∧f 1=(.pointer (some ⟨ai,0,none⟩))∧f 2=(.pointer (some ⟨ac,0,none⟩))∧ExprParts x v a a1 N B D E F P o∧Own w y v ai (ec a a1 N B D E F P o) 31∧Own w y v ac zX 31∧negB a.op a.c.q=false) ?_ ?_
 ·refine Rg<|Ol<|J4o Js rfl<|Ol<|J4t K pl3 rfl rfl<|Ol<|J42 rfl rfl (fun aj=>?_)<|fun aj=>?_
  ·refine Om (OgD<|J4o Z6 rfl<|OgD<|Uo (vs:=[(.bool a.c.num.neg),(.slice B a.c.num.mag.length D),(.bool a.c.den.neg),(.slice E a.c.den.mag.length F)]) K ag28<|OgD<|J4p ay cb82 rfl rfl (xj ay.bd (a:=a.c) (Za d.num d.den) (by omega) (by omega)) ?_);intro dN dO az aA b3;replace d:=d.sp aA;replace K:=K.spn aA;replace ab:=ab.spn aA;subst b3;refine OgD<|J5c rfl rfl (fun ak=>?_)<|fun ak=>?_
   ·refine OT (Nl<|Uf<|Ol<|J4o Z6 rfl<|Ol<|Uo (vs:=[(.bool a.c.num.neg),(.slice B a.c.num.mag.length D),(.bool a.c.den.neg),(.slice E a.c.den.mag.length F)]) K ag28<|Ol<|J4p az Jys rfl rfl (Jq9 az.bd (a:=a.c) (Za d.num d.den) (by omega) (by omega)) ?_);intro dP dQ be b4 b5;obtain⟨dR,dS,dT,dU,rfl,b6,b7⟩:=J8h b5;refine Ol (J4p be Jxs rfl rfl (Jhn be.bd (a:=(ofQ<|-a.c.q)) (Za b6 b7) (J86 (V7 hg).1 (by decide))<|J86 (V7 hg).2 (by decide)) ?_);intro dV dW b8 b9 bf;replace ab:=(ab.spn b4).spn b9;simp only [Jo,Yb] at bf;obtain⟨ca,cb,cc,cd,ce,cf,cg,ch,rfl,aB⟩:=J8e bf;refine On (Us (cs':=(ec (.mk 1 [] (ofQ<|-a.c.q) [] []) ca cb cc cd ce cf cg ch)) b8 ab io31 ?_);intro dX bg ci cj;replace aB:=aB.sp ci;refine Oa (Nl<|J4y<|J9 rfl (resV.c cj rfl ag31 rfl) (J8d rfl)<|J4w ?_ bg.below);refine⟨_,_,rfl,?_,?_⟩
    ·exact J8f (a:=(.mk 1 [] (ofQ<|-a.c.q) [] [])) ((Mx (.mk 1 [] (ofQ<|-a.c.q) [] []) aB).tr (Tr.weak bg.base))<|(ng_1 aj ak).1
    ·exact J87 (Value.bool)<|(ng_1 aj ak).2
   refine OT<|Nl<|Uc<|⟨_,_,az,rfl,rfl,d,K,ab,(Je1 (by omega))⟩
  refine Om<|Oz<|Oz<|Oz<|Oz<|OF<|Nl<|Uc<|⟨_,_,ay,rfl,rfl,d,K,ab,(Je1 (by omega))⟩
 rintro dY dZ ⟨d0,d1,ar,bh,bi,d,L,ad,hng⟩;obtain⟨d2,rfl⟩:=rebK (aC bh<|aC bi aN);clear bh bi;refine J40<|J55 (fun f v=>∃ (x y:Nat→Prop),Cx X w x y v∧f 1=(.pointer (some ⟨ai,0,none⟩))∧f 2=(.pointer (some ⟨ac,0,none⟩))∧ExprParts x v a a1 N B D E F P o∧Own w y v ai (ec a a1 N B D E F P o) 31∧Own w y v ac zX 31∧a.op=11∧(Ar a 0).op=1∧K5 (Ar a 0).c.q < 0) ?_ ?_
 ·refine Rg<|Ol<|J4o Js rfl<|Ol<|J4t L pl3 rfl rfl<|Ol<|J5w rfl rfl (fun k=>?_)<|fun k=>?_
  ·refine Om (Oz<|Oz<|Oz<|Oz<|Oz<|Oz<|OT<|Om<|Oz<|Oz<|Oz<|Oz<|Oz<|Oz<|Oz<|OT<|Nl<|Uf<|Ol<|Uo (vs:=(ec a a1 N B D E F P o)) L ag31 ?_);refine On (Us (cs':=(ec a a1 N B D E F P o)) ar ad io31 ?_);intro d3 bj ck cl;replace d:=d.sp ck;refine Oa (Nl<|J4y<|J9 rfl (resV.c cl rfl ag31 rfl) (J8d rfl)<|J4w ?_ bj.below);refine⟨_,_,rfl,?_,?_⟩
   ·exact J8f (a:=a) ((Mx a d).tr (Tr.weak bj.base))<|(ng_2 hng k).1
   ·exact J87 (Value.bool)<|(ng_2 hng k).2
  refine Om (OgD<|J4o J1 rfl<|OgD<|J4t L pl29 rfl rfl<|OgD<|J49 (j:=0) (u:=(Ar a 0)) d.args sl29 io31 rfl rfl rfl (Jc (by have:=hg.a2 (by omega);omega)) ?_);intro d4 d5 cw bk;obtain⟨d6,d7,d8,d9,eb,ed,ee,ef,rfl,eg⟩:=Jd bk.rd;refine OgD<|J4o Js rfl<|OgD<|J44 pl3 rfl (bk.cell 0 _ rfl)<|OgD<|J5w rfl rfl (fun bn=>?_)<|fun bn=>?_
  ·refine OF (Om<|Oz<|Oz<|Oz<|Oz<|Oz<|Oz<|Oz<|OT<|Nl<|Uf<|Ol<|Uo (vs:=(ec a a1 N B D E F P o)) L ag31<|On<|Us (cs':=(ec a a1 N B D E F P o)) ar ad io31 ?_);intro eh bl cm cn;replace d:=d.sp cm;refine Oa (Nl<|J4y<|J9 rfl (resV.c cn rfl ag31 rfl) (J8d rfl)<|J4w ?_ bl.below);refine⟨_,_,rfl,?_,?_⟩
   ·exact J8f (a:=a) ((Mx a d).tr (Tr.weak bl.base))<|(ng_3 hng k (ca2 hg.parts.1<|.inr (.inl k)) (by unfold Ar at *;omega)).1
   ·exact J87 (Value.bool)<|(ng_3 hng k (ca2 hg.parts.1<|.inr (.inl k)) (by unfold Ar at *;omega)).2
  refine OF (Om<|OgD<|J4o J1 rfl<|OgD<|J4t L pl29 rfl rfl<|OgD<|J49 (j:=0) (u:=(Ar a 0)) d.args sl29 io31 rfl rfl rfl (Jc (by have:=hg.a2 (by omega);omega)) ?_);intro ei ej cx bm;obtain⟨cy,cz,bo,bp,bq,br,cE,cF,rfl,aD⟩:=Jd bm.rd;refine OgD (J4o Z6 rfl<|OgD<|J5l (cs:=[(.bool (Ar a 0).c.num.neg),(.slice bo (Ar a 0).c.num.mag.length bp),(.bool (Ar a 0).c.den.neg),(.slice bq (Ar a 0).c.den.mag.length br)]) ag28 rfl rfl (zx bm.cell rfl)<|OgD<|J4p ar cb82 rfl rfl (xj ar.bd (a:=(Ar a 0).c) (Za aD.num aD.den) (J86 (hg.arg (i:=0) (by have:=hg.a2 (by omega);omega)).m1 (by decide))<|J86 (hg.arg (i:=0) (by have:=hg.a2 (by omega);omega)).m2 (by decide)) ?_);intro cG cH aE am bs;replace d:=d.sp am;replace L:=L.spn am;replace ad:=ad.spn am;subst bs;refine OgD<|J50 rfl rfl (fun ba=>?_)<|fun ba=>?_
  ·refine OF (Nl<|Uf<|Ol<|Uo (vs:=(ec a a1 N B D E F P o)) L ag31<|On<|Us (cs':=(ec a a1 N B D E F P o)) aE ad io31 ?_);intro cI aF bt bu;replace d:=d.sp bt;refine Oa (Nl<|J4y<|J9 rfl (resV.c bu rfl ag31 rfl) (J8d rfl)<|J4w ?_ aF.below);refine⟨_,_,rfl,?_,?_⟩
   ·exact J8f (a:=a) ((Mx a d).tr (Tr.weak aF.base))<|(ng_3 hng k (ca2 hg.parts.1<|.inr (.inl k)) (by unfold Ar at *;omega)).1
   ·exact J87 (Value.bool)<|(ng_3 hng k (ca2 hg.parts.1<|.inr (.inl k)) (by unfold Ar at *;omega)).2
  refine OF<|Nl<|Uc<|⟨_,_,aE,rfl,rfl,d,L,ad,(by omega),(by omega),(by omega)⟩
 rintro cJ cK ⟨cL,cM,aG,aH,aI,d,m,h,M,U,V⟩;obtain⟨cN,rfl⟩:=rebK (aC aH<|aC aI aN);clear aH aI;refine J40 ?_;have Y:2≤a.args.length:=hg.a2 M;have aJ:Gd (Ar a 0):=hg.arg (by omega);have ek:=aJ.m1;have el:=aJ.m2;have hzn:=V7 aJ;refine J4u (Ol<|J4o J1 rfl<|Ol<|J4t m pl29 rfl rfl<|Ol<|J49 (j:=0) (u:=(Ar a 0)) d.args sl29 io31 rfl rfl rfl (Jc (by omega)) ?_);intro cO cP co aK;obtain⟨cQ,cR,bv,bw,bx,bz,cS,c140,rfl,aL⟩:=Jd aK.rd;refine Ol (J4o Z6 rfl<|Ol<|J5l (cs:=[(.bool (Ar a 0).c.num.neg),(.slice bv (Ar a 0).c.num.mag.length bw),(.bool (Ar a 0).c.den.neg),(.slice bx (Ar a 0).c.den.mag.length bz)]) ag28 rfl rfl (zx aK.cell rfl)<|Ol<|J4p aG Jys rfl rfl (Jq9 aG.bd (a:=(Ar a 0).c) (Za aL.num aL.den) (by omega) (by omega)) ?_);intro cT cU aM an bA;obtain⟨cV,cW,cX,cY,rfl,bB,bC⟩:=J8h bA;refine Ol (J4p aM Jxs rfl rfl (Jhn aM.bd (a:=(ofQ<|-(Ar a 0).c.q)) (Za bB bC) (by omega) (by omega)) ?_);intro cZ c0 bD ao aO;replace d:=(d.sp an).sp ao;replace m:=(m.spn an).spn ao;replace h:=(h.spn an).spn ao;simp only [Jo,Yb] at aO;obtain⟨G,H,p,r,s,A,I,J,rfl,b⟩:=J8e aO;refine Ol (J41 bD io31 rfl ?_);intro bE c1 c3 c5 au bF ae bG;have bH:=au _ m.blk.lt;have bI:=au _ h.blk.lt;replace h:=h.spn ae;refine On (Us (cs':=(ec (GExpr.mk 1 [] (ofQ<|-(Ar a 0).c.q) [] []) G H p r s A I J)) bF bG io31 ?_);intro c7 aP af Q;replace d:=(d.sp ae).sp af;replace b:=(b.sp ae).sp af;replace m:=(m.spn ae).spo af bH;refine Nl (Rg<|Ol<|J4o J1 rfl<|Ol<|J4t m pl29 rfl rfl<|Ol<|J6v (i:=1) d.args sl29 io31 rfl rfl rfl (by omega) ?_);intro R g;refine Ua<|J40<|J55 (fun f v=>∃ (x y:Nat→Prop),Cx X w x y v∧f 2=(.pointer (some ⟨ac,0,none⟩))∧f 5=(.slice R (a.args.length - 1) (o - 1))∧ExprParts x v a a1 N B D E F P o∧ExprParts x v (GExpr.mk 1 [] (ofQ<|-(Ar a 0).c.q) [] []) G H p r s A I J∧RS Jf x v (.slice R (a.args.length - 1) (o - 1)) (a.args.drop 1)∧Own w y v ai (ec a a1 N B D E F P o) 31∧Own w y v ac zX 31∧Own w y v bE (ec (GExpr.mk 1 [] (ofQ<|-(Ar a 0).c.q) [] []) G H p r s A I J) 31∧ -(Ar a 0).c.q=1∧¬ (Ar a 1).op=1) ?_ ?_
 ·refine Rg (Ol<|J4o Z6 rfl<|Ol<|Uo (vs:=[(.bool (GExpr.mk 1 [] (ofQ<|-(Ar a 0).c.q) [] []).c.num.neg),(.slice p (GExpr.mk 1 [] (ofQ<|-(Ar a 0).c.q) [] []).c.num.mag.length r),(.bool (GExpr.mk 1 [] (ofQ<|-(Ar a 0).c.q) [] []).c.den.neg),(.slice s (GExpr.mk 1 [] (ofQ<|-(Ar a 0).c.q) [] []).c.den.mag.length A)]) Q ag28 ?_);refine Ol (J4p aP Jyu rfl rfl (Jqi aP.bd (a:=(GExpr.mk 1 [] (ofQ<|-(Ar a 0).c.q) [] []).c) (Za b.num b.den) (J86 hzn.1 (by decide))<|J86 hzn.2 (by decide)) ?_);intro c9 da aq S bJ;replace d:=d.sp S;replace b:=b.sp S;replace g:=g.sp S;replace m:=m.spn S;replace h:=(h.spo af bI).spn S;replace Q:=Q.spn S;subst bJ;refine Ol<|J6r rfl rfl (fun Z=>?_)<|fun Z=>?_
  ·refine Om (Oz<|Oz<|Oz<|Oz<|Oz<|OT<|Nl<|Uf<|Ol<|Uo (vs:=(ec (GExpr.mk 1 [] (ofQ<|-(Ar a 0).c.q) [] []) G H p r s A I J)) Q ag31<|Ol<|J5f (T:=Jf) (css:=[(ec (GExpr.mk 1 [] (ofQ<|-(Ar a 0).c.q) [] []) G H p r s A I J)]) (l:=[(GExpr.mk 1 [] (ofQ<|-(Ar a 0).c.q) [] [])]) aq sl29 io31 (by decide) (by decide) rfl (by kernel_rfl) ⟨(Zm (GExpr.mk 1 [] (ofQ<|-(Ar a 0).c.q) [] []) b.lo b.hi b.name b.n b.num b.den b.args),trivial⟩ ?_);intro dc dd bK aQ bL;replace g:=g.sp aQ;refine Om (Ol<|J6b (T:=Jf) bK sl29 io31 rfl rfl bL (Yi g) (by simp only [J8z,J80,J81,J9a,maxLen];omega) (by simp only [J8z,J80,J81,J9a];omega) rfl ?_);intro de df bM bN ag;replace h:=(h.spn aQ).spn bN;obtain⟨aR,aS,rfl,_,_⟩:=ag.len;refine Ol (J47 (cs:=[(.int .i64 11),(.slice none 0 0),(.bool false),(.slice none 0 0),(.bool false),(.slice none 0 0),(str []),(.slice aR ([(GExpr.mk 1 [] (ofQ<|-(Ar a 0).c.q) [] [])]++(a.args.drop 1)).length aS)]) rfl (by kernel_rfl)<|On<|Us (cs':=[(.int .i64 11),(.slice none 0 0),(.bool false),(.slice none 0 0),(.bool false),(.slice none 0 0),(str []),(.slice aR ([(GExpr.mk 1 [] (ofQ<|-(Ar a 0).c.q) [] [])]++(a.args.drop 1)).length aS)]) bM h io31 ?_);intro dg aT bO bP;replace ag:=ag.sp bO;refine Oa (Nl<|J4y<|J9 rfl (resV.c bP rfl ag31 rfl) (J8d rfl)<|J4w ?_ aT.below);refine⟨_,_,rfl,?_,?_⟩
   ·exact J8f (a:=(.mk 11 [] ⟨⟨false,[]⟩,⟨false,[]⟩⟩ [] ([(GExpr.mk 1 [] (ofQ<|-(Ar a 0).c.q) [] [])]++(a.args.drop 1)))) ((Y5 (by omega) (by omega) (by unfold maxLen;simp) J8g J8g J8g ag).tr (Tr.weak aT.base))<|(ng_4 M Y U V<|.inl (fun e=>Z<|Jlx.2 e)).1
   ·exact J87 (Value.bool)<|(ng_4 M Y U V<|.inl (fun e=>Z<|Jlx.2 e)).2
  refine Om (OgD<|J4x<|OgD<|J49 (j:=0) (u:=((a.args.drop 1).getD 0 default)) g sl29 io31 rfl rfl rfl (Jc (by rw [J9a];omega)) ?_);intro dh di cp aU;obtain⟨dj,dk,dl,dm,dn,dp,dq,dr,rfl,ds⟩:=Jd aU.rd;refine OgD<|J4o Js rfl<|OgD<|J44 pl3 rfl (aU.cell 0 _ rfl)<|OgD<|J42 rfl rfl (fun aa=>?_)<|fun aa=>?_
  ·refine OF (Nl<|Uf<|Ol<|Uo (vs:=(ec (GExpr.mk 1 [] (ofQ<|-(Ar a 0).c.q) [] []) G H p r s A I J)) Q ag31<|Ol<|J5f (T:=Jf) (css:=[(ec (GExpr.mk 1 [] (ofQ<|-(Ar a 0).c.q) [] []) G H p r s A I J)]) (l:=[(GExpr.mk 1 [] (ofQ<|-(Ar a 0).c.q) [] [])]) aq sl29 io31 (by decide) (by decide) rfl (by kernel_rfl) ⟨(Zm (GExpr.mk 1 [] (ofQ<|-(Ar a 0).c.q) [] []) b.lo b.hi b.name b.n b.num b.den b.args),trivial⟩ ?_);intro dt du bQ aV bR;replace g:=g.sp aV;refine Om (Ol<|J6b (T:=Jf) bQ sl29 io31 rfl rfl bR (Yi g) (by simp only [J8z,J80,J81,J9a,maxLen];omega) (by simp only [J8z,J80,J81,J9a];omega) rfl ?_);intro dv dw bS bT ah;replace h:=(h.spn aV).spn bT;obtain⟨aW,aX,rfl,_,_⟩:=ah.len;refine Ol (J47 (cs:=[(.int .i64 11),(.slice none 0 0),(.bool false),(.slice none 0 0),(.bool false),(.slice none 0 0),(str []),(.slice aW ([(GExpr.mk 1 [] (ofQ<|-(Ar a 0).c.q) [] [])]++(a.args.drop 1)).length aX)]) rfl (by kernel_rfl)<|On<|Us (cs':=[(.int .i64 11),(.slice none 0 0),(.bool false),(.slice none 0 0),(.bool false),(.slice none 0 0),(str []),(.slice aW ([(GExpr.mk 1 [] (ofQ<|-(Ar a 0).c.q) [] [])]++(a.args.drop 1)).length aX)]) bS h io31 ?_);intro dx aY bU bV;replace ah:=ah.sp bU;refine Oa (Nl<|J4y<|J9 rfl (resV.c bV rfl ag31 rfl) (J8d rfl)<|J4w ?_ aY.below);refine⟨_,_,rfl,?_,?_⟩
   ·exact J8f (a:=(.mk 11 [] ⟨⟨false,[]⟩,⟨false,[]⟩⟩ [] ([(GExpr.mk 1 [] (ofQ<|-(Ar a 0).c.q) [] [])]++(a.args.drop 1)))) ((Y5 (by omega) (by omega) (by unfold maxLen;simp) J8g J8g J8g ah).tr (Tr.weak aY.base))<|(ng_4 M Y U V<|.inr (by rw [← Jlj];exact aa)).1
   ·exact J87 (Value.bool)<|(ng_4 M Y U V<|.inr (by rw [← Jlj];exact aa)).2
  refine OF<|Nl<|Uc<|⟨_,_,aq,rfl,rfl,d,b,g,m,h,Q,(Jlx.1 Z),(by unfold Ar;rw [← Jlj];exact aa)⟩
 rintro dy dz ⟨dA,dB,aZ,a0,a4,d,b,g,dC,a6,dD,av,aw⟩;obtain⟨dE,rfl⟩:=rebK (aC a0<|aC a4 aN);clear a0 a4;refine Rh<|Ub<|St.len sl29 rfl<|Ol<|J42 rfl rfl (fun bb=>?_)<|fun bb=>?_
 ·refine Nl (Uf<|Ub<|J47 (cs:=[(.int .i64 11),(.slice none 0 0),(.bool false),(.slice none 0 0),(.bool false),(.slice none 0 0),(str []),(.slice R (a.args.length - 1) (o - 1))]) rfl (by kernel_rfl)<|On<|Us (cs':=[(.int .i64 11),(.slice none 0 0),(.bool false),(.slice none 0 0),(.bool false),(.slice none 0 0),(str []),(.slice R (a.args.length - 1) (o - 1))]) aZ a6 io31 ?_);intro dF a8 bW bX;replace g:=g.sp bW;refine Oa (Nl<|J4y<|J9 rfl (resV.c bX rfl ag31 rfl) (J8d rfl)<|J4w ?_ a8.below);refine⟨_,_,rfl,?_,?_⟩
  ·exact J8f (a:=(.mk 11 [] ⟨⟨false,[]⟩,⟨false,[]⟩⟩ [] (a.args.drop 1))) ((Y5 (by omega) (by omega) (by unfold maxLen;simp) J8g J8g J8g g).tr (Tr.weak a8.base))<|(ng_5 M Y U V av aw).1
  ·exact J87 (Value.bool)<|(ng_5 M Y U V av aw).2
 refine Nl (Uc<|Rg<|Ub<|J47 (cs:=[(.int .i64 11),(.slice none 0 0),(.bool false),(.slice none 0 0),(.bool false),(.slice none 0 0),(str []),(.slice R (a.args.length - 1) (o - 1))]) rfl (by kernel_rfl)<|On<|Us (cs':=[(.int .i64 11),(.slice none 0 0),(.bool false),(.slice none 0 0),(.bool false),(.slice none 0 0),(str []),(.slice R (a.args.length - 1) (o - 1))]) aZ a6 io31 ?_);intro dG a9 bY bZ;replace g:=g.sp bY;refine Oa (Nl<|J4y<|J9 rfl (resV.c bZ rfl ag31 rfl) (J8d rfl)<|J4w ?_ a9.below);refine⟨_,_,rfl,?_,?_⟩
 ·exact J8f (a:=(.mk 11 [] ⟨⟨false,[]⟩,⟨false,[]⟩⟩ [] (a.args.drop 1))) ((Y5 (by omega) (by omega) (by unfold maxLen;simp) J8g J8g J8g g).tr (Tr.weak a9.base))<|(ng_5 M Y U V av aw).1
 ·exact J87 (Value.bool)<|(ng_5 M Y U V av aw).2
abbrev XW(e:GExpr):Prop:=∀ {X:Nat→Prop} {w:World},(∀ b,X b→b < w.heap.size)→∀ {v:Value},RV Jf X w v e→Calls Tryz.prog 41 #[v] w (Ret w fun v' w'=>v'=str (wrE e))
abbrev XS(e:GExpr):Prop:=¬ e.op=10→¬ e.op=11→∀ {X:Nat→Prop} {w:World},(∀ b,X b→b < w.heap.size)→∀ {v:Value},RV Jf X w v e→Calls Tryz.prog 111 #[v] w (Ret w fun v' w'=>v'=str (plE e))
abbrev XF(e:GExpr):Prop:=¬ e.op=10→∀ {X:Nat→Prop} {w:World},(∀ b,X b→b < w.heap.size)→∀ {v:Value},RV Jf X w v (ngE e)→Calls Tryz.prog 76 #[v] w (Ret w fun v' w'=>v'=str (sgE e))
structure XI (e:GExpr):Prop where
 m1:e.c.num.mag.length≤2000
 m2:e.c.den.mag.length≤2000
 w:e.op=10∨e.op=11∨negB e.op e.c.q=true→XW e
 s:¬ e.op=10→¬ e.op=11→negB e.op e.c.q=false→XS e
set_option maxHeartbeats 8000000 in
theorem Jq7{X:Nat→Prop}{w:World}(hX:XB X w){v0:Value}{a:GExpr}(r0:RV Jf X w v0 a)(hgo:a.op=1∨Gd a)(nW:a.c.num.mag.length≤2000)(nX:a.c.den.mag.length≤2000)(hW:∀ i,i < a.args.length→XW (Ar a i))(hS:∀ i,i < a.args.length→XS (Ar a i))(nY:¬ a.op=10)(nZ:¬ a.op=11):CRt 111 #[v0] w fun v w'=>v=(str (plE a)):=by
 obtain⟨a1,c2,a3,c4,a5,c6,a7,c8,rfl,e⟩:=J8e r0;have C:=J4z hX;refine Cgo (args:=[(ea a a1 c2 a3 c4 a5 c6 a7 c8)]) Tryz.func111 rfl rfl rfl (Rg<|Ol<|J5a C rfl ?_);intro L n0 n3 n4 j1 K id b;replace e:=e.sp id;refine Ua<|Rh<|Ol<|J4o Js rfl<|Ol<|J4t b pl3 rfl rfl<|Nl<|W.block<|Rg<|Ol<|J42 rfl rfl (fun aA=>?_)<|fun aA=>?_
 ·refine Oa (Nl<|Uf<|Ol<|J4o Z6 rfl<|Ol<|Uo (vs:=[(.bool a.c.num.neg),(.slice a3 a.c.num.mag.length c4),(.bool a.c.den.neg),(.slice a5 a.c.den.mag.length c6)]) b ag28<|Ol<|J4p K Jyu rfl rfl (Jqi K.bd (a:=a.c) (Za e.num e.den) (by omega) (by omega)) ?_);intro n5 n6 ie n7 ig;subst ig;exact Ua<|J4y<|Wq rfl rfl ie<|J87 (str)<|(pl_1 aA)
 refine Oa (Nl<|Ue<|J40 ?_);have hg:Gd a:=hgo.resolve_left aA;have hal:=hg.al;refine J4u<|Ol<|J42 rfl rfl (fun aV=>?_)<|fun aV=>?_
 ·refine Oa (Nl<|Ud<|J40 ?_);have hpn:0 < a.n.length:=hg.n (by omega);have hrn:=nr0 hg hpn;have az:=Xp hrn.1 hrn.2;refine J4u (Ol<|J4o Zb rfl<|Ol<|J4t b pl23 rfl rfl<|Ol<|J49 (j:=0) (u:=(a.n.getD 0 0)) e.n sl23 io3 rfl rfl rfl (Jc (by omega)) ?_);intro n9 oa cL cF;obtain⟨rfl,j2⟩:cL=_∧_:=cF.rd;refine Ol (J44 pl3 rfl (cF.cell 0 _ rfl)<|Ol<|J4p K zh rfl rfl (qr K.bd hrn.1 hrn.2) ?_);intro ob oc ih od ii;subst ii;exact Ol<|J43 rfl rfl (by (try simp only [J8z,J80,J81]);omega)<|Ua<|J4y<|Wq rfl rfl ih<|J87 (str)<|(pl_2 aV)
 refine Ua<|Ug<|Ol<|J42 rfl rfl (fun aW=>?_)<|fun aW=>?_
 ·refine Oa (Nl<|Ud<|J40 ?_);have hlt:=Y9 a.n;have aX:=Vv a.n;have aB:=Y9 (a.n.drop 1);have hil:=hg.il;refine J4u (Ol<|J4o Zb rfl<|Ol<|J4t b pl23 rfl rfl<|Ol<|J4p K Jn0 rfl rfl (Jbx K.bd e.n hil<|nrg hg) ?_);intro oe og ij oh ik;subst ik;exact Ol<|J43 rfl rfl (by (try simp only [J8z,J80,J81]);omega)<|Ol<|J43 rfl rfl (by (try simp only [J8z,J80,J81]);omega)<|Ua<|J4y<|Wq rfl rfl ij<|J87 (str)<|(si_3 hg aW)
 refine Ua<|Ug<|Ol<|J42 rfl rfl (fun aY=>?_)<|fun aY=>?_
 ·refine Oa (Nl<|Ud<|J40 ?_);have hpn:0 < a.n.length:=hg.n (by omega);have hrn:=nr0 hg hpn;have az:=Xp hrn.1 hrn.2;have hlt:=Y9 a.n;have aX:=Vv a.n;have aB:=Y9 (a.n.drop 1);have hil:=hg.il;refine J5g mixed 11 [[],[0],[1],[2],[3],[4],[5],[],[7],[8],[9]] K [fx<|.pointer (some ⟨L,1,none⟩),fx<|.slice a1 a.n.length c2,fE Zi<|a.n.getD 0 0,fx<|.int .i64 (a.n.getD 0 0),fx<|str<|Lib.itoa<|a.n.getD 0 0,fx<|str<|[101,116,97,40]++(Lib.itoa<|a.n.getD 0 0),fx<|str<|([101,116,97,40]++(Lib.itoa<|a.n.getD 0 0))++[41,91],fx<|.pointer (some ⟨L,1,none⟩),fx<|.slice a1 a.n.length c2,fs Zi<|a.n.drop 1,fx<|str<|Y3<|a.n.drop 1] (by kernel_rfl) ⟨sx,sx,sE,sx,sx,sx,sx,sx,sx,ss,sx,trivial⟩ fun im ah oi ⟨ab,cG⟩ ac=>?_
  replace e:=e.sp cG;replace b:=b.spn cG;have ac:Keep [29,30,31,32,33,34,35,36,37,38,39] _ im:=ac;refine⟨⟨fun _=>?_,fun⟨io,_⟩=>?_,fun⟨ip,_⟩=>?_,fun⟨iq,_⟩=>?_,fun⟨ir,_⟩=>?_,fun⟨it,_⟩=>?_,fun⟨iu,_⟩=>?_,fun _=>?_,fun⟨iv,_⟩=>?_,fun⟨iw,_⟩=>?_,fun⟨aZ,_⟩=>?_,trivial⟩,fun⟨ix,iy,iz,iA,iB,iC,iD,iE,iF,cH,iG,_⟩=>?_⟩
  ·exact Sd0 ac fun _=>J4o Zb rfl ⟨ah,J4q ab,rfl⟩
  ·exact Sd1 ac io fun _=>J4t b pl23 rfl rfl ⟨ah,J4q ab,rfl⟩
  ·refine Sd1 ac ip fun _=>J49 (j:=0) (u:=(a.n.getD 0 0)) e.n sl23 io3 rfl rfl rfl (Jc (by omega)) ?_;intro oj ol cM cI;obtain⟨rfl,j3⟩:cM=_∧_:=cI.rd;exact⟨ah,J4q ab,⟨_,_,_,rfl,cI⟩⟩
  ·obtain⟨om,on,cN,iH,cJ⟩:=iq;obtain⟨rfl,j4⟩:cN=_∧_:=cJ.rd;exact Sd1 ac iH fun _=>J44 pl3 rfl (cJ.cell 0 _ rfl) ⟨ah,J4q ab,rfl⟩
  ·refine Sd1 ac ir fun _=>J4p ab zh rfl rfl (qr ab.bd hrn.1 hrn.2) ?_;intro j5 j6 cO cP cQ;exact⟨ah,⟨cO,cP⟩,cQ⟩
  ·exact Sd1 ac it fun _=>J43 rfl rfl (by (try simp only [J8z,J80,J81]);omega) ⟨ah,J4q ab,rfl⟩
  ·exact Sd1 ac iu fun _=>J43 rfl rfl (by (try simp only [J8z,J80,J81]);omega) ⟨ah,J4q ab,rfl⟩
  ·exact Sd0 ac fun _=>J4o Zb rfl ⟨ah,J4q ab,rfl⟩
  ·exact Sd1 ac iv fun _=>J4t b pl23 rfl rfl ⟨ah,J4q ab,rfl⟩
  ·refine Sd1 ac iw fun _=>J6v (i:=1) e.n sl23 io3 rfl rfl rfl hpn ?_;intro j7 cR;exact⟨ah,J4q ab,cR⟩
  ·obtain⟨j8,j9,cS,aZ⟩:=RS.opn aZ;refine Sd1 ac cS fun _=>J4p ab Jn0 rfl rfl (Jbx ab.bd aZ (by omega)<|nrd hg) ?_;intro ka kb cT cU cV;exact⟨ah,⟨cT,cU⟩,cV⟩
  obtain⟨kc,kd,bN,cW,cX⟩:=iz;obtain⟨rfl,iP⟩:bN=_∧_:=cX.rd;obtain⟨ke,kf,cY,cH⟩:=RS.opn cH;obtain⟨kg,rfl⟩:=mixK ac (aC ix<|aC iy<|aC cW<|aC iA<|aC iB<|aC iC<|aC iD<|aC iE<|aC iF<|aC cY<|aC iG aN);exact Ol<|J43 rfl rfl (by (try simp only [J8z,J80,J81]);omega)<|Ol<|J43 rfl rfl (by (try simp only [J8z,J80,J81]);omega)<|Ua<|J4y<|Wq rfl rfl ab<|J87 (str)<|(si_4 aY)
 refine Ua<|Ug<|Ol<|J42 rfl rfl (fun aK=>?_)<|fun aK=>?_
 ·refine Oa (Nl<|Ud<|J40 ?_);have hpn:0 < a.n.length:=hg.n (by omega);have hrn:=nr0 hg hpn;have az:=Xp hrn.1 hrn.2;have hlt:=Y9 a.n;have aX:=Vv a.n;have aB:=Y9 (a.n.drop 1);have hil:=hg.il;refine J5g mixed 11 [[],[0],[1],[2],[3],[4],[5],[],[7],[8],[9]] K [fx<|.pointer (some ⟨L,1,none⟩),fx<|.slice a1 a.n.length c2,fE Zi<|a.n.getD 0 0,fx<|.int .i64 (a.n.getD 0 0),fx<|str<|Lib.itoa<|a.n.getD 0 0,fx<|str<|[116,104,101,116,97,40]++(Lib.itoa<|a.n.getD 0 0),fx<|str<|([116,104,101,116,97,40]++(Lib.itoa<|a.n.getD 0 0))++[41,91],fx<|.pointer (some ⟨L,1,none⟩),fx<|.slice a1 a.n.length c2,fs Zi<|a.n.drop 1,fx<|str<|Y3<|a.n.drop 1] (by kernel_rfl) ⟨sx,sx,sE,sx,sx,sx,sx,sx,sx,ss,sx,trivial⟩ fun cZ Y kh ⟨s,a0⟩ A=>?_
  replace e:=e.sp a0;replace b:=b.spn a0;have A:Keep [44,45,46,47,48,49,50,51,52,53,54] _ cZ:=A;refine⟨⟨fun _=>?_,fun⟨c0,_⟩=>?_,fun⟨c1,_⟩=>?_,fun⟨c3,_⟩=>?_,fun⟨c5,_⟩=>?_,fun⟨c7,_⟩=>?_,fun⟨c9,_⟩=>?_,fun _=>?_,fun⟨da,_⟩=>?_,fun⟨dc,_⟩=>?_,fun⟨aD,_⟩=>?_,trivial⟩,fun⟨dd,de,df,dg,dh,di,dj,dk,dl,a4,dm,_⟩=>?_⟩
  ·exact Sd0 A fun _=>J4o Zb rfl ⟨Y,J4q s,rfl⟩
  ·exact Sd1 A c0 fun _=>J4t b pl23 rfl rfl ⟨Y,J4q s,rfl⟩
  ·refine Sd1 A c1 fun _=>J49 (j:=0) (u:=(a.n.getD 0 0)) e.n sl23 io3 rfl rfl rfl (Jc (by omega)) ?_;intro ki kj bO a6;obtain⟨rfl,iQ⟩:bO=_∧_:=a6.rd;exact⟨Y,J4q s,⟨_,_,_,rfl,a6⟩⟩
  ·obtain⟨kk,kl,bP,dn,a8⟩:=c3;obtain⟨rfl,iR⟩:bP=_∧_:=a8.rd;exact Sd1 A dn fun _=>J44 pl3 rfl (a8.cell 0 _ rfl) ⟨Y,J4q s,rfl⟩
  ·refine Sd1 A c5 fun _=>J4p s zh rfl rfl (qr s.bd hrn.1 hrn.2) ?_;intro km kn dp dq dr;exact⟨Y,⟨dp,dq⟩,dr⟩
  ·exact Sd1 A c7 fun _=>J43 rfl rfl (by (try simp only [J8z,J80,J81]);omega) ⟨Y,J4q s,rfl⟩
  ·exact Sd1 A c9 fun _=>J43 rfl rfl (by (try simp only [J8z,J80,J81]);omega) ⟨Y,J4q s,rfl⟩
  ·exact Sd0 A fun _=>J4o Zb rfl ⟨Y,J4q s,rfl⟩
  ·exact Sd1 A da fun _=>J4t b pl23 rfl rfl ⟨Y,J4q s,rfl⟩
  ·refine Sd1 A dc fun _=>J6v (i:=1) e.n sl23 io3 rfl rfl rfl hpn ?_;intro ko ds;exact⟨Y,J4q s,ds⟩
  ·obtain⟨kp,kq,dt,aD⟩:=RS.opn aD;refine Sd1 A dt fun _=>J4p s Jn0 rfl rfl (Jbx s.bd aD (by omega)<|nrd hg) ?_;intro kr ks du dv dw;exact⟨Y,⟨du,dv⟩,dw⟩
  obtain⟨kt,ku,bQ,dx,dy⟩:=df;obtain⟨rfl,iS⟩:bQ=_∧_:=dy.rd;obtain⟨kv,kw,dz,a4⟩:=RS.opn a4;obtain⟨kx,rfl⟩:=mixK A (aC dd<|aC de<|aC dx<|aC dg<|aC dh<|aC di<|aC dj<|aC dk<|aC dl<|aC dz<|aC dm aN);exact Ol<|J43 rfl rfl (by (try simp only [J8z,J80,J81]);omega)<|Ol<|J43 rfl rfl (by (try simp only [J8z,J80,J81]);omega)<|Ua<|J4y<|Wq rfl rfl s<|J87 (str)<|(si_5 aK)
 refine Ua<|Ug<|Ol<|J42 rfl rfl (fun aL=>?_)<|fun aL=>?_
 ·exact Ua<|Uf<|Ua<|J4y<|Wq rfl rfl K<|J87 (str)<|(pl_6 aL)
 refine Ua<|Ug<|Ol<|J42 rfl rfl (fun aM=>?_)<|fun aM=>?_
 ·exact Ua<|Uf<|Ua<|J4y<|Wq rfl rfl K<|J87 (str)<|(pl_7 aM)
 refine Ua<|Ug<|Ol<|J42 rfl rfl (fun aO=>?_)<|fun aO=>?_
 ·exact Ua<|Uf<|Ol<|J4o X9 rfl<|Ol<|J4t b pl9 rfl rfl<|Ua<|J4y<|Wq rfl rfl K<|J87 (str)<|(pl_8 aO)
 refine Ua<|Ug<|Ol<|J42 rfl rfl (fun aP=>?_)<|fun aP=>?_
 ·refine Oa (Nl<|Ud<|J40 ?_);have hlt:=Y9 a.n;have aX:=Vv a.n;have aB:=Y9 (a.n.drop 1);have hil:=hg.il;refine J4u (Ol<|J4o Zb rfl<|Ol<|J4t b pl23 rfl rfl<|Ol<|J4p K Jn0 rfl rfl (Jbx K.bd e.n hil<|nrg hg) ?_);intro ky kz dA kA dB;subst dB;exact Ol<|J43 rfl rfl (by (try simp only [J8z,J80,J81]);omega)<|Ol<|J43 rfl rfl (by (try simp only [J8z,J80,J81]);omega)<|Ua<|J4y<|Wq rfl rfl dA<|J87 (str)<|(si_9 hg aP)
 refine Ua<|Ug<|Ol<|J42 rfl rfl (fun aQ=>?_)<|fun aQ=>?_
 ·refine Oa (Nl<|Ud<|J40 ?_);have hop:a.op=12:=aQ;have hpn:0 < a.n.length:=hg.n (by omega);have hrn:=nr0 hg hpn;have az:=Xp hrn.1 hrn.2;have hpl:0 < a.args.length:=by have:=ca1 hg.parts.1 (by omega);omega
  have a9:=(hg.arg (i:=0) hpl).wl;refine J4u (Ol<|J4o J1 rfl<|Ol<|J4t b pl29 rfl rfl<|Ol<|J49 (j:=0) (u:=(Ar a 0)) e.args sl29 io31 rfl rfl rfl (Jc (by omega)) ?_);intro kB kC iT ba;obtain⟨B,D,E,F,G,H,I,J,rfl,m⟩:=Jd ba.rd;refine Ol (J5l (cs:=(ec (Ar a 0) B D E F G H I J)) ag31 rfl rfl ba.cell<|Ol<|J41 K io31 rfl ?_);intro bb kD kE kF bR dC aE dD;have dE:=bR _ b.blk.lt;refine On (Us (cs':=(ec (Ar a 0) B D E F G H I J)) dC dD io31 ?_);intro kG ak aF r;replace e:=(e.sp aE).sp aF;replace m:=(m.sp aE).sp aF;replace b:=(b.spn aE).spo aF dE;refine Nl<|J40<|J55 (fun f v=>∃ (x y:Nat→Prop),Cx X w x y v∧f 1=(.pointer (some ⟨L,0,none⟩))∧f 3=(.pointer (some ⟨bb,0,none⟩))∧f 6=(.int .i64 a.op)∧ExprParts x v a a1 c2 a3 c4 a5 c6 a7 c8∧ExprParts x v (Ar a 0) B D E F G H I J∧Own w y v L (ec a a1 c2 a3 c4 a5 c6 a7 c8) 31∧Own w y v bb (ec (Ar a 0) B D E F G H I J) 31∧¬ (Ar a 0).op=10∧¬ (Ar a 0).op=11∧¬ (Ar a 0).op=12∧¬ (Ar a 0).op=1) ?_ ?_
  ·refine Rg<|Ol<|J4o Js rfl<|Ol<|J4t r pl3 rfl rfl<|Ol<|J42 rfl rfl (fun am=>?_)<|fun am=>?_
   ·refine Om<|Oz<|Oz<|Oz<|OT<|Om<|Oz<|Oz<|Oz<|OT<|Om<|Oz<|Oz<|Oz<|OT<|Nl<|Ud<|J40<|J5g mixed 9 [[],[0],[1],[2],[],[4],[5],[6],[7]] ak [fx<|ea (Ar a 0) B D E F G H I J,fx<|str<|wrE<|Ar a 0,fx<|str<|[40]++(wrE<|Ar a 0),fx<|str<|([40]++(wrE<|Ar a 0))++[41,94],fx<|.pointer (some ⟨L,1,none⟩),fx<|.slice a1 a.n.length c2,fE Zi<|a.n.getD 0 0,fx<|.int .i64 (a.n.getD 0 0),fx<|str<|Lib.itoa<|a.n.getD 0 0] (by kernel_rfl) ⟨sx,sx,sx,sx,sx,sx,sE,sx,sx,trivial⟩ fun dF ad kH ⟨M,an⟩ N=>?_
    replace e:=e.sp an;replace m:=m.sp an;replace b:=b.spn an;replace r:=r.spn an;have N:Keep [96,97,98,99,100,101,102,103,104] _ dF:=N;refine⟨⟨fun _=>?_,fun⟨dG,_⟩=>?_,fun⟨dH,_⟩=>?_,fun⟨dI,_⟩=>?_,fun _=>?_,fun⟨dJ,_⟩=>?_,fun⟨dK,_⟩=>?_,fun⟨dL,_⟩=>?_,fun⟨dM,_⟩=>?_,trivial⟩,fun⟨dN,dO,dP,dQ,dR,dS,dT,dU,dV,_⟩=>?_⟩
    ·exact Sd0 N fun _=>J46 (vs:=(ec (Ar a 0) B D E F G H I J)) r ag31 rfl rfl rfl ⟨ad,J4q M,rfl⟩
    ·refine Sd1 N dG fun _=>J4p M cb41 rfl rfl (hW 0 hpl M.bd<|Mx (Ar a 0) m) ?_;intro kI kJ dW dX dY;exact⟨ad,⟨dW,dX⟩,dY⟩
    ·exact Sd1 N dH fun _=>J43 rfl rfl (by (try simp only [J8z,J80,J81]);unfold Ar at *;omega) ⟨ad,J4q M,rfl⟩
    ·exact Sd1 N dI fun _=>J43 rfl rfl (by (try simp only [J8z,J80,J81]);unfold Ar at *;omega) ⟨ad,J4q M,rfl⟩
    ·exact Sd0 N fun _=>J4o Zb rfl ⟨ad,J4q M,rfl⟩
    ·exact Sd1 N dJ fun _=>J4t b pl23 rfl rfl ⟨ad,J4q M,rfl⟩
    ·refine Sd1 N dK fun _=>J49 (j:=0) (u:=(a.n.getD 0 0)) e.n sl23 io3 rfl rfl rfl (Jc (by omega)) ?_;intro kK kL bS bc;obtain⟨rfl,iU⟩:bS=_∧_:=bc.rd;exact⟨ad,J4q M,⟨_,_,_,rfl,bc⟩⟩
    ·obtain⟨kM,kN,bT,dZ,be⟩:=dL;obtain⟨rfl,iV⟩:bT=_∧_:=be.rd;exact Sd1 N dZ fun _=>J44 pl3 rfl (be.cell 0 _ rfl) ⟨ad,J4q M,rfl⟩
    ·refine Sd1 N dM fun _=>J4p M zh rfl rfl (qr M.bd hrn.1 hrn.2) ?_;intro kO kP d0 d1 d2;exact⟨ad,⟨d0,d1⟩,d2⟩
    obtain⟨kQ,kR,bU,d3,d4⟩:=dT;obtain⟨rfl,iW⟩:bU=_∧_:=d4.rd;obtain⟨kS,rfl⟩:=mixK N (aC dN<|aC dO<|aC dP<|aC dQ<|aC dR<|aC dS<|aC d3<|aC dU<|aC dV aN);exact Ol<|J43 rfl rfl (by (try simp only [J8z,J80,J81]);unfold Ar at *;omega)<|Ua<|J4y<|Wq rfl rfl M<|J87 (str)<|(Jhb hg hop<|.inl am)
   refine Om<|OgD<|J4o Js rfl<|OgD<|J4t r pl3 rfl rfl<|OgD<|J42 rfl rfl (fun ao=>?_)<|fun ao=>?_
   ·refine OF<|Om<|Oz<|Oz<|Oz<|OT<|Om<|Oz<|Oz<|Oz<|OT<|Nl<|Ud<|J40<|J5g mixed 9 [[],[0],[1],[2],[],[4],[5],[6],[7]] ak [fx<|ea (Ar a 0) B D E F G H I J,fx<|str<|wrE<|Ar a 0,fx<|str<|[40]++(wrE<|Ar a 0),fx<|str<|([40]++(wrE<|Ar a 0))++[41,94],fx<|.pointer (some ⟨L,1,none⟩),fx<|.slice a1 a.n.length c2,fE Zi<|a.n.getD 0 0,fx<|.int .i64 (a.n.getD 0 0),fx<|str<|Lib.itoa<|a.n.getD 0 0] (by kernel_rfl) ⟨sx,sx,sx,sx,sx,sx,sE,sx,sx,trivial⟩ fun d5 ae kT ⟨P,aq⟩ Q=>?_
    replace e:=e.sp aq;replace m:=m.sp aq;replace b:=b.spn aq;replace r:=r.spn aq;have Q:Keep [96,97,98,99,100,101,102,103,104] _ d5:=Q;refine⟨⟨fun _=>?_,fun⟨d6,_⟩=>?_,fun⟨d7,_⟩=>?_,fun⟨d8,_⟩=>?_,fun _=>?_,fun⟨d9,_⟩=>?_,fun⟨eb,_⟩=>?_,fun⟨ed,_⟩=>?_,fun⟨ee,_⟩=>?_,trivial⟩,fun⟨ef,eg,eh,ei,ej,ek,el,em,en,_⟩=>?_⟩
    ·exact Sd0 Q fun _=>J46 (vs:=(ec (Ar a 0) B D E F G H I J)) r ag31 rfl rfl rfl ⟨ae,J4q P,rfl⟩
    ·refine Sd1 Q d6 fun _=>J4p P cb41 rfl rfl (hW 0 hpl P.bd<|Mx (Ar a 0) m) ?_;intro kU kV eo ep eq;exact⟨ae,⟨eo,ep⟩,eq⟩
    ·exact Sd1 Q d7 fun _=>J43 rfl rfl (by (try simp only [J8z,J80,J81]);unfold Ar at *;omega) ⟨ae,J4q P,rfl⟩
    ·exact Sd1 Q d8 fun _=>J43 rfl rfl (by (try simp only [J8z,J80,J81]);unfold Ar at *;omega) ⟨ae,J4q P,rfl⟩
    ·exact Sd0 Q fun _=>J4o Zb rfl ⟨ae,J4q P,rfl⟩
    ·exact Sd1 Q d9 fun _=>J4t b pl23 rfl rfl ⟨ae,J4q P,rfl⟩
    ·refine Sd1 Q eb fun _=>J49 (j:=0) (u:=(a.n.getD 0 0)) e.n sl23 io3 rfl rfl rfl (Jc (by omega)) ?_;intro kW kX bV bf;obtain⟨rfl,iX⟩:bV=_∧_:=bf.rd;exact⟨ae,J4q P,⟨_,_,_,rfl,bf⟩⟩
    ·obtain⟨kY,kZ,bW,es,bg⟩:=ed;obtain⟨rfl,iY⟩:bW=_∧_:=bg.rd;exact Sd1 Q es fun _=>J44 pl3 rfl (bg.cell 0 _ rfl) ⟨ae,J4q P,rfl⟩
    ·refine Sd1 Q ee fun _=>J4p P zh rfl rfl (qr P.bd hrn.1 hrn.2) ?_;intro k0 k1 et eu ev;exact⟨ae,⟨et,eu⟩,ev⟩
    obtain⟨k2,k3,bX,ew,ex⟩:=el;obtain⟨rfl,iZ⟩:bX=_∧_:=ex.rd;obtain⟨k4,rfl⟩:=mixK Q (aC ef<|aC eg<|aC eh<|aC ei<|aC ej<|aC ek<|aC ew<|aC em<|aC en aN);exact Ol<|J43 rfl rfl (by (try simp only [J8z,J80,J81]);unfold Ar at *;omega)<|Ua<|J4y<|Wq rfl rfl P<|J87 (str)<|(Jhb hg hop<|.inr (.inl ao))
   refine OF<|Om<|OgD<|J4o Js rfl<|OgD<|J4t r pl3 rfl rfl<|OgD<|J42 rfl rfl (fun ar=>?_)<|fun ar=>?_
   ·refine OF<|Om<|Oz<|Oz<|Oz<|OT<|Nl<|Ud<|J40<|J5g mixed 9 [[],[0],[1],[2],[],[4],[5],[6],[7]] ak [fx<|ea (Ar a 0) B D E F G H I J,fx<|str<|wrE<|Ar a 0,fx<|str<|[40]++(wrE<|Ar a 0),fx<|str<|([40]++(wrE<|Ar a 0))++[41,94],fx<|.pointer (some ⟨L,1,none⟩),fx<|.slice a1 a.n.length c2,fE Zi<|a.n.getD 0 0,fx<|.int .i64 (a.n.getD 0 0),fx<|str<|Lib.itoa<|a.n.getD 0 0] (by kernel_rfl) ⟨sx,sx,sx,sx,sx,sx,sE,sx,sx,trivial⟩ fun ey af k5 ⟨R,au⟩ S=>?_
    replace e:=e.sp au;replace m:=m.sp au;replace b:=b.spn au;replace r:=r.spn au;have S:Keep [96,97,98,99,100,101,102,103,104] _ ey:=S;refine⟨⟨fun _=>?_,fun⟨ez,_⟩=>?_,fun⟨eA,_⟩=>?_,fun⟨eB,_⟩=>?_,fun _=>?_,fun⟨eC,_⟩=>?_,fun⟨eD,_⟩=>?_,fun⟨eE,_⟩=>?_,fun⟨eF,_⟩=>?_,trivial⟩,fun⟨eG,eH,eI,eJ,eK,eL,eM,eN,eO,_⟩=>?_⟩
    ·exact Sd0 S fun _=>J46 (vs:=(ec (Ar a 0) B D E F G H I J)) r ag31 rfl rfl rfl ⟨af,J4q R,rfl⟩
    ·refine Sd1 S ez fun _=>J4p R cb41 rfl rfl (hW 0 hpl R.bd<|Mx (Ar a 0) m) ?_;intro k6 k7 eP eQ eR;exact⟨af,⟨eP,eQ⟩,eR⟩
    ·exact Sd1 S eA fun _=>J43 rfl rfl (by (try simp only [J8z,J80,J81]);unfold Ar at *;omega) ⟨af,J4q R,rfl⟩
    ·exact Sd1 S eB fun _=>J43 rfl rfl (by (try simp only [J8z,J80,J81]);unfold Ar at *;omega) ⟨af,J4q R,rfl⟩
    ·exact Sd0 S fun _=>J4o Zb rfl ⟨af,J4q R,rfl⟩
    ·exact Sd1 S eC fun _=>J4t b pl23 rfl rfl ⟨af,J4q R,rfl⟩
    ·refine Sd1 S eD fun _=>J49 (j:=0) (u:=(a.n.getD 0 0)) e.n sl23 io3 rfl rfl rfl (Jc (by omega)) ?_;intro k8 k9 bY bh;obtain⟨rfl,i0⟩:bY=_∧_:=bh.rd;exact⟨af,J4q R,⟨_,_,_,rfl,bh⟩⟩
    ·obtain⟨la,lb,bZ,eS,bi⟩:=eE;obtain⟨rfl,i1⟩:bZ=_∧_:=bi.rd;exact Sd1 S eS fun _=>J44 pl3 rfl (bi.cell 0 _ rfl) ⟨af,J4q R,rfl⟩
    ·refine Sd1 S eF fun _=>J4p R zh rfl rfl (qr R.bd hrn.1 hrn.2) ?_;intro lc ld eT eU eV;exact⟨af,⟨eT,eU⟩,eV⟩
    obtain⟨lf,lg,b0,eW,eX⟩:=eM;obtain⟨rfl,i2⟩:b0=_∧_:=eX.rd;obtain⟨lh,rfl⟩:=mixK S (aC eG<|aC eH<|aC eI<|aC eJ<|aC eK<|aC eL<|aC eW<|aC eN<|aC eO aN);exact Ol<|J43 rfl rfl (by (try simp only [J8z,J80,J81]);unfold Ar at *;omega)<|Ua<|J4y<|Wq rfl rfl R<|J87 (str)<|(Jhb hg hop<|.inr (.inr (.inl ar)))
   refine OF<|Om<|OgD<|J4o Js rfl<|OgD<|J4t r pl3 rfl rfl<|OgD<|J42 rfl rfl (fun av=>?_)<|fun av=>?_
   ·refine OF<|Nl<|Ud<|J40<|J5g mixed 9 [[],[0],[1],[2],[],[4],[5],[6],[7]] ak [fx<|ea (Ar a 0) B D E F G H I J,fx<|str<|wrE<|Ar a 0,fx<|str<|[40]++(wrE<|Ar a 0),fx<|str<|([40]++(wrE<|Ar a 0))++[41,94],fx<|.pointer (some ⟨L,1,none⟩),fx<|.slice a1 a.n.length c2,fE Zi<|a.n.getD 0 0,fx<|.int .i64 (a.n.getD 0 0),fx<|str<|Lib.itoa<|a.n.getD 0 0] (by kernel_rfl) ⟨sx,sx,sx,sx,sx,sx,sE,sx,sx,trivial⟩ fun eY ag li ⟨U,aw⟩ V=>?_
    replace e:=e.sp aw;replace m:=m.sp aw;replace b:=b.spn aw;replace r:=r.spn aw;have V:Keep [96,97,98,99,100,101,102,103,104] _ eY:=V;refine⟨⟨fun _=>?_,fun⟨eZ,_⟩=>?_,fun⟨e0,_⟩=>?_,fun⟨e1,_⟩=>?_,fun _=>?_,fun⟨e2,_⟩=>?_,fun⟨e3,_⟩=>?_,fun⟨e4,_⟩=>?_,fun⟨e5,_⟩=>?_,trivial⟩,fun⟨e6,e7,e8,e9,fa,fb,fc,fd,ff,_⟩=>?_⟩
    ·exact Sd0 V fun _=>J46 (vs:=(ec (Ar a 0) B D E F G H I J)) r ag31 rfl rfl rfl ⟨ag,J4q U,rfl⟩
    ·refine Sd1 V eZ fun _=>J4p U cb41 rfl rfl (hW 0 hpl U.bd<|Mx (Ar a 0) m) ?_;intro lj lk fg fh fi;exact⟨ag,⟨fg,fh⟩,fi⟩
    ·exact Sd1 V e0 fun _=>J43 rfl rfl (by (try simp only [J8z,J80,J81]);unfold Ar at *;omega) ⟨ag,J4q U,rfl⟩
    ·exact Sd1 V e1 fun _=>J43 rfl rfl (by (try simp only [J8z,J80,J81]);unfold Ar at *;omega) ⟨ag,J4q U,rfl⟩
    ·exact Sd0 V fun _=>J4o Zb rfl ⟨ag,J4q U,rfl⟩
    ·exact Sd1 V e2 fun _=>J4t b pl23 rfl rfl ⟨ag,J4q U,rfl⟩
    ·refine Sd1 V e3 fun _=>J49 (j:=0) (u:=(a.n.getD 0 0)) e.n sl23 io3 rfl rfl rfl (Jc (by omega)) ?_;intro ll lm b1 bj;obtain⟨rfl,i3⟩:b1=_∧_:=bj.rd;exact⟨ag,J4q U,⟨_,_,_,rfl,bj⟩⟩
    ·obtain⟨ln,lp,b2,fj,bk⟩:=e4;obtain⟨rfl,i4⟩:b2=_∧_:=bk.rd;exact Sd1 V fj fun _=>J44 pl3 rfl (bk.cell 0 _ rfl) ⟨ag,J4q U,rfl⟩
    ·refine Sd1 V e5 fun _=>J4p U zh rfl rfl (qr U.bd hrn.1 hrn.2) ?_;intro lq lr fk fl fm;exact⟨ag,⟨fk,fl⟩,fm⟩
    obtain⟨ls,lu,b3,fn,fo⟩:=fc;obtain⟨rfl,i5⟩:b3=_∧_:=fo.rd;obtain⟨lv,rfl⟩:=mixK V (aC e6<|aC e7<|aC e8<|aC e9<|aC fa<|aC fb<|aC fn<|aC fd<|aC ff aN);exact Ol<|J43 rfl rfl (by (try simp only [J8z,J80,J81]);unfold Ar at *;omega)<|Ua<|J4y<|Wq rfl rfl U<|J87 (str)<|(Jhb hg hop<|.inr (.inr (.inr av)))
   refine OF<|Nl<|Uc<|⟨_,_,ak,rfl,rfl,rfl,e,m,b,r,am,ao,ar,av⟩
  rintro lw lx ⟨ly,lz,fp,bl,bm,bn,e,m,aG,aH,bo,bp,iI,iJ⟩;obtain⟨lC,rfl⟩:=rebK (aC bl<|aC bm<|aC bn aN);clear bl bm bn;refine J40 ?_;have hbp:=(hg.arg (i:=0) hpl).pl bo bp;refine J5g mixed 8 [[],[0],[1],[],[3],[4],[5],[6]] fp [fx<|ea (Ar a 0) B D E F G H I J,fx<|str<|plE<|Ar a 0,fx<|str<|(plE<|Ar a 0)++[94],fx<|.pointer (some ⟨L,1,none⟩),fx<|.slice a1 a.n.length c2,fE Zi<|a.n.getD 0 0,fx<|.int .i64 (a.n.getD 0 0),fx<|str<|Lib.itoa<|a.n.getD 0 0] (by kernel_rfl) ⟨sx,sx,sx,sx,sx,sE,sx,sx,trivial⟩ fun fq ai lD ⟨Z,ax⟩ aa=>?_
  replace e:=e.sp ax;replace m:=m.sp ax;replace aG:=aG.spn ax;replace aH:=aH.spn ax;have aa:Keep [106,107,108,109,110,111,112,113] _ fq:=aa;refine⟨⟨fun _=>?_,fun⟨ft,_⟩=>?_,fun⟨fu,_⟩=>?_,fun _=>?_,fun⟨fv,_⟩=>?_,fun⟨fy,_⟩=>?_,fun⟨fz,_⟩=>?_,fun⟨fA,_⟩=>?_,trivial⟩,fun⟨fB,fC,fD,fF,fG,fH,fI,fJ,_⟩=>?_⟩
  ·exact Sd0 aa fun _=>J46 (vs:=(ec (Ar a 0) B D E F G H I J)) aH ag31 rfl rfl rfl ⟨ai,J4q Z,rfl⟩
  ·refine Sd1 aa ft fun _=>J4p Z Jn9 rfl rfl (hS 0 hpl bo bp Z.bd<|Mx (Ar a 0) m) ?_;intro lE lF fK fL fM;exact⟨ai,⟨fK,fL⟩,fM⟩
  ·exact Sd1 aa fu fun _=>J43 rfl rfl (by have iK:=hbp;(try simp only [J8z,J80,J81]);unfold Ar at *;omega) ⟨ai,J4q Z,rfl⟩
  ·exact Sd0 aa fun _=>J4o Zb rfl ⟨ai,J4q Z,rfl⟩
  ·exact Sd1 aa fv fun _=>J4t aG pl23 rfl rfl ⟨ai,J4q Z,rfl⟩
  ·refine Sd1 aa fy fun _=>J49 (j:=0) (u:=(a.n.getD 0 0)) e.n sl23 io3 rfl rfl rfl (Jc (by omega)) ?_;intro lG lH b4 bq;obtain⟨rfl,i6⟩:b4=_∧_:=bq.rd;exact⟨ai,J4q Z,⟨_,_,_,rfl,bq⟩⟩
  ·obtain⟨lI,lJ,b5,fN,br⟩:=fz;obtain⟨rfl,i7⟩:b5=_∧_:=br.rd;exact Sd1 aa fN fun _=>J44 pl3 rfl (br.cell 0 _ rfl) ⟨ai,J4q Z,rfl⟩
  ·refine Sd1 aa fA fun _=>J4p Z zh rfl rfl (qr Z.bd hrn.1 hrn.2) ?_;intro lK lL fO fP fQ;exact⟨ai,⟨fO,fP⟩,fQ⟩
  obtain⟨lM,lN,b6,fR,fS⟩:=fH;obtain⟨rfl,i8⟩:b6=_∧_:=fS.rd;obtain⟨lO,rfl⟩:=mixK aa (aC fB<|aC fC<|aC fD<|aC fF<|aC fG<|aC fR<|aC fI<|aC fJ aN);exact Ol<|J43 rfl rfl (by have iK:=hbp;(try simp only [J8z,J80,J81]);unfold Ar at *;omega)<|Ua<|J4y<|Wq rfl rfl Z<|J87 (str)<|(si_12 hg hop bo bp iI iJ)
 refine Ua<|Ug<|Ol<|J42 rfl rfl (fun aR=>?_)<|fun aR=>?_
 ·refine Oa (Nl<|Ud<|J40 ?_);have hpl:0 < a.args.length:=by have:=ca1 hg.parts.1 (by omega);omega
  have a9:=(hg.arg (i:=0) hpl).wl;refine J4u (Ol<|J4o J1 rfl<|Ol<|J4t b pl29 rfl rfl<|Ol<|J49 (j:=0) (u:=(Ar a 0)) e.args sl29 io31 rfl rfl rfl (Jc (by omega)) ?_);intro lP lQ i9 bs;obtain⟨fT,fU,fV,fW,fX,fY,fZ,f0,rfl,f1⟩:=Jd bs.rd;refine Ol (J5l (cs:=(ec (Ar a 0) fT fU fV fW fX fY fZ f0)) ag31 rfl rfl bs.cell<|Ol<|J4p K cb41 rfl rfl (hW 0 hpl K.bd<|Mx (Ar a 0) f1) ?_);intro lR lS f2 lT f3;subst f3;exact Ol<|J43 rfl rfl (by (try simp only [J8z,J80,J81]);unfold Ar at *;omega)<|Ol<|J43 rfl rfl (by (try simp only [J8z,J80,J81]);unfold Ar at *;omega)<|Ua<|J4y<|Wq rfl rfl f2<|J87 (str)<|(si_17 hg aR)
 refine Ua<|Ug<|Ol<|J42 rfl rfl (fun ay=>?_)<|fun ay=>?_
 ·refine Oa (Nl<|Ud<|J40 ?_);have hpn:0 < a.n.length:=hg.n (by omega);have hrn:=nr0 hg hpn;have az:=Xp hrn.1 hrn.2;have hpl:0 < a.args.length:=by have:=ca1 hg.parts.1 (by omega);omega
  have a9:=(hg.arg (i:=0) hpl).wl;have cK:1 < a.args.length:=by have:=ca2 hg.parts.1 (.inr (.inr ay));omega
  have oo:=(hg.arg (i:=1) cK).wl;refine J5g mixed 19 [[],[0],[1],[2],[3],[4],[5],[],[7],[8],[9],[10],[6,11],[12],[],[14],[15],[16],[17]] K [fx<|.pointer (some ⟨L,1,none⟩),fx<|.slice a1 a.n.length c2,fE Zi<|a.n.getD 0 0,fx<|.int .i64 (a.n.getD 0 0),fx<|str<|Lib.itoa<|a.n.getD 0 0,fx<|str<|[98,114,97,99,107,101,116,40]++(Lib.itoa<|a.n.getD 0 0),fx<|str<|([98,114,97,99,107,101,116,40]++(Lib.itoa<|a.n.getD 0 0))++[44,32],fx<|.pointer (some ⟨L,7,none⟩),fx<|.slice a7 a.args.length c8,fE Jf<|Ar a 0,fr Jf<|Ar a 0,fx<|str<|wrE<|Ar a 0,fx<|str<|(([98,114,97,99,107,101,116,40]++(Lib.itoa<|a.n.getD 0 0))++[44,32])++(wrE<|Ar a 0),fx<|str<|((([98,114,97,99,107,101,116,40]++(Lib.itoa<|a.n.getD 0 0))++[44,32])++(wrE<|Ar a 0))++[44,32],fx<|.pointer (some ⟨L,7,none⟩),fx<|.slice a7 a.args.length c8,fE Jf<|Ar a 1,fr Jf<|Ar a 1,fx<|str<|wrE<|Ar a 1] (by kernel_rfl) ⟨sx,sx,sE,sx,sx,sx,sx,sx,sx,sE,sr,sx,sx,sx,sx,sx,sE,sr,sx,trivial⟩ fun f4 o lU ⟨d,bt⟩ g=>?_
  replace e:=e.sp bt;replace b:=b.spn bt;have g:Keep [126,127,128,129,130,131,132,133,134,135,136,137,138,139,140,141,142,143,144] _ f4:=g;refine⟨⟨fun _=>?_,fun⟨f5,_⟩=>?_,fun⟨f6,_⟩=>?_,fun⟨f7,_⟩=>?_,fun⟨f8,_⟩=>?_,fun⟨f9,_⟩=>?_,fun⟨ga,_⟩=>?_,fun _=>?_,fun⟨gb,_⟩=>?_,fun⟨gc,_⟩=>?_,fun⟨gd,_⟩=>?_,fun⟨gf,_⟩=>?_,fun⟨gg,gi,_⟩=>?_,fun⟨gj,_⟩=>?_,fun _=>?_,fun⟨gk,_⟩=>?_,fun⟨gl,_⟩=>?_,fun⟨gm,_⟩=>?_,fun⟨gn,_⟩=>?_,trivial⟩,fun⟨gp,gq,gr,gs,gt,gu,gv,gw,gx,gy,gz,gA,gB,gC,gD,gE,gF,gG,gH,_⟩=>?_⟩
  ·exact Sd0 g fun _=>J4o Zb rfl ⟨o,J4q d,rfl⟩
  ·exact Sd1 g f5 fun _=>J4t b pl23 rfl rfl ⟨o,J4q d,rfl⟩
  ·refine Sd1 g f6 fun _=>J49 (j:=0) (u:=(a.n.getD 0 0)) e.n sl23 io3 rfl rfl rfl (Jc (by omega)) ?_;intro lV lW b7 bu;obtain⟨rfl,ja⟩:b7=_∧_:=bu.rd;exact⟨o,J4q d,⟨_,_,_,rfl,bu⟩⟩
  ·obtain⟨lX,lY,b8,gI,bv⟩:=f7;obtain⟨rfl,jb⟩:b8=_∧_:=bv.rd;exact Sd1 g gI fun _=>J44 pl3 rfl (bv.cell 0 _ rfl) ⟨o,J4q d,rfl⟩
  ·refine Sd1 g f8 fun _=>J4p d zh rfl rfl (qr d.bd hrn.1 hrn.2) ?_;intro lZ l0 gJ gK gL;exact⟨o,⟨gJ,gK⟩,gL⟩
  ·exact Sd1 g f9 fun _=>J43 rfl rfl (by (try simp only [J8z,J80,J81]);omega) ⟨o,J4q d,rfl⟩
  ·exact Sd1 g ga fun _=>J43 rfl rfl (by (try simp only [J8z,J80,J81]);omega) ⟨o,J4q d,rfl⟩
  ·exact Sd0 g fun _=>J4o J1 rfl ⟨o,J4q d,rfl⟩
  ·exact Sd1 g gb fun _=>J4t b pl29 rfl rfl ⟨o,J4q d,rfl⟩
  ·refine Sd1 g gc fun _=>J49 (j:=0) (u:=(Ar a 0)) e.args sl29 io31 rfl rfl rfl (Jc (by omega)) ?_;intro l3 l4 jc bw;obtain⟨l5,l6,l7,l8,l9,ma,mb,mc,rfl,md⟩:=Jd bw.rd;exact⟨o,J4q d,⟨_,_,_,rfl,bw⟩⟩
  ·obtain⟨me,mf,jd,gM,bx⟩:=gd;obtain⟨gN,gO,gP,gQ,gR,gS,gT,gU,rfl,gV⟩:=Jd bx.rd;exact Sd1 g gM fun _=>J5l (cs:=(ec (Ar a 0) gN gO gP gQ gR gS gT gU)) ag31 rfl rfl bx.cell ⟨o,J4q d,(Mx (Ar a 0) gV)⟩
  ·obtain⟨mg,mh,mi,mj,mk,ml,mm,mn,gW,gX⟩:=J8e gf;refine Sd1 g gW fun _=>J4p d cb41 rfl rfl (hW 0 hpl d.bd<|Mx (Ar a 0) gX) ?_;intro mo mp gY gZ g0;exact⟨o,⟨gY,gZ⟩,g0⟩
  ·exact Jp g (aC gg<|aC gi aN) fun _=>J5b<|J43 rfl rfl (by (try simp only [J8z,J80,J81]);unfold Ar at *;omega) ⟨o,J4q d,rfl⟩
  ·exact Sd1 g gj fun _=>J43 rfl rfl (by (try simp only [J8z,J80,J81]);unfold Ar at *;omega) ⟨o,J4q d,rfl⟩
  ·exact Sd0 g fun _=>J4o J1 rfl ⟨o,J4q d,rfl⟩
  ·exact Sd1 g gk fun _=>J4t b pl29 rfl rfl ⟨o,J4q d,rfl⟩
  ·refine Sd1 g gl fun _=>J49 (j:=1) (u:=(Ar a 1)) e.args sl29 io31 rfl rfl rfl (Jc (by omega)) ?_;intro mq mr je bz;obtain⟨ms,mt,mu,mw,mx,my,mz,mA,rfl,mB⟩:=Jd bz.rd;exact⟨o,J4q d,⟨_,_,_,rfl,bz⟩⟩
  ·obtain⟨mC,mD,jf,g1,bA⟩:=gm;obtain⟨g2,g3,g4,g5,g6,g7,g8,g9,rfl,ha⟩:=Jd bA.rd;exact Sd1 g g1 fun _=>J5l (cs:=(ec (Ar a 1) g2 g3 g4 g5 g6 g7 g8 g9)) ag31 rfl rfl bA.cell ⟨o,J4q d,(Mx (Ar a 1) ha)⟩
  ·obtain⟨mE,mF,mG,mH,mI,mJ,mK,mL,hb,hc⟩:=J8e gn;refine Sd1 g hb fun _=>J4p d cb41 rfl rfl (hW 1 cK d.bd<|Mx (Ar a 1) hc) ?_;intro mM mN he hf hh;exact⟨o,⟨he,hf⟩,hh⟩
  obtain⟨mO,mP,b9,hi,hj⟩:=gr;obtain⟨rfl,jg⟩:b9=_∧_:=hj.rd;obtain⟨mQ,mR,jh,hk,hl⟩:=gy;obtain⟨mS,mT,mU,mV,mW,mX,mY,mZ,rfl,m0⟩:=Jd hl.rd;obtain⟨m3,m4,m5,m6,m7,m8,m9,na,hm,nb⟩:=J8e gz;obtain⟨nc,nd,ji,hn,ho⟩:=gF;obtain⟨nf,ng,nh,ni,nj,nk,nl,nm,rfl,nn⟩:=Jd ho.rd;obtain⟨no,np,nr,ns,nt,nu,nv,nw,hp,ny⟩:=J8e gG;obtain⟨nz,rfl⟩:=mixK g (aC gp<|aC gq<|aC hi<|aC gs<|aC gt<|aC gu<|aC gv<|aC gw<|aC gx<|aC hk<|aC hm<|aC gA<|aC gB<|aC gC<|aC gD<|aC gE<|aC hn<|aC hp<|aC gH aN);exact Ol<|J43 rfl rfl (by (try simp only [J8z,J80,J81]);unfold Ar at *;omega)<|Ol<|J43 rfl rfl (by (try simp only [J8z,J80,J81]);unfold Ar at *;omega)<|Ua<|J4y<|Wq rfl rfl d<|J87 (str)<|(si_18 hg ay)
 refine Oa (Nl<|Uc<|J40 ?_);have oq:=hg.parts.1.o1;have os:=hg.parts.1.o2;have hpn:0 < a.n.length:=hg.n (by omega);have hrn:=nr0 hg hpn;have az:=Xp hrn.1 hrn.2;have hpl:0 < a.args.length:=by have:=ca1 hg.parts.1 (by omega);omega
 have a9:=(hg.arg (i:=0) hpl).wl;have hwd:=wd_le (a.op - 13).toNat;refine J4u (Ol<|J5f (T:=K6) (css:=[[(str [86])],[(str [85])],[(str [84])],[(str [116,119,105,115,116])]]) (l:=[[86],[85],[84],[116,119,105,115,116]]) K sl50 io9 (by decide) (by decide) rfl (by kernel_rfl) ⟨⟨rfl,(by unfold maxLen;simp)⟩,⟨rfl,(by unfold maxLen;simp)⟩,⟨rfl,(by unfold maxLen;simp)⟩,⟨rfl,(by unfold maxLen;simp)⟩,trivial⟩ ?_);intro hq nA hr bB aI;refine Ua<|J40<|J5g mixed 19 [[],[],[1],[2],[0,3],[4],[5],[],[7],[8],[9],[10],[6,11],[12],[],[14],[15],[16],[17]] hr [fx<|.slice (some ⟨hq,0,none⟩) 4 4,fx<|.pointer (some ⟨L,0,none⟩),fx<|.int .i64 a.op,fx<|.int .i64 (a.op - 13),fE K6<|[[86],[85],[84],[116,119,105,115,116]].getD ((a.op - 13).toNat) [],fx<|str<|[[86],[85],[84],[116,119,105,115,116]].getD ((a.op - 13).toNat) [],fx<|str<|([[86],[85],[84],[116,119,105,115,116]].getD ((a.op - 13).toNat) [])++[40],fx<|.pointer (some ⟨L,1,none⟩),fx<|.slice a1 a.n.length c2,fE Zi<|a.n.getD 0 0,fx<|.int .i64 (a.n.getD 0 0),fx<|str<|Lib.itoa<|a.n.getD 0 0,fx<|str<|(([[86],[85],[84],[116,119,105,115,116]].getD ((a.op - 13).toNat) [])++[40])++(Lib.itoa<|a.n.getD 0 0),fx<|str<|((([[86],[85],[84],[116,119,105,115,116]].getD ((a.op - 13).toNat) [])++[40])++(Lib.itoa<|a.n.getD 0 0))++[44,32],fx<|.pointer (some ⟨L,7,none⟩),fx<|.slice a7 a.args.length c8,fE Jf<|Ar a 0,fr Jf<|Ar a 0,fx<|str<|wrE<|Ar a 0] (by kernel_rfl) ⟨sx,sx,sx,sx,sE,sx,sx,sx,sx,sE,sx,sx,sx,sx,sx,sx,sE,sr,sx,trivial⟩ fun hs p nB ⟨h,aJ⟩ k=>?_
 replace e:=(e.sp bB).sp aJ;replace aI:=aI.sp aJ;replace b:=(b.spn bB).spn aJ;have k:Keep [148,149,150,151,152,153,154,155,156,157,158,159,160,161,162,163,164,165,166] _ hs:=k;refine⟨⟨fun _=>?_,fun _=>?_,fun⟨ht,_⟩=>?_,fun⟨hu,_⟩=>?_,fun⟨hv,hw,_⟩=>?_,fun⟨hx,_⟩=>?_,fun⟨hy,_⟩=>?_,fun _=>?_,fun⟨hz,_⟩=>?_,fun⟨hA,_⟩=>?_,fun⟨hB,_⟩=>?_,fun⟨hC,_⟩=>?_,fun⟨hD,hE,_⟩=>?_,fun⟨hF,_⟩=>?_,fun _=>?_,fun⟨hG,_⟩=>?_,fun⟨hH,_⟩=>?_,fun⟨hI,_⟩=>?_,fun⟨hJ,_⟩=>?_,trivial⟩,fun⟨hK,hL,hM,hN,hO,hP,hQ,hR,hT,hU,hV,hY,hZ,h0,h1,h2,h3,h4,h5,_⟩=>?_⟩
 ·exact Sd0 k fun _=>J4x ⟨p,J4q h,rfl⟩
 ·exact Sd0 k fun _=>J4o Js rfl ⟨p,J4q h,rfl⟩
 ·exact Sd1 k ht fun _=>J4t b pl3 rfl rfl ⟨p,J4q h,rfl⟩
 ·exact Sd1 k hu fun _=>St.sub (z:=(a.op - 13)) rfl rfl (J9j _ (by omega)) ⟨p,J4q h,rfl⟩
 ·refine Jp k (aC hv<|aC hw aN) fun _=>J5b (J49 (j:=(a.op - 13).toNat) (u:=([[86],[85],[84],[116,119,105,115,116]].getD ((a.op - 13).toNat) [])) aI sl50 io9 rfl rfl (by omega) (Jc (by simp only [J80,J81];omega)) ?_);intro nC nD ca bC;obtain⟨rfl,jj⟩:ca=_∧_:=bC.rd;exact⟨p,J4q h,⟨_,_,_,rfl,bC⟩⟩
 ·obtain⟨nE,nF,cb,h6,bD⟩:=hx;obtain⟨rfl,jk⟩:cb=_∧_:=bD.rd;exact Sd1 k h6 fun _=>J44 pl9 rfl (bD.cell 0 _ rfl) ⟨p,J4q h,rfl⟩
 ·exact Sd1 k hy fun _=>J43 rfl rfl (by (try simp only [J8z,J80,J81]);omega) ⟨p,J4q h,rfl⟩
 ·exact Sd0 k fun _=>J4o Zb rfl ⟨p,J4q h,rfl⟩
 ·exact Sd1 k hz fun _=>J4t b pl23 rfl rfl ⟨p,J4q h,rfl⟩
 ·refine Sd1 k hA fun _=>J49 (j:=0) (u:=(a.n.getD 0 0)) e.n sl23 io3 rfl rfl rfl (Jc (by omega)) ?_;intro nG nH cc bE;obtain⟨rfl,jl⟩:cc=_∧_:=bE.rd;exact⟨p,J4q h,⟨_,_,_,rfl,bE⟩⟩
 ·obtain⟨nI,nJ,cd,h7,bF⟩:=hB;obtain⟨rfl,jm⟩:cd=_∧_:=bF.rd;exact Sd1 k h7 fun _=>J44 pl3 rfl (bF.cell 0 _ rfl) ⟨p,J4q h,rfl⟩
 ·refine Sd1 k hC fun _=>J4p h zh rfl rfl (qr h.bd hrn.1 hrn.2) ?_;intro nK nL h8 ia ib;exact⟨p,⟨h8,ia⟩,ib⟩
 ·exact Jp k (aC hD<|aC hE aN) fun _=>J5b<|J43 rfl rfl (by (try simp only [J8z,J80,J81]);omega) ⟨p,J4q h,rfl⟩
 ·exact Sd1 k hF fun _=>J43 rfl rfl (by (try simp only [J8z,J80,J81]);omega) ⟨p,J4q h,rfl⟩
 ·exact Sd0 k fun _=>J4o J1 rfl ⟨p,J4q h,rfl⟩
 ·exact Sd1 k hG fun _=>J4t b pl29 rfl rfl ⟨p,J4q h,rfl⟩
 ·refine Sd1 k hH fun _=>J49 (j:=0) (u:=(Ar a 0)) e.args sl29 io31 rfl rfl rfl (Jc (by omega)) ?_;intro nM nN jn bG;obtain⟨nO,nP,nQ,nR,nS,nT,nU,nV,rfl,jo⟩:=Jd bG.rd;exact⟨p,J4q h,⟨_,_,_,rfl,bG⟩⟩
 ·obtain⟨jp,jq,iL,ce,aS⟩:=hI;obtain⟨cf,cg,ch,ci,cj,ck,cl,cm,rfl,cn⟩:=Jd aS.rd;exact Sd1 k ce fun _=>J5l (cs:=(ec (Ar a 0) cf cg ch ci cj ck cl cm)) ag31 rfl rfl aS.cell ⟨p,J4q h,(Mx (Ar a 0) cn)⟩
 ·obtain⟨jr,js,jt,ju,jv,jw,jx,jy,co,cp⟩:=J8e hJ;refine Sd1 k co fun _=>J4p h cb41 rfl rfl (hW 0 hpl h.bd<|Mx (Ar a 0) cp) ?_;intro jz jA cq cr ct;exact⟨p,⟨cq,cr⟩,ct⟩
 obtain⟨jB,jC,bH,cu,cv⟩:=hO;obtain⟨rfl,iM⟩:bH=_∧_:=cv.rd;obtain⟨jD,jE,bI,cw,cx⟩:=hU;obtain⟨rfl,iN⟩:bI=_∧_:=cx.rd;obtain⟨jF,jG,iO,cy,cz⟩:=h3;obtain⟨jH,jI,jJ,jK,jL,jM,jN,jO,rfl,jP⟩:=Jd cz.rd;obtain⟨jQ,jR,jS,jT,jU,jV,jW,jX,cE,jY⟩:=J8e h4;obtain⟨jZ,rfl⟩:=mixK k (aC hK<|aC hL<|aC hM<|aC hN<|aC cu<|aC hP<|aC hQ<|aC hR<|aC hT<|aC cw<|aC hV<|aC hY<|aC hZ<|aC h0<|aC h1<|aC h2<|aC cy<|aC cE<|aC h5 aN);exact Ol<|J43 rfl rfl (by (try simp only [J8z,J80,J81]);unfold Ar at *;omega)<|Ol<|J43 rfl rfl (by (try simp only [J8z,J80,J81]);unfold Ar at *;omega)<|Ua<|J4y<|Wq rfl rfl h<|J87 (str)<|(si_w hg (by omega) (by omega))
set_option maxHeartbeats 8000000 in
theorem Jf1{X:Nat→Prop}{w:World}(hX:XB X w){v0:Value}{a:GExpr}(r0:RV Jf X w v0 a)(h0:(facE a).length≤1000000000)(a4:¬ a.op=10)(h1:¬ a.op=11→XS a)(h2:a.op=11→0 < a.args.length∧∀ i,i < a.args.length→XI (Ar a i)):CRt 76 #[v0] w fun v w'=>v=(str (facE a)):=by
 obtain⟨a1,Y,Z,c4,a5,c6,Q,R,rfl,d⟩:=J8e r0;have C:=J4z hX;have hal:=r0.args_max;refine Cgo (args:=[(ea a a1 Y Z c4 a5 c6 Q R)]) Tryz.func76 rfl rfl rfl (Rg<|Ol<|J5a C rfl ?_);intro J bz bA bB bm ad a6 ae;replace d:=d.sp a6;refine Ua<|Rh<|Ol<|J4o Js rfl<|Ol<|J4t ae pl3 rfl rfl<|Ol<|J5w rfl rfl (fun K=>?_)<|fun K=>?_
 ·refine Nl (Uf<|Ol<|Uo (vs:=(ec a a1 Y Z c4 a5 c6 Q R)) ae ag31<|Ol<|J4p ad Jn9 rfl rfl (h1 K a4 K ad.bd<|Mx a d) ?_);intro bC bD a8 bE a9;subst a9;exact Ua<|J4y<|Wq rfl rfl a8<|J87 (str)<|(Jef K)
 refine Nl (Uc<|J40 ?_);have ai:a.op=11:=by omega
 obtain⟨hap,hai⟩:=h2 ai;refine J4u (Ua<|Rh<|Ua<|W.block<|J5e (fun μ f v=>∃ (x y:Nat→Prop) (i:Nat) (s:List UInt8),Cx X w x y v∧f 1=(.pointer (some ⟨J,0,none⟩))∧f 2=(str [])∧f 4=(.int .i64 ((i:Nat):Int))∧f 3=(str s)∧ExprParts x v a a1 Y Z c4 a5 c6 Q R∧Own w y v J (ec a a1 Y Z c4 a5 c6 Q R) 31∧i≤a.args.length∧s++mulX i (a.args.drop i)=facE a∧μ=(a.args.length - i)) _ ⟨_,_,0,[],ad,rfl,rfl,rfl,rfl,d,ae,(J9h _),(fx_0 ai),rfl⟩ ?_);rintro bF bG bH ⟨bI,bJ,i,s,aj,ak,am,an,ao,d,H,hi,hM,bi⟩;obtain⟨bK,rfl⟩:=rebK (aC ak<|aC am<|aC an<|aC ao aN);clear ak am an ao;refine Rh<|Ub<|J4o J1 rfl<|Ol<|J4t H pl29 rfl rfl<|Ol<|St.len sl29 rfl<|Ol<|J5c rfl rfl (fun aQ=>?_)<|fun aQ=>?_
 ·refine Nl (Ud<|J4v<|J40<|W.block<|J40 ?_);have hx:=hai i (by omega);have bn:=hx.m1;have bo:=hx.m2;have hsl:=Q5 hM h0;refine J4u (Ol<|J4o J1 rfl<|Ol<|J4t H pl29 rfl rfl<|Ub<|J49 (j:=i) (u:=(Ar a i)) d.args sl29 io31 rfl rfl rfl (Jc (by omega)) ?_);intro aq ar bp I;obtain⟨r,A,l,m,o,p,B,D,rfl,k⟩:=Jd I.rd;refine Ol (J5l (cs:=(ec (Ar a i) r A l m o p B D)) ag31 rfl rfl I.cell<|Ol<|J41 aj io31 rfl ?_);intro au bL bM bN aR ba U bb;have bc:=aR _ H.blk.lt;refine On (Us (cs':=(ec (Ar a i) r A l m o p B D)) ba bb io31 ?_);intro bO av V aw;replace d:=(d.sp U).sp V;replace k:=(k.sp U).sp V;replace I:=(I.sp U).sp V;replace H:=(H.spn U).spo V bc;refine Nl<|J40<|J55 (fun f v=>∃ (x y:Nat→Prop) (L:List UInt8),Cx X w x y v∧f 1=(.pointer (some ⟨J,0,none⟩))∧f 2=(str [])∧f 4=(.int .i64 ((i:Nat):Int))∧f 5=(.pointer (some ⟨au,0,none⟩))∧f 11=(.int .i64 ((i:Nat):Int))∧f 12=(.pointer (some ⟨J,7,none⟩))∧f 13=(.slice Q a.args.length R)∧f 14=(.int .i64 ((a.args.length:Nat):Int))∧f 15=(.bool true)∧f 18=(.pointer (some ⟨J,7,none⟩))∧f 19=(.slice Q a.args.length R)∧f 20=(.int .i64 ((i:Nat):Int))∧f 21=(.pointer (some ⟨aq,ar,none⟩))∧f 22=(ea (Ar a i) r A l m o p B D)∧f 3=(str L)∧ExprParts x v a a1 Y Z c4 a5 c6 Q R∧ExprParts x v (Ar a i) r A l m o p B D∧ElAt Jf x v aq ar (ec (Ar a i) r A l m o p B D) (Ar a i)∧Own w y v J (ec a a1 Y Z c4 a5 c6 Q R) 31∧Own w y v au (ec (Ar a i) r A l m o p B D) 31∧L++(txE<|Ar a i).f++mulX (i+1) (a.args.drop<|i+1)=facE a∧L.length≤1000000001) ?_ ?_
  ·refine Rg<|Ub<|J5o rfl rfl (fun T=>?_)<|fun T=>?_
   ·refine Nl<|Uk<|Ub<|J43 rfl rfl (by (try simp only [J8z,J80,J81]);omega)<|Ua<|⟨_,_,(s++[42]),av,rfl,rfl,rfl,rfl,rfl,rfl,rfl,rfl,rfl,rfl,rfl,rfl,rfl,rfl,rfl,d,k,I,H,aw,(Jge hM (by omega) T),(by (try simp only [J8z,J80,J81]);omega)⟩
   refine Nl<|Uc<|⟨_,_,s,av,rfl,rfl,rfl,rfl,rfl,rfl,rfl,rfl,rfl,rfl,rfl,rfl,rfl,rfl,rfl,d,k,I,H,aw,(Jg6 hM (by omega) T),(by (try simp only [J8z,J80,J81]);omega)⟩
  rintro bP bQ ⟨bR,bS,L,G,ax,ay,az,aA,aB,aD,aE,aF,aG,aH,aI,aJ,aK,aL,aM,d,k,I,e,E,S,bT⟩;obtain⟨bU,rfl⟩:=rebK (aC ax<|aC ay<|aC az<|aC aA<|aC aB<|aC aD<|aC aE<|aC aF<|aC aG<|aC aH<|aC aI<|aC aJ<|aC aK<|aC aL<|aC aM aN);clear ax ay az aA aB aD aE aF aG aH aI aJ aK aL aM;refine Rg<|Ol<|J4o Js rfl<|Ol<|J4t E pl3 rfl rfl<|Ol<|J42 rfl rfl (fun g=>?_)<|fun g=>?_
  ·refine Om (Oz<|Oz<|Oz<|OT<|Om<|Oz<|Oz<|Oz<|Oz<|OyD<|OyD<|OyD<|OyD<|Oz<|OT<|Nl<|J4r rfl ?_);have hbr:(Ar a i).op=10∨(Ar a i).op=11∨negB (Ar a i).op (Ar a i).c.q=true:= .inl g;have hwl:=Jul hM (by omega) hbr;refine J4u (Ub<|J43 rfl rfl (by (try simp only [J8z,J80,J81]);omega)<|Ol<|Uo (vs:=(ec (Ar a i) r A l m o p B D)) E ag31<|Ol<|J4p G cb41 rfl rfl (hx.w hbr G.bd<|Mx (Ar a i) k) ?_);intro bV bW be aO bf;replace d:=d.sp aO;replace e:=e.spn aO;subst bf;refine Ol (J43 rfl rfl (by (try simp only [J8z,J80,J81]);unfold Ar at *;omega)<|Ol<|J43 rfl rfl (by (try simp only [J8z,J80,J81]);unfold Ar at *;omega)<|Ua<|J4u<|Ub<|St.add rfl rfl (Ja (a:=i) (b:=1) (by omega))<|Oa<|Nl ?_);refine⟨_,(by omega),_,_,(i+1),(((L++[40])++(wrE<|Ar a i))++[41]),be,rfl,rfl,rfl,rfl,d,e,(by omega),(by rw [Jvx<|.inl g];exact S),rfl⟩
  refine Om<|OgD<|J4o Js rfl<|OgD<|J4t E pl3 rfl rfl<|OgD<|J42 rfl rfl (fun h=>?_)<|fun h=>?_
  ·refine OF (Om<|Oz<|Oz<|Oz<|Oz<|OyD<|OyD<|OyD<|OyD<|Oz<|OT<|Nl<|J4r rfl ?_);have hbr:(Ar a i).op=10∨(Ar a i).op=11∨negB (Ar a i).op (Ar a i).c.q=true:= .inr (.inl h);have hwl:=Jul hM (by omega) hbr;refine J4u (Ub<|J43 rfl rfl (by (try simp only [J8z,J80,J81]);omega)<|Ol<|Uo (vs:=(ec (Ar a i) r A l m o p B D)) E ag31<|Ol<|J4p G cb41 rfl rfl (hx.w hbr G.bd<|Mx (Ar a i) k) ?_);intro bX bY bg aP bh;replace d:=d.sp aP;replace e:=e.spn aP;subst bh;refine Ol (J43 rfl rfl (by (try simp only [J8z,J80,J81]);unfold Ar at *;omega)<|Ol<|J43 rfl rfl (by (try simp only [J8z,J80,J81]);unfold Ar at *;omega)<|Ua<|J4u<|Ub<|St.add rfl rfl (Ja (a:=i) (b:=1) (by omega))<|Oa<|Nl ?_);refine⟨_,(by omega),_,_,(i+1),(((L++[40])++(wrE<|Ar a i))++[41]),bg,rfl,rfl,rfl,rfl,d,e,(by omega),(by rw [Jvx<|.inr (.inl h)];exact S),rfl⟩
  refine OF<|Om<|OgD<|J4o Js rfl<|OgD<|J4t E pl3 rfl rfl<|OgD<|J42 rfl rfl (fun M=>?_)<|fun M=>?_
  ·refine OgD (J4x<|OgD<|J4o Z6 rfl<|OgD<|Uo (vs:=[(.bool (Ar a i).c.num.neg),(.slice l (Ar a i).c.num.mag.length m),(.bool (Ar a i).c.den.neg),(.slice o (Ar a i).c.den.mag.length p)]) E ag28<|OgD<|J4p G cb82 rfl rfl (xj G.bd (a:=(Ar a i).c) (Za k.num k.den) (by omega) (by omega)) ?_);intro bq br N F aS;replace k:=k.sp F;replace E:=E.spn F;subst aS;refine OgD<|J5c rfl rfl (fun P=>?_)<|fun P=>?_
   ·refine OgD (J5j (t:=true) rfl<|OF<|Nl<|J4r rfl ?_);have hbr:(Ar a i).op=10∨(Ar a i).op=11∨negB (Ar a i).op (Ar a i).c.q=true:= .inr (.inr (J08 M P));have hwl:=Jul hM (by omega) hbr;refine J4u (Ub<|J43 rfl rfl (by (try simp only [J8z,J80,J81]);omega)<|Ol<|Uo (vs:=(ec (Ar a i) r A l m o p B D)) E ag31<|Ol<|J4p N cb41 rfl rfl (hx.w hbr N.bd<|Mx (Ar a i) k) ?_);intro bs bt aT af aU;replace d:=(d.sp F).sp af;replace e:=(e.spn F).spn af;subst aU;refine Ol (J43 rfl rfl (by (try simp only [J8z,J80,J81]);unfold Ar at *;omega)<|Ol<|J43 rfl rfl (by (try simp only [J8z,J80,J81]);unfold Ar at *;omega)<|Ua<|J4u<|Ub<|St.add rfl rfl (Ja (a:=i) (b:=1) (by omega))<|Oa<|Nl ?_);refine⟨_,(by omega),_,_,(i+1),(((L++[40])++(wrE<|Ar a i))++[41]),aT,rfl,rfl,rfl,rfl,d,e,(by omega),(by rw [Jvx<|.inr (.inr (J08 M P))];exact S),rfl⟩
   refine OgD (J5j (t:=true) rfl<|OF<|Nl<|J4s rfl ?_);have hnb:negB (Ar a i).op (Ar a i).c.q=false:=Je1 (by omega);have hwl:=Jxw hM (by omega) g h hnb;refine J4u (Ub<|Uo (vs:=(ec (Ar a i) r A l m o p B D)) E ag31<|Ol<|J4p N Jn9 rfl rfl (hx.s g h hnb g h N.bd<|Mx (Ar a i) k) ?_);intro bu bv aV ag aW;replace d:=(d.sp F).sp ag;replace e:=(e.spn F).spn ag;subst aW;refine Ol<|J43 rfl rfl (by (try simp only [J8z,J80,J81]);unfold Ar at *;omega)<|Ua<|J4u<|Ub<|St.add rfl rfl (Ja (a:=i) (b:=1) (by omega))<|Ua<|⟨_,(by omega),_,_,(i+1),(L++(plE<|Ar a i)),aV,rfl,rfl,rfl,rfl,d,e,(by omega),(by rw [fa_0 g h<|Je1 (by omega)];exact S),rfl⟩
  refine OgD (J4x<|Oz<|Oz<|Oz<|Oz<|OgD<|J5j (t:=false) rfl<|OF<|Nl<|J4s rfl ?_);have hnb:negB (Ar a i).op (Ar a i).c.q=false:=Je1 (by omega);have hwl:=Jxw hM (by omega) g h hnb;refine J4u (Ub<|Uo (vs:=(ec (Ar a i) r A l m o p B D)) E ag31<|Ol<|J4p G Jn9 rfl rfl (hx.s g h hnb g h G.bd<|Mx (Ar a i) k) ?_);intro bw bx aX ah aY;replace d:=d.sp ah;replace e:=e.spn ah;subst aY;refine Ol<|J43 rfl rfl (by (try simp only [J8z,J80,J81]);unfold Ar at *;omega)<|Ua<|J4u<|Ub<|St.add rfl rfl (Ja (a:=i) (b:=1) (by omega))<|Ua<|⟨_,(by omega),_,_,(i+1),(L++(plE<|Ar a i)),aX,rfl,rfl,rfl,rfl,d,e,(by omega),(by rw [fa_0 g h<|Je1 (by omega)];exact S),rfl⟩
 exact Nl<|Ue<|J5i<|Rg<|Om<|Ua<|J4y<|Wq rfl rfl aj<|J87 (str)<|(Jy5 hM (by omega) hap)
theorem Jxg{a:GExpr}(hg:Gd a)(b:¬ a.op=10)(h:XF a):∀ i,i < [a].length→Gd ([a].getD i default)∧XF ([a].getD i default)∧(([a].getD i default).op=10→XW ([a].getD i default)):=by
 intro i hi
 have:i=0:=by simp at hi;exact hi
 subst this;exact⟨hg,h,fun k=>absurd k b⟩
theorem xi_of{a:GExpr}(hg:Gd a)(hw:XW a)(hs:XS a):XI a:=⟨J86 hg.m1 (by decide),J86 hg.m2 (by decide),fun _=>hw,fun _ _ _=>hs⟩
theorem Jsi{a:GExpr}(hg:Gd a):XS (numE (-a.c.q)):=fun b d X w hX v r=>
 Jq7 hX r (.inl rfl) (V7 hg).1 (V7 hg).2 (fun i h=>absurd h<|J9m _) (fun i h=>absurd h<|J9m _) b d
theorem J0e{a:GExpr}(hg:Gd a)(hn:negB a.op a.c.q=true):XI (numE (-a.c.q)):=by
 refine⟨(V7 hg).1,(V7 hg).2,fun h=>?_,fun _ _ _=>Jsi hg⟩
 exfalso
 rcases h with h | h | h
 ·exact absurd h (by show ¬ (1:Int)=10;decide)
 ·exact absurd h (by show ¬ (1:Int)=11;decide)
 ·have e:=(zr h).2;have b:0≤ -(-a.c.q):=by
   have:(numE<|-a.c.q).c.q= -a.c.q:=Yb _
   rwa [this] at e
  have g:=(zr hn).2;rw [Rat.neg_neg] at b;have d:=Rat.neg_le_neg b;rw [Rat.neg_zero] at d;have i: -a.c.q=0:=Rat.le_antisymm d g;unfold negB at hn;rw [Bool.and_eq_true,decide_eq_true_eq,decide_eq_true_eq] at hn;have j:a.c.q=0:=by rw [← Rat.neg_neg a.c.q,i,Rat.neg_zero]
  have k:=hn.2;rw [j] at k
  have:K5 0=0:=rfl
  omega
theorem xf_of{a:GExpr}(hg:Gd a)(hW:∀ i,i < a.args.length→XW (Ar a i))(hS:∀ i,i < a.args.length→XS (Ar a i))(hs:XS a):XF a:=fun b {X w} hX {v} r=>by
 have hl:(facE<|ngE a).length≤1000000000:=by rw [Jqc hg b];exact hg.sl
 have hI:∀ i,i < a.args.length→XI (Ar a i):=fun i hi=>xi_of (hg.arg hi) (hW i hi) (hS i hi);rw [← Jqc hg b]
 by_cases hn:negB a.op a.c.q=true
 ·have e:ngE a=numE (-a.c.q):=by unfold ngE;rw [if_pos hn]
  rw [e] at r hl ⊢;exact Jf1 hX r hl (by show ¬ (1:Int)=10;decide) (fun _=>Jsi hg)<|fun h=>absurd h (by show ¬ (1:Int)=11;decide)
 have hn:negB a.op a.c.q=false:=by simpa using hn
 by_cases h:a.op=11∧negB (Ar a 0).op (Ar a 0).c.q=true
 ·have d:=hg.a2 h.1;have hD:∀ i,i < (a.args.drop 1).length→XI ((a.args.drop 1).getD i default):=zl (P:=XI) hI
  by_cases hc:¬ (-(Ar a 0).c.q=1)∨(Ar a 1).op=1
  ·have e:ngE a=eOp 11 [] ([numE<|-(Ar a 0).c.q]++a.args.drop 1):=by unfold ngE;rw [if_neg (by rw [hn];decide),if_pos h,if_pos hc]
   rw [e] at r hl ⊢;refine Jf1 hX r hl (by show ¬ (11:Int)=10;decide) (fun k=>absurd rfl k)<|fun _=>⟨Nat.succ_pos _,fun i hi=>?_⟩
   cases i with
   | zero=>exact J0e (hg.arg (by omega)) h.2
   | succ i=>exact hD i<|Nat.lt_of_succ_lt_succ hi
  ·have e:ngE a=eOp 11 [] (a.args.drop 1):=by unfold ngE;rw [if_neg (by rw [hn];decide),if_pos h,if_neg hc]
   rw [e] at r hl ⊢;exact Jf1 hX r hl (by show ¬ (11:Int)=10;decide) (fun k=>absurd rfl k)<|fun _=>⟨by show 0 < (a.args.drop 1).length;rw [J9a];omega,hD⟩
 ·have e:ngE a=a:=by unfold ngE;rw [if_neg (by rw [hn];decide),if_neg h]
  rw [e] at r hl ⊢;exact Jf1 hX r hl b (fun _=>hs)<|fun k=>⟨by have:=hg.a2 k;omega,hI⟩
set_option maxHeartbeats 8000000 in
theorem x_wrE{X:Nat→Prop}{w:World}(hX:XB X w){v0:Value}{a:GExpr}(r0:RV Jf X w v0 a)(hg:Gd a)(hW:a.op=10→∀ i,i < a.args.length→XW (Ar a i))(hG:a.op=10→∀ i,i < a.args.length→XF (Ar a i))(hN:¬ a.op=10→XF a):CRt 41 #[v0] w fun v w'=>v=(str (wrE a)):=by
 obtain⟨a1,P,Q,R,S,U,E,F,rfl,e⟩:=J8e r0;have C:=J4z hX;have hal:=hg.al;refine Cgo (args:=[(ea a a1 P Q R S U E F)]) Tryz.func41 rfl rfl rfl (Rg<|Ol<|J5a C rfl ?_);intro aw dw dx dy cf bK bL B;replace e:=e.sp bL;refine Oa (Nl<|Rg<|Ol<|Uo (vs:=(ec a a1 P Q R S U E F)) B ag31<|Ol<|J5f (T:=Jf) (css:=[(ec a a1 P Q R S U E F)]) (l:=[a]) bK sl29 io31 (by decide) (by decide) rfl (by kernel_rfl) ⟨(Zm a e.lo e.hi e.name e.n e.num e.den e.args),trivial⟩ ?_);intro bM dz ax ay bN;replace e:=e.sp ay;replace B:=B.spn ay;refine Ua<|J40<|J55 (fun f v=>∃ (x y:Nat→Prop) (l:List GExpr) (la:Option Addr) (lc:Nat),Cx X w x y v∧f 2=(str [])∧f 3=(.slice la l.length lc)∧ExprParts x v a a1 P Q R S U E F∧RS Jf x v (.slice la l.length lc) l∧Own w y v aw (ec a a1 P Q R S U E F) 31∧[]++sumX 0 (l.drop 0)=wrE a∧(∀ i,i < l.length→Gd (l.getD i default)∧XF (l.getD i default)∧((l.getD i default).op=10→XW (l.getD i default)))∧l.length≤1000000000) ?_ ?_
 ·refine Rg<|Ol<|J4o Js rfl<|Ol<|J4t B pl3 rfl rfl<|Ol<|J42 rfl rfl (fun o=>?_)<|fun o=>?_
  ·refine Nl<|Uk<|Ol<|J4o J1 rfl<|Ol<|J4t B pl29 rfl rfl<|Ua<|⟨_,_,a.args,E,F,ax,rfl,rfl,e,e.args,B,(Jkm o),(fun i hi=>⟨hg.arg hi,hG o i hi,fun _=>hW o i hi⟩),(by omega)⟩
  refine Nl<|Uc<|⟨_,_,[a],(some ⟨bM,0,none⟩),1,ax,rfl,rfl,e,bN,B,(su_w o),(Jxg hg o<|hN o),(by rw [J82];decide)⟩
 rintro dA dB ⟨dC,dD,l,la,lc,bO,az,aA,e,d,bP,bQ,hGl,hll⟩;obtain⟨dE,rfl⟩:=rebK (aC az<|aC aA aN);clear az aA;refine Rg (Ua<|Rh<|Ua<|W.block<|J5e (fun μ f v=>∃ (x y:Nat→Prop) (i:Nat) (out:List UInt8),Cx X w x y v∧f 2=(str [])∧f 3=(.slice la l.length lc)∧f 5=(.int .i64 ((i:Nat):Int))∧f 4=(str out)∧ExprParts x v a a1 P Q R S U E F∧RS Jf x v (.slice la l.length lc) l∧Own w y v aw (ec a a1 P Q R S U E F) 31∧i≤l.length∧out++sumX i (l.drop i)=wrE a∧(i=0→out=[])∧μ=(l.length - i)) _ ⟨_,_,0,[],bO,rfl,rfl,rfl,rfl,e,d,bP,(J9h _),bQ,(fun _=>rfl),rfl⟩ ?_);rintro dF dG dH ⟨dI,dJ,i,out,ai,aB,aD,aE,aF,e,d,g,hi,hM,ho,b6⟩;obtain⟨dK,rfl⟩:=rebK (aC aB<|aC aD<|aC aE<|aC aF aN);clear aB aD aE aF;refine Rh<|Om<|Ub<|St.len sl29 rfl<|Ol<|J5c rfl rfl (fun aI=>?_)<|fun aI=>?_
 ·refine Nl (Ud<|J4v<|J40<|W.block<|J40 ?_);have hGi:=hGl i (by omega);have hol:=Q5 hM hg.wl;have hsl:=hGi.1.sl;have hwl:=hGi.1.wl;refine J4u (Om<|Ub<|J49 (j:=i) (u:=(l.getD i default)) d sl29 io31 rfl rfl rfl (Jc (by omega)) ?_);intro dL dM cg aG;obtain⟨bR,bS,bT,bU,bV,bW,bX,bY,rfl,bZ⟩:=Jd aG.rd;refine Ol (J5l (cs:=(ec (l.getD i default) bR bS bT bU bV bW bX bY)) ag31 rfl rfl aG.cell<|Ol<|J4p ai cb75 rfl rfl (x_ngE ai.bd (Mx (l.getD i default) bZ) hGi.1) ?_);intro dN dO b0 aj b1;replace e:=e.sp aj;replace d:=d.sp aj;replace g:=g.spn aj;obtain⟨dP,dQ,rfl,b2,rfl⟩:=b1;obtain⟨G,H,I,J,K,L,M,N,rfl,D⟩:=J8e b2;refine Om (Ol<|St.extract rfl rfl<|Ol<|St.extract rfl rfl<|Ol<|J41 b0 io31 rfl ?_);intro dR dS dT dU aJ b3 af b4;have b5:=aJ _ g.blk.lt;refine On (Us (cs':=(ec (ngE<|l.getD i default) G H I J K L M N)) b3 b4 io31 ?_);intro dV k ag ah;replace e:=(e.sp af).sp ag;replace d:=(d.sp af).sp ag;replace D:=(D.sp af).sp ag;replace g:=(g.spn af).spo ag b5;refine Ol<|J5h<|J6k ⟨_,rfl,fun m=>?_,fun m=>?_⟩
  ·refine Nl<|Rh<|Ub<|J5o rfl rfl (fun aK=>?_)<|fun aK=>?_
   ·refine Om (OgD<|J4x<|OT<|Nl<|Uk<|Ub<|J43 rfl rfl (by (try simp only [J8z,J80,J81]);omega)<|Ua<|Rg<|Om<|Ub<|J49 (j:=i) (u:=(l.getD i default)) d sl29 io31 rfl rfl rfl (Jc (by omega)) ?_);intro dW dX ch aH;obtain⟨dY,ci,cj,ck,cl,cm,cn,co,rfl,cp⟩:=Jd aH.rd;refine Ol<|J4o Js rfl<|Ol<|J44 pl3 rfl (aH.cell 0 _ rfl)<|Ol<|J42 rfl rfl (fun p=>?_)<|fun p=>?_
    ·refine Nl (Uk<|Ub<|J43 rfl rfl (by (try simp only [J8z,J80,J81]);omega)<|Om<|Ub<|J49 (j:=i) (u:=(l.getD i default)) d sl29 io31 rfl rfl rfl (Jc (by omega)) ?_);intro cq cr b7 ak;obtain⟨aL,aM,aO,aP,aQ,aR,aS,aT,rfl,aU⟩:=Jd ak.rd;refine Ol (J5l (cs:=(ec (l.getD i default) aL aM aO aP aQ aR aS aT)) ag31 rfl rfl ak.cell<|Ol<|J4p k cb41 rfl rfl (hGi.2.2 p k.bd<|Mx (l.getD i default) aU) ?_);intro ct cu aV V aW;replace e:=e.sp V;replace d:=d.sp V;replace g:=g.spn V;subst aW;refine Ol (J43 rfl rfl (by (try simp only [J8z,J80,J81]);omega)<|Ol<|J43 rfl rfl (by (try simp only [J8z,J80,J81]);omega)<|Ua<|J4u<|Ub<|St.add rfl rfl (Ja (a:=i) (b:=1) (by omega))<|Oa<|Nl ?_);refine⟨_,(by omega),_,_,(i+1),((((out++[32,45,32])++[40])++(wrE<|l.getD i default))++[41]),aV,rfl,rfl,rfl,rfl,e,d,g,(by omega),(by rw [Jps p];exact(Jou hM (by omega) (by omega) m)),(fun h=>absurd h<|Nat.succ_ne_zero _),rfl⟩
    refine Nl (Ue<|J4u<|Ub<|Uo (vs:=(ec (ngE<|l.getD i default) G H I J K L M N)) ah ag31<|Ol<|J4p k cb76 rfl rfl (hGi.2.1 p k.bd<|Mx (ngE<|l.getD i default) D) ?_);intro cv cw aX Y aY;replace e:=e.sp Y;replace d:=d.sp Y;replace g:=g.spn Y;subst aY;refine Ol<|J43 rfl rfl (by (try simp only [J8z,J80,J81]);omega)<|Ua<|J4u<|Ub<|St.add rfl rfl (Ja (a:=i) (b:=1) (by omega))<|Ua<|⟨_,(by omega),_,_,(i+1),((out++[32,45,32])++(sgE<|l.getD i default)),aX,rfl,rfl,rfl,rfl,e,d,g,(by omega),(Jou hM (by omega) (by omega) m),(fun h=>absurd h<|Nat.succ_ne_zero _),rfl⟩
   refine Om (Oz<|OF<|Nl<|Ug<|Ub<|J6a (t:=false) rfl rfl (J83 (by omega))<|Nl<|Ug<|Om<|Nl<|Uk<|Ua<|Rg<|Om<|Om ?_);refine Ol (J49 (j:=i) (u:=(l.getD i default)) d sl29 io31 rfl rfl rfl (Jc (by omega)) ?_);intro cx cy b8 am;obtain⟨cz,cE,cF,cG,cH,cI,cJ,cK,rfl,cL⟩:=Jd am.rd;refine Ol<|J4o Js rfl<|Ol<|J44 pl3 rfl (am.cell 0 _ rfl)<|Ol<|J42 rfl rfl (fun r=>?_)<|fun r=>?_
   ·refine Nl (Uk<|Ub<|J43 rfl rfl (by (try simp only [J8z,J80,J81]);omega)<|Om<|Ub<|J49 (j:=i) (u:=(l.getD i default)) d sl29 io31 rfl rfl rfl (Jc (by omega)) ?_);intro cM cN b9 an;obtain⟨aZ,a0,a4,a6,a8,a9,ba,bb,rfl,bc⟩:=Jd an.rd;refine Ol (J5l (cs:=(ec (l.getD i default) aZ a0 a4 a6 a8 a9 ba bb)) ag31 rfl rfl an.cell<|Ol<|J4p k cb41 rfl rfl (hGi.2.2 r k.bd<|Mx (l.getD i default) bc) ?_);intro cO cP be Z bf;replace e:=e.sp Z;replace d:=d.sp Z;replace g:=g.spn Z;subst bf;refine Ol (J43 rfl rfl (by (try simp only [J8z,J80,J81]);omega)<|Ol<|J43 rfl rfl (by (try simp only [J8z,J80,J81]);omega)<|Ua<|J4u<|Ub<|St.add rfl rfl (Ja (a:=i) (b:=1) (by omega))<|Oa<|Nl ?_);refine⟨_,(by omega),_,_,(i+1),((([45]++[40])++(wrE<|l.getD i default))++[41]),be,rfl,rfl,rfl,rfl,e,d,g,(by omega),(by rw [Jps r];exact(Jp3 hM (by omega) (by omega) ho m)),(fun h=>absurd h<|Nat.succ_ne_zero _),rfl⟩
   refine Nl (Ue<|J4u<|Ub<|Uo (vs:=(ec (ngE<|l.getD i default) G H I J K L M N)) ah ag31<|Ol<|J4p k cb76 rfl rfl (hGi.2.1 r k.bd<|Mx (ngE<|l.getD i default) D) ?_);intro cQ cR bg aa bh;replace e:=e.sp aa;replace d:=d.sp aa;replace g:=g.spn aa;subst bh;refine Ol<|J43 rfl rfl (by (try simp only [J8z,J80,J81]);omega)<|Ua<|J4u<|Ub<|St.add rfl rfl (Ja (a:=i) (b:=1) (by omega))<|Ua<|⟨_,(by omega),_,_,(i+1),([45]++(sgE<|l.getD i default)),bg,rfl,rfl,rfl,rfl,e,d,g,(by omega),(Jp3 hM (by omega) (by omega) ho m),(fun h=>absurd h<|Nat.succ_ne_zero _),rfl⟩
  refine Nl<|Rh<|Ub<|J5o rfl rfl (fun av=>?_)<|fun av=>?_
  ·refine Om (OgD<|J4x<|OT<|Nl<|Ug<|Ub<|J6a (t:=true) rfl rfl (J84 (by omega))<|Nl<|Uk<|Ub<|J43 rfl rfl (by (try simp only [J8z,J80,J81]);omega)<|Oa ?_);refine Nl (Rg<|Om<|Ub<|J49 (j:=i) (u:=(l.getD i default)) d sl29 io31 rfl rfl rfl (Jc (by omega)) ?_);intro cS cT ca ao;obtain⟨cU,cV,cW,cX,cY,cZ,c0,c1,rfl,c3⟩:=Jd ao.rd;refine Ol<|J4o Js rfl<|Ol<|J44 pl3 rfl (ao.cell 0 _ rfl)<|Ol<|J42 rfl rfl (fun s=>?_)<|fun s=>?_
   ·refine Nl (Uk<|Ub<|J43 rfl rfl (by (try simp only [J8z,J80,J81]);omega)<|Om<|Ub<|J49 (j:=i) (u:=(l.getD i default)) d sl29 io31 rfl rfl rfl (Jc (by omega)) ?_);intro c5 c7 cb aq;obtain⟨bi,bj,bk,bl,bm,bn,bo,bp,rfl,bq⟩:=Jd aq.rd;refine Ol (J5l (cs:=(ec (l.getD i default) bi bj bk bl bm bn bo bp)) ag31 rfl rfl aq.cell<|Ol<|J4p k cb41 rfl rfl (hGi.2.2 s k.bd<|Mx (l.getD i default) bq) ?_);intro c9 da br ab bs;replace e:=e.sp ab;replace d:=d.sp ab;replace g:=g.spn ab;subst bs;refine Ol (J43 rfl rfl (by (try simp only [J8z,J80,J81]);omega)<|Ol<|J43 rfl rfl (by (try simp only [J8z,J80,J81]);omega)<|Ua<|J4u<|Ub<|St.add rfl rfl (Ja (a:=i) (b:=1) (by omega))<|Oa<|Nl ?_);refine⟨_,(by omega),_,_,(i+1),((((out++[32,43,32])++[40])++(wrE<|l.getD i default))++[41]),br,rfl,rfl,rfl,rfl,e,d,g,(by omega),(by rw [Jps s];exact(Jpm hM (by omega) (by omega) m)),(fun h=>absurd h<|Nat.succ_ne_zero _),rfl⟩
   refine Nl (Ue<|J4u<|Ub<|Uo (vs:=(ec (ngE<|l.getD i default) G H I J K L M N)) ah ag31<|Ol<|J4p k cb76 rfl rfl (hGi.2.1 s k.bd<|Mx (ngE<|l.getD i default) D) ?_);intro dc dd bt ac bu;replace e:=e.sp ac;replace d:=d.sp ac;replace g:=g.spn ac;subst bu;refine Ol<|J43 rfl rfl (by (try simp only [J8z,J80,J81]);omega)<|Ua<|J4u<|Ub<|St.add rfl rfl (Ja (a:=i) (b:=1) (by omega))<|Ua<|⟨_,(by omega),_,_,(i+1),((out++[32,43,32])++(sgE<|l.getD i default)),bt,rfl,rfl,rfl,rfl,e,d,g,(by omega),(Jpm hM (by omega) (by omega) m),(fun h=>absurd h<|Nat.succ_ne_zero _),rfl⟩
  refine Om (Oz<|OF<|Nl<|Ug<|Ub<|J6a (t:=false) rfl rfl (J83 (by omega))<|Nl<|Ug<|Om<|Nl<|Uc<|Rg<|Om<|Ub<|J49 (j:=i) (u:=(l.getD i default)) d sl29 io31 rfl rfl rfl (Jc (by omega)) ?_);intro de df cc ar;obtain⟨dg,dh,di,dj,dk,dl,dm,dn,rfl,dp⟩:=Jd ar.rd;refine Ol<|J4o Js rfl<|Ol<|J44 pl3 rfl (ar.cell 0 _ rfl)<|Ol<|J42 rfl rfl (fun A=>?_)<|fun A=>?_
  ·refine Nl (Uk<|Ub<|J43 rfl rfl (by (try simp only [J8z,J80,J81]);omega)<|Om<|Ub<|J49 (j:=i) (u:=(l.getD i default)) d sl29 io31 rfl rfl rfl (Jc (by omega)) ?_);intro dq dr cd au;obtain⟨bv,bw,bx,bz,bA,bB,bC,bD,rfl,bE⟩:=Jd au.rd;refine Ol (J5l (cs:=(ec (l.getD i default) bv bw bx bz bA bB bC bD)) ag31 rfl rfl au.cell<|Ol<|J4p k cb41 rfl rfl (hGi.2.2 A k.bd<|Mx (l.getD i default) bE) ?_);intro ds dt bF ad bG;replace e:=e.sp ad;replace d:=d.sp ad;replace g:=g.spn ad;subst bG;refine Ol (J43 rfl rfl (by (try simp only [J8z,J80,J81]);omega)<|Ol<|J43 rfl rfl (by (try simp only [J8z,J80,J81]);omega)<|Ua<|J4u<|Ub<|St.add rfl rfl (Ja (a:=i) (b:=1) (by omega))<|Oa<|Nl ?_);refine⟨_,(by omega),_,_,(i+1),(((out++[40])++(wrE<|l.getD i default))++[41]),bF,rfl,rfl,rfl,rfl,e,d,g,(by omega),(by rw [Jps A];exact(Jpa hM (by omega) (by omega) m)),(fun h=>absurd h<|Nat.succ_ne_zero _),rfl⟩
  refine Nl (Ue<|J4u<|Ub<|Uo (vs:=(ec (ngE<|l.getD i default) G H I J K L M N)) ah ag31<|Ol<|J4p k cb76 rfl rfl (hGi.2.1 A k.bd<|Mx (ngE<|l.getD i default) D) ?_);intro du dv bH ae bI;replace e:=e.sp ae;replace d:=d.sp ae;replace g:=g.spn ae;subst bI;refine Ol<|J43 rfl rfl (by (try simp only [J8z,J80,J81]);omega)<|Ua<|J4u<|Ub<|St.add rfl rfl (Ja (a:=i) (b:=1) (by omega))<|Ua<|⟨_,(by omega),_,_,(i+1),(out++(sgE<|l.getD i default)),bH,rfl,rfl,rfl,rfl,e,d,g,(by omega),(Jpa hM (by omega) (by omega) m),(fun h=>absurd h<|Nat.succ_ne_zero _),rfl⟩
 exact Nl<|Ue<|J5i<|Rg<|Om<|Ua<|J4y<|Wq rfl rfl ai<|J87 (str)<|(Jjm hM (by omega))
theorem x_all:∀ a:GExpr,Gd a→XW a∧XS a∧XF a:=va fun a ih=>by
 intro hg;have hW:∀ i,i < a.args.length→XW (Ar a i):=fun i hi=>(ih i hi<|hg.arg hi).1;have hS:∀ i,i < a.args.length→XS (Ar a i):=fun i hi=>(ih i hi<|hg.arg hi).2.1;have hF:∀ i,i < a.args.length→XF (Ar a i):=fun i hi=>(ih i hi<|hg.arg hi).2.2;have xs:XS a:=fun b d X w hX v r=>Jq7 hX r (.inr hg) (J86 hg.m1 (by decide)) (J86 hg.m2 (by decide)) hW hS b d;have xf:XF a:=xf_of hg hW hS xs;exact⟨fun {X w} hX {v} r=>x_wrE hX r hg (fun _=>hW) (fun _=>hF)<|fun _=>xf,xs,xf⟩
theorem Jxb{a:GExpr}(h:Zs a=0)(hp:Yd a=true)(hs:smE a):XW (lowE a):=fun {X w} hX {v} r=>
 (x_all (lowE a)<|Jbm (Jle h) (Jr2 a hp hs) ⟨_,_,_,r⟩).1 hX r
theorem Jxy{X:Nat→Prop}{w:World}(hX:XB X w){h:Value}{a:GExpr}(B:RV Jf X w h a)(pa:Yd a=true)(hc:cntE a≤80):CRt 16 #[h] w fun v w'=>(∃ h D,v= .tuple #[h,D]∧(h=(str ((prE a).1)))∧(D=(.int .i64 ((prE a).2)))):=by
 obtain⟨a1,o,p,r,s,x,y,A,rfl,g⟩:=J8e B;have C:=J4z hX;have hok:=q9 pa;have hsm:smE a:=⟨_,_,_,B⟩;refine Cgo (args:=[(ea a a1 o p r s x y A)]) Tryz.func16 rfl rfl rfl (Rg<|Ol<|J5a C rfl ?_);intro K L M N J j E e;replace g:=g.sp E;refine Oa (Ua<|Rh<|Ol<|Uo (vs:=(ec a a1 o p r s x y A)) e ag31<|Ol<|J4p j cb21 rfl rfl (Jwa j.bd (Mx a g) (by omega) hok) ?_);intro P Q i k F;replace g:=g.sp k;replace e:=e.spn k;subst F;refine Ua<|Rg<|Ub<|J5w rfl rfl (fun d=>?_)<|fun d=>?_
 ·refine Nl (Uf<|Om<|Oa<|Ua<|J4y<|J9 rfl (J8d rfl) (J8d rfl)<|J4w ?_ i.below);refine⟨_,_,rfl,?_,?_⟩
  ·exact J87 (str)<|(J87 Prod.fst<|Jpc d)
  ·exact J87 (Value.int _)<|(J87 Prod.snd<|Jpc d)
 refine Nl (Uc<|Rg<|Ol<|Uo (vs:=(ec a a1 o p r s x y A)) e ag31<|Ol<|J4p i cb17 rfl rfl (Jyj i.bd (Mx a g) pa (by omega)) ?_);intro R S l T G;obtain⟨U,V,Y,Z,aa,ab,ac,ad,rfl,H⟩:=J8e G;refine Ol (J4p l cb41 rfl rfl (Jxb (by omega) pa hsm l.bd<|Mx (lowE a) H) ?_);intro ae af m ag I;subst I;refine Ua<|Rh<|Ub<|J5x un9 rfl<|Ol<|J5o rfl rfl (fun b=>?_)<|fun b=>?_
 ·refine Nl (Uf<|Oa<|Ua<|J4y<|J9 rfl (J8d rfl) (J8d rfl)<|J4w ?_ m.below);refine⟨_,_,rfl,?_,?_⟩
  ·exact J87 (str)<|(J87 Prod.fst<|J1d (by omega) b)
  ·exact J87 (Value.int _)<|(J87 Prod.snd<|J1d (by omega) b)
 refine Nl (Uc<|Rg<|Om<|Oa<|Ua<|J4y<|J9 rfl (J8d rfl) (J8d rfl)<|J4w ?_ m.below);refine⟨_,_,rfl,?_,?_⟩
 ·exact J87 (str)<|(J87 Prod.fst<|J06 (by omega) b)
 ·exact J87 (Value.int _)<|(J87 Prod.snd<|J06 (by omega) b)
end Go.Wf
namespace Go.Wf
open Go Go.Lib
theorem Jnw{a:GExpr}(h:Zs a=0)(hg:Gd a):zd (wrE a)= .ok (lowE a) 0:=by
 have hlv:lvlE a≤12:=by
  unfold Zs at h
  split at h
  ·rename_i hc;exact hc.2
  ·simp at h
 have h0:Yt (wrE a) 0 (wrE a++[]):=by
  have h1:Yt (wrE a) 0 (db (wrE a)):=Yt.of (List.drop_zero ..);rw [Y8 (by have:=Jfc hg [];rwa [J92] at this)] at h1;rw [J92];exact h1
 obtain⟨q,hq,hy⟩:=Jlv (wrE a) ((wrE a).length+1) a hg (Nat.le_succ_of_le (Jm5 a hg).2.2) 0 0 [] (by omega) h0 (.inl rfl);have h1:(wrE a).length≤spM (wrE a) q:=List.drop_eq_nil_iff.1 hy;unfold zd;rw [hq,Rr.th_ok,if_neg (by omega)]
section
variable {a:GExpr} (h:(prE a).2=0) (hp:Yd a=true) (hs:smE a)
include h
theorem J0t:(prE a).1.length≤4000:=by obtain⟨_,e,hl⟩:=Jv2 h;rw [e];exact hl
include hp hs
theorem Jlu:zd (prE a).1= .ok (lowE a) 0:=by
 obtain⟨hc,e,hl⟩:=Jv2 h;rw [e];exact Jnw hc (Jbm hc (q9 hp) hs)
theorem Jw7:RdF (prE a).1:=by
 unfold RdF;rw [Jlu h hp hs];exact J9h _
theorem J0q:okE (rdT (prE a).1).1:=by
 unfold rdT;rw [Jlu h hp hs];exact Jr2 a hp hs
theorem pr_pm:Yz (prE a).1=(lowE a,0,0):=Joo h (q9 hp) hs
end
end Go.Wf
