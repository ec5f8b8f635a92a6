/- Part 7 of the texts for the claim. -/
import Derived.Test.YtjiojpmoleilgaaGreatDoorParses6
set_option linter.unusedVariables false
set_option linter.unusedSimpArgs false
set_option maxRecDepth 100000
set_option maxHeartbeats 4000000
noncomputable section
namespace Go.Wf
open Go Go.Proofs Go.RowKit
theorem Jpw{a:GExpr}(h:SgS a∧(sgE a).length≤1000):∀ i,i < [a].length→SgS ([a].getD i default)∧(sgE ([a].getD i default)).length≤1000:=by
 intro i hi
 have:i=0:=by simp at hi;exact hi
 subst this;exact h
theorem Jvp{X:Nat→Prop}{w:World}(hX:XB X w){v0:Value}{a:GExpr}(r0:RV Jg X w v0 a)(hlw:(wrE a).length≤1000)(hal:a.args.length≤100)(hG:a.op=10→∀ i,i < a.args.length→SgS (a.args.getD i default)∧(sgE (a.args.getD i default)).length≤1000)(hN:¬ a.op=10→SgS a∧(sgE a).length≤1000):CRt 39 #[v0] w fun v w'=>v=(str (wrE a)):=by
 obtain⟨z,A,B,D,E,F,r,s,rfl,d⟩:=J37 r0;have C:=J07 hX;refine Cgo (args:=[(ea a z A B D E F r s)]) Tryz.func39 rfl rfl rfl (Rg<|Ol<|J1e C rfl ?_);intro Y aJ aK aL aH aq ar m;replace d:=d.sp ar;refine Oa (Nl<|Rg<|Ol<|J0z (vs:=(ec a z A B D E F r s)) m ag31 rfl rfl rfl<|Ol<|J1k (T:=Jg) (css:=[(ec a z A B D E F r s)]) (l:=[a]) aq sl29 io31 (by decide) (by decide) rfl (by kernel_rfl) ⟨(Z3 a d.lo d.hi d.name d.n d.num d.den d.args),trivial⟩ ?_);intro au aM Z aa av;replace d:=d.sp aa;replace m:=m.spn aa;refine Oa<|Nl<|J06<|J2b (fun f v=>∃ (x y:Nat→Prop) (l:List GExpr) (la:Option Addr) (lc:Nat),Cx X w x y v∧f 2=(str [])∧f 3=(.slice la l.length lc)∧ExprParts x v a z A B D E F r s∧RS Jg x v (.slice la l.length lc) l∧Own w y v Y (ec a z A B D E F r s) 31∧[]++sumX 0 (l.drop 0)=wrE a∧(∀ i,i < l.length→SgS (l.getD i default)∧(sgE<|l.getD i default).length≤1000)∧l.length≤100) ?_ ?_
 ·refine Rg<|Ol<|J0s Zk rfl<|Ol<|J0x m pl3 rfl rfl<|Ol<|J1a rfl rfl (fun o=>?_)<|fun o=>?_
  ·refine Nl<|J0w rfl<|J0y<|Ol<|J0s Ys rfl<|Ol<|J0x m pl29 rfl rfl<|Oa<|Nl<|⟨_,_,a.args,r,s,Z,rfl,rfl,d,d.args,m,(Juz o),(hG o),(by omega)⟩
  refine Nl<|J0v rfl<|J01<|⟨_,_,[a],(some ⟨au,0,none⟩),1,Z,rfl,rfl,d,av,m,(su_w o),(Jpw<|hN o),(by rw [List.length_singleton];decide)⟩
 rintro aO aP ⟨aQ,aR,l,la,lc,aw,ab,ac,d,e,ax,ay,hGl,hll⟩;obtain⟨aS,rfl⟩:=rebK (aC ab<|aC ac aN);clear ab ac;refine Rg (Oa<|Nl<|Rh<|Om<|Ol<|St.len sl29 rfl<|Om<|Nl<|W.block<|J1g (fun μ f v=>∃ (x y:Nat→Prop) (i:Nat) (out:List UInt8),Cx X w x y v∧f 2=(str [])∧f 16=(.slice la l.length lc)∧f 17=(.int .i64 ((l.length:Nat):Int))∧f 18=(.int .i64 ((i:Nat):Int))∧f 4=(str out)∧ExprParts x v a z A B D E F r s∧RS Jg x v (.slice la l.length lc) l∧Own w y v Y (ec a z A B D E F r s) 31∧i≤l.length∧out++sumX i (l.drop i)=wrE a∧(i=0→out=[])∧μ=(l.length - i)) _ ⟨_,_,0,[],aw,rfl,rfl,rfl,rfl,rfl,d,e,ax,(Nat.zero_le _),ay,(fun _=>rfl),rfl⟩ ?_);rintro aT aU aV ⟨aW,aX,i,out,ad,ae,af,ag,ah,ai,d,e,g,hi,hM,ho,aF⟩;obtain⟨aY,rfl⟩:=rebK (aC ae<|aC af<|aC ag<|aC ah<|aC ai aN);clear ae af ag ah ai;refine Rg<|Ol<|J1h rfl rfl (fun am=>?_)<|fun am=>?_
 ·refine Nl (J06<|J0w rfl<|J01<|J06<|W.block<|Rg<|Om<|Ol<|J1l (j:=i) (u:=(l.getD i default)) e sl29 io31 rfl rfl rfl (Jf (by omega)) ?_);intro aZ a0 aI aj;obtain⟨L,M,N,P,Q,R,S,U,rfl,k⟩:=Jv aj.rd;refine Ol (J14 (cs:=(ec (l.getD i default) L M N P Q R S U)) ag31 rfl rfl aj.cell<|Ol<|J05 ad io31 rfl ?_);intro a2 a4 a6 a8 an az I aA;have aB:=an _ g.blk.lt;replace d:=d.sp I;replace e:=e.sp I;replace g:=g.spn I;refine Oa (On<|J0u (cs':=(ec (l.getD i default) L M N P Q R S U)) az aA io31 rfl rfl rfl rfl rfl rfl ?_);intro a9 ak J aD;replace k:=(k.sp I).sp J;refine Nl (Rg<|Ol<|J0z (vs:=(ec (l.getD i default) L M N P Q R S U)) aD ag31 rfl rfl rfl<|Ol<|J0t ak cb73 rfl rfl ((hGl i (by omega)).1 ak.bd (Ju (l.getD i default) k.lo k.hi k.name k.n k.num k.den k.args)) ?_);intro ba bb K V aE;replace d:=(d.sp J).sp V;replace e:=(e.sp J).sp V;replace g:=(g.spo J aB).spn V;obtain⟨bc,be,rfl,rfl,rfl⟩:=aE;refine Om<|Ol<|St.extract rfl rfl<|Ol<|St.extract rfl rfl<|Oa<|Oa<|Nl<|J06<|W.block<|Rg<|Om<|Ol<|J1a rfl rfl (fun p=>?_)<|fun p=>?_
  ·refine Om<|OgD<|J1n<|J00 ⟨_,rfl,fun G=>?_,fun G=>?_⟩
   ·refine OT (Oa<|Nl<|J0w rfl<|J0y<|Oa<|Nl<|J0y<|Om<|Om<|Ol<|J2o rfl rfl (by have:=Jhm hM hlw;have:=(hGl i (by omega)).2;(try simp only [List.length_append,List.length_cons,List.length_nil]);omega)<|Oa<|Nl<|J0y<|Ol<|St.add rfl rfl (Jc (a:=i) (b:=1) (by omega)) ?_);refine Om<|Nl<|⟨_,(by omega),_,_,(i+1),([45]++(sgE<|l.getD i default)),K,rfl,rfl,rfl,rfl,rfl,d,e,g,(by omega),(su_0m hM (by omega) p ho G),(fun h=>absurd h<|Nat.succ_ne_zero _),rfl⟩
   refine OT (Oa<|Nl<|J0v rfl<|Rg<|Om<|Ol<|J2r (t:=false) rfl rfl (decide_eq_false (by omega))<|Om<|Oz<|OF<|Oa<|Nl<|J0v rfl<|Rg<|Om<|Ol<|J2r (t:=false) rfl rfl (decide_eq_false (by omega)) ?_);refine Oa (Nl<|J0v rfl<|J01<|J0y<|Om<|Om<|Ol<|J2o rfl rfl (by have:=Jhm hM hlw;have:=(hGl i (by omega)).2;(try simp only [List.length_append,List.length_cons,List.length_nil]);omega)<|Oa<|Nl<|J0y<|Ol<|St.add rfl rfl (Jc (a:=i) (b:=1) (by omega))<|Om ?_);refine Nl<|⟨_,(by omega),_,_,(i+1),(out++(sgE<|l.getD i default)),K,rfl,rfl,rfl,rfl,rfl,d,e,g,(by omega),(su_0p hM (by omega) p G),(fun h=>absurd h<|Nat.succ_ne_zero _),rfl⟩
  refine Om<|Oz<|OF<|Oa<|Nl<|J0v rfl<|Rg<|Om<|Ol<|J2r (t:=true) rfl rfl (decide_eq_true (by omega))<|Om<|OgD<|J1n<|J00 ⟨_,rfl,fun H=>?_,fun H=>?_⟩
  ·refine OT (Oa<|Nl<|J0w rfl<|J0y<|Om<|Ol<|J2o rfl rfl (by have:=Jhm hM hlw;have:=(hGl i (by omega)).2;(try simp only [List.length_append,List.length_cons,List.length_nil]);omega)<|Oa<|Nl<|J0y<|Om<|Om<|Ol<|J2o rfl rfl (by have:=Jhm hM hlw;have:=(hGl i (by omega)).2;(try simp only [List.length_append,List.length_cons,List.length_nil]);omega) ?_);refine Oa<|Nl<|J0y<|Ol<|St.add rfl rfl (Jc (a:=i) (b:=1) (by omega))<|Om<|Nl<|⟨_,(by omega),_,_,(i+1),((out++[32,45,32])++(sgE<|l.getD i default)),K,rfl,rfl,rfl,rfl,rfl,d,e,g,(by omega),(su_im hM (by omega) p H),(fun h=>absurd h<|Nat.succ_ne_zero _),rfl⟩
  refine OT (Oa<|Nl<|J0v rfl<|Rg<|Om<|Ol<|J2r (t:=true) rfl rfl (decide_eq_true (by omega))<|Oa<|Nl<|J0w rfl<|J0y<|Om<|Ol<|J2o rfl rfl (by have:=Jhm hM hlw;have:=(hGl i (by omega)).2;(try simp only [List.length_append,List.length_cons,List.length_nil]);omega) ?_);refine Oa (Nl<|J0y<|Om<|Om<|Ol<|J2o rfl rfl (by have:=Jhm hM hlw;have:=(hGl i (by omega)).2;(try simp only [List.length_append,List.length_cons,List.length_nil]);omega)<|Oa<|Nl<|J0y<|Ol<|St.add rfl rfl (Jc (a:=i) (b:=1) (by omega))<|Om<|Nl ?_);refine⟨_,(by omega),_,_,(i+1),((out++[32,43,32])++(sgE<|l.getD i default)),K,rfl,rfl,rfl,rfl,rfl,d,e,g,(by omega),(su_ip hM (by omega) p H),(fun h=>absurd h<|Nat.succ_ne_zero _),rfl⟩
 exact Nl<|J06<|J0v rfl<|J1j<|Rg<|Om<|Oa<|Nl<|J04<|Wq rfl rfl ad<|congrArg (str)<|(Jxl hM (by omega))
theorem c_PrS{X:Nat→Prop}{w:World}(hX:XB X w){e:Value}{a:GExpr}(D:RV Jg X w e a)(hok:okE a)(hck:K3 a=0)(hW:WrS a)(hlw:(wrE a).length≤1000):CRt 14 #[e] w fun v w'=>(∃ e x,v= .tuple #[e,x]∧(e=(str (wrE a)))∧(x=(.int .i64 0))):=by
 obtain⟨j,k,l,m,o,p,r,s,rfl,b⟩:=J37 D;have C:=J07 hX;refine Cgo (args:=[(ea a j k l m o p r s)]) Tryz.func14 rfl rfl rfl (Rg<|Ol<|J1e C rfl ?_);intro F G H I E g y d;replace b:=b.sp y;refine Oa (Oa<|Nl<|Rh<|Ol<|J0z (vs:=(ec a j k l m o p r s)) d ag31 rfl rfl rfl<|Ol<|J0t g cb20 rfl rfl (Jjf g.bd (Ju a b.lo b.hi b.name b.n b.num b.den b.args) hok) ?_);intro J K h i z;replace b:=b.sp i;replace d:=d.spn i;subst z;refine Oa (Nl<|Rg<|Om<|Ol<|J17 (t:=false) rfl rfl (by rw [decide_eq_true hck];rfl)<|Nl<|J0v rfl<|J01<|Rg<|Ol<|J0z (vs:=(ec a j k l m o p r s)) d ag31 rfl rfl rfl<|Ol<|J0t h cb39 rfl rfl (hW h.bd<|Ju a b.lo b.hi b.name b.n b.num b.den b.args) ?_);intro L M A N B;subst B;refine Oa (Nl<|Rh<|Om<|Ol<|J1v un9 rfl<|Ol<|J2r (t:=false) rfl rfl (decide_eq_false (by omega))<|Nl<|J0v rfl<|J01<|Rg<|Om<|Oa<|Oa<|Nl<|J04<|Zh rfl (J35 rfl) (J35 rfl)<|J02 ?_ A.below);refine⟨_,_,rfl,?_,?_⟩
 ·skip
  rfl
 ·skip
  rfl
theorem itl{n:Int}(a: -100 < n)(b:n < 100):(Lib.itoa n).length≤3:=by
 have:=Jrx n 1 (by omega)
 omega
section
variable {k n:Int} (hk:0≤k∧k < 100) (hn:0≤n∧n < 100)
theorem plE_E:plE (eOp 2 [k] [])=[69]++Lib.itoa k:=(pl_2 rfl).symm
theorem Jr9:sgE (eOp 2 [k] [])=[69]++Lib.itoa k∧miE (eOp 2 [k] [])=false:=by
 have h:=Jlo (a:=eOp 2 [k] []) (by show ¬ (2:Int)=10;decide) rfl (by show ¬ (2:Int)=11;decide);exact⟨h.1.trans plE_E,h.2⟩
theorem Jq6:wrE (eOp 2 [k] [])=[69]++Lib.itoa k:=by
 rw [Jtu (by show ¬ (2:Int)=10;decide),Jr9.1,Jr9.2];rfl
theorem Jui:okE (eOp 2 [k] []):=y0 trivial
include hk in
theorem wr_E:WrS (eOp 2 [k] []):=by
 have hl:=itl (n:=k) (by omega) (by omega);have pl:PlS (eOp 2 [k] []):=fun {X w} hX {v} r=>Ju6 hX r (.inl rfl) (by show 0 < 1;decide) hk (fun h=>absurd h (by show ¬ (2:Int)=12;decide));have sg:SgS (eOp 2 [k] []):=fun {X w} hX {v} r=>Jn3 hX r (.inr rfl) Jui pl;refine fun {X w} hX {v} r=>Jvp hX r ?_ (by show 0≤100;decide) (fun h=>absurd h (by show ¬ (2:Int)=10;decide))<|fun _=>⟨sg,?_⟩
 ·rw [Jq6,List.length_append,List.length_singleton];omega
 ·rw [Jr9.1,List.length_append,List.length_singleton];omega
theorem Jqv:plE (eOp 12 [n] [eOp 2 [k] []])=(([69]++Lib.itoa k)++[94])++Lib.itoa n:=by
 rw [← Jud (a:=eOp 12 [n] [eOp 2 [k] []]) (t:=wrE<|eOp 2 [k] []) rfl (by show 0 < 1;decide) (bs_f (by show ¬ ((2:Int)=10∨(2:Int)=11∨(2:Int)=12∨(2:Int)=1);decide)),Jq6];rfl
theorem sgE_P:sgE (eOp 12 [n] [eOp 2 [k] []])=(([69]++Lib.itoa k)++[94])++Lib.itoa n∧miE (eOp 12 [n] [eOp 2 [k] []])=false:=by
 have h:=Jlo (a:=eOp 12 [n] [eOp 2 [k] []]) (by show ¬ (12:Int)=10;decide) rfl (by show ¬ (12:Int)=11;decide);exact⟨h.1.trans Jqv,h.2⟩
theorem okE_P:okE (eOp 12 [n] [eOp 2 [k] []]):=y0 ⟨Jui,trivial⟩
include hk hn in
theorem pl_P:PlS (eOp 12 [n] [eOp 2 [k] []])∧(plE (eOp 12 [n] [eOp 2 [k] []])).length≤1000:=by
 have hl:=itl (n:=k) (by omega) (by omega);have a:=itl (n:=n) (by omega) (by omega);refine⟨fun {X w} hX {v} r=>Ju6 hX r (.inr rfl) (by show 0 < 1;decide) hn<|fun _=>⟨by show 0 < 1;decide,wr_E hk,?_,rfl⟩,?_⟩
 ·show(wrE<|eOp 2 [k] []).length≤1000
  rw [Jq6,List.length_append,List.length_singleton];omega
 ·rw [Jqv];simp only [List.length_append,List.length_singleton];omega
include hk hn in
theorem sg_P:SgS (eOp 12 [n] [eOp 2 [k] []])∧(sgE (eOp 12 [n] [eOp 2 [k] []])).length≤1000:=by
 refine⟨fun {X w} hX {v} r=>Jn3 hX r (.inl rfl) okE_P (pl_P hk hn).1,?_⟩
 have:=(pl_P hk hn).2
 rw [sgE_P.1,← Jqv];exact this
end
theorem qm1: -(ofQ (Rat.divInt (-1) 1)).q=1:=by rw [Yq];rfl
theorem sg_Ap:SgS eAp∧(sgE eAp).length≤1000:=by
 have hp:=pl_P (k:=6) (n:=2) ⟨by decide,by decide⟩ ⟨by decide,by decide⟩;have hok:okE eAp:=Jdi (i:=1) okA1 (by show 1 < 2;decide);have e:sgE eAp=plE eA2:=by
  have h:=Juy (a:=eAp) rfl (by show 2≤2;decide) (ngm rfl qm1) qm1 (by show ¬ (12:Int)=1;decide);rw [h]
  show Lib.join [(txE eA2).f] [42]=_
  rw [Lib.join_one,← fa_0 (by show ¬ (12:Int)=10;decide) (by show ¬ (12:Int)=11;decide) rfl]
 have hl:(sgE eAp).length≤1000:=by rw [e];exact hp.2
 exact⟨fun {X w} hX {v} r=>Jva hX r rfl hok rfl rfl qm1 ⟨Zt _,Zt _⟩ rfl hp.1 hp.2 hl,hl⟩
theorem wr_A1:WrS eA1:=by
 refine fun {X w} hX {v} r=>Jvp hX r (by rw [wrA1];decide) (by show 2≤100;decide) (fun _ i hi=>?_) (fun h=>absurd rfl h);have hi:i < 2:=hi
 rcases(by omega:i=0∨i=1) with rfl | rfl
 ·exact sg_P (k:=4) (n:=3) ⟨by decide,by decide⟩ ⟨by decide,by decide⟩
 ·exact sg_Ap
abbrev P3(a:GExpr)(n e:Int)(X:Nat→Prop)(w:World):Ending→World→Prop:=Ret w fun v w'=>∃ v0 v1 v2,v= .tuple #[v0,v1,v2]∧(RV Jg X w' v0 a)∧(v1= .int .i64 n)∧(v2= .int .i64 e)
theorem pA1{X:Nat→Prop}{w:World}(hX:XB X w):Calls Tryz.prog 10 #[str tA1] w (P3 eA1 0 0 X w):=by
 have h:=Jba hX (s:=tA1) (by decide) fun _=>rfA1
 rw [paA1] at h;exact h
theorem pA2{X:Nat→Prop}{w:World}(hX:XB X w):Calls Tryz.prog 10 #[str tA2] w (P3 Kq 4 19 X w):=by
 have h:=Jba hX (s:=tA2) (by decide) fun _=>rfA2
 rw [paA2] at h;exact h
theorem pA3{X:Nat→Prop}{w:World}(hX:XB X w){v:Value}(d:RV Jg X w v eA1):Calls Tryz.prog 14 #[v] w (Ret w fun v' w'=>∃ a b,v'= .tuple #[a,b]∧(a=str tA1)∧(b= .int .i64 0)):=by
 have h:=c_PrS hX d okA1 ckA1 wr_A1 (by rw [wrA1];decide);rw [wrA1] at h;exact h
theorem Jdz{X:Nat→Prop}{w:World}(hX:XB X w)   :CRt 9 #[] w fun v w'=>v=(.bool true):=by
 have C:=J07 hX;refine Cgo (args:=[]) Tryz.func9 rfl rfl rfl (Rg<|Oa<|Nl<|Rg<|Ol<|J0t C cb10 rfl rfl (pA1 C.bd) ?_);intro v1 w2 Q s4 R;obtain⟨v6,v7,v8,rfl,S,rfl,rfl⟩:=R;obtain⟨d,e,g,h,i,j,k,l,rfl,a⟩:=J37 S;refine Om (Ol<|St.extract rfl rfl<|Ol<|St.extract rfl rfl<|Ol<|St.extract rfl rfl<|Ol<|J05 Q io31 rfl ?_);intro V Y Z aa T p r s;refine On (J0u (cs':=(ec eA1 d e g h i j k l)) p s io31 rfl rfl rfl rfl rfl rfl ?_);intro ab m x y;replace a:=(a.sp r).sp x;refine Oa (Oa<|Nl<|Rg<|Ol<|J0z (vs:=(ec eA1 d e g h i j k l)) y ag31 rfl rfl rfl<|Ol<|J0t m cb14 rfl rfl (pA3 m.bd<|Ju eA1 a.lo a.hi a.name a.n a.num a.den a.args) ?_);intro ac ad o ae z;obtain⟨af,ag,rfl,rfl,rfl⟩:=z;refine Om (Ol<|St.extract rfl rfl<|Ol<|St.extract rfl rfl<|Oa<|Oa<|Nl<|Rg<|Ol<|J0t o cb10 rfl rfl (pA2 o.bd) ?_);intro ah ai A aj B;obtain⟨ak,am,an,rfl,D,rfl,rfl⟩:=B;obtain⟨E,F,G,H,I,J,K,L,rfl,ao⟩:=J37 D;refine Om (Ol<|St.extract rfl rfl<|Ol<|St.extract rfl rfl<|Ol<|St.extract rfl rfl<|Ol<|J05 A io31 rfl ?_);intro aq ar au av U M aw N;refine On (J0u (cs':=(ec Kq E F G H I J K L)) M N io31 rfl rfl rfl rfl rfl rfl ?_);intro ax P ay az;refine Oa (Oa<|Nl<|Rg<|Om<|Ol<|J1y (t:=true) rfl rfl (decide_eq_true rfl)<|Om<|OgD<|J00<|OgD<|J1y (t:=true) rfl rfl (decide_eq_true rfl)<|OT<|Om<|OgD<|J00<|OgD<|J1y (t:=true) rfl rfl (decide_eq_true rfl) ?_);refine OT (Om<|OgD<|J00<|OgD<|J1r rfl rfl (fun b=>?_)<|fun b=>absurd rfl b);refine OT<|Om<|OgD<|J00<|OgD<|J1y (t:=true) rfl rfl (decide_eq_true rfl)<|OT<|Om<|OgD<|J00<|OgD<|J1y (t:=true) rfl rfl (decide_eq_true rfl)<|OT<|Oa<|Nl<|J04<|Jo rfl (J35 rfl)<|J02 ?_ P.below
 rfl
end Go.Wf
namespace Go.Wf
open Go Go.Proofs Go.RowKit
theorem Jiy(w:World){s:List UInt8}(d:s.length≤1000):RdF s:=by
 have hB:Blk (w.alloc<|.cells (rc4 s 0 0 0).toArray 62 (0,0)) w.heap.size (rc4 s (plR<|.ok () 0) (ecR<|.ok () 0) 0) 62:=Blk.alloc;have h:=Jm0 (X:=fun b=>b=w.heap.size) (S:=sumM s s.length) (lo:=0) (B:=1) (fun b hb=>by subst hb;simp) hB rfl (Nat.zero_le _) (by omega) d (by decide) (fun o p h=>V9 _ _ _ h) (fun _=>Jik d s.length 0 1 (by omega) (by omega)) (Nat.le_refl 1) (Jde<|Nat.zero_le _);obtain⟨e,w',fr,hR,_⟩:=h []
 cases e with
 | panicked ch=>exact hR.elim
 | outgrown=>exact hR.elim
 | returned v=>
  obtain⟨⟨⟨m,_,_,hf⟩,_⟩,_⟩:=hR;have hf:(sF s).fine s:=hf;have hx:sumM s (s.length+1) 0 0=sF s:=rfl;unfold RdF zc;rw [hx]
  cases hr:sF s with
  | er e p=>rw [hr] at hf;exact hf
  | ok a q=>
   rw [hr] at hf;rw [Rr.th_ok]
   split
   ·exact⟨by decide,Yh hf⟩
   ·exact Nat.zero_le _
theorem Jcc{X:Nat→Prop}{w:World}(hX:XB X w){s:List UInt8}  :CRt 3 #[(str s)] w fun v w'=>v=(.bool true):=by
 have C:=J07 hX
 have:maxLen=9223372036854775807:=rfl
 refine Cgo (args:=[(str s)]) Tryz.func3 rfl rfl rfl<|Rg<|Oa<|Nl<|Rh<|Om<|Ol<|J1v un9 rfl<|Ol<|J10 rfl rfl (fun aH=>?_)<|fun aH=>?_
 ·refine Om<|OgD<|J00<|OgD<|J1v un9 rfl<|OgD<|J2e rfl rfl (fun aI=>?_)<|fun aI=>?_
  ·refine OT (Nl<|J0w rfl<|Rg<|Ol<|J0t C cb9 rfl rfl (Jdz C.bd) ?_);intro v3 w4 C5 s6 h7;subst h7;refine Oa<|Nl<|J04<|Jo rfl (J35 rfl)<|J02 ?_ C5.below
   rfl
  refine OT (Nl<|J0v rfl<|J01<|Rg<|Om<|Ol<|J0t C cb10 rfl rfl (Jba C.bd (by omega)<|fun h=>Jiy w h) ?_);intro v8 w9 aJ bu aK;obtain⟨bv,bw,bx,rfl,aL,rfl,rfl⟩:=aK;obtain⟨K,L,M,N,P,Q,R,S,rfl,b⟩:=J37 aL;refine Om (Ol<|St.extract rfl rfl<|Ol<|St.extract rfl rfl<|Ol<|St.extract rfl rfl<|Ol<|J05 aJ io31 rfl ?_);intro bz bA bB bC a7 aM aO aP;replace b:=b.sp aO;refine On (J0u (cs':=(ec ((Z4 s).1) K L M N P Q R S)) aM aP io31 rfl rfl rfl rfl rfl rfl ?_);intro bD T aQ i;refine Oa (Oa<|Nl<|Rg<|Om<|Ol<|J0t T cb11 rfl rfl (Jhu T.bd (by omega)) ?_);intro bE bF aR U aS;replace b:=(b.sp aQ).sp U;replace i:=i.spn U;obtain⟨bG,bH,bI,rfl,aT,rfl,rfl⟩:=aS;obtain⟨V,Y,Z,aa,ab,ac,ad,ae,rfl,e⟩:=J37 aT;refine Om (Ol<|St.extract rfl rfl<|Ol<|St.extract rfl rfl<|Ol<|St.extract rfl rfl<|Ol<|J05 aR io31 rfl ?_);intro bJ bK bL bM ao aU l aV;have aW:=ao _ i.blk.lt;refine On (J0u (cs':=(ec ((Z4 s).1) V Y Z aa ab ac ad ae)) aU aV io31 rfl rfl rfl rfl rfl rfl ?_);intro bN af m aX;replace b:=(b.sp l).sp m;replace e:=(e.sp l).sp m;replace i:=(i.spn l).spo m aW;refine Oa (Oa<|Nl<|Rg<|Ol<|J0z (vs:=(ec ((Z4 s).1) K L M N P Q R S)) i ag31 rfl rfl rfl<|Ol<|J0z (vs:=(ec ((Z4 s).1) V Y Z aa ab ac ad ae)) aX ag31 rfl rfl rfl<|Ol<|J0t af cb12 rfl rfl (Jii af.bd (Ju ((Z4 s).1) b.lo b.hi b.name b.n b.num b.den b.args) (Ju ((Z4 s).1) e.lo e.hi e.name e.n e.num e.den e.args) rfl) ?_);intro bO bP ag bQ aY;subst aY;refine Om (OgD<|J00<|OgD<|J00<|OgD<|J1y (t:=true) rfl rfl (decide_eq_true rfl)<|OT<|Om<|OgD<|J00<|OgD<|J00<|OgD<|J1y (t:=true) rfl rfl (decide_eq_true rfl)<|OT<|Om<|OgD<|J0t ag cb9 rfl rfl (Jdz ag.bd) ?_);intro bR bS aZ bT a0;subst a0;refine OT<|Oa<|Nl<|J04<|Jo rfl (J35 rfl)<|J02 ?_ aZ.below
  rfl
 refine Om (Oz<|Oz<|Oz<|OF<|Nl<|J0v rfl<|J01<|Rg<|Om<|Ol<|J0t C cb10 rfl rfl (Jba C.bd (by omega)<|fun h=>Jiy w h) ?_);intro bU bV a1 bW a2;obtain⟨bX,bY,bZ,rfl,a3,rfl,rfl⟩:=a2;obtain⟨ah,ai,aj,ak,am,an,o,p,rfl,a⟩:=J37 a3;refine Om (Ol<|St.extract rfl rfl<|Ol<|St.extract rfl rfl<|Ol<|St.extract rfl rfl<|Ol<|J05 a1 io31 rfl ?_);intro a8 a9 ba bb a4 aq ar au;replace a:=a.sp ar;refine On (J0u (cs':=(ec ((Z4 s).1) ah ai aj ak am an o p)) aq au io31 rfl rfl rfl rfl rfl rfl ?_);intro bc r av g;refine Oa (Oa<|Nl<|Rg<|Om<|Ol<|J0t r cb11 rfl rfl (Jhu r.bd (by omega)) ?_);intro be bf aw x ax;replace a:=(a.sp av).sp x;replace g:=g.spn x;obtain⟨bg,bh,bi,rfl,ay,rfl,rfl⟩:=ax;obtain⟨y,z,A,B,D,E,F,G,rfl,d⟩:=J37 ay;refine Om (Ol<|St.extract rfl rfl<|Ol<|St.extract rfl rfl<|Ol<|St.extract rfl rfl<|Ol<|J05 aw io31 rfl ?_);intro bj bk bl bm J az j aA;have aB:=J _ g.blk.lt;refine On (J0u (cs':=(ec ((Z4 s).1) y z A B D E F G)) az aA io31 rfl rfl rfl rfl rfl rfl ?_);intro bn H k aD;replace a:=(a.sp j).sp k;replace d:=(d.sp j).sp k;replace g:=(g.spn j).spo k aB;refine Oa (Oa<|Nl<|Rg<|Ol<|J0z (vs:=(ec ((Z4 s).1) ah ai aj ak am an o p)) g ag31 rfl rfl rfl<|Ol<|J0z (vs:=(ec ((Z4 s).1) y z A B D E F G)) aD ag31 rfl rfl rfl<|Ol<|J0t H cb12 rfl rfl (Jii H.bd (Ju ((Z4 s).1) a.lo a.hi a.name a.n a.num a.den a.args) (Ju ((Z4 s).1) d.lo d.hi d.name d.n d.num d.den d.args) rfl) ?_);intro bo bp I bq aE;subst aE;refine Om (OgD<|J00<|OgD<|J00<|OgD<|J1y (t:=true) rfl rfl (decide_eq_true rfl)<|OT<|Om<|OgD<|J00<|OgD<|J00<|OgD<|J1y (t:=true) rfl rfl (decide_eq_true rfl)<|OT<|Om<|OgD<|J0t I cb9 rfl rfl (Jdz I.bd) ?_);intro br bs aF bt aG;subst aG;refine OT<|Oa<|Nl<|J04<|Jo rfl (J35 rfl)<|J02 ?_ aF.below
 rfl
end Go.Wf
namespace Go.Proofs.YtjiojpmoleilgaaGreatDoor
open Go Go.Proofs Go.Wf Go.RowKit Go.ChangeShapes Go.WideShapes Go.ChangeMaps
theorem Jst:Tryz.prog.inits.idxOf? 3=none:=by kernel_rfl
theorem Jwr(s:ByteArray):Value.string s=str s.data.toList:=by obtain⟨⟨d⟩⟩:=s;rfl
def xh:Array Value:= #[.string ⟨#[]⟩]
theorem wOk3(os:Os):Input.okWideB Tryz.prog ((World.laidAll Tryz.prog os z8).forCall (fun _ _=>0) ⟨#[],xh,[]⟩) 3 ⟨#[],xh,[]⟩=true:=by kernel_rfl
theorem wPre3(os:Os)(H:Type)(enc:TypeId × Value→H):Rows.exprParsesSpec.preB enc Tryz.prog Tryz.f3 [] false ((World.laidAll Tryz.prog os z8).forCall (fun _ _=>0) ⟨#[],xh,[]⟩).memory xh 8=true:=by kernel_rfl
theorem Jsx(os:Os)(H:Type)(enc:TypeId × Value→H):Rows.exprParsesSpec.sizedB enc Tryz.prog Tryz.f3 false ((World.laidAll Tryz.prog os z8).forCall (fun _ _=>0) ⟨#[],xh,[]⟩).memory xh 8=true:=by kernel_rfl
theorem Jqy(os:Os)(started:os.Started)(H:Type)(enc:TypeId × Value→H):
  ReturnsInHanded {} Tryz.checked os 3 .any (fun w args=>(Rows.exprParsesSpec.pre enc Tryz.prog Tryz.f3 [] false w args∧laidMetH Tryz.prog z8 w)∧sizedMet enc Tryz.prog Tryz.f3 (OpenSpec.ofChange Rows.exprParsesSpec) false w args)
   (Rows.exprParsesSpec.post enc Tryz.prog Tryz.f3 false true false false):=by
 refine returnsInHanded_of_change_and (C:=Tryz.checked) (X:=fun w _=>laidMetH Tryz.prog z8 w) (fun _ _ _ hh h=>h.of_heap hh) own52 started Jst Tryz.func3
  (ChangeSpec.witness_shaped (enc:=enc) (C:=Tryz.checked) (os:=os) (X:=fun w _=>laidMetH Tryz.prog z8 w) false (World.laidAll Tryz.prog os z8) xh 8 (World.laidAll_os _ _ _)
   (World.shaped_of_ZipB (wZip os _) (wRest os _)) (wOk3 os) (wPre3 os H enc) (Jsx os H enc)
   (by rw [MakeChecks.laidMetH_plain _ _ _ Jw1];exact laidMet_laidAll _ (wFits os) (Jqw os))) ?_
 intro W base args ds gs before hval0 hW _ _ hL _;have hval:∀ (j:Nat) t v,Tryz.f3.params[j]? =some t→args[j]? =some v→Value.okWide Tryz.prog W .any base t v:=hval0;have hW':=hW;obtain⟨p0,q,hA0,hV,rfl,_,_⟩:=hW;have hA:DataW.TrodAll enc Tryz.prog W 0 (fun _=>true) true Tryz.f3.params.toList args.toList ds p0:=hA0;rw [Tryz.params3] at hA hval;obtain⟨v0,d0,rfl,rfl,h0⟩:=trodAll_one hA;obtain⟨rfl,rfl⟩:=trodVars_none hV;obtain⟨s0,z0,_,_,l0⟩:=open_string und9 (hval 0 9 v0 rfl rfl) h0;replace z0:=z0.trans (Jwr s0);subst z0;have hlt:∀ x ∈ p0,x.block < W.heap.size:=fun x hx=>hW'.lt x (by simpa using hx);have call:=Jcc (X:=NX) (w:=W) (fun _ h=>h.elim) (s:=s0.data.toList);refine call.mono fun e W' hr=>?_
 cases e with
 | returned v=>
  obtain⟨rfl,hb⟩:=hr;exact⟨_,rfl,_,_,_,[],p0,[],hW',trodAll_mk1 (shut_bool und4 _),
   trodAll_mk1 (Below.trod Jis read9 lt9 h0 hb (fun x hx=>hlt x (by simp [hx]))),rfl,hb.frame _,fun h=>by cases h⟩
 | panicked ch=>exact hr.elim
 | outgrown=>exact hr.elim
theorem Joc:Tryz.prog.funcNamed "halfplane/halfplanelaw52.ExprParses" =some 3:=by kernel_rfl
theorem inst3:Tryz.f3.isInstance Tryz.prog Rows.exprParsesRow.origin Rows.exprParsesRow.targs:=of_decide_eq_true (by kernel_rfl)
theorem ve:Rows.ExprParsesSaid:=
 OpenClaim.holds_of_wide 3 Tryz.f3 rfl rfl rfl rfl rfl rfl rfl ⟨rfl,rfl,rfl,rfl,rfl⟩ rfl rfl rfl rfl rfl Joc Tryz.func3 Jtx
  inst3 (by unfold Func.isWrapper;first | (rw [if_pos (by decide +kernel)];kernel_rfl) | (rw [if_neg (by decide +kernel)];exact⟨rfl,rfl⟩))
  (fun os started H enc _=>Jqy os started H enc)
end Go.Proofs.YtjiojpmoleilgaaGreatDoor
