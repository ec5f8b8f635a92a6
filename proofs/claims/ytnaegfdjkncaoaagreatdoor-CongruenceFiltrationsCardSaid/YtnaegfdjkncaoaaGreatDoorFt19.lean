/- Part 19 of the texts for the claim. -/
import Derived.Test.YtnaegfdjkncaoaaGreatDoorFt18
set_option linter.unusedVariables false
set_option linter.unusedSimpArgs false
set_option maxRecDepth 100000
set_option maxHeartbeats 4000000
noncomputable section
namespace Go.Wf
open Go Go.Proofs Go.RowKit
theorem TW{P:Program}{ops:Array Oper}{n:Nat}{Q:Post}{r:List Oper}{f:Fr}{w:World}{vals:List (Nat×Value)}(hv:∀p∈vals,f p.1=p.2)(h:∀f',Sq P ops n Q r (reb vals f') w):Sq P ops n Q r f w:=by
 obtain⟨f',rfl⟩:=rebK hv;exact h f'
theorem QF(i:Int):(([5,7,11,13]:List Int).getD (i%4).toNat 0)=5∨(([5,7,11,13]:List Int).getD (i%4).toNat 0)=7∨(([5,7,11,13]:List Int).getD (i%4).toNat 0)=11∨(([5,7,11,13]:List Int).getD (i%4).toNat 0)=13:=by
 have a:=VX i (by decide:(4:Int)≠0);have b:=VW i (by decide:(0:Int)<4);have h:(i%4).toNat=0∨(i%4).toNat=1∨(i%4).toNat=2∨(i%4).toNat=3:=by omega
 rcases h with h|h|h|h<;>rw[h]
 ·exact .inl rfl
 ·exact .inr (.inl rfl)
 ·exact .inr (.inr (.inl rfl))
 ·exact .inr (.inr (.inr rfl))
theorem Yv{X:Nat→Prop}{w:World}(hX:XB X w)(hT:T10 X w):CRt 5 #[] w fun v w'=>v= .bool true:=Go.Ev.awake_c hT.tab
theorem OE{X:Nat→Prop}{w:World}(hX:XB X w){a:Int}{n:Int}(hn:0<n)(hb:n≤1000000):CRt 4 #[(.int .i64 a),(.int .i64 n)] w fun v w'=>v=(.int .i64 (a%n)):=by
 have C:=Cx.start hX;have ht:=iR a hn;refine Cgo Tryz.func4 rfl rfl rfl<|Rg<|Ua<|Rg<|Om<|Ub<|Sz rfl rfl (by omega) rfl<|Ua<|Rh<|Ub<|Sb rfl rfl (fun b=>?_)<|fun b=>?_
 ·exact Nl<|Uk<|Om<|Ub<|St.add (z:=((a.tmod n)+n)) rfl rfl (UP _ (by omega))<|Ua<|Rg<|Om<|Ua<|RY<|Wq rfl rfl C<|congrArg (Value.int _)<|(oK hn (by omega))
 exact Nl<|Uc<|Rg<|Om<|Ua<|RY<|Wq rfl rfl C<|congrArg (Value.int _)<|(pQ hn (by omega))
set_option maxHeartbeats 16000000 in
theorem Hi{X:Nat→Prop}{w:World}(hX:XB X w){v0:Value}{lead:List GInt}(E:RS Jo X w v0 lead){k0 k1:Int}{i:Int}(hT:T10 X w)(eg: -9223372036854775808≤k0∧k0≤9223372036854775807)(eh: -9223372036854775808≤k1∧k1≤9223372036854775807):CRt 3 #[v0,(.agg #[.int .i64 k0,.int .i64 k1]),(.int .i64 i)] w fun v w'=>v=(.bool true):=by
 obtain⟨a1,c2,rfl,_,_⟩:=E.len;have C:=Cx.start hX;have hsm:=E.smI;have hml:maxLen=9223372036854775807:=rfl;refine Cgo Tryz.func3 rfl rfl rfl (Rg<|Ol<|R9 C rfl ?_);intro J w4 x5 y6 ei C8 s9 ar;have E:=E.sp s9;have hT:=hT.sp s9;refine Ua<|RZ<|SX (fun f v=>∃(x y:Nat→Prop) (pp:Int),Cx X w x y v∧f 0=(.slice a1 lead.length c2)∧f 4=(.pointer (some ⟨J,0,none⟩))∧f 6=(.bool false)∧f 7=(.int .i64 pp)∧RS Jo x v (.slice a1 lead.length c2) lead∧T10 x v∧Own w y v J [(.int .i64 k0),(.int .i64 k1)] 23∧(pp=5∨pp=7∨pp=11∨pp=13)) ?_ ?_
 ·refine RK (Ol<|Sl (T:=Kz) (css:=[[(.int .i64 5)],[(.int .i64 7)],[(.int .i64 11)],[(.int .i64 13)]]) (l:=[5,7,11,13]) C8 sl24 io3 (by decide) (by decide) rfl (by kernel_rfl) ⟨⟨rfl,(by omega),(by omega)⟩,⟨rfl,(by omega),(by omega)⟩,⟨rfl,(by omega),(by omega)⟩,⟨rfl,(by omega),(by omega)⟩,trivial⟩ ?_);intro ej ek bi au av;refine Om (Ol<|RH bi cb4 rfl rfl (OE bi.bd (by decide) (by decide)) ?_);intro el em cl ai cm;have E:=(E.sp au).sp ai;have hT:=(hT.sp au).sp ai;have av:=av.sp ai;have ar:=(ar.spn au).spn ai;subst cm;refine Ol (Sd (j:=(i%4).toNat) (u:=([5,7,11,13].getD ((i%4).toNat) 0)) av sl24 io3 rfl rfl (by omega) (Ji (by simp only[Uw,Ux];omega)) ?_);intro en eo bs bj;obtain⟨rfl,cI⟩:bs=_∧_:=bj.rd;refine Ol<|Sa pl3 rfl (bj.cell 0 _ rfl)<|Ua<|⟨_,_,([5,7,11,13].getD ((i%4).toNat) 0),cl,rfl,rfl,rfl,rfl,E,hT,ar,(QF i)⟩
 rintro ep eq ⟨er,es,pp,h,bk,bl,bm,bn,E,hT,Q,hpp⟩;obtain⟨et,rfl⟩:=rebK (aC bk<|aC bl<|aC bm<|aC bn aN);clear bk bl bm bn;refine RZ<|SX (fun f v=>∃(x y:Nat→Prop),Cx X w x y v∧f 0=(.slice a1 lead.length c2)∧f 4=(.pointer (some ⟨J,0,none⟩))∧f 7=(.int .i64 pp)∧RS Jo x v (.slice a1 lead.length c2) lead∧T10 x v∧Own w y v J [(.int .i64 k0),(.int .i64 k1)] 23∧0≤k0∧k0≤24∧k0%2=0∧0≤k1∧k1≤24∧k1%2=0) ?_ ?_
 ·refine Rg<|Ol<|Sn (j:=0) ar23 io3 rfl rfl rfl (by decide)<|Ol<|RN Q pl3 rfl rfl<|Ol<|Sb rfl rfl (fun bt=>?_)<|fun bt=>?_
  ·refine Om (Oz<|Oz<|Oz<|OT<|Om<|Oz<|Oz<|Oz<|OT<|Om<|Oz<|Oz<|Oz<|OT<|Om<|Oz<|Oz<|Ox rfl rfl rfl ?_);refine Oz (OT<|Om<|Oz<|Oz<|Oz<|Oz<|OT<|Om<|Oz<|Oz<|Oz<|OT<|Nl<|Uf<|Ol<|RH h cb5 rfl rfl (Yv h.bd hT) ?_);intro eu ev cn ew co;subst co;refine Ua<|RY<|J0 rfl (resV.t rfl)<|RM ?_ cn.below
   rfl
  refine Om<|OgD<|Sn (j:=0) ar23 io3 rfl rfl rfl (by decide)<|OgD<|RN Q pl3 rfl rfl<|OgD<|Sx rfl rfl (fun bu=>?_)<|fun bu=>?_
  ·refine OF (Om<|Oz<|Oz<|Oz<|OT<|Om<|Oz<|Oz<|Oz<|OT<|Om<|Oz<|Oz<|Oz<|Oz<|OT<|Om ?_);refine Oz (Oz<|Oz<|Oz<|OT<|Om<|Oz<|Oz<|Oz<|OT<|Nl<|Uf<|Ol<|RH h cb5 rfl rfl (Yv h.bd hT) ?_);intro ex ey cp ez cq;subst cq;refine Ua<|RY<|J0 rfl (resV.t rfl)<|RM ?_ cp.below
   rfl
  refine OF<|Om<|OgD<|Sn (j:=1) ar23 io3 rfl rfl rfl (by decide)<|OgD<|RN Q pl3 rfl rfl<|OgD<|Sb rfl rfl (fun bv=>?_)<|fun bv=>?_
  ·refine OF (Om<|Oz<|Oz<|Oz<|OT<|Om<|Oz<|Oz<|Oz<|Oz<|OT<|Om<|Oz<|Oz<|Oz<|Oz<|OT ?_);refine Om (Oz<|Oz<|Oz<|OT<|Nl<|Uf<|Ol<|RH h cb5 rfl rfl (Yv h.bd hT) ?_);intro eC eD cr eE ct;subst ct;refine Ua<|RY<|J0 rfl (resV.t rfl)<|RM ?_ cr.below
   rfl
  refine OF<|Om<|OgD<|Sn (j:=1) ar23 io3 rfl rfl rfl (by decide)<|OgD<|RN Q pl3 rfl rfl<|OgD<|Sx rfl rfl (fun bw=>?_)<|fun bw=>?_
  ·refine OF (Om<|Oz<|Oz<|Oz<|Oz<|OT<|Om<|Oz<|Oz<|Oz<|Oz<|OT<|Om<|Oz<|Oz<|Oz<|OT ?_);refine Nl (Uf<|Ol<|RH h cb5 rfl rfl (Yv h.bd hT) ?_);intro eG eH cu eI cw;subst cw;refine Ua<|RY<|J0 rfl (resV.t rfl)<|RM ?_ cu.below
   rfl
  refine OF<|Om<|OgD<|Sn (j:=0) ar23 io3 rfl rfl rfl (by decide)<|OgD<|RN Q pl3 rfl rfl<|OgD<|Sz rfl rfl (by decide) (IntWalk.rem_in _ _ (by omega))<|OgD<|SA rfl rfl (fun bx=>?_)<|fun bx=>?_
  ·refine OF (Om<|Oz<|Oz<|Oz<|Oz<|OT<|Om<|Oz<|Oz<|Oz<|OT<|Nl<|Uf<|Ol<|RH h cb5 rfl rfl (Yv h.bd hT) ?_);intro eJ eK cx eL cy;subst cy;refine Ua<|RY<|J0 rfl (resV.t rfl)<|RM ?_ cx.below
   rfl
  refine OF<|Om<|OgD<|Sn (j:=1) ar23 io3 rfl rfl rfl (by decide)<|OgD<|RN Q pl3 rfl rfl<|OgD<|Sz rfl rfl (by decide) (IntWalk.rem_in _ _ (by omega))<|OgD<|SA rfl rfl (fun bz=>?_)<|fun bz=>?_
  ·refine OF (Om<|Oz<|Oz<|Oz<|OT<|Nl<|Uf<|Ol<|RH h cb5 rfl rfl (Yv h.bd hT) ?_);intro eM eN cz eO cB;subst cB;refine Ua<|RY<|J0 rfl (resV.t rfl)<|RM ?_ cz.below
   rfl
  refine OF<|Om<|OgD<|RP<|OgD<|St.len sl22 rfl<|OgD<|Sx rfl rfl (fun bA=>?_)<|fun bA=>?_
  ·refine OF (Nl<|Uf<|Ol<|RH h cb5 rfl rfl (Yv h.bd hT) ?_);intro eP eQ cC eR cD;subst cD;refine Ua<|RY<|J0 rfl (resV.t rfl)<|RM ?_ cC.below
   rfl
  refine OF<|Nl<|Uc<|⟨_,_,h,rfl,rfl,rfl,E,hT,Q,(by omega)⟩
 rintro eS eT ⟨eU,eV,bo,bp,bq,br,E,hT,n,hb⟩;obtain⟨eW,rfl⟩:=rebK (aC bp<|aC bq<|aC br aN);clear bp bq br;refine RZ ?_;have hA:=qL hsm (k:=k0) (by omega) (by omega) (by omega);have hB:=qL hsm (k:=k1) (by omega) (by omega) (by omega);have oA:=(hA.si.ok (by decide)).1;have oB:=(hB.si.ok (by decide)).1;have pA:=hA.si.pr;have pB:=hB.si.pr;have qA:=hA.si.fr0;have qB:=hB.si.fr0;have eA:=KI hsm (k0:=k0) (by omega) (by omega) (by omega) hpp;have eB:=KI hsm (k0:=k1) (by omega) (by omega) (by omega) hpp;refine RK (Ub<|Sn (j:=0) ar23 io3 rfl rfl rfl (by decide)<|Ol<|RN n pl3 rfl rfl<|Ol<|RH bo cb6 rfl rfl (r7 bo.bd E hT (by omega) (by omega) (by omega)) ?_);intro eX eY cE aw cF;have E:=E.sp aw;have hT:=hT.sp aw;have n:=n.spn aw;obtain⟨eZ,e0,rfl,cG,rfl⟩:=cF;obtain⟨o,p,rfl,aj,ak,e⟩:=TO cG;refine Om (Ol<|St.extract rfl rfl<|Ol<|St.extract rfl rfl<|Ol<|RR cE io29 rfl ?_);intro R cJ cK cL aY bB Z bC;have bD:=aY _ n.blk.lt;have e:=e.sp Z;refine On (Us (cs':=(ssC (fA lead k0) o p)) bB bC io29 ?_);intro cM ax aa K;have E:=(E.sp Z).sp aa;have hT:=(hT.sp Z).sp aa;have n:=(n.spn Z).spo aa bD;refine Oa (Nl<|Rg<|Ub<|Sn (j:=1) ar23 io3 rfl rfl rfl (by decide)<|Ol<|RN n pl3 rfl rfl<|Ol<|RH ax cb6 rfl rfl (r7 ax.bd E hT (by omega) (by omega) (by omega)) ?_);intro cN cO bE ab bF;have hT:=hT.sp ab;have e:=(e.sp aa).sp ab;have n:=n.spn ab;have K:=K.spn ab;obtain⟨cP,cQ,rfl,bG,rfl⟩:=bF;obtain⟨r,s,rfl,al,am,g⟩:=TO bG;refine Om (Ol<|St.extract rfl rfl<|Ol<|St.extract rfl rfl<|Ol<|RR bE io29 rfl ?_);intro U cR cS cT an bH V bJ;have bK:=an _ n.blk.lt;have bL:=an _ K.blk.lt;refine On (Us (cs':=(ssC (fA lead k1) r s)) bH bJ io29 ?_);intro cU bM Y bN;have hT:=(hT.sp V).sp Y;have e:=(e.sp V).sp Y;have g:=(g.sp V).sp Y;have n:=(n.spn V).spo Y bK;have K:=(K.spn V).spo Y bL;refine Ua<|RZ<|SX (fun f v=>∃(x y:Nat→Prop),Cx X w x y v∧f 4=(.pointer (some ⟨J,0,none⟩))∧f 7=(.int .i64 pp)∧f 8=(.pointer (some ⟨R,0,none⟩))∧f 9=(.int .i64 0)∧f 10=(.pointer (some ⟨U,0,none⟩))∧f 11=(.int .i64 0)∧T10 x v∧RS Jj x v (.slice o (fA lead k0).cs.length p) (fA lead k0).cs∧RS Jj x v (.slice r (fA lead k1).cs.length s) (fA lead k1).cs∧Own w y v J [(.int .i64 k0),(.int .i64 k1)] 23∧Own w y v R (ssC (fA lead k0) o p) 29∧Own w y v U (ssC (fA lead k1) r s) 29) ?_ ?_
 ·refine Rg<|Ub<|SK (t:=false) rfl rfl (by rw[decide_eq_true rfl];rfl)<|Om<|OgD<|RP<|OgD<|SK (t:=false) rfl rfl (by rw[decide_eq_true rfl];rfl)<|OF<|Nl<|Uc<|⟨_,_,bM,rfl,rfl,rfl,rfl,rfl,rfl,hT,e,g,n,K,bN⟩
 rintro cV cW ⟨cX,cY,ay,az,aA,aB,aD,aE,aF,hT,e,g,F,ac,L⟩;obtain⟨cZ,rfl⟩:=rebK (aC az<|aC aA<|aC aB<|aC aD<|aC aE<|aC aF aN);clear az aA aB aD aE aF;refine Rg (Ol<|Uo (vs:=(ssC (fA lead k0) o p)) ac ag29<|Ol<|Sn (j:=0) ar23 io3 rfl rfl rfl (by decide)<|Ol<|RN F pl3 rfl rfl<|Ub<|RH ay cb7 rfl rfl (uh ay.bd (a:=(fA lead k0)) (Zm aj ak e) hT oA.1 oA.2 (by omega) (by omega) (by omega) (by omega)) ?_);intro c0 c1 aG M bO;have hT:=hT.sp M;have g:=g.sp M;have F:=F.spn M;have L:=L.spn M;obtain⟨c3,c4,rfl,rfl,rfl⟩:=bO;refine Om (Ol<|St.extract rfl rfl<|Ol<|St.extract rfl rfl<|Oa<|Ua<|Rg<|Ol<|Uo (vs:=(ssC (fA lead k1) r s)) L ag29<|Ol<|Sn (j:=1) ar23 io3 rfl rfl rfl (by decide)<|Ol<|RN F pl3 rfl rfl<|Om ?_);refine Ol (RH aG cb7 rfl rfl (uh aG.bd (a:=(fA lead k1)) (Zm al am g) hT oB.1 oB.2 (by omega) (by omega) (by omega) (by omega)) ?_);intro c6 c7 d N bP;have hT:=hT.sp N;have e:=(e.sp M).sp N;have g:=g.sp N;have F:=F.spn N;have ac:=(ac.spn M).spn N;have L:=L.spn N;obtain⟨c8,c9,rfl,rfl,rfl⟩:=bP;refine Ub<|St.extract rfl rfl<|Ol<|St.extract rfl rfl<|Oa<|Ua<|RZ<|SX (fun f v=>∃(x y:Nat→Prop),Cx X w x y v∧f 4=(.pointer (some ⟨J,0,none⟩))∧f 7=(.int .i64 pp)∧f 8=(.pointer (some ⟨R,0,none⟩))∧f 10=(.pointer (some ⟨U,0,none⟩))∧f 11=(.int .i64 0)∧f 12=(.int .i64 ((filM (fA lead k0) k0 pp).1))∧f 14=(.int .i64 ((filM (fA lead k1) k1 pp).1))∧T10 x v∧RS Jj x v (.slice o (fA lead k0).cs.length p) (fA lead k0).cs∧RS Jj x v (.slice r (fA lead k1).cs.length s) (fA lead k1).cs∧Own w y v J [(.int .i64 k0),(.int .i64 k1)] 23∧Own w y v R (ssC (fA lead k0) o p) 29∧Own w y v U (ssC (fA lead k1) r s) 29∧(filM (fA lead k0) k0 pp).2=0∧(filM (fA lead k1) k1 pp).2=0) ?_ ?_
 ·refine Rg<|Ub<|SA rfl rfl (fun aZ=>?_)<|fun aZ=>?_
  ·refine Om<|Oz<|Oz<|OT<|Nl<|Uf<|Ub<|Sj rfl rfl (fun a0=>?_)<|fun a0=>?_
   ·refine Om<|Oz<|Oz<|OT<|Om<|OgD<|RP<|OgD<|Sj rfl rfl (fun a2=>?_)<|fun a2=>?_
    ·refine OgD (RP<|Oz<|Oz<|OgD<|Sy (t:=true) rfl<|OT<|Om<|OgD<|RH d cb5 rfl rfl (Yv d.bd hT) ?_);intro da db bQ dc bR;subst bR;refine OT<|Ua<|RY<|J0 rfl (resV.t rfl)<|RM ?_ bQ.below
     rfl
    refine OgD<|RP<|OgD<|RP<|OgD<|Sj rfl rfl (fun a3=>?_)<|fun a3=>?_
    ·refine OgD (Sy (t:=false) rfl<|OT<|Om<|OgD<|RH d cb5 rfl rfl (Yv d.bd hT) ?_);intro dd de bS df bT;subst bT;refine OT<|Ua<|RY<|J0 rfl (resV.t rfl)<|RM ?_ bS.below
     rfl
    exact OgD<|Sy (t:=false) rfl<|OT<|Om<|Oz<|OF<|Ua<|RY<|Wq rfl rfl d<|congrArg (Value.bool)<|(by exfalso;omega)
   refine Om<|OgD<|RP<|OgD<|Sj rfl rfl (fun a4=>?_)<|fun a4=>?_
   ·refine OF<|Om<|OgD<|RP<|OgD<|Sj rfl rfl (fun a5=>?_)<|fun a5=>?_
    ·refine OgD (RP<|Oz<|Oz<|OgD<|Sy (t:=true) rfl<|OT<|Om<|OgD<|RH d cb5 rfl rfl (Yv d.bd hT) ?_);intro dg dh bU di bV;subst bV;refine OT<|Ua<|RY<|J0 rfl (resV.t rfl)<|RM ?_ bU.below
     rfl
    refine OgD<|RP<|OgD<|RP<|OgD<|Sj rfl rfl (fun a6=>?_)<|fun a6=>?_
    ·refine OgD (Sy (t:=false) rfl<|OT<|Om<|OgD<|RH d cb5 rfl rfl (Yv d.bd hT) ?_);intro dj dk bW dm bX;subst bX;refine OT<|Ua<|RY<|J0 rfl (resV.t rfl)<|RM ?_ bW.below
     rfl
    exact OgD<|Sy (t:=false) rfl<|OT<|Om<|Oz<|OF<|Ua<|RY<|Wq rfl rfl d<|congrArg (Value.bool)<|(by exfalso;omega)
   exact OF<|Om<|Oz<|Oz<|Oz<|OyD<|OyD<|Oz<|OF<|Om<|Oz<|OF<|Ua<|RY<|Wq rfl rfl d<|congrArg (Value.bool)<|(by exfalso;omega)
  refine Om<|OgD<|RP<|OgD<|SA rfl rfl (fun a7=>?_)<|fun a7=>?_
  ·refine OF<|Nl<|Uf<|Ub<|Sj rfl rfl (fun a8=>?_)<|fun a8=>?_
   ·refine Om<|Oz<|Oz<|OT<|Om<|OgD<|RP<|OgD<|Sj rfl rfl (fun a9=>?_)<|fun a9=>?_
    ·refine OgD (RP<|Oz<|Oz<|OgD<|Sy (t:=true) rfl<|OT<|Om<|OgD<|RH d cb5 rfl rfl (Yv d.bd hT) ?_);intro dn dp bY dq bZ;subst bZ;refine OT<|Ua<|RY<|J0 rfl (resV.t rfl)<|RM ?_ bY.below
     rfl
    refine OgD<|RP<|OgD<|RP<|OgD<|Sj rfl rfl (fun ba=>?_)<|fun ba=>?_
    ·refine OgD (Sy (t:=false) rfl<|OT<|Om<|OgD<|RH d cb5 rfl rfl (Yv d.bd hT) ?_);intro ds dt b0 du b1;subst b1;refine OT<|Ua<|RY<|J0 rfl (resV.t rfl)<|RM ?_ b0.below
     rfl
    exact OgD<|Sy (t:=false) rfl<|OT<|Om<|Oz<|OF<|Ua<|RY<|Wq rfl rfl d<|congrArg (Value.bool)<|(by exfalso;omega)
   refine Om<|OgD<|RP<|OgD<|Sj rfl rfl (fun bb=>?_)<|fun bb=>?_
   ·refine OF<|Om<|OgD<|RP<|OgD<|Sj rfl rfl (fun be=>?_)<|fun be=>?_
    ·refine OgD (RP<|Oz<|Oz<|OgD<|Sy (t:=true) rfl<|OT<|Om<|OgD<|RH d cb5 rfl rfl (Yv d.bd hT) ?_);intro dv dw b2 dx b3;subst b3;refine OT<|Ua<|RY<|J0 rfl (resV.t rfl)<|RM ?_ b2.below
     rfl
    refine OgD<|RP<|OgD<|RP<|OgD<|Sj rfl rfl (fun bf=>?_)<|fun bf=>?_
    ·refine OgD (Sy (t:=false) rfl<|OT<|Om<|OgD<|RH d cb5 rfl rfl (Yv d.bd hT) ?_);intro dy dz b4 dB b5;subst b5;refine OT<|Ua<|RY<|J0 rfl (resV.t rfl)<|RM ?_ b4.below
     rfl
    exact OgD<|Sy (t:=false) rfl<|OT<|Om<|Oz<|OF<|Ua<|RY<|Wq rfl rfl d<|congrArg (Value.bool)<|(by exfalso;omega)
   exact OF<|Om<|Oz<|Oz<|Oz<|OyD<|OyD<|Oz<|OF<|Om<|Oz<|OF<|Ua<|RY<|Wq rfl rfl d<|congrArg (Value.bool)<|(by exfalso;omega)
  refine OF<|Nl<|Uc<|⟨_,_,d,rfl,rfl,rfl,rfl,rfl,rfl,rfl,hT,e,g,F,ac,L,(by omega),(by omega)⟩
 rintro dC dD ⟨dE,dG,aH,aI,aJ,aK,aL,aM,aO,aP,hT,e,g,m,A,B,he,hf⟩;obtain⟨dH,rfl⟩:=rebK (aC aI<|aC aJ<|aC aK<|aC aL<|aC aM<|aC aO<|aC aP aN);clear aI aJ aK aL aM aO aP;refine RZ ?_;obtain⟨l1,l2,l3,l4,l5,l6,l7,l8⟩:=Bt hsm (k0:=k0) (k1:=k1) (by omega) (by omega) (by omega) (by omega) (by omega) (by omega) hpp he hf;refine RK (Ol<|Uo (vs:=(ssC (fA lead k0) o p)) A ag29<|Ol<|Uo (vs:=(ssC (fA lead k1) r s)) B ag29<|Ol<|RH aH cb8 rfl rfl (I9 aH.bd (a:=(fA lead k0)) (Zm aj ak e) (b:=(fA lead k1)) (Zm al am g) oA.1 oB.1 oA.2 oB.2 hT (hA.si.intC (by decide)) (hB.si.intC (by decide)) qA (by omega) qB (by omega)) ?_);intro dO dP b6 P b7;have hT:=hT.sp P;have e:=e.sp P;have g:=g.sp P;have m:=m.spn P;have A:=A.spn P;have B:=B.spn P;obtain⟨dQ,dR,rfl,b8,rfl⟩:=b7;obtain⟨ad,ae,rfl,bg,bh,G⟩:=TO b8;refine Om (Ol<|St.extract rfl rfl<|Ol<|St.extract rfl rfl<|Ol<|RR b6 io29 rfl ?_);intro b9 dS dT dU af ca H cb;have cc:=af _ m.blk.lt;have cd:=af _ A.blk.lt;have ce:=af _ B.blk.lt;have A:=A.spn H;have B:=B.spn H;refine On (Us (cs':=(ssC (mulM (fA lead k0)<|fA lead k1) ad ae)) ca cb io29 ?_);intro dV aQ I ag;have hT:=(hT.sp H).sp I;have e:=(e.sp H).sp I;have g:=(g.sp H).sp I;have G:=(G.sp H).sp I;have m:=(m.spn H).spo I cc;refine Ua<|RZ<|SX (fun f v=>∃(x y:Nat→Prop),Cx X w x y v∧f 4=(.pointer (some ⟨J,0,none⟩))∧f 7=(.int .i64 pp)∧f 12=(.int .i64 ((filM (fA lead k0) k0 pp).1))∧f 14=(.int .i64 ((filM (fA lead k1) k1 pp).1))∧f 11=(.int .i64 (filM (mulM (fA lead k0)<|fA lead k1) (k0+k1) pp).2)∧f 17=(.int .i64 (filM (mulM (fA lead k0)<|fA lead k1) (k0+k1) pp).1)∧T10 x v∧RS Jj x v (.slice o (fA lead k0).cs.length p) (fA lead k0).cs∧RS Jj x v (.slice r (fA lead k1).cs.length s) (fA lead k1).cs∧RS Jj x v (.slice ad (mulM (fA lead k0)<|fA lead k1).cs.length ae) (mulM (fA lead k0)<|fA lead k1).cs∧Own w y v J [(.int .i64 k0),(.int .i64 k1)] 23∧Own w y v R (ssC (fA lead k0) o p) 29∧Own w y v U (ssC (fA lead k1) r s) 29∧Own w y v b9 (ssC (mulM (fA lead k0)<|fA lead k1) ad ae) 29) ?_ ?_
 ·refine RK (Ol<|Uo (vs:=(ssC (mulM (fA lead k0)<|fA lead k1) ad ae)) ag ag29<|Ol<|Sn (j:=0) ar23 io3 rfl rfl rfl (by decide)<|Ol<|RN m pl3 rfl rfl<|Ol<|Sn (j:=1) ar23 io3 rfl rfl rfl (by decide)<|Ol<|RN m pl3 rfl rfl<|Ol<|St.add (z:=(k0+k1)) rfl rfl (UP _ (by omega)) ?_);refine Om (Ol<|RH aQ cb7 rfl rfl (uh aQ.bd (a:=(mulM (fA lead k0)<|fA lead k1)) (Zm bg bh G) hT (sW hA.si hB.si) (KQ hA.si hB.si (by decide) (by decide)) (by omega) (by omega) (by omega) (by omega)) ?_);intro dW dX cf D cg;have hT:=hT.sp D;have e:=e.sp D;have g:=g.sp D;have G:=G.sp D;have m:=m.spn D;have A:=(A.spo I cd).spn D;have B:=(B.spo I ce).spn D;have ag:=ag.spn D;obtain⟨dY,dZ,rfl,rfl,rfl⟩:=cg;refine Ub<|St.extract rfl rfl<|Ol<|St.extract rfl rfl<|Oa<|Ua<|⟨_,_,cf,rfl,rfl,rfl,rfl,rfl,rfl,hT,e,g,G,m,A,B,ag⟩
 rintro d0 d1 ⟨d2,d3,aR,aS,aT,aU,aV,aW,aX,hT,e,g,G,ah,d4,d5,d6⟩;obtain⟨d7,rfl⟩:=rebK (aC aS<|aC aT<|aC aU<|aC aV<|aC aW<|aC aX aN);clear aS aT aU aV aW aX;refine Rg<|Ub<|SW (t:=true) rfl rfl (decide_eq_true l1)<|Om<|OgD<|RP<|OgD<|Sn (j:=0) ar23 io3 rfl rfl rfl (by decide)<|OgD<|RN ah pl3 rfl rfl<|OgD<|SU (t:=true) rfl rfl (decide_eq_true l3)<|OT<|TW (vals:=[(4,(.pointer (some ⟨J,0,none⟩))),(7,(.int .i64 pp)),(12,(.int .i64 ((filM (fA lead k0) k0 pp).1))),(14,(.int .i64 ((filM (fA lead k1) k1 pp).1))),(17,(.int .i64 (filM (mulM (fA lead k0)<|fA lead k1) (k0+k1) pp).1)),(142,(.bool true))]) (aC rfl<|aC rfl<|aC rfl<|aC rfl<|aC rfl<|aC rfl aN) fun d8=>?_
 refine Om (OgD<|Sn (j:=0) ar23 io3 rfl rfl rfl (by decide)<|OgD<|RN ah pl3 rfl rfl<|OgD<|RP<|OgD<|St.sub (z:=(k0-((filM (fA lead k0) k0 pp).1))) rfl rfl (UP _ (by omega))<|OgD<|RP<|OgD<|St.sub (z:=(pp-1)) rfl rfl (UP _ (by omega))<|OgD<|Sz rfl rfl (by omega) (IntWalk.rem_in _ _ (by omega)) ?_);refine OgD<|SW (t:=true) rfl rfl (decide_eq_true l4)<|OT<|TW (vals:=[(4,(.pointer (some ⟨J,0,none⟩))),(7,(.int .i64 pp)),(12,(.int .i64 ((filM (fA lead k0) k0 pp).1))),(14,(.int .i64 ((filM (fA lead k1) k1 pp).1))),(17,(.int .i64 (filM (mulM (fA lead k0)<|fA lead k1) (k0+k1) pp).1)),(152,(.bool true))]) (aC rfl<|aC rfl<|aC rfl<|aC rfl<|aC rfl<|aC rfl aN) fun d9=>?_
 refine Om<|OgD<|RP<|OgD<|Sn (j:=1) ar23 io3 rfl rfl rfl (by decide)<|OgD<|RN ah pl3 rfl rfl<|OgD<|SU (t:=true) rfl rfl (decide_eq_true l6)<|OT<|TW (vals:=[(4,(.pointer (some ⟨J,0,none⟩))),(7,(.int .i64 pp)),(12,(.int .i64 ((filM (fA lead k0) k0 pp).1))),(14,(.int .i64 ((filM (fA lead k1) k1 pp).1))),(17,(.int .i64 (filM (mulM (fA lead k0)<|fA lead k1) (k0+k1) pp).1)),(158,(.bool true))]) (aC rfl<|aC rfl<|aC rfl<|aC rfl<|aC rfl<|aC rfl aN) fun ea=>?_
 refine Om (OgD<|Sn (j:=1) ar23 io3 rfl rfl rfl (by decide)<|OgD<|RN ah pl3 rfl rfl<|OgD<|RP<|OgD<|St.sub (z:=(k1-((filM (fA lead k1) k1 pp).1))) rfl rfl (UP _ (by omega))<|OgD<|RP<|OgD<|St.sub (z:=(pp-1)) rfl rfl (UP _ (by omega))<|OgD<|Sz rfl rfl (by omega) (IntWalk.rem_in _ _ (by omega)) ?_);refine OgD (SW (t:=true) rfl rfl (decide_eq_true l7)<|OT<|TW (vals:=[(12,(.int .i64 ((filM (fA lead k0) k0 pp).1))),(14,(.int .i64 ((filM (fA lead k1) k1 pp).1))),(17,(.int .i64 (filM (mulM (fA lead k0)<|fA lead k1) (k0+k1) pp).1)),(168,(.bool true))]) (aC rfl<|aC rfl<|aC rfl<|aC rfl aN) fun eb=>(Om ?_));refine OgD (RP<|OgD<|RP<|OgD<|RP<|OgD<|St.add (z:=(((filM (fA lead k0) k0 pp).1)+((filM (fA lead k1) k1 pp).1))) rfl rfl (UP _ (by omega))<|OgD<|SU (t:=true) rfl rfl (decide_eq_true l8)<|OT<|TW (vals:=[(175,(.bool true))]) (aC rfl aN) fun ec=>(Om ?_));refine OgD (RH aR cb5 rfl rfl (Yv aR.bd hT) ?_);intro ed ee ch ef ci;subst ci;refine OT<|Ua<|RY<|J0 rfl (resV.t rfl)<|RM ?_ ch.below
 rfl
end Go.Wf
namespace Go.Proofs.YtnaegfdjkncaoaaGreatDoor
open Go Go.Ev Go.Wf Go.RowKit Go.Proofs
def Cl:List Int:=[0,1,56,2,57,49,28,3,61,58,42,50,38,29,17,4,62,47,59,36,45,43,51,22,53,39,33,30,24,18,12,5,63,55,48,27,60,41,37,16,46,35,44,21,52,32,23,11,54,26,40,15,34,20,31,10,25,14,19,9,13,8,7,6]
theorem tH:vc=Cl.map (fun z=>AV.i .u8 z):=by rfl
theorem nG:(Rows.laid_math_bits_deBruijn64tab:DataW Unit)=Lib.tabData .u8 Cl:=by rfl
def za:List (String×DataW Unit):=Rows.congruenceFiltrationsRow.laid
theorem g64:Tryz.prog.globalNamed "math/bits.deBruijn64tab" =some 1:=by kernel_rfl
theorem t64:(Tryz.prog.globals[1]?).map (·.type)=some 373:=by kernel_rfl
theorem u5:Tryz.prog.underlying 5=some (.int .u8):=by kernel_rfl
theorem c5:Tryz.prog.cellsOf 5=1:=by kernel_rfl
theorem c373:Tryz.prog.cellsOf 373=64:=by kernel_rfl
theorem I4{W:World}(h:laidMetH Tryz.prog za W):Xo W 2 [(1,vc)]:=by
 rw[MakeChecks.laidMetH_plain _ _ _ (by kernel_rfl)] at h;obtain⟨g,t,cs,fuel,p,e,j,b,f⟩:=Lib.laidMet.reads h (n:= "math/bits.deBruijn64tab") (d:=Rows.laid_math_bits_deBruijn64tab) (.head _);obtain rfl:=Jaj (g64.symm.trans e);obtain rfl:=Jaj (t64.symm.trans j);rw[nG] at f;have hcs:=Lib.cells_of_tab Tryz.underlying373 u5 c5 c373 f;intro q hq;obtain rfl:q=(1,vc):=by simpa using hq
 refine⟨by decide,?_⟩;unfold World.var? at b;rw[e] at b;simp only[Jae] at b;split at b
 ·rename_i C T fr hC;cases b;refine⟨_,T,fr,hC,fun Φ i a hi=>?_⟩
  have hi:vc[i]? =some a:=hi;rw[tH,VA] at hi;simp only[Jah] at hi;obtain⟨z,hz,rfl⟩:=hi;refine⟨.int .u8 z,?_,by simp only[Rv]⟩;rw[Jab,←VF,hcs,VA,hz]
  rfl
 ·cases b
theorem QV:ownKnob Tryz.prog.godebug=none:=by kernel_rfl
end Go.Proofs.YtnaegfdjkncaoaaGreatDoor
namespace Go.Joint
open Go
def Bl(P:Program)(f:FuncId):List FuncId:=Option.rec [] (fun g=>P.leadsTo g) P.funcs[f]?
theorem AX(P:Program)(f:FuncId):Bl P f=(P.funcs[f]?).elim [] P.leadsTo:=by unfold Bl;cases P.funcs[f]?<;>rfl
def clo(P:Program)(n:Nat):List FuncId→List FuncId→Nat→List FuncId:=
 Nat.rec (fun _ seen _=>seen) (fun _ ih todo seen bits=>List.rec seen (fun f todo' _=>Bool.rec (ih (Bl P f++todo') (f::seen) (Nat.lor bits (Nat.shiftLeft 1 f))) (ih todo' seen bits) (Nat.beq (Nat.land (Nat.shiftRight bits f) 1) 1)) todo) n
theorem Hy(b f:Nat):Nat.beq (Nat.land (Nat.shiftRight b f) 1) 1=b.testBit f:=by
 have e:Nat.land (Nat.shiftRight b f) 1=(b >>> f)%2:=Nat.and_one_is_mod _;rw[e,ZY,ZT];have h:b/2^f%2<2:=UI _ (by decide);cases a:b/2^f%2 with
 |zero=>rfl
 |succ m=>
  cases m with
  |zero=>rfl
  |succ k=>omega
theorem IR(P:Program):∀(n:Nat) (todo seen:List FuncId) (bits:Nat),(∀f,bits.testBit f=seen.contains f)→P.closureVia n todo seen=(clo P n todo seen bits).reverse:=by
 intro n
 induction n with
 |zero=>intro todo seen bits _;rfl
 |succ n ih=>
  intro todo seen bits hb;cases todo with
  |nil=>rfl
  |cons f todo=>
   have b:P.closureVia (n+1) (f::todo) seen=if seen.contains f then P.closureVia n todo seen else P.closureVia n ((P.funcs[f]?).elim [] P.leadsTo++todo) (f::seen):=rfl;have d:clo P (n+1) (f::todo) seen bits=Bool.rec (clo P n (Bl P f++todo) (f::seen) (Nat.lor bits (Nat.shiftLeft 1 f))) (clo P n todo seen bits) (Nat.beq (Nat.land (Nat.shiftRight bits f) 1) 1):=rfl;rw[b,d,Hy,hb f,AX];cases h:seen.contains f with
   |true=>exact ih todo seen bits hb
   |false=>
    refine ih _ _ _ fun g=>?_
    have i:Nat.lor bits (Nat.shiftLeft 1 f)=bits ||| 1 <<< f:=rfl;rw[i,Nat.testBit_or,hb g,Nat.one_shiftLeft,Nat.testBit_two_pow,List.contains_cons];by_cases a:f=g
    ·subst a;simp
    ·rw[decide_eq_false a]
     have:(g==f)=false:=by simpa using fun e=>a e.symm
     rw[this,Bool.or_false,Bool.false_or]
theorem qY{P:Program}{f:FuncId}{l:List FuncId}(h:clo P (1+(P.funcs.toList.map fun g=>(P.leadsTo g).length+1).sum) [f] [] 0=l):P.closure f=l.reverse:=by
 unfold Program.closure;rw[IR P _ _ _ 0 (fun f=>by simp),h]
theorem HO {P:Program} {f:FuncId} {fn:Func} {s:ChangeSpec} {c:OpenClaim} (m:c.wf (OpenSpec.ofChange s)=true) (n:laidOutB P=true) (o:mapsRowed P=true)
  (h:(fn.params.all (P.readableRec ·)&&namedTie P c.named s.vars&&(c.stops==[])&&(P.stops==[])&&(c.knobs==[])&&(P.stopKnobs==[]))=true)
  (p:P.inPlace f=c.inPlace) (r:P.unfollowed f=c.unfollowed) (u:P.recurses f=c.recurses) (v:P.varsNamed f=c.named)
  (i:((c.maps==(fn.params.toList++s.plain.varTypes P).any (P.mapsRec ·))&&(c.ifaces==(fn.params.toList++s.plain.varTypes P).any (P.ifacesRec ·))&&(c.mapsOut==P.mapsAmong fn.resultTypes.toList)&&(c.loops==(fn.params.toList++s.plain.varTypes P).any (P.loopsFrom ·))&&(c.wideKeys==(fn.params.toList++s.plain.varTypes P++fn.resultTypes.toList).any (P.wideKeysFrom ·)))=true)
  (b:(s.vars.all (P.varReadable ·)&&fn.resultTypes.all (fun t=>P.readableRec t&&decide (t<P.types.size))&&(c.ifacesOut==fn.resultTypes.toList.any (P.ifacesRec ·))&&(c.loopsOut==fn.resultTypes.toList.any (P.loopsFrom ·)))=true)
  (j:P.plainKeys=c.plainKeys) (d:(c.shortTexts.isNone&&P.stopsHeard)=true) (l:P.mayEnter=true) (e:(c.lifted==P.liftsFinal&&(P.make==some c.make))=true)
  (a:((c.kinds==(if c.domain.isEmpty then [] else fn.params.toList.map fun t=>match P.underlying t with|some (.int k)=>some k|_=>none))&&(c.pinned==c.pinnedBy))=true)
  (g:((c.veiled==(fn.params.toList++s.plain.varTypes P++fn.resultTypes.toList).any (P.veiledRec ·))&&c.veiledFits P fn.params.toList (fn.params.toList++s.plain.varTypes P++fn.resultTypes.toList))=true):
  joinedFacts P f fn s c=true:=by
 simp only[VJ] at h i b d e a g;unfold joinedFacts;rw[p,r,u,v,j];simp only[m,n,o,h,i,b,d,l,e,a,g,Bool.and_self,beq_self_eq_true,Bool.and_true,VQ];exact a.1
end Go.Joint
