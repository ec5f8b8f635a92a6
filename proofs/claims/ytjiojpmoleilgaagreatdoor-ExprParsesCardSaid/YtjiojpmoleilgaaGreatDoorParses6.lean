/- Part 6 of the texts for the claim. -/
import Derived.Test.YtjiojpmoleilgaaGreatDoorParses5
set_option linter.unusedVariables false
set_option linter.unusedSimpArgs false
set_option maxRecDepth 100000
set_option maxHeartbeats 4000000
noncomputable section
namespace Go.Wf
open Go Go.Proofs Go.RowKit
theorem Jrf{X:Nat→Prop}{w:World}(hX:XB X w){g:Nat}{s:List UInt8}{p o:Nat}(hB:Blk w g (rc4 s p 0 o) 62)(hXg:X g){S:Nat→Nat→Rr GExpr}{lo B:Nat}(hp:p≤s.length)(hs:s.length≤65536)(fP:s.length≤1000)(ho:o≤1099511627776)(hS:∀ o p,p≤s.length→(S o p).fw s p)(ih:SumX s S lo B)(hoB:o+1≤B)(hlo:lo≤p):Calls Tryz.prog 203 #[(.pointer (some ⟨g,0,none⟩))] w (RetM w g fun v w'=>(∃ m:GExpr,RV Jg X w' v m∧Got (wdM s S o p) m∧Rr.fine s (wdM s S o p))∧Blk w' g (rc4 s (plR ((wdM s S o p).u)) (ecR ((wdM s S o p).u)) o) 62):=by
 have C:=J1t g hX hXg;have o0:=J38 hB
 have:maxLen=9223372036854775807:=rfl
 refine Cgo (args:=[(.pointer (some ⟨g,0,none⟩))]) Tryz.func203 rfl rfl rfl (Rg<|Ol<|J05 C io31 rfl ?_);intro g1 w2 x3 y4 es C6 s7 o8;have L:=es _ o0.blk.lt;replace o0:=o0.spn s7;refine Nl<|Rg<|Om<|Ol<|J03 rfl<|Ol<|J0s Zd rfl<|Ol<|J0x o0 pl3 rfl rfl<|Oa<|Nl<|J4n (fun f v=>∃ (x y:Nat→Prop) (i:Nat),Cx X ⟨w,(· =g)⟩ x y v∧f 0=(.pointer (some ⟨g,0,none⟩))∧f 2=(.pointer (some ⟨g1,0,none⟩))∧f 3=(.int .i64 ((p:Nat):Int))∧f 4=(str<|Jr s p)∧Own ⟨w,(· =g)⟩ y v g [(str s),(.int .i64 ((plR (.ok () i):Nat):Int)),(.int .i64 (ecR<|.ok () i)),(.int .i64 ((o:Nat):Int))] 62∧Own ⟨w,(· =g)⟩ y v g1 [(.int .i64 0),(.slice none 0 0),(.bool false),(.slice none 0 0),(.bool false),(.slice none 0 0),(str []),(.slice none 0 0)] 31∧i=p+(Jr s p).length∧i≤s.length) ?_ ?_
 ·refine W.block (J1g (fun μ f v=>∃ (x y:Nat→Prop) (i:Nat),Cx X ⟨w,(· =g)⟩ x y v∧f 0=(.pointer (some ⟨g,0,none⟩))∧f 2=(.pointer (some ⟨g1,0,none⟩))∧f 3=(.int .i64 ((p:Nat):Int))∧Own ⟨w,(· =g)⟩ y v g [(str s),(.int .i64 ((i:Nat):Int)),(.int .i64 0),(.int .i64 ((o:Nat):Int))] 62∧Own ⟨w,(· =g)⟩ y v g1 [(.int .i64 0),(.slice none 0 0),(.bool false),(.slice none 0 0),(.bool false),(.slice none 0 0),(str []),(.slice none 0 0)] 31∧i≤s.length∧p≤i∧i+(Jr s i).length=p+(Jr s p).length∧μ=(s.length - i)) _ ⟨_,_,p,C6,rfl,rfl,rfl,o0,o8,hp,(Nat.le_refl _),rfl,rfl⟩ ?_);rintro fQ fR fS ⟨fT,fU,i,a4,bQ,bR,bS,r,R,hi,hpi,hR,eN⟩;obtain⟨fV,rfl⟩:=rebK (aC bQ<|aC bR<|aC bS aN);clear bQ bR bS;refine J06<|J06 ?_
  by_cases hin:i < s.length
  ·by_cases hle:Ke (s.getD i 0).toNat=true
   ·refine J12 mixed 30 a4 (Qm<|Qn<|Qf Zd rfl<|Qd r pl3 rfl rfl<|Qm<|Qn<|Qf Kt rfl<|Qd r pl9 rfl rfl<|Qp (fun _=>J1v un9 rfl ⟨rfl,rfl⟩)<|Qp (fun _=>J15 (t:=true) rfl rfl (decide_eq_true (by omega)) ⟨rfl,rfl⟩)<|Qm<|Qg<|Qm<|Qg<|Qn<|Qg<|Qf Kt rfl<|Qg<|Qd r pl9 rfl rfl<|Qg<|Qm<|Qg<|Qn<|Qg<|Qf Zd rfl<|Qg<|Qd r pl3 rfl rfl ?_);refine Qg<|Qp (fun _=>J1p (j:=i) (c:=(s.getD i 0)) un9 rfl rfl rfl (Jf (by omega)) ⟨rfl,rfl⟩)<|Qg<|Qw (fun w c=>J0t c.1 cb46 rfl rfl (Jhs c.1.bd (n:=(s.getD i 0).toNat)) fun _ _ C s h=>⟨h.trans<|congrArg Value.bool hle,C,c.2.trans s⟩)<|Qg<|Qm<|Qx<|Qx<|Qx<|Qx<|Qx<|Qx<|Qx<|Qx<|Qz fun fW et bT=>?_
    replace r:=r.spn bT;refine Oz (Oz<|OgD<|J1f (t:=true) rfl<|OT<|Nl<|J0w rfl<|J01<|W.block<|J0y<|Om<|Om<|Ol<|J03 rfl<|Ol<|J0s Zd rfl<|Ol<|J0x r pl3 rfl rfl<|Ol<|St.add rfl rfl (Jc (a:=i) (b:=1) (by omega))<|Ol<|J03 rfl ?_);refine Ol (J0s Zd rfl<|On<|J0u (cs':=[(str s),(.int .i64 ((i+1:Nat):Int)),(.int .i64 0),(.int .i64 ((o:Nat):Int))]) et r io3 rfl rfl rfl rfl rfl rfl ?_);intro fX eu ev ew;replace R:=(R.spn bT).spo ev (Ne.symm L);refine Nl<|⟨_,(by omega),_,_,(i+1),eu,rfl,rfl,rfl,ew,R,(by omega),(by omega),((Jas (by omega)<|.inl hle).trans hR),rfl⟩
   by_cases hdi:Yl (s.getD i 0).toNat=true
   ·refine J12 mixed 30 a4 (Qm<|Qn<|Qf Zd rfl<|Qd r pl3 rfl rfl<|Qm<|Qn<|Qf Kt rfl<|Qd r pl9 rfl rfl<|Qp (fun _=>J1v un9 rfl ⟨rfl,rfl⟩)<|Qp (fun _=>J15 (t:=true) rfl rfl (decide_eq_true (by omega)) ⟨rfl,rfl⟩)<|Qm<|Qg<|Qm<|Qg<|Qn<|Qg<|Qf Kt rfl<|Qg<|Qd r pl9 rfl rfl<|Qg<|Qm<|Qg<|Qn<|Qg<|Qf Zd rfl<|Qg<|Qd r pl3 rfl rfl ?_);refine Qg (Qp (fun _=>J1p (j:=i) (c:=(s.getD i 0)) un9 rfl rfl rfl (Jf (by omega)) ⟨rfl,rfl⟩)<|Qg<|Qw (fun w c=>J0t c.1 cb46 rfl rfl (Jhs c.1.bd (n:=(s.getD i 0).toNat)) fun _ _ C s h=>⟨h.trans<|congrArg Value.bool<|Bool.eq_false_iff.2 hle,C,c.2.trans s⟩)<|Qg<|Qm<|Qg<|Qm<|Qg<|Qn<|Qg<|Qf Kt rfl<|Qg<|Qd r pl9 rfl rfl<|Qg<|Qm ?_);refine Qg<|Qn<|Qg<|Qf Zd rfl<|Qg<|Qd r pl3 rfl rfl<|Qz fun fY bU bV=>?_
    replace R:=R.spn bV;refine OgD (J1p (j:=i) (c:=(s.getD i 0)) un9 rfl rfl rfl (Jf (by omega))<|OgD<|J0t bU cb48 rfl rfl (Jhj bU.bd (n:=(s.getD i 0).toNat)) ?_);intro fZ f0 ex bW bX;replace r:=(r.spn bV).spn bW;rw [hdi] at bX;subst bX;refine OgD (J1f (t:=false) rfl<|OT<|Nl<|J0w rfl<|J01<|W.block<|J0y<|Om<|Om<|Ol<|J03 rfl<|Ol<|J0s Zd rfl<|Ol<|J0x r pl3 rfl rfl<|Ol<|St.add rfl rfl (Jc (a:=i) (b:=1) (by omega))<|Ol<|J03 rfl<|Ol<|J0s Zd rfl ?_);refine On (J0u (cs':=[(str s),(.int .i64 ((i+1:Nat):Int)),(.int .i64 0),(.int .i64 ((o:Nat):Int))]) ex r io3 rfl rfl rfl rfl rfl rfl ?_);intro f1 ey ez eA;replace R:=(R.spn bW).spo ez (Ne.symm L);refine Nl<|⟨_,(by omega),_,_,(i+1),ey,rfl,rfl,rfl,eA,R,(by omega),(by omega),((Jas (by omega)<|.inr hdi).trans hR),rfl⟩
   refine J12 mixed 30 a4 (Qm<|Qn<|Qf Zd rfl<|Qd r pl3 rfl rfl<|Qm<|Qn<|Qf Kt rfl<|Qd r pl9 rfl rfl<|Qp (fun _=>J1v un9 rfl ⟨rfl,rfl⟩)<|Qp (fun _=>J15 (t:=true) rfl rfl (decide_eq_true (by omega)) ⟨rfl,rfl⟩)<|Qm<|Qg<|Qm<|Qg<|Qn<|Qg<|Qf Kt rfl<|Qg<|Qd r pl9 rfl rfl<|Qg<|Qm<|Qg<|Qn<|Qg<|Qf Zd rfl<|Qg<|Qd r pl3 rfl rfl ?_);refine Qg (Qp (fun _=>J1p (j:=i) (c:=(s.getD i 0)) un9 rfl rfl rfl (Jf (by omega)) ⟨rfl,rfl⟩)<|Qg<|Qw (fun w c=>J0t c.1 cb46 rfl rfl (Jhs c.1.bd (n:=(s.getD i 0).toNat)) fun _ _ C s h=>⟨h.trans<|congrArg Value.bool<|Bool.eq_false_iff.2 hle,C,c.2.trans s⟩)<|Qg<|Qm<|Qg<|Qm<|Qg<|Qn<|Qg<|Qf Kt rfl<|Qg<|Qd r pl9 rfl rfl<|Qg<|Qm ?_);refine Qg<|Qn<|Qg<|Qf Zd rfl<|Qg<|Qd r pl3 rfl rfl<|Qz fun f2 bY bZ=>?_
   replace R:=R.spn bZ;refine OgD (J1p (j:=i) (c:=(s.getD i 0)) un9 rfl rfl rfl (Jf (by omega))<|OgD<|J0t bY cb48 rfl rfl (Jhj bY.bd (n:=(s.getD i 0).toNat)) ?_);intro f3 f4 eB b0 b1;replace r:=(r.spn bZ).spn b0;rw [(Bool.eq_false_iff.2 hdi)] at b1;subst b1;refine OgD<|J1f (t:=false) rfl<|OT<|Nl<|J0v rfl<|J1j<|J12 mixed 9 eB<|Qm<|Qn<|Qf Kt rfl<|Qd r pl9 rfl rfl<|Qm<|Qm<|Qn<|Qf Zd rfl<|Qd r pl3 rfl rfl<|Qz fun f5 eC b2=>?_
   replace r:=r.spn b2;replace R:=(R.spn b0).spn b2;refine Ol<|J2g (i:=p) (j:=i) un9 rfl rfl rfl rfl rfl (by omega) (by omega)<|Oa<|Nl<|⟨_,_,i,eC,rfl,rfl,rfl,(congrArg str<|Je6 (Jak hle hdi) hR),r,R,(Jao (Jak hle hdi) hR),hi⟩
  refine J12 mixed 30 a4<|Qm<|Qn<|Qf Zd rfl<|Qd r pl3 rfl rfl<|Qm<|Qn<|Qf Kt rfl<|Qd r pl9 rfl rfl<|Qp (fun _=>J1v un9 rfl ⟨rfl,rfl⟩)<|Qp (fun _=>J15 (t:=false) rfl rfl (decide_eq_false (by omega)) ⟨rfl,rfl⟩)<|Qm<|Qx<|Qx<|Qx<|Qx<|Qx<|Qx<|Qx<|Qx<|Qx<|Qx<|Qx<|Qx<|Qx<|Qx<|Qx<|Qx<|Qx<|Qx<|Qx<|Qz fun f6 eD b3=>?_
  replace r:=r.spn b3;refine OyD<|OyD<|Oz<|OF<|Nl<|J0v rfl<|J1j<|J12 mixed 9 eD<|Qm<|Qn<|Qf Kt rfl<|Qd r pl9 rfl rfl<|Qm<|Qm<|Qn<|Qf Zd rfl<|Qd r pl3 rfl rfl<|Qz fun f7 eE b4=>?_
  replace r:=r.spn b4;replace R:=(R.spn b3).spn b4;refine Ol<|J2g (i:=p) (j:=i) un9 rfl rfl rfl rfl rfl (by omega) (by omega)<|Oa<|Nl<|⟨_,_,i,eE,rfl,rfl,rfl,(congrArg str<|Je6 (Jex (by omega)) hR),r,R,(Jao (Jex (by omega)) hR),hi⟩
 rintro f8 f9 ⟨ga,gb,i,z,b5,b6,b7,b8,k,e,hiw,hil⟩;obtain⟨gc,rfl⟩:=rebK (aC b5<|aC b6<|aC b7<|aC b8 aN);clear b5 b6 b7 b8;have hwl:(Jr s p).length≤1000:=by omega
 refine Rh<|Om<|Nl<|W.block<|Rg<|Ol<|J1r rfl rfl (fun M=>?_)<|fun M=>?_
 ·refine Oa (Nl<|J0w rfl<|Rg<|Ol<|J09 (cs:=[(.int .i64 6),(.slice none 0 0),(.bool false),(.slice none 0 0),(.bool false),(.slice none 0 0),(str []),(.slice none 0 0)]) rfl (by kernel_rfl)<|On<|J0u (cs':=[(.int .i64 6),(.slice none 0 0),(.bool false),(.slice none 0 0),(.bool false),(.slice none 0 0),(str []),(.slice none 0 0)]) z e io31 rfl rfl rfl rfl rfl rfl ?_);intro gd b9 eF eG;replace k:=k.spo eF L;refine Nl<|J04<|Jo rfl (resV.c eG rfl ag31 rfl)<|RetM.intro ⟨?_,?_⟩ b9.below
  ·exact⟨(.mk 6 [] ⟨⟨false,[]⟩,⟨false,[]⟩⟩ [] []),(Zs (by omega) (by omega) (by unfold maxLen;simp) RS.nil RS.nil RS.nil RS.nil).tr (Tr.weak b9.base),(yo hiw<|.inl ⟨M,rfl⟩).2,(Yo (by rw [← (yo hiw<|.inl ⟨M,rfl⟩).1];exact hil))⟩
  exact Blk.to4 k.blk (congrArg plR (yo hiw<|.inl ⟨M,rfl⟩).1) (congrArg ecR (yo hiw<|.inl ⟨M,rfl⟩).1) rfl
 refine Oa<|Nl<|J0v rfl<|Rg<|Ol<|J1r rfl rfl (fun N=>?_)<|fun N=>?_
 ·refine Oa (Nl<|J0w rfl<|Rg<|Ol<|J09 (cs:=[(.int .i64 7),(.slice none 0 0),(.bool false),(.slice none 0 0),(.bool false),(.slice none 0 0),(str []),(.slice none 0 0)]) rfl (by kernel_rfl)<|On<|J0u (cs':=[(.int .i64 7),(.slice none 0 0),(.bool false),(.slice none 0 0),(.bool false),(.slice none 0 0),(str []),(.slice none 0 0)]) z e io31 rfl rfl rfl rfl rfl rfl ?_);intro gf ca eH eI;replace k:=k.spo eH L;refine Nl<|J04<|Jo rfl (resV.c eI rfl ag31 rfl)<|RetM.intro ⟨?_,?_⟩ ca.below
  ·exact⟨(.mk 7 [] ⟨⟨false,[]⟩,⟨false,[]⟩⟩ [] []),(Zs (by omega) (by omega) (by unfold maxLen;simp) RS.nil RS.nil RS.nil RS.nil).tr (Tr.weak ca.base),(yo hiw<|.inr ⟨N,rfl⟩).2,(Yo (by rw [← (yo hiw<|.inr ⟨N,rfl⟩).1];exact hil))⟩
  exact Blk.to4 k.blk (congrArg plR (yo hiw<|.inr ⟨N,rfl⟩).1) (congrArg ecR (yo hiw<|.inr ⟨N,rfl⟩).1) rfl
 refine Oa<|Nl<|J0v rfl<|Rg<|Ol<|J1r rfl rfl (fun P=>?_)<|fun P=>?_
 ·refine Oa (Nl<|J0w rfl<|Rg<|Om<|Ol<|J08 z k Jp3 rfl rfl (Jd2 z.bd (s:=s) (t:=(.ok () i)) (o:=o) k.blk (z.yx _ k.mem) (a:=40) (b:=41) hil hs ho<|.inl ⟨rfl,rfl⟩) ?_);intro gg gh eJ eK a9 eL;replace e:=e.spo eK (Ne.symm L);obtain⟨ba,a5,aw,eS,cf⟩:=eL;obtain⟨cb,cc,rfl,_,_⟩:=a5.len;refine Ol (J09 (cs:=[(.int .i64 3),(.slice cb ba.length cc),(.bool false),(.slice none 0 0),(.bool false),(.slice none 0 0),(str []),(.slice none 0 0)]) rfl (by kernel_rfl)<|On<|J0u (cs':=[(.int .i64 3),(.slice cb ba.length cc),(.bool false),(.slice none 0 0),(.bool false),(.slice none 0 0),(str []),(.slice none 0 0)]) eJ e io31 rfl rfl rfl rfl rfl rfl ?_);intro gi cd ce eM;replace a5:=a5.sp ce;replace a9:=a9.spo ce L;refine Nl<|J04<|Jo rfl (resV.c eM rfl ag31 rfl)<|RetM.intro ⟨?_,?_⟩ cd.below
  ·exact⟨(.mk 3 ba ⟨⟨false,[]⟩,⟨false,[]⟩⟩ [] []),(Zs (by omega) (by omega) (by unfold maxLen;simp) a5 RS.nil RS.nil RS.nil).tr (Tr.weak cd.base),(Yv (Vo hiw<|.inl ⟨P,rfl⟩)<|ls_R aw).2,(Yo (by rw [← (Yv (Vo hiw<|.inl ⟨P,rfl⟩)<|ls_R aw).1];exact(Z5 cf)))⟩
  exact Blk.to4 a9.blk (congrArg plR (Yv (Vo hiw<|.inl ⟨P,rfl⟩)<|ls_R aw).1) (congrArg ecR (Yv (Vo hiw<|.inl ⟨P,rfl⟩)<|ls_R aw).1) rfl
 refine Oa<|Nl<|J0v rfl<|Rg<|Ol<|J1r rfl rfl (fun Q=>?_)<|fun Q=>?_
 ·refine Oa (Nl<|J0w rfl<|Rg<|Om<|Ol<|J08 z k Jp3 rfl rfl (Jd2 z.bd (s:=s) (t:=(.ok () i)) (o:=o) k.blk (z.yx _ k.mem) (a:=40) (b:=41) hil hs ho<|.inl ⟨rfl,rfl⟩) ?_);intro eT eU cg ch aB ci;replace e:=e.spo ch (Ne.symm L);obtain⟨aD,ax,ag,eO,bI⟩:=ci;obtain⟨bb,bc,rfl,_,_⟩:=ax.len;refine Ol (J09 (cs:=[(.int .i64 9),(.slice bb aD.length bc),(.bool false),(.slice none 0 0),(.bool false),(.slice none 0 0),(str []),(.slice none 0 0)]) rfl (by kernel_rfl)<|On<|J0u (cs':=[(.int .i64 9),(.slice bb aD.length bc),(.bool false),(.slice none 0 0),(.bool false),(.slice none 0 0),(str []),(.slice none 0 0)]) cg e io31 rfl rfl rfl rfl rfl rfl ?_);intro eV be bf cj;replace ax:=ax.sp bf;replace aB:=aB.spo bf L;refine Nl<|J04<|Jo rfl (resV.c cj rfl ag31 rfl)<|RetM.intro ⟨?_,?_⟩ be.below
  ·exact⟨(.mk 9 aD ⟨⟨false,[]⟩,⟨false,[]⟩⟩ [] []),(Zs (by omega) (by omega) (by unfold maxLen;simp) ax RS.nil RS.nil RS.nil).tr (Tr.weak be.base),(Yv (Vo hiw<|.inr ⟨Q,rfl⟩)<|ls_R ag).2,(Yo (by rw [← (Yv (Vo hiw<|.inr ⟨Q,rfl⟩)<|ls_R ag).1];exact(Z5 bI)))⟩
  exact Blk.to4 aB.blk (congrArg plR (Yv (Vo hiw<|.inr ⟨Q,rfl⟩)<|ls_R ag).1) (congrArg ecR (Yv (Vo hiw<|.inr ⟨Q,rfl⟩)<|ls_R ag).1) rfl
 refine Oa<|Nl<|J0v rfl<|Rg<|Ol<|J1r rfl rfl (fun D=>?_)<|fun D=>?_
 ·refine Oa (Nl<|J0w rfl<|Rg<|Om<|Ol<|J08 z k Jtf rfl rfl (Jfn z.bd (s:=s) (t:=(.ok () i)) (o:=o) k.blk (z.yx _ k.mem) hil hs ho (by decide) (by decide)) ?_);intro eW eX ck cl aE cm;replace e:=e.spo cl (Ne.symm L);obtain⟨aF,cn,ah,bJ⟩:=cm;obtain⟨co,cp,cq,cr,ct,cu,cv,cw,rfl,V⟩:=J37 cn;refine On (J0u (cs':=(ec aF co cp cq cr ct cu cv cw)) ck e io31 rfl rfl rfl rfl rfl rfl ?_);intro eY bg bh cx;replace V:=V.sp bh;replace aE:=aE.spo bh L;refine Nl<|J04<|Jo rfl (resV.c cx rfl ag31 rfl)<|RetM.intro ⟨?_,?_⟩ bg.below
  ·exact⟨aF,(Ju aF V.lo V.hi V.name V.n V.num V.den V.args).tr (Tr.weak bg.base),(Yv (ys hiw<|.inl ⟨D,rfl⟩) ⟨rfl,ah⟩).2,(Yo (by rw [← (Yv (ys hiw<|.inl ⟨D,rfl⟩) ⟨rfl,ah⟩).1];exact(Z5 bJ)))⟩
  exact Blk.to4 aE.blk (congrArg plR (Yv (ys hiw<|.inl ⟨D,rfl⟩) ⟨rfl,ah⟩).1) (congrArg ecR (Yv (ys hiw<|.inl ⟨D,rfl⟩) ⟨rfl,ah⟩).1) rfl
 refine Oa<|Nl<|J0v rfl<|Rg<|Ol<|J1r rfl rfl (fun E=>?_)<|fun E=>?_
 ·refine Oa (Nl<|J0w rfl<|Rg<|Om<|Ol<|J08 z k Jtf rfl rfl (Jfn z.bd (s:=s) (t:=(.ok () i)) (o:=o) k.blk (z.yx _ k.mem) hil hs ho (by decide) (by decide)) ?_);intro eZ e0 cy cz aG cE;replace e:=e.spo cz (Ne.symm L);obtain⟨aH,cF,ai,bK⟩:=cE;obtain⟨cG,cH,cI,cJ,cK,cL,cM,cN,rfl,Y⟩:=J37 cF;refine On (J0u (cs':=(ec aH cG cH cI cJ cK cL cM cN)) cy e io31 rfl rfl rfl rfl rfl rfl ?_);intro e1 bi bj cO;replace Y:=Y.sp bj;replace aG:=aG.spo bj L;refine Nl<|J04<|Jo rfl (resV.c cO rfl ag31 rfl)<|RetM.intro ⟨?_,?_⟩ bi.below
  ·exact⟨aH,(Ju aH Y.lo Y.hi Y.name Y.n Y.num Y.den Y.args).tr (Tr.weak bi.base),(Yv (ys hiw<|.inr ⟨E,rfl⟩) ⟨rfl,ai⟩).2,(Yo (by rw [← (Yv (ys hiw<|.inr ⟨E,rfl⟩) ⟨rfl,ai⟩).1];exact(Z5 bK)))⟩
  exact Blk.to4 aG.blk (congrArg plR (Yv (ys hiw<|.inr ⟨E,rfl⟩) ⟨rfl,ai⟩).1) (congrArg ecR (Yv (ys hiw<|.inr ⟨E,rfl⟩) ⟨rfl,ai⟩).1) rfl
 refine Oa<|Nl<|J0v rfl<|Rg<|Ol<|J1r rfl rfl (fun F=>?_)<|fun F=>?_
 ·refine Oa (Nl<|J0w rfl<|Rg<|Om<|Ol<|J08 z k Ji8 rfl rfl (Jkd z.bd (s:=s) (t:=(.ok () i)) (o:=o) k.blk (z.yx _ k.mem) (ar:=1) hil hs ho (by decide) (by decide) (.inl rfl) hS ih hoB<|Jde (by omega)) ?_);intro e2 e3 cP cQ aI cR;replace e:=e.spo cQ (Ne.symm L);obtain⟨aJ,cS,aj,bL⟩:=cR;obtain⟨cT,cU,cV,cW,cX,cY,cZ,c0,rfl,Z⟩:=J37 cS;refine On (J0u (cs':=(ec aJ cT cU cV cW cX cY cZ c0)) cP e io31 rfl rfl rfl rfl rfl rfl ?_);intro e4 bk bl c1;replace Z:=Z.sp bl;replace aI:=aI.spo bl L;refine Nl<|J04<|Jo rfl (resV.c c1 rfl ag31 rfl)<|RetM.intro ⟨?_,?_⟩ bk.below
  ·exact⟨aJ,(Ju aJ Z.lo Z.hi Z.name Z.n Z.num Z.den Z.args).tr (Tr.weak bk.base),(Yv (Xk hiw<|.inl ⟨F,rfl⟩) ⟨rfl,aj⟩).2,(Yo (by rw [← (Yv (Xk hiw<|.inl ⟨F,rfl⟩) ⟨rfl,aj⟩).1];exact(Z5 bL)))⟩
  exact Blk.to4 aI.blk (congrArg plR (Yv (Xk hiw<|.inl ⟨F,rfl⟩) ⟨rfl,aj⟩).1) (congrArg ecR (Yv (Xk hiw<|.inl ⟨F,rfl⟩) ⟨rfl,aj⟩).1) rfl
 refine Oa<|Nl<|J0v rfl<|Rg<|Ol<|J1r rfl rfl (fun G=>?_)<|fun G=>?_
 ·refine Oa (Nl<|J0w rfl<|Rg<|Om<|Ol<|J08 z k Ji8 rfl rfl (Jkd z.bd (s:=s) (t:=(.ok () i)) (o:=o) k.blk (z.yx _ k.mem) (ar:=1) hil hs ho (by decide) (by decide) (.inl rfl) hS ih hoB<|Jde (by omega)) ?_);intro e5 e6 c2 c3 aK c4;replace e:=e.spo c3 (Ne.symm L);obtain⟨aL,c5,ak,bM⟩:=c4;obtain⟨c6,c7,c8,c9,da,db,dc,dd,rfl,aa⟩:=J37 c5;refine On (J0u (cs':=(ec aL c6 c7 c8 c9 da db dc dd)) c2 e io31 rfl rfl rfl rfl rfl rfl ?_);intro e7 bm bn de;replace aa:=aa.sp bn;replace aK:=aK.spo bn L;refine Nl<|J04<|Jo rfl (resV.c de rfl ag31 rfl)<|RetM.intro ⟨?_,?_⟩ bm.below
  ·exact⟨aL,(Ju aL aa.lo aa.hi aa.name aa.n aa.num aa.den aa.args).tr (Tr.weak bm.base),(Yv (Xk hiw<|.inr (.inl ⟨G,rfl⟩)) ⟨rfl,ak⟩).2,(Yo (by rw [← (Yv (Xk hiw<|.inr (.inl ⟨G,rfl⟩)) ⟨rfl,ak⟩).1];exact(Z5 bM)))⟩
  exact Blk.to4 aK.blk (congrArg plR (Yv (Xk hiw<|.inr (.inl ⟨G,rfl⟩)) ⟨rfl,ak⟩).1) (congrArg ecR (Yv (Xk hiw<|.inr (.inl ⟨G,rfl⟩)) ⟨rfl,ak⟩).1) rfl
 refine Oa<|Nl<|J0v rfl<|Rg<|Ol<|J1r rfl rfl (fun H=>?_)<|fun H=>?_
 ·refine Oa (Nl<|J0w rfl<|Rg<|Om<|Ol<|J08 z k Ji8 rfl rfl (Jkd z.bd (s:=s) (t:=(.ok () i)) (o:=o) k.blk (z.yx _ k.mem) (ar:=1) hil hs ho (by decide) (by decide) (.inl rfl) hS ih hoB<|Jde (by omega)) ?_);intro e8 e9 df dg aM dh;replace e:=e.spo dg (Ne.symm L);obtain⟨aO,di,am,bN⟩:=dh;obtain⟨dj,dk,dl,dm,dn,dp,dq,dr,rfl,ab⟩:=J37 di;refine On (J0u (cs':=(ec aO dj dk dl dm dn dp dq dr)) df e io31 rfl rfl rfl rfl rfl rfl ?_);intro fa bo bp ds;replace ab:=ab.sp bp;replace aM:=aM.spo bp L;refine Nl<|J04<|Jo rfl (resV.c ds rfl ag31 rfl)<|RetM.intro ⟨?_,?_⟩ bo.below
  ·exact⟨aO,(Ju aO ab.lo ab.hi ab.name ab.n ab.num ab.den ab.args).tr (Tr.weak bo.base),(Yv (Xk hiw<|.inr (.inr (.inl ⟨H,rfl⟩))) ⟨rfl,am⟩).2,(Yo (by rw [← (Yv (Xk hiw<|.inr (.inr (.inl ⟨H,rfl⟩))) ⟨rfl,am⟩).1];exact(Z5 bN)))⟩
  exact Blk.to4 aM.blk (congrArg plR (Yv (Xk hiw<|.inr (.inr (.inl ⟨H,rfl⟩))) ⟨rfl,am⟩).1) (congrArg ecR (Yv (Xk hiw<|.inr (.inr (.inl ⟨H,rfl⟩))) ⟨rfl,am⟩).1) rfl
 refine Oa<|Nl<|J0v rfl<|Rg<|Ol<|J1r rfl rfl (fun I=>?_)<|fun I=>?_
 ·refine Oa (Nl<|J0w rfl<|Rg<|Om<|Ol<|J08 z k Ji8 rfl rfl (Jkd z.bd (s:=s) (t:=(.ok () i)) (o:=o) k.blk (z.yx _ k.mem) (ar:=1) hil hs ho (by decide) (by decide) (.inl rfl) hS ih hoB<|Jde (by omega)) ?_);intro fb fc dt du aP dv;replace e:=e.spo du (Ne.symm L);obtain⟨aQ,dw,an,bO⟩:=dv;obtain⟨dx,dy,dz,dA,dB,dC,dD,dE,rfl,ac⟩:=J37 dw;refine On (J0u (cs':=(ec aQ dx dy dz dA dB dC dD dE)) dt e io31 rfl rfl rfl rfl rfl rfl ?_);intro fd bq br dF;replace ac:=ac.sp br;replace aP:=aP.spo br L;refine Nl<|J04<|Jo rfl (resV.c dF rfl ag31 rfl)<|RetM.intro ⟨?_,?_⟩ bq.below
  ·exact⟨aQ,(Ju aQ ac.lo ac.hi ac.name ac.n ac.num ac.den ac.args).tr (Tr.weak bq.base),(Yv (Xk hiw<|.inr (.inr (.inr ⟨I,rfl⟩))) ⟨rfl,an⟩).2,(Yo (by rw [← (Yv (Xk hiw<|.inr (.inr (.inr ⟨I,rfl⟩))) ⟨rfl,an⟩).1];exact(Z5 bO)))⟩
  exact Blk.to4 aP.blk (congrArg plR (Yv (Xk hiw<|.inr (.inr (.inr ⟨I,rfl⟩))) ⟨rfl,an⟩).1) (congrArg ecR (Yv (Xk hiw<|.inr (.inr (.inr ⟨I,rfl⟩))) ⟨rfl,an⟩).1) rfl
 refine Oa<|Nl<|J0v rfl<|Rg<|Ol<|J1r rfl rfl (fun J=>?_)<|fun J=>?_
 ·refine Oa (Nl<|J0w rfl<|Rg<|Om<|Ol<|J08 z k Ji8 rfl rfl (Jkd z.bd (s:=s) (t:=(.ok () i)) (o:=o) k.blk (z.yx _ k.mem) (ar:=2) hil hs ho (by decide) (by decide) (.inr rfl) hS ih hoB<|Jde (by omega)) ?_);intro ff fg dG dH aR dI;replace e:=e.spo dH (Ne.symm L);obtain⟨aS,dJ,ao,bP⟩:=dI;obtain⟨dK,dL,dM,dN,dO,dP,dQ,dR,rfl,ad⟩:=J37 dJ;refine On (J0u (cs':=(ec aS dK dL dM dN dO dP dQ dR)) dG e io31 rfl rfl rfl rfl rfl rfl ?_);intro fh bs bt dS;replace ad:=ad.sp bt;replace aR:=aR.spo bt L;refine Nl<|J04<|Jo rfl (resV.c dS rfl ag31 rfl)<|RetM.intro ⟨?_,?_⟩ bs.below
  ·exact⟨aS,(Ju aS ad.lo ad.hi ad.name ad.n ad.num ad.den ad.args).tr (Tr.weak bs.base),(Yv (Jf4 hiw ⟨J,rfl⟩) ⟨rfl,ao⟩).2,(Yo (by rw [← (Yv (Jf4 hiw ⟨J,rfl⟩) ⟨rfl,ao⟩).1];exact(Z5 bP)))⟩
  exact Blk.to4 aR.blk (congrArg plR (Yv (Jf4 hiw ⟨J,rfl⟩) ⟨rfl,ao⟩).1) (congrArg ecR (Yv (Jf4 hiw ⟨J,rfl⟩) ⟨rfl,ao⟩).1) rfl
 refine Oa<|Nl<|J0v rfl<|Rg<|Ol<|J1r rfl rfl (fun K=>?_)<|fun K=>?_
 ·refine Oa (Nl<|J0w rfl<|Rg<|Om<|Ol<|J08 z k Jiw rfl rfl (Jcn z.bd (s:=s) (t:=(.ok () i)) (o:=o) k.blk (z.yx _ k.mem) (c:=40) hil hs ho) ?_);intro fi fj aT dT aU fk;replace e:=e.spo dT (Ne.symm L);refine Nl (Rg<|Om<|Ol<|J08 aT aU cb31 rfl rfl (ih aT.bd (t:=opR s o (.ok () i) 40) (o:=(opB 40 o)) aU.blk (aT.yx _ aU.mem) (Qe hil) hs hoB<|Jpz (Jde (by omega)) hil) ?_);intro fl fm dU dV ae dW;obtain⟨ay,dX,aq,a6⟩:=dW;obtain⟨dY,dZ,d0,d1,d2,d3,d4,d5,rfl,af⟩:=J37 dX;refine Ol (J1k (T:=Jg) (css:=[(ec ay dY dZ d0 d1 d2 d3 d4 d5)]) (l:=[ay]) dU sl29 io31 (by decide) (by decide) rfl (by kernel_rfl) ⟨(Z3 ay af.lo af.hi af.name af.n af.num af.den af.args),trivial⟩ ?_);intro az fn d6 bu au;replace ae:=ae.spn bu;replace e:=(e.spo dV<|Ne.symm L).spn bu;refine Ol (J09 (cs:=[(.int .i64 17),(.slice none 0 0),(.bool false),(.slice none 0 0),(.bool false),(.slice none 0 0),(str []),(.slice (some ⟨az,0,none⟩) 1 1)]) rfl (by kernel_rfl)<|Ol<|J05 d6 io31 rfl ?_);intro fo fp fq ft a7 d7 aV d8;have bv:=a7 _ ae.blk.lt;have d9:=a7 _ e.blk.lt;replace e:=e.spn aV;refine On (J0u (cs':=[(.int .i64 17),(.slice none 0 0),(.bool false),(.slice none 0 0),(.bool false),(.slice none 0 0),(str []),(.slice (some ⟨az,0,none⟩) 1 1)]) d7 d8 io31 rfl rfl rfl rfl rfl rfl ?_);intro fu aW aX aY;replace au:=(au.sp aV).sp aX;replace ae:=(ae.spn aV).spo aX bv;refine Nl (Rg<|Om<|Ol<|J08 aW ae Jhq rfl rfl (vm aW.bd (s:=s) (t:=suR S (opB 40 o)<|opR s o (.ok () i) 40) (o:=(opB 40 o)) ae.blk (aW.yx _ ae.mem) (c:=41) (Z5 a6) hs (fun _=>Nat.le_add_left 1 o)<|Nat.succ_le_succ ho) ?_);intro fv fy eb aZ a0 fz;replace e:=(e.spo aX d9).spo aZ (Ne.symm L);replace aY:=aY.spo aZ (Ne.symm bv);refine Nl (Rg<|Ol<|J0z (vs:=[(.int .i64 17),(.slice none 0 0),(.bool false),(.slice none 0 0),(.bool false),(.slice none 0 0),(str []),(.slice (some ⟨az,0,none⟩) 1 1)]) aY ag31 rfl rfl rfl<|On<|J0u (cs':=[(.int .i64 17),(.slice none 0 0),(.bool false),(.slice none 0 0),(.bool false),(.slice none 0 0),(str []),(.slice (some ⟨az,0,none⟩) 1 1)]) eb e io31 rfl rfl rfl rfl rfl rfl ?_);intro fA bw bx ed;replace au:=(au.sp aZ).sp bx;replace a0:=a0.spo bx L;refine Nl<|J04<|Jo rfl (resV.c ed rfl ag31 rfl)<|RetM.intro ⟨?_,?_⟩ bw.below
  ·exact⟨(.mk 17 [] ⟨⟨false,[]⟩,⟨false,[]⟩⟩ [] [ay]),(Zs (by omega) (by omega) (by unfold maxLen;simp) RS.nil RS.nil RS.nil au).tr (Tr.weak bw.base),(Yv (Jfu hiw K)<|sr_R aq).2,(Yo (by rw [← (Yv (Jfu hiw K)<|sr_R aq).1];exact(Yd<|Z5 a6)))⟩
  exact Blk.to4 a0.blk (congrArg plR (Yv (Jfu hiw K)<|sr_R aq).1) (congrArg ecR (Yv (Jfu hiw K)<|sr_R aq).1) rfl
 refine Oa (Nl<|J0v rfl<|J01<|Rh<|Om<|Ol<|J1n<|J0t z cb78 rfl rfl (x_wt z.bd hwl) ?_);intro fB fC av bz ee;replace k:=k.spn bz;replace e:=e.spn bz;refine⟨_,ee,fun A=>?_,fun A=>?_⟩
 ·refine Nl (J0w rfl<|J06 ?_);have h1:=wd_ge A;refine J0y (Om<|Om<|Ol<|J2n (i:=1) un9 rfl rfl rfl (by omega)<|Om<|Ol<|St.add rfl rfl (Jc (a:=p) (b:=1) (by omega))<|Ol<|J08 av k Jrg rfl rfl (Jbv av.bd (s:=s) (t:=(.ok () i)) (o:=o) k.blk (av.yx _ k.mem) (q:=p+1) hil hs (Jwn A) (by rw [List.length_drop];omega)<|Jnx hiw hil A) ?_);intro fD fF ef eg a1 eh;subst eh;refine Ol (J1k (T:=Ye) (css:=[[(.int .i64 (wiV ((Jr s p).drop 1) false))]]) (l:=[(wiV ((Jr s p).drop 1) false)]) ef sl23 io3 (by decide) (by decide) rfl (by kernel_rfl) ⟨⟨rfl,(by have:=Jkg (d:=((Jr s p).drop 1)) (mi:=false);omega),(by have:=Jkg (d:=((Jr s p).drop 1)) (mi:=false);omega)⟩,trivial⟩ ?_);intro bA fG ei bB a2;replace e:=(e.spo eg<|Ne.symm L).spn bB;refine Ol (J09 (cs:=[(.int .i64 2),(.slice (some ⟨bA,0,none⟩) 1 1),(.bool false),(.slice none 0 0),(.bool false),(.slice none 0 0),(str []),(.slice none 0 0)]) rfl (by kernel_rfl)<|On<|J0u (cs':=[(.int .i64 2),(.slice (some ⟨bA,0,none⟩) 1 1),(.bool false),(.slice none 0 0),(.bool false),(.slice none 0 0),(str []),(.slice none 0 0)]) ei e io31 rfl rfl rfl rfl rfl rfl ?_);intro fH bC bD ej;replace a2:=a2.sp bD;replace a1:=(a1.spn bB).spo bD L;refine Nl<|J04<|Jo rfl (resV.c ej rfl ag31 rfl)<|RetM.intro ⟨?_,?_⟩ bC.below
  ·exact⟨(.mk 2 [(wiV ((Jr s p).drop 1) false)] ⟨⟨false,[]⟩,⟨false,[]⟩⟩ [] []),(Zs (by omega) (by omega) (by unfold maxLen;simp) a2 RS.nil RS.nil RS.nil).tr (Tr.weak bC.base),(wd_E hiw A).2,(Yo (by rw [← (wd_E hiw A).1];exact(Jsz (t:= .ok () i) hil<|Jnx hiw hil A)))⟩
  exact Blk.to4 a1.blk (congrArg plR (wd_E hiw A).1) (congrArg ecR (wd_E hiw A).1) rfl
 refine Nl (J0v rfl<|J01<|Rh<|Om<|Ol<|J1n<|J0t av cb19 rfl rfl (Jfd av.bd hwl) ?_);intro fI fJ aA bE ek;replace k:=k.spn bE;replace e:=e.spn bE;refine⟨_,ek,fun U=>?_,fun U=>?_⟩
 ·refine Ol (J1s rfl<|Nl<|J0v rfl<|J01<|Rg<|Om<|Ol<|J09 (cs:=[(.int .i64 8),(.slice none 0 0),(.bool false),(.slice none 0 0),(.bool false),(.slice none 0 0),(str<|Jr s p),(.slice none 0 0)]) rfl (by kernel_rfl)<|On<|J0u (cs':=[(.int .i64 8),(.slice none 0 0),(.bool false),(.slice none 0 0),(.bool false),(.slice none 0 0),(str<|Jr s p),(.slice none 0 0)]) aA e io31 rfl rfl rfl rfl rfl rfl ?_);intro fK bF el em;replace k:=k.spo el L;refine Nl<|J04<|Jo rfl (resV.c em rfl ag31 rfl)<|RetM.intro ⟨?_,?_⟩ bF.below
  ·exact⟨(.mk 8 [] ⟨⟨false,[]⟩,⟨false,[]⟩⟩ (Jr s p) []),(Zs (by omega) (by omega) (by unfold maxLen;omega) RS.nil RS.nil RS.nil RS.nil).tr (Tr.weak bF.base),(Ja3 hiw M N ⟨P,Q⟩ ⟨D,E⟩ ⟨F,G,H,I,J⟩ K A U).2,(Yo (by rw [← (Ja3 hiw M N ⟨P,Q⟩ ⟨D,E⟩ ⟨F,G,H,I,J⟩ K A U).1];exact hil))⟩
  exact Blk.to4 k.blk (congrArg plR (Ja3 hiw M N ⟨P,Q⟩ ⟨D,E⟩ ⟨F,G,H,I,J⟩ K A U).1) (congrArg ecR (Ja3 hiw M N ⟨P,Q⟩ ⟨D,E⟩ ⟨F,G,H,I,J⟩ K A U).1) rfl
 refine Ol (J1s rfl<|Nl<|J0w rfl<|J0y<|Om<|Om<|Ol<|J08 aA k cb33 rfl rfl (xu aA.bd (s:=s) (t:=(.ok () i)) (o:=o) k.blk (aA.yx _ k.mem) (q:=p) hil hs) ?_);intro fL fM en eo a3 fN;replace e:=e.spo eo (Ne.symm L);refine Nl (Rg<|Om<|Ol<|J09 (cs:=[(.int .i64 8),(.slice none 0 0),(.bool false),(.slice none 0 0),(.bool false),(.slice none 0 0),(str<|Jr s p),(.slice none 0 0)]) rfl (by kernel_rfl)<|On<|J0u (cs':=[(.int .i64 8),(.slice none 0 0),(.bool false),(.slice none 0 0),(.bool false),(.slice none 0 0),(str<|Jr s p),(.slice none 0 0)]) en e io31 rfl rfl rfl rfl rfl rfl ?_);intro fO bG ep eq;replace a3:=a3.spo ep L;refine Nl<|J04<|Jo rfl (resV.c eq rfl ag31 rfl)<|RetM.intro ⟨?_,?_⟩ bG.below
 ·exact⟨(.mk 8 [] ⟨⟨false,[]⟩,⟨false,[]⟩⟩ (Jr s p) []),(Zs (by omega) (by omega) (by unfold maxLen;omega) RS.nil RS.nil RS.nil RS.nil).tr (Tr.weak bG.base),(Jfq (m:=Jc4<|Jr s p) hiw M N ⟨P,Q⟩ ⟨D,E⟩ ⟨F,G,H,I,J⟩ K A U).2,(Yo (by rw [← (Jfq (m:=Jc4<|Jr s p) hiw M N ⟨P,Q⟩ ⟨D,E⟩ ⟨F,G,H,I,J⟩ K A U).1];exact(Jdr (t:= .ok () i) hil (by decide) hp)))⟩
 exact Blk.to4 a3.blk (congrArg plR (Jfq (m:=Jc4<|Jr s p) hiw M N ⟨P,Q⟩ ⟨D,E⟩ ⟨F,G,H,I,J⟩ K A U).1) (congrArg ecR (Jfq (m:=Jc4<|Jr s p) hiw M N ⟨P,Q⟩ ⟨D,E⟩ ⟨F,G,H,I,J⟩ K A U).1) rfl
end Go.Wf
namespace Go.Wf
open Go Go.Proofs Go.RowKit
theorem Jtc{X:Nat→Prop}{w:World}(hX:XB X w){g:Nat}{s:List UInt8}{t:Rr Unit}{o:Nat}(hB:Blk w g (rc4 s (plR t) (ecR t) o) 62)(hXg:X g){S:Nat→Nat→Rr GExpr}{lo B:Nat}(ht:t.fine s)(hs:s.length≤65536)(cF:s.length≤1000)(ho:o≤1099511627776)(hS:∀ o p,p≤s.length→(S o p).fw s p)(ih:(∃ p,t= .ok () p)→SumX s S lo B)(hoB:o+1≤B)(hlo:Lo lo t):Calls Tryz.prog 149 #[(.pointer (some ⟨g,0,none⟩))] w (RetM w g fun v w'=>(∃ (v0:Value) (m:GExpr) (b:Bool),v= .tuple #[v0,.bool b]∧RV Jg X w' v0 m∧Got (Rr.run t (Jx s S o)) (m,b)∧Rr.fine s (Rr.run t (Jx s S o))∧(b=true→nuE m))∧Blk w' g (rc4 s (plR (Rr.go t (Jx s S o))) (ecR (Rr.go t (Jx s S o))) o) 62):=by
 have C:=J1t g hX hXg;have o0:=J38 hB
 have:maxLen=9223372036854775807:=rfl
 refine Cgo (args:=[(.pointer (some ⟨g,0,none⟩))]) Tryz.func149 rfl rfl rfl (Rg<|Ol<|J05 C io31 rfl ?_);intro g1 w2 x3 y4 cH C6 s7 j;have G:=cH _ o0.blk.lt;replace o0:=o0.spn s7;refine Oa (Nl<|Rg<|Om<|Ol<|J08 C6 o0 cb32 rfl rfl (Xj C6.bd (s:=s) (t:=t) (o:=o) o0.blk (C6.yx _ o0.mem) ht hs) ?_);intro dS dT am cI z cJ;replace j:=j.spo cI (Ne.symm G);subst cJ;refine Oa<|Nl<|J06<|W.block<|Rg<|Om<|Ol<|J1a rfl rfl (fun A=>?_)<|fun A=>?_
 ·refine Oa (Nl<|J0w rfl<|J06 ?_);have hok:=Jhg (s:=s) (t:=t) (by omega);refine J0y (Om<|Ol<|J08 am z Jiw rfl rfl (Jcn am.bd (s:=s) (t:=blR s t) (o:=o) z.blk (am.yx _ z.mem) (c:=40) (Jn ht) hs ho) ?_);intro dU dV aO cK aP dW;refine Nl (Rg<|Om<|Ol<|J08 aO aP cb31 rfl rfl ((ih hok) aO.bd (t:=opR s o (blR s t) 40) (o:=(opB 40 o)) aP.blk (aO.yx _ aP.mem) (Qe<|Jn ht) hs hoB (Jpz (Jau hlo ht)<|Jn ht)) ?_);intro dX dY cL cM an cN;replace j:=(j.spo cK<|Ne.symm G).spo cM (Ne.symm G);obtain⟨ao,cO,ad,aQ⟩:=cN;obtain⟨aR,aS,aT,aU,aV,aW,aX,aY,rfl,M⟩:=J37 cO;refine On (J0u (cs':=(ec ao aR aS aT aU aV aW aX aY)) cL j io31 rfl rfl rfl rfl rfl rfl ?_);intro dZ aZ bv aK;replace M:=M.sp bv;replace an:=an.spo bv G;refine Nl (Rg<|Om<|Ol<|J08 aZ an Jhq rfl rfl (vm aZ.bd (s:=s) (t:=suR S (opB 40 o)<|opR s o (blR s t) 40) (o:=(opB 40 o)) an.blk (aZ.yx _ an.mem) (c:=41) (Z5 aQ) hs (fun _=>Nat.le_add_left 1 o)<|Nat.succ_le_succ ho) ?_);intro d0 d1 cP bw a0 d2;replace aK:=aK.spo bw (Ne.symm G);refine Nl (Rg<|Ol<|J0z (vs:=(ec ao aR aS aT aU aV aW aX aY)) aK ag31 rfl rfl rfl<|On<|J0u (cs':=(ec ao aR aS aT aU aV aW aX aY)) cP aK io31 rfl rfl rfl rfl rfl rfl ?_);intro d3 bx bz cQ;replace M:=(M.sp bw).sp bz;replace a0:=a0.spo bz G;refine Oa<|Nl<|J04<|Zh rfl (resV.c cQ rfl ag31 rfl) (J35 rfl)<|RetM.intro ⟨?_,?_⟩ bx.below
  ·exact⟨_,ao,false,rfl,(Ju ao M.lo M.hi M.name M.n M.num M.den M.args).tr (Tr.weak bx.base),(qn A ad).2,(Xa (qn A ad).1<|Yd<|Z5 aQ),(nu_f rfl)⟩
  exact Blk.to4 a0.blk (congrArg plR (qn A ad).1) (congrArg ecR (qn A ad).1) rfl
 refine Oa (Nl<|J0v rfl<|Rg<|Om<|Ol<|J1n<|J0t am cb48 rfl rfl (Jhj am.bd (n:=(pkS s t))) ?_);intro d4 d5 aq bA cR;replace z:=z.spn bA;replace j:=j.spn bA;refine⟨_,cR,fun h=>?_,fun h=>?_⟩
 ·refine Oa (Nl<|J0w rfl<|Rg<|Om<|Ol<|J08 aq z Jm4 rfl rfl (qt aq.bd (s:=s) (t:=blR s t) (o:=o) z.blk (aq.yx _ z.mem) (Jn ht) hs) ?_);intro d6 d7 bB cS H cT;subst cT;refine Ol (J0t bB Js9 rfl rfl (Jet bB.bd (fun c hc=>Jdj hc)<|Nat.le_trans Jby hs) ?_);intro d8 d9 cU bC cV;replace H:=H.spn bC;replace j:=(j.spo cS<|Ne.symm G).spn bC;obtain⟨a1,a2,rfl,F⟩:=RV.int cV;refine Ol (J05 cU io26 rfl ?_);intro eb ed ee ef a3 cW a4 cX;have ar:=a3 _ H.blk.lt;have cY:=a3 _ j.blk.lt;replace H:=H.spn a4;replace j:=j.spn a4;refine On (J0u (cs':=[(.bool (ofZ (Je (dgV s<|blR s t):Int)).neg),(.slice a1 (ofZ (Je (dgV s<|blR s t):Int)).mag.length a2)]) cW cX io26 rfl rfl rfl rfl rfl rfl ?_);intro eg bD a5 E;replace F:=(F.sp a4).sp a5;refine Nl (Rg<|Ol<|J0t bD Jhf rfl rfl (x_Z bD.bd (by decide) (by decide)) ?_);intro eh ei cZ aL c0;replace H:=(H.spo a5 ar).spn aL;replace j:=(j.spo a5 cY).spn aL;replace E:=E.spn aL;obtain⟨bE,bF,rfl,au⟩:=RV.int c0;refine Ol (J05 cZ io26 rfl ?_);intro ej ek c2 c3 ae bH V bI;have P:=ae _ H.blk.lt;have a6:=ae _ j.blk.lt;have a7:=ae _ E.blk.lt;replace F:=(F.sp aL).sp V;replace au:=au.sp V;replace j:=j.spn V;replace E:=E.spn V;refine On (J0u (cs':=[(.bool (ofZ 1).neg),(.slice bE (ofZ 1).mag.length bF)]) bH bI io26 rfl rfl rfl rfl rfl rfl ?_);intro c4 av Y N;replace H:=(H.spn V).spo Y P;refine Nl (Rh<|Om<|Ol<|J08 av H cb32 rfl rfl (Xj av.bd (s:=s) (t:=dgR s<|blR s t) (o:=o) H.blk (av.yx _ H.mem) (Xw<|Jn ht) hs) ?_);intro c5 c6 Z aa I bJ;replace F:=(F.sp Y).sp aa;replace au:=(au.sp Y).sp aa;replace j:=(j.spo Y a6).spo aa (Ne.symm G);replace E:=(E.spo Y a7).spo aa (Ne.symm ar);replace N:=N.spo aa (Ne.symm P);subst bJ;refine Ol<|J1a rfl rfl (fun i=>?_)<|fun i=>?_
  ·refine Nl (J0w rfl<|Rg<|Om<|Ol<|J08 Z I cb69 rfl rfl (X9 Z.bd (s:=s) (t:=blR s<|dgR s<|blR s t) (o:=o) I.blk (Z.yx _ I.mem) (c:=47) (Jn<|Xw<|Jn ht) hs) ?_);intro c7 c8 aw af ax c9;replace j:=j.spo af (Ne.symm G);refine Nl (Rg<|Om<|Ol<|J08 aw ax cb71 rfl rfl (zr aw.bd (s:=s) (t:=tkR s (blR s<|dgR s<|blR s t) 47) (o:=o) ax.blk (aw.yx _ ax.mem) (Yd<|Jn<|Xw<|Jn ht) hs) ?_);intro da db ay ag ah dc;replace F:=(F.sp af).sp ag;replace E:=(E.spo af<|Ne.symm ar).spo ag (Ne.symm ar);replace N:=(N.spo af<|Ne.symm P).spo ag (Ne.symm P);refine Nl (Rg<|Om<|Ol<|J03 rfl<|Ol<|J0s Zd rfl<|Ol<|J0x ah pl3 rfl rfl<|Oa<|Nl<|Rg<|Om<|Ol<|J08 ay ah Jm4 rfl rfl (qt ay.bd (s:=s) (t:=blR s<|tkR s (blR s<|dgR s<|blR s t) 47) (o:=o) ah.blk (ay.yx _ ah.mem) (Jn<|Yd<|Jn<|Xw<|Jn ht) hs) ?_);intro dd de a8 ai r bK;replace j:=(j.spo ag<|Ne.symm G).spo ai (Ne.symm G);subst bK;refine Ol (J0t a8 Js9 rfl rfl (Jet a8.bd (fun c hc=>Jdj hc)<|Nat.le_trans Jby hs) ?_);intro df dg bL ab bM;replace F:=(F.sp ai).sp ab;replace E:=(E.spo ai<|Ne.symm ar).spn ab;replace N:=(N.spo ai<|Ne.symm P).spn ab;obtain⟨az,aA,rfl,Q⟩:=RV.int bM;refine On (J0u (cs':=[(.bool (ofZ (Je (dgV s<|blR s<|tkR s (blR s<|dgR s<|blR s t) 47):Int)).neg),(.slice az (ofZ (Je (dgV s<|blR s<|tkR s (blR s<|dgR s<|blR s t) 47):Int)).mag.length aA)]) bL N io26 rfl rfl rfl rfl rfl rfl ?_);intro dh aB ac aj;replace Q:=Q.sp ac;replace r:=(r.spn ab).spo ac P;replace j:=(j.spn ab).spo ac a6;refine Nl<|Rg<|Om<|Ol<|J03 rfl<|Ol<|J0s Kz rfl<|Ol<|J0x r pl3 rfl rfl<|Ol<|J1a rfl rfl (fun l=>?_)<|fun l=>?_
   ·refine Om (OgD<|J0z (vs:=[(.bool (ofZ (Je (dgV s<|blR s<|tkR s (blR s<|dgR s<|blR s t) 47):Int)).neg),(.slice az (ofZ (Je (dgV s<|blR s<|tkR s (blR s<|dgR s<|blR s t) 47):Int)).mag.length aA)]) aj ag26 rfl rfl rfl<|OgD<|J0t aB Jin rfl rfl (Jb0 aB.bd (a:=(ofZ (Je (dgV s<|blR s<|tkR s (blR s<|dgR s<|blR s t) 47):Int))) (Jj Q)<|Nat.le_trans (vlen hs) (by decide)) ?_);intro di dj aD R a9;replace F:=(F.sp ac).sp R;replace Q:=Q.sp R;replace r:=r.spn R;replace j:=j.spn R;replace E:=(E.spo ac a7).spn R;replace aj:=aj.spn R;simp only [Jq,Yq] at a9;subst a9;refine OgD<|J1a rfl rfl (fun D=>?_)<|fun D=>?_
    ·refine OT (Nl<|J0w rfl<|Rg<|Om<|Om<|Ol<|J03 rfl<|Ol<|J0s Zd rfl<|On<|J0u (cs':=[(str s),(.int .i64 ((plR (blR s<|tkR s (blR s<|dgR s<|blR s t) 47):Nat):Int)),(.int .i64 (ecR<|dgR s<|blR s<|tkR s (blR s<|dgR s<|blR s t) 47)),(.int .i64 ((o:Nat):Int))]) aD r io3 rfl rfl rfl rfl rfl rfl ?_);intro dk aE bN aF;refine Nl (J0y<|Om<|Om<|Ol<|J08 aE aF cb33 rfl rfl (yr aE.bd (s:=s) (p:=plR<|blR s<|tkR s (blR s<|dgR s<|blR s t) 47) (e:=(ecR<|dgR s<|blR s<|tkR s (blR s<|dgR s<|blR s t) 47)) (o:=o) aF.blk (aE.yx _ aF.mem) (q:=plR<|blR s<|tkR s (blR s<|dgR s<|blR s t) 47)) ?_);intro dl dm bO bP ak dn;replace j:=(j.spo bN<|Ne.symm G).spo bP (Ne.symm G);refine Nl (Rh<|Om<|Ol<|J03 rfl<|Ol<|J0s Kz rfl<|Ol<|J0x ak pl3 rfl rfl<|Ol<|J17 (t:=true) rfl rfl (by rw [decide_eq_false (Jju (S:=S) (o:=o) (x:=(Kq,false)) ht h i l D).1];rfl)<|Nl<|J0w rfl<|Rg<|Ol<|J09 (cs:=[(.int .i64 0),(.slice none 0 0),(.bool false),(.slice none 0 0),(.bool false),(.slice none 0 0),(str []),(.slice none 0 0)]) rfl (by kernel_rfl) ?_);refine On (J0u (cs':=[(.int .i64 0),(.slice none 0 0),(.bool false),(.slice none 0 0),(.bool false),(.slice none 0 0),(str []),(.slice none 0 0)]) bO j io31 rfl rfl rfl rfl rfl rfl ?_);intro dp ba bQ bR;replace ak:=ak.spo bQ G;refine Oa<|Nl<|J04<|Zh rfl (resV.c bR rfl ag31 rfl) (J35 rfl)<|RetM.intro ⟨?_,?_⟩ ba.below
     ·exact⟨_,(.mk 0 [] ⟨⟨false,[]⟩,⟨false,[]⟩⟩ [] []),false,rfl,(Zs (by omega) (by omega) (by unfold maxLen;simp) RS.nil RS.nil RS.nil RS.nil).tr (Tr.weak ba.base),(Jju (S:=S) (o:=o) (x:=(Kq,false)) ht h i l D).2.2.2.1,(Jju (S:=S) (o:=o) (x:=(Kq,false)) ht h i l D).2.2.2.2,(nu_f rfl)⟩
     exact Blk.to4 ak.blk (Jju (S:=S) (o:=o) (x:=(Kq,false)) ht h i l D).2.1 (Jju (S:=S) (o:=o) (x:=(Kq,false)) ht h i l D).2.2.1 rfl
    refine OT (Nl<|J0v rfl<|J01<|Rh<|Om<|Ol<|J03 rfl<|Ol<|J0s Kz rfl<|Ol<|J0x r pl3 rfl rfl<|Ol<|J17 (t:=false) rfl rfl (by rw [decide_eq_true l];rfl)<|Nl<|J0v rfl<|J01<|Rg<|Ol<|J0z (vs:=[(.bool (ofZ (Je (dgV s<|blR s t):Int)).neg),(.slice a1 (ofZ (Je (dgV s<|blR s t):Int)).mag.length a2)]) E ag26 rfl rfl rfl ?_);refine Ol (J0z (vs:=[(.bool (ofZ (Je (dgV s<|blR s<|tkR s (blR s<|dgR s<|blR s t) 47):Int)).neg),(.slice az (ofZ (Je (dgV s<|blR s<|tkR s (blR s<|dgR s<|blR s t) 47):Int)).mag.length aA)]) aj ag26 rfl rfl rfl<|Ol<|J0t aD cb77 rfl rfl (Jga aD.bd (n:=(ofZ (Je (dgV s<|blR s t):Int))) (Jj F) (d:=(ofZ (Je (dgV s<|blR s<|tkR s (blR s<|dgR s<|blR s t) 47):Int))) (Jj Q) (Nat.le_trans (vlen hs) (by decide))<|Nat.le_trans (vlen hs) (by decide)) ?_);intro dq dr bb bc be;replace r:=r.spn bc;simp only [Jq,Yq] at be;obtain⟨ds,dt,du,dv,rfl,bS,bT⟩:=J4a be;refine Ol (J0t bb Jly rfl rfl (qf bb.bd (a:=(ofQ<|Rat.divInt (Je (dgV s<|blR s t):Int) (Je (dgV s<|blR s<|tkR s (blR s<|dgR s<|blR s t) 47):Int))) (Zz bS bT) (Jda<|Nat.le_trans (vlen hs) (by decide))<|Nat.le_trans (Jcu (k:=65536)<|vlen hs) (by decide)) ?_);intro dw dx bU bf bg;replace j:=(j.spn bc).spn bf;simp only [Jq,Yq] at bg;obtain⟨bV,bW,bX,bY,bZ,b0,b1,b2,rfl,J⟩:=J37 bg;refine On (J0u (cs':=(ec (.mk 1 [] (ofQ<|Rat.divInt (Je (dgV s<|blR s t):Int) (Je (dgV s<|blR s<|tkR s (blR s<|dgR s<|blR s t) 47):Int)) [] []) bV bW bX bY bZ b0 b1 b2)) bU j io31 rfl rfl rfl rfl rfl rfl ?_);intro dy bh bi b3;replace J:=J.sp bi;replace r:=(r.spn bf).spo bi G;refine Oa<|Nl<|J04<|Zh rfl (resV.c b3 rfl ag31 rfl) (J35 rfl)<|RetM.intro ⟨?_,?_⟩ bh.below
    ·exact⟨_,(.mk 1 [] (ofQ<|Rat.divInt (Je (dgV s<|blR s t):Int) (Je (dgV s<|blR s<|tkR s (blR s<|dgR s<|blR s t) 47):Int)) [] []),true,rfl,(Ju (.mk 1 [] (ofQ<|Rat.divInt (Je (dgV s<|blR s t):Int) (Je (dgV s<|blR s<|tkR s (blR s<|dgR s<|blR s t) 47):Int)) [] []) J.lo J.hi J.name J.n J.num J.den J.args).tr (Tr.weak bh.base),(Jmd ht h i l D).2,(Xa (Jmd ht h i l D).1<|Xw<|Jn<|Yd<|Jn<|Xw<|Jn ht),(fun _=>Jiq (vlen hs)<|vlen hs)⟩
    exact Blk.to4 r.blk (congrArg plR (Jmd ht h i l D).1) (congrArg ecR (Jmd ht h i l D).1) rfl
   refine Om (Oz<|Oz<|Oz<|OF<|Nl<|J0v rfl<|J01<|Rh<|Om<|Ol<|J03 rfl<|Ol<|J0s Kz rfl<|Ol<|J0x r pl3 rfl rfl<|Ol<|J17 (t:=true) rfl rfl (by rw [decide_eq_false l];rfl)<|Nl<|J0w rfl ?_);refine Rg (Ol<|J09 (cs:=[(.int .i64 0),(.slice none 0 0),(.bool false),(.slice none 0 0),(.bool false),(.slice none 0 0),(str []),(.slice none 0 0)]) rfl (by kernel_rfl)<|On<|J0u (cs':=[(.int .i64 0),(.slice none 0 0),(.bool false),(.slice none 0 0),(.bool false),(.slice none 0 0),(str []),(.slice none 0 0)]) aB j io31 rfl rfl rfl rfl rfl rfl ?_);intro dz bj b4 b5;replace r:=r.spo b4 G;refine Oa<|Nl<|J04<|Zh rfl (resV.c b5 rfl ag31 rfl) (J35 rfl)<|RetM.intro ⟨?_,?_⟩ bj.below
   ·exact⟨_,(.mk 0 [] ⟨⟨false,[]⟩,⟨false,[]⟩⟩ [] []),false,rfl,(Zs (by omega) (by omega) (by unfold maxLen;simp) RS.nil RS.nil RS.nil RS.nil).tr (Tr.weak bj.base),(Jls (x:=(Kq,false)) ht h i l).2,(Xa (Jls (x:=(Kq,false)) ht h i l).1<|Xw<|Jn<|Yd<|Jn<|Xw<|Jn ht),(nu_f rfl)⟩
   exact Blk.to4 r.blk (congrArg plR (Jls (x:=(Kq,false)) ht h i l).1) (congrArg ecR (Jls (x:=(Kq,false)) ht h i l).1) rfl
  refine Nl (J0v rfl<|J01<|Rh<|Om<|Ol<|J03 rfl<|Ol<|J0s Kz rfl<|Ol<|J0x I pl3 rfl rfl<|Ol<|J17 (t:=false) rfl rfl (by rw [decide_eq_true (Jk9 (S:=S) (o:=o) ht h i).1];rfl)<|Nl<|J0v rfl<|J01<|Rg<|Ol<|J0z (vs:=[(.bool (ofZ (Je (dgV s<|blR s t):Int)).neg),(.slice a1 (ofZ (Je (dgV s<|blR s t):Int)).mag.length a2)]) E ag26 rfl rfl rfl ?_);refine Ol (J0z (vs:=[(.bool (ofZ 1).neg),(.slice bE (ofZ 1).mag.length bF)]) N ag26 rfl rfl rfl<|Ol<|J0t Z cb77 rfl rfl (Jga Z.bd (n:=(ofZ (Je (dgV s<|blR s t):Int))) (Jj F) (d:=(ofZ 1)) (Jj au) (Nat.le_trans (vlen hs) (by decide))<|Nat.le_trans (Nat.le_of_eq Kh) (by decide)) ?_);intro dA dB bk bl bm;replace I:=I.spn bl;simp only [Jq,Yq] at bm;obtain⟨dC,dD,dE,dF,rfl,b6,b7⟩:=J4a bm;refine Ol (J0t bk Jly rfl rfl (qf bk.bd (a:=(ofQ<|Rat.divInt (Je (dgV s<|blR s t):Int) 1)) (Zz b6 b7) (Jda<|Nat.le_trans (vlen hs) (by decide))<|Nat.le_trans (Jcu (k:=65536)<|Nat.le_trans (Nat.le_of_eq Kh) (by decide)) (by decide)) ?_);intro dG dH b8 bn bo;replace j:=(j.spn bl).spn bn;simp only [Jq,Yq] at bo;obtain⟨b9,ca,cb,cc,cd,ce,cf,cg,rfl,K⟩:=J37 bo;refine On (J0u (cs':=(ec (.mk 1 [] (ofQ<|Rat.divInt (Je (dgV s<|blR s t):Int) 1) [] []) b9 ca cb cc cd ce cf cg)) b8 j io31 rfl rfl rfl rfl rfl rfl ?_);intro dI bp bq ch;replace K:=K.sp bq;replace I:=(I.spn bn).spo bq G;refine Oa<|Nl<|J04<|Zh rfl (resV.c ch rfl ag31 rfl) (J35 rfl)<|RetM.intro ⟨?_,?_⟩ bp.below
  ·exact⟨_,(.mk 1 [] (ofQ<|Rat.divInt (Je (dgV s<|blR s t):Int) 1) [] []),true,rfl,(Ju (.mk 1 [] (ofQ<|Rat.divInt (Je (dgV s<|blR s t):Int) 1) [] []) K.lo K.hi K.name K.n K.num K.den K.args).tr (Tr.weak bp.base),(Jk9 ht h i).2.2,(Xa (Jk9 ht h i).2.1<|Jn<|Xw<|Jn ht),(fun _=>Jiq (vlen hs)<|Nat.le_trans (Nat.le_of_eq Kh) (by decide))⟩
  exact Blk.to4 I.blk (congrArg plR (Jk9 ht h i).2.1) (congrArg ecR (Jk9 ht h i).2.1) rfl
 refine Oa (Nl<|J0v rfl<|Rg<|Om<|Ol<|J1n<|J0t aq cb46 rfl rfl (Jhs aq.bd (n:=(pkS s t))) ?_);intro dJ dK T aG ci;replace z:=z.spn aG;refine⟨_,ci,fun y=>?_,fun y=>?_⟩
 ·refine Oa (Nl<|J0w rfl<|J06 ?_);have hok:=Jhg (Jeg y);obtain⟨q,hbq,hqs,hql⟩:=Jv4 ht hlo y;rw [hbq] at z;refine J0y (Om<|Ol<|J08 T z cb203 rfl rfl (Jrf T.bd (s:=s) (p:=q) (o:=o) (Blk.to4 z.blk rfl rfl rfl) (T.yx _ z.mem) hqs hs cF ho hS (ih hok) hoB hql) ?_);intro dL dM cj ck aH cl;replace j:=(j.spn aG).spo ck (Ne.symm G);obtain⟨aI,cm,U,bu⟩:=cl;obtain⟨cn,co,cp,cq,cr,ct,cu,cv,rfl,L⟩:=J37 cm;refine On (J0u (cs':=(ec aI cn co cp cq cr ct cu cv)) cj j io31 rfl rfl rfl rfl rfl rfl ?_);intro dN br bs cw;replace L:=L.sp bs;replace aH:=aH.spo bs G;refine Oa<|Nl<|J04<|Zh rfl (resV.c cw rfl ag31 rfl) (J35 rfl)<|RetM.intro ⟨?_,?_⟩ br.below
  ·exact⟨_,aI,false,rfl,(Ju aI L.lo L.hi L.name L.n L.num L.den L.args).tr (Tr.weak br.base),(Jmz A h y hbq U).2,(Xa (Jmz A h y hbq U).1<|Z5 bu),(nu_f rfl)⟩
  exact Blk.to4 aH.blk (congrArg plR (Jmz A h y hbq U).1) (congrArg ecR (Jmz A h y hbq U).1) rfl
 refine Oa (Nl<|J0v rfl<|J01<|Rg<|Om<|Om<|Ol<|J03 rfl<|Ol<|J0s Zd rfl<|Ol<|J0x z pl3 rfl rfl<|Ol<|J08 T z cb33 rfl rfl (xu T.bd (s:=s) (t:=blR s t) (o:=o) z.blk (T.yx _ z.mem) (q:=plR<|blR s t) (Jn ht) hs) ?_);intro dO dP cx cy aJ dQ;replace j:=(j.spn aG).spo cy (Ne.symm G);refine Nl (Rg<|Ol<|J09 (cs:=[(.int .i64 0),(.slice none 0 0),(.bool false),(.slice none 0 0),(.bool false),(.slice none 0 0),(str []),(.slice none 0 0)]) rfl (by kernel_rfl)<|On<|J0u (cs':=[(.int .i64 0),(.slice none 0 0),(.bool false),(.slice none 0 0),(.bool false),(.slice none 0 0),(str []),(.slice none 0 0)]) cx j io31 rfl rfl rfl rfl rfl rfl ?_);intro dR bt cz cE;replace aJ:=aJ.spo cz G;refine Oa<|Nl<|J04<|Zh rfl (resV.c cE rfl ag31 rfl) (J35 rfl)<|RetM.intro ⟨?_,?_⟩ bt.below
 ·exact⟨_,(.mk 0 [] ⟨⟨false,[]⟩,⟨false,[]⟩⟩ [] []),false,rfl,(Zs (by omega) (by omega) (by unfold maxLen;simp) RS.nil RS.nil RS.nil RS.nil).tr (Tr.weak bt.base),(Jm3 (x:=(Kq,false)) A h y).2,(Xa (Jm3 (x:=(Kq,false)) A h y).1<|Jdr (Jn ht) (by decide)<|zh<|Jn ht),(nu_f rfl)⟩
 exact Blk.to4 aJ.blk (congrArg plR (Jm3 (x:=(Kq,false)) A h y).1) (congrArg ecR (Jm3 (x:=(Kq,false)) A h y).1) rfl
end Go.Wf
namespace Go.Wf
open Go Go.Proofs Go.RowKit
theorem Jip{X:Nat→Prop}{w:World}(hX:XB X w){g:Nat}{s:List UInt8}{t:Rr Unit}{o:Nat}(hB:Blk w g (rc4 s (plR t) (ecR t) o) 62)(hXg:X g){S:Nat→Nat→Rr GExpr}{lo B:Nat}(ht:t.fine s)(hs:s.length≤65536)(aO:s.length≤1000)(ho:o≤1099511627776)(hS:∀ o p,p≤s.length→(S o p).fw s p)(ih:(∃ p,t= .ok () p)→SumX s S lo B)(hoB:o+1≤B)(hlo:Lo lo t):Calls Tryz.prog 100 #[(.pointer (some ⟨g,0,none⟩))] w (RetM w g fun v w'=>(∃ (v0:Value) (m:GExpr) (b:Bool),v= .tuple #[v0,.bool b]∧RV Jg X w' v0 m∧Got (Rr.run t (powM s S o)) (m,b)∧Rr.fine s (Rr.run t (powM s S o))∧(b=true→nuE m))∧Blk w' g (rc4 s (plR (Rr.go t (powM s S o))) (ecR (Rr.go t (powM s S o))) o) 62):=by
 have C:=J1t g hX hXg;have o0:=J38 hB
 have:maxLen=9223372036854775807:=rfl
 refine Cgo (args:=[(.pointer (some ⟨g,0,none⟩))]) Tryz.func100 rfl rfl rfl (Rg<|Ol<|J05 C io31 rfl ?_);intro g1 w2 x3 y4 aQ C6 s7 x;have n9:=aQ _ o0.blk.lt;replace o0:=o0.spn s7;refine Oa (Nl<|Rg<|Om<|Ol<|J08 C6 o0 cb149 rfl rfl (Jtc C6.bd (s:=s) (t:=t) (o:=o) o0.blk (C6.yx _ o0.mem) ht hs aO ho hS ih hoB hlo) ?_);intro bl bm aR aS D aT;replace x:=x.spo aS (Ne.symm n9);obtain⟨bn,d,aU,rfl,aV,i,y,aw⟩:=aT;obtain⟨E,F,G,H,I,J,K,L,rfl,a⟩:=J37 aV;refine Om (Ol<|St.extract rfl rfl<|Ol<|St.extract rfl rfl<|Ol<|J05 aR io31 rfl ?_);intro bo bp bq br ac aW ad aX;have Y:=ac _ D.blk.lt;have aY:=ac _ x.blk.lt;replace a:=a.sp ad;replace x:=x.spn ad;refine On (J0u (cs':=(ec d E F G H I J K L)) aW aX io31 rfl rfl rfl rfl rfl rfl ?_);intro bs ae af M;replace D:=(D.spn ad).spo af Y;refine Oa (Nl<|Rh<|Om<|Ol<|J08 ae D cb32 rfl rfl (Xj ae.bd (s:=s) (t:=Rr.go t<|Jx s S o) (o:=o) D.blk (ae.yx _ D.mem) (Z5 y) hs) ?_);intro bt bu Z ag N aZ;replace a:=(a.sp af).sp ag;replace x:=(x.spo af aY).spo ag (Ne.symm n9);replace M:=M.spo ag (Ne.symm Y);subst aZ;refine Ol<|J11 rfl rfl (fun e=>?_)<|fun e=>?_
 ·refine Nl (J0w rfl<|Rg<|Ol<|J0z (vs:=(ec d E F G H I J K L)) M ag31 rfl rfl rfl<|Om<|On<|J0u (cs':=(ec d E F G H I J K L)) Z x io31 rfl rfl rfl rfl rfl rfl ?_);intro bv aq ar a0;replace a:=a.sp ar;replace N:=N.spo ar n9;refine Oa<|Nl<|J04<|Zh rfl (resV.c a0 rfl ag31 rfl) (J35 rfl)<|RetM.intro ⟨?_,?_⟩ aq.below
  ·exact⟨_,d,aU,rfl,(Ju d a.lo a.hi a.name a.n a.num a.den a.args).tr (Tr.weak aq.base),(Je8 i e).2,(Xa (Je8 i e).1<|Jn<|Z5 y),aw⟩
  exact Blk.to4 N.blk (congrArg plR (Je8 i e).1) (congrArg ecR (Je8 i e).1) rfl
 refine Nl (J0v rfl<|J01<|Rg<|Om<|Ol<|J08 Z N cb69 rfl rfl (X9 Z.bd (s:=s) (t:=blR s<|Rr.go t<|Jx s S o) (o:=o) N.blk (Z.yx _ N.mem) (c:=94) (Jn<|Z5 y) hs) ?_);intro bw bx a1 ah a2 bz;refine Nl (J06 ?_);have bA:=Q1 (s:=s) (t:=tkR s (blR s<|Rr.go t<|Jx s S o) 94);refine J2f mixed 5 1 [[],[0],[1],[],[3]] a1 a2 [fx<|.pointer (some ⟨g,0,none⟩),fun(z:Gh) (v:Value) (w':World)=>(v=(.int .i64 (inV s<|tkR s (blR s<|Rr.go t<|Jx s S o) 94)))∧Own ⟨w,(· =g)⟩ z.2 w' g (rc4 s (plR<|inR s<|tkR s (blR s<|Rr.go t<|Jx s S o) 94) (ecR<|inR s<|tkR s (blR s<|Rr.go t<|Jx s S o) 94) o) 62,fs Ye [(inV s<|tkR s (blR s<|Rr.go t<|Jx s S o) 94)],fx<|ea d E F G H I J K L,fs Jg [d]] (by kernel_rfl) ⟨sx,(fun _ _ _ _ _ ⟨h,o⟩ r=>⟨h,o.spn r.sp⟩),tSl,sx,tSl,trivial⟩ fun a3 P bB au j=>?_
 have k:=au.cx;have ai:=au.sp;replace a:=(a.sp ah).sp ai;replace x:=(x.spo ah<|Ne.symm n9).spo ai (Ne.symm n9);replace M:=(M.spo ah<|Ne.symm Y).spo ai (Ne.symm Y);have j:Keep [18,19,20,21,22] _ a3:=j;refine⟨⟨fun _ _=>?_,fun⟨a4,_⟩ A=>?_,fun⟨a5,_⟩ _=>?_,fun _ _=>?_,fun⟨a6,_⟩ _=>?_,trivial⟩,fun⟨a7,a8,Q,a9,R,_⟩=>?_⟩
 ·exact Ja j aN fun _=>OpSt.op<|J00 ⟨P,RZ.same k,rfl⟩
 ·replace A:=A rfl;refine Ja j (aC a4 aN) fun _=>OpSt.op (J08 k A Jh9 rfl rfl (Jkz k.bd (s:=s) (t:=tkR s (blR s<|Rr.go t<|Jx s S o) 94) (o:=o) A.blk (k.yx _ A.mem) (Yd<|Jn<|Z5 y) hs) ?_);intro bb bc ax ay az aA;exact⟨P,RT.step ax ay,aA,az⟩
 ·obtain⟨aB,be⟩:=a5;refine Ja j (aC aB aN) fun _=>OpSt.op (J1k (T:=Ye) (css:=[[(.int .i64 (inV s<|tkR s (blR s<|Rr.go t<|Jx s S o) 94))]]) (l:=[(inV s<|tkR s (blR s<|Rr.go t<|Jx s S o) 94)]) k sl23 io3 (by decide) (by decide) rfl (by kernel_rfl) ⟨⟨rfl,(by omega),(by omega)⟩,trivial⟩ ?_);intro bf bg aD aE aF;exact⟨P,RZ.go aD aE,aF⟩
 ·exact Ja j aN fun _=>OpSt.op<|J0z (vs:=(ec d E F G H I J K L)) M ag31 rfl rfl rfl ⟨P,RZ.same k,rfl⟩
 ·refine Ja j (aC a6 aN) fun _=>OpSt.op (J1k (T:=Jg) (css:=[(ec d E F G H I J K L)]) (l:=[d]) k sl29 io31 (by decide) (by decide) rfl (by kernel_rfl) ⟨(Z3 d a.lo a.hi a.name a.n a.num a.den a.args),trivial⟩ ?_);intro bh bi aG aH aI;exact⟨P,RZ.go aG aH,aI⟩
 obtain⟨aJ,U⟩:=a8;obtain⟨aj,ak,aK,Q⟩:=RS.opn Q;obtain⟨am,an,aL,R⟩:=RS.opn R;obtain⟨bj,rfl⟩:=mixK j (aC a7<|aC aJ<|aC aK<|aC a9<|aC aL aN);refine Ol (J09 (cs:=[(.int .i64 12),(.slice aj [(inV s<|tkR s (blR s<|Rr.go t<|Jx s S o) 94)].length ak),(.bool false),(.slice none 0 0),(.bool false),(.slice none 0 0),(str []),(.slice am [d].length an)]) rfl (by kernel_rfl)<|On<|J0u (cs':=[(.int .i64 12),(.slice aj [(inV s<|tkR s (blR s<|Rr.go t<|Jx s S o) 94)].length ak),(.bool false),(.slice none 0 0),(.bool false),(.slice none 0 0),(str []),(.slice am [d].length an)]) k x io31 rfl rfl rfl rfl rfl rfl ?_);intro bk ao V aM;replace Q:=Q.sp V;replace R:=R.sp V;replace U:=U.spo V n9;refine Oa<|Nl<|J04<|Zh rfl (resV.c aM rfl ag31 rfl) (J35 rfl)<|RetM.intro ⟨?_,?_⟩ ao.below
 ·exact⟨_,(.mk 12 [(inV s<|tkR s (blR s<|Rr.go t<|Jx s S o) 94)] ⟨⟨false,[]⟩,⟨false,[]⟩⟩ [] [d]),false,rfl,(Zs (by omega) (by omega) (by unfold maxLen;simp) Q RS.nil RS.nil R).tr (Tr.weak ao.base),(Jbc i e).2,(Xa (Jbc i e).1<|ye<|Yd<|Jn<|Z5 y),(nu_f rfl)⟩
 exact Blk.to4 U.blk (congrArg plR (Jbc i e).1) (congrArg ecR (Jbc i e).1) rfl
theorem x_Qm{X:Nat→Prop}{w:World}(hX:XB X w):CRt 103 #[(.int .i64 (-1))] w fun v w'=>RV Kf X w' v (ofQ mQ):=by
 rw [Jrn];exact x_Q hX (by decide) (by decide)
theorem Jkx{X:Nat→Prop}{w:World}(hX:XB X w){g:Nat}{s:List UInt8}{t:Rr Unit}{o:Nat}(hB:Blk w g (rc4 s (plR t) (ecR t) o) 62)(hXg:X g){minus:Bool}{S:Nat→Nat→Rr GExpr}{lo B:Nat}(ht:t.fine s)(hs:s.length≤65536)(bX:s.length≤1000)(ho:o≤1099511627776)(hS:∀ o p,p≤s.length→(S o p).fw s p)(ih:(∃ p,t= .ok () p)→SumX s S lo B)(hoB:o+1≤B)(hlo:Lo lo t):Calls Tryz.prog 70 #[(.pointer (some ⟨g,0,none⟩)),(.bool minus)] w (RetM w g fun v w'=>(∃ m:GExpr,RV Jg X w' v m∧Got (Rr.run t (Zx s S minus o)) m∧Rr.fine s (Rr.run t (Zx s S minus o)))∧Blk w' g (rc4 s (plR (Rr.go t (Zx s S minus o))) (ecR (Rr.go t (Zx s S minus o))) o) 62):=by
 have C:=J1t g hX hXg;have o0:=J38 hB
 have:maxLen=9223372036854775807:=rfl
 refine Cgo (args:=[(.pointer (some ⟨g,0,none⟩)),(.bool minus)]) Tryz.func70 rfl rfl rfl (Rg<|Ol<|J05 C io31 rfl ?_);intro g1 w2 x3 y4 c2 C6 s7 o8;have n9:=c2 _ o0.blk.lt;replace o0:=o0.spn s7;refine Nl (Rg<|Om<|Ol<|J08 C6 o0 Jtm rfl rfl (Jip C6.bd (s:=s) (t:=t) (o:=o) o0.blk (C6.yx _ o0.mem) ht hs bX ho hS ih hoB hlo) ?_);intro eE eF c3 c4 Y c5;replace o8:=o8.spo c4 (Ne.symm n9);obtain⟨eG,P,Z,rfl,c6,b5,b6,b7⟩:=c5;obtain⟨aj,ak,am,an,ao,aq,ar,au,rfl,b⟩:=J37 c6;refine Om (Ol<|St.extract rfl rfl<|Ol<|St.extract rfl rfl<|Ol<|J05 c3 io31 rfl ?_);intro c7 eH eI eJ aS c8 aT c9;have aH:=aS _ Y.blk.lt;have da:=aS _ o8.blk.lt;replace Y:=Y.spn aT;replace o8:=o8.spn aT;refine On (J0u (cs':=(ec P aj ak am an ao aq ar au)) c8 c9 io31 rfl rfl rfl rfl rfl rfl ?_);intro eK db aU aI;replace b:=(b.sp aT).sp aU;refine Oa (Nl<|Rg<|Ol<|J0z (vs:=(ec P aj ak am an ao aq ar au)) aI ag31 rfl rfl rfl<|Ol<|J2v (T:=Jg) (css:=[(ec P aj ak am an ao aq ar au)]) (l:=[P]) db sl29 io31 (by decide) (by decide) rfl (by kernel_rfl) ⟨(Z3 P b.lo b.hi b.name b.n b.num b.den b.args),trivial⟩ ?_);intro dc eL eM dd aJ eN de;replace b:=b.sp aJ;replace Y:=(Y.spo aU aH).spn aJ;replace o8:=(o8.spo aU da).spn aJ;replace aI:=aI.spn aJ;refine Oa<|Nl<|J06<|J2b (fun f v=>∃ (x y:Nat→Prop) (T:Rr Unit) (l:List GExpr) (la:Option Addr) (lc:Nat),Cx X ⟨w,(· =g)⟩ x y v∧f 1=(.bool minus)∧f 4=(.pointer (some ⟨g1,0,none⟩))∧f 6=(.bool Z)∧f 7=(.slice la l.length lc)∧OS Jg 31 ⟨w,(· =g)⟩ x y v (.slice la l.length lc) l∧Own ⟨w,(· =g)⟩ y v g [(str s),(.int .i64 ((plR T:Nat):Int)),(.int .i64 (ecR T)),(.int .i64 ((o:Nat):Int))] 62∧Own ⟨w,(· =g)⟩ y v g1 [(.int .i64 0),(.slice none 0 0),(.bool false),(.slice none 0 0),(.bool false),(.slice none 0 0),(str []),(.slice none 0 0)] 31∧T.fine s∧PrT s S o t T l Z∧0 < l.length∧(Z=true→nuE (l.getD 0 default))∧l.length≤s.length+3) ?_ ?_
 ·refine W.block (J1g (fun μ f v=>∃ (x y:Nat→Prop) (τ:Rr Unit) (k:Nat) (l:List GExpr) (la:Option Addr) (lc:Nat),Cx X ⟨w,(· =g)⟩ x y v∧f 0=(.pointer (some ⟨g,0,none⟩))∧f 1=(.bool minus)∧f 4=(.pointer (some ⟨g1,0,none⟩))∧f 6=(.bool Z)∧f 7=(.slice la l.length lc)∧ExprParts x v P aj ak am an ao aq ar au∧OS Jg 31 ⟨w,(· =g)⟩ x y v (.slice la l.length lc) l∧Own ⟨w,(· =g)⟩ y v g [(str s),(.int .i64 ((plR τ:Nat):Int)),(.int .i64 (ecR τ)),(.int .i64 ((o:Nat):Int))] 62∧Own ⟨w,(· =g)⟩ y v g1 [(.int .i64 0),(.slice none 0 0),(.bool false),(.slice none 0 0),(.bool false),(.slice none 0 0),(str []),(.slice none 0 0)] 31∧Own ⟨w,(· =g)⟩ y v c7 (ec P aj ak am an ao aq ar au) 31∧τ.fine s∧Lo lo τ∧((∃ p,τ= .ok () p)→∃ p,t= .ok () p)∧(t.run<|Kg s S o (s.length+1) [] false)=τ.run (prG s S o k l Z)∧(ecR τ=0→s.length≤plR τ+k)∧0 < l.length∧(Z=true→nuE (l.getD 0 default))∧l.length+msR s τ≤s.length+3∧μ=(msR s τ)) _ ⟨_,_,(Rr.go t<|powM s S o),s.length,[P],(some ⟨dc,0,none⟩),1,dd,rfl,rfl,rfl,rfl,rfl,b,de,Y,o8,aI,(Z5 b6),(Jxb hS hlo ht),(okg<|fun h=>h),(Jki b5),(fun _=>Nat.le_add_left _ _),(Nat.succ_pos _),b7,(by have:=Jru (s:=s) (t:=Rr.go t<|powM s S o);rw [List.length_singleton];omega),rfl⟩ ?_);rintro eO eP eQ ⟨eR,eS,τ,k,l,la,lc,aV,bY,bZ,b0,b1,b2,b,hL,aW,i,r,hf,hlq,hto,hR,hk,hl,hnu,hll,di⟩;obtain⟨eT,rfl⟩:=rebK (aC bY<|aC bZ<|aC b0<|aC b1<|aC b2 aN);clear bY bZ b0 b1 b2;refine Rh (Om<|Ol<|J08 aV aW cb32 rfl rfl (Xj aV.bd (s:=s) (t:=τ) (o:=o) aW.blk (aV.yx _ aW.mem) hf hs) ?_);intro eU eV av aK aL df;replace b:=b.sp aK;replace hL:=hL.sp aK av<|fun _ h=>h
  replace i:=i.spo aK (Ne.symm n9);replace r:=r.spo aK (Ne.symm aH);subst df;refine Ol<|J1a rfl rfl (fun J=>?_)<|fun J=>?_
  ·refine Nl (J0w rfl<|J01<|W.block<|Rg<|Om<|Ol<|J08 av aL cb69 rfl rfl (X9 av.bd (s:=s) (t:=blR s τ) (o:=o) aL.blk (av.yx _ aL.mem) (c:=42) (Jn hf) hs) ?_);intro eW eX aM aO aX eY;replace hL:=hL.sp aO aM<|fun _ h=>h
   refine Nl (Rg<|Om<|Ol<|J08 aM aX Jtm rfl rfl (Jip aM.bd (s:=s) (t:=tkR s (blR s τ) 42) (o:=o) aX.blk (aM.yx _ aX.mem) (Yd<|Jn hf) hs bX ho hS (okg<|okg<|fun h=>ih<|hto h) hoB<|Jbr (Jau hlq hf)<|Jn hf) ?_);intro eZ e0 b3 aP G dg;replace b:=(b.sp aO).sp aP;replace i:=(i.spo aO<|Ne.symm n9).spo aP (Ne.symm n9);replace r:=(r.spo aO<|Ne.symm aH).spo aP (Ne.symm aH);obtain⟨e1,aa,e2,rfl,dh,ab,Q,dr⟩:=dg;obtain⟨aY,aZ,a1,a2,a3,aw,ax,ay,rfl,z⟩:=J37 dh;refine Om (Ol<|St.extract rfl rfl<|Ol<|St.extract rfl rfl<|Ol<|J24 b3 io31 rfl ?_);intro ds dt du dv ac a4 K b8 b9;have ca:=ac _ G.blk.lt;have cb:=ac _ i.blk.lt;have cc:=ac _ r.blk.lt;replace hL:=(hL.sp aP b3<|fun _ h=>h).sp K a4 b9;replace G:=G.spn K;replace i:=i.spn K;replace r:=r.spn K;refine On (J0u (cs':=(ec aa aY aZ a1 a2 a3 aw ax ay)) a4 b8 io31 rfl rfl rfl rfl rfl rfl ?_);intro dw a5 L cd;replace b:=(b.sp K).sp L;replace z:=(z.sp K).sp L;refine Oa (Nl<|J0y<|Om<|Ol<|J0z (vs:=(ec aa aY aZ a1 a2 a3 aw ax ay)) cd ag31 rfl rfl rfl<|Ol<|J1k (T:=Jg) (css:=[(ec aa aY aZ a1 a2 a3 aw ax ay)]) (l:=[aa]) a5 sl29 io31 (by decide) (by decide) rfl (by kernel_rfl) ⟨(Z3 aa z.lo z.hi z.name z.n z.num z.den z.args),trivial⟩ ?_);intro dx dy a6 R ce;replace hL:=(hL.sp L a5<|fun _ h=>h).sp R a6 (fun _ h=>h)
   replace G:=(G.spo L ca).spn R;replace i:=(i.spo L cb).spn R;replace r:=(r.spo L cc).spn R;refine Ol (J1o (T:=Jg) a6 sl29 io31 rfl rfl hL (Kb ce) (by simp only [List.length_cons,List.length_nil];omega) (by simp only [List.length_cons,List.length_nil];omega) rfl ?_);intro dz dA dB cf ad dC a7;replace b:=(b.sp R).tr ad.tx;replace G:=G.ap ad G.mem;replace i:=i.ap ad i.mem;replace r:=r.ap ad r.mem;obtain⟨cg,ch,rfl,_,_⟩:=a7.len;refine Oa<|Nl<|⟨_,(by have:=(qg hS hR hk hf hl J ab Q).2.1;omega),_,_,(Rr.go (tkR s (blR s τ) 42)<|powM s S o),(k - 1),(l++[aa]),cg,ch,cf,rfl,rfl,rfl,rfl,rfl,b,a7,G,i,r,(Z5 Q),(Jxb hS (Jbr (Jau hlq hf)<|Jn hf)<|Yd<|Jn hf),(okg<|okg<|okg hto),(qg hS hR hk hf hl J ab Q).1,(qg hS hR hk hf hl J ab Q).2.2,(by rw [List.length_append];omega),(Jv3 hl hnu),(by rw [List.length_append,List.length_singleton];have:=(qg hS hR hk hf hl J ab Q).2.1;omega),rfl⟩
  refine Nl<|J0v rfl<|J1j<|⟨_,_,(blR s τ),l,la,lc,av,rfl,rfl,rfl,rfl,hL,aL,i,(Jn hf),(Jsc hR J),hl,hnu,(by omega)⟩
 rintro dD dE ⟨dF,dG,T,l,la,lc,U,a8,a9,ba,bb,hL,d,e,hT,hP,hl,hnu,hll⟩;obtain⟨dH,rfl⟩:=rebK (aC a8<|aC a9<|aC ba<|aC bb aN);clear a8 a9 ba bb
 cases minus
 ·refine J06<|J2b (fun f v=>∃ (x y:Nat→Prop) (m:List GExpr) (ma:Option Addr) (mc:Nat),Cx X ⟨w,(· =g)⟩ x y v∧f 4=(.pointer (some ⟨g1,0,none⟩))∧f 7=(.slice ma m.length mc)∧RS Jg x v (.slice ma m.length mc) m∧Own ⟨w,(· =g)⟩ y v g [(str s),(.int .i64 ((plR T:Nat):Int)),(.int .i64 (ecR T)),(.int .i64 ((o:Nat):Int))] 62∧Own ⟨w,(· =g)⟩ y v g1 [(.int .i64 0),(.slice none 0 0),(.bool false),(.slice none 0 0),(.bool false),(.slice none 0 0),(str []),(.slice none 0 0)] 31∧PrZ s S o t T false m) ?_ ?_
  ·refine Rg (Om<|Om<|Oz<|OF<|Nl<|J0v rfl<|Rg<|Om<|Nl<|J0v rfl<|J01 ?_);obtain⟨dI,ci,dj,cj⟩:=hL.freeze U hX d.sees;refine⟨_,_,l,la,lc,ci,rfl,rfl,cj,d,e,(pr_f0 hP)⟩
  rintro dJ dK ⟨dL,dM,m,ma,mc,bc,be,bf,H,M,bg,hZ⟩;obtain⟨dN,rfl⟩:=rebK (aC be<|aC bf aN);clear be bf;refine Rh<|Om<|Ol<|St.len sl29 rfl<|Ol<|J1a rfl rfl (fun ae=>?_)<|fun ae=>?_
  ·refine Nl (J0w rfl<|Rg<|Om<|Ol<|J1l (j:=0) (u:=(m.getD 0 default)) H sl29 io31 rfl rfl rfl (Jf (by omega)) ?_);intro dO dP dk bh;obtain⟨bi,bj,bk,bl,bm,bn,bo,bp,rfl,A⟩:=Jv bh.rd;refine Ol (J14 (cs:=(ec (m.getD 0 default) bi bj bk bl bm bn bo bp)) ag31 rfl rfl bh.cell<|On<|J0u (cs':=(ec (m.getD 0 default) bi bj bk bl bm bn bo bp)) bc bg io31 rfl rfl rfl rfl rfl rfl ?_);intro dQ bq br ck;replace A:=A.sp br;replace M:=M.spo br n9;refine Nl<|J04<|Jo rfl (resV.c ck rfl ag31 rfl)<|RetM.intro ⟨?_,?_⟩ bq.below
   ·exact⟨(m.getD 0 default),(Ju (m.getD 0 default) A.lo A.hi A.name A.n A.num A.den A.args).tr (Tr.weak bq.base),(Jj1 hZ.2 ae),(Xa hZ.1 hT)⟩
   exact Blk.to4 M.blk (congrArg plR hZ.1) (congrArg ecR hZ.1) rfl
  refine Nl (J0v rfl<|J01<|Rg<|Om<|Ol<|J09 (cs:=[(.int .i64 11),(.slice none 0 0),(.bool false),(.slice none 0 0),(.bool false),(.slice none 0 0),(str []),(.slice ma m.length mc)]) rfl (by kernel_rfl)<|On<|J0u (cs':=[(.int .i64 11),(.slice none 0 0),(.bool false),(.slice none 0 0),(.bool false),(.slice none 0 0),(str []),(.slice ma m.length mc)]) bc bg io31 rfl rfl rfl rfl rfl rfl ?_);intro dR bs bt cl;replace H:=H.sp bt;replace M:=M.spo bt n9;refine Nl<|J04<|Jo rfl (resV.c cl rfl ag31 rfl)<|RetM.intro ⟨?_,?_⟩ bs.below
  ·exact⟨(.mk 11 [] ⟨⟨false,[]⟩,⟨false,[]⟩⟩ [] m),(Zs (by omega) (by omega) (by unfold maxLen;simp) RS.nil RS.nil RS.nil H).tr (Tr.weak bs.base),(Jq9 hZ.2 ae),(Xa hZ.1 hT)⟩
  exact Blk.to4 M.blk (congrArg plR hZ.1) (congrArg ecR hZ.1) rfl
 refine J06<|J2b (fun f v=>∃ (x y:Nat→Prop) (m:List GExpr) (ma:Option Addr) (mc:Nat),Cx X ⟨w,(· =g)⟩ x y v∧f 4=(.pointer (some ⟨g1,0,none⟩))∧f 7=(.slice ma m.length mc)∧RS Jg x v (.slice ma m.length mc) m∧Own ⟨w,(· =g)⟩ y v g [(str s),(.int .i64 ((plR T:Nat):Int)),(.int .i64 (ecR T)),(.int .i64 ((o:Nat):Int))] 62∧Own ⟨w,(· =g)⟩ y v g1 [(.int .i64 0),(.slice none 0 0),(.bool false),(.slice none 0 0),(.bool false),(.slice none 0 0),(str []),(.slice none 0 0)] 31∧PrZ s S o t T true m) ?_ ?_
 ·refine Rg<|Om<|Om<|OgD<|J00<|OT<|Nl<|J20 rfl (fun I=>?_)<|fun I=>?_
  ·obtain⟨V,l0,rfl⟩:=Jj9 hl;obtain⟨cm,rfl⟩:=hL.adr hl;have aQ:nuE V:=hnu I;refine J0y (Om<|Om<|Ol<|J2z hL sl29 io31 rfl rfl ?_);intro dl bu;obtain⟨dT,dU,cn,co,cp,cq,dV,dW,rfl,bv⟩:=Jv bu.rd;refine Ol (J0s Qo rfl<|Ol<|J14 (cs:=[(.bool V.c.num.neg),(.slice cn V.c.num.mag.length co),(.bool V.c.den.neg),(.slice cp V.c.den.mag.length cq)]) ag28 rfl rfl (Jav bu.cell rfl)<|Ol<|J0t U cb102 rfl rfl (Jti U.bd (a:=V.c) (Zz bv.num bv.den) aQ.ln aQ.ld) ?_);intro dX dY az aA cr;obtain⟨dZ,d0,d1,d2,rfl,ct,cu⟩:=J4a cr;refine Ol (J0t az Jly rfl rfl (qf az.bd (a:=(ofQ<|-V.c.q)) (Zz ct cu) aQ.nl.1 aQ.nl.2) ?_);intro d3 d4 bw aB bx;replace hL:=(hL.sp aA az<|fun _ h=>h).sp aB bw (fun _ h=>h)
   replace d:=(d.spn aA).spn aB;replace e:=(e.spn aA).spn aB;simp only [Jq,Yq] at bx;obtain⟨cv,cw,cx,cy,cz,cE,cF,cG,rfl,E⟩:=J37 bx;refine Ol (J2z hL sl29 io31 rfl rfl ?_);intro dm bz;obtain⟨d5,d6,d7,d8,d9,eb,ed,ee,rfl,ef⟩:=Jv bz.rd;refine On (J26 (off:=0) (cs':=(ec (.mk 1 [] (ofQ<|-V.c.q) [] []) cv cw cx cy cz cE cF cG)) (u':=(.mk 1 [] (ofQ<|-V.c.q) [] [])) bw hL bz io31 rfl rfl rfl rfl rfl rfl (Z3 (.mk 1 [] (ofQ<|-V.c.q) [] []) E.lo E.hi E.name E.n E.num E.den E.args) ?_);intro eg cH bA cI;replace d:=d.ap bA d.mem;replace e:=e.ap bA e.mem;refine Nl ?_;obtain⟨eh,cJ,dn,cK⟩:=cI.freeze cH hX d.sees;refine⟨_,_,((.mk 1 [] (ofQ<|-V.c.q) [] [])::l0),(some ⟨cm,0,none⟩),lc,cJ,rfl,rfl,cK,d,e,(pr_f2 hP I<|hnu I)⟩
  refine Rg (Om<|Nl<|J0w rfl<|J0y<|Ol<|J0t U cb103 rfl rfl (x_Qm U.bd) ?_);intro ei ej aD aE cL;replace hL:=hL.sp aE aD<|fun _ h=>h
  obtain⟨ek,el,em,en,rfl,cM,cN⟩:=J4a cL;refine Ol (J0t aD Jly rfl rfl (qf aD.bd (a:=(ofQ mQ)) (Zz cM cN) Jpd.1 Jpd.2) ?_);intro eo ep bB aF bC;replace d:=(d.spn aE).spn aF;replace e:=(e.spn aE).spn aF;simp only [Jq,Yq] at bC;obtain⟨cO,cP,cQ,cR,cS,cT,cU,cV,rfl,F⟩:=J37 bC;refine Ol (J1k (T:=Jg) (css:=[(ec (.mk 1 [] (ofQ mQ) [] []) cO cP cQ cR cS cT cU cV)]) (l:=[(.mk 1 [] (ofQ mQ) [] [])]) bB sl29 io31 (by decide) (by decide) rfl (by kernel_rfl) ⟨(Z3 (.mk 1 [] (ofQ mQ) [] []) F.lo F.hi F.name F.n F.num F.den F.args),trivial⟩ ?_);intro eq es bD aG cW;replace hL:=(hL.sp aF bB<|fun _ h=>h).sp aG bD (fun _ h=>h)
  refine Om (Ol<|J2c (T:=Jg) bD sl29 io31 rfl rfl cW (Juj hL) (by simp only [List.length_cons,List.length_nil];omega) (by simp only [List.length_cons,List.length_nil];omega) rfl ?_);intro et eu cX bE bF;replace d:=(d.spn aG).spn bE;replace e:=(e.spn aG).spn bE;obtain⟨cY,cZ,rfl,_,_⟩:=bF.len;refine Oa<|Nl<|⟨_,_,([(.mk 1 [] (ofQ mQ) [] [])]++l),cY,cZ,cX,rfl,rfl,bF,d,e,(pr_f1 hP I)⟩
 rintro ev ew ⟨ex,ey,m,ma,mc,bG,bH,bI,H,N,bJ,hZ⟩;obtain⟨ez,rfl⟩:=rebK (aC bH<|aC bI aN);clear bH bI;refine Rh<|Om<|Ol<|St.len sl29 rfl<|Ol<|J1a rfl rfl (fun af=>?_)<|fun af=>?_
 ·refine Nl (J0w rfl<|Rg<|Om<|Ol<|J1l (j:=0) (u:=(m.getD 0 default)) H sl29 io31 rfl rfl rfl (Jf (by omega)) ?_);intro eA eB dp bK;obtain⟨bL,bM,bN,bO,bP,bQ,bR,bS,rfl,D⟩:=Jv bK.rd;refine Ol (J14 (cs:=(ec (m.getD 0 default) bL bM bN bO bP bQ bR bS)) ag31 rfl rfl bK.cell<|On<|J0u (cs':=(ec (m.getD 0 default) bL bM bN bO bP bQ bR bS)) bG bJ io31 rfl rfl rfl rfl rfl rfl ?_);intro eC bT bU c0;replace D:=D.sp bU;replace N:=N.spo bU n9;refine Nl<|J04<|Jo rfl (resV.c c0 rfl ag31 rfl)<|RetM.intro ⟨?_,?_⟩ bT.below
  ·exact⟨(m.getD 0 default),(Ju (m.getD 0 default) D.lo D.hi D.name D.n D.num D.den D.args).tr (Tr.weak bT.base),(Jj1 hZ.2 af),(Xa hZ.1 hT)⟩
  exact Blk.to4 N.blk (congrArg plR hZ.1) (congrArg ecR hZ.1) rfl
 refine Nl (J0v rfl<|J01<|Rg<|Om<|Ol<|J09 (cs:=[(.int .i64 11),(.slice none 0 0),(.bool false),(.slice none 0 0),(.bool false),(.slice none 0 0),(str []),(.slice ma m.length mc)]) rfl (by kernel_rfl)<|On<|J0u (cs':=[(.int .i64 11),(.slice none 0 0),(.bool false),(.slice none 0 0),(.bool false),(.slice none 0 0),(str []),(.slice ma m.length mc)]) bG bJ io31 rfl rfl rfl rfl rfl rfl ?_);intro eD bV bW c1;replace H:=H.sp bW;replace N:=N.spo bW n9;refine Nl<|J04<|Jo rfl (resV.c c1 rfl ag31 rfl)<|RetM.intro ⟨?_,?_⟩ bV.below
 ·exact⟨(.mk 11 [] ⟨⟨false,[]⟩,⟨false,[]⟩⟩ [] m),(Zs (by omega) (by omega) (by unfold maxLen;simp) RS.nil RS.nil RS.nil H).tr (Tr.weak bV.base),(Jq9 hZ.2 af),(Xa hZ.1 hT)⟩
 exact Blk.to4 N.blk (congrArg plR hZ.1) (congrArg ecR hZ.1) rfl
end Go.Wf
namespace Go.Wf
open Go Go.Proofs Go.RowKit
theorem Jm0{X:Nat→Prop}{w:World}(hX:XB X w){g:Nat}{s:List UInt8}{t:Rr Unit}{o:Nat}(hB:Blk w g (rc4 s (plR t) (ecR t) o) 62)(hXg:X g){S:Nat→Nat→Rr GExpr}{lo B:Nat}(ht:t.fine s)(hs:s.length≤65536)(am:s.length≤1000)(ho:o≤1099511627776)(hS:∀ o p,p≤s.length→(S o p).fw s p)(ih:(∃ p,t= .ok () p)→SumX s S lo B)(hoB:o+1≤B)(hlo:Lo lo t):Calls Tryz.prog 31 #[(.pointer (some ⟨g,0,none⟩))] w (RetM w g fun v w'=>(∃ m:GExpr,RV Jg X w' v m∧Got (Rr.run t (sumF s S o)) m∧Rr.fine s (Rr.run t (sumF s S o)))∧Blk w' g (rc4 s (plR (Rr.go t (sumF s S o))) (ecR (Rr.go t (sumF s S o))) o) 62):=by
 have C:=J1t g hX hXg;have o0:=J38 hB
 have:maxLen=9223372036854775807:=rfl
 refine Cgo (args:=[(.pointer (some ⟨g,0,none⟩))]) Tryz.func31 rfl rfl rfl (Rg<|Ol<|J05 C io31 rfl ?_);intro g1 w2 x3 y4 bG C6 s7 o8;have G:=bG _ o0.blk.lt;replace o0:=o0.spn s7;refine Nl (Rg<|Om<|Ol<|J08 C6 o0 cb32 rfl rfl (Xj C6.bd (s:=s) (t:=t) (o:=o) o0.blk (C6.yx _ o0.mem) ht hs) ?_);intro cG cH ae bH af bI;replace o8:=o8.spo bH (Ne.symm G);subst bI;refine Ol<|J1y rfl rfl rfl<|Oa<|Nl<|J06<|J2b (fun f v=>∃ (x y:Nat→Prop) (τ:Rr Unit),Cx X ⟨w,(· =g)⟩ x y v∧f 0=(.pointer (some ⟨g,0,none⟩))∧f 2=(.pointer (some ⟨g1,0,none⟩))∧f 3=(.bool (decide<|(((pkS s t):Nat):Int)=45))∧Own ⟨w,(· =g)⟩ y v g [(str s),(.int .i64 ((plR τ:Nat):Int)),(.int .i64 (ecR τ)),(.int .i64 ((o:Nat):Int))] 62∧Own ⟨w,(· =g)⟩ y v g1 [(.int .i64 0),(.slice none 0 0),(.bool false),(.slice none 0 0),(.bool false),(.slice none 0 0),(str []),(.slice none 0 0)] 31∧τ.fine s∧Lo lo τ∧((∃ p,τ= .ok () p)→∃ p,t= .ok () p)∧t.run (sumF s S o)=τ.run (suH s S o<|decide<|(((pkS s t):Nat):Int)=45)) ?_ ?_
 ·refine Rg<|Om<|Nl<|J20 rfl (fun I=>?_)<|fun I=>?_
  ·try simp only [Bool.not_eq_true',Bool.not_eq_false',decide_eq_true_eq,decide_eq_false_iff_not] at I
   refine J0y (Om<|Ol<|J08 ae af cb69 rfl rfl (X9 ae.bd (s:=s) (t:=blR s t) (o:=o) af.blk (ae.yx _ af.mem) (c:=45) (Jn ht) hs) ?_);intro cI cJ bJ bK bL cK;replace o8:=o8.spo bK (Ne.symm G);refine Nl<|⟨_,_,(tkR s (blR s t) 45),bJ,rfl,rfl,rfl,bL,o8,(Yd<|Jn ht),(Jbr (Jau hlo ht)<|Jn ht),(okg<|okg<|fun h=>h),(su_d1<|decide_eq_true I)⟩
  try simp only [Bool.not_eq_true',Bool.not_eq_false',decide_eq_true_eq,decide_eq_false_iff_not] at I
  refine J01<|⟨_,_,(blR s t),ae,rfl,rfl,rfl,af,o8,(Jn ht),(Jau hlo ht),(okg<|fun h=>h),(su_d0<|decide_eq_false I)⟩
 rintro cL cM ⟨cN,cO,τ,an,aY,aZ,a0,ao,V,hf,hlq,hto,bM⟩;obtain⟨cP,rfl⟩:=rebK (aC aY<|aC aZ<|aC a0 aN);clear aY aZ a0;refine Rg (Om<|Om<|Ol<|J08 an ao cb70 rfl rfl (Jkx an.bd (s:=s) (t:=τ) (o:=o) ao.blk (an.yx _ ao.mem) hf hs am ho hS (fun h=>ih<|hto h) hoB hlq) ?_);intro cQ cR bN bO Y bP;replace V:=V.spo bO (Ne.symm G);obtain⟨ag,bQ,bc,aq⟩:=bP;obtain⟨bR,bS,bT,bU,bV,bW,bX,bY,rfl,J⟩:=J37 bQ;refine Ol (J2v (T:=Jg) (css:=[(ec ag bR bS bT bU bV bW bX bY)]) (l:=[ag]) bN sl29 io31 (by decide) (by decide) rfl (by kernel_rfl) ⟨(Z3 ag J.lo J.hi J.name J.n J.num J.den J.args),trivial⟩ ?_);intro bZ cS cT ar a1 cU au;replace Y:=Y.spn a1;refine Oa (Nl<|Rh<|Om<|Ol<|J08 ar Y cb32 rfl rfl (Xj ar.bd (s:=s) (t:=Rr.go τ<|Zx s S (decide<|(((pkS s t):Nat):Int)=45) o) (o:=o) Y.blk (ar.yx _ Y.mem) (Z5 aq) hs) ?_);intro cV cW a2 a3 b0 b1;replace au:=au.sp a3 a2<|fun _ h=>h
 replace V:=(V.spn a1).spo a3 (Ne.symm G);subst b1;refine Oa (Nl<|W.block<|J1g (fun μ f v=>∃ (x y:Nat→Prop) (σ:Rr Unit) (k:Nat) (l:List GExpr) (la:Option Addr) (lc:Nat),Cx X ⟨w,(· =g)⟩ x y v∧f 0=(.pointer (some ⟨g,0,none⟩))∧f 2=(.pointer (some ⟨g1,0,none⟩))∧f 4=(.slice la l.length lc)∧f 5=(.int .u8 (((pkS s σ):Nat):Int))∧OS Jg 31 ⟨w,(· =g)⟩ x y v (.slice la l.length lc) l∧Own ⟨w,(· =g)⟩ y v g [(str s),(.int .i64 ((plR (blR s σ):Nat):Int)),(.int .i64 (ecR<|blR s σ)),(.int .i64 ((o:Nat):Int))] 62∧Own ⟨w,(· =g)⟩ y v g1 [(.int .i64 0),(.slice none 0 0),(.bool false),(.slice none 0 0),(.bool false),(.slice none 0 0),(str []),(.slice none 0 0)] 31∧σ.fine s∧Lo lo σ∧((∃ p,σ= .ok () p)→∃ p,t= .ok () p)∧(t.run<|sumF s S o)=σ.run (suT s S o k l)∧(ecR σ=0→s.length < plR σ+k)∧l.length+msR s σ≤s.length+3∧μ=(msR s σ)) _ ⟨_,_,(Rr.go τ<|Zx s S (decide<|(((pkS s t):Nat):Int)=45) o),(s.length+1),[ag],(some ⟨bZ,0,none⟩),1,a2,rfl,rfl,rfl,rfl,au,b0,V,(Z5 aq),(Jr6 hS hlq hf),(okg hto),(Jvm bM bc),(fun _=>by omega),(by have:=Jru (s:=s) (t:=(Rr.go τ<|Zx s S (decide<|(((pkS s t):Nat):Int)=45) o));rw [List.length_singleton];omega),rfl⟩ ?_);rintro cX cY cZ ⟨c0,c1,σ,k,l,la,lc,K,a4,a5,a6,a7,hL,e,b,hf,hlq,hto,hR,hk,hll,b7⟩;obtain⟨c2,rfl⟩:=rebK (aC a4<|aC a5<|aC a6<|aC a7 aN);clear a4 a5 a6 a7;refine Rh<|Om<|Ol<|J1a rfl rfl (fun d=>?_)<|fun d=>?_
 ·refine Om (Oz<|Oz<|OT<|Nl<|J0w rfl<|J01<|J06<|W.block<|Rg<|Om<|Om<|Ol<|J08 K e cb69 rfl rfl (X9 K.bd (s:=s) (t:=(blR s σ)) (o:=o) e.blk (K.yx _ e.mem) (c:=(pkS s σ)) (Jn hf) hs) ?_);intro c3 c4 ah a8 av c5;replace hL:=hL.sp a8 ah<|fun _ h=>h
  replace b:=b.spo a8 (Ne.symm G);refine Nl (J0y<|Om<|Om<|Om<|Ol<|J1y (t:=false) rfl rfl (decide_eq_false (by omega))<|Ol<|J08 ah av cb70 rfl rfl (Jkx ah.bd (s:=s) (t:=tkR s (blR s σ)<|pkS s σ) (o:=o) av.blk (ah.yx _ av.mem) (Yd<|Jn hf) hs am ho hS (okg<|okg<|fun h=>ih<|hto h) hoB<|Jbr (Jau hlq hf)<|Jn hf) ?_);intro c6 c7 a9 ba F b2;obtain⟨ai,b3,L,E⟩:=b2;obtain⟨b4,b5,b6,be,bf,bg,bh,bi,rfl,A⟩:=J37 b3;refine Ol (J1k (T:=Jg) (css:=[(ec ai b4 b5 b6 be bf bg bh bi)]) (l:=[ai]) a9 sl29 io31 (by decide) (by decide) rfl (by kernel_rfl) ⟨(Z3 ai A.lo A.hi A.name A.n A.num A.den A.args),trivial⟩ ?_);intro cb cc aw Z bj;replace hL:=(hL.sp ba a9<|fun _ h=>h).sp Z aw (fun _ h=>h)
  replace F:=F.spn Z;replace b:=(b.spo ba<|Ne.symm G).spn Z;refine Ol (J1o (T:=Jg) aw sl29 io31 rfl rfl hL (Kb bj) (by simp only [List.length_cons,List.length_nil];omega) (by simp only [List.length_cons,List.length_nil];omega) rfl ?_);intro cd ce cf aa ax cg M;replace F:=F.ap ax F.mem;obtain⟨bk,bl,rfl,_,_⟩:=M.len;refine Oa (Nl<|J0y<|Om<|Ol<|J08 aa F cb32 rfl rfl (Xj aa.bd (s:=s) (t:=Rr.go (tkR s (blR s σ)<|pkS s σ)<|Zx s S false o) (o:=o) F.blk (aa.yx _ F.mem) (Z5 E) hs) ?_);intro ch ci ay az bm bn;replace M:=M.sp az ay<|fun _ h=>h
  replace b:=(b.ap ax b.mem).spo az (Ne.symm G);subst bn;refine Oa<|Nl<|⟨_,(by have:=(Qb hS hR hk hf (.inl ⟨rfl,rfl⟩) d L E).2.1;omega),_,_,(Rr.go (tkR s (blR s σ)<|pkS s σ)<|Zx s S false o),(k - 1),(l++[ai]),bk,bl,ay,rfl,rfl,rfl,rfl,M,bm,b,(Z5 E),(Jr6 hS (Jbr (Jau hlq hf)<|Jn hf)<|Yd<|Jn hf),(okg<|okg<|okg hto),(Qb hS hR hk hf (.inl ⟨rfl,rfl⟩) d L E).1,(Qb hS hR hk hf (.inl ⟨rfl,rfl⟩) d L E).2.2,(by rw [List.length_append,List.length_singleton];have:=(Qb hS hR hk hf (.inl ⟨rfl,rfl⟩) d L E).2.1;omega),rfl⟩
 refine Om<|OgD<|J00<|OgD<|J1a rfl rfl (fun a=>?_)<|fun a=>?_
 ·refine OF (Nl<|J0w rfl<|J01<|J06<|W.block<|Rg<|Om<|Om<|Ol<|J08 K e cb69 rfl rfl (X9 K.bd (s:=s) (t:=(blR s σ)) (o:=o) e.blk (K.yx _ e.mem) (c:=(pkS s σ)) (Jn hf) hs) ?_);intro cj ck N aA ab cl;replace hL:=hL.sp aA N<|fun _ h=>h
  replace b:=b.spo aA (Ne.symm G);refine Nl (J0y<|Om<|Om<|Om<|Ol<|J1y (t:=true) rfl rfl (decide_eq_true (by omega))<|Ol<|J08 N ab cb70 rfl rfl (Jkx N.bd (s:=s) (t:=tkR s (blR s σ)<|pkS s σ) (o:=o) ab.blk (N.yx _ ab.mem) (Yd<|Jn hf) hs am ho hS (okg<|okg<|fun h=>ih<|hto h) hoB<|Jbr (Jau hlq hf)<|Jn hf) ?_);intro cm cn aB aD r bo;obtain⟨P,bp,H,z⟩:=bo;obtain⟨bq,br,bs,bt,bu,bv,bw,bx,rfl,D⟩:=J37 bp;refine Ol (J1k (T:=Jg) (css:=[(ec P bq br bs bt bu bv bw bx)]) (l:=[P]) aB sl29 io31 (by decide) (by decide) rfl (by kernel_rfl) ⟨(Z3 P D.lo D.hi D.name D.n D.num D.den D.args),trivial⟩ ?_);intro co cp aE ac bz;replace hL:=(hL.sp aD aB<|fun _ h=>h).sp ac aE (fun _ h=>h)
  replace r:=r.spn ac;replace b:=(b.spo aD<|Ne.symm G).spn ac;refine Ol (J1o (T:=Jg) aE sl29 io31 rfl rfl hL (Kb bz) (by simp only [List.length_cons,List.length_nil];omega) (by simp only [List.length_cons,List.length_nil];omega) rfl ?_);intro cq cr ct ad aF cu Q;replace r:=r.ap aF r.mem;obtain⟨bA,bB,rfl,_,_⟩:=Q.len;refine Oa (Nl<|J0y<|Om<|Ol<|J08 ad r cb32 rfl rfl (Xj ad.bd (s:=s) (t:=Rr.go (tkR s (blR s σ)<|pkS s σ)<|Zx s S true o) (o:=o) r.blk (ad.yx _ r.mem) (Z5 z) hs) ?_);intro cv cw aG aH bC bD;replace Q:=Q.sp aH aG<|fun _ h=>h
  replace b:=(b.ap aF b.mem).spo aH (Ne.symm G);subst bD;refine Oa<|Nl<|⟨_,(by have:=(Qb hS hR hk hf (.inr ⟨rfl,rfl⟩) a H z).2.1;omega),_,_,(Rr.go (tkR s (blR s σ)<|pkS s σ)<|Zx s S true o),(k - 1),(l++[P]),bA,bB,aG,rfl,rfl,rfl,rfl,Q,bC,b,(Z5 z),(Jr6 hS (Jbr (Jau hlq hf)<|Jn hf)<|Yd<|Jn hf),(okg<|okg<|okg hto),(Qb hS hR hk hf (.inr ⟨rfl,rfl⟩) a H z).1,(Qb hS hR hk hf (.inr ⟨rfl,rfl⟩) a H z).2.2,(by rw [List.length_append,List.length_singleton];have:=(Qb hS hR hk hf (.inr ⟨rfl,rfl⟩) a H z).2.1;omega),rfl⟩
 refine OF (Nl<|J0v rfl<|J1j<|J06<|J06 ?_);obtain⟨cx,aI,b8,R⟩:=hL.freeze K hX e.sees;refine J0y<|Om<|Ol<|St.len sl29 rfl<|Ol<|J1a rfl rfl (fun U=>?_)<|fun U=>?_
 ·refine Nl (J0w rfl<|Rg<|Om<|Ol<|J1l (j:=0) (u:=(l.getD 0 default)) R sl29 io31 rfl rfl rfl (Jf (by omega)) ?_);intro cy cz b9 aJ;obtain⟨aK,aL,aM,aO,aP,aQ,aR,aS,rfl,i⟩:=Jv aJ.rd;refine Ol (J14 (cs:=(ec (l.getD 0 default) aK aL aM aO aP aQ aR aS)) ag31 rfl rfl aJ.cell<|On<|J0u (cs':=(ec (l.getD 0 default) aK aL aM aO aP aQ aR aS)) aI b io31 rfl rfl rfl rfl rfl rfl ?_);intro cE aT aU bE;replace i:=i.sp aU;replace e:=e.spo aU G;refine Nl<|J04<|Jo rfl (resV.c bE rfl ag31 rfl)<|RetM.intro ⟨?_,?_⟩ aT.below
  ·exact⟨(l.getD 0 default),(Ju (l.getD 0 default) i.lo i.hi i.name i.n i.num i.den i.args).tr (Tr.weak aT.base),(Jj1 (Vd hR hk hf d a).2 U),(Yo (by rw [← (Vd hR hk hf d a).1];exact Jn hf))⟩
  exact Blk.to4 e.blk (congrArg plR (Vd hR hk hf d a).1) (congrArg ecR (Vd hR hk hf d a).1) rfl
 refine Nl (J0v rfl<|J01<|Rg<|Om<|Ol<|J09 (cs:=[(.int .i64 10),(.slice none 0 0),(.bool false),(.slice none 0 0),(.bool false),(.slice none 0 0),(str []),(.slice la l.length lc)]) rfl (by kernel_rfl)<|On<|J0u (cs':=[(.int .i64 10),(.slice none 0 0),(.bool false),(.slice none 0 0),(.bool false),(.slice none 0 0),(str []),(.slice la l.length lc)]) aI b io31 rfl rfl rfl rfl rfl rfl ?_);intro cF aV aW bF;replace R:=R.sp aW;replace e:=e.spo aW G;refine Nl<|J04<|Jo rfl (resV.c bF rfl ag31 rfl)<|RetM.intro ⟨?_,?_⟩ aV.below
 ·exact⟨(.mk 10 [] ⟨⟨false,[]⟩,⟨false,[]⟩⟩ [] l),(Zs (by omega) (by omega) (by unfold maxLen;simp) RS.nil RS.nil RS.nil R).tr (Tr.weak aV.base),(Jq9 (Vd hR hk hf d a).2 U),(Yo (by rw [← (Vd hR hk hf d a).1];exact Jn hf))⟩
 exact Blk.to4 e.blk (congrArg plR (Vd hR hk hf d a).1) (congrArg ecR (Vd hR hk hf d a).1) rfl
theorem Jik{s:List UInt8}(a:s.length≤1000):∀ (k lo B:Nat),s.length≤lo+k→B+k≤1099511627776→SumX s (sumM s k) lo B
 | 0,lo,B,hk,hb=>by
  intro hX g t o hB hXg ht hs ho hlo
  cases t with
  | ok u p=>exact absurd (hlo p rfl) (by have h:p≤s.length:=ht;omega)
  | er e p=>exact Jm0 (S:=sumM s 0) (lo:=lo) (B:=o+1) hX hB hXg ht hs a (by omega) (fun o p h=>V9 _ _ _ h) (fun⟨p,h⟩=>by cases h) (Nat.le_refl _) (fun p h=>by cases h)
 | k+1,lo,B,hk,hb=>by
  intro hX g t o hB hXg ht hs ho hlo;exact Jm0 (S:=sumM s k) (lo:=lo+1) (B:=B+1) hX hB hXg ht hs a (by omega) (fun o p h=>V9 _ _ _ h) (fun _=>Jik a k (lo+1) (B+1) (by omega) (by omega)) (by omega) hlo
end Go.Wf
namespace Go.Wf
open Go
theorem Z2{α β:Type}{x:Rr α}{g:α→Nat→Rr β}{a:β}{q:Nat}(h:x.th g= .ok a q):∃ b r,x= .ok b r∧g b r= .ok a q:=by
 cases x with
 | er e p=>cases h
 | ok b r=>exact⟨b,r,rfl,h⟩
theorem Q2{α:Type}{c:Prop}[Decidable c]{x y z:α}(h:(if c then x else y)=z):(c∧x=z)∨(¬ c∧y=z):=by
 by_cases hc:c
 ·rw [if_pos hc] at h;exact .inl ⟨hc,h⟩
 ·rw [if_neg hc] at h;exact .inr ⟨hc,h⟩
theorem y0{op:Int}{n:List Int}{l:List GExpr}(h:okL l):okE (eOp op n l):=by
 rw [X3];exact⟨Nat.zero_le _,Nat.zero_le _,Nat.zero_le _,h⟩
theorem Jnt{l m:List GExpr}:okL (l++m)↔okL l∧okL m:=by
 induction l with
 | nil=>simp [okL]
 | cons a l ih=>simp only [List.cons_append,okL,ih,and_assoc]
theorem Jjs{l m:List GExpr}:cntL (l++m)=cntL l+cntL m:=by
 induction l with
 | nil=>simp [cntL]
 | cons a l ih=>simp only [List.cons_append,cntL,ih,Nat.add_assoc]
theorem zk{op:Int}{n:List Int}{l:List GExpr}:cntE (eOp op n l)=1+cntL l:=by unfold eOp;rw [cntE]
def nuB(k:Nat)(m:GExpr):Prop:=∃ n d:Int,m=eNum n d∧(ofZ n).mag.length≤k∧(ofZ d).mag.length≤k
theorem nuB.ok{k:Nat}{m:GExpr}(h:nuB k m)(hk:k≤999):okE m∧okE (negE m)∧cntE m=1∧cntE (negE m)=1:=by
 obtain⟨n,d,rfl,hn,hd⟩:=h;have e2:(ofZ (-n)).mag.length=(ofZ n).mag.length:=by show(digs (-n).natAbs).length=(digs n.natAbs).length;rw [Int.natAbs_neg]
 have e: -(eNum n d).c.q=Rat.divInt (-n) d:=by
  show -(ofQ (Rat.divInt n d)).q=_
  rw [Yq,Rat.neg_divInt]
 have h1:=Xs n d;have h2:=Xr n d;have h3:=Xs (-n) d;have h4:=Xr (-n) d;refine⟨?_,?_,rfl,rfl⟩
 ·rw [X3];exact⟨Nat.le_trans h1 (by omega),Nat.le_trans h2 (by omega),Nat.zero_le _,trivial⟩
 ·unfold negE;rw [e,X3];exact⟨Nat.le_trans h3 (by omega),Nat.le_trans h4 (by omega),Nat.zero_le _,trivial⟩
abbrev Sn(p q d:Nat)(a:GExpr):Prop:=okE a∧cntE a+4 * p≤4 * q+d
section
variable {s:List UInt8} {S:Nat→Nat→Rr GExpr} {o p q k:Nat} {op:Int} {a:GExpr} {l m:List GExpr}
theorem Jwl(h:numM s p= .ok a q):nuB (s.length+1) a:=by
 have key:∀ n:List UInt8,∀ q p:Nat,dgsM s p= .ok n q→(ofZ (Je n:Int)).mag.length≤s.length+1:=fun n q p hn=>Nat.le_trans (Nat.le_trans (Xl (Xe hn)) (K8 hn)) (Nat.le_succ _);obtain⟨n,q1,hn,h⟩:=Z2 h
 split at h
 ·obtain⟨d,q2,hd,h⟩:=Z2 h
  split at h
  ·cases h
  ·cases h;exact⟨_,_,rfl,key _ _ _ hn,key _ _ _ hd⟩
 ·cases h
  exact⟨_,1,rfl,key _ _ _ hn,Nat.le_trans (Nat.le_of_eq Kh) (by omega)⟩
variable (hS:∀ o p,p≤s.length→(S o p).fw s p) (hN:∀ o p a q,p≤s.length→S o p= .ok a q→Sn p q 0 a)
theorem Km{α:Type}{x:Rr α}{p q:Nat}{a:α}(h:x.fw s p)(e:x= .ok a q):p≤q∧q≤s.length:=by rw [e] at h;exact h
theorem Jj0(hp:p≤s.length)(h:Vr s op o p= .ok a q):Sn p q 0 a:=by
 obtain⟨u,p1,h1,h⟩:=Z2 h;obtain⟨l,p2,h2,h⟩:=Z2 h
 cases h
 have k1:=Km (Zv hp) h1;have k2:=Km (Jbk k1.2) h2;exact⟨y0 trivial,by rw [zk,cntL];omega⟩
theorem Jpg(hp:p≤s.length)(h:twoM s op o p= .ok a q):Sn p q 0 a:=by
 obtain⟨u,p1,h1,h⟩:=Z2 h;obtain⟨n,p2,h2,h⟩:=Z2 h;obtain⟨_,p3,h3,h⟩:=Z2 h;obtain⟨_,p4,h4,h⟩:=Z2 h;obtain⟨l,p5,h5,h⟩:=Z2 h
 cases h
 have k1:=Km (Zv hp) h1;have k2:=Km (Yc k1.2) h2;have k3:=Km (Ka k2.2) h3;have k4:=Km (Ka k3.2) h4;have k5:=Km (Jbk k4.2) h5;exact⟨y0 trivial,by rw [zk,cntL];omega⟩
include hS hN
theorem Jw0(hp:p≤s.length)(h:serM s S o p= .ok a q):Sn p q 0 a:=by
 obtain⟨u,p1,h1,h⟩:=Z2 h;obtain⟨b,p2,h2,h⟩:=Z2 h;obtain⟨_,p3,h3,h⟩:=Z2 h
 cases h
 have k1:=Km (Zv hp) h1;have k2:=hN _ _ _ _ k1.2 h2;have k3:=Km (Ka (Km (hS _ _ k1.2) h2).2) h3;exact⟨y0 ⟨k2.1,trivial⟩,by rw [zk,cntL,cntL];have:=k2.2;omega⟩
theorem Ju1{two:Bool}(hp:p≤s.length)(h:oneM s S op two o p= .ok a q):Sn p q 0 a:=by
 obtain⟨u,p1,h1,h⟩:=Z2 h;obtain⟨n,p2,h2,h⟩:=Z2 h;obtain⟨_,p3,h3,h⟩:=Z2 h;obtain⟨b,p4,h4,h⟩:=Z2 h;have k1:=Km (Zv hp) h1;have k2:=Km (Yc k1.2) h2;have k3:=Km (Ka k2.2) h3;have k4:=hN _ _ _ _ k3.2 h4;have k5:=Km (hS _ _ k3.2) h4;have k6:=k4.2
 split at h
 ·obtain⟨_,p5,h5,h⟩:=Z2 h;obtain⟨c,p6,h6,h⟩:=Z2 h;obtain⟨_,p7,h7,h⟩:=Z2 h
  cases h
  have k7:=Km (Ka k5.2) h5;have k8:=hN _ _ _ _ k7.2 h6;have k9:=Km (Ka (Km (hS _ _ k7.2) h6).2) h7;have k10:=k8.2;exact⟨y0 ⟨k4.1,k8.1,trivial⟩,by rw [zk,cntL,cntL,cntL];omega⟩
 ·obtain⟨_,p5,h5,h⟩:=Z2 h
  cases h
  have k7:=Km (Ka k5.2) h5;exact⟨y0 ⟨k4.1,trivial⟩,by rw [zk,cntL,cntL];omega⟩
theorem Jrw{w:List UInt8}{q0:Nat}(hw:w.length≤1000)(hp:p≤s.length)(h:Xi s S w q0 o p= .ok a q):Sn p q 1 a:=by
 have wk:∀ {a:GExpr},Sn p q 0 a→Sn p q 1 a:=fun k=>⟨k.1,Nat.le_trans k.2 (Nat.le_succ _)⟩;have z:∀ {op:Int},Sn p p 1 (eOp op [] []):=⟨y0 trivial,by rw [zk,cntL];omega⟩;unfold Xi at h
 rcases Q2 h with ⟨_,h⟩ | ⟨_,h⟩
 ·cases h;exact z
 rcases Q2 h with ⟨_,h⟩ | ⟨_,h⟩
 ·cases h;exact z
 rcases Q2 h with ⟨_,h⟩ | ⟨_,h⟩
 ·exact wk (Jj0 hp h)
 rcases Q2 h with ⟨_,h⟩ | ⟨_,h⟩
 ·exact wk (Jj0 hp h)
 rcases Q2 h with ⟨_,h⟩ | ⟨_,h⟩
 ·exact wk (Jpg hp h)
 rcases Q2 h with ⟨_,h⟩ | ⟨_,h⟩
 ·exact wk (Jpg hp h)
 iterate 5
  rcases Q2 h with ⟨_,h⟩ | ⟨_,h⟩
  ·exact wk (Ju1 hS hN hp h)
 rcases Q2 h with ⟨_,h⟩ | ⟨_,h⟩
 ·exact wk (Jw0 hS hN hp h)
 rcases Q2 h with ⟨_,h⟩ | ⟨_,h⟩
 ·cases h;exact⟨by rw [X3];exact⟨Nat.zero_le _,Nat.zero_le _,hw,trivial⟩,by show 1+0+_≤_;omega⟩
 ·cases h
theorem Jre{x:GExpr × Bool}(hs:s.length≤900)(hp:p≤s.length)(h:Jx s S o p= .ok x q):Sn p q 0 x.1∧(x.2=true→nuB (s.length+1) x.1):=by
 unfold Jx at h;have hsp:=Yh hp;have hge:=K7 (s:=s) (p:=p)
 split at h
 ·obtain⟨b,r,h1,h⟩:=Z2 h
  cases h
  have k1:=Km (Joy hsp) h1;have k2:=Jwl h1;have k3:=k2.ok (by omega);refine⟨⟨k3.1,?_⟩,fun _=>k2⟩
  obtain⟨n,r1,hn,_⟩:=Z2 h1;have k4:=Km (V8 hsp) hn;have k5:spM s p+1≤q:=by
   have:(numM s (spM s p)).fw s (spM s p+1):=by
    unfold numM;rw [hn,Rr.th_ok]
    split
    ·rename_i hf
     have h4:=(Z9.1 hf).1;have h3:=K7 (s:=s) (p:=r1);refine Rr.fw_mono (Rr.fw_th (Rr.fw_mono (V8 (p:=spM s r1+1) h4) (Nat.le_succ _)) fun d r h5 h6=>?_) (by omega)
     split
     ·exact Yh h4
     ·exact⟨Nat.le_refl _,h6⟩
    ·exact⟨Nat.le_trans k4.1 K7,Yh k4.2⟩
   exact(Km this h1).1
  rw [k3.2.2.1];omega
 split at h
 ·obtain⟨u,p1,h1,h⟩:=Z2 h;obtain⟨b,p2,h2,h⟩:=Z2 h;obtain⟨_,p3,h3,h⟩:=Z2 h
  cases h
  have k1:=Km (Zv hsp) h1;have k2:=hN _ _ _ _ k1.2 h2;have k3:=Km (Ka (Km (hS _ _ k1.2) h2).2) h3;exact⟨⟨k2.1,by have:=k2.2;show cntE b+_≤_;omega⟩,fun e=>by cases e⟩
 split at h
 ·rename_i hl
  have hw:=Jff hl;have hwl:=Jdt hsp;have hwn:=qd (s:=s) (p:=spM s p)
  dsimp only at h
  split at h
  ·split at h
   ·cases h
   ·cases h;exact⟨⟨y0 trivial,by rw [zk,cntL];omega⟩,fun e=>by cases e⟩
  ·obtain⟨b,r,h1,h⟩:=Z2 h
   cases h
   have k1:=Jrw hS hN (by omega) hwl h1;exact⟨⟨k1.1,by have:=k1.2;show cntE b+_≤_;omega⟩,fun e=>by cases e⟩
 ·cases h
theorem Jn1{x:GExpr × Bool}(hs:s.length≤900)(hp:p≤s.length)(h:powM s S o p= .ok x q):Sn p q 0 x.1∧(x.2=true→nuB (s.length+1) x.1):=by
 obtain⟨b,r,h1,h⟩:=Z2 h;have k1:=Jre hS hN hs hp h1;have k2:=Km (Xf hS hp) h1;have h3:=K7 (s:=s) (p:=r)
 split at h
 ·rename_i hf
  obtain⟨n,r2,h2,h⟩:=Z2 h
  cases h
  have k3:=Km (Yc (p:=spM s r+1) (Z9.1 hf).1) h2;exact⟨⟨y0 ⟨k1.1.1,trivial⟩,by rw [zk,cntL,cntL];have:=k1.1.2;omega⟩,fun e=>by cases e⟩
 ·cases h
  exact⟨⟨k1.1.1,by have:=k1.1.2;omega⟩,k1.2⟩
theorem Je2(hs:s.length≤900):∀ (k:Nat) (l m:List GExpr) (p q:Nat),p≤s.length→Jbz s S o k l p= .ok m q→okL l→okL m∧cntL m+m.length+4 * p≤cntL l+l.length+4 * q∧l.length≤m.length∧(0 < l.length→m.getD 0 default=l.getD 0 default)
 | 0,l,m,p,q,hp,h,hl=>by cases h
 | k+1,l,m,p,q,hp,h,hl=>by
  unfold Jbz at h;have h3:=K7 (s:=s) (p:=p)
  split at h
  ·rename_i hf
   obtain⟨b,r,h1,h⟩:=Z2 h;have hp':spM s p+1≤s.length:=(Z9.1 hf).1;have k1:=Jn1 hS hN hs hp' h1;have k2:=Km (q5 hS hp') h1;have k3:=Je2 hs k _ m r q k2.2 h (Jnt.2 ⟨hl,k1.1.1,trivial⟩);have k4:=k1.1.2;have k5:=k3.2.1;have k6:=k3.2.2.1;rw [Jjs,List.length_append,List.length_singleton,cntL,cntL] at k5;rw [List.length_append,List.length_singleton] at k6;refine⟨k3.1,by omega,by omega,fun h0=>?_⟩
   rw [k3.2.2.2 (by rw [List.length_append];omega)]
   cases l with
   | nil=>cases h0
   | cons c l=>rfl
  ·cases h;exact⟨hl,by omega,Nat.le_refl _,fun _=>rfl⟩
omit hS hN in
theorem Ja1{d:Nat}(hl:okL l)(h1:1≤l.length)(hc:cntL l+l.length+4 * p≤4 * q+d+1):Sn p q d (Kc op l):=by
 cases l with
 | nil=>cases h1
 | cons a l=>
  cases l with
  | nil=>exact⟨hl.1,by show cntE a+_≤_;rw [cntL,cntL,List.length_singleton] at hc;omega⟩
  | cons b l=>
   refine⟨y0 hl,?_⟩
   show cntE (eOp op [] (a::b::l))+_≤_
   rw [zk];simp only [List.length_cons] at hc;omega
theorem Jjt{minus:Bool}(hs:s.length≤900)(hp:p≤s.length)(h:Zx s S minus o p= .ok a q):Sn p q (if minus then 2 else 0) a:=by
 obtain⟨x,r,h1,h⟩:=Z2 h;obtain⟨m,r2,h2,h⟩:=Z2 h
 cases h
 have k1:=Jn1 hS hN hs hp h1;have k2:=Km (q5 hS hp) h1;have k3:=Je2 hS hN hs _ _ m r q k2.2 h2 ⟨k1.1.1,trivial⟩;have k4:=k1.1.2;obtain⟨k5,k6,k7,k8⟩:=k3;rw [cntL,cntL,List.length_singleton] at k6;rw [List.length_singleton] at k7
 cases minus with
 | false=>exact Ja1 k5 k7 (by show cntL m+m.length+4 * p≤_;omega)
 | true=>
  cases hx:x.2 with
  | false=>
   show Sn p _ 2 (Kc 11 (eNum (-1) 1::m))
   have k9:=nuB.ok (k:=1) (m:=eNum (-1) 1) ⟨-1,1,rfl,Nat.le_of_eq Kh,Nat.le_of_eq Kh⟩ (by decide);refine Ja1 ⟨k9.1,k5⟩ (by simp) ?_;rw [cntL,k9.2.2.1,List.length_cons];omega
  | true=>
   show Sn p _ 2 (Kc 11 (negE (m.getD 0 default)::m.drop 1))
   have k9:=(k1.2 hx).ok (by omega);have e:m.getD 0 default=x.1:=k8 (Nat.succ_pos 0)
   cases m with
   | nil=>cases k7
   | cons c m=>
    have e:c=x.1:=e;subst e;refine Ja1 ⟨k9.2.1,k5.2⟩ (by simp) ?_
    show cntL (negE x.1::m)+(m.length+1)+_≤_
    rw [cntL,List.length_cons,k9.2.2.1] at k6;rw [cntL,k9.2.2.2];omega
theorem Ji5(hs:s.length≤900):∀ (k:Nat) (l m:List GExpr) (p q:Nat),p≤s.length→sumL s S o k l p= .ok m q→okL l→okL m∧cntL m+m.length+4 * p≤cntL l+l.length+4 * q∧l.length≤m.length
 | 0,l,m,p,q,hp,h,hl=>by cases h
 | k+1,l,m,p,q,hp,h,hl=>by
  unfold sumL at h;have h3:=K7 (s:=s) (p:=p);have go:∀ b,spM s p+1≤s.length→((Zx s S b o (spM s p+1)).th fun a q=>sumL s S o k (l++[a]) q)= .ok m q→okL m∧cntL m+m.length+4 * p≤cntL l+l.length+4 * q∧l.length≤m.length:=by
   intro b hp' h;obtain⟨c,r,h1,h⟩:=Z2 h;have k1:=Jjt hS hN hs hp' h1;have k2:=Km (Y2 hS hp') h1;have k3:=Ji5 hs k _ m r q k2.2 h (Jnt.2 ⟨hl,k1.1,trivial⟩);have k4:cntE c+4 * (spM s p+1)≤4 * r+2:=Nat.le_trans k1.2 (by split <;> omega);have k5:=k3.2.1;have k6:=k3.2.2;rw [Jjs,List.length_append,List.length_singleton,cntL,cntL] at k5;rw [List.length_append,List.length_singleton] at k6;exact⟨k3.1,by omega,by omega⟩
  split at h
  ·rename_i hf;exact go _ (Z9.1 hf).1 h
  split at h
  ·rename_i hf;exact go _ (Z9.1 hf).1 h
  ·cases h;exact⟨hl,by omega,Nat.le_refl _⟩
theorem Jra(hs:s.length≤900)(hp:p≤s.length)(h:sumF s S o p= .ok a q):Sn p q 0 a:=by
 obtain⟨c,r,h1,h⟩:=Z2 h;obtain⟨m,r2,h2,h⟩:=Z2 h
 cases h
 have hp':=Yu (c:=45) hp;have k1:=Jjt hS hN hs hp' h1;have k2:=Km (Y2 hS hp') h1;have k3:=Ji5 hS hN hs _ _ m r q k2.2 h2 ⟨k1.1,trivial⟩;have k4:cntE c+4 * p≤4 * r:=by
  have h9:=k1.2;have h8:=K7 (s:=s) (p:=p)
  cases hf:folB s p 45 with
  | true=>rw [hf] at h9;rw [← fp_t hf] at h9;simp only [if_true] at h9;omega
  | false=>rw [hf] at h9;rw [← fp_f hf] at h9;simp only [Bool.false_eq_true,if_false] at h9;omega
 obtain⟨k5,k6,k7⟩:=k3;rw [cntL,cntL,List.length_singleton] at k6;rw [List.length_singleton] at k7;exact Ja1 k5 k7 (by omega)
end
theorem Jpe{s:List UInt8}(hs:s.length≤900):∀ (k o p:Nat) (a:GExpr) (q:Nat),p≤s.length→sumM s k o p= .ok a q→Sn p q 0 a
 | 0,o,p,a,q,hp,h=>by cases h
 | k+1,o,p,a,q,hp,h=>Jra (V9 k) (fun o p a q=>Jpe hs k o p a q) hs hp h
end Go.Wf
namespace Go.Wf
open Go
section
variable {s:List UInt8} {a m:GExpr} {q p:Nat} {e:Int} {T:Rr Unit}
theorem Je3(hs:s.length≤900):okE (rdT s).1∧cntE (rdT s).1≤3601:=by
 unfold rdT zc
 cases h:sumM s (s.length+1) 0 0 with
 | er e p=>exact⟨by rw [X3];exact⟨Nat.zero_le _,Nat.zero_le _,Nat.zero_le _,trivial⟩,by show 1+0≤3601;decide⟩
 | ok a q=>
  rw [Rr.th_ok]
  split
  ·exact⟨by rw [X3];exact⟨Nat.zero_le _,Nat.zero_le _,Nat.zero_le _,trivial⟩,by show 1+0≤3601;decide⟩
  ·rename_i h2
   split at h2
   ·cases h2
   ·cases h2
    have k:=Jpe hs _ _ _ _ _ (Nat.zero_le _) h;have k2:=Km (V9 (s:=s) (s.length+1) 0 0 (Nat.zero_le _)) h;exact⟨k.1,by have:=k.2;show cntE a≤_;omega⟩
theorem vi(h:((4000:Int)) < ((s.length:Nat):Int)):(Kq,0,7)=Z4 s:=by unfold Z4;rw [if_pos (by omega)]
def RdF(s:List UInt8):Prop:=(zc s).fine s
theorem Jev(hf:RdF s)(hl:¬ (4000:Int) < ((s.length:Nat):Int))(h:¬ (rdT s).2.2=0):(Kq,(rdT s).2.1,(rdT s).2.2)=Z4 s:=by
 unfold Z4;rw [if_neg (by omega)];unfold rdT at h ⊢
 cases hr:zc s with
 | er e p=>rfl
 | ok a q=>rw [hr] at h;exact absurd rfl h
theorem Jfi(hf:RdF s)(hl:¬ (4000:Int) < ((s.length:Nat):Int))(h:(rdT s).2.2=0)(hc:¬ K3 (rdT s).1=0):(Kq,0,K3 (rdT s).1)=Z4 s:=by
 unfold Z4;rw [if_neg (by omega)];unfold RdF at hf;unfold rdT at h hc ⊢
 cases hr:zc s with
 | er e p=>rw [hr] at h hf;exact absurd h hf.1
 | ok a q=>rw [hr] at hc;exact(if_neg hc).symm
theorem Jma(hf:RdF s)(hl:¬ (4000:Int) < ((s.length:Nat):Int))(h:(rdT s).2.2=0)(hc:K3 (rdT s).1=0):((rdT s).1,0,0)=Z4 s:=by
 unfold Z4;rw [if_neg (by omega)];unfold RdF at hf;unfold rdT at h hc ⊢
 cases hr:zc s with
 | er e p=>rw [hr] at h hf;exact absurd h hf.1
 | ok a q=>rw [hr] at hc;exact(if_pos hc).symm
abbrev sF(s:List UInt8):Rr GExpr:=sumF s (sumM s s.length) 0 0
def PQ(s:List UInt8)(T:Rr Unit)(m:GExpr):Prop:=T.fine s∧(¬ ecR T=0→rdT s=(Kq,plR T,ecR T))∧(ecR T=0→rdT s=(m,0,0))∧RdF s
theorem Jhy(hg:Got (sF s) m)(hf:(sF s).fine s)(h:¬ ((pkS s (sF s).u:Nat):Int)=0∨(((pkS s (sF s).u:Nat):Int)=0∧ecR (blR s (sF s).u)=0∧((plR (blR s (sF s).u):Nat):Int) < ((s.length:Nat):Int))):PQ s (flR (blR s (sF s).u) (plR (blR s (sF s).u)) 19) m:=by
 have hx:sumM s (s.length+1) 0 0=sF s:=rfl;unfold PQ RdF rdT zc;rw [hx]
 cases hr:sF s with
 | er e p=>
  rw [hr] at h hf
  rcases h with h | h
  ·exact absurd rfl h
  ·exact absurd h.2.1 hf.1
 | ok a q=>
  rw [hr] at h hf;have hq:q≤s.length:=hf;have hlt:spM s q < s.length:=by
   rcases h with h | h
   ·have h:¬ ((hdM s q:Nat):Int)=0:=h
    rcases Nat.lt_or_ge (spM s q) s.length with h1 | h1
    ·exact h1
    ·exfalso;apply h;unfold hdM;rw [List.getD_eq_getElem?_getD,List.getElem?_eq_none h1];rfl
   ·have h2:((spM s q:Nat):Int) < ((s.length:Nat):Int):=h.2.2;omega
  rw [Rr.th_ok,if_pos hlt];exact⟨⟨by decide,Yh hq⟩,fun _=>rfl,(fun h=>by cases h),⟨by decide,Yh hq⟩⟩
theorem Jpb(hg:Got (sF s) m)(hf:(sF s).fine s)(h:¬ ((plR (blR s (sF s).u):Nat):Int) < ((s.length:Nat):Int)∨¬ ecR (blR s (sF s).u)=0):PQ s (blR s (sF s).u) m:=by
 have hx:sumM s (s.length+1) 0 0=sF s:=rfl;unfold PQ RdF rdT zc;rw [hx]
 cases hr:sF s with
 | er e p=>rw [hr] at hf;exact⟨hf,fun _=>rfl,fun h=>absurd h hf.1,hf⟩
 | ok a q=>
  rw [hr] at h hf hg;have hq:q≤s.length:=hf;have hlt:¬ spM s q < s.length:=by
   rcases h with h | h
   ·have h:¬ ((spM s q:Nat):Int) < ((s.length:Nat):Int):=h;omega
   ·exact absurd rfl h
  rw [Rr.th_ok,if_neg hlt];exact⟨Yh hq,fun h=>absurd rfl h,fun _=>by rw [hg a q rfl],Nat.zero_le _⟩
theorem Jh5(h:PQ s T m)(hl:¬ (4000:Int) < ((s.length:Nat):Int))(he:¬ ecR T=0):(Kq,plR T,ecR T)=Z4 s:=by
 have h1:=h.2.1 he
 have:=Jev h.2.2.2 hl (by rw [h1];exact he)
 rw [h1] at this;exact this
theorem pq_m(h:PQ s T m)(he:ecR T=0):(rdT s).1=m:=by rw [h.2.2.1 he]
theorem Jky(h:PQ s T m)(hl:¬ (4000:Int) < ((s.length:Nat):Int))(he:ecR T=0)(hc:¬ K3 m=0):(Kq,0,K3 m)=Z4 s:=by
 have h1:=h.2.2.1 he
 have:=Jfi h.2.2.2 hl (by rw [h1]) (by rw [h1];exact hc)
 rw [h1] at this;exact this
theorem Jqz(h:PQ s T m)(hl:¬ (4000:Int) < ((s.length:Nat):Int))(he:ecR T=0)(hc:K3 m=0):(m,0,0)=Z4 s:=by
 have h1:=h.2.2.1 he
 have:=Jma h.2.2.2 hl (by rw [h1]) (by rw [h1];exact hc)
 rw [h1] at this;exact this
theorem Jgt(h:PQ s T m)(hs:s.length≤900)(he:ecR T=0):okE m∧cntE m≤10000:=by
 have:=Je3 hs
 rw [pq_m h he] at this;exact⟨this.1,Nat.le_trans this.2 (by decide)⟩
end
end Go.Wf
namespace Go.Wf
open Go Go.Proofs Go.RowKit
theorem Jk2(N:Nat):∀ {X:Nat→Prop} {w:World} (hX:XB X w) {k:Value} {a:GExpr} (l:RV Jg X w k a) {m:Nat} (hm:m≤1000) (hN:(SizeOf.sizeOf a) < N),CRt 51 #[k,(.int .i64 ((m:Nat):Int))] w fun v w'=>v=(.int .i64 (((min (cntE a) (m+1)):Nat):Int)):=by
 induction N with
 | zero=>intro X w hX k a l m hm hN;exact absurd hN<|Nat.not_lt_zero _
 | succ N ih=>
  intro X w hX k a l m hm hN;obtain⟨F,G,H,I,J,K,L,M,rfl,e⟩:=J37 l;have C:=J07 hX;have hal:=l.args_max;refine Cgo (args:=[(ea a F G H I J K L M),(.int .i64 ((m:Nat):Int))]) Tryz.func51 rfl rfl rfl (Rg<|Ol<|J1e C rfl ?_);intro o aj ak am ah R S T;replace e:=e.sp S;refine Oa (Nl<|Rg<|Oa<|Nl<|Rh<|Oa<|Nl<|W.block<|J1g (fun μ f v=>∃ (x y:Nat→Prop) (i:Nat) (z:Nat),Cx X w x y v∧f 1=(.int .i64 ((m:Nat):Int))∧f 2=(.pointer (some ⟨o,0,none⟩))∧f 4=(.int .i64 0)∧f 6=(.int .i64 ((i:Nat):Int))∧f 5=(.int .i64 ((z:Nat):Int))∧ExprParts x v a F G H I J K L M∧Own w y v o (ec a F G H I J K L M) 31∧i≤a.args.length∧z=min (1+cntL (a.args.take i)) (m+1)∧μ=(a.args.length - i)) _ ⟨_,_,0,1,R,rfl,rfl,rfl,rfl,rfl,e,T,(Nat.zero_le _),(by rw [List.take_zero,cntL];omega),rfl⟩ ?_);rintro an ao aq ⟨ar,au,i,z,h,p,r,s,A,B,e,g,hi,hz,ag⟩;obtain⟨av,rfl⟩:=rebK (aC p<|aC r<|aC s<|aC A<|aC B aN);clear p r s A B;refine Rh<|Om<|Ol<|J0s Ys rfl<|Ol<|J0x g pl29 rfl rfl<|Ol<|St.len sl29 rfl<|Ol<|J1h rfl rfl (fun P=>?_)<|fun P=>?_
  ·refine Om<|OgD<|J00<|OgD<|J00<|OgD<|J2e rfl rfl (fun Q=>?_)<|fun Q=>?_
   ·refine OT (Nl<|J0w rfl<|J01<|J06<|W.block<|J0y<|Om<|Ol<|J0s Ys rfl<|Ol<|J0x g pl29 rfl rfl<|Om<|Ol<|J1l (j:=i) (u:=(a.args.getD i default)) e.args sl29 io31 rfl rfl rfl (Jf (by omega)) ?_);intro aw ax ai D;obtain⟨U,V,Y,Z,aa,ab,ac,ad,rfl,d⟩:=Jv D.rd;refine Ol (J14 (cs:=(ec (a.args.getD i default) U V Y Z aa ab ac ad)) ag31 rfl rfl D.cell<|Om<|Om<|Ol<|St.sub rfl rfl (Zr (a:=m) (b:=z) (by omega) (by omega))<|Ol<|J0t h cb51 rfl rfl (ih h.bd (Ju (a.args.getD i default) d.lo d.hi d.name d.n d.num d.den d.args) (m:=m - z) (by omega)<|Nat.lt_of_lt_of_le (Jad (by omega))<|Nat.le_of_lt_succ hN) ?_);intro ay az ae E af;replace e:=e.sp E;replace g:=g.spn E;subst af;refine Ol<|St.add rfl rfl (Jc (a:=z) (b:=(min (cntE<|a.args.getD i default)<|(m - z)+1)) (by omega))<|Oa<|Nl<|J0y<|Om<|Ol<|St.add rfl rfl (Jc (a:=i) (b:=1) (by omega))<|Oa<|Nl<|⟨_,(by omega),_,_,(i+1),z+(min (cntE<|a.args.getD i default)<|(m - z)+1),ae,rfl,rfl,rfl,rfl,rfl,e,g,(by omega),(Jrk (by omega) hz (by omega)),rfl⟩
   exact OT<|Nl<|J0v rfl<|J1j<|Rg<|Om<|Oa<|Nl<|J04<|Wq rfl rfl h<|congrArg (Value.int _)<|congrArg _<|Jsp (by omega) hz
  exact Om<|Oz<|Oz<|Oz<|OF<|Nl<|J0v rfl<|J1j<|Rg<|Om<|Oa<|Nl<|J04<|Wq rfl rfl h<|congrArg (Value.int _)<|congrArg _<|Jqp (by omega) hz
theorem Jqq{X:Nat→Prop}{w:World}(hX:XB X w){b:Value}{a:GExpr}(d:RV Jg X w b a){m:Nat}(hm:m≤1000):CRt 51 #[b,(.int .i64 ((m:Nat):Int))] w fun v w'=>v=(.int .i64 (((min (cntE a) (m+1)):Nat):Int)):=Jk2 ((SizeOf.sizeOf a)+1) hX d hm (Nat.lt_succ_self _)
theorem Jrd(N:Nat):∀ {X:Nat→Prop} {w:World} (hX:XB X w) {k:Value} {a:GExpr} (m:RV Jg X w k a) (hm:cntE a≤10000) (hN:(SizeOf.sizeOf a) < N),CRt 52 #[k] w fun v w'=>v=(.int .i64 (((lvlE a):Nat):Int)):=by
 induction N with
 | zero=>intro X w hX k a m hm hN;exact absurd hN<|Nat.not_lt_zero _
 | succ N ih=>
  intro X w hX k a m hm hN;obtain⟨E,F,G,H,I,J,K,L,rfl,e⟩:=J37 m;have C:=J07 hX;have hal:=m.args_max;have hce:=Vt a;have hle:=Juf a;have hlq:=Jds a;refine Cgo (args:=[(ea a E F G H I J K L)]) Tryz.func52 rfl rfl rfl (Rg<|Ol<|J1e C rfl ?_);intro o ai aj ak af P Q R;replace e:=e.sp Q;refine Oa (Nl<|Rg<|Oa<|Nl<|Rh<|Oa<|Nl<|W.block<|J1g (fun μ f v=>∃ (x y:Nat→Prop) (i:Nat) (z:Nat),Cx X w x y v∧f 1=(.pointer (some ⟨o,0,none⟩))∧f 2=(.int .i64 0)∧f 4=(.int .i64 ((i:Nat):Int))∧f 3=(.int .i64 ((z:Nat):Int))∧ExprParts x v a E F G H I J K L∧Own w y v o (ec a E F G H I J K L) 31∧i≤a.args.length∧z=lvlL (a.args.take i)∧μ=(a.args.length - i)) _ ⟨_,_,0,0,P,rfl,rfl,rfl,rfl,e,R,(Nat.zero_le _),(by rw [List.take_zero,lvlL]),rfl⟩ ?_);rintro am an ao ⟨aq,ar,i,z,h,p,r,s,A,e,g,hi,hz,ae⟩;obtain⟨au,rfl⟩:=rebK (aC p<|aC r<|aC s<|aC A aN);clear p r s A;refine Rh<|Om<|Ol<|J0s Ys rfl<|Ol<|J0x g pl29 rfl rfl<|Ol<|St.len sl29 rfl<|Ol<|J1h rfl rfl (fun M=>?_)<|fun M=>?_
  ·refine Nl (J0w rfl<|J01<|J06<|W.block<|J0y<|Om<|Ol<|J0s Ys rfl<|Ol<|J0x g pl29 rfl rfl<|Om<|Ol<|J1l (j:=i) (u:=(a.args.getD i default)) e.args sl29 io31 rfl rfl rfl (Jf (by omega)) ?_);intro av aw ag B;obtain⟨S,T,U,V,Y,Z,aa,ab,rfl,d⟩:=Jv B.rd;refine Ol (J14 (cs:=(ec (a.args.getD i default) S T U V Y Z aa ab)) ag31 rfl rfl B.cell<|Ol<|J0t h cb52 rfl rfl (ih h.bd (Ju (a.args.getD i default) d.lo d.hi d.name d.n d.num d.den d.args) (by have h7:=Jiv (l:=a.args) (i:=i) (by omega);omega)<|Nat.lt_of_lt_of_le (Jad (by omega))<|Nat.le_of_lt_succ hN) ?_);intro ax ay ac D ad;replace e:=e.sp D;replace g:=g.spn D;subst ad;refine Ol<|St.max rfl rfl (by split <;> omega)<|Oa<|Nl<|J0y<|Om<|Ol<|St.add rfl rfl (Jc (a:=i) (b:=1) (by omega))<|Oa<|Nl<|⟨_,(by omega),_,_,(i+1),max z<|lvlE<|a.args.getD i default,ac,rfl,rfl,rfl,rfl,e,g,(by omega),(Jqx (by omega) hz),rfl⟩
  exact Nl<|J0v rfl<|J1j<|Rg<|Om<|Ol<|St.add rfl rfl (Jc (a:=z) (b:=1) (by have h7:=Jog (a:=a) (by omega) hz;omega))<|Oa<|Nl<|J04<|Wq rfl rfl h<|congrArg (Value.int _)<|congrArg _<|Jog (by omega) hz
theorem x_lvl{X:Nat→Prop}{w:World}(hX:XB X w){b:Value}{a:GExpr}(d:RV Jg X w b a)(hm:cntE a≤10000):CRt 52 #[b] w fun v w'=>v=(.int .i64 (((lvlE a):Nat):Int)):=Jrd ((SizeOf.sizeOf a)+1) hX d hm (Nat.lt_succ_self _)
theorem Jr2(N:Nat):∀ {X:Nat→Prop} {w:World} (hX:XB X w) {M:Value} {a:GExpr} (P:RV Jg X w M a) {g k:Nat} (hB:Blk w g [.int .i64 ((k:Nat):Int)] 3) (hXg:X g) {lv:Nat} (hk:k≤60) (hv:lv≤13) (hN:(SizeOf.sizeOf a) < N),Calls Tryz.prog 79 #[M,(.pointer (some ⟨g,0,none⟩)),(.int .i64 ((lv:Nat):Int))] w (RetM w g fun v w'=>v=(.bool ((pszE a k lv).2))∧Blk w' g [.int .i64 (((pszE a k lv).1:Nat):Int)] 3):=by
 induction N with
 | zero=>intro X w hX M a P g k hB hXg lv hk hv hN;exact absurd hN<|Nat.not_lt_zero _
 | succ N ih=>
  intro X w hX M a P g k hB hXg lv hk hv hN;obtain⟨a1,c2,a3,c4,a5,c6,Q,R,rfl,l⟩:=J37 P;have C:=J1t g hX hXg;have z:=J38 hB;have hal:=P.args_max;refine Cgo (args:=[(ea a a1 c2 a3 c4 a5 c6 Q R),(.pointer (some ⟨g,0,none⟩)),(.int .i64 ((lv:Nat):Int))]) Tryz.func79 rfl rfl rfl (Rg<|Ol<|J1e C rfl ?_);intro av aG aH aI ao aw S o;have T:=ao _ z.blk.lt;replace z:=z.spn S;refine Oa (Nl<|Rg<|Om<|Ol<|J03 rfl<|Ol<|J0x z pl3 rfl rfl<|Ol<|St.add rfl rfl (Jc (a:=k) (b:=1) (by omega))<|Ol<|J03 rfl<|On<|J0u (cs':=[(.int .i64 ((k+1:Nat):Int))]) aw z io3 rfl rfl rfl rfl rfl rfl ?_);intro aJ A U p;replace l:=(l.sp S).sp U;replace o:=o.spo U (Ne.symm T);refine Nl<|Rh<|Om<|Ol<|J03 rfl<|Ol<|J0x p pl3 rfl rfl<|Ol<|J10 rfl rfl (fun aq=>?_)<|fun aq=>?_
  ·refine Om<|Oz<|Oz<|OT<|Nl<|J0w rfl<|Rg<|Oa<|Nl<|J04<|Jo rfl (J35 rfl)<|RetM.intro ⟨?_,?_⟩ A.below
   ·exact congrArg (Value.bool)<|congrArg Prod.snd<|Jgu (a:=a) (by omega)
   have hh:=p.blk;rw [show k+1=(pszE a k lv).1 from congrArg Prod.fst (Jgu (a:=a) (by omega))] at hh;exact hh
  refine Om<|OgD<|J00<|OgD<|J10 rfl rfl (fun ar=>?_)<|fun ar=>?_
  ·refine OF<|Nl<|J0w rfl<|Rg<|Oa<|Nl<|J04<|Jo rfl (J35 rfl)<|RetM.intro ⟨?_,?_⟩ A.below
   ·exact congrArg (Value.bool)<|congrArg Prod.snd<|Jgu (a:=a) (by omega)
   have hh:=p.blk;rw [show k+1=(pszE a k lv).1 from congrArg Prod.fst (Jgu (a:=a) (by omega))] at hh;exact hh
  refine OF (Nl<|J0v rfl<|J01<|Rh<|Ol<|J0s Ys rfl<|Ol<|J0x o pl29 rfl rfl<|Ol<|St.len sl29 rfl<|Om<|Nl<|W.block<|J1g (fun μ f v=>∃ (x y:Nat→Prop) (i:Nat) (kk:Nat),Cx X ⟨w,(· =g)⟩ x y v∧f 1=(.pointer (some ⟨g,0,none⟩))∧f 2=(.int .i64 ((lv:Nat):Int))∧f 23=(.slice Q a.args.length R)∧f 24=(.int .i64 ((a.args.length:Nat):Int))∧f 25=(.int .i64 ((i:Nat):Int))∧ExprParts x v a a1 c2 a3 c4 a5 c6 Q R∧Own ⟨w,(· =g)⟩ y v g [(.int .i64 ((kk:Nat):Int))] 3∧Own ⟨w,(· =g)⟩ y v av (ec a a1 c2 a3 c4 a5 c6 Q R) 31∧i≤a.args.length∧pszL (a.args.drop i) kk (lv+1)=pszL a.args (k+1) (lv+1)∧kk≤60∧μ=(a.args.length - i)) _ ⟨_,_,0,(k+1),A,rfl,rfl,rfl,rfl,rfl,l,p,o,(Nat.zero_le _),rfl,(by omega),rfl⟩ ?_);rintro aK aL aM ⟨aO,aP,i,kk,V,Y,Z,aa,ab,ac,l,h,m,hi,hR,hkk,aE⟩;obtain⟨aQ,rfl⟩:=rebK (aC Y<|aC Z<|aC aa<|aC ab<|aC ac aN);clear Y Z aa ab ac;refine Rg<|Ol<|J1h rfl rfl (fun au=>?_)<|fun au=>?_
  ·refine Nl (J06<|J0w rfl<|J01<|J06<|W.block<|Rg<|Ol<|J1l (j:=i) (u:=(a.args.getD i default)) l.args sl29 io31 rfl rfl rfl (Jf (by omega)) ?_);intro aR aS aF ad;obtain⟨B,D,E,F,G,H,I,J,rfl,d⟩:=Jv ad.rd;refine Ol (J14 (cs:=(ec (a.args.getD i default) B D E F G H I J)) ag31 rfl rfl ad.cell<|Ol<|J05 V io31 rfl ?_);intro aT aU aV aW K ax r ay;have az:=K _ h.blk.lt;have aA:=K _ m.blk.lt;replace l:=l.sp r;replace m:=m.spn r;refine On (J0u (cs':=(ec (a.args.getD i default) B D E F G H I J)) ax ay io31 rfl rfl rfl rfl rfl rfl ?_);intro aX L s aB;replace d:=(d.sp r).sp s;replace h:=(h.spn r).spo s az;refine Nl (Rg<|Ol<|J0z (vs:=(ec (a.args.getD i default) B D E F G H I J)) aB ag31 rfl rfl rfl<|Om<|Om<|Ol<|St.add rfl rfl (Jc (a:=lv) (b:=1) (by omega))<|Ol<|J1n<|J08 L h cb79 rfl rfl (ih L.bd (Ju (a.args.getD i default) d.lo d.hi d.name d.n d.num d.den d.args) (k:=kk) h.blk (L.yx _ h.mem) (lv:=lv+1) hkk (by omega)<|Nat.lt_of_lt_of_le (Jad (by omega))<|Nat.le_of_lt_succ hN) ?_);intro aY aZ ae af ag aD;replace l:=(l.sp s).sp af;replace m:=(m.spo s aA).spo af (Ne.symm T);refine⟨_,aD,fun e=>?_,fun e=>?_⟩
   ·refine Ol<|J1s rfl<|Nl<|J0v rfl<|J01<|J0y<|Ol<|St.add rfl rfl (Jc (a:=i) (b:=1) (by omega))<|Om<|Nl<|⟨_,(by omega),_,_,(i+1),(pszE (a.args.getD i default) kk<|lv+1).1,ae,rfl,rfl,rfl,rfl,rfl,l,ag,m,(by omega),(Jl7 (by omega) hR e),(pr_le hkk e),rfl⟩
   refine Ol<|J1s rfl<|Nl<|J0w rfl<|Rg<|Oa<|Nl<|J04<|Jo rfl (J35 rfl)<|RetM.intro ⟨?_,?_⟩ ae.below
   ·exact congrArg (Value.bool)<|(by rw [← (Jih (by omega) (by omega) hR e)];exact e.symm)
   have hh:=ag.blk;rw [show(pszE (a.args.getD i default) kk<|lv+1).1=(pszE a k lv).1 from congrArg Prod.fst (Jih (by omega) (by omega) hR e)] at hh;exact hh
  refine Nl<|J06<|J0v rfl<|J1j<|Rg<|Oa<|Nl<|J04<|Jo rfl (J35 rfl)<|RetM.intro ⟨?_,?_⟩ V.below
  ·exact congrArg (Value.bool)<|congrArg Prod.snd<|Jo2 (a:=a) (k:=k) (v:=lv) (by omega) (by omega) hR
  have hh:=h.blk;rw [show kk=(pszE a k lv).1 from congrArg Prod.fst (Jo2 (a:=a) (k:=k) (v:=lv) (by omega) (by omega) hR)] at hh;exact hh
theorem c_psz{X:Nat→Prop}{w:World}(hX:XB X w){b:Value}{a:GExpr}(d:RV Jg X w b a){g k:Nat}(hB:Blk w g [.int .i64 ((k:Nat):Int)] 3)(hXg:X g){lv:Nat}(hk:k≤60)(hv:lv≤13):Calls Tryz.prog 79 #[b,(.pointer (some ⟨g,0,none⟩)),(.int .i64 ((lv:Nat):Int))] w (RetM w g fun v w'=>v=(.bool ((pszE a k lv).2))∧Blk w' g [.int .i64 (((pszE a k lv).1:Nat):Int)] 3):=Jr2 ((SizeOf.sizeOf a)+1) hX d hB hXg hk hv (Nat.lt_succ_self _)
theorem Jq2{X:Nat→Prop}{w:World}(hX:XB X w){l:Value}{a:GExpr}(I:RV Jg X w l a)  :CRt 49 #[l] w fun v w'=>v=(.bool (decide (cntE a≤60∧lvlE a≤12))):=by
 obtain⟨m,o,p,r,s,x,y,z,rfl,b⟩:=J37 I;have C:=J07 hX;refine Cgo (args:=[(ea a m o p r s x y z)]) Tryz.func49 rfl rfl rfl (Rg<|Ol<|J1e C rfl ?_);intro K L M N J A B d;replace b:=b.sp B;refine Oa (Nl<|Rg<|Ol<|J05 A io3 rfl ?_);intro P Q R S j D h E;have F:=j _ d.blk.lt;refine On (J0u (cs':=[(.int .i64 0)]) D E io3 rfl rfl rfl rfl rfl rfl ?_);intro T e i g;replace b:=(b.sp h).sp i;replace d:=(d.spn h).spo i F;refine Nl (Rg<|Ol<|J0z (vs:=(ec a m o p r s x y z)) d ag31 rfl rfl rfl<|Ol<|J08 e g cb79 rfl rfl (c_psz e.bd (Ju a b.lo b.hi b.name b.n b.num b.den b.args) (k:=0) g.blk (e.yx _ g.mem) (lv:=1) (by omega) (by omega)) ?_);intro U V G Y Z H;subst H;exact Oa<|Nl<|J04<|Wq rfl rfl G<|congrArg (Value.bool)<|Jg3 a
end Go.Wf
namespace Go.Wf
open Go Go.Proofs Go.RowKit
theorem Jp8{X:Nat→Prop}{w:World}(hX:XB X w){n:Int}  :CRt 120 #[(.int .i64 n)] w fun v w'=>∃ F G,v= .tuple #[F,G]∧(F=(.agg #[(.int .i64 (sA n)),(.int .i64 (sB n)),(.int .i64 (sC n))]))∧(G=(.bool (okOp n))):=by
 have C:=J07 hX;refine Cgo (args:=[(.int .i64 n)]) Tryz.func120 rfl rfl rfl (Rg<|Ol<|J05 C X1 rfl ?_);intro g1 w2 x3 y4 az a s7 b;refine Oa<|Nl<|Rh<|Om<|Nl<|W.block<|Rh<|Ol<|J1a rfl rfl (fun B=>?_)<|fun B=>?_
 ·refine Oa (Nl<|J0w rfl<|J01<|J0w rfl<|Rg<|Ol<|J09 (cs:=[(.int .i64 0),(.int .i64 0),(.int .i64 0)]) rfl (by kernel_rfl)<|On<|J0u (cs':=[(.int .i64 0),(.int .i64 0),(.int .i64 0)]) a b X1 rfl rfl rfl rfl rfl rfl ?_);intro aA H aB I;refine Oa (Nl<|J04<|Zh rfl (resV.c I rfl Q4 rfl) (J35 rfl)<|J02 ?_ H.below);refine⟨_,_,rfl,?_,?_⟩
  ·skip
   exact K2 (by rw [B];rfl) (by rw [B];rfl) (by rw [B];rfl)
  ·skip
   exact congrArg (Value.bool)<|(by rw [B];rfl)
 refine Oa<|Nl<|J0v rfl<|Rg<|Ol<|J1a rfl rfl (fun d=>?_)<|fun d=>?_
 ·refine Oa (Nl<|J0w rfl<|J01<|J0w rfl<|Rg<|Ol<|J09 (cs:=[(.int .i64 0),(.int .i64 0),(.int .i64 0)]) rfl (by kernel_rfl)<|On<|J0u (cs':=[(.int .i64 0),(.int .i64 0),(.int .i64 0)]) a b X1 rfl rfl rfl rfl rfl rfl ?_);intro aD J aE K;refine Oa (Nl<|J04<|Zh rfl (resV.c K rfl Q4 rfl) (J35 rfl)<|J02 ?_ J.below);refine⟨_,_,rfl,?_,?_⟩
  ·skip
   exact K2 (by rw [d];rfl) (by rw [d];rfl) (by rw [d];rfl)
  ·skip
   exact congrArg (Value.bool)<|(by rw [d];rfl)
 refine Oa<|Nl<|J0v rfl<|Rg<|Ol<|J1a rfl rfl (fun e=>?_)<|fun e=>?_
 ·refine Oa (Nl<|J0w rfl<|J01<|J0w rfl<|Rg<|Ol<|J09 (cs:=[(.int .i64 0),(.int .i64 0),(.int .i64 0)]) rfl (by kernel_rfl)<|On<|J0u (cs':=[(.int .i64 0),(.int .i64 0),(.int .i64 0)]) a b X1 rfl rfl rfl rfl rfl rfl ?_);intro aF L aG M;refine Oa (Nl<|J04<|Zh rfl (resV.c M rfl Q4 rfl) (J35 rfl)<|J02 ?_ L.below);refine⟨_,_,rfl,?_,?_⟩
  ·skip
   exact K2 (by rw [e];rfl) (by rw [e];rfl) (by rw [e];rfl)
  ·skip
   exact congrArg (Value.bool)<|(by rw [e];rfl)
 refine Oa<|Nl<|J0v rfl<|J0y<|Ol<|J1a rfl rfl (fun g=>?_)<|fun g=>?_
 ·refine Oa (Nl<|J0w rfl<|Rg<|Ol<|J09 (cs:=[(.int .i64 0),(.int .i64 0),(.int .i64 0)]) rfl (by kernel_rfl)<|On<|J0u (cs':=[(.int .i64 0),(.int .i64 0),(.int .i64 0)]) a b X1 rfl rfl rfl rfl rfl rfl ?_);intro aH N aI P;refine Oa (Nl<|J04<|Zh rfl (resV.c P rfl Q4 rfl) (J35 rfl)<|J02 ?_ N.below);refine⟨_,_,rfl,?_,?_⟩
  ·skip
   exact K2 (by rw [g];rfl) (by rw [g];rfl) (by rw [g];rfl)
  ·skip
   exact congrArg (Value.bool)<|(by rw [g];rfl)
 refine Oa<|Nl<|J0v rfl<|Rg<|Ol<|J1a rfl rfl (fun h=>?_)<|fun h=>?_
 ·refine Oa (Nl<|J0w rfl<|Rg<|Ol<|J09 (cs:=[(.int .i64 1),(.int .i64 1),(.int .i64 0)]) rfl (by kernel_rfl)<|On<|J0u (cs':=[(.int .i64 1),(.int .i64 1),(.int .i64 0)]) a b X1 rfl rfl rfl rfl rfl rfl ?_);intro aJ Q aK R;refine Oa (Nl<|J04<|Zh rfl (resV.c R rfl Q4 rfl) (J35 rfl)<|J02 ?_ Q.below);refine⟨_,_,rfl,?_,?_⟩
  ·skip
   exact K2 (by rw [h];rfl) (by rw [h];rfl) (by rw [h];rfl)
  ·skip
   exact congrArg (Value.bool)<|(by rw [h];rfl)
 refine Oa<|Nl<|J0v rfl<|Rh<|Ol<|J1a rfl rfl (fun i=>?_)<|fun i=>?_
 ·refine Oa (Nl<|J0w rfl<|J01<|J0w rfl<|Rg<|Ol<|J09 (cs:=[(.int .i64 4),(.int .i64 4),(.int .i64 0)]) rfl (by kernel_rfl)<|On<|J0u (cs':=[(.int .i64 4),(.int .i64 4),(.int .i64 0)]) a b X1 rfl rfl rfl rfl rfl rfl ?_);intro aL S aM T;refine Oa (Nl<|J04<|Zh rfl (resV.c T rfl Q4 rfl) (J35 rfl)<|J02 ?_ S.below);refine⟨_,_,rfl,?_,?_⟩
  ·skip
   exact K2 (by rw [i];rfl) (by rw [i];rfl) (by rw [i];rfl)
  ·skip
   exact congrArg (Value.bool)<|(by rw [i];rfl)
 refine Oa<|Nl<|J0v rfl<|J0y<|Ol<|J1a rfl rfl (fun j=>?_)<|fun j=>?_
 ·refine Oa (Nl<|J0w rfl<|Rg<|Ol<|J09 (cs:=[(.int .i64 4),(.int .i64 4),(.int .i64 0)]) rfl (by kernel_rfl)<|On<|J0u (cs':=[(.int .i64 4),(.int .i64 4),(.int .i64 0)]) a b X1 rfl rfl rfl rfl rfl rfl ?_);intro aO U aP V;refine Oa (Nl<|J04<|Zh rfl (resV.c V rfl Q4 rfl) (J35 rfl)<|J02 ?_ U.below);refine⟨_,_,rfl,?_,?_⟩
  ·skip
   exact K2 (by rw [j];rfl) (by rw [j];rfl) (by rw [j];rfl)
  ·skip
   exact congrArg (Value.bool)<|(by rw [j];rfl)
 refine Oa<|Nl<|J0v rfl<|Rg<|Ol<|J1a rfl rfl (fun k=>?_)<|fun k=>?_
 ·refine Oa (Nl<|J0w rfl<|Rg<|Ol<|J09 (cs:=[(.int .i64 2),(.int .i64 41),(.int .i64 0)]) rfl (by kernel_rfl)<|On<|J0u (cs':=[(.int .i64 2),(.int .i64 41),(.int .i64 0)]) a b X1 rfl rfl rfl rfl rfl rfl ?_);intro aQ Y aR Z;refine Oa (Nl<|J04<|Zh rfl (resV.c Z rfl Q4 rfl) (J35 rfl)<|J02 ?_ Y.below);refine⟨_,_,rfl,?_,?_⟩
  ·skip
   exact K2 (by rw [k];rfl) (by rw [k];rfl) (by rw [k];rfl)
  ·skip
   exact congrArg (Value.bool)<|(by rw [k];rfl)
 refine Oa<|Nl<|J0v rfl<|Rg<|Ol<|J1a rfl rfl (fun l=>?_)<|fun l=>?_
 ·refine Oa (Nl<|J0w rfl<|Rg<|Ol<|J09 (cs:=[(.int .i64 2),(.int .i64 65),(.int .i64 0)]) rfl (by kernel_rfl)<|On<|J0u (cs':=[(.int .i64 2),(.int .i64 65),(.int .i64 0)]) a b X1 rfl rfl rfl rfl rfl rfl ?_);intro aS aa aT ab;refine Oa (Nl<|J04<|Zh rfl (resV.c ab rfl Q4 rfl) (J35 rfl)<|J02 ?_ aa.below);refine⟨_,_,rfl,?_,?_⟩
  ·skip
   exact K2 (by rw [l];rfl) (by rw [l];rfl) (by rw [l];rfl)
  ·skip
   exact congrArg (Value.bool)<|(by rw [l];rfl)
 refine Oa<|Nl<|J0v rfl<|Rh<|Ol<|J1a rfl rfl (fun m=>?_)<|fun m=>?_
 ·refine Oa (Nl<|J0w rfl<|J01<|J0w rfl<|Rg<|Ol<|J09 (cs:=[(.int .i64 0),(.int .i64 0),(.int .i64 (-1))]) rfl (by kernel_rfl)<|On<|J0u (cs':=[(.int .i64 0),(.int .i64 0),(.int .i64 (-1))]) a b X1 rfl rfl rfl rfl rfl rfl ?_);intro aU ac aV ad;refine Oa (Nl<|J04<|Zh rfl (resV.c ad rfl Q4 rfl) (J35 rfl)<|J02 ?_ ac.below);refine⟨_,_,rfl,?_,?_⟩
  ·skip
   exact K2 (by rw [m];rfl) (by rw [m];rfl) (by rw [m];rfl)
  ·skip
   exact congrArg (Value.bool)<|(by rw [m];rfl)
 refine Oa<|Nl<|J0v rfl<|J0y<|Ol<|J1a rfl rfl (fun o=>?_)<|fun o=>?_
 ·refine Oa (Nl<|J0w rfl<|Rg<|Ol<|J09 (cs:=[(.int .i64 0),(.int .i64 0),(.int .i64 (-1))]) rfl (by kernel_rfl)<|On<|J0u (cs':=[(.int .i64 0),(.int .i64 0),(.int .i64 (-1))]) a b X1 rfl rfl rfl rfl rfl rfl ?_);intro aW ae aX af;refine Oa (Nl<|J04<|Zh rfl (resV.c af rfl Q4 rfl) (J35 rfl)<|J02 ?_ ae.below);refine⟨_,_,rfl,?_,?_⟩
  ·skip
   exact K2 (by rw [o];rfl) (by rw [o];rfl) (by rw [o];rfl)
  ·skip
   exact congrArg (Value.bool)<|(by rw [o];rfl)
 refine Oa<|Nl<|J0v rfl<|Rh<|Ol<|J1a rfl rfl (fun p=>?_)<|fun p=>?_
 ·refine Oa (Nl<|J0w rfl<|J01<|J0w rfl<|Rg<|Ol<|J09 (cs:=[(.int .i64 1),(.int .i64 1),(.int .i64 1)]) rfl (by kernel_rfl)<|On<|J0u (cs':=[(.int .i64 1),(.int .i64 1),(.int .i64 1)]) a b X1 rfl rfl rfl rfl rfl rfl ?_);intro aY ag aZ ah;refine Oa (Nl<|J04<|Zh rfl (resV.c ah rfl Q4 rfl) (J35 rfl)<|J02 ?_ ag.below);refine⟨_,_,rfl,?_,?_⟩
  ·skip
   exact K2 (by rw [p];rfl) (by rw [p];rfl) (by rw [p];rfl)
  ·skip
   exact congrArg (Value.bool)<|(by rw [p];rfl)
 refine Oa<|Nl<|J0v rfl<|Rg<|Ol<|J1a rfl rfl (fun r=>?_)<|fun r=>?_
 ·refine Oa (Nl<|J0w rfl<|J01<|J0w rfl<|Rg<|Ol<|J09 (cs:=[(.int .i64 1),(.int .i64 1),(.int .i64 1)]) rfl (by kernel_rfl)<|On<|J0u (cs':=[(.int .i64 1),(.int .i64 1),(.int .i64 1)]) a b X1 rfl rfl rfl rfl rfl rfl ?_);intro a0 ai a1 aj;refine Oa (Nl<|J04<|Zh rfl (resV.c aj rfl Q4 rfl) (J35 rfl)<|J02 ?_ ai.below);refine⟨_,_,rfl,?_,?_⟩
  ·skip
   exact K2 (by rw [r];rfl) (by rw [r];rfl) (by rw [r];rfl)
  ·skip
   exact congrArg (Value.bool)<|(by rw [r];rfl)
 refine Oa<|Nl<|J0v rfl<|Rg<|Ol<|J1a rfl rfl (fun s=>?_)<|fun s=>?_
 ·refine Oa (Nl<|J0w rfl<|J01<|J0w rfl<|Rg<|Ol<|J09 (cs:=[(.int .i64 1),(.int .i64 1),(.int .i64 1)]) rfl (by kernel_rfl)<|On<|J0u (cs':=[(.int .i64 1),(.int .i64 1),(.int .i64 1)]) a b X1 rfl rfl rfl rfl rfl rfl ?_);intro a2 ak a3 am;refine Oa (Nl<|J04<|Zh rfl (resV.c am rfl Q4 rfl) (J35 rfl)<|J02 ?_ ak.below);refine⟨_,_,rfl,?_,?_⟩
  ·skip
   exact K2 (by rw [s];rfl) (by rw [s];rfl) (by rw [s];rfl)
  ·skip
   exact congrArg (Value.bool)<|(by rw [s];rfl)
 refine Oa<|Nl<|J0v rfl<|Rg<|Ol<|J1a rfl rfl (fun x=>?_)<|fun x=>?_
 ·refine Oa (Nl<|J0w rfl<|J01<|J0w rfl<|Rg<|Ol<|J09 (cs:=[(.int .i64 1),(.int .i64 1),(.int .i64 1)]) rfl (by kernel_rfl)<|On<|J0u (cs':=[(.int .i64 1),(.int .i64 1),(.int .i64 1)]) a b X1 rfl rfl rfl rfl rfl rfl ?_);intro a4 an a5 ao;refine Oa (Nl<|J04<|Zh rfl (resV.c ao rfl Q4 rfl) (J35 rfl)<|J02 ?_ an.below);refine⟨_,_,rfl,?_,?_⟩
  ·skip
   exact K2 (by rw [x];rfl) (by rw [x];rfl) (by rw [x];rfl)
  ·skip
   exact congrArg (Value.bool)<|(by rw [x];rfl)
 refine Oa<|Nl<|J0v rfl<|J0y<|Ol<|J1a rfl rfl (fun y=>?_)<|fun y=>?_
 ·refine Oa (Nl<|J0w rfl<|Rg<|Ol<|J09 (cs:=[(.int .i64 1),(.int .i64 1),(.int .i64 1)]) rfl (by kernel_rfl)<|On<|J0u (cs':=[(.int .i64 1),(.int .i64 1),(.int .i64 1)]) a b X1 rfl rfl rfl rfl rfl rfl ?_);intro a6 aq a7 ar;refine Oa (Nl<|J04<|Zh rfl (resV.c ar rfl Q4 rfl) (J35 rfl)<|J02 ?_ aq.below);refine⟨_,_,rfl,?_,?_⟩
  ·skip
   exact K2 (by rw [y];rfl) (by rw [y];rfl) (by rw [y];rfl)
  ·skip
   exact congrArg (Value.bool)<|(by rw [y];rfl)
 refine Oa<|Nl<|J0v rfl<|Rg<|Ol<|J1a rfl rfl (fun z=>?_)<|fun z=>?_
 ·refine Oa (Nl<|J0w rfl<|Rg<|Ol<|J09 (cs:=[(.int .i64 0),(.int .i64 0),(.int .i64 1)]) rfl (by kernel_rfl)<|On<|J0u (cs':=[(.int .i64 0),(.int .i64 0),(.int .i64 1)]) a b X1 rfl rfl rfl rfl rfl rfl ?_);intro a8 au a9 av;refine Oa (Nl<|J04<|Zh rfl (resV.c av rfl Q4 rfl) (J35 rfl)<|J02 ?_ au.below);refine⟨_,_,rfl,?_,?_⟩
  ·skip
   exact K2 (by rw [z];rfl) (by rw [z];rfl) (by rw [z];rfl)
  ·skip
   exact congrArg (Value.bool)<|(by rw [z];rfl)
 refine Oa<|Nl<|J0v rfl<|Rg<|Ol<|J1a rfl rfl (fun A=>?_)<|fun A=>?_
 ·refine Oa (Nl<|J0w rfl<|Rg<|Ol<|J09 (cs:=[(.int .i64 1),(.int .i64 1),(.int .i64 2)]) rfl (by kernel_rfl)<|On<|J0u (cs':=[(.int .i64 1),(.int .i64 1),(.int .i64 2)]) a b X1 rfl rfl rfl rfl rfl rfl ?_);intro ba aw bb ax;refine Oa (Nl<|J04<|Zh rfl (resV.c ax rfl Q4 rfl) (J35 rfl)<|J02 ?_ aw.below);refine⟨_,_,rfl,?_,?_⟩
  ·skip
   exact K2 (by rw [A];rfl) (by rw [A];rfl) (by rw [A];rfl)
  ·skip
   exact congrArg (Value.bool)<|(by rw [A];rfl)
 refine Oa (Nl<|J0v rfl<|J01<|Rg<|Ol<|J09 (cs:=[(.int .i64 0),(.int .i64 0),(.int .i64 0)]) rfl (by kernel_rfl)<|On<|J0u (cs':=[(.int .i64 0),(.int .i64 0),(.int .i64 0)]) a b X1 rfl rfl rfl rfl rfl rfl ?_);intro bc D ay E;refine Oa (Nl<|J04<|Zh rfl (resV.c E rfl Q4 rfl) (J35 rfl)<|J02 ?_ D.below);refine⟨_,_,rfl,?_,?_⟩
 ·skip
  exact K2 (by unfold sA;rw [if_neg (by omega)]) (by unfold sB;rw [if_neg (by omega)]) (by unfold sC;rw [if_neg (by omega),if_neg (by omega)])
 ·skip
  exact congrArg (Value.bool)<|(decide_eq_false (by omega)).symm
theorem Jxo{X:Nat→Prop}{w:World}(hX:XB X w){v0:Value}{a:GExpr}(r0:RV Jg X w v0 a)(hl:a.args.length≤60)(hok:okE a):CRt 80 #[v0] w fun v w'=>v=(.int .i64 (Qi a)):=by
 obtain⟨G,H,z,A,B,D,I,J,rfl,e⟩:=J37 r0;have C:=J07 hX;obtain⟨bG,bH,bI,bJ⟩:=(X3 a).mp hok;have hnl:=r0.n_max;refine Cgo (args:=[(ea a G H z A B D I J)]) Tryz.func80 rfl rfl rfl (Rg<|Ol<|J1e C rfl ?_);intro F bK bL bM bp au bb k;refine Oa (Nl<|Rg<|Ol<|J0s Zk rfl<|Ol<|J0x k pl3 rfl rfl<|Ol<|J0t au cb120 rfl rfl (Jp8 au.bd) ?_);intro bN bO bc av be;replace e:=(e.sp bb).sp av;replace k:=k.spn av;obtain⟨bP,bQ,rfl,rfl,rfl⟩:=be;refine Om (Ol<|St.extract rfl rfl<|Ol<|St.extract rfl rfl<|Ol<|J05 bc X1 rfl ?_);intro L bR bS bT lt31 bf aw bg;have bh:=lt31 _ k.blk.lt;refine On (J0u (cs':=[(.int .i64 (sA a.op)),(.int .i64 (sB a.op)),(.int .i64 (sC a.op))]) bf bg X1 rfl rfl rfl rfl rfl rfl ?_);intro bU m ax o;replace e:=(e.sp aw).sp ax;replace k:=(k.spn aw).spo ax bh;refine Oa<|Nl<|J06<|J2b (fun f v=>∃ (x y:Nat→Prop),Cx X w x y v∧f 1=(.pointer (some ⟨F,0,none⟩))∧ExprParts x v a G H z A B D I J∧Own w y v F (ec a G H z A B D I J) 31∧Own w y v L [(.int .i64 (sA a.op)),(.int .i64 (sB a.op)),(.int .i64 (sC a.op))] 125∧cntOk a) ?_ ?_
 ·refine Rg<|Ol<|J1n<|J00 ⟨_,rfl,fun M=>?_,fun M=>?_⟩
  ·refine Ol<|J1s rfl<|Om<|OgD<|J0s Ki rfl<|OgD<|J0x k pl23 rfl rfl<|OgD<|St.len sl23 rfl<|OgD<|J0s Jso rfl<|OgD<|J0x o pl3 rfl rfl<|OgD<|J1h rfl rfl (fun aE=>?_)<|fun aE=>?_
   ·refine OF (Om<|Oz<|Oz<|Oz<|Oz<|Oz<|Oz<|OT<|Om<|Oz<|Oz<|Oz<|Oz<|OyD<|OyD<|OyD<|OyD<|OyD<|OyD<|Oz<|OT ?_);exact Om<|Oz<|Oz<|Oz<|Oz<|OyD<|OyD<|OyD<|OyD<|Oz<|OT<|Nl<|J0w rfl<|Rg<|Oa<|Nl<|J04<|Wq rfl rfl m<|congrArg (Value.int _)<|Q7<|Jag<|.inr (by omega)
   refine OF<|Om<|OgD<|J0s Ki rfl<|OgD<|J0x k pl23 rfl rfl<|OgD<|St.len sl23 rfl<|OgD<|J0s Jss rfl<|OgD<|J0x o pl3 rfl rfl<|OgD<|J10 rfl rfl (fun aF=>?_)<|fun aF=>?_
   ·refine OF (Om<|Oz<|Oz<|Oz<|Oz<|OyD<|OyD<|OyD<|OyD<|OyD<|OyD<|Oz<|OT<|Om<|Oz<|Oz<|Oz<|Oz<|OyD<|OyD<|Oy rfl rfl ?_);exact OyD<|Oz<|OT<|Nl<|J0w rfl<|Rg<|Oa<|Nl<|J04<|Wq rfl rfl m<|congrArg (Value.int _)<|Q7<|Jag<|.inr (by omega)
   refine OF<|Om<|OgD<|J0s Jax rfl<|OgD<|J0x o pl3 rfl rfl<|OgD<|J13 rfl rfl (fun aG=>?_)<|fun aG=>?_
   ·refine OgD<|J00<|OgD<|J0s Ys rfl<|OgD<|J0x k pl29 rfl rfl<|OgD<|St.len sl29 rfl<|OgD<|J0s Jax rfl<|OgD<|J0x o pl3 rfl rfl<|OgD<|J11 rfl rfl (fun aH=>?_)<|fun aH=>?_
    ·exact OgD<|J1f (t:=true) rfl<|OF<|Om<|Oz<|Oz<|Oz<|Oz<|OyD<|OyD<|OyD<|OyD<|Oz<|OT<|Nl<|J0w rfl<|Rg<|Oa<|Nl<|J04<|Wq rfl rfl m<|congrArg (Value.int _)<|Q7<|Jag<|.inr (by omega)
    refine OgD<|J1f (t:=true) rfl<|OF<|Om<|OgD<|J0s Jax rfl<|OgD<|J0x o pl3 rfl rfl<|OgD<|J1h rfl rfl (fun aI=>?_)<|fun aI=>?_
    ·refine OgD<|J00<|OgD<|J0s Ys rfl<|OgD<|J0x k pl29 rfl rfl<|OgD<|St.len sl29 rfl<|OgD<|J1h rfl rfl (fun aJ=>?_)<|fun aJ=>?_
     ·exact OgD<|J1f (t:=true) rfl<|OF<|Nl<|J0w rfl<|Rg<|Oa<|Nl<|J04<|Wq rfl rfl m<|congrArg (Value.int _)<|Q7<|Jag<|.inr (by omega)
     refine OgD<|J1f (t:=true) rfl<|OF<|Nl<|J0v rfl<|J01<|⟨_,_,m,rfl,e,k,o,(Jgc (by assumption) (by omega) (by omega) (fun _=>by omega) (fun _=>by omega) hl)⟩
    refine OgD<|J00<|Oz<|Oz<|Oz<|Oz<|OgD<|J1f (t:=false) rfl<|OF<|Nl<|J0v rfl<|J01<|⟨_,_,m,rfl,e,k,o,(Jgc (by assumption) (by omega) (by omega) (fun _=>by omega) (fun _=>by omega) hl)⟩
   refine OgD<|J00<|Oz<|Oz<|Oz<|Oz<|Oz<|Oz<|OgD<|J1f (t:=false) rfl<|OF<|Om<|OgD<|J0s Jax rfl<|OgD<|J0x o pl3 rfl rfl<|OgD<|J1h rfl rfl (fun aK=>?_)<|fun aK=>?_
   ·refine OgD<|J00<|OgD<|J0s Ys rfl<|OgD<|J0x k pl29 rfl rfl<|OgD<|St.len sl29 rfl<|OgD<|J1h rfl rfl (fun aL=>?_)<|fun aL=>?_
    ·exact OgD<|J1f (t:=true) rfl<|OF<|Nl<|J0w rfl<|Rg<|Oa<|Nl<|J04<|Wq rfl rfl m<|congrArg (Value.int _)<|Q7<|Jag<|.inr (by omega)
    refine OgD<|J1f (t:=true) rfl<|OF<|Nl<|J0v rfl<|J01<|⟨_,_,m,rfl,e,k,o,(Jgc (by assumption) (by omega) (by omega) (fun _=>by omega) (fun _=>by omega) hl)⟩
   refine OgD<|J00<|Oz<|Oz<|Oz<|Oz<|OgD<|J1f (t:=false) rfl<|OF<|Nl<|J0v rfl<|J01<|⟨_,_,m,rfl,e,k,o,(Jgc (by assumption) (by omega) (by omega) (fun _=>by omega) (fun _=>by omega) hl)⟩
  refine Ol (J1s rfl<|Om<|Oz<|Oz<|Oz<|Oz<|Oz<|Oz<|OT<|Om<|Oz<|Oz<|Oz<|Oz<|Oz<|Oz<|OT<|Om<|Oz<|Ox rfl rfl rfl ?_);refine Oz (Oz<|OyD<|OyD<|OyD<|OyD<|OyD<|OyD<|Oz<|OT<|Om<|Oz<|Oz<|Oz<|Oz<|OyD<|OyD<|OyD<|OyD<|Oz<|OT<|Nl<|J0w rfl ?_);exact Rg<|Oa<|Nl<|J04<|Wq rfl rfl m<|congrArg (Value.int _)<|Q7<|Jag<|.inl M
 rintro bV bW ⟨bX,bY,s,ay,e,d,g,hcn⟩;obtain⟨bZ,rfl⟩:=rebK (aC ay aN);clear ay;refine J06<|J2b (fun f v=>∃ (x y:Nat→Prop),Cx X w x y v∧f 1=(.pointer (some ⟨F,0,none⟩))∧ExprParts x v a G H z A B D I J∧Own w y v F (ec a G H z A B D I J) 31∧Own w y v L [(.int .i64 (sA a.op)),(.int .i64 (sB a.op)),(.int .i64 (sC a.op))] 125∧nameOk a) ?_ ?_
 ·refine Rg<|Ol<|J0s Zk rfl<|Ol<|J0x d pl3 rfl rfl<|Ol<|J1a rfl rfl (fun aM=>?_)<|fun aM=>?_
  ·refine Om (OgD<|J0s xc rfl<|OgD<|J0x d pl9 rfl rfl<|OgD<|J1n<|J0t s cb18 rfl rfl (Jf1 s.bd) ?_);intro b0 b1 E N bi;replace e:=e.sp N;replace d:=d.spn N;replace g:=g.spn N;refine⟨_,bi,fun aO=>?_,fun aO=>?_⟩
   ·refine OgD<|J1s rfl<|OT<|Om<|OgD<|J0s Zk rfl<|OgD<|J0x d pl3 rfl rfl<|OgD<|J11 rfl rfl (fun aP=>?_)<|fun aP=>?_
    ·refine OgD<|J00<|OgD<|J0s xc rfl<|OgD<|J0x d pl9 rfl rfl<|OgD<|J2x rfl rfl (fun aQ=>?_)<|fun aQ=>?_
     ·exact OgD<|J1f (t:=true) rfl<|OF<|Om<|Oz<|Oz<|Oz<|Oz<|OyD<|OyD<|OyD<|OyD<|Oz<|OT<|Nl<|J0w rfl<|Rg<|Oa<|Nl<|J04<|Wq rfl rfl E<|congrArg (Value.int _)<|(by first | exact Xz (Jek (by first | exact .inl ⟨by assumption,by assumption⟩ | exact .inr (.inl ⟨by assumption,by assumption⟩) | exact .inr (.inr ⟨by assumption,by assumption⟩))) | (exfalso;omega))
     refine OgD<|J1f (t:=true) rfl<|OF<|Om<|OgD<|J0s Zk rfl<|OgD<|J0x d pl3 rfl rfl<|OgD<|J11 rfl rfl (fun aR=>?_)<|fun aR=>?_
     ·refine OgD (J00<|OgD<|J0s Qo rfl<|OgD<|J0z (vs:=[(.bool a.c.num.neg),(.slice z a.c.num.mag.length A),(.bool a.c.den.neg),(.slice B a.c.den.mag.length D)]) d ag28 rfl rfl rfl<|OgD<|J0t E Jgy rfl rfl (zx E.bd (a:=a.c) (Zz e.num e.den) (by omega) (by omega)) ?_);intro b2 b3 az P bj;replace e:=e.sp P;replace d:=d.spn P;replace g:=g.spn P;subst bj;refine OgD<|J11 rfl rfl (fun aS=>?_)<|fun aS=>?_
      ·exact OgD<|J1f (t:=true) rfl<|OF<|Nl<|J0w rfl<|Rg<|Oa<|Nl<|J04<|Wq rfl rfl az<|congrArg (Value.int _)<|(by first | exact Xz (Jek (by first | exact .inl ⟨by assumption,by assumption⟩ | exact .inr (.inl ⟨by assumption,by assumption⟩) | exact .inr (.inr ⟨by assumption,by assumption⟩))) | (exfalso;omega))
      refine OgD<|J1f (t:=true) rfl<|OF<|Nl<|J0v rfl<|J01<|⟨_,_,az,rfl,e,d,g,(by first | exact(Jdf (by first | exact .inl ⟨by assumption,by assumption⟩ | exact .inr ⟨by assumption,by assumption⟩) (by first | exact .inl (by assumption) | exact .inr (by assumption))) | (exfalso;omega))⟩
     refine OgD<|J00<|Oz<|Oz<|Oz<|Oz<|OgD<|J1f (t:=false) rfl<|OF<|Nl<|J0v rfl<|J01<|⟨_,_,E,rfl,e,d,g,(by first | exact(Jdf (by first | exact .inl ⟨by assumption,by assumption⟩ | exact .inr ⟨by assumption,by assumption⟩) (by first | exact .inl (by assumption) | exact .inr (by assumption))) | (exfalso;omega))⟩
    refine OgD<|J00<|Oz<|Oz<|Oz<|OgD<|J1f (t:=false) rfl<|OF<|Om<|OgD<|J0s Zk rfl<|OgD<|J0x d pl3 rfl rfl<|OgD<|J11 rfl rfl (fun aT=>?_)<|fun aT=>?_
    ·refine OgD (J00<|OgD<|J0s Qo rfl<|OgD<|J0z (vs:=[(.bool a.c.num.neg),(.slice z a.c.num.mag.length A),(.bool a.c.den.neg),(.slice B a.c.den.mag.length D)]) d ag28 rfl rfl rfl<|OgD<|J0t E Jgy rfl rfl (zx E.bd (a:=a.c) (Zz e.num e.den) (by omega) (by omega)) ?_);intro b4 b5 aA Q bk;replace e:=e.sp Q;replace d:=d.spn Q;replace g:=g.spn Q;subst bk;refine OgD<|J11 rfl rfl (fun aU=>?_)<|fun aU=>?_
     ·exact OgD<|J1f (t:=true) rfl<|OF<|Nl<|J0w rfl<|Rg<|Oa<|Nl<|J04<|Wq rfl rfl aA<|congrArg (Value.int _)<|(by first | exact Xz (Jek (by first | exact .inl ⟨by assumption,by assumption⟩ | exact .inr (.inl ⟨by assumption,by assumption⟩) | exact .inr (.inr ⟨by assumption,by assumption⟩))) | (exfalso;omega))
     refine OgD<|J1f (t:=true) rfl<|OF<|Nl<|J0v rfl<|J01<|⟨_,_,aA,rfl,e,d,g,(by first | exact(Jdf (by first | exact .inl ⟨by assumption,by assumption⟩ | exact .inr ⟨by assumption,by assumption⟩) (by first | exact .inl (by assumption) | exact .inr (by assumption))) | (exfalso;omega))⟩
    refine OgD<|J00<|Oz<|Oz<|Oz<|Oz<|OgD<|J1f (t:=false) rfl<|OF<|Nl<|J0v rfl<|J01<|⟨_,_,E,rfl,e,d,g,(by first | exact(Jdf (by first | exact .inl ⟨by assumption,by assumption⟩ | exact .inr ⟨by assumption,by assumption⟩) (by first | exact .inl (by assumption) | exact .inr (by assumption))) | (exfalso;omega))⟩
   refine OgD (J1s rfl<|OT<|Om<|Oz<|Oz<|Oz<|Oz<|OyD<|OyD<|OyD<|Oz<|OT<|Om<|Oz<|Oz<|Oz<|Oz<|OyD<|OyD<|OyD<|Oy rfl rfl ?_);exact Oz<|OT<|Nl<|J0w rfl<|Rg<|Oa<|Nl<|J04<|Wq rfl rfl E<|congrArg (Value.int _)<|(by first | exact Xz (Jek (by first | exact .inl ⟨by assumption,by assumption⟩ | exact .inr (.inl ⟨by assumption,by assumption⟩) | exact .inr (.inr ⟨by assumption,by assumption⟩))) | (exfalso;omega))
  refine Om<|Oz<|Oz<|Oz<|Oz<|OF<|Om<|OgD<|J0s Zk rfl<|OgD<|J0x d pl3 rfl rfl<|OgD<|J11 rfl rfl (fun aV=>?_)<|fun aV=>?_
  ·refine OgD<|J00<|OgD<|J0s xc rfl<|OgD<|J0x d pl9 rfl rfl<|OgD<|J2x rfl rfl (fun aW=>?_)<|fun aW=>?_
   ·exact OgD<|J1f (t:=true) rfl<|OF<|Om<|Oz<|Oz<|Oz<|Oz<|OyD<|OyD<|OyD<|OyD<|Oz<|OT<|Nl<|J0w rfl<|Rg<|Oa<|Nl<|J04<|Wq rfl rfl s<|congrArg (Value.int _)<|(by first | exact Xz (Jek (by first | exact .inl ⟨by assumption,by assumption⟩ | exact .inr (.inl ⟨by assumption,by assumption⟩) | exact .inr (.inr ⟨by assumption,by assumption⟩))) | (exfalso;omega))
   refine OgD<|J1f (t:=true) rfl<|OF<|Om<|OgD<|J0s Zk rfl<|OgD<|J0x d pl3 rfl rfl<|OgD<|J11 rfl rfl (fun aX=>?_)<|fun aX=>?_
   ·refine OgD (J00<|OgD<|J0s Qo rfl<|OgD<|J0z (vs:=[(.bool a.c.num.neg),(.slice z a.c.num.mag.length A),(.bool a.c.den.neg),(.slice B a.c.den.mag.length D)]) d ag28 rfl rfl rfl<|OgD<|J0t s Jgy rfl rfl (zx s.bd (a:=a.c) (Zz e.num e.den) (by omega) (by omega)) ?_);intro b6 b7 aB R bl;replace e:=e.sp R;replace d:=d.spn R;replace g:=g.spn R;subst bl;refine OgD<|J11 rfl rfl (fun aY=>?_)<|fun aY=>?_
    ·exact OgD<|J1f (t:=true) rfl<|OF<|Nl<|J0w rfl<|Rg<|Oa<|Nl<|J04<|Wq rfl rfl aB<|congrArg (Value.int _)<|(by first | exact Xz (Jek (by first | exact .inl ⟨by assumption,by assumption⟩ | exact .inr (.inl ⟨by assumption,by assumption⟩) | exact .inr (.inr ⟨by assumption,by assumption⟩))) | (exfalso;omega))
    refine OgD<|J1f (t:=true) rfl<|OF<|Nl<|J0v rfl<|J01<|⟨_,_,aB,rfl,e,d,g,(by first | exact(Jdf (by first | exact .inl ⟨by assumption,by assumption⟩ | exact .inr ⟨by assumption,by assumption⟩) (by first | exact .inl (by assumption) | exact .inr (by assumption))) | (exfalso;omega))⟩
   refine OgD<|J00<|Oz<|Oz<|Oz<|Oz<|OgD<|J1f (t:=false) rfl<|OF<|Nl<|J0v rfl<|J01<|⟨_,_,s,rfl,e,d,g,(by first | exact(Jdf (by first | exact .inl ⟨by assumption,by assumption⟩ | exact .inr ⟨by assumption,by assumption⟩) (by first | exact .inl (by assumption) | exact .inr (by assumption))) | (exfalso;omega))⟩
  refine OgD<|J00<|Oz<|Oz<|Oz<|OgD<|J1f (t:=false) rfl<|OF<|Om<|OgD<|J0s Zk rfl<|OgD<|J0x d pl3 rfl rfl<|OgD<|J11 rfl rfl (fun aZ=>?_)<|fun aZ=>?_
  ·refine OgD (J00<|OgD<|J0s Qo rfl<|OgD<|J0z (vs:=[(.bool a.c.num.neg),(.slice z a.c.num.mag.length A),(.bool a.c.den.neg),(.slice B a.c.den.mag.length D)]) d ag28 rfl rfl rfl<|OgD<|J0t s Jgy rfl rfl (zx s.bd (a:=a.c) (Zz e.num e.den) (by omega) (by omega)) ?_);intro b8 b9 aD S bm;replace e:=e.sp S;replace d:=d.spn S;replace g:=g.spn S;subst bm;refine OgD<|J11 rfl rfl (fun a0=>?_)<|fun a0=>?_
   ·exact OgD<|J1f (t:=true) rfl<|OF<|Nl<|J0w rfl<|Rg<|Oa<|Nl<|J04<|Wq rfl rfl aD<|congrArg (Value.int _)<|(by first | exact Xz (Jek (by first | exact .inl ⟨by assumption,by assumption⟩ | exact .inr (.inl ⟨by assumption,by assumption⟩) | exact .inr (.inr ⟨by assumption,by assumption⟩))) | (exfalso;omega))
   refine OgD<|J1f (t:=true) rfl<|OF<|Nl<|J0v rfl<|J01<|⟨_,_,aD,rfl,e,d,g,(by first | exact(Jdf (by first | exact .inl ⟨by assumption,by assumption⟩ | exact .inr ⟨by assumption,by assumption⟩) (by first | exact .inl (by assumption) | exact .inr (by assumption))) | (exfalso;omega))⟩
  refine OgD<|J00<|Oz<|Oz<|Oz<|Oz<|OgD<|J1f (t:=false) rfl<|OF<|Nl<|J0v rfl<|J01<|⟨_,_,s,rfl,e,d,g,(by first | exact(Jdf (by first | exact .inl ⟨by assumption,by assumption⟩ | exact .inr ⟨by assumption,by assumption⟩) (by first | exact .inl (by assumption) | exact .inr (by assumption))) | (exfalso;omega))⟩
 rintro ca cb ⟨cc,bq,p,T,e,l,r,hnm⟩;obtain⟨br,rfl⟩:=rebK (aC T aN);clear T;refine Rg<|Oa<|Oa<|Nl<|J06<|J2b (fun f v=>∃ (x y:Nat→Prop),Cx X w x y v∧f 1=(.pointer (some ⟨F,0,none⟩))∧f 5=(.int .i64 (lA a.op))∧f 6=(.int .i64 (lB a.op))∧ExprParts x v a G H z A B D I J∧Own w y v F (ec a G H z A B D I J) 31∧Own w y v L [(.int .i64 (sA a.op)),(.int .i64 (sB a.op)),(.int .i64 (sC a.op))] 125) ?_ ?_
 ·refine Rg<|Ol<|J0s Zk rfl<|Ol<|J0x l pl3 rfl rfl<|Nl<|W.block<|Rg<|Ol<|J1a rfl rfl (fun ag=>?_)<|fun ag=>?_
  ·refine Oa<|Nl<|J0w rfl<|J0y<|Oa<|Oa<|Nl<|⟨_,_,p,rfl,(congrArg (Value.int _) (by unfold lA;(repeat' split) <;> omega)),(congrArg (Value.int _) (by unfold lB;(repeat' split) <;> omega)),e,l,r⟩
  refine Oa<|Nl<|J0v rfl<|Rh<|Ol<|J1a rfl rfl (fun ah=>?_)<|fun ah=>?_
  ·refine Oa<|Nl<|J0w rfl<|J01<|J0w rfl<|J0y<|Oa<|Oa<|Nl<|⟨_,_,p,rfl,(congrArg (Value.int _) (by unfold lA;(repeat' split) <;> omega)),(congrArg (Value.int _) (by unfold lB;(repeat' split) <;> omega)),e,l,r⟩
  refine Oa<|Nl<|J0v rfl<|Rg<|Ol<|J1a rfl rfl (fun ai=>?_)<|fun ai=>?_
  ·refine Oa<|Nl<|J0w rfl<|J01<|J0w rfl<|J0y<|Oa<|Oa<|Nl<|⟨_,_,p,rfl,(congrArg (Value.int _) (by unfold lA;(repeat' split) <;> omega)),(congrArg (Value.int _) (by unfold lB;(repeat' split) <;> omega)),e,l,r⟩
  refine Oa<|Nl<|J0v rfl<|J0y<|Ol<|J1a rfl rfl (fun aj=>?_)<|fun aj=>?_
  ·refine Oa<|Nl<|J0w rfl<|J0y<|Oa<|Oa<|Nl<|⟨_,_,p,rfl,(congrArg (Value.int _) (by unfold lA;(repeat' split) <;> omega)),(congrArg (Value.int _) (by unfold lB;(repeat' split) <;> omega)),e,l,r⟩
  refine Oa<|Nl<|J0v rfl<|Rg<|Ol<|J1a rfl rfl (fun ak=>?_)<|fun ak=>?_
  ·refine Oa<|Nl<|J0w rfl<|J0y<|Oa<|Oa<|Nl<|⟨_,_,p,rfl,(congrArg (Value.int _) (by unfold lA;(repeat' split) <;> omega)),(congrArg (Value.int _) (by unfold lB;(repeat' split) <;> omega)),e,l,r⟩
  refine Oa<|Nl<|J0v rfl<|Rg<|Ol<|J1a rfl rfl (fun am=>?_)<|fun am=>?_
  ·refine Oa<|Nl<|J0w rfl<|J0y<|Oa<|Nl<|⟨_,_,p,rfl,(congrArg (Value.int _) (by unfold lA;(repeat' split) <;> omega)),(congrArg (Value.int _) (by unfold lB;(repeat' split) <;> omega)),e,l,r⟩
  refine Oa<|Nl<|J0v rfl<|J01<|⟨_,_,p,rfl,(congrArg (Value.int _) (by unfold lA;(repeat' split) <;> omega)),(congrArg (Value.int _) (by unfold lB;(repeat' split) <;> omega)),e,l,r⟩
 rintro bs bt ⟨bu,bv,a2,U,V,Y,e,Z,a4⟩;obtain⟨bw,rfl⟩:=rebK (aC U<|aC V<|aC Y aN);clear U V Y;refine Rh (Ol<|J0s Ki rfl<|Ol<|J0x Z pl23 rfl rfl<|Ol<|St.len sl23 rfl<|Om<|Nl<|W.block<|J1g (fun μ f v=>∃ (x y:Nat→Prop) (i:Nat),Cx X w x y v∧f 5=(.int .i64 (lA a.op))∧f 6=(.int .i64 (lB a.op))∧f 100=(.slice G a.n.length H)∧f 101=(.int .i64 ((a.n.length:Nat):Int))∧f 102=(.int .i64 ((i:Nat):Int))∧ExprParts x v a G H z A B D I J∧Own w y v F (ec a G H z A B D I J) 31∧Own w y v L [(.int .i64 (sA a.op)),(.int .i64 (sB a.op)),(.int .i64 (sC a.op))] 125∧i≤a.n.length∧(∀ j,j < i→lA a.op≤a.n.getD j 0∧a.n.getD j 0≤lB a.op)∧μ=(a.n.length - i)) _ ⟨_,_,0,a2,rfl,rfl,rfl,rfl,rfl,e,Z,a4,(Nat.zero_le _),(fun _ h=>absurd h<|Nat.not_lt_zero _),rfl⟩ ?_);rintro bx bz bA ⟨bB,bC,i,K,aa,ab,ac,ad,ae,e,a6,a8,hi,hall,bn⟩;obtain⟨bD,rfl⟩:=rebK (aC aa<|aC ab<|aC ac<|aC ad<|aC ae aN);clear aa ab ac ad ae;refine Rg<|Ol<|J1h rfl rfl (fun an=>?_)<|fun an=>?_
 ·refine Nl (J06<|J0w rfl<|J01<|J06<|W.block<|Rg<|Ol<|J1l (j:=i) (u:=(a.n.getD i 0)) e.n sl23 io3 rfl rfl rfl (Jf (by omega)) ?_);intro bE bF ao af;obtain⟨rfl,bo⟩:ao=_∧_:=af.rd;refine Ol<|J1d pl3 rfl (af.cell 0 _ rfl)<|Oa<|Nl<|Rg<|Om<|Om<|Ol<|J1h rfl rfl (fun aq=>?_)<|fun aq=>?_
  ·exact Om<|Oz<|Oz<|Oz<|OT<|Nl<|J0w rfl<|Rg<|Oa<|Nl<|J04<|Wq rfl rfl K<|congrArg (Value.int _)<|Jf6 hcn hnm (i:=i) (by omega) (by omega)
  refine Om<|OgD<|J00<|OgD<|J00<|OgD<|J10 rfl rfl (fun ar=>?_)<|fun ar=>?_
  ·exact OF<|Nl<|J0w rfl<|Rg<|Oa<|Nl<|J04<|Wq rfl rfl K<|congrArg (Value.int _)<|Jf6 hcn hnm (i:=i) (by omega) (by omega)
  refine OF<|Nl<|J0v rfl<|J01<|J0y<|Ol<|St.add rfl rfl (Jc (a:=i) (b:=1) (by omega))<|Om<|Nl<|⟨_,(by omega),_,_,(i+1),K,rfl,rfl,rfl,rfl,rfl,e,a6,a8,(by omega),(X2 hall ⟨by omega,by omega⟩),rfl⟩
 exact Nl<|J06<|J0v rfl<|J1j<|Rg<|Oa<|Nl<|J04<|Wq rfl rfl K<|congrArg (Value.int _)<|Jvw hcn hnm (i:=i) (by omega) hall
theorem Jj2(N:Nat):∀ {X:Nat→Prop} {w:World} (hX:XB X w) {I:Value} {a:GExpr} (J:RV Jg X w I a) (S:cntE a≤60) (hok:okE a) (hN:(SizeOf.sizeOf a) < N),CRt 50 #[I] w fun v w'=>v=(.int .i64 (errE a)):=by
 induction N with
 | zero=>intro X w hX I a J S hok hN;exact absurd hN<|Nat.not_lt_zero _
 | succ N ih=>
  intro X w hX I a J S hok hN;obtain⟨K,L,M,P,Q,R,o,p,rfl,d⟩:=J37 J;have C:=J07 hX;have hal:=J.args_max;have hce:=Vt a;have hac:=Jfb a;refine Cgo (args:=[(ea a K L M P Q R o p)]) Tryz.func50 rfl rfl rfl (Rg<|Ol<|J1e C rfl ?_);intro ai ax ay az av T aj k;replace d:=d.sp aj;refine Oa (Nl<|Rh<|Ol<|J0z (vs:=(ec a K L M P Q R o p)) k ag31 rfl rfl rfl<|Ol<|J0t T cb80 rfl rfl (Jxo T.bd (Ju a d.lo d.hi d.name d.n d.num d.den d.args) (by omega) hok) ?_);intro aA aB U V ak;replace d:=d.sp V;replace k:=k.spn V;subst ak;refine Oa<|Nl<|Rg<|Om<|Ol<|J11 rfl rfl (fun h=>?_)<|fun h=>?_
  ·exact Nl<|J0w rfl<|Rg<|Om<|Oa<|Nl<|J04<|Wq rfl rfl U<|congrArg (Value.int _)<|Xb rfl h
  refine Nl (J0v rfl<|J01<|Rh<|Ol<|J0s Ys rfl<|Ol<|J0x k pl29 rfl rfl<|Ol<|St.len sl29 rfl<|Om<|Nl<|W.block<|J1g (fun μ f v=>∃ (x y:Nat→Prop) (i:Nat),Cx X w x y v∧f 13=(.slice o a.args.length p)∧f 14=(.int .i64 ((a.args.length:Nat):Int))∧f 15=(.int .i64 ((i:Nat):Int))∧ExprParts x v a K L M P Q R o p∧Own w y v ai (ec a K L M P Q R o p) 31∧i≤a.args.length∧errL (a.args.drop i)=errL a.args∧μ=(a.args.length - i)) _ ⟨_,_,0,U,rfl,rfl,rfl,d,k,(Nat.zero_le _),rfl,rfl⟩ ?_);rintro aD aE aF ⟨aG,aH,i,Y,Z,aa,ab,d,g,hi,hv,au⟩;obtain⟨aI,rfl⟩:=rebK (aC Z<|aC aa<|aC ab aN);clear Z aa ab;refine Rg<|Ol<|J1h rfl rfl (fun ag=>?_)<|fun ag=>?_
  ·refine Nl (J06<|J0w rfl<|J01<|J06<|W.block<|Rg<|Ol<|J1l (j:=i) (u:=(a.args.getD i default)) d.args sl29 io31 rfl rfl rfl (Jf (by omega)) ?_);intro aJ aK aw ac;obtain⟨r,s,z,A,B,D,E,F,rfl,e⟩:=Jv ac.rd;refine Ol (J14 (cs:=(ec (a.args.getD i default) r s z A B D E F)) ag31 rfl rfl ac.cell<|Ol<|J05 Y io31 rfl ?_);intro aL aM aO aP ah am G an;have ao:=ah _ g.blk.lt;replace d:=d.sp G;replace g:=g.spn G;refine On (J0u (cs':=(ec (a.args.getD i default) r s z A B D E F)) am an io31 rfl rfl rfl rfl rfl rfl ?_);intro aQ ad H aq;replace e:=(e.sp G).sp H;refine Nl (Rg<|Ol<|J0z (vs:=(ec (a.args.getD i default) r s z A B D E F)) aq ag31 rfl rfl rfl<|Ol<|J0t ad cb50 rfl rfl (ih ad.bd (Ju (a.args.getD i default) e.lo e.hi e.name e.n e.num e.den e.args) (by have h7:=Jiv (l:=a.args) (i:=i) (by omega);omega) (Jdi hok (by omega))<|Nat.lt_of_lt_of_le (Jad (by omega))<|Nat.le_of_lt_succ hN) ?_);intro aR aS ae af ar;replace d:=(d.sp H).sp af;replace g:=(g.spo H ao).spn af;subst ar;refine Oa<|Nl<|Rg<|Om<|Ol<|J11 rfl rfl (fun m=>?_)<|fun m=>?_
   ·exact Nl<|J0w rfl<|Rg<|Om<|Oa<|Nl<|J04<|Wq rfl rfl ae<|congrArg (Value.int _)<|Ji4 h (by omega) hv m
   refine Nl<|J0v rfl<|J01<|J0y<|Ol<|St.add rfl rfl (Jc (a:=i) (b:=1) (by omega))<|Om<|Nl<|⟨_,(by omega),_,_,(i+1),ae,rfl,rfl,rfl,d,g,(by omega),(Jh6 (by omega) hv m),rfl⟩
  exact Nl<|J06<|J0v rfl<|J1j<|Rg<|Oa<|Nl<|J04<|Wq rfl rfl Y<|congrArg (Value.int _)<|Jpi h (by omega) hv
theorem Jqj{X:Nat→Prop}{w:World}(hX:XB X w){b:Value}{a:GExpr}(e:RV Jg X w b a)(d:cntE a≤60)(hok:okE a):CRt 50 #[b] w fun v w'=>v=(.int .i64 (errE a)):=Jj2 ((SizeOf.sizeOf a)+1) hX e d hok (Nat.lt_succ_self _)
theorem Jjf{X:Nat→Prop}{w:World}(hX:XB X w){x:Value}{a:GExpr}(D:RV Jg X w x a)(hok:okE a):CRt 20 #[x] w fun v w'=>v=(.int .i64 (K3 a)):=by
 obtain⟨j,k,l,m,o,p,r,s,rfl,b⟩:=J37 D;have C:=J07 hX;refine Cgo (args:=[(ea a j k l m o p r s)]) Tryz.func20 rfl rfl rfl (Rg<|Ol<|J1e C rfl ?_);intro F G H I E h y e;replace b:=b.sp y;refine Oa (Nl<|Rh<|Ol<|J0z (vs:=(ec a j k l m o p r s)) e ag31 rfl rfl rfl<|Ol<|J1n<|J0t h cb49 rfl rfl (Jq2 h.bd<|Ju a b.lo b.hi b.name b.n b.num b.den b.args) ?_);intro J K g i z;replace b:=b.sp i;replace e:=e.spn i;refine⟨_,z,fun d=>?_,fun d=>?_⟩
 ·refine Ol (J1s rfl<|Nl<|J0v rfl<|J01<|Rg<|Ol<|J0z (vs:=(ec a j k l m o p r s)) e ag31 rfl rfl rfl<|Ol<|J0t g cb50 rfl rfl (Jqj g.bd (Ju a b.lo b.hi b.name b.n b.num b.den b.args) (of_decide_eq_true d).1 hok) ?_);intro L M A N B;subst B;exact Oa<|Nl<|J04<|Wq rfl rfl A<|congrArg (Value.int _)<|Jlh<|of_decide_eq_true d
 exact Ol<|J1s rfl<|Nl<|J0w rfl<|Rg<|Oa<|Nl<|J04<|Wq rfl rfl g<|congrArg (Value.int _)<|xa<|of_decide_eq_false d
theorem Jmk{X:Nat→Prop}{w:World}(hX:XB X w){n:Int}(E:1≤n)(F:n≤18):CRt 81 #[(.int .i64 n)] w fun v w'=>∃ z A B D,v= .tuple #[z,A,B,D]∧(z=(.int .i64 (cA n)))∧(A=(.int .i64 (cB n)))∧(B=(.int .i64 (cC n)))∧(D=(.int .i64 (cD n))):=by
 have C:=J07 hX;refine Cgo (args:=[(.int .i64 n)]) Tryz.func81 rfl rfl rfl<|Rg<|Oa<|Oa<|Oa<|Oa<|Nl<|Rh<|Om<|Nl<|W.block<|Rh<|Ol<|J1a rfl rfl (fun j=>?_)<|fun j=>?_
 ·refine Oa (Nl<|J0w rfl<|J01<|J0w rfl<|Rg<|Oa<|Oa<|Oa<|Oa<|Nl<|J04<|Q8 rfl (J35 rfl) (J35 rfl) (J35 rfl) (J35 rfl)<|J02 ?_ C.below);refine⟨_,_,_,_,rfl,?_,?_,?_,?_⟩
  ·skip
   exact congrArg (Value.int _)<|(by rw [j];rfl)
  ·skip
   exact congrArg (Value.int _)<|(by rw [j];rfl)
  ·skip
   exact congrArg (Value.int _)<|(by rw [j];rfl)
  ·skip
   exact congrArg (Value.int _)<|(by rw [j];rfl)
 refine Oa<|Nl<|J0v rfl<|Rg<|Ol<|J1a rfl rfl (fun k=>?_)<|fun k=>?_
 ·refine Oa (Nl<|J0w rfl<|J01<|J0w rfl<|Rg<|Oa<|Oa<|Oa<|Oa<|Nl<|J04<|Q8 rfl (J35 rfl) (J35 rfl) (J35 rfl) (J35 rfl)<|J02 ?_ C.below);refine⟨_,_,_,_,rfl,?_,?_,?_,?_⟩
  ·skip
   exact congrArg (Value.int _)<|(by rw [k];rfl)
  ·skip
   exact congrArg (Value.int _)<|(by rw [k];rfl)
  ·skip
   exact congrArg (Value.int _)<|(by rw [k];rfl)
  ·skip
   exact congrArg (Value.int _)<|(by rw [k];rfl)
 refine Oa<|Nl<|J0v rfl<|Rg<|Ol<|J1a rfl rfl (fun l=>?_)<|fun l=>?_
 ·refine Oa (Nl<|J0w rfl<|J01<|J0w rfl<|Rg<|Oa<|Oa<|Oa<|Oa<|Nl<|J04<|Q8 rfl (J35 rfl) (J35 rfl) (J35 rfl) (J35 rfl)<|J02 ?_ C.below);refine⟨_,_,_,_,rfl,?_,?_,?_,?_⟩
  ·skip
   exact congrArg (Value.int _)<|(by rw [l];rfl)
  ·skip
   exact congrArg (Value.int _)<|(by rw [l];rfl)
  ·skip
   exact congrArg (Value.int _)<|(by rw [l];rfl)
  ·skip
   exact congrArg (Value.int _)<|(by rw [l];rfl)
 refine Oa<|Nl<|J0v rfl<|J0y<|Ol<|J1a rfl rfl (fun m=>?_)<|fun m=>?_
 ·refine Oa (Nl<|J0w rfl<|Rg<|Oa<|Oa<|Oa<|Oa<|Nl<|J04<|Q8 rfl (J35 rfl) (J35 rfl) (J35 rfl) (J35 rfl)<|J02 ?_ C.below);refine⟨_,_,_,_,rfl,?_,?_,?_,?_⟩
  ·skip
   exact congrArg (Value.int _)<|(by rw [m];rfl)
  ·skip
   exact congrArg (Value.int _)<|(by rw [m];rfl)
  ·skip
   exact congrArg (Value.int _)<|(by rw [m];rfl)
  ·skip
   exact congrArg (Value.int _)<|(by rw [m];rfl)
 refine Oa<|Nl<|J0v rfl<|Rg<|Ol<|J1a rfl rfl (fun o=>?_)<|fun o=>?_
 ·refine Oa (Nl<|J0w rfl<|Rg<|Oa<|Oa<|Oa<|Oa<|Nl<|J04<|Q8 rfl (J35 rfl) (J35 rfl) (J35 rfl) (J35 rfl)<|J02 ?_ C.below);refine⟨_,_,_,_,rfl,?_,?_,?_,?_⟩
  ·skip
   exact congrArg (Value.int _)<|(by rw [o];rfl)
  ·skip
   exact congrArg (Value.int _)<|(by rw [o];rfl)
  ·skip
   exact congrArg (Value.int _)<|(by rw [o];rfl)
  ·skip
   exact congrArg (Value.int _)<|(by rw [o];rfl)
 refine Oa<|Nl<|J0v rfl<|Rh<|Ol<|J1a rfl rfl (fun p=>?_)<|fun p=>?_
 ·refine Oa (Nl<|J0w rfl<|J01<|J0w rfl<|Rg<|Oa<|Oa<|Oa<|Oa<|Nl<|J04<|Q8 rfl (J35 rfl) (J35 rfl) (J35 rfl) (J35 rfl)<|J02 ?_ C.below);refine⟨_,_,_,_,rfl,?_,?_,?_,?_⟩
  ·skip
   exact congrArg (Value.int _)<|(by rw [p];rfl)
  ·skip
   exact congrArg (Value.int _)<|(by rw [p];rfl)
  ·skip
   exact congrArg (Value.int _)<|(by rw [p];rfl)
  ·skip
   exact congrArg (Value.int _)<|(by rw [p];rfl)
 refine Oa<|Nl<|J0v rfl<|J0y<|Ol<|J1a rfl rfl (fun r=>?_)<|fun r=>?_
 ·refine Oa (Nl<|J0w rfl<|Rg<|Oa<|Oa<|Oa<|Oa<|Nl<|J04<|Q8 rfl (J35 rfl) (J35 rfl) (J35 rfl) (J35 rfl)<|J02 ?_ C.below);refine⟨_,_,_,_,rfl,?_,?_,?_,?_⟩
  ·skip
   exact congrArg (Value.int _)<|(by rw [r];rfl)
  ·skip
   exact congrArg (Value.int _)<|(by rw [r];rfl)
  ·skip
   exact congrArg (Value.int _)<|(by rw [r];rfl)
  ·skip
   exact congrArg (Value.int _)<|(by rw [r];rfl)
 refine Oa<|Nl<|J0v rfl<|Rg<|Ol<|J1a rfl rfl (fun s=>?_)<|fun s=>?_
 ·refine Oa (Nl<|J0w rfl<|Rg<|Oa<|Oa<|Oa<|Oa<|Nl<|J04<|Q8 rfl (J35 rfl) (J35 rfl) (J35 rfl) (J35 rfl)<|J02 ?_ C.below);refine⟨_,_,_,_,rfl,?_,?_,?_,?_⟩
  ·skip
   exact congrArg (Value.int _)<|(by rw [s];rfl)
  ·skip
   exact congrArg (Value.int _)<|(by rw [s];rfl)
  ·skip
   exact congrArg (Value.int _)<|(by rw [s];rfl)
  ·skip
   exact congrArg (Value.int _)<|(by rw [s];rfl)
 refine Oa<|Nl<|J0v rfl<|Rg<|Ol<|J1a rfl rfl (fun x=>?_)<|fun x=>?_
 ·refine Oa (Nl<|J0w rfl<|Rg<|Oa<|Oa<|Oa<|Oa<|Nl<|J04<|Q8 rfl (J35 rfl) (J35 rfl) (J35 rfl) (J35 rfl)<|J02 ?_ C.below);refine⟨_,_,_,_,rfl,?_,?_,?_,?_⟩
  ·skip
   exact congrArg (Value.int _)<|(by rw [x];rfl)
  ·skip
   exact congrArg (Value.int _)<|(by rw [x];rfl)
  ·skip
   exact congrArg (Value.int _)<|(by rw [x];rfl)
  ·skip
   exact congrArg (Value.int _)<|(by rw [x];rfl)
 refine Oa<|Nl<|J0v rfl<|Rh<|Ol<|J1a rfl rfl (fun a=>?_)<|fun a=>?_
 ·refine Oa (Nl<|J0w rfl<|J01<|J0w rfl<|Rg<|Oa<|Oa<|Oa<|Oa<|Nl<|J04<|Q8 rfl (J35 rfl) (J35 rfl) (J35 rfl) (J35 rfl)<|J02 ?_ C.below);refine⟨_,_,_,_,rfl,?_,?_,?_,?_⟩
  ·skip
   exact congrArg (Value.int _)<|(by rw [a];rfl)
  ·skip
   exact congrArg (Value.int _)<|(by rw [a];rfl)
  ·skip
   exact congrArg (Value.int _)<|(by rw [a];rfl)
  ·skip
   exact congrArg (Value.int _)<|(by rw [a];rfl)
 refine Oa<|Nl<|J0v rfl<|J0y<|Ol<|J1a rfl rfl (fun b=>?_)<|fun b=>?_
 ·refine Oa (Nl<|J0w rfl<|Rg<|Oa<|Oa<|Oa<|Oa<|Nl<|J04<|Q8 rfl (J35 rfl) (J35 rfl) (J35 rfl) (J35 rfl)<|J02 ?_ C.below);refine⟨_,_,_,_,rfl,?_,?_,?_,?_⟩
  ·skip
   exact congrArg (Value.int _)<|(by rw [b];rfl)
  ·skip
   exact congrArg (Value.int _)<|(by rw [b];rfl)
  ·skip
   exact congrArg (Value.int _)<|(by rw [b];rfl)
  ·skip
   exact congrArg (Value.int _)<|(by rw [b];rfl)
 refine Oa<|Nl<|J0v rfl<|Rh<|Ol<|J1a rfl rfl (fun d=>?_)<|fun d=>?_
 ·refine Oa (Nl<|J0w rfl<|J01<|J0w rfl<|Rg<|Oa<|Oa<|Oa<|Oa<|Nl<|J04<|Q8 rfl (J35 rfl) (J35 rfl) (J35 rfl) (J35 rfl)<|J02 ?_ C.below);refine⟨_,_,_,_,rfl,?_,?_,?_,?_⟩
  ·skip
   exact congrArg (Value.int _)<|(by rw [d];rfl)
  ·skip
   exact congrArg (Value.int _)<|(by rw [d];rfl)
  ·skip
   exact congrArg (Value.int _)<|(by rw [d];rfl)
  ·skip
   exact congrArg (Value.int _)<|(by rw [d];rfl)
 refine Oa<|Nl<|J0v rfl<|Rg<|Ol<|J1a rfl rfl (fun e=>?_)<|fun e=>?_
 ·refine Oa (Nl<|J0w rfl<|J01<|J0w rfl<|Rg<|Oa<|Oa<|Oa<|Oa<|Nl<|J04<|Q8 rfl (J35 rfl) (J35 rfl) (J35 rfl) (J35 rfl)<|J02 ?_ C.below);refine⟨_,_,_,_,rfl,?_,?_,?_,?_⟩
  ·skip
   exact congrArg (Value.int _)<|(by rw [e];rfl)
  ·skip
   exact congrArg (Value.int _)<|(by rw [e];rfl)
  ·skip
   exact congrArg (Value.int _)<|(by rw [e];rfl)
  ·skip
   exact congrArg (Value.int _)<|(by rw [e];rfl)
 refine Oa<|Nl<|J0v rfl<|Rg<|Ol<|J1a rfl rfl (fun g=>?_)<|fun g=>?_
 ·refine Oa (Nl<|J0w rfl<|J01<|J0w rfl<|Rg<|Oa<|Oa<|Oa<|Oa<|Nl<|J04<|Q8 rfl (J35 rfl) (J35 rfl) (J35 rfl) (J35 rfl)<|J02 ?_ C.below);refine⟨_,_,_,_,rfl,?_,?_,?_,?_⟩
  ·skip
   exact congrArg (Value.int _)<|(by rw [g];rfl)
  ·skip
   exact congrArg (Value.int _)<|(by rw [g];rfl)
  ·skip
   exact congrArg (Value.int _)<|(by rw [g];rfl)
  ·skip
   exact congrArg (Value.int _)<|(by rw [g];rfl)
 refine Oa<|Nl<|J0v rfl<|Rg<|Ol<|J1a rfl rfl (fun h=>?_)<|fun h=>?_
 ·refine Oa (Nl<|J0w rfl<|J01<|J0w rfl<|Rg<|Oa<|Oa<|Oa<|Oa<|Nl<|J04<|Q8 rfl (J35 rfl) (J35 rfl) (J35 rfl) (J35 rfl)<|J02 ?_ C.below);refine⟨_,_,_,_,rfl,?_,?_,?_,?_⟩
  ·skip
   exact congrArg (Value.int _)<|(by rw [h];rfl)
  ·skip
   exact congrArg (Value.int _)<|(by rw [h];rfl)
  ·skip
   exact congrArg (Value.int _)<|(by rw [h];rfl)
  ·skip
   exact congrArg (Value.int _)<|(by rw [h];rfl)
 refine Oa<|Nl<|J0v rfl<|J0y<|Ol<|J1a rfl rfl (fun i=>?_)<|fun i=>?_
 ·refine Oa (Nl<|J0w rfl<|Rg<|Oa<|Oa<|Oa<|Oa<|Nl<|J04<|Q8 rfl (J35 rfl) (J35 rfl) (J35 rfl) (J35 rfl)<|J02 ?_ C.below);refine⟨_,_,_,_,rfl,?_,?_,?_,?_⟩
  ·skip
   exact congrArg (Value.int _)<|(by rw [i];rfl)
  ·skip
   exact congrArg (Value.int _)<|(by rw [i];rfl)
  ·skip
   exact congrArg (Value.int _)<|(by rw [i];rfl)
  ·skip
   exact congrArg (Value.int _)<|(by rw [i];rfl)
 refine Oa<|Nl<|J0v rfl<|Rg<|Ol<|J1a rfl rfl (fun y=>?_)<|fun y=>?_
 ·refine Oa (Nl<|J0w rfl<|Rg<|Oa<|Oa<|Oa<|Oa<|Nl<|J04<|Q8 rfl (J35 rfl) (J35 rfl) (J35 rfl) (J35 rfl)<|J02 ?_ C.below);refine⟨_,_,_,_,rfl,?_,?_,?_,?_⟩
  ·skip
   exact congrArg (Value.int _)<|(by unfold cA;(repeat' split) <;> omega)
  ·skip
   exact congrArg (Value.int _)<|(by unfold cB;(repeat' split) <;> omega)
  ·skip
   exact congrArg (Value.int _)<|(by unfold cC;(repeat' split) <;> omega)
  ·skip
   exact congrArg (Value.int _)<|(by unfold cD;(repeat' split) <;> omega)
 refine Oa (Nl<|J0v rfl<|J01<|Rg<|Oa<|Oa<|Oa<|Oa<|Nl<|J04<|Q8 rfl (J35 rfl) (J35 rfl) (J35 rfl) (J35 rfl)<|J02 ?_ C.below);refine⟨_,_,_,_,rfl,?_,?_,?_,?_⟩
 ·skip
  exact congrArg (Value.int _)<|(by unfold cA;(repeat' split) <;> omega)
 ·skip
  exact congrArg (Value.int _)<|(by unfold cB;(repeat' split) <;> omega)
 ·skip
  exact congrArg (Value.int _)<|(by unfold cC;(repeat' split) <;> omega)
 ·skip
  exact congrArg (Value.int _)<|(by unfold cD;(repeat' split) <;> omega)
theorem Jmf{X:Nat→Prop}{w:World}(hX:XB X w){n:Int}  :CRt 83 #[(.int .i64 n)] w fun v w'=>∃ h i,v= .tuple #[h,i]∧(h=(.int .i64 (lA n)))∧(i=(.int .i64 (lB n))):=by
 have C:=J07 hX;refine Cgo (args:=[(.int .i64 n)]) Tryz.func83 rfl rfl rfl<|Rg<|Oa<|Oa<|Nl<|Rh<|Om<|Nl<|W.block<|Rg<|Ol<|J1a rfl rfl (fun a=>?_)<|fun a=>?_
 ·refine Oa (Nl<|J0w rfl<|Rg<|Oa<|Oa<|Nl<|J04<|Zh rfl (J35 rfl) (J35 rfl)<|J02 ?_ C.below);refine⟨_,_,rfl,?_,?_⟩
  ·skip
   exact congrArg (Value.int _)<|(by rw [a];rfl)
  ·skip
   exact congrArg (Value.int _)<|(by rw [a];rfl)
 refine Oa<|Nl<|J0v rfl<|Rh<|Ol<|J1a rfl rfl (fun b=>?_)<|fun b=>?_
 ·refine Oa (Nl<|J0w rfl<|J01<|J0w rfl<|Rg<|Oa<|Oa<|Nl<|J04<|Zh rfl (J35 rfl) (J35 rfl)<|J02 ?_ C.below);refine⟨_,_,rfl,?_,?_⟩
  ·skip
   exact congrArg (Value.int _)<|(by rw [b];rfl)
  ·skip
   exact congrArg (Value.int _)<|(by rw [b];rfl)
 refine Oa<|Nl<|J0v rfl<|Rg<|Ol<|J1a rfl rfl (fun d=>?_)<|fun d=>?_
 ·refine Oa (Nl<|J0w rfl<|J01<|J0w rfl<|Rg<|Oa<|Oa<|Nl<|J04<|Zh rfl (J35 rfl) (J35 rfl)<|J02 ?_ C.below);refine⟨_,_,rfl,?_,?_⟩
  ·skip
   exact congrArg (Value.int _)<|(by rw [d];rfl)
  ·skip
   exact congrArg (Value.int _)<|(by rw [d];rfl)
 refine Oa<|Nl<|J0v rfl<|J0y<|Ol<|J1a rfl rfl (fun e=>?_)<|fun e=>?_
 ·refine Oa (Nl<|J0w rfl<|Rg<|Oa<|Oa<|Nl<|J04<|Zh rfl (J35 rfl) (J35 rfl)<|J02 ?_ C.below);refine⟨_,_,rfl,?_,?_⟩
  ·skip
   exact congrArg (Value.int _)<|(by rw [e];rfl)
  ·skip
   exact congrArg (Value.int _)<|(by rw [e];rfl)
 refine Oa<|Nl<|J0v rfl<|Rg<|Ol<|J1a rfl rfl (fun g=>?_)<|fun g=>?_
 ·refine Oa (Nl<|J0w rfl<|Rg<|Oa<|Oa<|Nl<|J04<|Zh rfl (J35 rfl) (J35 rfl)<|J02 ?_ C.below);refine⟨_,_,rfl,?_,?_⟩
  ·skip
   exact congrArg (Value.int _)<|(by rw [g];rfl)
  ·skip
   exact congrArg (Value.int _)<|(by rw [g];rfl)
 refine Oa<|Nl<|J0v rfl<|Rg<|Ol<|J1a rfl rfl (fun j=>?_)<|fun j=>?_
 ·refine Oa (Nl<|J0w rfl<|Rg<|Oa<|Oa<|Nl<|J04<|Zh rfl (J35 rfl) (J35 rfl)<|J02 ?_ C.below);refine⟨_,_,rfl,?_,?_⟩
  ·skip
   exact congrArg (Value.int _)<|(by unfold lA;(repeat' split) <;> omega)
  ·skip
   exact congrArg (Value.int _)<|(by unfold lB;(repeat' split) <;> omega)
 refine Oa (Nl<|J0v rfl<|J01<|Rg<|Oa<|Oa<|Nl<|J04<|Zh rfl (J35 rfl) (J35 rfl)<|J02 ?_ C.below);refine⟨_,_,rfl,?_,?_⟩
 ·skip
  exact congrArg (Value.int _)<|(by unfold lA;(repeat' split) <;> omega)
 ·skip
  exact congrArg (Value.int _)<|(by unfold lB;(repeat' split) <;> omega)
theorem Jmu(N:Nat):∀ {X:Nat→Prop} {w:World} (hX:XB X w) {v0:Value} {a:GExpr} (S:RV Jg X w v0 a) (ay:cntE a≤60) (hok:okE a) (hN:(SizeOf.sizeOf a) < N),CRt 53 #[v0] w fun v w'=>v=(.int .i64 (errE a)):=by
 induction N with
 | zero=>intro X w hX v0 a S ay hok hN;exact absurd hN<|Nat.not_lt_zero _
 | succ N ih=>
  intro X w hX v0 a S ay hok hN;obtain⟨E,o,p,r,z,A,F,G,rfl,d⟩:=J37 S;have C:=J07 hX;have hal:=S.args_max;obtain⟨ch,ci,cj,ck⟩:=(X3 a).mp hok;have hce:=Vt a;have hac:=Jfb a;have hnl:=S.n_max;refine Cgo (args:=[(ea a E o p r z A F G)]) Tryz.func53 rfl rfl rfl (Rg<|Ol<|J1e C rfl ?_);intro m cl cm cn bI T bj U;replace d:=d.sp bj;refine Oa<|Nl<|J06<|J2b (fun f v=>∃ (x y:Nat→Prop),Cx X w x y v∧f 1=(.pointer (some ⟨m,0,none⟩))∧ExprParts x v a E o p r z A F G∧Own w y v m (ec a E o p r z A F G) 31∧1≤a.op∧a.op≤18) ?_ ?_
  ·refine Rg<|Ol<|J0s Zk rfl<|Ol<|J0x U pl3 rfl rfl<|Ol<|J1h rfl rfl (fun aL=>?_)<|fun aL=>?_
   ·exact Om<|Oz<|Oz<|Oz<|OT<|Nl<|J0w rfl<|Rg<|Oa<|Nl<|J04<|Wq rfl rfl T<|congrArg (Value.int _)<|Xb (Q7 fun c=>by have:=c.o1;have:=c.o2;omega) (by decide)
   refine Om<|OgD<|J0s Zk rfl<|OgD<|J0x U pl3 rfl rfl<|OgD<|J10 rfl rfl (fun aM=>?_)<|fun aM=>?_
   ·exact OF<|Nl<|J0w rfl<|Rg<|Oa<|Nl<|J04<|Wq rfl rfl T<|congrArg (Value.int _)<|Xb (Q7 fun c=>by have:=c.o1;have:=c.o2;omega) (by decide)
   refine OF<|Nl<|J0v rfl<|J01<|⟨_,_,T,rfl,d,U,(by omega),(by omega)⟩
  rintro co cp ⟨cq,cr,az,aA,d,H,aB,aD⟩;obtain⟨ct,rfl⟩:=rebK (aC aA aN);clear aA;refine Rg (Ol<|J0s Zk rfl<|Ol<|J0x H pl3 rfl rfl<|Ol<|J0t az cb81 rfl rfl (Jmk az.bd aB aD) ?_);intro cu cv Q aE bk;replace d:=d.sp aE;replace H:=H.spn aE;obtain⟨cw,cx,cy,cz,rfl,rfl,rfl,rfl,rfl⟩:=bk;refine Om<|Ol<|St.extract rfl rfl<|Ol<|St.extract rfl rfl<|Ol<|St.extract rfl rfl<|Ol<|St.extract rfl rfl<|Oa<|Oa<|Oa<|Oa<|Nl<|J06<|J2b (fun f v=>∃ (x y:Nat→Prop),Cx X w x y v∧f 1=(.pointer (some ⟨m,0,none⟩))∧ExprParts x v a E o p r z A F G∧Own w y v m (ec a E o p r z A F G) 31∧cntOk a) ?_ ?_
  ·refine Rg<|Ol<|J0s Ki rfl<|Ol<|J0x H pl23 rfl rfl<|Ol<|St.len sl23 rfl<|Om<|Ol<|J1h rfl rfl (fun aO=>?_)<|fun aO=>?_
   ·refine Om (Oz<|Oz<|Oz<|Oz<|Oz<|OT<|Om<|Oz<|Oz<|Oz<|Oz<|Oz<|OT<|Om<|Oz<|Oz<|Oz<|Oz<|Ox rfl rfl rfl ?_);exact OT<|Nl<|J0w rfl<|Rg<|Oa<|Nl<|J04<|Wq rfl rfl Q<|congrArg (Value.int _)<|Xb (Q7 fun c=>by have:=c.n1;have:=c.n2;have:=c.a1;have:=c.a2;omega) (by decide)
   refine Om<|OgD<|J0s Ki rfl<|OgD<|J0x H pl23 rfl rfl<|OgD<|St.len sl23 rfl<|OgD<|J00<|OgD<|J10 rfl rfl (fun aP=>?_)<|fun aP=>?_
   ·refine OF (Om<|Oz<|Oz<|Oz<|Oz<|Oz<|OT<|Om<|Oz<|Oz<|Oz<|Oz<|Oz<|OT<|Nl<|J0w rfl<|Rg<|Oa<|Nl ?_);exact J04<|Wq rfl rfl Q<|congrArg (Value.int _)<|Xb (Q7 fun c=>by have:=c.n1;have:=c.n2;have:=c.a1;have:=c.a2;omega) (by decide)
   refine OF<|Om<|OgD<|J0s Ys rfl<|OgD<|J0x H pl29 rfl rfl<|OgD<|St.len sl29 rfl<|OgD<|J00<|OgD<|J1h rfl rfl (fun aQ=>?_)<|fun aQ=>?_
   ·exact OF<|Om<|Oz<|Oz<|Oz<|Oz<|Oz<|OT<|Nl<|J0w rfl<|Rg<|Oa<|Nl<|J04<|Wq rfl rfl Q<|congrArg (Value.int _)<|Xb (Q7 fun c=>by have:=c.n1;have:=c.n2;have:=c.a1;have:=c.a2;omega) (by decide)
   refine OF<|Om<|OgD<|J0s Ys rfl<|OgD<|J0x H pl29 rfl rfl<|OgD<|St.len sl29 rfl<|OgD<|J00<|OgD<|J10 rfl rfl (fun aR=>?_)<|fun aR=>?_
   ·exact OF<|Nl<|J0w rfl<|Rg<|Oa<|Nl<|J04<|Wq rfl rfl Q<|congrArg (Value.int _)<|Xb (Q7 fun c=>by have:=c.n1;have:=c.n2;have:=c.a1;have:=c.a2;omega) (by decide)
   refine OF<|Nl<|J0v rfl<|J01<|⟨_,_,Q,rfl,d,H,⟨aB,aD,by omega,by omega,by omega,by omega⟩⟩
  rintro cE cF ⟨cG,cH,bl,aF,d,g,hcn⟩;obtain⟨cI,rfl⟩:=rebK (aC aF aN);clear aF;refine J06<|J2b (fun f v=>∃ (x y:Nat→Prop),Cx X w x y v∧f 1=(.pointer (some ⟨m,0,none⟩))∧ExprParts x v a E o p r z A F G∧Own w y v m (ec a E o p r z A F G) 31∧nameOk a) ?_ ?_
  ·refine J06<|J1q mixed 6 [[],[0],[1],[],[3],[4]] bl [fx<|.pointer (some ⟨m,0,none⟩),fx<|.int .i64 a.op,fx<|.bool (decide<|a.op=8),fx<|.pointer (some ⟨m,6,none⟩),fx<|str a.name,fx<|.bool (Kx a.name)] (by kernel_rfl) ⟨sx,sx,sx,sx,sx,sx,trivial⟩ fun bm K cJ ⟨k,aG⟩ D=>?_
   replace d:=d.sp aG;replace g:=g.spn aG;have D:Keep [54,55,56,57,58,59] _ bm:=D;refine⟨⟨fun _=>?_,fun⟨bn,_⟩=>?_,fun⟨bo,_⟩=>?_,fun _=>?_,fun⟨bp,_⟩=>?_,fun⟨bq,_⟩=>?_,trivial⟩,fun⟨br,bs,bt,bu,bv,bw,_⟩=>?_⟩
   ·exact Ja D aN fun _=>OpSt.op<|J0s Zk rfl ⟨K,RC.same k,rfl⟩
   ·exact Ja D (aC bn aN) fun _=>OpSt.op<|J0x g pl3 rfl rfl ⟨K,RC.same k,rfl⟩
   ·exact Ja D (aC bo aN) fun _=>OpSt.op<|J1y rfl rfl rfl ⟨K,RC.same k,rfl⟩
   ·exact Ja D aN fun _=>OpSt.op<|J0s xc rfl ⟨K,RC.same k,rfl⟩
   ·exact Ja D (aC bp aN) fun _=>OpSt.op<|J0x g pl9 rfl rfl ⟨K,RC.same k,rfl⟩
   ·refine Ja D (aC bq aN) fun _=>OpSt.op (J0t k cb19 rfl rfl (Jfd k.bd (by omega)) ?_);intro cK cL bx bz bA;exact⟨K,⟨bx,bz⟩,bA⟩
   obtain⟨cM,rfl⟩:=mixK D (aC br<|aC bs<|aC bt<|aC bu<|aC bv<|aC bw aN);refine Ol<|J1n<|J2m un4 rfl rfl rfl ⟨_,rfl,fun aS=>?_,fun aS=>?_⟩
   ·refine Om (Oz<|Oz<|Oz<|Oz<|OyD<|OyD<|OyD<|Oz<|OT<|Om<|Oz<|Oz<|Oz<|Oz<|OyD<|OyD<|OyD<|OyD<|Oz<|OT<|Nl ?_);exact J0w rfl<|Rg<|Oa<|Nl<|J04<|Wq rfl rfl k<|congrArg (Value.int _)<|Xb (Xz fun c=>by have c1:=c.e;have o:=c.s;have c3:=c.c;simp_all) (by decide)
   refine Om<|OgD<|J0s Zk rfl<|OgD<|J0x g pl3 rfl rfl<|OgD<|J11 rfl rfl (fun aV=>?_)<|fun aV=>?_
   ·refine OgD<|J00<|OgD<|J0s xc rfl<|OgD<|J0x g pl9 rfl rfl<|OgD<|J2x rfl rfl (fun aW=>?_)<|fun aW=>?_
    ·exact OgD<|J1f (t:=true) rfl<|OF<|Om<|Oz<|Oz<|Oz<|Oz<|OyD<|OyD<|OyD<|OyD<|Oz<|OT<|Nl<|J0w rfl<|Rg<|Oa<|Nl<|J04<|Wq rfl rfl k<|congrArg (Value.int _)<|Xb (Xz fun c=>by have c1:=c.e;have o:=c.s;have c3:=c.c;simp_all) (by decide)
    refine OgD<|J1f (t:=true) rfl<|OF<|Om<|OgD<|J0s Zk rfl<|OgD<|J0x g pl3 rfl rfl<|OgD<|J11 rfl rfl (fun aX=>?_)<|fun aX=>?_
    ·refine OgD (J00<|OgD<|J0s Qo rfl<|OgD<|J0z (vs:=[(.bool a.c.num.neg),(.slice p a.c.num.mag.length r),(.bool a.c.den.neg),(.slice z a.c.den.mag.length A)]) g ag28 rfl rfl rfl<|OgD<|J0t k cb82 rfl rfl (Jh3 k.bd (a:=a.c) (Zz d.num d.den) (by omega) (by omega)) ?_);intro cN cO aH aI bB;replace d:=d.sp aI;replace g:=g.spn aI;subst bB;refine OgD<|J11 rfl rfl (fun aY=>?_)<|fun aY=>?_
     ·exact OgD<|J1f (t:=true) rfl<|OF<|Nl<|J0w rfl<|Rg<|Oa<|Nl<|J04<|Wq rfl rfl aH<|congrArg (Value.int _)<|Xb (Xz fun c=>by have c1:=c.e;have o:=c.s;have c3:=c.c;simp_all) (by decide)
     refine OgD<|J1f (t:=true) rfl<|OF<|Nl<|J0v rfl<|J01<|⟨_,_,aH,rfl,d,g,(by refine⟨?_,?_,?_⟩ <;> simp_all)⟩
    refine OgD<|J00<|Oz<|Oz<|Oz<|Oz<|OgD<|J1f (t:=false) rfl<|OF<|Nl<|J0v rfl<|J01<|⟨_,_,k,rfl,d,g,(by refine⟨?_,?_,?_⟩ <;> simp_all)⟩
   refine OgD<|J00<|Oz<|Oz<|Oz<|OgD<|J1f (t:=false) rfl<|OF<|Om<|OgD<|J0s Zk rfl<|OgD<|J0x g pl3 rfl rfl<|OgD<|J11 rfl rfl (fun aZ=>?_)<|fun aZ=>?_
   ·refine OgD (J00<|OgD<|J0s Qo rfl<|OgD<|J0z (vs:=[(.bool a.c.num.neg),(.slice p a.c.num.mag.length r),(.bool a.c.den.neg),(.slice z a.c.den.mag.length A)]) g ag28 rfl rfl rfl<|OgD<|J0t k cb82 rfl rfl (Jh3 k.bd (a:=a.c) (Zz d.num d.den) (by omega) (by omega)) ?_);intro cP cQ aJ aK bC;replace d:=d.sp aK;replace g:=g.spn aK;subst bC;refine OgD<|J11 rfl rfl (fun ao=>?_)<|fun ao=>?_
    ·exact OgD<|J1f (t:=true) rfl<|OF<|Nl<|J0w rfl<|Rg<|Oa<|Nl<|J04<|Wq rfl rfl aJ<|congrArg (Value.int _)<|Xb (Xz fun c=>by have c1:=c.e;have o:=c.s;have c3:=c.c;simp_all) (by decide)
    refine OgD<|J1f (t:=true) rfl<|OF<|Nl<|J0v rfl<|J01<|⟨_,_,aJ,rfl,d,g,(by refine⟨?_,?_,?_⟩ <;> simp_all)⟩
   refine OgD<|J00<|Oz<|Oz<|Oz<|Oz<|OgD<|J1f (t:=false) rfl<|OF<|Nl<|J0v rfl<|J01<|⟨_,_,k,rfl,d,g,(by refine⟨?_,?_,?_⟩ <;> simp_all)⟩
  rintro bJ bK ⟨bL,bM,V,Y,d,L,hnm⟩;obtain⟨bN,rfl⟩:=rebK (aC Y aN);clear Y;refine Rg (Ol<|J0s Zk rfl<|Ol<|J0x L pl3 rfl rfl<|Ol<|J0t V cb83 rfl rfl (Jmf V.bd) ?_);intro bO bP a0 Z a4;replace d:=d.sp Z;replace L:=L.spn Z;obtain⟨bQ,bR,rfl,rfl,rfl⟩:=a4;refine Om<|Ol<|St.extract rfl rfl<|Ol<|St.extract rfl rfl<|Oa<|Oa<|Nl<|J06<|J2b (fun f v=>∃ (x y:Nat→Prop),Cx X w x y v∧f 1=(.pointer (some ⟨m,0,none⟩))∧ExprParts x v a E o p r z A F G∧Own w y v m (ec a E o p r z A F G) 31∧Qi a=0) ?_ ?_
  ·refine Rg (Oa<|Nl<|W.block<|J1g (fun μ f v=>∃ (x y:Nat→Prop) (i:Nat),Cx X w x y v∧f 1=(.pointer (some ⟨m,0,none⟩))∧f 7=(.int .i64 (lA a.op))∧f 8=(.int .i64 (lB a.op))∧f 9=(.int .i64 ((i:Nat):Int))∧ExprParts x v a E o p r z A F G∧Own w y v m (ec a E o p r z A F G) 31∧i≤a.n.length∧(∀ j,j < i→lA a.op≤a.n.getD j 0∧a.n.getD j 0≤lB a.op)∧μ=(a.n.length - i)) _ ⟨_,_,0,a0,rfl,rfl,rfl,rfl,d,L,(Nat.zero_le _),(fun _ h=>absurd h<|Nat.not_lt_zero _),rfl⟩ ?_);rintro bS bT bU ⟨bV,bW,i,M,aa,ab,ac,ad,d,I,hi,hall,bD⟩;obtain⟨bX,rfl⟩:=rebK (aC aa<|aC ab<|aC ac<|aC ad aN);clear aa ab ac ad;refine Rh<|Om<|Ol<|J0s Ki rfl<|Ol<|J0x I pl23 rfl rfl<|Ol<|St.len sl23 rfl<|Ol<|J1h rfl rfl (fun aq=>?_)<|fun aq=>?_
   ·refine Nl (J0w rfl<|J01<|J06<|W.block<|Rg<|Ol<|J0s Ki rfl<|Ol<|J0x I pl23 rfl rfl<|Om<|Ol<|J1l (j:=i) (u:=(a.n.getD i 0)) d.n sl23 io3 rfl rfl rfl (Jf (by omega)) ?_);intro bY bZ ar ae;obtain⟨rfl,bF⟩:ar=_∧_:=ae.rd;refine Ol<|J1d pl3 rfl (ae.cell 0 _ rfl)<|Om<|Ol<|J1h rfl rfl (fun au=>?_)<|fun au=>?_
    ·exact Om<|Oz<|Oz<|Oz<|Oz<|Oz<|Oz<|Oz<|OT<|Nl<|J0w rfl<|Rg<|Oa<|Nl<|J04<|Wq rfl rfl M<|congrArg (Value.int _)<|Xb (Jf6 hcn hnm (i:=i) (by omega) (by omega)) (by decide)
    refine Om (OgD<|J0s Ki rfl<|OgD<|J0x I pl23 rfl rfl<|OgD<|J00<|OgD<|J1l (j:=i) (u:=(a.n.getD i 0)) d.n sl23 io3 rfl rfl rfl (Jf (by omega)) ?_);intro b0 b1 av af;obtain⟨rfl,bG⟩:av=_∧_:=af.rd;refine OgD<|J1d pl3 rfl (af.cell 0 _ rfl)<|OgD<|J00<|OgD<|J10 rfl rfl (fun aw=>?_)<|fun aw=>?_
    ·exact OF<|Nl<|J0w rfl<|Rg<|Oa<|Nl<|J04<|Wq rfl rfl M<|congrArg (Value.int _)<|Xb (Jf6 hcn hnm (i:=i) (by omega) (by omega)) (by decide)
    refine OF<|Nl<|J0v rfl<|J01<|J0y<|Om<|Ol<|St.add rfl rfl (Jc (a:=i) (b:=1) (by omega))<|Oa<|Nl<|⟨_,(by omega),_,_,(i+1),M,rfl,rfl,rfl,rfl,d,I,(by omega),(X2 hall ⟨by omega,by omega⟩),rfl⟩
   refine Nl<|J0v rfl<|J1j<|⟨_,_,M,rfl,d,I,(Js2 hcn hnm (i:=i) (by omega) hall)⟩
  rintro b2 b3 ⟨b4,b5,a6,ag,d,a8,hz⟩;obtain⟨b6,rfl⟩:=rebK (aC ag aN);clear ag;refine Rh (Oa<|Nl<|W.block<|J1g (fun μ f v=>∃ (x y:Nat→Prop) (i:Nat),Cx X w x y v∧f 1=(.pointer (some ⟨m,0,none⟩))∧f 10=(.int .i64 ((i:Nat):Int))∧ExprParts x v a E o p r z A F G∧Own w y v m (ec a E o p r z A F G) 31∧i≤a.args.length∧errL (a.args.drop i)=errL a.args∧μ=(a.args.length - i)) _ ⟨_,_,0,a6,rfl,rfl,d,a8,(Nat.zero_le _),rfl,rfl⟩ ?_);rintro b7 b8 b9 ⟨ca,cb,i,R,ah,ai,d,J,hi,hv,bE⟩;obtain⟨cc,rfl⟩:=rebK (aC ah<|aC ai aN);clear ah ai;refine Rh<|Om<|Ol<|J0s Ys rfl<|Ol<|J0x J pl29 rfl rfl<|Ol<|St.len sl29 rfl<|Ol<|J1h rfl rfl (fun ax=>?_)<|fun ax=>?_
  ·refine Nl (J0w rfl<|J01<|J06<|W.block<|Rg<|Ol<|J0s Ys rfl<|Ol<|J0x J pl29 rfl rfl<|Om<|Ol<|J1l (j:=i) (u:=(a.args.getD i default)) d.args sl29 io31 rfl rfl rfl (Jf (by omega)) ?_);intro cd ce bH aj;obtain⟨a9,ba,bb,bc,be,bf,bg,bh,rfl,B⟩:=Jv aj.rd;refine Ol (J14 (cs:=(ec (a.args.getD i default) a9 ba bb bc be bf bg bh)) ag31 rfl rfl aj.cell<|Ol<|J0t R cb53 rfl rfl (ih R.bd (Ju (a.args.getD i default) B.lo B.hi B.name B.n B.num B.den B.args) (by have h7:=Jiv (l:=a.args) (i:=i) (by omega);omega) (Jdi hok (by omega))<|Nat.lt_of_lt_of_le (Jad (by omega))<|Nat.le_of_lt_succ hN) ?_);intro cf cg ak am bi;replace d:=d.sp am;replace J:=J.spn am;subst bi;refine Oa<|Nl<|Rg<|Om<|Ol<|J11 rfl rfl (fun P=>?_)<|fun P=>?_
   ·exact Nl<|J0w rfl<|Rg<|Om<|Oa<|Nl<|J04<|Wq rfl rfl ak<|congrArg (Value.int _)<|Ji4 hz (by omega) hv P
   refine Nl<|J0v rfl<|J01<|J0y<|Om<|Ol<|St.add rfl rfl (Jc (a:=i) (b:=1) (by omega))<|Oa<|Nl<|⟨_,(by omega),_,_,(i+1),ak,rfl,rfl,d,J,(by omega),(Jh6 (by omega) hv P),rfl⟩
  exact Nl<|J0v rfl<|J1j<|Rg<|Oa<|Nl<|J04<|Wq rfl rfl R<|congrArg (Value.int _)<|Jpi hz (by omega) hv
theorem Jtj{X:Nat→Prop}{w:World}(hX:XB X w){b:Value}{a:GExpr}(e:RV Jg X w b a)(d:cntE a≤60)(hok:okE a):CRt 53 #[b] w fun v w'=>v=(.int .i64 (errE a)):=Jmu ((SizeOf.sizeOf a)+1) hX e d hok (Nat.lt_succ_self _)
theorem Jpx{X:Nat→Prop}{w:World}(hX:XB X w){B:Value}{a:GExpr}(I:RV Jg X w B a)(hm:cntE a≤10000)(hok:okE a):CRt 21 #[B] w fun v w'=>v=(.int .i64 (K3 a)):=by
 obtain⟨h,i,j,k,l,o,p,r,rfl,b⟩:=J37 I;have C:=J07 hX;refine Cgo (args:=[(ea a h i j k l o p r)]) Tryz.func21 rfl rfl rfl (Rg<|Ol<|J1e C rfl ?_);intro K L M N J s D d;replace b:=b.sp D;refine Oa (Nl<|Rh<|Ol<|J0z (vs:=(ec a h i j k l o p r)) d ag31 rfl rfl rfl<|Ol<|J0t s cb51 rfl rfl (Jqq s.bd (Ju a b.lo b.hi b.name b.n b.num b.den b.args) (m:=60) (by omega)) ?_);intro P Q e x E;replace b:=b.sp x;replace d:=d.spn x;subst E;refine Ol<|J10 rfl rfl (fun z=>?_)<|fun z=>?_
 ·exact Om<|Oz<|Oz<|Oz<|OT<|Nl<|J0w rfl<|Rg<|Oa<|Nl<|J04<|Wq rfl rfl e<|congrArg (Value.int _)<|xa (by omega)
 refine Om (OgD<|J0z (vs:=(ec a h i j k l o p r)) d ag31 rfl rfl rfl<|OgD<|J0t e cb52 rfl rfl (x_lvl e.bd (Ju a b.lo b.hi b.name b.n b.num b.den b.args) hm) ?_);intro R S g y F;replace b:=b.sp y;replace d:=d.spn y;subst F;refine OgD<|J10 rfl rfl (fun A=>?_)<|fun A=>?_
 ·exact OF<|Nl<|J0w rfl<|Rg<|Oa<|Nl<|J04<|Wq rfl rfl g<|congrArg (Value.int _)<|xa (by omega)
 refine OF (Nl<|J0v rfl<|J01<|Rg<|Ol<|J0z (vs:=(ec a h i j k l o p r)) d ag31 rfl rfl rfl<|Ol<|J0t g cb53 rfl rfl (Jtj g.bd (Ju a b.lo b.hi b.name b.n b.num b.den b.args) (by omega) hok) ?_);intro T U G V H;subst H;exact Oa<|Nl<|J04<|Wq rfl rfl G<|congrArg (Value.int _)<|Jlh (by omega)
end Go.Wf
namespace Go.Wf
open Go Go.Proofs Go.RowKit
theorem Jba{X:Nat→Prop}{w:World}(hX:XB X w){s:List UInt8}(ad:s.length≤600∨4000 < s.length)(hrf:s.length≤1000→RdF s):CRt 10 #[(str s)] w fun v w'=>(∃ K L M,v= .tuple #[K,L,M]∧(RV Jg X w' K ((Z4 s).1))∧(L=(.int .i64 ((((Z4 s).2.1):Nat):Int)))∧(M=(.int .i64 ((Z4 s).2.2)))):=by
 have C:=J07 hX
 have:maxLen=9223372036854775807:=rfl
 refine Cgo (args:=[(str s)]) Tryz.func10 rfl rfl rfl (Rg<|Ol<|J05 C io31 rfl ?_);intro g1 w2 x3 y4 ae I s7 h;refine Oa<|Oa<|Nl<|Rh<|Om<|Ol<|J1v un9 rfl<|Ol<|J10 rfl rfl (fun e=>?_)<|fun e=>?_
 ·refine Nl (J0w rfl<|Rg<|Ol<|J09 (cs:=[(.int .i64 0),(.slice none 0 0),(.bool false),(.slice none 0 0),(.bool false),(.slice none 0 0),(str []),(.slice none 0 0)]) rfl (by kernel_rfl)<|On<|J0u (cs':=[(.int .i64 0),(.slice none 0 0),(.bool false),(.slice none 0 0),(.bool false),(.slice none 0 0),(str []),(.slice none 0 0)]) I h io31 rfl rfl rfl rfl rfl rfl ?_);intro af A ag N;refine Oa (Oa<|Nl<|J04<|xo rfl (resV.c N rfl ag31 rfl) (J35 rfl) (J35 rfl)<|J02 ?_ A.below);refine⟨_,_,_,rfl,?_,?_,?_⟩
  ·skip
   exact J36 (a:=(.mk 0 [] ⟨⟨false,[]⟩,⟨false,[]⟩⟩ [] [])) ((Zs (by omega) (by omega) (by unfold maxLen;simp) RS.nil RS.nil RS.nil RS.nil).tr (Tr.weak A.base))<|congrArg (·.1)<|vi e
  ·skip
   exact congrArg (Value.int _)<|congrArg Nat.cast<|congrArg (·.2.1)<|vi e
  ·skip
   exact congrArg (Value.int _)<|congrArg (·.2.2)<|vi e
 refine Nl (J0v rfl<|J01<|Rg<|Om<|Ol<|J0t I cb30 rfl rfl (Jt0 I.bd (by omega)) ?_);intro ah ai P Q R;replace h:=h.spn Q;obtain⟨aj,ak,am,rfl,S,rfl,rfl⟩:=R;obtain⟨i,j,k,l,m,o,p,r,rfl,b⟩:=J37 S;refine Om (Ol<|St.extract rfl rfl<|Ol<|St.extract rfl rfl<|Ol<|St.extract rfl rfl<|Ol<|J05 P io31 rfl ?_);intro an ao aq ar J T B U;have V:=J _ h.blk.lt;refine On (J0u (cs':=(ec ((rdT s).1) i j k l m o p r)) T U io31 rfl rfl rfl rfl rfl rfl ?_);intro au y D x;replace b:=(b.sp B).sp D;replace h:=(h.spn B).spo D V;refine Oa<|Oa<|Nl<|Rh<|Om<|Ol<|J11 rfl rfl (fun d=>?_)<|fun d=>?_
 ·refine Nl (J0w rfl<|Rg<|Ol<|J09 (cs:=[(.int .i64 0),(.slice none 0 0),(.bool false),(.slice none 0 0),(.bool false),(.slice none 0 0),(str []),(.slice none 0 0)]) rfl (by kernel_rfl)<|Om<|Om<|On<|J0u (cs':=[(.int .i64 0),(.slice none 0 0),(.bool false),(.slice none 0 0),(.bool false),(.slice none 0 0),(str []),(.slice none 0 0)]) y h io31 rfl rfl rfl rfl rfl rfl ?_);intro av E aw Y;refine Oa (Oa<|Nl<|J04<|xo rfl (resV.c Y rfl ag31 rfl) (J35 rfl) (J35 rfl)<|J02 ?_ E.below);refine⟨_,_,_,rfl,?_,?_,?_⟩
  ·skip
   exact J36 (a:=(.mk 0 [] ⟨⟨false,[]⟩,⟨false,[]⟩⟩ [] [])) ((Zs (by omega) (by omega) (by unfold maxLen;simp) RS.nil RS.nil RS.nil RS.nil).tr (Tr.weak E.base))<|congrArg (·.1)<|Jev (hrf (by omega)) e d
  ·skip
   exact congrArg (Value.int _)<|congrArg Nat.cast<|congrArg (·.2.1)<|Jev (hrf (by omega)) e d
  ·skip
   exact congrArg (Value.int _)<|congrArg (·.2.2)<|Jev (hrf (by omega)) e d
 refine Nl (J0v rfl<|J01<|Rh<|Ol<|J0z (vs:=(ec ((rdT s).1) i j k l m o p r)) x ag31 rfl rfl rfl<|Ol<|J0t y cb20 rfl rfl (Jjf y.bd (Ju ((rdT s).1) b.lo b.hi b.name b.n b.num b.den b.args) (Je3 (s:=s) (by omega)).1) ?_);intro ax ay F z Z;replace h:=h.spn z;replace x:=x.spn z;subst Z;refine Oa<|Nl<|Rg<|Om<|Ol<|J11 rfl rfl (fun g=>?_)<|fun g=>?_
 ·refine Nl (J0w rfl<|Rg<|Ol<|J09 (cs:=[(.int .i64 0),(.slice none 0 0),(.bool false),(.slice none 0 0),(.bool false),(.slice none 0 0),(str []),(.slice none 0 0)]) rfl (by kernel_rfl)<|Om<|On<|J0u (cs':=[(.int .i64 0),(.slice none 0 0),(.bool false),(.slice none 0 0),(.bool false),(.slice none 0 0),(str []),(.slice none 0 0)]) F h io31 rfl rfl rfl rfl rfl rfl ?_);intro az G aA aa;refine Oa (Oa<|Nl<|J04<|xo rfl (resV.c aa rfl ag31 rfl) (J35 rfl) (J35 rfl)<|J02 ?_ G.below);refine⟨_,_,_,rfl,?_,?_,?_⟩
  ·skip
   exact J36 (a:=(.mk 0 [] ⟨⟨false,[]⟩,⟨false,[]⟩⟩ [] [])) ((Zs (by omega) (by omega) (by unfold maxLen;simp) RS.nil RS.nil RS.nil RS.nil).tr (Tr.weak G.base))<|congrArg (·.1)<|Jfi (hrf (by omega)) e d g
  ·skip
   exact congrArg (Value.int _)<|congrArg Nat.cast<|congrArg (·.2.1)<|Jfi (hrf (by omega)) e d g
  ·skip
   exact congrArg (Value.int _)<|congrArg (·.2.2)<|Jfi (hrf (by omega)) e d g
 refine Nl (J0v rfl<|J01<|Rg<|Ol<|J0z (vs:=(ec ((rdT s).1) i j k l m o p r)) x ag31 rfl rfl rfl<|On<|J0u (cs':=(ec ((rdT s).1) i j k l m o p r)) F h io31 rfl rfl rfl rfl rfl rfl ?_);intro aB H ab ac;replace b:=(b.sp z).sp ab;refine Oa (Oa<|Nl<|J04<|xo rfl (resV.c ac rfl ag31 rfl) (J35 rfl) (J35 rfl)<|J02 ?_ H.below);refine⟨_,_,_,rfl,?_,?_,?_⟩
 ·skip
  exact J36 (a:=((rdT s).1)) ((Ju ((rdT s).1) b.lo b.hi b.name b.n b.num b.den b.args).tr (Tr.weak H.base))<|congrArg (·.1)<|Jma (hrf (by omega)) e d g
 ·skip
  exact congrArg (Value.int _)<|congrArg Nat.cast<|congrArg (·.2.1)<|Jma (hrf (by omega)) e d g
 ·skip
  exact congrArg (Value.int _)<|congrArg (·.2.2)<|Jma (hrf (by omega)) e d g
theorem Jhu{X:Nat→Prop}{w:World}(hX:XB X w){s:List UInt8}(bZ:s.length≤600∨4000 < s.length):CRt 11 #[(str s)] w fun v w'=>(∃ v0 v1 v2,v= .tuple #[v0,v1,v2]∧(RV Jg X w' v0 ((Z4 s).1))∧(v1=(.int .i64 ((((Z4 s).2.1):Nat):Int)))∧(v2=(.int .i64 ((Z4 s).2.2)))):=by
 have C:=J07 hX
 have:maxLen=9223372036854775807:=rfl
 refine Cgo (args:=[(str s)]) Tryz.func11 rfl rfl rfl (Rg<|Ol<|J05 C io31 rfl ?_);intro S w2 x3 y4 b0 C6 s7 z;refine Oa<|Oa<|Nl<|Rh<|Om<|Ol<|J1v un9 rfl<|Ol<|J10 rfl rfl (fun j=>?_)<|fun j=>?_
 ·refine Nl (J0w rfl<|Rg<|Ol<|J09 (cs:=[(.int .i64 0),(.slice none 0 0),(.bool false),(.slice none 0 0),(.bool false),(.slice none 0 0),(str []),(.slice none 0 0)]) rfl (by kernel_rfl)<|On<|J0u (cs':=[(.int .i64 0),(.slice none 0 0),(.bool false),(.slice none 0 0),(.bool false),(.slice none 0 0),(str []),(.slice none 0 0)]) C6 z io31 rfl rfl rfl rfl rfl rfl ?_);intro b1 aA b2 bn;refine Oa (Oa<|Nl<|J04<|xo rfl (resV.c bn rfl ag31 rfl) (J35 rfl) (J35 rfl)<|J02 ?_ aA.below);refine⟨_,_,_,rfl,?_,?_,?_⟩
  ·skip
   exact J36 (a:=(.mk 0 [] ⟨⟨false,[]⟩,⟨false,[]⟩⟩ [] [])) ((Zs (by omega) (by omega) (by unfold maxLen;simp) RS.nil RS.nil RS.nil RS.nil).tr (Tr.weak aA.base))<|congrArg (·.1)<|vi j
  ·skip
   exact congrArg (Value.int _)<|congrArg Nat.cast<|congrArg (·.2.1)<|vi j
  ·skip
   exact congrArg (Value.int _)<|congrArg (·.2.2)<|vi j
 refine Nl (J0v rfl<|J01<|Rg<|Om<|Ol<|J09 (cs:=[(str s),(.int .i64 0),(.int .i64 0),(.int .i64 0)]) rfl (by kernel_rfl)<|Ol<|J1e C6 rfl ?_);intro E b3 b4 b5 aJ ag bo ah;have U:=aJ _ z.blk.lt;refine Oa (Nl<|J06 ?_);have aB:s.length≤1000:=by omega
 have hs:s.length≤65536:=by omega
 refine J0y (Om<|Ol<|J08 ag ah cb31 rfl rfl (Jm0 ag.bd (s:=s) (t:=(.ok () 0)) (o:=0) ah.blk (ag.yx _ ah.mem) (Nat.zero_le _) hs aB (by decide) (fun o p h=>V9 _ _ _ h) (fun _=>Jik aB s.length 0 1 (by omega) (by omega)) (Nat.le_refl 1)<|Jde<|Nat.zero_le _) ?_);intro b6 b7 bp bq H br;replace z:=(z.spn bo).spo bq U;obtain⟨A,bs,R,D⟩:=br;obtain⟨I,J,K,L,M,N,P,Q,rfl,b⟩:=J37 bs;refine Ol (J05 bp io31 rfl ?_);intro aD b8 b9 ca ai bt aj bu;have bv:=ai _ z.blk.lt;have ad:=ai _ H.blk.lt;replace z:=z.spn aj;refine On (J0u (cs':=(ec A I J K L M N P Q)) bt bu io31 rfl rfl rfl rfl rfl rfl ?_);intro cb ak am B;replace b:=(b.sp aj).sp am;replace H:=(H.spn aj).spo am ad;refine Nl<|J06<|J2b (fun f v=>∃ (x y:Nat→Prop) (T:Rr Unit),Cx X w x y v∧f 2=(.pointer (some ⟨S,0,none⟩))∧f 3=(.int .i64 0)∧f 4=(.int .i64 0)∧f 5=(.pointer (some ⟨E,0,none⟩))∧f 6=(.pointer (some ⟨aD,0,none⟩))∧ExprParts x v A I J K L M N P Q∧Own w y v S [(.int .i64 0),(.slice none 0 0),(.bool false),(.slice none 0 0),(.bool false),(.slice none 0 0),(str []),(.slice none 0 0)] 31∧Own w y v E [(str s),(.int .i64 ((plR T:Nat):Int)),(.int .i64 (ecR T)),(.int .i64 ((0:Nat):Int))] 62∧Own w y v aD (ec A I J K L M N P Q) 31∧PQ s T A) ?_ ?_
 ·refine Rg (Om<|Ol<|J08 ak H cb32 rfl rfl (Xj ak.bd (s:=s) (t:=Rr.go (.ok () 0)<|sumF s (sumM s s.length) 0) (o:=0) H.blk (ak.yx _ H.mem) (Z5 D) hs) ?_);intro cc cd F an l bw;replace b:=b.sp an;replace z:=(z.spo am bv).spo an U;replace B:=B.spo an (Ne.symm ad);subst bw;refine Ol<|J11 rfl rfl (fun Z=>?_)<|fun Z=>?_
  ·refine Om (Oz<|Oz<|Oz<|Oz<|Oz<|Oz<|OyD<|OyD<|OyD<|OyD<|OyD<|OyD<|OyD<|Oz<|OT<|Nl<|J0w rfl<|J0y<|Om<|Om<|Ol<|J03 rfl<|Ol<|J0s Zd rfl ?_);refine Ol (J0x l pl3 rfl rfl<|Ol<|J08 F l cb33 rfl rfl (xu F.bd (s:=s) (t:=blR s<|Rr.go (.ok () 0)<|sumF s (sumM s s.length) 0) (o:=0) l.blk (F.yx _ l.mem) (q:=plR<|blR s<|Rr.go (.ok () 0)<|sumF s (sumM s s.length) 0) (Jn<|Z5 D) hs) ?_);intro ce cf bx ao bz cg;replace b:=b.sp ao;replace z:=z.spo ao U;replace B:=B.spo ao (Ne.symm ad);refine Nl<|⟨_,_,(flR (blR s<|Rr.go (.ok () 0)<|sumF s (sumM s s.length) 0) (plR<|blR s<|Rr.go (.ok () 0)<|sumF s (sumM s s.length) 0) 19),bx,rfl,rfl,rfl,rfl,rfl,b,z,bz,B,(Jhy R D<|.inl Z)⟩
  refine Om<|OgD<|J00<|OgD<|J03 rfl<|OgD<|J0s Kz rfl<|OgD<|J0x l pl3 rfl rfl<|OgD<|J1a rfl rfl (fun aa=>?_)<|fun aa=>?_
  ·refine OgD<|J00<|OgD<|J00<|OgD<|J03 rfl<|OgD<|J0s Zd rfl<|OgD<|J0x l pl3 rfl rfl<|OgD<|J00<|OgD<|J1v un9 rfl<|OgD<|J1h rfl rfl (fun ab=>?_)<|fun ab=>?_
   ·refine OgD (J1f (t:=true) rfl<|OF<|Nl<|J0w rfl<|J0y<|Om<|Om<|Ol<|J03 rfl<|Ol<|J0s Zd rfl<|Ol<|J0x l pl3 rfl rfl<|Ol<|J08 F l cb33 rfl rfl (xu F.bd (s:=s) (t:=blR s<|Rr.go (.ok () 0)<|sumF s (sumM s s.length) 0) (o:=0) l.blk (F.yx _ l.mem) (q:=plR<|blR s<|Rr.go (.ok () 0)<|sumF s (sumM s s.length) 0) (Jn<|Z5 D) hs) ?_);intro ch ci bA aq bB cj;replace b:=b.sp aq;replace z:=z.spo aq U;replace B:=B.spo aq (Ne.symm ad);refine Nl<|⟨_,_,(flR (blR s<|Rr.go (.ok () 0)<|sumF s (sumM s s.length) 0) (plR<|blR s<|Rr.go (.ok () 0)<|sumF s (sumM s s.length) 0) 19),bA,rfl,rfl,rfl,rfl,rfl,b,z,bB,B,(Jhy R D<|.inr ⟨Z,aa,ab⟩)⟩
   refine OgD<|J1f (t:=true) rfl<|OF<|Nl<|J0v rfl<|J01<|⟨_,_,(blR s<|Rr.go (.ok () 0)<|sumF s (sumM s s.length) 0),F,rfl,rfl,rfl,rfl,rfl,b,z,l,B,(Jpb R D<|.inl ab)⟩
  refine OgD<|J00<|Oz<|Oz<|Oz<|Oz<|Oz<|Oz<|Oz<|OgD<|J1f (t:=false) rfl<|OF<|Nl<|J0v rfl<|J01<|⟨_,_,(blR s<|Rr.go (.ok () 0)<|sumF s (sumM s s.length) 0),F,rfl,rfl,rfl,rfl,rfl,b,z,l,B,(Jpb R D<|.inr aa)⟩
 rintro ck cl ⟨bC,bD,T,ar,aE,aF,aG,aH,aI,b,V,Y,ae,hT⟩;obtain⟨cm,rfl⟩:=rebK (aC aE<|aC aF<|aC aG<|aC aH<|aC aI aN);clear aE aF aG aH aI;refine Rh<|Om<|Ol<|J03 rfl<|Ol<|J0s Kz rfl<|Ol<|J0x Y pl3 rfl rfl<|Ol<|J11 rfl rfl (fun e=>?_)<|fun e=>?_
 ·refine Nl (J0w rfl<|J06 ?_);have aK:=V;have g:∀ (s:Gh) (u:World) (s2:Gh) (u2:World),Sp s.1 s.2 u s2.1 s2.2 u2 Zu→(fun(s:Gh) (w':World)=>∃ (a1':Option Addr) (c1':Nat) (a3':Option Addr) (c3':Nat) (a5':Option Addr) (c5':Nat) (a7':Option Addr) (c7':Nat),Own w s.2 w' S [(.int .i64 0),(.slice a1' 0 c1'),(.bool false),(.slice a3' 0 c3'),(.bool false),(.slice a5' 0 c5'),(str []),(.slice a7' 0 c7')] 31∧RS Ye s.1 w' (.slice a1' 0 c1') []∧RS Jd s.1 w' (.slice a3' 0 c3') []∧RS Jd s.1 w' (.slice a5' 0 c5') []∧RS Jg s.1 w' (.slice a7' 0 c7') []) s u→(fun(s:Gh) (w':World)=>∃ (a1':Option Addr) (c1':Nat) (a3':Option Addr) (c3':Nat) (a5':Option Addr) (c5':Nat) (a7':Option Addr) (c7':Nat),Own w s.2 w' S [(.int .i64 0),(.slice a1' 0 c1'),(.bool false),(.slice a3' 0 c3'),(.bool false),(.slice a5' 0 c5'),(str []),(.slice a7' 0 c7')] 31∧RS Ye s.1 w' (.slice a1' 0 c1') []∧RS Jd s.1 w' (.slice a3' 0 c3') []∧RS Jd s.1 w' (.slice a5' 0 c5') []∧RS Jg s.1 w' (.slice a7' 0 c7') []) s2 u2:=fun _ _ _ _ p ⟨a1',c1',a3',c3',a5',c5',a7',c7',o,r0,r1,r2,r3⟩=>⟨a1',c1',a3',c3',a5',c5',a7',c7',o.spn p,r0.sp p,r1.sp p,r2.sp p,r3.sp p⟩;refine J29 mixed 11 9 [[],[],[1],[2],[3],[],[5],[6],[7],[0],[4]] (bC,bD) (RW X w S (fun(s:Gh) (w':World)=>∃ (a1':Option Addr) (c1':Nat) (a3':Option Addr) (c3':Nat) (a5':Option Addr) (c5':Nat) (a7':Option Addr) (c7':Nat),Own w s.2 w' S [(.int .i64 0),(.slice a1' 0 c1'),(.bool false),(.slice a3' 0 c3'),(.bool false),(.slice a5' 0 c5'),(str []),(.slice a7' 0 c7')] 31∧RS Ye s.1 w' (.slice a1' 0 c1') []∧RS Jd s.1 w' (.slice a3' 0 c3') []∧RS Jd s.1 w' (.slice a5' 0 c5') []∧RS Jg s.1 w' (.slice a7' 0 c7') [])) [fx<|.agg #[(.int .i64 0),(.slice none 0 0),(.bool false),(.slice none 0 0),(.bool false),(.slice none 0 0),(str []),(.slice none 0 0)],fx<|.pointer (some ⟨E,0,none⟩),fx<|.pointer (some ⟨E,0,none⟩),fx<|.pointer (some ⟨E,1,none⟩),fx<|.int .i64 ((plR T:Nat):Int),fx<|.pointer (some ⟨E,0,none⟩),fx<|.pointer (some ⟨E,0,none⟩),fx<|.pointer (some ⟨E,2,none⟩),fx<|.int .i64 (ecR T),fun(s:Gh) (_:Value) (w':World)=>∃ (a1':Option Addr) (c1':Nat) (a3':Option Addr) (c3':Nat) (a5':Option Addr) (c5':Nat) (a7':Option Addr) (c7':Nat),Own w s.2 w' S [(.int .i64 0),(.slice a1' 0 c1'),(.bool false),(.slice a3' 0 c3'),(.bool false),(.slice a5' 0 c5'),(str []),(.slice a7' 0 c7')] 31∧RS Ye s.1 w' (.slice a1' 0 c1') []∧RS Jd s.1 w' (.slice a3' 0 c3') []∧RS Jd s.1 w' (.slice a5' 0 c5') []∧RS Jg s.1 w' (.slice a7' 0 c7') [],fx<|.int .i64 ((plR T:Nat):Int)] (by kernel_rfl) (RW.step g<|J2l ar) RW.trans ⟨sx,sx,sx,sx,sx,sx,sx,sx,sx,(fun _ _ _ _ _ h r=>r.tn h),sx,trivial⟩ (fun _ _ _ _ h=>h) fun bF m cn au i=>?_
  have d:=au.cx;have aM:=au.sp;replace Y:=Y.spo aM (Ne.symm U);have i:Keep [47,48,49,50,51,52,53,54,55,3] _ bF:=i;refine⟨⟨fun _=>?_,fun _=>?_,fun⟨aO,_⟩=>?_,fun⟨aP,_⟩=>?_,fun⟨aQ,_⟩=>?_,fun _=>?_,fun⟨aR,_⟩=>?_,fun⟨aS,_⟩=>?_,fun⟨aT,_⟩=>?_,fun⟨aU,_⟩=>?_,fun⟨aV,_⟩=>?_,trivial⟩,fun⟨aW,aX,aY,aZ,a0,a1,a2,a3,a4,a5,a6,_⟩=>?_⟩
  ·exact Ja i aN fun _=>OpSt.op<|J09 (cs:=[(.int .i64 0),(.slice none 0 0),(.bool false),(.slice none 0 0),(.bool false),(.slice none 0 0),(str []),(.slice none 0 0)]) rfl (by kernel_rfl) ⟨m,RW.step g<|RC.same d,rfl⟩
  ·exact Ja i aN fun _=>OpSt.op<|J00 ⟨m,RW.step g<|RC.same d,rfl⟩
  ·exact Ja i (aC aO aN) fun _=>OpSt.op<|J03 rfl ⟨m,RW.step g<|RC.same d,rfl⟩
  ·exact Ja i (aC aP aN) fun _=>OpSt.op<|J0s Zd rfl ⟨m,RW.step g<|RC.same d,rfl⟩
  ·exact Ja i (aC aQ aN) fun _=>OpSt.op<|J0x Y pl3 rfl rfl ⟨m,RW.step g<|RC.same d,rfl⟩
  ·exact Ja i aN fun _=>OpSt.op<|J00 ⟨m,RW.step g<|RC.same d,rfl⟩
  ·exact Ja i (aC aR aN) fun _=>OpSt.op<|J03 rfl ⟨m,RW.step g<|RC.same d,rfl⟩
  ·exact Ja i (aC aS aN) fun _=>OpSt.op<|J0s Kz rfl ⟨m,RW.step g<|RC.same d,rfl⟩
  ·exact Ja i (aC aT aN) fun _=>OpSt.op<|J0x Y pl3 rfl rfl ⟨m,RW.step g<|RC.same d,rfl⟩
  ·obtain⟨bG,af,av⟩:=au.ow _ _ aK;refine Ja i (aC aU aN) fun _=>OpSt.op (J2u (vs:=[(.int .i64 0),(.slice none 0 0),(.bool false),(.slice none 0 0),(.bool false),(.slice none 0 0),(str []),(.slice none 0 0)]) d av io31 rfl rfl rfl (by rw [af] <;> rfl) rfl ?_);intro a7 a8 G aw;have hq:(fun(s:Gh) (w':World)=>∃ (a1':Option Addr) (c1':Nat) (a3':Option Addr) (c3':Nat) (a5':Option Addr) (c5':Nat) (a7':Option Addr) (c7':Nat),Own w s.2 w' S [(.int .i64 0),(.slice a1' 0 c1'),(.bool false),(.slice a3' 0 c3'),(.bool false),(.slice a5' 0 c5'),(str []),(.slice a7' 0 c7')] 31∧RS Ye s.1 w' (.slice a1' 0 c1') []∧RS Jd s.1 w' (.slice a3' 0 c3') []∧RS Jd s.1 w' (.slice a5' 0 c5') []∧RS Jg s.1 w' (.slice a7' 0 c7') []) m a7:=⟨none,0,none,0,none,0,none,0,aw,RS.nil.sp G,RS.nil.sp G,RS.nil.sp G,RS.nil.sp G⟩;exact⟨m,RW.turn a8 G av aw (by rw [af] <;> rfl) hq,hq⟩
  ·exact Ja i (aC aV aN) fun _=>OpSt.op<|J2h ⟨m,RW.step g<|RC.same d,rfl⟩
  obtain⟨bL,bM,bN,bO,bP,bQ,bR,bS,a9,ba,bb,bc,be⟩:=a5;obtain⟨bT,rfl⟩:=mixK i (aC aW<|aC aX<|aC aY<|aC aZ<|aC a0<|aC a1<|aC a2<|aC a3<|aC a4<|aC a6 aN);refine Oa (Nl<|J04<|xo rfl (resV.c a9 rfl ag31 rfl) (J35 rfl) (J35 rfl)<|J02 ?_ d.below);refine⟨_,_,_,rfl,?_,?_,?_⟩
  ·skip
   exact J36 (a:=(.mk 0 [] ⟨⟨false,[]⟩,⟨false,[]⟩⟩ [] [])) ((Zs (by omega) (by omega) (by unfold maxLen;simp) ba bb bc be).tr (Tr.weak d.base))<|congrArg (·.1)<|Jh5 hT j e
  ·skip
   exact congrArg (Value.int _)<|congrArg Nat.cast<|congrArg (·.2.1)<|Jh5 hT j e
  ·skip
   exact congrArg (Value.int _)<|congrArg (·.2.2)<|Jh5 hT j e
 refine Nl (J0v rfl<|J01<|Rh<|Ol<|J0z (vs:=(ec A I J K L M N P Q)) ae ag31 rfl rfl rfl<|Ol<|J0t ar cb21 rfl rfl (Jpx ar.bd (Ju A b.lo b.hi b.name b.n b.num b.den b.args) (Jgt hT (by omega) e).2 (Jgt hT (by omega) e).1) ?_);intro bU bV ax ac bf;replace V:=V.spn ac;replace ae:=ae.spn ac;subst bf;refine Oa<|Nl<|Rg<|Om<|Ol<|J11 rfl rfl (fun k=>?_)<|fun k=>?_
 ·refine Nl (J0w rfl<|Rg<|Ol<|J09 (cs:=[(.int .i64 0),(.slice none 0 0),(.bool false),(.slice none 0 0),(.bool false),(.slice none 0 0),(str []),(.slice none 0 0)]) rfl (by kernel_rfl)<|Om<|On<|J0u (cs':=[(.int .i64 0),(.slice none 0 0),(.bool false),(.slice none 0 0),(.bool false),(.slice none 0 0),(str []),(.slice none 0 0)]) ax V io31 rfl rfl rfl rfl rfl rfl ?_);intro bW ay bX bg;refine Oa (Oa<|Nl<|J04<|xo rfl (resV.c bg rfl ag31 rfl) (J35 rfl) (J35 rfl)<|J02 ?_ ay.below);refine⟨_,_,_,rfl,?_,?_,?_⟩
  ·skip
   exact J36 (a:=(.mk 0 [] ⟨⟨false,[]⟩,⟨false,[]⟩⟩ [] [])) ((Zs (by omega) (by omega) (by unfold maxLen;simp) RS.nil RS.nil RS.nil RS.nil).tr (Tr.weak ay.base))<|congrArg (·.1)<|Jky hT j e k
  ·skip
   exact congrArg (Value.int _)<|congrArg Nat.cast<|congrArg (·.2.1)<|Jky hT j e k
  ·skip
   exact congrArg (Value.int _)<|congrArg (·.2.2)<|Jky hT j e k
 refine Nl (J0v rfl<|J01<|Rg<|Ol<|J0z (vs:=(ec A I J K L M N P Q)) ae ag31 rfl rfl rfl<|On<|J0u (cs':=(ec A I J K L M N P Q)) ax V io31 rfl rfl rfl rfl rfl rfl ?_);intro bY az bh bi;replace b:=(b.sp ac).sp bh;refine Oa (Oa<|Nl<|J04<|xo rfl (resV.c bi rfl ag31 rfl) (J35 rfl) (J35 rfl)<|J02 ?_ az.below);refine⟨_,_,_,rfl,?_,?_,?_⟩
 ·skip
  exact J36 (a:=A) ((Ju A b.lo b.hi b.name b.n b.num b.den b.args).tr (Tr.weak az.base))<|congrArg (·.1)<|Jqz hT j e k
 ·skip
  exact congrArg (Value.int _)<|congrArg Nat.cast<|congrArg (·.2.1)<|Jqz hT j e k
 ·skip
  exact congrArg (Value.int _)<|congrArg (·.2.2)<|Jqz hT j e k
end Go.Wf
namespace Go.Wf
open Go Go.Proofs Go.RowKit
theorem Jvy{X:Nat→Prop}{w:World}(hX:XB X w){N:Value}{a:List Int}(h:RS Ye X w N a){P:Value}{b:List Int}(k:RS Ye X w P b)(hab:a=b):CRt 34 #[N,P] w fun v w'=>v=(.bool true):=by
 obtain⟨l,m,rfl,_,_⟩:=h.len;obtain⟨o,p,rfl,_,_⟩:=k.len;have C:=J07 hX;have hlen:a.length=b.length:=by rw [hab]
 have hml:=Jn4 h;refine Cgo (args:=[(.slice l a.length m),(.slice o b.length p)]) Tryz.func34 rfl rfl rfl (Rg<|Oa<|Nl<|Rh<|Om<|Ol<|St.len sl23 rfl<|Om<|Ol<|St.len sl23 rfl<|Ol<|J17 (t:=false) rfl rfl (by rw [decide_eq_true (by omega)];rfl)<|Nl<|J0v rfl ?_);refine J01 (Rh<|Oa<|Nl<|W.block<|J1g (fun μ f v=>∃ (x y:Nat→Prop) (i:Nat),Cx X w x y v∧f 0=(.slice l a.length m)∧f 1=(.slice o b.length p)∧f 5=(.int .i64 ((i:Nat):Int))∧RS Ye x v (.slice l a.length m) a∧RS Ye x v (.slice o b.length p) b∧i≤a.length∧μ=(a.length - i)) _ ⟨_,_,0,C,rfl,rfl,rfl,h,k,(Nat.zero_le _),rfl⟩ ?_);rintro az f5 w6 ⟨x7,y8,i,Q,r,s,z,h,k,hi,aq⟩;obtain⟨aA,rfl⟩:=rebK (aC r<|aC s<|aC z aN);clear r s z;refine Rh<|Om<|Om<|Ol<|St.len sl23 rfl<|Ol<|J1h rfl rfl (fun G=>?_)<|fun G=>?_
 ·refine Nl<|J0w rfl<|J01<|J06<|W.block<|J06<|J1q mixed 8 [[],[],[0,1],[2],[],[],[4,5],[6]] Q [fx<|.slice l a.length m,fx<|.int .i64 ((i:Nat):Int),fE Ye<|a.getD i 0,fx<|.int .i64 (a.getD i 0),fx<|.slice o b.length p,fx<|.int .i64 ((i:Nat):Int),fE Ye<|b.getD i 0,fx<|.int .i64 (b.getD i 0)] (by kernel_rfl) ⟨sx,sx,sE,sx,sx,sx,sE,sx,trivial⟩ fun R g aB ⟨e,A⟩ d=>?_
  replace h:=h.sp A;replace k:=k.sp A;have d:Keep [17,18,19,20,21,22,23,24] _ R:=d;refine⟨⟨fun _=>?_,fun _=>?_,fun⟨S,T,_⟩=>?_,fun⟨U,_⟩=>?_,fun _=>?_,fun _=>?_,fun⟨V,Y,_⟩=>?_,fun⟨Z,_⟩=>?_,trivial⟩,fun⟨aa,ab,ac,ad,ae,af,ag,ah,_⟩=>?_⟩
  ·exact Ja d aN fun _=>OpSt.op<|J00 ⟨g,RC.same e,rfl⟩
  ·exact Ja d aN fun _=>OpSt.op<|J00 ⟨g,RC.same e,rfl⟩
  ·refine Ja d (aC S<|aC T aN) fun _=>OpSt.op (J1l (j:=i) (u:=(a.getD i 0)) h sl23 io3 rfl rfl rfl (Jf (by omega)) ?_);intro aD aE H B;obtain⟨rfl,ar⟩:H=_∧_:=B.rd;exact⟨g,RC.same e,⟨_,_,_,rfl,B⟩⟩
  ·obtain⟨aF,aG,I,ai,D⟩:=U;obtain⟨rfl,au⟩:I=_∧_:=D.rd;exact Ja d (aC ai aN) fun _=>OpSt.op<|J1d pl3 rfl (D.cell 0 _ rfl) ⟨g,RC.same e,rfl⟩
  ·exact Ja d aN fun _=>OpSt.op<|J00 ⟨g,RC.same e,rfl⟩
  ·exact Ja d aN fun _=>OpSt.op<|J00 ⟨g,RC.same e,rfl⟩
  ·refine Ja d (aC V<|aC Y aN) fun _=>OpSt.op (J1l (j:=i) (u:=(b.getD i 0)) k sl23 io3 rfl rfl rfl (Jf (by omega)) ?_);intro aH aI J E;obtain⟨rfl,av⟩:J=_∧_:=E.rd;exact⟨g,RC.same e,⟨_,_,_,rfl,E⟩⟩
  ·obtain⟨aJ,aK,K,aj,F⟩:=Z;obtain⟨rfl,aw⟩:K=_∧_:=F.rd;exact Ja d (aC aj aN) fun _=>OpSt.op<|J1d pl3 rfl (F.cell 0 _ rfl) ⟨g,RC.same e,rfl⟩
  obtain⟨aL,aM,L,ak,am⟩:=ac;obtain⟨rfl,ax⟩:L=_∧_:=am.rd;obtain⟨aO,aP,M,an,ao⟩:=ag;obtain⟨rfl,ay⟩:M=_∧_:=ao.rd;obtain⟨aQ,rfl⟩:=mixK d (aC aa<|aC ab<|aC ak<|aC ad<|aC ae<|aC af<|aC an<|aC ah aN);refine Ol<|J17 (t:=false) rfl rfl (by rw [decide_eq_true (by rw [hab])];rfl)<|Nl<|J0v rfl<|J01<|J0y<|Om<|Ol<|St.add rfl rfl (Jc (a:=i) (b:=1) (by omega))<|Oa<|Nl<|⟨_,(by omega),_,_,(i+1),e,rfl,rfl,rfl,h,k,(by omega),rfl⟩
 refine Nl<|J0v rfl<|J1j<|Rg<|Oa<|Nl<|J04<|Jo rfl (J35 rfl)<|J02 ?_ Q.below
 rfl
theorem Jke{X:Nat→Prop}{w:World}(hX:XB X w){v0:Value}{a:GInt}(r0:RV J1 X w v0 a){v1:Value}{b:GInt}(r1:RV J1 X w v1 b)(hab:a=b):CRt 72 #[v0,v1] w fun v w'=>v=(.bool true):=by
 obtain⟨A,B,rfl,h⟩:=RV.int r0;obtain⟨D,E,rfl,k⟩:=RV.int r1;have C:=J07 hX;have hlen:a.mag.length=b.mag.length:=by rw [hab]
 have hml:=Jv0 r0;refine Cgo (args:=[(.agg #[(.bool a.neg),(.slice A a.mag.length B)]),(.agg #[(.bool b.neg),(.slice D b.mag.length E)])]) Tryz.func72 rfl rfl rfl (Rg<|Ol<|J1e C rfl ?_);intro R w8 x9 aY aM af H l;refine Ol (J1e af rfl ?_);intro r aZ a0 a2 aO ag s z;replace h:=(h.sp H).sp s;replace k:=(k.sp H).sp s;replace l:=l.spn s;refine Oa (Nl<|Rh<|Ol<|J0s Zq rfl<|Ol<|J0x l pl4 rfl rfl<|Ol<|J0s Zq rfl<|Ol<|J0x z pl4 rfl rfl<|Ol<|J2m (u:=false) un4 rfl rfl (by rw [hab];exact bne_self_eq_false _)<|Om<|OgD<|J0s J4 rfl<|OgD<|J0x l pl24 rfl rfl ?_);refine OgD (St.len sl24 rfl<|OgD<|J0s J4 rfl<|OgD<|J0x z pl24 rfl rfl<|OgD<|St.len sl24 rfl<|OgD<|J17 (t:=false) rfl rfl (by rw [decide_eq_true (by omega)];rfl)<|OF<|Nl<|J0v rfl<|J01<|Rh<|Oa<|Nl<|W.block<|J1g (fun μ f v=>∃ (x y:Nat→Prop) (i:Nat),Cx X w x y v∧f 2=(.pointer (some ⟨R,0,none⟩))∧f 3=(.pointer (some ⟨r,0,none⟩))∧f 5=(.int .i64 ((i:Nat):Int))∧RS Jd x v (.slice A a.mag.length B) a.mag∧RS Jd x v (.slice D b.mag.length E) b.mag∧Own w y v R [(.bool a.neg),(.slice A a.mag.length B)] 26∧Own w y v r [(.bool b.neg),(.slice D b.mag.length E)] 26∧i≤a.mag.length∧μ=(a.mag.length - i)) _ ⟨_,_,0,ag,rfl,rfl,rfl,h,k,l,z,(Nat.zero_le _),rfl⟩ ?_);rintro a3 a5 a6 ⟨a7,a8,i,I,J,K,L,h,k,m,o,hi,aI⟩;obtain⟨a9,rfl⟩:=rebK (aC J<|aC K<|aC L aN);clear J K L;refine Rh<|Om<|Ol<|J0s J4 rfl<|Ol<|J0x m pl24 rfl rfl<|Ol<|St.len sl24 rfl<|Ol<|J1h rfl rfl (fun S=>?_)<|fun S=>?_
 ·refine Nl<|J0w rfl<|J01<|J06<|W.block<|J06<|J1q mixed 10 [[],[0],[],[1,2],[3],[],[5],[],[6,7],[8]] I [fx<|.pointer (some ⟨R,1,none⟩),fx<|.slice A a.mag.length B,fx<|.int .i64 ((i:Nat):Int),fE Jd<|a.mag.getD i 0,fx<|.int .u32 (((a.mag.getD i 0):Nat):Int),fx<|.pointer (some ⟨r,1,none⟩),fx<|.slice D b.mag.length E,fx<|.int .i64 ((i:Nat):Int),fE Jd<|b.mag.getD i 0,fx<|.int .u32 (((b.mag.getD i 0):Nat):Int)] (by kernel_rfl) ⟨sx,sx,sx,sE,sx,sx,sx,sx,sE,sx,trivial⟩ fun ah g ba ⟨e,p⟩ d=>?_
  replace h:=h.sp p;replace k:=k.sp p;replace m:=m.spn p;replace o:=o.spn p;have d:Keep [27,28,29,30,31,32,33,34,35,36] _ ah:=d;refine⟨⟨fun _=>?_,fun⟨ai,_⟩=>?_,fun _=>?_,fun⟨aj,ak,_⟩=>?_,fun⟨am,_⟩=>?_,fun _=>?_,fun⟨an,_⟩=>?_,fun _=>?_,fun⟨ao,aq,_⟩=>?_,fun⟨ar,_⟩=>?_,trivial⟩,fun⟨au,av,aw,ax,ay,az,aA,aB,aD,aE,_⟩=>?_⟩
  ·exact Ja d aN fun _=>OpSt.op<|J0s J4 rfl ⟨g,RC.same e,rfl⟩
  ·exact Ja d (aC ai aN) fun _=>OpSt.op<|J0x m pl24 rfl rfl ⟨g,RC.same e,rfl⟩
  ·exact Ja d aN fun _=>OpSt.op<|J00 ⟨g,RC.same e,rfl⟩
  ·refine Ja d (aC aj<|aC ak aN) fun _=>OpSt.op (J1l (j:=i) (u:=(a.mag.getD i 0)) h sl24 Jh rfl rfl rfl (Jf (by omega)) ?_);intro bb bc T M;obtain⟨rfl,aP⟩:T=_∧_:=M.rd;exact⟨g,RC.same e,⟨_,_,_,rfl,M⟩⟩
  ·obtain⟨bd,be,U,aF,N⟩:=am;obtain⟨rfl,aQ⟩:U=_∧_:=N.rd;exact Ja d (aC aF aN) fun _=>OpSt.op<|J1d Zf rfl (N.cell 0 _ rfl) ⟨g,RC.same e,rfl⟩
  ·exact Ja d aN fun _=>OpSt.op<|J0s J4 rfl ⟨g,RC.same e,rfl⟩
  ·exact Ja d (aC an aN) fun _=>OpSt.op<|J0x o pl24 rfl rfl ⟨g,RC.same e,rfl⟩
  ·exact Ja d aN fun _=>OpSt.op<|J00 ⟨g,RC.same e,rfl⟩
  ·refine Ja d (aC ao<|aC aq aN) fun _=>OpSt.op (J1l (j:=i) (u:=(b.mag.getD i 0)) k sl24 Jh rfl rfl rfl (Jf (by omega)) ?_);intro bf bg V P;obtain⟨rfl,aR⟩:V=_∧_:=P.rd;exact⟨g,RC.same e,⟨_,_,_,rfl,P⟩⟩
  ·obtain⟨bh,bi,Y,aG,Q⟩:=ar;obtain⟨rfl,aS⟩:Y=_∧_:=Q.rd;exact Ja d (aC aG aN) fun _=>OpSt.op<|J1d Zf rfl (Q.cell 0 _ rfl) ⟨g,RC.same e,rfl⟩
  obtain⟨aT,aU,F,aH,Z⟩:=ax;obtain⟨rfl,aJ⟩:F=_∧_:=Z.rd;obtain⟨aV,aW,G,aa,ab⟩:=aD;obtain⟨rfl,aK⟩:G=_∧_:=ab.rd;obtain⟨aX,rfl⟩:=mixK d (aC au<|aC av<|aC aw<|aC aH<|aC ay<|aC az<|aC aA<|aC aB<|aC aa<|aC aE aN);refine Ol<|J17 (t:=false) rfl rfl (by rw [decide_eq_true (by rw [hab])];rfl)<|Nl<|J0v rfl<|J01<|J0y<|Om<|Ol<|St.add rfl rfl (Jc (a:=i) (b:=1) (by omega))<|Oa<|Nl<|⟨_,(by omega),_,_,(i+1),e,rfl,rfl,rfl,h,k,m,o,(by omega),rfl⟩
 refine Nl<|J0v rfl<|J1j<|Rg<|Oa<|Nl<|J04<|Jo rfl (J35 rfl)<|J02 ?_ I.below
 rfl
theorem Jrq{X:Nat→Prop}{w:World}(hX:XB X w){s:Value}{a:GRat}(K:RV Kf X w s a){x:Value}{b:GRat}(L:RV Kf X w x b)(hab:a=b):CRt 35 #[s,x] w fun v w'=>v=(.bool true):=by
 obtain⟨y,z,A,B,rfl,r,k⟩:=J4a K;obtain⟨D,E,F,m,rfl,l,e⟩:=J4a L;have C:=J07 hX;refine Cgo (args:=[(.agg #[(.bool a.num.neg),(.slice y a.num.mag.length z),(.bool a.den.neg),(.slice A a.den.mag.length B)]),(.agg #[(.bool b.num.neg),(.slice D b.num.mag.length E),(.bool b.den.neg),(.slice F b.den.mag.length m)])]) Tryz.func35 rfl rfl rfl (Rg<|Ol<|J1e C rfl ?_);intro P Q R S M G h d;replace k:=k.sp h;replace e:=e.sp h;refine Ol (J1e G rfl ?_);intro T U V Y N o g i;replace r:=(r.sp h).sp g;replace l:=(l.sp h).sp g;replace d:=d.spn g;refine Oa (Nl<|Rg<|Ol<|J0s X6 rfl<|Ol<|J0z (vs:=[(.bool a.num.neg),(.slice y a.num.mag.length z)]) d ag26 rfl rfl rfl<|Ol<|J0s X6 rfl<|Ol<|J0z (vs:=[(.bool b.num.neg),(.slice D b.num.mag.length E)]) i ag26 rfl rfl rfl<|Ol<|J0t o cb72 rfl rfl (Jke o.bd (a:=a.num) (Jj r) (b:=b.num) (Jj l) (by rw [hab])) ?_);intro Z aa p j H;replace k:=(k.sp g).sp j;replace e:=(e.sp g).sp j;replace d:=d.spn j;replace i:=i.spn j;subst H;refine Om (OgD<|J0s Kr rfl<|OgD<|J0z (vs:=[(.bool a.den.neg),(.slice A a.den.mag.length B)]) d ag26 rfl rfl rfl<|OgD<|J0s Kr rfl<|OgD<|J0z (vs:=[(.bool b.den.neg),(.slice F b.den.mag.length m)]) i ag26 rfl rfl rfl<|OgD<|J0t p cb72 rfl rfl (Jke p.bd (a:=a.den) (Jj k) (b:=b.den) (Jj e) (by rw [hab])) ?_);intro ab ac I ad J;subst J;refine OT<|Oa<|Nl<|J04<|Jo rfl (J35 rfl)<|J02 ?_ I.below
 rfl
theorem Jjm(N:Nat):∀ {X:Nat→Prop} {w:World} (hX:XB X w) {v0:Value} {a:GExpr} (r0:RV Jg X w v0 a) {v1:Value} {b:GExpr} (r1:RV Jg X w v1 b) (hab:a=b) (hN:(SizeOf.sizeOf a) < N),CRt 12 #[v0,v1] w fun v w'=>v=(.bool true):=by
 induction N with
 | zero=>intro X w hX v0 a r0 v1 b r1 hab hN;exact absurd hN<|Nat.not_lt_zero _
 | succ N ih=>
  intro X w hX v0 a r0 v1 b r1 hab hN;obtain⟨a1,c2,a3,c4,a5,c6,a7,c8,rfl,k⟩:=J37 r0;obtain⟨M,P,D,E,F,G,H,I,rfl,d⟩:=J37 r1;have C:=J07 hX;have hal:=r0.args_max;have hlen:a.args.length=b.args.length:=by rw [hab]
  refine Cgo (args:=[(ea a a1 c2 a3 c4 a5 c6 a7 c8),(ea b M P D E F G H I)]) Tryz.func12 rfl rfl rfl (Rg<|Ol<|J1e C rfl ?_);intro Q cL cM cN bA bk aj g;refine Ol (J1e bk rfl ?_);intro R cO cP cQ lt31 ak S l;replace k:=(k.sp aj).sp S;replace d:=(d.sp aj).sp S;replace g:=g.spn S;refine Oa (Nl<|Rh<|Ol<|J0s Zk rfl<|Ol<|J0x g pl3 rfl rfl<|Ol<|J0s Zk rfl<|Ol<|J0x l pl3 rfl rfl<|Ol<|J17 (t:=false) rfl rfl (by rw [decide_eq_true (by rw [hab])];rfl)<|Om<|OgD<|J0s Ki rfl<|OgD<|J0x g pl23 rfl rfl ?_);refine OgD (J0s Ki rfl<|OgD<|J0x l pl23 rfl rfl<|OgD<|J0t ak cb34 rfl rfl (Jvy ak.bd k.n d.n (by rw [hab])) ?_);intro cR cS am J bl;replace k:=k.sp J;replace d:=d.sp J;replace g:=g.spn J;replace l:=l.spn J;subst bl;refine OgD (J1s rfl<|OF<|Om<|OgD<|J0s Qo rfl<|OgD<|J0z (vs:=[(.bool a.c.num.neg),(.slice a3 a.c.num.mag.length c4),(.bool a.c.den.neg),(.slice a5 a.c.den.mag.length c6)]) g ag28 rfl rfl rfl<|OgD<|J0s Qo rfl<|OgD<|J0z (vs:=[(.bool b.c.num.neg),(.slice D b.c.num.mag.length E),(.bool b.c.den.neg),(.slice F b.c.den.mag.length G)]) l ag28 rfl rfl rfl ?_);refine OgD (J0t am cb35 rfl rfl (Jrq am.bd (a:=a.c) (Zz k.num k.den) (b:=b.c) (Zz d.num d.den) (by rw [hab])) ?_);intro cT cU bm K bn;replace k:=k.sp K;replace d:=d.sp K;replace g:=g.spn K;replace l:=l.spn K;subst bn;refine OgD (J1s rfl<|OF<|Om<|OgD<|J0s xc rfl<|OgD<|J0x g pl9 rfl rfl<|OgD<|J0s xc rfl<|OgD<|J0x l pl9 rfl rfl<|OgD<|J2x rfl rfl (fun T=>absurd (by rw [hab]) T)<|fun T=>(OF<|Om ?_));refine OgD (J0s Ys rfl<|OgD<|J0x g pl29 rfl rfl<|OgD<|St.len sl29 rfl<|OgD<|J0s Ys rfl<|OgD<|J0x l pl29 rfl rfl<|OgD<|St.len sl29 rfl<|OgD<|J17 (t:=false) rfl rfl (by rw [decide_eq_true (by omega)];rfl)<|OF<|Nl<|J0v rfl<|J01 ?_);refine Rh (Oa<|Nl<|W.block<|J1g (fun μ f v=>∃ (x y:Nat→Prop) (i:Nat),Cx X w x y v∧f 2=(.pointer (some ⟨Q,0,none⟩))∧f 3=(.pointer (some ⟨R,0,none⟩))∧f 5=(.int .i64 ((i:Nat):Int))∧ExprParts x v a a1 c2 a3 c4 a5 c6 a7 c8∧ExprParts x v b M P D E F G H I∧Own w y v Q (ec a a1 c2 a3 c4 a5 c6 a7 c8) 31∧Own w y v R (ec b M P D E F G H I) 31∧i≤a.args.length∧μ=(a.args.length - i)) _ ⟨_,_,0,bm,rfl,rfl,rfl,k,d,g,l,(Nat.zero_le _),rfl⟩ ?_);rintro cV cW cX ⟨cY,cZ,i,an,ao,aq,ar,k,d,z,A,hi,bs⟩;obtain⟨c0,rfl⟩:=rebK (aC ao<|aC aq<|aC ar aN);clear ao aq ar;refine Rh<|Om<|Ol<|J0s Ys rfl<|Ol<|J0x z pl29 rfl rfl<|Ol<|St.len sl29 rfl<|Ol<|J1h rfl rfl (fun ax=>?_)<|fun ax=>?_
  ·refine Nl<|J0w rfl<|J01<|J06<|W.block<|J06<|J1q mixed 10 [[],[0],[],[1,2],[3],[],[5],[],[6,7],[8]] an [fx<|.pointer (some ⟨Q,7,none⟩),fx<|.slice a7 a.args.length c8,fx<|.int .i64 ((i:Nat):Int),fE Jg<|a.args.getD i default,fr Jg<|a.args.getD i default,fx<|.pointer (some ⟨R,7,none⟩),fx<|.slice H b.args.length I,fx<|.int .i64 ((i:Nat):Int),fE Jg<|b.args.getD i default,fr Jg<|b.args.getD i default] (by kernel_rfl) ⟨sx,sx,sx,sE,sr,sx,sx,sx,sE,sr,trivial⟩ fun bo m c1 ⟨h,L⟩ e=>?_
   replace k:=k.sp L;replace d:=d.sp L;replace z:=z.spn L;replace A:=A.spn L;have e:Keep [50,51,52,53,54,55,56,57,58,59] _ bo:=e;refine⟨⟨fun _=>?_,fun⟨bp,_⟩=>?_,fun _=>?_,fun⟨bq,br,_⟩=>?_,fun⟨ay,_⟩=>?_,fun _=>?_,fun⟨az,_⟩=>?_,fun _=>?_,fun⟨aA,aB,_⟩=>?_,fun⟨aD,_⟩=>?_,trivial⟩,fun⟨aE,aF,aG,aH,aI,aJ,aK,aL,aM,aO,_⟩=>?_⟩
   ·exact Ja e aN fun _=>OpSt.op<|J0s Ys rfl ⟨m,RC.same h,rfl⟩
   ·exact Ja e (aC bp aN) fun _=>OpSt.op<|J0x z pl29 rfl rfl ⟨m,RC.same h,rfl⟩
   ·exact Ja e aN fun _=>OpSt.op<|J00 ⟨m,RC.same h,rfl⟩
   ·refine Ja e (aC bq<|aC br aN) fun _=>OpSt.op (J1l (j:=i) (u:=(a.args.getD i default)) k.args sl29 io31 rfl rfl rfl (Jf (by omega)) ?_);intro bB bC bt U;obtain⟨bD,bE,bF,bG,bH,bI,bJ,bK,rfl,bL⟩:=Jv U.rd;exact⟨m,RC.same h,⟨_,_,_,rfl,U⟩⟩
   ·obtain⟨bM,bN,bu,aP,V⟩:=ay;obtain⟨aQ,aR,aS,aT,aU,aV,aW,aX,rfl,o⟩:=Jv V.rd;exact Ja e (aC aP aN) fun _=>OpSt.op<|J14 (cs:=(ec (a.args.getD i default) aQ aR aS aT aU aV aW aX)) ag31 rfl rfl V.cell ⟨m,RC.same h,(Ju (a.args.getD i default) o.lo o.hi o.name o.n o.num o.den o.args)⟩
   ·exact Ja e aN fun _=>OpSt.op<|J0s Ys rfl ⟨m,RC.same h,rfl⟩
   ·exact Ja e (aC az aN) fun _=>OpSt.op<|J0x A pl29 rfl rfl ⟨m,RC.same h,rfl⟩
   ·exact Ja e aN fun _=>OpSt.op<|J00 ⟨m,RC.same h,rfl⟩
   ·refine Ja e (aC aA<|aC aB aN) fun _=>OpSt.op (J1l (j:=i) (u:=(b.args.getD i default)) d.args sl29 io31 rfl rfl rfl (Jf (by omega)) ?_);intro bO bP bv Y;obtain⟨bQ,bR,bS,bT,bU,bV,bW,bX,rfl,bY⟩:=Jv Y.rd;exact⟨m,RC.same h,⟨_,_,_,rfl,Y⟩⟩
   ·obtain⟨bZ,b0,bw,aY,Z⟩:=aD;obtain⟨aZ,a0,a2,a4,a6,a8,a9,ba,rfl,p⟩:=Jv Z.rd;exact Ja e (aC aY aN) fun _=>OpSt.op<|J14 (cs:=(ec (b.args.getD i default) aZ a0 a2 a4 a6 a8 a9 ba)) ag31 rfl rfl Z.cell ⟨m,RC.same h,(Ju (b.args.getD i default) p.lo p.hi p.name p.n p.num p.den p.args)⟩
   obtain⟨b1,b2,bx,bb,bc⟩:=aH;obtain⟨b3,b4,b5,b6,b7,b8,b9,ca,rfl,cb⟩:=Jv bc.rd;obtain⟨cc,cd,ce,cf,cg,ch,ci,cj,be,r⟩:=J37 aI;obtain⟨ck,cl,bz,bf,bg⟩:=aM;obtain⟨cm,cn,co,cp,cq,cr,ct,cu,rfl,cv⟩:=Jv bg.rd;obtain⟨cw,cx,cy,cz,cE,cF,cG,cH,bh,s⟩:=J37 aO;obtain⟨cI,rfl⟩:=mixK e (aC aE<|aC aF<|aC aG<|aC bb<|aC be<|aC aJ<|aC aK<|aC aL<|aC bf<|aC bh aN);refine Ol (J0t h cb12 rfl rfl (ih h.bd (Ju (a.args.getD i default) r.lo r.hi r.name r.n r.num r.den r.args) (Ju (b.args.getD i default) s.lo s.hi s.name s.n s.num s.den s.args) (by rw [hab])<|Nat.lt_of_lt_of_le (Jad (by omega))<|Nat.le_of_lt_succ hN) ?_);intro cJ cK bi B bj;replace k:=k.sp B;replace d:=d.sp B;replace z:=z.spn B;replace A:=A.spn B;subst bj;refine Ol<|J1s rfl<|Nl<|J0v rfl<|J01<|J0y<|Om<|Ol<|St.add rfl rfl (Jc (a:=i) (b:=1) (by omega))<|Oa<|Nl<|⟨_,(by omega),_,_,(i+1),bi,rfl,rfl,rfl,k,d,z,A,(by omega),rfl⟩
  refine Nl<|J0v rfl<|J1j<|Rg<|Oa<|Nl<|J04<|Jo rfl (J35 rfl)<|J02 ?_ an.below
  rfl
theorem Jii{X:Nat→Prop}{w:World}(hX:XB X w){d:Value}{a:GExpr}(g:RV Jg X w d a){e:Value}{b:GExpr}(h:RV Jg X w e b)(hab:a=b):CRt 12 #[d,e] w fun v w'=>v=(.bool true):=Jjm ((SizeOf.sizeOf a)+1) hX g h hab (Nat.lt_succ_self _)
end Go.Wf
namespace Go.Wf
open Go Go.Lib
abbrev By:=List UInt8
def qTxt(q:Rat):By:=if q.den=1 then itoa q.num else itoa q.num++[47]++itoa (q.den:Int)
structure Tx where
 op:Int
 q:Rat
 neg:Bool
 w:By
 sg:By
 mi:Bool
 p:By
def Tx.f(t:Tx):By:=if t.op=10∨t.op=11∨t.neg=true then [40]++t.w++[41] else t.p
def itoaL(l:List Int):List By:=l.map itoa
def Jtk(l:List Int):By:=join (itoaL l) [44,32]
def Jvu(ne:Bool):List Tx→By
 | []=>[]
 | t::l=>(if ne then [44,32] else [])++t.w++Jvu true l
def Jt(nm:By)(n:List Int)(ts:List Tx):By:=(nm++[40])++(if n=[] then [] else Jtk n)++Jvu (decide (¬ n=[])) ts++[41]
def etaT(nm:By)(n:List Int):By:=nm++itoa (n.getD 0 0)++[41,91]++Jtk (n.drop 1)++[93]
def Jlw(t:Tx):By:=if t.op=10∨t.op=11∨t.op=12∨t.op=1 then [40]++t.w++[41] else t.w
def Tx0:Tx:=⟨0,0,false,[],[],false,[]⟩
def Jew(op:Int)(n:List Int)(q:Rat)(nm:By)(ts:List Tx):By:=
 if op=1 then qTxt q else if op=2 then [69]++itoa (n.getD 0 0) else if op=3 then Jt [71] n ts
 else if op=4 then etaT [101,116,97,40] n else if op=5 then etaT [116,104,101,116,97,40] n
 else if op=6 then [68,101,108,116,97] else if op=7 then [106] else if op=8 then nm
 else if op=9 then Jt [110,101,119,102,111,114,109] n ts else if op=13 then Jt [86] n ts else if op=14 then Jt [85] n ts
 else if op=15 then Jt [84] n ts else if op=16 then Jt [116,119,105,115,116] n ts else if op=17 then Jt [115,101,114,114,101] n ts
 else if op=18 then Jt [98,114,97,99,107,101,116] n ts
 else Jlw (ts.getD 0 Tx0)++[94]++itoa (n.getD 0 0)
def facT(ts:List Tx):List By:=ts.map Tx.f
def Jq5(ts:List Tx):By:=
 if(ts.getD 0 Tx0).neg then join ((if ¬ (-(ts.getD 0 Tx0).q=1)∨(ts.getD 1 Tx0).op=1 then [qTxt (-(ts.getD 0 Tx0).q)] else [])++facT (ts.drop 1)) [42] else join (facT ts) [42]
def sumR:List Tx→By
 | []=>[]
 | t::l=>(if t.mi then [32,45,32] else [32,43,32])++t.sg++sumR l
def sumT:List Tx→By
 | []=>[]
 | t::l=>(if t.mi then [45] else [])++t.sg++sumR l
def negB(op:Int)(q:Rat):Bool:=decide (op=1) && decide (ky q < 0)
def sgT(op:Int)(n:List Int)(q:Rat)(nm:By)(ts:List Tx):By:=
 if op=10 then [40]++sumT ts++[41] else if negB op q=true then qTxt (-q) else if op=11 then Jq5 ts else Jew op n q nm ts
def miT(op:Int)(q:Rat)(ts:List Tx):Bool:=
 if op=10 then false else if negB op q=true then true else if op=11 then(ts.getD 0 Tx0).neg else false
def mkT(op:Int)(n:List Int)(q:Rat)(nm:By)(ts:List Tx):Tx:=
 ⟨op,q,negB op q,if op=10 then sumT ts else(if miT op q ts then [45] else [])++sgT op n q nm ts,sgT op n q nm ts,miT op q ts,Jew op n q nm ts⟩
mutual
def txE:GExpr→Tx
 | .mk o n c s l=>mkT o n c.q s (txL l)
def txL:List GExpr→List Tx
 | []=>[]
 | a::l=>txE a::txL l
end
theorem yv(a:GExpr):txE a=mkT a.op a.n a.c.q a.name (txL a.args):=by cases a;rw [txE];rfl
theorem Jah:∀ l:List GExpr,txL l=l.map txE
 | []=>rfl
 | a::l=>by rw [txL,Jah l];rfl
theorem Jix{l:List GExpr}{i:Nat}(h:i < l.length):(txL l).getD i Tx0=txE (l.getD i default):=by
 rw [Jah,List.getD_eq_getElem?_getD,List.getD_eq_getElem?_getD,List.getElem?_map,List.getElem?_eq_getElem h];rfl
def wrE(a:GExpr):By:=(txE a).w
def plE(a:GExpr):By:=(txE a).p
def sgE(a:GExpr):By:=(txE a).sg
def miE(a:GExpr):Bool:=(txE a).mi
theorem Jsf(a:GExpr):(txE a).op=a.op:=by rw [yv];rfl
theorem tx_q(a:GExpr):(txE a).q=a.c.q:=by rw [yv];rfl
theorem Jn7(a:GExpr):(txE a).neg=negB a.op a.c.q:=by rw [yv];rfl
theorem Jux{a:GExpr}(h:a.op=10):wrE a=sumT (txL a.args):=by unfold wrE;rw [yv];exact if_pos h
theorem Jtu{a:GExpr}(h:¬ a.op=10):wrE a=(if miE a then [45] else [])++sgE a:=by
 unfold wrE miE sgE;rw [yv];exact if_neg h
theorem Jul(a:GExpr):plE a=Jew a.op a.n a.c.q a.name (txL a.args):=by unfold plE;rw [yv];rfl
theorem Jto(a:GExpr):sgE a=sgT a.op a.n a.c.q a.name (txL a.args):=by unfold sgE;rw [yv];rfl
theorem Juu(a:GExpr):miE a=miT a.op a.c.q (txL a.args):=by unfold miE;rw [yv];rfl
theorem Jlo{a:GExpr}(h:¬ a.op=10)(h2:negB a.op a.c.q=false)(h3:¬ a.op=11):sgE a=plE a∧miE a=false:=by
 rw [Jto,Juu,Jul];exact⟨by unfold sgT;rw [if_neg h,if_neg (by rw [h2];decide),if_neg h3],by unfold miT;rw [if_neg h,if_neg (by rw [h2];decide),if_neg h3]⟩
theorem Jv5{a:GExpr}(h3:a.op=11):sgE a=Jq5 (txL a.args)∧miE a=((txL a.args).getD 0 Tx0).neg:=by
 have h:¬ a.op=10:=by omega
 have h2:negB a.op a.c.q=false:=by unfold negB;rw [h3];rfl
 rw [Jto,Juu];exact⟨by unfold sgT;rw [if_neg h,if_neg (by rw [h2];decide),if_pos h3],by unfold miT;rw [if_neg h,if_neg (by rw [h2];decide),if_pos h3]⟩
end Go.Wf
namespace Go.Wf
open Go Go.Lib
section
variable {N i j k r:Nat} {m:List Nat} {d:List UInt8}
end
theorem Jou:∀ k u:Nat,u < 10 ^ (k+1)→(decDigits u).length≤k+1
 | 0,u,h=>by rw [decDigits_one (by simpa using h)];exact Nat.le_refl _
 | k+1,u,h=>by
  rw [Nat.pow_succ] at h;rw [decDigits]
  split
  ·simp
  ·rw [List.length_append,List.length_singleton]
   have:=Jou k (u / 10) (by omega)
   omega
theorem Jrx(n:Int)(k:Nat)(h:n.natAbs < 10 ^ (k+1)):(itoa n).length≤k+2:=by
 have:=Jou k n.natAbs h
 unfold itoa
 split
 ·rw [List.length_cons];omega
 ·rw [show n.toNat=n.natAbs by omega];omega
section
variable {q:Rat}
end
end Go.Wf
namespace Go.Wf
open Go Go.RowKit
section
variable {X0 x y:Nat→Prop} {w0:Bs} {w:World} {E:TypeId} {v:Value} {l:List UInt8}
end
section
variable {P:Program} {ρ:Operand→Value} {w:World} {K:Value→World→Prop} {Kp:List PanicEntry→World→Prop} {dst:Option Tmp} {ty:TypeId} {pos:String} {after:Array Edge} {gd:Option (Nat × Bool)} {X0 x y:Nat→Prop} {w0:Bs}
theorem J3d{k:FuncId}{cap:Array Operand}{cs:List Value}(hc:cap.toList.map ρ=cs)(h:K (.func (.func k) #[] cs.toArray) w):St P ρ ⟨dst,.makeFunc (.func k) #[] cap,ty,pos,after,gd⟩ w K Kp:=by
 refine J1i (v:= .func (.func k) #[] cs.toArray) ?_ h
 have:cap.map ρ=cs.toArray:=by rw [← hc];apply Array.ext';simp
 simp [execOp,Instr.makeFunc,this]
end
structure Tb (P:Program) (nm:String) (k:IntKind) (zs:List Int) (X:Nat→Prop) (w:World):Prop where
 tab:Lib.TabIs P w nm k zs
 out:∀ g,P.globalNamed nm=some g→¬ X g∧g < w.heap.size
section
variable {P:Program} {nm:String} {k:IntKind} {zs:List Int} {X X' x y x' y':Nat→Prop} {w w':World} {ch:Nat→Prop}
theorem Tb.tr(h:Tb P nm k zs X w)(t:Tr X w X' w'):Tb P nm k zs X' w':=by
 obtain⟨h1,h2⟩:=h;refine⟨?_,fun g hg=>⟨fun hx=>(h2 g hg).1 (t.sub g (h2 g hg).2 hx),Nat.lt_of_lt_of_le (h2 g hg).2 t.size⟩⟩;unfold Lib.TabIs World.var? at h1 ⊢
 cases hg:P.globalNamed nm with
 | none=>rw [hg] at h1;cases h1
 | some g=>
  rw [hg] at h1
  have:=h2 g hg
  simp only [Option.bind_some] at h1 ⊢;rw [t.blk g this.2 this.1];exact h1
theorem Tb.sp(h:Tb P nm k zs x w)(s:Sp x y w x' y' w' ch):Tb P nm k zs x' w':=h.tr s.tx
end
end Go.Wf
namespace Go.Proofs
open Go.Shelf
def Tryz.lays156_ren:Go.Shelf.Ren:=⟨fun | 156=>109 | 165=>159 | 166=>160 | 169=>161 | 240=>212 | 241=>213 | 276=>237 | 277=>238 | n=>n,fun | 31=>50 | 9=>9 | 3=>3 | 4=>4 | 0=>0 | 20=>20 | 72=>160 | 76=>164 | 70=>157 | 37=>158 | 75=>163 | 127=>191 | 164=>214 | 5=>5 | 80=>166 | n=>n,fun | n=>n⟩
theorem Tryz.lays156:Go.Proofs.Lays.n156 Tryz.prog Tryz.lays156_ren:={
 mixed:=by kernel_rfl
 f156:=Tryz.func109.trans (congrArg some (by kernel_rfl))
 f165:=Tryz.func159.trans (congrArg some (by kernel_rfl))
 f166:=Tryz.func160.trans (congrArg some (by kernel_rfl))
 f169:=Tryz.func161.trans (congrArg some (by kernel_rfl))
 f240:=Tryz.func212.trans (congrArg some (by kernel_rfl))
 f241:=Tryz.func213.trans (congrArg some (by kernel_rfl))
 f276:=Tryz.func237.trans (congrArg some (by kernel_rfl))
 f277:=Tryz.func238.trans (congrArg some (by kernel_rfl))
 t0:=Tryz.underlying0
 a0:=Tryz.isAgg0
 z0:=Tryz.sizeOf0
 v0:=Tryz.zeroValue0
 t3:=Tryz.underlying3
 a3:=Tryz.isAgg3
 z3:=Tryz.sizeOf3
 v3:=Tryz.zeroValue3
 t4:=Tryz.underlying4
 a4:=Tryz.isAgg4
 z4:=Tryz.sizeOf4
 v4:=Tryz.zeroValue4
 t9:=Tryz.underlying9
 a9:=Tryz.isAgg9
 z9:=Tryz.sizeOf9
 v9:=Tryz.zeroValue9
 t20:=Tryz.underlying20
 a20:=Tryz.isAgg20
 z20:=Tryz.sizeOf20
 v20:=Tryz.zeroValue20
 t31:=Tryz.underlying50
 a31:=Tryz.isAgg50
 z31:=Tryz.sizeOf50
 v31:=Tryz.zeroValue50
 t37:=Tryz.underlying158
 a37:=Tryz.isAgg158
 z37:=Tryz.sizeOf158
 v37:=Tryz.zeroValue158
 t70:=Tryz.underlying157
 a70:=Tryz.isAgg157
 z70:=Tryz.sizeOf157
 v70:=Tryz.zeroValue157
 t72:=Tryz.underlying160
 a72:=Tryz.isAgg160
 z72:=Tryz.sizeOf160
 v72:=Tryz.zeroValue160
 t75:=Tryz.underlying163
 a75:=Tryz.isAgg163
 z75:=Tryz.sizeOf163
 v75:=Tryz.zeroValue163
 t76:=Tryz.underlying164
 a76:=Tryz.isAgg164
 z76:=Tryz.sizeOf164
 v76:=Tryz.zeroValue164
 t127:=Tryz.underlying191
 a127:=Tryz.isAgg191
 z127:=Tryz.sizeOf191
 v127:=Tryz.zeroValue191
 t164:=Tryz.underlying214
 a164:=Tryz.isAgg214
 z164:=Tryz.sizeOf214
 v164:=Tryz.zeroValue214}
theorem Tryz.Builder_Extra_156:Builder.Extra Tryz.prog Tryz.lays156_ren:={
 sizeBuilder:=by kernel_rfl
 liesBuilder:=by kernel_rfl
 t5:=Tryz.underlying5
 a5:=Tryz.isAgg5
 z5:=Tryz.sizeOf5
 v5:=Tryz.zeroValue5
 infoByte:=by kernel_rfl
 cellsByte:=by kernel_rfl
 sizeByte:=by kernel_rfl
 neB5:=by decide}
end Go.Proofs
namespace Go.Wf
open Go Go.Proofs Go.RowKit Go.Sort
section
variable {X:Nat→Prop} {w:World} {v:Value} {E:TypeId}
def bas(l:List UInt8):ByteArray:=⟨l.toArray⟩
theorem Jpr(l:List (List UInt8)):(l.map bas).map (·.data.toList)=l:=by
 induction l with
 | nil=>rfl
 | cons a l ih=>rw [List.map_cons,List.map_cons,ih];rfl
theorem Jwt(hX:∀ b,X b→b < w.heap.size){l:List (List UInt8)}{s:List UInt8}(r0:RS Jcz X w v l)(hl:l.length≤10000000000)(hj:(Lib.join l s).length≤100000000000):
  Calls Tryz.prog 109 #[v,str s] w (Ret w fun v w'=>v=str (Lib.join l s)):=by
 obtain⟨a,c,rfl,h1,h2,h3⟩:=r0
 by_cases hn:l=[]
 ·subst hn
  refine(Any.strings_Join_none Tryz.lays156 Tryz.Builder_Extra_156 a c (bas s) w).mono ?_
  rintro e w' ⟨rfl,rfl⟩;exact⟨rfl,Below.refl _ _⟩
 ·rcases h3 with h3 | ⟨b,o,rfl,hx,h3⟩
  ·exact absurd h3 hn
  have hc:∀ (j:Nat) (u:ByteArray),(l.map bas)[j]? =some u→w.cell? ⟨b,o+j,none⟩=some (.string u):=by
   intro j u hu;rw [List.getElem?_map] at hu;obtain⟨q,hq,rfl⟩:=Option.map_eq_some_iff.1 hu;obtain⟨cs,⟨rfl,_⟩,h5⟩:=h3 j q hq
   have:=h5 0 _ rfl
   rw [show o+j=o+j * Jcz.sz+0 by show o+j=o+j * 1+0;omega];exact this
  have hp:0 < l.length:=List.length_pos_iff.2 hn;have hb:b < w.heap.size:=World.block_lt_of_cell? w _ (hc 0 (bas l[0]) (by rw [List.getElem?_map,List.getElem?_eq_getElem hp];rfl));have hml:(l.map bas).length=l.length:=List.length_map ..;have hjj:Lib.join ((l.map bas).map (·.data.toList)) (bas s).data.toList=Lib.join l s:=by rw [Jpr];rfl
  have h:=Any.strings_Join Tryz.lays156 Tryz.Builder_Extra_156 b o c (l.map bas) (bas s) w hc hb (by rw [hml];omega) (by rw [hml];exact h1) (by rw [hjj];omega);rw [hjj,hml] at h;refine h.mono ?_;rintro e w' ⟨rfl,hbl⟩;exact⟨rfl,hbl⟩
end
end Go.Wf
namespace Go.Wf
open Go Go.Lib
structure TL (t:Tx) (k:Nat):Prop where
 w:t.w.length+5≤k
 s:t.sg.length+10≤k
 p:¬ t.op=10→¬ t.op=11→t.p.length+10≤k
 q:(qTxt (-t.q)).length+10≤k
theorem TL.f{t:Tx}{k:Nat}(h:TL t k):t.f.length+3≤k:=by
 have h1:=h.w;unfold Tx.f
 split
 ·simp only [List.length_append,List.length_cons,List.length_nil];omega
 ·rename_i hh
  have h2:=h.p (fun e=>hh (.inl e)) (fun e=>hh (.inr (.inl e)));omega
section
variable {a:GExpr} {i:Nat}
end
end Go.Wf
namespace Go.Wf
open Go Go.Lib
section
variable {a:GExpr} {i:Nat}
theorem Jhm{x y t:By}{k:Nat}(h:x++y=t)(hk:t.length≤k):x.length≤k:=by rw [← h,List.length_append] at hk;omega
theorem ng_t(h:a.op=1):decide (ky a.c.q < 0)=negB a.op a.c.q:=by unfold negB;rw [decide_eq_true h,Bool.true_and]
theorem ng_f(h:¬ a.op=1):false=negB a.op a.c.q:=by unfold negB;rw [decide_eq_false h,Bool.false_and]
section
variable {nm out T:By}
end
theorem Jty{k:Int}(h:a.op=k):Jew k a.n a.c.q a.name (txL a.args)=plE a:=by rw [Jul,h]
theorem pl_2(h:a.op=2):[69]++itoa (a.n.getD 0 0)=plE a:=by rw [← Jty h];rfl
theorem Jud(h:a.op=12)(hl:0 < a.args.length){t:By}(ht:t=Jlw (txE (a.args.getD 0 default))):(t++[94])++itoa (a.n.getD 0 0)=plE a:=by
 rw [← Jty h,ht,← Jix hl];rfl
theorem bs_f(h:¬ (a.op=10∨a.op=11∨a.op=12∨a.op=1)):wrE a=Jlw (txE a):=by
 unfold Jlw;rw [Jsf,if_neg h];rfl
theorem fa_0(h1:¬ a.op=10)(h2:¬ a.op=11)(h3:negB a.op a.c.q=false):plE a=(txE a).f:=by
 unfold Tx.f;rw [Jsf,Jn7,if_neg (by rw [h3];simp [h1,h2])];rfl
theorem Jtr{p:Rat}:qcmp p (Rat.divInt 1 1)=0↔p=1:=by
 have e:Rat.divInt 1 1=1:=by rfl
 rw [e];unfold qcmp ky;rw [Int.sign_eq_zero_iff_zero,Rat.num_eq_zero]
 constructor
 ·intro h;have h2:p=p - 1+1:=by rw [Rat.sub_eq_add_neg,Rat.add_assoc,Rat.neg_add_cancel,Rat.add_zero]
  rw [h2,h,Rat.zero_add]
 ·intro h;rw [h,Rat.sub_eq_add_neg,Rat.add_neg_cancel]
section
variable {p:List By} {l:List GExpr}
theorem Jlv(h:a.op=11)(hl:2≤a.args.length):((txL a.args).getD 0 Tx0).neg=negB (a.args.getD 0 default).op (a.args.getD 0 default).c.q∧((txL a.args).getD 0 Tx0).q=(a.args.getD 0 default).c.q∧((txL a.args).getD 1 Tx0).op=(a.args.getD 1 default).op:=by
 rw [Jix (by omega),Jix (by omega),Jn7,tx_q,Jsf];exact⟨rfl,rfl,rfl⟩
theorem sg_mi(h:a.op=11)(hl:2≤a.args.length):negB (a.args.getD 0 default).op (a.args.getD 0 default).c.q=miE a:=by
 rw [(Jv5 h).2,(Jlv h hl).1]
theorem Jl8:(txL a.args).drop 1=txL (a.args.drop 1):=by rw [Jah,Jah,List.map_drop]
theorem Juy(h:a.op=11)(hl:2≤a.args.length)(hn:negB (a.args.getD 0 default).op (a.args.getD 0 default).c.q=true)(hc: -(a.args.getD 0 default).c.q=1)(hc2:¬ (a.args.getD 1 default).op=1):
  sgE a=join ([]++facT (txL (a.args.drop 1))) [42]:=by
 rw [(Jv5 h).1];unfold Jq5;rw [(Jlv h hl).1,(Jlv h hl).2.1,(Jlv h hl).2.2,hn,if_pos rfl,if_neg (fun h=>h.elim (fun k=>k hc) hc2),Jl8]
theorem fa_st(hQ:sgE a=join (p++facT (txL (l.drop i))) [42])(hi:i < l.length){x:By}(hx:x=(txE (l.getD i default)).f):sgE a=join ((p++[x])++facT (txL (l.drop (i+1)))) [42]:=by
 rw [hQ,Y6 hi,txL,facT,List.map_cons,← hx,List.append_assoc];rfl
theorem Joq(hQ:sgE a=join (p++facT (txL (l.drop i))) [42])(hi:l.length≤i):sgE a=join p [42]:=by
 rw [hQ,List.drop_of_length_le hi,txL,facT,List.map_nil,List.append_nil]
end
def sumX(i:Nat)(l:List GExpr):By:=if i=0 then sumT (txL l) else sumR (txL l)
section
variable {l:List GExpr} {out:By}
theorem Juz(h:a.op=10):[]++sumX 0 (a.args.drop 0)=wrE a:=by rw [Jux h,List.drop_zero];rfl
theorem su_w(h:¬ a.op=10):[]++sumX 0 ([a].drop 0)=wrE a:=by
 rw [Jtu h,List.drop_zero];unfold sumX;rw [if_pos rfl,txL,txL,sumT,sumR,List.append_nil,List.nil_append];rfl
theorem su_0m(hM:out++sumX i (l.drop i)=wrE a)(hi:i < l.length)(h0:((i:Nat):Int)=0)(ho:i=0→out=[])(hm:miE (l.getD i default)=true):([45]++sgE (l.getD i default))++sumX (i+1) (l.drop (i+1))=wrE a:=by
 obtain rfl:i=0:=by omega
 rw [← hM,ho rfl];unfold sumX;rw [if_pos rfl,if_neg (by omega),Y6 hi,txL,sumT];unfold miE at hm;rw [hm,if_pos rfl];simp only [List.nil_append,List.append_assoc];rfl
theorem su_0p(hM:out++sumX i (l.drop i)=wrE a)(hi:i < l.length)(h0:((i:Nat):Int)=0)(hm:miE (l.getD i default)=false):(out++sgE (l.getD i default))++sumX (i+1) (l.drop (i+1))=wrE a:=by
 obtain rfl:i=0:=by omega
 rw [← hM];unfold sumX;rw [if_pos rfl,if_neg (by omega),Y6 hi,txL,sumT];unfold miE at hm;rw [hm,if_neg (by decide)];simp only [List.nil_append,List.append_assoc];rfl
theorem su_im(hM:out++sumX i (l.drop i)=wrE a)(hi:i < l.length)(h0:¬ ((i:Nat):Int)=0)(hm:miE (l.getD i default)=true):((out++[32,45,32])++sgE (l.getD i default))++sumX (i+1) (l.drop (i+1))=wrE a:=by
 rw [← hM];unfold sumX;rw [if_neg (show ¬ i=0 by omega),if_neg (by omega),Y6 hi,txL,sumR];unfold miE at hm;rw [hm,if_pos rfl];simp only [List.append_assoc];rfl
theorem su_ip(hM:out++sumX i (l.drop i)=wrE a)(hi:i < l.length)(h0:¬ ((i:Nat):Int)=0)(hm:miE (l.getD i default)=false):((out++[32,43,32])++sgE (l.getD i default))++sumX (i+1) (l.drop (i+1))=wrE a:=by
 rw [← hM];unfold sumX;rw [if_neg (show ¬ i=0 by omega),if_neg (by omega),Y6 hi,txL,sumR];unfold miE at hm;rw [hm,if_neg (by decide)];simp only [List.append_assoc];rfl
theorem Jxl(hM:out++sumX i (l.drop i)=wrE a)(hi:l.length≤i):out=wrE a:=by
 rw [← hM,List.drop_of_length_le hi];unfold sumX;rw [txL]
 split <;> simp [sumT,sumR]
end
end
end Go.Wf
namespace Go.Wf
open Go Go.Proofs Go.RowKit
theorem Jmp{X:Nat→Prop}{w:World}(hX:XB X w){h:Value}{a:GExpr}(r:RV Jg X w h a)(B:a.c.num.mag.length≤1000)(D:a.c.den.mag.length≤1000):CRt 104 #[h] w fun v w'=>v=(.bool (negB a.op a.c.q)):=by
 obtain⟨s,x,i,j,k,l,y,z,rfl,e⟩:=J37 r;have C:=J07 hX;refine Cgo (args:=[(ea a s x i j k l y z)]) Tryz.func104 rfl rfl rfl (Rg<|Ol<|J1e C rfl ?_);intro E F G H A d m g;replace e:=e.sp m;refine Oa<|Nl<|Rg<|Ol<|J0s Zk rfl<|Ol<|J0x g pl3 rfl rfl<|Ol<|J1a rfl rfl (fun b=>?_)<|fun b=>?_
 ·refine Om (OgD<|J0s Qo rfl<|OgD<|J0z (vs:=[(.bool a.c.num.neg),(.slice i a.c.num.mag.length j),(.bool a.c.den.neg),(.slice k a.c.den.mag.length l)]) g ag28 rfl rfl rfl<|OgD<|J0t d Jgy rfl rfl (zx d.bd (a:=a.c) (Zz e.num e.den) (by omega) (by omega)) ?_);intro I J o K p;subst p;exact OgD<|J15 rfl rfl rfl<|OT<|Oa<|Nl<|J04<|Wq rfl rfl o<|congrArg (Value.bool)<|(ng_t b)
 exact Om<|Oz<|Oz<|Oz<|Oz<|OF<|Oa<|Nl<|J04<|Wq rfl rfl d<|congrArg (Value.bool)<|(ng_f b)
end Go.Wf
namespace Go.Proofs
open Go.Shelf
def Tryz.lays171_ren:Go.Shelf.Ren:=⟨fun | 171=>157 | 243=>210 | 246=>236 | 283=>249 | 284=>250 | 285=>251 | 286=>252 | 129=>136 | 317=>266 | 318=>267 | 319=>268 | 320=>269 | 337=>274 | 338=>275 | n=>n,fun | 3=>3 | 9=>9 | 2=>2 | 4=>4 | 171=>221 | 0=>0 | 53=>140 | 37=>158 | 5=>5 | 173=>223 | 212=>236 | 51=>118 | 20=>20 | 213=>237 | 46=>110 | 232=>242 | 233=>243 | n=>n,fun | 17=>2 | 18=>3 | 19=>4 | n=>n⟩
theorem Tryz.lays171:Go.Proofs.Lays.n171 Tryz.prog Tryz.lays171_ren:={
 mixed:=by kernel_rfl
 f129:=Tryz.func136.trans (congrArg some (by kernel_rfl))
 f171:=Tryz.func157.trans (congrArg some (by kernel_rfl))
 f243:=Tryz.func210.trans (congrArg some (by kernel_rfl))
 f246:=Tryz.func236.trans (congrArg some (by kernel_rfl))
 f283:=Tryz.func249.trans (congrArg some (by kernel_rfl))
 f284:=Tryz.func250.trans (congrArg some (by kernel_rfl))
 f285:=Tryz.func251.trans (congrArg some (by kernel_rfl))
 f286:=Tryz.func252.trans (congrArg some (by kernel_rfl))
 f317:=Tryz.func266.trans (congrArg some (by kernel_rfl))
 f318:=Tryz.func267.trans (congrArg some (by kernel_rfl))
 f319:=Tryz.func268.trans (congrArg some (by kernel_rfl))
 f320:=Tryz.func269.trans (congrArg some (by kernel_rfl))
 f337:=Tryz.func274.trans (congrArg some (by kernel_rfl))
 f338:=Tryz.func275.trans (congrArg some (by kernel_rfl))
 t0:=Tryz.underlying0
 a0:=Tryz.isAgg0
 z0:=Tryz.sizeOf0
 v0:=Tryz.zeroValue0
 t2:=Tryz.underlying2
 a2:=Tryz.isAgg2
 z2:=Tryz.sizeOf2
 v2:=Tryz.zeroValue2
 t3:=Tryz.underlying3
 a3:=Tryz.isAgg3
 z3:=Tryz.sizeOf3
 v3:=Tryz.zeroValue3
 t4:=Tryz.underlying4
 a4:=Tryz.isAgg4
 z4:=Tryz.sizeOf4
 v4:=Tryz.zeroValue4
 t5:=Tryz.underlying5
 a5:=Tryz.isAgg5
 z5:=Tryz.sizeOf5
 v5:=Tryz.zeroValue5
 t9:=Tryz.underlying9
 a9:=Tryz.isAgg9
 z9:=Tryz.sizeOf9
 v9:=Tryz.zeroValue9
 t20:=Tryz.underlying20
 a20:=Tryz.isAgg20
 z20:=Tryz.sizeOf20
 v20:=Tryz.zeroValue20
 t37:=Tryz.underlying158
 a37:=Tryz.isAgg158
 z37:=Tryz.sizeOf158
 v37:=Tryz.zeroValue158
 t46:=Tryz.underlying110
 a46:=Tryz.isAgg110
 z46:=Tryz.sizeOf110
 v46:=Tryz.zeroValue110
 t51:=Tryz.underlying118
 a51:=Tryz.isAgg118
 z51:=Tryz.sizeOf118
 v51:=Tryz.zeroValue118
 t53:=Tryz.underlying140
 a53:=Tryz.isAgg140
 z53:=Tryz.sizeOf140
 v53:=Tryz.zeroValue140
 t171:=Tryz.underlying221
 a171:=Tryz.isAgg221
 z171:=Tryz.sizeOf221
 v171:=Tryz.zeroValue221
 t173:=Tryz.underlying223
 a173:=Tryz.isAgg223
 z173:=Tryz.sizeOf223
 v173:=Tryz.zeroValue223
 t212:=Tryz.underlying236
 a212:=Tryz.isAgg236
 z212:=Tryz.sizeOf236
 v212:=Tryz.zeroValue236
 t213:=Tryz.underlying237
 a213:=Tryz.isAgg237
 z213:=Tryz.sizeOf237
 t232:=Tryz.underlying242
 a232:=Tryz.isAgg242
 z232:=Tryz.sizeOf242
 v232:=Tryz.zeroValue242
 t233:=Tryz.underlying243
 a233:=Tryz.isAgg243
 z233:=Tryz.sizeOf243
 v233:=Tryz.zeroValue243
 g17:=by kernel_rfl
 g18:=by kernel_rfl
 g19:=by kernel_rfl}
end Go.Proofs
namespace Go.Wf
open Go Go.Lib
section
variable {a:GExpr}
theorem okm(h:okE a):a.c.num.mag.length≤1000∧a.c.den.mag.length≤1000:=by rw [X3] at h;exact⟨h.1,h.2.1⟩
theorem d1_at{l:List GExpr}:(l.drop 1).getD 0 default=l.getD 1 default:=by
 rw [List.getD_eq_getElem?_getD,List.getElem?_drop,← List.getD_eq_getElem?_getD]
theorem ngm(h:a.op=1)(hq: -a.c.q=1):negB a.op a.c.q=true:=by
 have e:a.c.q= -1:=by rw [← hq,Rat.neg_neg]
 unfold negB;rw [h,e];rfl
end
end Go.Wf
namespace Go.Wf
open Go Go.Proofs Go.RowKit
theorem Jkt{X:Nat→Prop}{w:World}(hX:XB X w){n:Int}(a:0≤n)(b:n < 100):CRt 157 #[.int .i64 n] w fun v w'=>v=str (Lib.itoa n):=by
 obtain⟨k,rfl⟩:∃ k:Nat,n=k:=⟨n.toNat,by omega⟩
 refine(Any.strconv_Itoa_small Tryz.lays171 k (by omega) w).mono ?_
 rintro e w' ⟨rfl,rfl⟩;rw [Lib.itoa_nonneg];exact⟨rfl,Below.refl _ _⟩
abbrev WrS(e:GExpr):Prop:=∀ {X:Nat→Prop} {w:World},(∀ b,X b→b < w.heap.size)→∀ {v:Value},RV Jg X w v e→Calls Tryz.prog 39 #[v] w (Ret w fun v' w'=>v'=str (wrE e))
abbrev PlS(e:GExpr):Prop:=∀ {X:Nat→Prop} {w:World},(∀ b,X b→b < w.heap.size)→∀ {v:Value},RV Jg X w v e→Calls Tryz.prog 107 #[v] w (Ret w fun v' w'=>v'=str (plE e))
abbrev SgS(e:GExpr):Prop:=∀ {X:Nat→Prop} {w:World},(∀ b,X b→b < w.heap.size)→∀ {v:Value},RV Jg X w v e→Calls Tryz.prog 73 #[v] w (Ret w fun v' w'=>∃ v0 v1,v'= .tuple #[v0,v1]∧(v0=str (sgE e))∧(v1= .bool (miE e)))
theorem Ju6{X:Nat→Prop}{w:World}(hX:XB X w){v0:Value}{a:GExpr}(r0:RV Jg X w v0 a)(hb:a.op=2∨a.op=12)(hpn:0 < a.n.length)(hr:0≤a.n.getD 0 0∧a.n.getD 0 0 < 100)(hq:a.op=12→0 < a.args.length∧WrS (a.args.getD 0 default)∧(wrE (a.args.getD 0 default)).length≤1000∧(a.args.getD 0 default).op=2):CRt 107 #[v0] w fun v w'=>v=(str (plE a)):=by
 obtain⟨N,P,Q,R,S,T,U,V,rfl,e⟩:=J37 r0;have C:=J07 hX;refine Cgo (args:=[(ea a N P Q R S T U V)]) Tryz.func107 rfl rfl rfl (Rg<|Ol<|J1e C rfl ?_);intro h ax ay az ar i ac b;replace e:=e.sp ac;refine Oa (Nl<|Rg<|Ol<|J3d (cs:=[(.pointer (some ⟨h,0,none⟩))]) rfl<|Oa<|Nl<|Rh<|Ol<|J0s Zk rfl<|Ol<|J0x b pl3 rfl rfl<|Nl<|W.block<|Rg<|Ol<|J1y (t:=false) rfl rfl (decide_eq_false (by omega))<|Oa<|Nl ?_);refine J0v rfl<|Rg<|Ol<|J1a rfl rfl (fun k=>?_)<|fun k=>?_
 ·refine Oa (Nl<|J0w rfl<|Rg<|Ol<|J0s Ki rfl<|Ol<|J0x b pl23 rfl rfl<|Ol<|J1l (j:=0) (u:=(a.n.getD 0 0)) e.n sl23 io3 rfl rfl rfl (Jf (by omega)) ?_);intro aA aB Y F;obtain⟨rfl,au⟩:Y=_∧_:=F.rd;refine Ol (J1d pl3 rfl (F.cell 0 _ rfl)<|Ol<|J0t i Jxn rfl rfl (Jkt i.bd hr.1 hr.2) ?_);intro aD aE ad aF ae;subst ae;exact Ol<|J2o rfl rfl (by have:=Lib.itoa_length_le (a.n.getD 0 0) (by omega) (by omega);simp only [List.length_append,List.length_cons,List.length_nil];omega)<|Oa<|Nl<|J04<|Wq rfl rfl ad<|congrArg (str)<|(pl_2 k)
 refine Oa (Nl<|J0v rfl<|Rg<|Ol<|J1y (t:=false) rfl rfl (decide_eq_false (by omega))<|Oa<|Nl<|J0v rfl<|Rg<|Ol<|J1y (t:=false) rfl rfl (decide_eq_false (by omega))<|Oa<|Nl<|J0v rfl<|Rg<|Ol<|J1y (t:=false) rfl rfl (decide_eq_false (by omega)) ?_);refine Oa (Nl<|J0v rfl<|Rg<|Ol<|J1y (t:=false) rfl rfl (decide_eq_false (by omega))<|Oa<|Nl<|J0v rfl<|Rg<|Ol<|J1y (t:=false) rfl rfl (decide_eq_false (by omega))<|Oa<|Nl<|J0v rfl<|Rg<|Ol<|J1y (t:=false) rfl rfl (decide_eq_false (by omega)) ?_);refine Oa (Nl<|J0v rfl<|Rg<|Ol<|J1y (t:=false) rfl rfl (decide_eq_false (by omega))<|Oa<|Nl<|J0v rfl<|Rg<|Ol<|J1y (t:=false) rfl rfl (decide_eq_false (by omega))<|Oa<|Nl<|J0v rfl<|Rg<|Ol<|J1y (t:=false) rfl rfl (decide_eq_false (by omega)) ?_);refine Oa (Nl<|J0v rfl<|Rg<|Ol<|J1y (t:=false) rfl rfl (decide_eq_false (by omega))<|Oa<|Nl<|J0v rfl<|Rg<|Ol<|J1y (t:=false) rfl rfl (decide_eq_false (by omega))<|Oa<|Nl<|J0v rfl<|Rg<|Ol<|J1y (t:=false) rfl rfl (decide_eq_false (by omega)) ?_);refine Oa (Nl<|J0v rfl<|Rg<|Ol<|J1y (t:=false) rfl rfl (decide_eq_false (by omega))<|Oa<|Nl<|J0v rfl<|J01<|J06 ?_);obtain⟨hpl,af,hwl,aG⟩:=hq (by omega);refine J0y (Ol<|J0s Ys rfl<|Ol<|J0x b pl29 rfl rfl<|Ol<|J1l (j:=0) (u:=(a.args.getD 0 default)) e.args sl29 io31 rfl rfl rfl (Jf (by omega)) ?_);intro aH aI av G;obtain⟨l,m,o,p,r,s,z,A,rfl,d⟩:=Jv G.rd;refine Ol (J14 (cs:=(ec (a.args.getD 0 default) l m o p r s z A)) ag31 rfl rfl G.cell<|Ol<|J05 i io31 rfl ?_);intro aJ aK aL aM Z ag B ah;have ai:=Z _ b.blk.lt;replace e:=e.sp B;replace b:=b.spn B;refine On (J0u (cs':=(ec (a.args.getD 0 default) l m o p r s z A)) ag ah io31 rfl rfl rfl rfl rfl rfl ?_);intro aO H D g;replace d:=(d.sp B).sp D;refine Nl (Rg<|Ol<|J0z (vs:=(ec (a.args.getD 0 default) l m o p r s z A)) g ag31 rfl rfl rfl<|Ol<|J0t H cb39 rfl rfl (af H.bd<|Ju (a.args.getD 0 default) d.lo d.hi d.name d.n d.num d.den d.args) ?_);intro aP aQ aj E ak;replace e:=(e.sp D).sp E;replace b:=(b.spo D ai).spn E;replace g:=g.spn E;subst ak;refine Oa<|Nl<|J06<|J2b (fun f v=>∃ (x y:Nat→Prop),Cx X w x y v∧f 1=(.pointer (some ⟨h,0,none⟩))∧f 2=(str [])∧f 5=(str<|wrE<|a.args.getD 0 default)∧ExprParts x v a N P Q R S T U V∧Own w y v h (ec a N P Q R S T U V) 31) ?_ ?_
 ·refine Rg (Ol<|J0s Zk rfl<|Ol<|J0x g pl3 rfl rfl<|Ol<|J1y (t:=false) rfl rfl (decide_eq_false (by omega))<|Om<|OgD<|J0s Zk rfl<|OgD<|J0x g pl3 rfl rfl<|OgD<|J1y (t:=false) rfl rfl (decide_eq_false (by omega))<|OF<|Om ?_);refine OgD (J0s Zk rfl<|OgD<|J0x g pl3 rfl rfl<|OgD<|J1y (t:=false) rfl rfl (decide_eq_false (by omega))<|OF<|Om<|OgD<|J0s Zk rfl<|OgD<|J0x g pl3 rfl rfl<|OgD<|J1y (t:=false) rfl rfl (decide_eq_false (by omega))<|OF ?_);refine Nl<|J0v rfl<|J01<|⟨_,_,aj,rfl,rfl,rfl,e,b⟩
 rintro aR aS ⟨aT,aU,I,J,K,L,e,am⟩;obtain⟨aV,rfl⟩:=rebK (aC J<|aC K<|aC L aN);clear J K L;refine Rg (Om<|Ol<|J2o rfl rfl (by (try simp only [List.length_append,List.length_cons,List.length_nil]);omega)<|Ol<|J0s Ki rfl<|Ol<|J0x am pl23 rfl rfl<|Ol<|J1l (j:=0) (u:=(a.n.getD 0 0)) e.n sl23 io3 rfl rfl rfl (Jf (by omega)) ?_);intro aW aX aa M;obtain⟨rfl,aw⟩:aa=_∧_:=M.rd;refine Ol (J1d pl3 rfl (M.cell 0 _ rfl)<|Ol<|J0t I Jxn rfl rfl (Jkt I.bd hr.1 hr.2) ?_);intro aY aZ an a0 ao;subst ao;exact Ol<|J2o rfl rfl (by have:=Lib.itoa_length_le (a.n.getD 0 0) (by omega) (by omega);simp only [List.length_append,List.length_cons,List.length_nil];omega)<|Oa<|Nl<|J04<|Wq rfl rfl an<|congrArg (str)<|(Jud (by omega) hpl<|bs_f (by omega))
theorem Jn3{X:Nat→Prop}{w:World}(hX:XB X w){e:Value}{a:GExpr}(F:RV Jg X w e a)(hb:a.op=12∨a.op=2)(hok:okE a)(hPa:PlS a):CRt 73 #[e] w fun v w'=>(∃ e y,v= .tuple #[e,y]∧(e=(str (sgE a)))∧(y=(.bool (miE a)))):=by
 obtain⟨k,l,m,o,p,r,s,x,rfl,b⟩:=J37 F;have C:=J07 hX;have z:a.c.num.mag.length≤1000:=by have:=hok;rw [X3] at this;exact this.1
 have A:a.c.den.mag.length≤1000:=by have:=hok;rw [X3] at this;exact this.2.1
 have hng:negB a.op a.c.q=false:=by unfold negB;rw [decide_eq_false (by omega)];rfl
 refine Cgo (args:=[(ea a k l m o p r s x)]) Tryz.func73 rfl rfl rfl (Rg<|Ol<|J1e C rfl ?_);intro H I J K G g B d;replace b:=b.sp B;refine Oa (Oa<|Nl<|J06<|W.block<|Rg<|Ol<|J0s Zk rfl<|Ol<|J0x d pl3 rfl rfl<|Ol<|J1y (t:=false) rfl rfl (decide_eq_false (by omega))<|Oa<|Nl<|J0v rfl<|Rg<|Ol<|J0z (vs:=(ec a k l m o p r s x)) d ag31 rfl rfl rfl<|Ol<|J0t g Jni rfl rfl (Jmp g.bd (Ju a b.lo b.hi b.name b.n b.num b.den b.args) z A) ?_);intro L M h i j;replace b:=b.sp i;replace d:=d.spn i;rw [hng] at j;subst j;refine Oa (Nl<|J0v rfl<|Rg<|Ol<|J0s Zk rfl<|Ol<|J0x d pl3 rfl rfl<|Ol<|J17 (t:=true) rfl rfl (by rw [decide_eq_false (by omega)];rfl)<|Oa<|Nl<|J0w rfl<|Rg<|Ol<|J0z (vs:=(ec a k l m o p r s x)) d ag31 rfl rfl rfl<|Ol<|J0t h Jv7 rfl rfl (hPa h.bd<|Ju a b.lo b.hi b.name b.n b.num b.den b.args) ?_);intro N P D Q E;subst E;refine Oa (Oa<|Nl<|J04<|Zh rfl (J35 rfl) (J35 rfl)<|J02 ?_ D.below);refine⟨_,_,rfl,?_,?_⟩
 ·skip
  exact congrArg (str)<|(Jlo (by omega) hng (by omega)).1.symm
 ·skip
  exact congrArg (Value.bool)<|(Jlo (by omega) hng (by omega)).2.symm
theorem Jva{X:Nat→Prop}{w:World}(hX:XB X w){v0:Value}{a:GExpr}(r0:RV Jg X w v0 a)(hb:a.op=11)(hok:okE a)(hal:a.args.length=2)(bZ:(a.args.getD 0 default).op=1)(aw: -(a.args.getD 0 default).c.q=1)(a9:Js (a.args.getD 0 default).c.num.mag∧Js (a.args.getD 0 default).c.den.mag)(d6:(a.args.getD 1 default).op=12)(hP:PlS (a.args.getD 1 default))(hpl:(plE (a.args.getD 1 default)).length≤1000)(hsl:(sgE a).length≤1000):CRt 73 #[v0] w fun v w'=>(∃ v0 v1,v= .tuple #[v0,v1]∧(v0=(str (sgE a)))∧(v1=(.bool (miE a)))):=by
 obtain⟨a1,c2,a3,c4,a5,c6,a7,c8,rfl,k⟩:=J37 r0;have C:=J07 hX;have ba:2≤a.args.length:=by omega
 have hm:=okm hok;have bj:okE (a.args.getD 0 default):=Jdi hok (by omega);have bk:okE (a.args.getD 1 default):=Jdi hok (by omega);have aq:=okm bj;have bb:=okm bk;have hng:negB a.op a.c.q=false:=by unfold negB;rw [decide_eq_false (by omega)];rfl
 have bl:negB (a.args.getD 1 default).op (a.args.getD 1 default).c.q=false:=by unfold negB;rw [decide_eq_false (by omega)];rfl
 have am:negB (a.args.getD 0 default).op (a.args.getD 0 default).c.q=true:=ngm bZ aw;have hdl:(a.args.drop 1).length=1:=by rw [List.length_drop];omega
 have d7:(ofQ<|-(a.args.getD 0 default).c.q).num.mag.length≤1000:=by rw [Qu];exact Nat.le_trans (Vm a9.1) aq.1
 have d8:(ofQ<|-(a.args.getD 0 default).c.q).den.mag.length≤1001:=by rw [Qt];exact Nat.le_trans (Vh a9.2)<|Nat.succ_le_succ aq.2
 refine Cgo (args:=[(ea a a1 c2 a3 c4 a5 c6 a7 c8)]) Tryz.func73 rfl rfl rfl (Rg<|Ol<|J1e C rfl ?_);intro ax d9 eb ed cz bc b1 m;replace k:=k.sp b1;refine Oa (Oa<|Nl<|J06<|W.block<|Rg<|Ol<|J0s Zk rfl<|Ol<|J0x m pl3 rfl rfl<|Ol<|J1y (t:=false) rfl rfl (decide_eq_false (by omega))<|Oa<|Nl<|J0v rfl<|Rg<|Ol<|J0z (vs:=(ec a a1 c2 a3 c4 a5 c6 a7 c8)) m ag31 rfl rfl rfl<|Ol<|J0t bc Jni rfl rfl (Jmp bc.bd (Ju a k.lo k.hi k.name k.n k.num k.den k.args) hm.1 hm.2) ?_);intro ee ef b2 be bf;replace m:=m.spn be;rw [hng] at bf;subst bf;refine Oa<|Nl<|J0v rfl<|Rg<|Ol<|J0s Zk rfl<|Ol<|J0x m pl3 rfl rfl<|Ol<|J17 (t:=false) rfl rfl (by rw [decide_eq_true (by omega)];rfl)<|Oa<|Nl<|J0v rfl<|J01<|J06<|J1q mixed 7 [[],[0],[],[2],[3],[4],[5]] b2 [fx<|.pointer (some ⟨ax,7,none⟩),fx<|.slice a7 a.args.length c8,fx<|.pointer (some ⟨ax,7,none⟩),fx<|.slice a7 a.args.length c8,fE Jg<|a.args.getD 0 default,fr Jg<|a.args.getD 0 default,fx<|.bool true] (by kernel_rfl) ⟨sx,sx,sx,sx,sE,sr,sx,trivial⟩ fun b3 L eg ⟨D,bg⟩ E=>?_
 replace k:=(k.sp be).sp bg;replace m:=m.spn bg;have E:Keep [31,32,33,34,35,36,37] _ b3:=E;refine⟨⟨fun _=>?_,fun⟨b4,_⟩=>?_,fun _=>?_,fun⟨b5,_⟩=>?_,fun⟨b6,_⟩=>?_,fun⟨b7,_⟩=>?_,fun⟨b8,_⟩=>?_,trivial⟩,fun⟨b9,ca,cb,cc,cd,ce,cf,_⟩=>?_⟩
 ·exact Ja E aN fun _=>OpSt.op<|J0s Ys rfl ⟨L,RC.same D,rfl⟩
 ·exact Ja E (aC b4 aN) fun _=>OpSt.op<|J0x m pl29 rfl rfl ⟨L,RC.same D,rfl⟩
 ·exact Ja E aN fun _=>OpSt.op<|J0s Ys rfl ⟨L,RC.same D,rfl⟩
 ·exact Ja E (aC b5 aN) fun _=>OpSt.op<|J0x m pl29 rfl rfl ⟨L,RC.same D,rfl⟩
 ·refine Ja E (aC b6 aN) fun _=>OpSt.op (J1l (j:=0) (u:=(a.args.getD 0 default)) k.args sl29 io31 rfl rfl rfl (Jf (by omega)) ?_);intro eh ei cE bh;obtain⟨ej,ek,el,em,en,eo,ep,eq,rfl,es⟩:=Jv bh.rd;exact⟨L,RC.same D,⟨_,_,_,rfl,bh⟩⟩
 ·obtain⟨et,eu,cF,cg,bi⟩:=b7;obtain⟨ch,ci,cj,ck,cl,cm,cn,co,rfl,M⟩:=Jv bi.rd;exact Ja E (aC cg aN) fun _=>OpSt.op<|J14 (cs:=(ec (a.args.getD 0 default) ch ci cj ck cl cm cn co)) ag31 rfl rfl bi.cell ⟨L,RC.same D,(Ju (a.args.getD 0 default) M.lo M.hi M.name M.n M.num M.den M.args)⟩
 ·obtain⟨ev,ew,ex,ey,ez,eA,eB,eC,cp,N⟩:=J37 b8;refine Ja E (aC cp aN) fun _=>OpSt.op (J0t D Jni rfl rfl (Jmp D.bd (Ju (a.args.getD 0 default) N.lo N.hi N.name N.n N.num N.den N.args) aq.1 aq.2) ?_);intro cG cH bm bn ay;rw [am] at ay;exact⟨L,⟨bm,bn⟩,ay⟩
 obtain⟨cI,cJ,ct,bo,bp⟩:=cd;obtain⟨cK,cL,cM,cN,cO,cP,cQ,cR,rfl,cS⟩:=Jv bp.rd;obtain⟨cT,cU,cV,cW,cX,cY,cZ,c0,bq,c1⟩:=J37 ce;obtain⟨c3,rfl⟩:=mixK E (aC b9<|aC ca<|aC cb<|aC cc<|aC bo<|aC bq<|aC cf aN);refine Oa (Oa<|Nl<|Rg<|Oa<|Nl<|Rh<|Om<|Nl<|J0w rfl<|Rg<|Om<|Ol<|J1l (j:=0) (u:=(a.args.getD 0 default)) k.args sl29 io31 rfl rfl rfl (Jf (by omega)) ?_);intro c5 c7 cu az;obtain⟨c9,da,br,bs,bt,bu,db,dc,rfl,aA⟩:=Jv az.rd;refine Ol (J0s Qo rfl<|Ol<|J14 (cs:=[(.bool (a.args.getD 0 default).c.num.neg),(.slice br (a.args.getD 0 default).c.num.mag.length bs),(.bool (a.args.getD 0 default).c.den.neg),(.slice bt (a.args.getD 0 default).c.den.mag.length bu)]) ag28 rfl rfl (Jav az.cell rfl)<|Ol<|J0t D Js1 rfl rfl (Jk5 D.bd (a:=(a.args.getD 0 default).c) (Zz aA.num aA.den) (by omega) (by omega)) ?_);intro dd de bv aB bw;replace k:=k.sp aB;replace m:=m.spn aB;obtain⟨P,Q,R,S,rfl,e,g⟩:=J4a bw;refine Ol (J05 bv io28 rfl ?_);intro bx df dg dh a6 bz aa bA;have bB:=a6 _ m.blk.lt;replace e:=e.sp aa;replace g:=g.sp aa;refine On (J0u (cs':=[(.bool (ofQ<|-(a.args.getD 0 default).c.q).num.neg),(.slice P (ofQ<|-(a.args.getD 0 default).c.q).num.mag.length Q),(.bool (ofQ<|-(a.args.getD 0 default).c.q).den.neg),(.slice R (ofQ<|-(a.args.getD 0 default).c.q).den.mag.length S)]) bz bA io28 rfl rfl rfl rfl rfl rfl ?_);intro di bC ab H;replace k:=(k.sp aa).sp ab;replace m:=(m.spn aa).spo ab bB;refine Nl<|J06<|J06<|J1q mixed 2 [[],[]] bC [fx<|.agg #[(.bool (ofQ<|-(a.args.getD 0 default).c.q).num.neg),(.slice P (ofQ<|-(a.args.getD 0 default).c.q).num.mag.length Q),(.bool (ofQ<|-(a.args.getD 0 default).c.q).den.neg),(.slice R (ofQ<|-(a.args.getD 0 default).c.q).den.mag.length S)],fr Kf<|ofQ<|Rat.divInt 1 1] (by kernel_rfl) ⟨sx,sr,trivial⟩ fun bD aD dj ⟨U,V⟩ Y=>?_
 replace e:=(e.sp ab).sp V;replace g:=(g.sp ab).sp V;replace H:=H.spn V;have Y:Keep [44,45] _ bD:=Y;refine⟨⟨fun _=>?_,fun _=>?_,trivial⟩,fun⟨bE,bF,_⟩=>?_⟩
 ·exact Ja Y aN fun _=>OpSt.op<|J0z (vs:=[(.bool (ofQ<|-(a.args.getD 0 default).c.q).num.neg),(.slice P (ofQ<|-(a.args.getD 0 default).c.q).num.mag.length Q),(.bool (ofQ<|-(a.args.getD 0 default).c.q).den.neg),(.slice R (ofQ<|-(a.args.getD 0 default).c.q).den.mag.length S)]) H ag28 rfl rfl rfl ⟨aD,RC.same U,rfl⟩
 ·refine Ja Y aN fun _=>OpSt.op (J0t U Juv rfl rfl (Jxk U.bd (by decide) (by decide)) ?_);intro dk dl bG bH bI;exact⟨aD,⟨bG,bH⟩,bI⟩
 obtain⟨dm,dn,dp,dq,bJ,bK,bL⟩:=J4a bF;obtain⟨dr,rfl⟩:=mixK Y (aC bE<|aC bJ aN);refine Ol (J0t U cb85 rfl rfl (Ju2 U.bd (a:=(ofQ<|-(a.args.getD 0 default).c.q)) (Zz e g) (b:=(ofQ<|Rat.divInt 1 1)) (Zz bK bL) (by omega) (by omega) (by decide) (by decide)) ?_);intro ds dt bM Z aE;replace k:=(k.sp V).sp Z;replace e:=e.sp Z;replace g:=g.sp Z;replace m:=(m.spn V).spn Z;replace H:=H.spn Z;simp only [Jq,Yq] at aE;subst aE;refine Ol (J17 (t:=false) rfl rfl (by rw [decide_eq_true<|Jtr.2 aw];rfl)<|Om<|OgD<|J00<|OgD<|J1l (j:=1) (u:=(a.args.getD 1 default)) k.args sl29 io31 rfl rfl rfl (Jf (by omega)) ?_);intro du dv cv aF;obtain⟨dw,dx,dy,dz,dA,dB,dC,dD,rfl,dE⟩:=Jv aF.rd;refine OgD (J0s Zk rfl<|OgD<|J1d pl3 rfl (aF.cell 0 _ rfl)<|OgD<|J1y (t:=false) rfl rfl (decide_eq_false (by omega))<|OF<|Nl<|J0v rfl<|J01<|J0y<|Om<|Ol<|J4m (i:=1) k.args sl29 io31 rfl rfl rfl (by omega) ?_);intro aG s;refine Oa (Nl<|Rh<|Om<|Ol<|St.len sl29 rfl<|Om<|Nl<|W.block<|J1g (fun μ f v=>∃ (x y:Nat→Prop) (i:Nat) (p:List (List UInt8)) (pa:Option Addr) (pc:Nat),Cx X w x y v∧f 2=(str [])∧f 3=(.bool false)∧f 5=(.bool true)∧f 62=(.slice aG (a.args.length - 1) (c8 - 1))∧f 63=(.int .i64 (((a.args.length - 1):Nat):Int))∧f 64=(.int .i64 ((i:Nat):Int))∧f 6=(.slice pa p.length pc)∧ExprParts x v a a1 c2 a3 c4 a5 c6 a7 c8∧RS Jd x v (.slice P (ofQ<|-(a.args.getD 0 default).c.q).num.mag.length Q) (ofQ<|-(a.args.getD 0 default).c.q).num.mag∧RS Jd x v (.slice R (ofQ<|-(a.args.getD 0 default).c.q).den.mag.length S) (ofQ<|-(a.args.getD 0 default).c.q).den.mag∧RS Jg x v (.slice aG (a.args.length - 1) (c8 - 1)) (a.args.drop 1)∧OS Jcz 9 w x y v (.slice pa p.length pc) p∧Own w y v ax (ec a a1 c2 a3 c4 a5 c6 a7 c8) 31∧Own w y v bx [(.bool (ofQ<|-(a.args.getD 0 default).c.q).num.neg),(.slice P (ofQ<|-(a.args.getD 0 default).c.q).num.mag.length Q),(.bool (ofQ<|-(a.args.getD 0 default).c.q).den.neg),(.slice R (ofQ<|-(a.args.getD 0 default).c.q).den.mag.length S)] 28∧i≤1∧sgE a=Lib.join (p++facT (txL<|(a.args.drop 1).drop i)) [42]∧p.length≤i∧μ=(1 - i)) _ ⟨_,_,0,[],none,0,bM,rfl,rfl,rfl,rfl,rfl,rfl,rfl,k,e,g,s,OS.nil,m,H,(by omega),(Juy hb ba am aw (by omega)),(Nat.zero_le _),rfl⟩ ?_);rintro dF dG dH ⟨dI,dJ,i,p,pa,pc,aH,aI,aJ,aK,aL,aM,aO,aP,k,e,g,s,K,o,r,hi,hQ,hpi,cq⟩;obtain⟨dK,rfl⟩:=rebK (aC aI<|aC aJ<|aC aK<|aC aL<|aC aM<|aC aO<|aC aP aN);clear aI aJ aK aL aM aO aP;refine Rg<|Ol<|J1h rfl rfl (fun a8=>?_)<|fun a8=>?_
 ·refine Nl (J06<|J0w rfl<|J01<|J06<|W.block<|J06 ?_);have cr:i=0:=by omega
  have he:(a.args.drop 1).getD i default=(a.args.getD 1 default):=by rw [cr];exact d1_at
  have hngi:negB ((a.args.drop 1).getD i default).op ((a.args.drop 1).getD i default).c.q=false:=by rw [he];exact bl
  refine J0y (Ol<|J1l (j:=i) (u:=((a.args.drop 1).getD i default)) s sl29 io31 rfl rfl rfl (Jf (by omega)) ?_);intro dL dM cw aQ;obtain⟨ac,ad,ae,af,ag,ah,ai,aj,rfl,d⟩:=Jv aQ.rd;refine Ol (J14 (cs:=(ec ((a.args.drop 1).getD i default) ac ad ae af ag ah ai aj)) ag31 rfl rfl aQ.cell<|Ol<|J24 aH io31 rfl ?_);intro dN dO dP dQ ar aR A bN bO;have bP:=ar _ o.blk.lt;have bQ:=ar _ r.blk.lt;replace K:=K.sp A aR bO;replace o:=o.spn A;replace r:=r.spn A;refine On (J0u (cs':=(ec ((a.args.drop 1).getD i default) ac ad ae af ag ah ai aj)) aR bN io31 rfl rfl rfl rfl rfl rfl ?_);intro dR an B I;replace k:=(k.sp A).sp B;replace e:=(e.sp A).sp B;replace g:=(g.sp A).sp B;replace s:=(s.sp A).sp B;replace d:=(d.sp A).sp B;refine Nl (Rh<|Ol<|J0s Zk rfl<|Ol<|J0x I pl3 rfl rfl<|Ol<|J1y (t:=false) rfl rfl (decide_eq_false (by rw [he];omega))<|Om<|OgD<|J0s Zk rfl<|OgD<|J0x I pl3 rfl rfl<|OgD<|J1y (t:=false) rfl rfl (decide_eq_false (by rw [he];omega))<|OF ?_);refine Om (OgD<|J0z (vs:=(ec ((a.args.drop 1).getD i default) ac ad ae af ag ah ai aj)) I ag31 rfl rfl rfl<|OgD<|J0t an Jni rfl rfl (Jmp an.bd (Ju ((a.args.drop 1).getD i default) d.lo d.hi d.name d.n d.num d.den d.args) (by rw [he];exact bb.1) (by rw [he];exact bb.2)) ?_);intro dS dT ao z aS;replace K:=(K.sp B an<|fun _ h=>h).sp z ao (fun _ h=>h)
  replace d:=d.sp z;replace o:=(o.spo B bP).spn z;replace r:=(r.spo B bQ).spn z;replace I:=I.spn z;rw [hngi] at aS;subst aS;refine OF (Nl<|J0v rfl<|J01<|J0y<|Om<|Ol<|J0z (vs:=(ec ((a.args.drop 1).getD i default) ac ad ae af ag ah ai aj)) I ag31 rfl rfl rfl<|Ol<|J0t ao Jv7 rfl rfl ((he.symm ▸ hP:PlS ((a.args.drop 1).getD i default)) ao.bd (Ju ((a.args.drop 1).getD i default) d.lo d.hi d.name d.n d.num d.den d.args)) ?_);intro dU dV aT F bR;replace k:=(k.sp z).sp F;replace e:=(e.sp z).sp F;replace g:=(g.sp z).sp F;replace s:=(s.sp z).sp F;subst bR;refine Ol (J1k (T:=Jcz) (css:=[[(str<|plE<|(a.args.drop 1).getD i default)]]) (l:=[(plE<|(a.args.drop 1).getD i default)]) aT sl50 io9 (by decide) (by decide) rfl (by kernel_rfl) ⟨⟨rfl,(by rw [he];simp only [maxLen];omega)⟩,trivial⟩ ?_);intro dW dX aU G bS;replace K:=(K.sp F aT<|fun _ h=>h).sp G aU (fun _ h=>h)
  replace o:=(o.spn F).spn G;replace r:=(r.spn F).spn G;refine Ol (J1o (T:=Jcz) aU sl50 io9 rfl rfl K (Kb bS) (by rw [List.length_singleton];simp only [maxLen];omega) (by rw [List.length_singleton];omega) rfl ?_);intro dY dZ d0 bT J d1 aV;replace k:=(k.sp G).tr J.tx;replace e:=(e.sp G).tr J.tx;replace g:=(g.sp G).tr J.tx;replace s:=(s.sp G).tr J.tx;replace o:=o.ap J o.mem;replace r:=r.ap J r.mem;obtain⟨bU,bV,rfl,_,_⟩:=aV.len;refine Oa<|Nl<|J0y<|Ol<|St.add rfl rfl (Jc (a:=i) (b:=1) (by omega))<|Om<|Nl<|⟨_,(by omega),_,_,(i+1),(p++[(plE<|(a.args.drop 1).getD i default)]),bU,bV,bT,rfl,rfl,rfl,rfl,rfl,rfl,rfl,k,e,g,s,aV,o,r,(by omega),(fa_st hQ (by omega)<|fa_0 (by rw [he];omega) (by rw [he];omega) hngi),(by rw [List.length_append,List.length_singleton];omega),rfl⟩
 refine Nl (J06<|J0v rfl<|J1j<|Rg<|Om ?_);obtain⟨d2,aW,cx,bW⟩:=K.freeze aH hX;refine Ol (J0t aW cb109 rfl rfl (Jwt aW.bd bW (by omega) (by rw [← Joq hQ (by omega)];omega)) ?_);intro d3 d4 bX d5 bY;subst bY;refine Om (Oa<|Oa<|Nl<|J04<|Zh rfl (J35 rfl) (J35 rfl)<|J02 ?_ bX.below);refine⟨_,_,rfl,?_,?_⟩
 ·skip
  exact congrArg (str)<|(Joq hQ (by omega)).symm
 ·skip
  exact congrArg (Value.bool)<|((sg_mi hb ba).symm.trans am).symm
end Go.Wf
namespace Go.Wf
open Go Go.Lib
def tA1:By:=[69,52,94,51,32,45,32,69,54,94,50]
def tA2:By:=[69,52,32,43]
def eA3:GExpr:=eOp 12 [3] [eOp 2 [4] []]
def eA2:GExpr:=eOp 12 [2] [eOp 2 [6] []]
def eAp:GExpr:=eOp 11 [] [eNum (-1) 1,eA2]
def eA1:GExpr:=eOp 10 [] [eA3,eAp]
theorem rdA1:zc tA1= .ok eA1 0:=by kernel_rfl
theorem rdA2:zc tA2= .er 19 4:=by kernel_rfl
section
variable {a:GExpr}
theorem Jjx(h1:cntOk a)(h2:nameOk a)(h3:Jle a)(h4:errL a.args=0):errE a=0:=by
 rw [Jam]
 have:Qi a=0:=by unfold Qi;rw [if_pos ⟨h1,h2⟩,if_pos h3]
 rw [if_pos this];exact h4
theorem Jqn(h:a.n=[]):Jle a:=fun i hi=>by rw [h] at hi;simp at hi
theorem Juh{k:Int}(h:a.n=[k])(h1:lA a.op≤k)(h2:k≤lB a.op):Jle a:=fun i hi=>by
 have:i=0:=by rw [h] at hi;simp at hi;exact hi
 subst this;rw [h];exact⟨h1,h2⟩
theorem nm_0(h8:¬ a.op=8)(h:a.name=[])(hc:a.op=1∨a.c=Jnb):nameOk a:=
 ⟨by rw [decide_eq_false h8,h];rfl,.inr h,hc.imp_right fun e=>by rw [e];rfl⟩
theorem Joh{b:GExpr}(h:errE b=0):errL [b]=0:=by rw [errL,if_pos h,errL]
theorem Jod{b c:GExpr}(h:errE b=0)(h2:errE c=0):errL [b,c]=0:=by rw [errL,if_pos h];exact Joh h2
end
theorem Jc6{a:GExpr}{o:Int}{n l:Nat}(ho:a.op=o)(hn:a.n.length=n)(hl:a.args.length=l)(h:decide (1≤o∧o≤18∧cA o≤(n:Int)∧(n:Int)≤cB o∧cC o≤(l:Int)∧(l:Int)≤cD o)=true):cntOk a:=by
 subst ho;subst hn;subst hl;obtain⟨h1,h2,h3,h4,h5,h6⟩:=of_decide_eq_true h;exact⟨h1,h2,h3,h4,h5,h6⟩
theorem n8{o k:Int}(h:o=k)(hk:decide (k=8)=false):¬ o=8:=by rw [h];exact of_decide_eq_false hk
theorem Joi:errL []=0:=by rw [errL]
theorem erE4{k:Int}(h0:0≤k)(h1:k≤1000000):errE (eOp 2 [k] [])=0:=
 Jjx (Jc6 (o:=2) (n:=1) (l:=0) rfl rfl rfl (by decide)) (nm_0 (n8 (k:=2) rfl rfl) rfl (.inr rfl)) (Juh rfl h0 h1) Joi
theorem erPw{k:Int}{b:GExpr}(h0: -200≤k)(h1:k≤200)(hb:errE b=0):errE (eOp 12 [k] [b])=0:=
 Jjx (Jc6 (o:=12) (n:=1) (l:=1) rfl rfl rfl (by decide)) (nm_0 (n8 (k:=12) rfl rfl) rfl (.inr rfl)) (Juh rfl h0 h1) (Joh hb)
theorem erNu:errE (eNum (-1) 1)=0:=
 Jjx (Jc6 (o:=1) (n:=0) (l:=0) rfl rfl rfl (by decide)) (nm_0 (n8 (k:=1) rfl rfl) rfl (.inl rfl)) (Jqn rfl) Joi
theorem erPr{b c:GExpr}{op:Int}(ho:op=10∨op=11)(hb:errE b=0)(hc:errE c=0):errE (eOp op [] [b,c])=0:=by
 rcases ho with rfl | rfl
 ·exact Jjx (Jc6 (o:=10) (n:=0) (l:=2) rfl rfl rfl (by decide)) (nm_0 (n8 (k:=10) rfl rfl) rfl (.inr rfl)) (Jqn rfl) (Jod hb hc)
 ·exact Jjx (Jc6 (o:=11) (n:=0) (l:=2) rfl rfl rfl (by decide)) (nm_0 (n8 (k:=11) rfl rfl) rfl (.inr rfl)) (Jqn rfl) (Jod hb hc)
theorem erA1:errE eA1=0:=erPr (.inl rfl) (erPw (by decide) (by decide) (erE4 (by decide) (by decide))) (erPr (.inr rfl) erNu (erPw (by decide) (by decide) (erE4 (by decide) (by decide))))
theorem ckA1:K3 eA1=0:=by
 unfold K3;rw [if_pos ⟨by decide +kernel,by decide +kernel⟩];exact erA1
theorem it1{n:Nat}(h:n < 10):itoa (n:Int)=[UInt8.ofNat (48+n)]:=by rw [itoa_nonneg,decDigits_one h]
theorem wrA1:wrE eA1=tA1:=by
 have e:wrE eA1=[69]++itoa ((4:Nat):Int)++[94]++itoa ((3:Nat):Int)++([32,45,32]++(([69]++itoa ((6:Nat):Int)++[94]++itoa ((2:Nat):Int))++[])):=by kernel_rfl
 rw [e,it1 (by decide),it1 (by decide),it1 (by decide),it1 (by decide)];rfl
theorem okA1:okE eA1:=by
 have h:∀ op n l,okL l→okE (eOp op n l):=fun op n l h=>y0 h;have hn:okE (eNum (-1) 1):=by
  rw [X3];exact⟨by decide +kernel,by decide +kernel,by decide +kernel,by rw [Jfy];intro i hi;exact absurd hi (Nat.not_lt_zero _)⟩
 have h0:okL []:=by rw [Jfy];intro i hi;exact absurd hi (Nat.not_lt_zero _)
 have h1:∀ {b},okE b→okL [b]:=fun hb=>by unfold okL;exact⟨hb,h0⟩
 have h2:∀ {b c},okE b→okE c→okL [b,c]:=fun hb hc=>by unfold okL;exact⟨hb,h1 hc⟩
 exact h _ _ _ (h2 (h _ _ _ (h1 (h _ _ _ h0))) (h _ _ _ (h2 hn (h _ _ _ (h1 (h _ _ _ h0))))))
theorem paA1:Z4 tA1=(eA1,0,0):=by
 unfold Z4;rw [if_neg (by decide),rdA1]
 show(if K3 eA1=0 then(eA1,0,0) else(Kq,0,K3 eA1))=_
 rw [if_pos ckA1]
theorem paA2:Z4 tA2=(Kq,4,19):=by
 unfold Z4;rw [if_neg (by decide),rdA2]
theorem rfA1:RdF tA1:=by unfold RdF;rw [rdA1];exact Nat.zero_le _
theorem rfA2:RdF tA2:=by unfold RdF;rw [rdA2];exact⟨by decide,by decide⟩
end Go.Wf
