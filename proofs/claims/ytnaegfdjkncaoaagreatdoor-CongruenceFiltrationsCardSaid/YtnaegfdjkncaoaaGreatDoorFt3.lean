/- Part 3 of the texts for the claim. -/
import Derived.Test.YtnaegfdjkncaoaaGreatDoorFt2
set_option linter.unusedVariables false
set_option linter.unusedSimpArgs false
set_option maxRecDepth 100000
set_option maxHeartbeats 4000000
noncomputable section
namespace Go.Wf
open Go
theorem yQ{p U:List Nat}{i j:Nat}(hp:p.length=i)(hj:j=i)(h:j<U.length):(p++U.drop i)[j]? =some (U.getD j 0):=by
 subst hj;rw[WU (by omega),hp,ZV,WX,YH,UJ,UL h];rfl
theorem FA{p U:List Nat}{i d:Nat}(hp:p.length=i)(h:i<U.length):(p++U.drop i).set i d=(p++[d])++U.drop (i+1):=by
 rw[XW,if_neg (by omega),hp,ZV,WM h,XX,UF];rfl
theorem Cy{p U:List Nat}{i j d:Nat}(hp:p.length=i)(hj:j=i)(h:U.length=i+1):(p++U.drop i).set j d=p++[d]:=by
 subst hj;rw[FA hp (by omega),UY (by omega),U8]
theorem Rn{k a r top:Nat}(h:0<a)(hv:k*a+r=top):k≤top:=UC (YZ k h) (by omega)
theorem Ia{k a b:Nat}(h:a<k*b):0<k:=Nat.pos_of_ne_zero fun e=>by rw[e,Jac] at h;omega
theorem qH{k a r top:Nat}(h:0<k)(hv:k*a+r=top):(k-1)*a+(r+a)=top:=by
 obtain⟨m,rfl⟩:∃m,k=m+1:=⟨k-1,by omega⟩;rw[YE,Nat.one_mul] at hv;rw[YF];omega
theorem QY{v:List Nat}(hn:2≤v.length):val v=val (v.take (v.length-2))+4294967296^(v.length-2)*(v.getD (v.length-2) 0+4294967296*v.getD (v.length-1) 0):=by
 have:=BG (l:=v) (m:=v.length-2) (by omega)
 rw[show v.length-2+1=v.length-1 by omega] at this;exact this
theorem Pn{U:List Nat}{n:Nat}(hn:2≤n)(h:U.length=n+1):val U=val (U.take (n-2))+4294967296^(n-2)*(U.getD (n-2) 0+4294967296*(U.getD n 0*4294967296+U.getD (n-1) 0)):=by
 have:=Bj (l:=U) (m:=n-2) (by omega)
 rw[show n-2+1=n-1 by omega,show n-2+2=n by omega] at this;exact this
theorem X7{l:List Nat}{k:Nat}(h:Jp l)(hk:k≤l.length):val (l.take k)<4294967296^k:=by
 have:=Zo _ (Ve h k)
 rwa [UH,ZF hk] at this
theorem kn_T{U v:List Nat}(sv:Jp v)(hV:0<val v):val U%val v<4294967296^(v.length+1):=by
 have a:=UI (val U) hV;have b:=Zo v sv;have d:4294967296^v.length≤4294967296^(v.length+1):=U1 (by omega) (by omega);omega
def CM:List UInt8:=(List.range 256).map fun i=>UInt8.ofNat (blen i)
theorem ie{x:Nat}(h:x<4294967296):blen x≤32:=i7 (k:=32) h
theorem tabv{j:Nat}(h:j<256):(UInt8.ofNat (blen j)).toNat=blen j:=by
 have:=i7 (k:=8) h
 show blen j%256=_;omega
theorem Vb{j:Nat}(h:j<256):CM[j]? =some (UInt8.ofNat (blen j)):=by
 unfold CM;rw[VA,WZ h];rfl
theorem Ew{x:Nat}(h:65536≤x)(a:256≤x/65536)(hx:x<4294967296):blen x=blen (x/65536/256%256)+24:=by
 rw[ZG (by omega),Vd (x:=x) (k:=16) h,Vd (x:=x/2^16) (k:=8) a]
theorem DR{x:Nat}(h:65536≤x)(a:x/65536<256):blen x=blen (x/65536%256)+16:=by
 rw[ZG (by omega),Vd (x:=x) (k:=16) h]
theorem GX{x:Nat}(h:256≤x)(hx:x<65536):blen x=blen (x/256%256)+8:=by
 rw[ZG (by omega),Vd (x:=x) (k:=8) h]
theorem FN{x:Nat}(h:x<256):blen x=blen (x%256):=by
 rw[ZG h]
end Go.Wf
namespace Go.Wf
open Go Go.Proofs Go.RowKit
theorem DH{X:Nat→Prop}{w:World}(hX:XB X w){x:Nat}(hx:x<4294967296):CRt 158 #[(.int .u32 ((x:Nat):Int))] w fun v w'=>v=(.int .i64 (((blen x):Nat):Int)):=by
 have C:=Cx.start hX;refine Cgo Tryz.func158 rfl rfl rfl<|Rg<|Ua<|Rh<|Ub<|SB rfl rfl (fun f=>?_)<|fun f=>?_
 ·refine Nl<|Uf<|Ub<|SC rfl rfl (by decide) (Ym (d:=65536) _ (by decide))<|Ua<|RK<|Ua<|Rh<|Ub<|SB rfl rfl (fun g=>?_)<|fun g=>?_
  ·refine Nl (Uf<|Ub<|SC rfl rfl (by decide) (Ym (d:=256) _ (by decide))<|Ua<|RK<|Ub<|St.add (z:=(16+8)) rfl rfl (UP _ (by omega))<|Ua<|RZ ?_);have e:=UInt8.toNat_lt (UInt8.ofNat<|blen<|(x/65536)/256%256);refine RK (Om<|Ub<|R2 (z:=((((x/65536)/256)%256:Nat):Int)) us96 un5 rfl (X6 _)<|Ol<|SR (j:=((x/65536)/256)%256) (c:=(UInt8.ofNat<|blen<|((x/65536)/256)%256)) un9 rfl rfl rfl (Vb<|UI _ (by decide))<|Ol<|R2 (z:=(((UInt8.ofNat<|blen<|((x/65536)/256)%256).toNat:Nat):Int)) us5 un3 rfl (UP _ (by omega)) ?_);exact Ol<|St.add (z:=((16+8)+(((UInt8.ofNat<|blen<|((x/65536)/256)%256).toNat:Nat):Int))) rfl rfl (UP _ (by omega))<|Ua<|RY<|Wq rfl rfl C<|congrArg (Value.int _)<|(by rw[tabv<|UI _ (by decide),Ew (x:=x) (by omega) (by omega) hx];omega)
  refine Nl (Uc<|RZ ?_);have e:=UInt8.toNat_lt (UInt8.ofNat<|blen<|x/65536%256);refine RK (Om<|Ub<|R2 (z:=(((x/65536)%256:Nat):Int)) us96 un5 rfl (X6 _)<|Ol<|SR (j:=(x/65536)%256) (c:=(UInt8.ofNat<|blen<|(x/65536)%256)) un9 rfl rfl rfl (Vb<|UI _ (by decide))<|Ol<|R2 (z:=(((UInt8.ofNat<|blen<|(x/65536)%256).toNat:Nat):Int)) us5 un3 rfl (UP _ (by omega)) ?_);exact Ol<|St.add rfl rfl (Jc (a:=16) (b:=(UInt8.ofNat<|blen<|(x/65536)%256).toNat) (by omega))<|Ua<|RY<|Wq rfl rfl C<|congrArg (Value.int _)<|(by rw[tabv<|UI _ (by decide),DR (x:=x) (by omega) (by omega)];omega)
 refine Nl<|Uc<|Rh<|Ub<|SB rfl rfl (fun h=>?_)<|fun h=>?_
 ·refine Nl (Uf<|Ub<|SC rfl rfl (by decide) (Ym (d:=256) _ (by decide))<|Ua<|RK<|Ub<|St.add (z:=(0+8)) rfl rfl (UP _ (by omega))<|Ua<|RZ ?_);have e:=UInt8.toNat_lt (UInt8.ofNat<|blen<|x/256%256);refine RK (Om<|Ub<|R2 (z:=(((x/256)%256:Nat):Int)) us96 un5 rfl (X6 _)<|Ol<|SR (j:=(x/256)%256) (c:=(UInt8.ofNat<|blen<|(x/256)%256)) un9 rfl rfl rfl (Vb<|UI _ (by decide))<|Ol<|R2 (z:=(((UInt8.ofNat<|blen<|(x/256)%256).toNat:Nat):Int)) us5 un3 rfl (UP _ (by omega)) ?_);exact Ol<|St.add (z:=((0+8)+(((UInt8.ofNat<|blen<|(x/256)%256).toNat:Nat):Int))) rfl rfl (UP _ (by omega))<|Ua<|RY<|Wq rfl rfl C<|congrArg (Value.int _)<|(by rw[tabv<|UI _ (by decide),GX (x:=x) (by omega) (by omega)];omega)
 refine Nl (Uc<|RZ ?_);have e:=UInt8.toNat_lt (UInt8.ofNat<|blen<|x%256);refine RK (Om<|Ub<|R2 (z:=((x%256:Nat):Int)) us96 un5 rfl (X6 _)<|Ol<|SR (j:=x%256) (c:=(UInt8.ofNat<|blen<|x%256)) un9 rfl rfl rfl (Vb<|UI _ (by decide))<|Ol<|R2 (z:=(((UInt8.ofNat<|blen<|x%256).toNat:Nat):Int)) us5 un3 rfl (UP _ (by omega)) ?_);exact Ol<|St.add rfl rfl (Jc (a:=0) (b:=(UInt8.ofNat<|blen<|x%256).toNat) (by omega))<|Ua<|RY<|Wq rfl rfl C<|congrArg (Value.int _)<|(by rw[tabv<|UI _ (by decide),FN (x:=x) (by omega)];omega)
theorem LW{X:Nat→Prop}{w:World}(hX:XB X w){x:Nat}(hx:x<4294967296):CRt 148 #[(.int .u32 ((x:Nat):Int))] w fun v w'=>v=(.int .i64 (((32-blen x):Nat):Int)):=by
 have C:=Cx.start hX;have hb:=ie hx;refine Cgo Tryz.func148 rfl rfl rfl (Rg<|Ua<|Rg<|Ub<|RH C N7 rfl rfl (DH C.bd (x:=x) (by omega)) ?_);intro d e a f b;subst b;exact Ol<|St.sub (z:=(32-(((blen x):Nat):Int))) rfl rfl (UP _ (by omega))<|Ua<|RY<|Wq rfl rfl a<|congrArg (Value.int _)<|(by omega)
theorem FE{X:Nat→Prop}{w:World}(hX:XB X w){g j c:Nat}{A U Z:List Nat}(hA:A.length=j)(hB:Blk w g ((A++U++Z).map u32v) 96)(hXg:X g){v1:Value}{V:List Nat}(D:RS Jd X w v1 V)(sU:Jp U)(hn:2≤V.length)(hnB:V.length≤1099511627776)(hU:U.length=V.length+1)(htop:0<(V.getD (V.length-1) 0))(hlt:val U<val V*4294967296):Calls Tryz.prog 150 #[(.slice (some ⟨g,j,none⟩) U.length c),v1] w (RetM w g fun v w'=>v=(.int .u32 (((val U/val V):Nat):Int))∧Blk w' g ((A++(Jx (V.length+1) (val U%val V))++Z).map u32v) 96):=by
 obtain⟨J,K,rfl,_,_⟩:=D.len;have C:=TC g hX hXg;have o0:=TZ hB;have sv:=D.u32_small;have hUe:=Pn hn hU;have hVe:=QY hn;have bx:=Jf sU (V.length-2);have hun:=Jf sU V.length;have bz:=Jf sU (V.length-1);have dw:=Jf sv (V.length-1);have N:=Jf sv (V.length-2);have hUl:=X7 (k:=V.length-2) sU (by omega);have hVl:=X7 (k:=V.length-2) sv (by omega);have htopb:=Et hVl N bz (by rw[←hUe,←hVe];exact hlt);have hVpos:0<val V:=by rw[hVe];exact UB (ZM (ZS (by decide)) (show 0<(V.getD (V.length-2) 0)+4294967296*(V.getD (V.length-1) 0) by omega))<|YX _ _
 refine Cgo Tryz.func150 rfl rfl rfl<|Rg<|Ua<|Rg<|Ub<|St.len sl38 rfl<|Ua<|RZ<|Sg mixed 12 [[],[],[0,1],[2],[3],[4],[],[],[7],[6,8],[9],[10]] C [fx<|.slice (some ⟨g,j,none⟩) U.length c,fx<|.int .i64 ((V.length:Nat):Int),fx<|.pointer (some ⟨g,j+V.length,none⟩),fx<|.int .u32 (((U.getD V.length 0):Nat):Int),fx<|.int .u64 (((U.getD V.length 0):Nat):Int),fx<|.int .u64 (((U.getD V.length 0)*4294967296:Nat):Int),fx<|.slice (some ⟨g,j,none⟩) U.length c,fx<|.int .i64 ((V.length:Nat):Int),fx<|.int .i64 ((V.length-1:Nat):Int),fx<|.pointer (some ⟨g,j+(V.length-1),none⟩),fx<|.int .u32 (((U.getD (V.length-1) 0):Nat):Int),fx<|.int .u64 (((U.getD (V.length-1) 0):Nat):Int)] (by kernel_rfl) ⟨sx,sx,sx,sx,sx,sx,sx,sx,sx,sx,sx,sx,trivial⟩ fun f4 T w6 ⟨P,bA⟩ L=>?_
 have o0:=o0.spn bA;have L:Keep [19,20,21,22,23,24,25,26,27,28,29,30] _ f4:=L;refine⟨⟨fun _=>?_,fun _=>?_,fun⟨dx,dy,_⟩=>?_,fun⟨dz,_⟩=>?_,fun⟨dB,_⟩=>?_,fun⟨dC,_⟩=>?_,fun _=>?_,fun _=>?_,fun⟨dD,_⟩=>?_,fun⟨dE,dG,_⟩=>?_,fun⟨dH,_⟩=>?_,fun⟨dI,_⟩=>?_,trivial⟩,fun⟨dJ,dK,dL,dM,dN,dO,dP,dQ,dR,dS,dT,dU,_⟩=>?_⟩
 ·exact Sd0 L fun _=>RP ⟨T,RJ P,rfl⟩
 ·exact Sd0 L fun _=>RP ⟨T,RJ P,rfl⟩
 ·exact Js L (aC dx<|aC dy aN) fun _=>R8<|Sw (j:=V.length) sl38 io96 rfl rfl rfl (by omega) ⟨T,RJ P,rfl⟩
 ·exact Sd1 L dz fun _=>SD (j:=V.length) (u:=(U.getD V.length 0)) hA o0 pl96 rfl (Ji (by omega)) ⟨T,RJ P,rfl⟩
 ·exact Sd1 L dB fun _=>R2 (z:=(((U.getD V.length 0):Nat):Int)) us96 un97 rfl (UO _ (by omega)) ⟨T,RJ P,rfl⟩
 ·exact Sd1 L dC fun _=>SP (z:=(((U.getD V.length 0)*4294967296:Nat):Int)) rfl rfl (by decide) (jH hun) ⟨T,RJ P,rfl⟩
 ·exact Sd0 L fun _=>RP ⟨T,RJ P,rfl⟩
 ·exact Sd0 L fun _=>RP ⟨T,RJ P,rfl⟩
 ·exact Sd1 L dD fun _=>St.sub rfl rfl (Zy (a:=V.length) (b:=1) (by omega) (by omega)) ⟨T,RJ P,rfl⟩
 ·exact Js L (aC dE<|aC dG aN) fun _=>R8<|Sw (j:=V.length-1) sl38 io96 rfl rfl rfl (by omega) ⟨T,RJ P,rfl⟩
 ·exact Sd1 L dH fun _=>SD (j:=V.length-1) (u:=(U.getD (V.length-1) 0)) hA o0 pl96 rfl (Ji (by omega)) ⟨T,RJ P,rfl⟩
 ·exact Sd1 L dI fun _=>R2 (z:=(((U.getD (V.length-1) 0):Nat):Int)) us96 un97 rfl (UO _ (by omega)) ⟨T,RJ P,rfl⟩
 obtain⟨gI,rfl⟩:=mixK L (aC dJ<|aC dK<|aC dL<|aC dM<|aC dN<|aC dO<|aC dP<|aC dQ<|aC dR<|aC dS<|aC dT<|aC dU aN);refine Ol<|S8 (z:=(((U.getD V.length 0)*4294967296+(U.getD (V.length-1) 0):Nat):Int)) rfl rfl (iL hun bz)<|Ua<|RZ<|Sg mixed 17 [[],[],[],[2],[1,3],[4],[5],[0,6],[],[],[],[10],[9,11],[12],[13],[8,14],[7]] P [fx<|.int .u64 (((U.getD V.length 0)*4294967296+(U.getD (V.length-1) 0):Nat):Int),fx<|.slice J V.length K,fx<|.int .i64 ((V.length:Nat):Int),fx<|.int .i64 ((V.length-1:Nat):Int),fE Jd<|V.getD (V.length-1) 0,fx<|.int .u32 (((V.getD (V.length-1) 0):Nat):Int),fx<|.int .u64 (((V.getD (V.length-1) 0):Nat):Int),fx<|.int .u64 ((((U.getD V.length 0)*4294967296+(U.getD (V.length-1) 0))/(V.getD (V.length-1) 0):Nat):Int),fx<|.int .u64 (((U.getD V.length 0)*4294967296+(U.getD (V.length-1) 0):Nat):Int),fx<|.slice J V.length K,fx<|.int .i64 ((V.length:Nat):Int),fx<|.int .i64 ((V.length-1:Nat):Int),fE Jd<|V.getD (V.length-1) 0,fx<|.int .u32 (((V.getD (V.length-1) 0):Nat):Int),fx<|.int .u64 (((V.getD (V.length-1) 0):Nat):Int),fx<|.int .u64 ((((U.getD V.length 0)*4294967296+(U.getD (V.length-1) 0))%(V.getD (V.length-1) 0):Nat):Int),fx<|.int .u64 ((((U.getD V.length 0)*4294967296+(U.getD (V.length-1) 0))/(V.getD (V.length-1) 0):Nat):Int)] (by kernel_rfl) ⟨sx,sx,sx,sx,sE,sx,sx,sx,sx,sx,sx,sx,sE,sx,sx,sx,sx,trivial⟩ fun dV G gJ ⟨F,bB⟩ E=>?_
 have D:=(D.sp bA).sp bB;have o0:=o0.spn bB;have E:Keep [32,33,34,35,36,37,38,39,40,41,42,43,44,45,46,47,7] _ dV:=E;refine⟨⟨fun _=>?_,fun _=>?_,fun _=>?_,fun⟨dW,_⟩=>?_,fun⟨dX,dY,_⟩=>?_,fun⟨dZ,_⟩=>?_,fun⟨d0,_⟩=>?_,fun⟨d1,d2,_⟩=>?_,fun _=>?_,fun _=>?_,fun _=>?_,fun⟨d3,_⟩=>?_,fun⟨d4,d5,_⟩=>?_,fun⟨d6,_⟩=>?_,fun⟨d7,_⟩=>?_,fun⟨d8,d9,_⟩=>?_,fun⟨ea,_⟩=>?_,trivial⟩,fun⟨eb,ec,ed,ee,ef,eg,eh,ei,ej,ek,el,em,en,eo,ep,eq,er,_⟩=>?_⟩
 ·exact Sd0 E fun _=>RP ⟨G,RJ F,rfl⟩
 ·exact Sd0 E fun _=>RP ⟨G,RJ F,rfl⟩
 ·exact Sd0 E fun _=>RP ⟨G,RJ F,rfl⟩
 ·exact Sd1 E dW fun _=>St.sub rfl rfl (Zy (a:=V.length) (b:=1) (by omega) (by omega)) ⟨G,RJ F,rfl⟩
 ·refine Js E (aC dX<|aC dY aN) fun _=>R8 (Sd (j:=V.length-1) (u:=(V.getD (V.length-1) 0)) D sl38 io96 rfl rfl rfl (Ji (by omega)) ?_);intro gK gL bG bC;obtain⟨rfl,eM⟩:bG=_∧_:=bC.rd;exact⟨G,RJ F,⟨_,_,_,rfl,bC⟩⟩
 ·obtain⟨gM,gN,bH,es,bD⟩:=dZ;obtain⟨rfl,eN⟩:bH=_∧_:=bD.rd;exact Sd1 E es fun _=>Sa pl96 rfl (bD.cell 0 _ rfl) ⟨G,RJ F,rfl⟩
 ·exact Sd1 E d0 fun _=>R2 (z:=(((V.getD (V.length-1) 0):Nat):Int)) us96 un97 rfl (UO _ (by omega)) ⟨G,RJ F,rfl⟩
 ·exact Js E (aC d1<|aC d2 aN) fun _=>R8<|SF rfl rfl (by omega) (X9 (a:=(U.getD V.length 0)*4294967296+(U.getD (V.length-1) 0)) (b:=(V.getD (V.length-1) 0)) (by omega)) ⟨G,RJ F,rfl⟩
 ·exact Sd0 E fun _=>RP ⟨G,RJ F,rfl⟩
 ·exact Sd0 E fun _=>RP ⟨G,RJ F,rfl⟩
 ·exact Sd0 E fun _=>RP ⟨G,RJ F,rfl⟩
 ·exact Sd1 E d3 fun _=>St.sub rfl rfl (Zy (a:=V.length) (b:=1) (by omega) (by omega)) ⟨G,RJ F,rfl⟩
 ·refine Js E (aC d4<|aC d5 aN) fun _=>R8 (Sd (j:=V.length-1) (u:=(V.getD (V.length-1) 0)) D sl38 io96 rfl rfl rfl (Ji (by omega)) ?_);intro gO eO bg ae;obtain⟨rfl,ez⟩:bg=_∧_:=ae.rd;exact⟨G,RJ F,⟨_,_,_,rfl,ae⟩⟩
 ·obtain⟨eP,eQ,bh,bJ,af⟩:=d6;obtain⟨rfl,eA⟩:bh=_∧_:=af.rd;exact Sd1 E bJ fun _=>Sa pl96 rfl (af.cell 0 _ rfl) ⟨G,RJ F,rfl⟩
 ·exact Sd1 E d7 fun _=>R2 (z:=(((V.getD (V.length-1) 0):Nat):Int)) us96 un97 rfl (UO _ (by omega)) ⟨G,RJ F,rfl⟩
 ·exact Js E (aC d8<|aC d9 aN) fun _=>R8<|Sz rfl rfl (by omega) (Qe ((U.getD V.length 0)*4294967296+(U.getD (V.length-1) 0))<|V.getD (V.length-1) 0) ⟨G,RJ F,rfl⟩
 ·exact Sd1 E ea fun _=>St.assign ⟨G,RJ F,rfl⟩
 obtain⟨eR,eS,bi,bK,bL⟩:=ef;obtain⟨rfl,eB⟩:bi=_∧_:=bL.rd;obtain⟨eT,eU,bj,bM,bN⟩:=en;obtain⟨rfl,eC⟩:bj=_∧_:=bN.rd;obtain⟨eV,rfl⟩:=mixK E (aC eb<|aC ec<|aC ed<|aC ee<|aC bK<|aC eg<|aC eh<|aC ei<|aC ej<|aC ek<|aC el<|aC em<|aC bM<|aC eo<|aC ep<|aC eq<|aC er aN);refine Ua<|RZ<|SX (fun f v=>∃(x y:Nat→Prop) (q:Nat),Cx X ⟨w,(· =g)⟩ x y v∧f 0=(.slice (some ⟨g,j,none⟩) U.length c)∧f 1=(.slice J V.length K)∧f 4=(.int .u32 0)∧f 5=(.int .i64 ((V.length:Nat):Int))∧f 7=(.int .u64 ((q:Nat):Int))∧RS Jd x v (.slice J V.length K) V∧Own ⟨w,(· =g)⟩ y v g ((A++U++Z).map u32v) 96∧val U/val V≤q∧q≤val U/val V+1∧q<4294967296) ?_ ?_
 ·refine W.block (Sc (fun μ f v=>∃(x y:Nat→Prop) (k:Nat) (r:Nat),Cx X ⟨w,(· =g)⟩ x y v∧f 0=(.slice (some ⟨g,j,none⟩) U.length c)∧f 1=(.slice J V.length K)∧f 4=(.int .u32 0)∧f 5=(.int .i64 ((V.length:Nat):Int))∧f 7=(.int .u64 ((k:Nat):Int))∧f 8=(.int .u64 ((r:Nat):Int))∧RS Jd x v (.slice J V.length K) V∧Own ⟨w,(· =g)⟩ y v g ((A++U++Z).map u32v) 96∧val U/val V≤k∧k*(V.getD (V.length-1) 0)+r=(U.getD V.length 0)*4294967296+(U.getD (V.length-1) 0)∧r<4294967296∧μ=k) _ ⟨_,_,((U.getD V.length 0)*4294967296+(U.getD (V.length-1) 0))/(V.getD (V.length-1) 0),((U.getD V.length 0)*4294967296+(U.getD (V.length-1) 0))%(V.getD (V.length-1) 0),F,rfl,rfl,rfl,rfl,rfl,rfl,D,o0,(by rw[hUe,hVe];exact(Pe hUl bx).resolve_right (by omega)),(by rw[U6];exact YM _ _),(Nat.lt_trans (UI _ htop) dw),rfl⟩ ?_);rintro eW eX eY ⟨eZ,e0,k,r,ag,ah,ai,aj,ak,al,am,D,H,hk,hkr,hr,et⟩;obtain⟨e1,rfl⟩:=rebK (aC ah<|aC ai<|aC aj<|aC ak<|aC al<|aC am aN);clear ah ai aj ak al am;have hkb:=Rn htop hkr;refine RZ (RZ ?_);by_cases hgB:4294967296≤k
  ·refine Sg mixed 20 [[],[0],[1],[2],[2],[2],[2,5],[2,4,6],[2,7],[2,8],[2,3,9],[2],[2,11],[2],[2],[2,14],[2,13,15],[2,16],[2,17],[2,12,18]] ag [fx<|.int .u64 ((k:Nat):Int),fx<|.bool true,fx<|.bool true,noG,noG,noG,noG,noG,noG,noG,noG,noG,noG,noG,noG,noG,noG,noG,noG,noG] (by kernel_rfl) ⟨sx,sx,sx,(fun _ _ _ _ _ h _=>h),(fun _ _ _ _ _ h _=>h),(fun _ _ _ _ _ h _=>h),(fun _ _ _ _ _ h _=>h),(fun _ _ _ _ _ h _=>h),(fun _ _ _ _ _ h _=>h),(fun _ _ _ _ _ h _=>h),(fun _ _ _ _ _ h _=>h),(fun _ _ _ _ _ h _=>h),(fun _ _ _ _ _ h _=>h),(fun _ _ _ _ _ h _=>h),(fun _ _ _ _ _ h _=>h),(fun _ _ _ _ _ h _=>h),(fun _ _ _ _ _ h _=>h),(fun _ _ _ _ _ h _=>h),(fun _ _ _ _ _ h _=>h),(fun _ _ _ _ _ h _=>h),trivial⟩ fun bO s e2 ⟨o,an⟩ l=>?_
   have D:=D.sp an;have H:=H.spn an;have l:Keep [48,49,50,51,52,53,54,55,56,57,58,59,60,61,62,63,64,65,66,67] _ bO:=l;refine⟨⟨fun _=>?_,fun⟨bP,_⟩=>?_,fun⟨bQ,_⟩=>?_,fun⟨bR,_⟩=>?_,fun⟨bS,_⟩=>?_,fun⟨bT,_⟩=>?_,fun⟨bU,e3,_⟩=>?_,fun⟨bV,e4,e5,_⟩=>?_,fun⟨bW,e6,_⟩=>?_,fun⟨bX,e7,_⟩=>?_,fun⟨bY,e8,e9,_⟩=>?_,fun⟨bZ,_⟩=>?_,fun⟨b0,fa,_⟩=>?_,fun⟨b1,_⟩=>?_,fun⟨b2,_⟩=>?_,fun⟨b3,fb,_⟩=>?_,fun⟨b4,fc,fd,_⟩=>?_,fun⟨b5,ff,_⟩=>?_,fun⟨b6,fg,_⟩=>?_,fun⟨b7,fh,fi,_⟩=>?_,trivial⟩,fun⟨b8,b9,ca,fj,fk,fl,fm,fn,fp,fq,ft,fu,fv,fw,fy,fB,fC,fD,fF,fG,_⟩=>?_⟩
   ·exact Sd0 l fun _=>RP ⟨s,RJ o,rfl⟩
   ·exact Sd1 l bP fun _=>SV (t:=true) rfl rfl (decide_eq_true (by omega)) ⟨s,RJ o,rfl⟩
   ·exact Sd1 l bQ fun _=>RP ⟨s,RJ o,rfl⟩
   ·exact Js l (aC bR aN) fun _=>Ss rfl rfl ⟨s,RJ o,trivial⟩
   ·exact Js l (aC bS aN) fun _=>Ss rfl rfl ⟨s,RJ o,trivial⟩
   ·exact Js l (aC bT aN) fun _=>Ss rfl rfl ⟨s,RJ o,trivial⟩
   ·exact Js l (aC bU aN) fun _=>Ss rfl rfl ⟨s,RJ o,trivial⟩
   ·exact Js l (aC bV aN) fun _=>Ss rfl rfl ⟨s,RJ o,trivial⟩
   ·exact Js l (aC bW aN) fun _=>Ss rfl rfl ⟨s,RJ o,trivial⟩
   ·exact Js l (aC bX aN) fun _=>Ss rfl rfl ⟨s,RJ o,trivial⟩
   ·exact Js l (aC bY aN) fun _=>Ss rfl rfl ⟨s,RJ o,trivial⟩
   ·exact Js l (aC bZ aN) fun _=>Ss rfl rfl ⟨s,RJ o,trivial⟩
   ·exact Js l (aC b0 aN) fun _=>Ss rfl rfl ⟨s,RJ o,trivial⟩
   ·exact Js l (aC b1 aN) fun _=>Ss rfl rfl ⟨s,RJ o,trivial⟩
   ·exact Js l (aC b2 aN) fun _=>Ss rfl rfl ⟨s,RJ o,trivial⟩
   ·exact Js l (aC b3 aN) fun _=>Ss rfl rfl ⟨s,RJ o,trivial⟩
   ·exact Js l (aC b4 aN) fun _=>Ss rfl rfl ⟨s,RJ o,trivial⟩
   ·exact Js l (aC b5 aN) fun _=>Ss rfl rfl ⟨s,RJ o,trivial⟩
   ·exact Js l (aC b6 aN) fun _=>Ss rfl rfl ⟨s,RJ o,trivial⟩
   ·exact Js l (aC b7 aN) fun _=>Ss rfl rfl ⟨s,RJ o,trivial⟩
   obtain⟨fH,rfl⟩:=mixK l (aC b8<|aC b9<|aC ca aN);refine Oz (OT<|Nl<|Ud<|RT<|W.block<|RZ ?_);have hq:val U/val V<k:=by rw[hUe,hVe];exact Is (by rw[←hUe,←hVe];exact hlt) hgB
   have Y:0<k:=by omega
   refine RK (Ub<|St.sub rfl rfl (Y1 (a:=k) (b:=1) (by omega) (by omega))<|Ua<|Rg<|Om<|Om<|Ub<|St.sub rfl rfl (Zy (a:=V.length) (b:=1) (by omega) (by omega))<|Ol<|Sd (j:=V.length-1) (u:=(V.getD (V.length-1) 0)) D sl38 io96 rfl rfl rfl (Ji (by omega)) ?_);intro fJ fK bk ao;obtain⟨rfl,eD⟩:bk=_∧_:=ao.rd;refine Ol<|Sa pl96 rfl (ao.cell 0 _ rfl)<|Ol<|R2 (z:=(((V.getD (V.length-1) 0):Nat):Int)) us96 un97 rfl (UO _ (by omega))<|Ol<|St.add rfl rfl (J6 (a:=r) (b:=(V.getD (V.length-1) 0)) (by omega))<|Ua<|Rg<|Ub<|SB rfl rfl (fun bl=>?_)<|fun bl=>?_
   ·refine Nl<|Ud<|Sf<|⟨_,_,(k-1),o,rfl,rfl,rfl,rfl,rfl,D,H,(iP hq),(by rw[hUe,hVe];exact ZC (wk hVl N htop htopb (qH Y hkr) (by omega)).1),(wk (Ul:=0) (u2:=0) hVl N htop htopb (qH Y hkr) (by omega)).2⟩
   refine Nl<|Uc<|⟨_,(by omega),_,_,(k-1),(r+(V.getD (V.length-1) 0)),o,rfl,rfl,rfl,rfl,rfl,rfl,D,H,(iP hq),(qH Y hkr),(by omega),rfl⟩
  refine Sg mixed 20 [[],[0],[1],[2],[2],[2],[2,5],[2,4,6],[2,7],[2,8],[2,3,9],[2],[2,11],[2],[2],[2,14],[2,13,15],[2,16],[2,17],[2,12,18]] ag [fx<|.int .u64 ((k:Nat):Int),fx<|.bool false,fx<|.bool false,fx<|.int .u64 ((k:Nat):Int),fx<|.slice J V.length K,fx<|.int .i64 ((V.length:Nat):Int),fx<|.int .i64 ((V.length-2:Nat):Int),fE Jd<|V.getD (V.length-2) 0,fx<|.int .u32 (((V.getD (V.length-2) 0):Nat):Int),fx<|.int .u64 (((V.getD (V.length-2) 0):Nat):Int),fx<|.int .u64 ((k*(V.getD (V.length-2) 0):Nat):Int),fx<|.int .u64 ((r:Nat):Int),fx<|.int .u64 ((r*4294967296:Nat):Int),fx<|.slice (some ⟨g,j,none⟩) U.length c,fx<|.int .i64 ((V.length:Nat):Int),fx<|.int .i64 ((V.length-2:Nat):Int),fx<|.pointer (some ⟨g,j+(V.length-2),none⟩),fx<|.int .u32 (((U.getD (V.length-2) 0):Nat):Int),fx<|.int .u64 (((U.getD (V.length-2) 0):Nat):Int),fx<|.int .u64 ((r*4294967296+(U.getD (V.length-2) 0):Nat):Int)] (by kernel_rfl) ⟨sx,sx,sx,sx,sx,sx,sx,sE,sx,sx,sx,sx,sx,sx,sx,sx,sx,sx,sx,sx,trivial⟩ fun cb B fM ⟨m,aq⟩ n=>?_
  have D:=D.sp aq;have H:=H.spn aq;have n:Keep [48,49,50,51,52,53,54,55,56,57,58,59,60,61,62,63,64,65,66,67] _ cb:=n;refine⟨⟨fun _=>?_,fun⟨cc,_⟩=>?_,fun⟨cd,_⟩=>?_,fun⟨ce,_⟩=>?_,fun⟨cf,_⟩=>?_,fun⟨cg,_⟩=>?_,fun⟨ch,ci,_⟩=>?_,fun⟨cj,ck,cl,_⟩=>?_,fun⟨cm,cn,_⟩=>?_,fun⟨co,cp,_⟩=>?_,fun⟨cq,cr,ct,_⟩=>?_,fun⟨cu,_⟩=>?_,fun⟨cw,cx,_⟩=>?_,fun⟨cz,_⟩=>?_,fun⟨cB,_⟩=>?_,fun⟨cC,cD,_⟩=>?_,fun⟨cE,cF,cG,_⟩=>?_,fun⟨cH,cI,_⟩=>?_,fun⟨cJ,cK,_⟩=>?_,fun⟨cL,cM,cN,_⟩=>?_,trivial⟩,fun⟨cO,cP,cQ,cR,cS,cT,cU,cV,cW,cX,cY,cZ,c0,c1,c3,c4,c6,c7,c8,c9,_⟩=>?_⟩
  ·exact Sd0 n fun _=>RP ⟨B,RJ m,rfl⟩
  ·exact Sd1 n cc fun _=>SV (t:=false) rfl rfl (decide_eq_false (by omega)) ⟨B,RJ m,rfl⟩
  ·exact Sd1 n cd fun _=>RP ⟨B,RJ m,rfl⟩
  ·exact Js n (aC ce aN) fun _=>Su rfl<|RP ⟨B,RJ m,rfl⟩
  ·exact Js n (aC cf aN) fun _=>Su rfl<|RP ⟨B,RJ m,rfl⟩
  ·exact Js n (aC cg aN) fun _=>Su rfl<|RP ⟨B,RJ m,rfl⟩
  ·exact Js n (aC ch<|aC ci aN) fun _=>Su rfl<|St.sub rfl rfl (Zy (a:=V.length) (b:=2) (by omega) (by omega)) ⟨B,RJ m,rfl⟩
  ·refine Js n (aC cj<|aC ck<|aC cl aN) fun _=>Su rfl (Sd (j:=V.length-2) (u:=(V.getD (V.length-2) 0)) D sl38 io96 rfl rfl rfl (Ji (by omega)) ?_);intro fO fP bm ar;obtain⟨rfl,eE⟩:bm=_∧_:=ar.rd;exact⟨B,RJ m,⟨_,_,_,rfl,ar⟩⟩
  ·obtain⟨fR,fS,bn,da,au⟩:=cn;obtain⟨rfl,eG⟩:bn=_∧_:=au.rd;exact Js n (aC cm<|aC da aN) fun _=>Su rfl<|Sa pl96 rfl (au.cell 0 _ rfl) ⟨B,RJ m,rfl⟩
  ·exact Js n (aC co<|aC cp aN) fun _=>Su rfl<|R2 (z:=(((V.getD (V.length-2) 0):Nat):Int)) us96 un97 rfl (UO _ (by omega)) ⟨B,RJ m,rfl⟩
  ·exact Js n (aC cq<|aC cr<|aC ct aN) fun _=>Su rfl<|SO rfl rfl (Xc (a:=k) (b:=(V.getD (V.length-2) 0)) (by have hmu:=uQ (show k<4294967296 by omega) N;omega)) ⟨B,RJ m,rfl⟩
  ·exact Js n (aC cu aN) fun _=>Su rfl<|RP ⟨B,RJ m,rfl⟩
  ·exact Js n (aC cw<|aC cx aN) fun _=>Su rfl<|SP (z:=((r*4294967296:Nat):Int)) rfl rfl (by decide) (jH hr) ⟨B,RJ m,rfl⟩
  ·exact Js n (aC cz aN) fun _=>Su rfl<|RP ⟨B,RJ m,rfl⟩
  ·exact Js n (aC cB aN) fun _=>Su rfl<|RP ⟨B,RJ m,rfl⟩
  ·exact Js n (aC cC<|aC cD aN) fun _=>Su rfl<|St.sub rfl rfl (Zy (a:=V.length) (b:=2) (by omega) (by omega)) ⟨B,RJ m,rfl⟩
  ·exact Js n (aC cE<|aC cF<|aC cG aN) fun _=>Su rfl<|Sw (j:=V.length-2) sl38 io96 rfl rfl rfl (by omega) ⟨B,RJ m,rfl⟩
  ·exact Js n (aC cH<|aC cI aN) fun _=>Su rfl<|SD (j:=V.length-2) (u:=(U.getD (V.length-2) 0)) hA H pl96 rfl (Ji (by omega)) ⟨B,RJ m,rfl⟩
  ·exact Js n (aC cJ<|aC cK aN) fun _=>Su rfl<|R2 (z:=(((U.getD (V.length-2) 0):Nat):Int)) us96 un97 rfl (UO _ (by omega)) ⟨B,RJ m,rfl⟩
  ·exact Js n (aC cL<|aC cM<|aC cN aN) fun _=>Su rfl<|S8 (z:=((r*4294967296+(U.getD (V.length-2) 0):Nat):Int)) rfl rfl (iL hr bx) ⟨B,RJ m,rfl⟩
  obtain⟨fT,fU,bp,db,dc⟩:=cV;obtain⟨rfl,eH⟩:bp=_∧_:=dc.rd;obtain⟨fV,rfl⟩:=mixK n (aC cO<|aC cP<|aC cQ<|aC cR<|aC cS<|aC cT<|aC cU<|aC db<|aC cW<|aC cX<|aC cY<|aC cZ<|aC c0<|aC c1<|aC c3<|aC c4<|aC c6<|aC c7<|aC c8<|aC c9 aN);refine OgD<|Sx rfl rfl (fun ad=>?_)<|fun ad=>?_
  ·refine OF (Nl<|Ud<|RT<|W.block<|RZ ?_);have av:r*4294967296+(U.getD (V.length-2) 0)<k*(V.getD (V.length-2) 0):=Int.ofNat_lt.1 ad;have hq:val U/val V<k:=by rw[hUe,hVe];exact JH hUl hkr av
   have Y:0<k:=Ia av;refine RK (Ub<|St.sub rfl rfl (Y1 (a:=k) (b:=1) (by omega) (by omega))<|Ua<|Rg<|Om<|Om<|Ub<|St.sub rfl rfl (Zy (a:=V.length) (b:=1) (by omega) (by omega))<|Ol<|Sd (j:=V.length-1) (u:=(V.getD (V.length-1) 0)) D sl38 io96 rfl rfl rfl (Ji (by omega)) ?_);intro fW fX bq aw;obtain⟨rfl,eI⟩:bq=_∧_:=aw.rd;refine Ol<|Sa pl96 rfl (aw.cell 0 _ rfl)<|Ol<|R2 (z:=(((V.getD (V.length-1) 0):Nat):Int)) us96 un97 rfl (UO _ (by omega))<|Ol<|St.add rfl rfl (J6 (a:=r) (b:=(V.getD (V.length-1) 0)) (by omega))<|Ua<|Rg<|Ub<|SB rfl rfl (fun br=>?_)<|fun br=>?_
   ·refine Nl<|Ud<|Sf<|⟨_,_,(k-1),m,rfl,rfl,rfl,rfl,rfl,D,H,(iP hq),(by rw[hUe,hVe];exact ZC (wk hVl N htop htopb (qH Y hkr) (by omega)).1),(wk (Ul:=0) (u2:=0) hVl N htop htopb (qH Y hkr) (by omega)).2⟩
   refine Nl<|Uc<|⟨_,(by omega),_,_,(k-1),(r+(V.getD (V.length-1) 0)),m,rfl,rfl,rfl,rfl,rfl,rfl,D,H,(iP hq),(qH Y hkr),(by omega),rfl⟩
  refine OF<|Nl<|Ue<|Sf<|⟨_,_,k,m,rfl,rfl,rfl,rfl,rfl,D,H,hk,(by rw[hUe,hVe];exact NC (ZS (by decide)) hVl htop (by omega) hkr (by omega)),(by omega)⟩
 rintro fY f0 ⟨f1,f2,q,dd,ax,ay,az,aA,aB,D,de,bE,eu,hqb⟩;obtain⟨f3,rfl⟩:=rebK (aC ax<|aC ay<|aC az<|aC aA<|aC aB aN);clear ax ay az aA aB;refine Rg (Ua<|Rg<|Ua<|Rh<|Ub<|St.len sl38 rfl<|Om<|Nl<|W.block<|Sc (fun μ f v=>∃(x y:Nat→Prop) (i:Nat) (p:List Nat) (cy:Nat) (bo:Nat),Cx X ⟨w,(· =g)⟩ x y v∧f 0=(.slice (some ⟨g,j,none⟩) U.length c)∧f 1=(.slice J V.length K)∧f 4=(.int .u32 0)∧f 5=(.int .i64 ((V.length:Nat):Int))∧f 7=(.int .u64 ((q:Nat):Int))∧f 82=(.slice J V.length K)∧f 83=(.int .i64 ((V.length:Nat):Int))∧f 84=(.int .i64 ((i:Nat):Int))∧f 9=(.int .u64 ((cy:Nat):Int))∧f 10=(.int .u32 ((bo:Nat):Int))∧RS Jd x v (.slice J V.length K) V∧Own ⟨w,(· =g)⟩ y v g ((A++(p++U.drop i)++Z).map u32v) 96∧i≤V.length∧p.length=i∧Jp p∧cy<4294967296∧bo≤1∧val p+q*val (V.take i)=val (U.take i)+4294967296^i*(cy+bo)∧μ=(V.length-i)) _ ⟨_,_,0,[],0,0,dd,rfl,rfl,rfl,rfl,rfl,rfl,rfl,rfl,rfl,rfl,D,de,(UN _),rfl,J9,(by omega),(by omega),(by simp[val]),rfl⟩ ?_);rintro f5 f6 f7 ⟨f8,f9,i,p,cy,bo,aa,aD,aE,aF,aG,aH,aI,aJ,aK,aL,aM,D,I,hi,hp,hsp,hcy,hbo,N,ev⟩;obtain⟨ga,rfl⟩:=rebK (aC aD<|aC aE<|aC aF<|aC aG<|aC aH<|aC aI<|aC aJ<|aC aK<|aC aL<|aC aM aN);clear aD aE aF aG aH aI aJ aK aL aM;have hx:=Jf sv i;have hui:=Jf sU i;have hcar:=My hqb hx hcy;refine Rg<|Ol<|Sb rfl rfl (fun bs=>?_)<|fun bs=>?_
 ·refine Nl (RZ<|Ud<|RT<|RZ<|W.block<|Rg<|Ub<|Sd (j:=i) (u:=(V.getD i 0)) D sl38 io96 rfl rfl rfl (Ji (by omega)) ?_);intro gb gc bt aO;obtain⟨rfl,eJ⟩:bt=_∧_:=aO.rd;refine Ol (Sa pl96 rfl (aO.cell 0 _ rfl)<|Oa<|Ua<|Rg<|Om<|Ub<|R2 (z:=(((V.getD i 0):Nat):Int)) us96 un97 rfl (UO _ (by omega))<|Ol<|SO rfl rfl (Xc (a:=q) (b:=(V.getD i 0)) (by omega))<|Ub<|St.add rfl rfl (J6 (a:=q*(V.getD i 0)) (b:=cy) (by omega)) ?_);refine Oa (Nl<|Rg<|Om<|Om<|Om<|Ub<|Sw (j:=i) sl38 io96 rfl rfl rfl (by omega)<|Ol<|SD (j:=i) (u:=(U.getD i 0)) hA I pl96 rfl (yQ hp rfl (by omega))<|Ub<|R2 (z:=((((q*(V.getD i 0))+cy)%4294967296:Nat):Int)) us97 un96 rfl (Jm _) ?_);refine Om (Ol<|RH aa yG rfl rfl (iM aa.bd (x:=(U.getD i 0)) (y:=((q*(V.getD i 0))+cy)%4294967296) (b:=bo) hui (UI _ (by decide)) hbo) ?_);intro gd ge df aP dg;have I:=I.spn aP;obtain⟨gf,gg,rfl,rfl,rfl⟩:=dg;refine Om (Ol<|St.extract rfl rfl<|Ol<|St.extract rfl rfl<|Ol<|Sw (j:=i) sl38 io96 rfl rfl rfl (by omega)<|On<|SN (j:=i) (u:=(((U.getD i 0)+8589934592-(((q*(V.getD i 0))+cy)%4294967296)-bo)%4294967296)) hA df I io96 rfl rfl (by rw[Uv,UG,hp];omega) ?_);intro gh dh di aQ;have D:=(D.sp aP).sp di;rw[FA hp (by omega)] at aQ;refine Ua<|RK<|Ub<|SC rfl rfl (by decide) (Ym (d:=4294967296) _ (by decide))<|Ua<|RK<|Ol<|St.add rfl rfl (Jc (a:=i) (b:=1) (by omega))<|Om<|Nl<|⟨_,(by omega),_,_,(i+1),(p++[(((U.getD i 0)+8589934592-(((q*(V.getD i 0))+cy)%4294967296)-bo)%4294967296)]),((q*(V.getD i 0))+cy)/4294967296,(if(U.getD i 0)<(((q*(V.getD i 0))+cy)%4294967296)+bo then 1 else 0),dh,rfl,rfl,rfl,rfl,rfl,rfl,rfl,rfl,rfl,rfl,D,aQ,(by omega),(by rw[Uv,hp];rfl),(Jz hsp (by omega)),hcar.2,(by split<;>omega),(HA hp hqb hx hcy hbo hui N<|Jn V i),rfl⟩
 refine Nl<|RZ<|Ue<|Sf<|RZ<|SX (fun f v=>∃(x y:Nat→Prop) (R:List Nat) (e:Nat),Cx X ⟨w,(· =g)⟩ x y v∧f 0=(.slice (some ⟨g,j,none⟩) U.length c)∧f 1=(.slice J V.length K)∧f 4=(.int .u32 0)∧f 5=(.int .i64 ((V.length:Nat):Int))∧f 7=(.int .u64 ((q:Nat):Int))∧f 10=(.int .u32 ((e:Nat):Int))∧RS Jd x v (.slice J V.length K) V∧Own ⟨w,(· =g)⟩ y v g ((A++R++Z).map u32v) 96∧R.length=V.length+1∧Jp R∧e≤1∧val R+q*val V=val U+4294967296^(V.length+1)*e) ?_ ?_
 ·refine RK (Om<|Om<|Om<|Ub<|Sw (j:=V.length) sl38 io96 rfl rfl rfl (by omega)<|Ol<|SD (j:=V.length) (u:=(U.getD V.length 0)) hA I pl96 rfl (yQ hp (by omega) (by omega))<|Ub<|R2 (z:=((cy:Nat):Int)) us97 un96 rfl (IntWalk.u32_in _ (by omega)) ?_);refine Om (Ol<|RH aa yG rfl rfl (iM aa.bd (x:=(U.getD V.length 0)) (y:=cy) (b:=bo) hun hcy hbo) ?_);intro gi gj dj aR dk;have I:=I.spn aR;obtain⟨gk,gl,rfl,rfl,rfl⟩:=dk;refine Om (Ol<|St.extract rfl rfl<|Ol<|St.extract rfl rfl<|Ol<|Sw (j:=V.length) sl38 io96 rfl rfl rfl (by omega)<|On<|SN (j:=V.length) (u:=(((U.getD V.length 0)+8589934592-cy-bo)%4294967296)) hA dj I io96 rfl rfl (by rw[Uv,UG,hp];omega) ?_);intro gm dm dn aS;have D:=(D.sp aR).sp dn;rw[Cy hp (by omega) (by omega)] at aS;refine Ua<|⟨_,_,(p++[(((U.getD V.length 0)+8589934592-cy-bo)%4294967296)]),(if(U.getD V.length 0)<cy+bo then 1 else 0),dm,rfl,rfl,rfl,rfl,rfl,rfl,D,aS,(by rw[Uv,hp];show i+1=_;omega),(Jz hsp (by omega)),(by split<;>omega),(DI (by omega) hcy hbo hun hU (by have hh:=N;rw[show i=V.length by omega,YC] at hh;exact hh))⟩
 rintro gn gp ⟨gq,gr,R,e,aT,aU,aV,aW,aX,aY,aZ,D,a0,hR,hRs,he,hRv⟩;obtain⟨gs,rfl⟩:=rebK (aC aU<|aC aV<|aC aW<|aC aX<|aC aY<|aC aZ aN);clear aU aV aW aX aY aZ;refine Rh<|Ub<|SA rfl rfl (fun bu=>?_)<|fun bu=>?_
 ·refine Nl (Ud<|RZ ?_);obtain⟨ew,gP,ex⟩:=F0 (U:=val U) (V:=val V) (R:=val R) (M:=4294967296^(V.length+1)) (g:=q) hVpos eu (by have hh:=Zo R hRs;rwa [hR] at hh) (by rw[hRv,show e=1 by omega,ZL]);refine RK (Ub<|St.sub rfl rfl (Y1 (a:=q) (b:=1) (by omega) (by omega))<|Ua<|Rg<|Ua<|Rh<|Ub<|St.len sl38 rfl<|Om<|Nl<|W.block<|Sc (fun μ f v=>∃(x y:Nat→Prop) (i:Nat) (p:List Nat) (cy:Nat),Cx X ⟨w,(· =g)⟩ x y v∧f 0=(.slice (some ⟨g,j,none⟩) U.length c)∧f 4=(.int .u32 0)∧f 5=(.int .i64 ((V.length:Nat):Int))∧f 7=(.int .u64 ((q-1:Nat):Int))∧f 130=(.slice J V.length K)∧f 131=(.int .i64 ((V.length:Nat):Int))∧f 132=(.int .i64 ((i:Nat):Int))∧f 14=(.int .u32 ((cy:Nat):Int))∧RS Jd x v (.slice J V.length K) V∧Own ⟨w,(· =g)⟩ y v g ((A++(p++R.drop i)++Z).map u32v) 96∧i≤V.length∧p.length=i∧Jp p∧cy≤1∧val p+4294967296^i*cy=val (R.take i)+val (V.take i)∧μ=(V.length-i)) _ ⟨_,_,0,[],0,aT,rfl,rfl,rfl,rfl,rfl,rfl,rfl,rfl,D,a0,(UN _),rfl,J9,(by omega),(by simp[val]),rfl⟩ ?_);rintro gt gu gv ⟨gw,gx,i,p,cy,ac,a2,a3,a4,a5,a6,a7,a8,a9,D,Q,hi,hp,hsp,hcy,bF,ey⟩;obtain⟨gy,rfl⟩:=rebK (aC a2<|aC a3<|aC a4<|aC a5<|aC a6<|aC a7<|aC a8<|aC a9 aN);clear a2 a3 a4 a5 a6 a7 a8 a9;have hx:=Jf sv i;have hri:=Jf hRs i;refine Rg<|Ol<|Sb rfl rfl (fun bv=>?_)<|fun bv=>?_
  ·refine Nl (RZ<|Ud<|RT<|RZ<|W.block<|Rg<|Ub<|Sd (j:=i) (u:=(V.getD i 0)) D sl38 io96 rfl rfl rfl (Ji (by omega)) ?_);intro gz gA bw ba;obtain⟨rfl,eK⟩:bw=_∧_:=ba.rd;refine Ol (Sa pl96 rfl (ba.cell 0 _ rfl)<|Oa<|Ua<|RK<|Om<|Om<|Om<|Ub<|Sw (j:=i) sl38 io96 rfl rfl rfl (by omega)<|Ol<|SD (j:=i) (u:=(R.getD i 0)) hA Q pl96 rfl (yQ hp rfl (by omega))<|Om<|Om ?_);refine Ol (RH ac t4 rfl rfl (xh ac.bd (x:=(R.getD i 0)) (y:=(V.getD i 0)) (c:=cy) hri hx hcy) ?_);intro gB gC dp bb dq;have Q:=Q.spn bb;obtain⟨gD,gE,rfl,rfl,rfl⟩:=dq;refine Om (Ol<|St.extract rfl rfl<|Ol<|St.extract rfl rfl<|Ol<|Sw (j:=i) sl38 io96 rfl rfl rfl (by omega)<|On<|SN (j:=i) (u:=(((R.getD i 0)+(V.getD i 0)+cy)%4294967296)) hA dp Q io96 rfl rfl (by rw[Uv,UG,hp];omega) ?_);intro gF ds dt be;have D:=(D.sp bb).sp dt;rw[FA hp (by omega)] at be;refine Ua<|RK<|Ol<|St.add rfl rfl (Jc (a:=i) (b:=1) (by omega))<|Om<|Nl<|⟨_,(by omega),_,_,(i+1),(p++[(((R.getD i 0)+(V.getD i 0)+cy)%4294967296)]),(((R.getD i 0)+(V.getD i 0)+cy)/4294967296),ds,rfl,rfl,rfl,rfl,rfl,rfl,rfl,rfl,D,be,(by omega),(by rw[Uv,hp];rfl),(Jz hsp (by omega)),(by omega),(qI hp bF<|Jn V i),rfl⟩
  refine Nl (RZ<|Ue<|Sf<|RK<|Om<|Ub<|Sw (j:=V.length) sl38 io96 rfl rfl rfl (by omega)<|Ol<|SD (j:=V.length) (u:=(R.getD V.length 0)) hA Q pl96 rfl (yQ hp (by omega) (by omega))<|Ub<|St.add (z:=(((R.getD V.length 0+cy)%4294967296:Nat):Int)) rfl rfl (by rw[←Int.natCast_add];exact Jm _) ?_);refine Ol (Sw (j:=V.length) sl38 io96 rfl rfl rfl (by omega)<|On<|SN (j:=V.length) (u:=(R.getD V.length 0+cy)%4294967296) hA ac Q io96 rfl rfl (by rw[Uv,UG,hp];omega) ?_);intro gG du gH bf;rw[Cy hp (by omega) (by omega)] at bf;refine Nl<|Rg<|Ub<|R2 (z:=((q-1:Nat):Int)) us97 un96 rfl (IntWalk.u32_in _ (by omega))<|Ua<|RY<|J0 rfl (resV.t rfl)<|RetM.intro ⟨?_,?_⟩ du.below
  ·exact congrArg (Value.int _)<|congrArg _ ew
  have hh:=bf.blk;rw[qM (by omega) hsp hcy hR (kn_T sv hVpos) (by have hh:=bF;rw[show i=V.length by omega,YC] at hh;exact hh) ex] at hh;exact hh
 refine Nl<|Uc<|Rg<|Ub<|R2 (z:=((q:Nat):Int)) us97 un96 rfl (IntWalk.u32_in _ (by omega))<|Ua<|RY<|J0 rfl (resV.t rfl)<|RetM.intro ⟨?_,?_⟩ aT.below
 ·exact congrArg (Value.int _)<|congrArg _ (MH hVpos bE (by rw[hRv,show e=0 by omega,ZN,YH])).1
 have hh:=a0.blk;rw[show R=Jx (V.length+1) (val U%val V) from Yl hRs hR (MH hVpos bE (by rw[hRv,show e=0 by omega,ZN,YH])).2] at hh;exact hh
end Go.Wf
namespace Go.Wf
open Go
theorem z8(l:List Nat)(k:Nat)(hk:k≤l.length):val l=val (l.take k)+4294967296^k*val (l.drop k):=by
 conv=>lhs;rw[←YB k l]
 rw[Xv,UH,ZF hk]
theorem ny{a b:Nat}(h:cmpN a b<0):a<b:=by
 unfold cmpN at h;split at h
 ·assumption
 ·split at h<;>omega
theorem mC{a b:Nat}(h:¬cmpN a b<0):b≤a:=by
 unfold cmpN at h;split at h
 ·omega
 ·omega
theorem Yd{a b:List Nat}(hb:trim b=b)(sa:Jp a)(h:val b≤val a):b.length≤a.length:=by
 rcases U2 a.length b.length with d|d
 ·have:=Yk hb sa d;omega
 ·exact d
theorem uL{a:List Nat}(ha:trim a=a)(sa:Jp a):a=digs (val a):=by
 conv=>lhs;rw[←ha,Vy sa]
theorem OK{a b:List Nat}(h:val a<val b):[]=digs (val a/val b):=by rw[YO h];rfl
theorem t6{a b:List Nat}(ha:trim a=a)(sa:Jp a)(h:val a<val b):a=digs (val a%val b):=by
 rw[ZG h];exact uL ha sa
theorem Y5{a:List Nat}(sa:Jp a)(h:a.length≤2):val a<18446744073709551616:=by
 have:=Zo a sa
 have b:4294967296^a.length≤4294967296^2:=U1 (by omega) h;omega
theorem pH{x y:Nat}(h:x<18446744073709551616):x/y<18446744073709551616:=U7 (YP _ _) h
theorem ox{x y:Nat}(h:x<18446744073709551616):x%y<18446744073709551616:=U7 (Nat.mod_le _ _) h
theorem nQ{b:List Nat}(hb:trim b=b)(sb:Jp b)(h:b≠[]):0<b.getD (b.length-1) 0:=by
 rcases List.eq_nil_or_concat b with rfl|⟨q,d,rfl⟩
 ·exact absurd rfl h
 ·have a:=Xm hb h;simp only[List.concat_eq_append] at *;have sq:Jp q:=fun u hu=>sb u (by simp[hu]);have f:=Zo q sq;rw[Z3,Uv,Uy,YF] at a;rw[Uv,Uy,YF,UJ,WU (by omega),ZV];show 0<d;rcases YV d with e|e
  ·rw[e,ZN] at a;omega
  ·exact e
theorem Ac{b:List Nat}(sb:Jp b)(hne:b≠[]){s:Nat}(hs:s≤32-blen (b.getD (b.length-1) 0)):val b*2^s<4294967296^b.length:=by
 have hpos:0<b.length:=W5.2 hne;have h:=X7 (k:=b.length-1) sb (by omega);have d:=Jn b (b.length-1);rw[show b.length-1+1=b.length by omega,YC] at d;have i:=Qk (b.getD (b.length-1) 0);have j:=ie (Jf sb (b.length-1));generalize b.getD (b.length-1) 0=t at *;have e:(t+1)*2^s≤4294967296:=by
  refine UC (ZI _ (show t+1≤2^blen t by omega)) ?_;rw[←ZQ];exact UC (U1 (by omega) (show blen t+s≤32 by omega)) (by decide)
 have f:val b+1≤4294967296^(b.length-1)*(t+1):=by rw[UX,ZL];omega
 have a:=ZI (2^s) f;rw[U3] at a;have g:=U4 (4294967296^(b.length-1)) e;rw[←UV,show(b.length-1).succ=b.length by omega] at g;rw[YE,Nat.one_mul] at a
 have:=Jaa s
 omega
theorem BT{v n:Nat}(d:v<4294967296^n)(e:4294967296^(n-1)≤v)(hn:0<n):(digs v).length=n:=by
 have a:=Jt d;rcases U2 (digs v).length n with h|h
 ·have b:=Vv v;have c:4294967296^(digs v).length≤4294967296^(n-1):=U1 (by omega) (by omega);omega
 ·omega
theorem GO{b:List Nat}(hb:trim b=b)(sb:Jp b)(hne:b≠[]){s:Nat}(hs:s≤32-blen (b.getD (b.length-1) 0)):(trim (Jx (b.length+1) (val b*2^s))).length=b.length∧val (trim (Jx (b.length+1) (val b*2^s)))=val b*2^s∧trim (trim (Jx (b.length+1) (val b*2^s)))=trim (Jx (b.length+1) (val b*2^s)):=by
 have a:=Ac sb hne hs;have hpos:0<b.length:=W5.2 hne;have h1':val b*2^s<4294967296^(b.length+1):=UB a (U1 (by omega) (by omega));rw[K6 h1'];refine⟨BT a (UC (Xm hb hne) (YZ _ (Jaa s))) hpos,Jw _,Z9 _⟩
theorem Ez{a b L:List Nat}(sa:Jp a)(hb:trim b=b)(hne:b≠[]){s:Nat}(hle:b.length≤a.length)(hL:L.length=a.length+1)(hs:Jp L)(hv:val L=val a*2^s):
  val (L.drop (a.length+1-b.length))<val b*2^s:=by
 have hpos:0<b.length:=W5.2 hne;have h:=z8 L (a.length+1-b.length) (by omega);have d:=Zo a sa;have e:=Xm hb hne;have f:4294967296^(a.length+1-b.length)*val (L.drop (a.length+1-b.length))<4294967296^(a.length+1-b.length)*(4294967296^(b.length-1)*2^s):=by
  rw[←U3,←ZQ,show a.length+1-b.length+(b.length-1)=a.length by omega]
  have:=ZK d (Jaa s)
  omega
 have g:=ZD f;exact UB g (ZI _ e)
theorem wF{L:List Nat}{J n:Nat}(hJ:0<J)(hl:J+n≤L.length):L=L.take (J-1)++(L.drop (J-1)).take (n+1)++L.drop (J+n):=by
 rw[UF]
 conv=>lhs;rw[←YB (J-1) L]
 congr 1
 conv=>lhs;rw[←YB (n+1) (L.drop (J-1))]
 rw[List.drop_drop,show J-1+(n+1)=J+n by omega]
theorem sX{L:List Nat}{J n:Nat}(hJ:0<J)(hl:J+n≤L.length):((L.drop (J-1)).take (n+1)).length=n+1:=by
 rw[UH,UG];omega
theorem mu{L:List Nat}{J n D:Nat}(hl:J+n≤L.length)(hD:D<4294967296^n)(hlo:val (L.drop J)<D):val (L.drop (J+n))=0:=by
 have h:=z8 (L.drop J) n (by rw[UG];omega);rw[List.drop_drop] at h;rcases YV (val (L.drop (J+n))) with e|e
 ·exact e
 ·have:=U4 (4294967296^n) e
  rw[ZL] at this;omega
theorem tj{L:List Nat}{J n D:Nat}(hJ:0<J)(hl:J+n≤L.length)(hD:D<4294967296^n)(hlo:val (L.drop J)<D):val (L.drop (J-1))=val ((L.drop (J-1)).take (n+1)):=by
 have h:=z8 (L.drop (J-1)) (n+1) (by rw[UG];omega);rw[List.drop_drop,show J-1+(n+1)=J+n by omega,mu hl hD hlo,ZN,YH] at h;exact h
theorem CI{L:List Nat}{J n D:Nat}(hs:Jp L)(hJ:0<J)(hl:J+n≤L.length)(hD:D<4294967296^n)(hlo:val (L.drop J)<D):val ((L.drop (J-1)).take (n+1))<D*4294967296:=by
 rw[←tj hJ hl hD hlo,Vc hJ (by omega)]
 have:=Jf hs (J-1)
 omega
theorem wH{u D:Nat}(h:u<D*4294967296):u/D<4294967296:=YR h
theorem Cb{L:List Nat}{J n T:Nat}(hJ:0<J)(hl:J+n≤L.length):(L.take (J-1)++Jx (n+1) T++L.drop (J+n)).length=L.length:=by
 simp only[Uv,UH,UG,Jg];omega
theorem pN{L:List Nat}{J n D u:Nat}(hJ:0<J)(hl:J+n≤L.length)(hD:D<4294967296^n)(hlo:val (L.drop J)<D):val ((L.take (J-1)++Jx (n+1) (u%D)++L.drop (J+n)).drop (J-1))=u%D:=by
 have hlen:(L.take (J-1)).length=J-1:=by rw[UH];omega
 have hT:u%D<4294967296^(n+1):=by
  have a:=UI u (show 0<D by omega);have b:4294967296^n≤4294967296^(n+1):=U1 (by omega) (by omega);omega
 rw[UF,List.drop_append_of_le_length (by omega),UY (by omega),UZ,Xv,Ze _ _ hT,mu hl hD hlo,ZN,YH]
theorem FU{L Q:List Nat}{J n D N:Nat}(hJ:0<J)(hl:J+n≤L.length)(hD:D<4294967296^n)(hlo:val (L.drop J)<D)(hN:N=val Q*D*4294967296^J+val L):
  N=val ((val ((L.drop (J-1)).take (n+1))/D)::Q)*D*4294967296^(J-1)+val (L.take (J-1)++Jx (n+1) (val ((L.drop (J-1)).take (n+1))%D)++L.drop (J+n)):=by
 have hlen:(L.take (J-1)).length=J-1:=by rw[UH];omega
 have a:=z8 (L.take (J-1)++Jx (n+1) (val ((L.drop (J-1)).take (n+1))%D)++L.drop (J+n)) (J-1) (by rw[Cb hJ hl];omega);rw[pN hJ hl hD hlo] at a;rw[UF,List.take_append_of_le_length (by omega),List.take_take,Nat.min_self,←UF] at a;have b:=z8 L (J-1) (by omega);have f:=tj hJ hl hD hlo;rw[f] at b;rw[a,hN,b,val];generalize val ((L.drop (J-1)).take (n+1))=u;have g:=YM u D;generalize u%D=r at *;generalize u/D=d at *;have e:4294967296^J=4294967296*4294967296^(J-1):=by rw[U6,←UV,show(J-1).succ=J by omega]
 rw[e,←g];generalize 4294967296^(J-1)=p;generalize val (L.take (J-1))=t;generalize val Q=q;rw[YE,YE,UX,U6 d D,U6 (D*d) p];have h:q*D*(4294967296*p)=4294967296*q*D*p:=by
  rw[←U3,U6 (q*D),←U3]
 rw[h];omega
theorem CV{a:List Nat}(sa:Jp a){s:Nat}(hs:s≤32):val a*2^s<4294967296^(a.length+1):=by
 have b:=Zo a sa;have d:2^s≤4294967296:=UC (U1 (by omega) hs) (by decide);have e:=U4 (val a) d;have f:=ZK b (show 0<4294967296 by decide);rw[UV];omega
theorem vA{L:List Nat}{i k n T:Nat}(hs:Jp L):Jp (L.take i++Jx n T++L.drop k):=Yc (Yc (Ve hs _) (J1 _ _)) (zi hs _)
theorem dv_q{a b Q L:List Nat}{s:Nat}(hQ:Jp Q)(hb:0<val b)(hN:val a*2^s=val Q*(val b*2^s)*4294967296^0+val L)(hlo:val (L.drop 0)<val b*2^s):trim Q=digs (val a/val b):=by
 rw[WN] at hlo;rw[Nat.pow_zero,ZL] at hN;rw[Vy hQ]
 congr 1
 have hp:=Jaa s;have d:val a*2^s/(val b*2^s)=val Q:=by
  rw[hN,U6 (val Q),Nat.mul_add_div (ZM hb hp),YO hlo,YH]
 rw[←d,Nat.mul_div_mul_right _ _ hp]
theorem dv_r{a b Q L:List Nat}{s n:Nat}(hL:Jp L)(hb:0<val b)(hn:n≤L.length)(hD:val b*2^s<4294967296^n)(hN:val a*2^s=val Q*(val b*2^s)*4294967296^0+val L)(hlo:val (L.drop 0)<val b*2^s):
  trim (Jx (L.take n).length (val (L.take n)/2^s))=digs (val a%val b):=by
 rw[WN] at hlo;rw[Nat.pow_zero,ZL] at hN;have hp:=Jaa s;have f:val (L.take n)=val L:=by
  have h:=z8 L n hn;have e:=mu (J:=0) (n:=n) (L:=L) (by omega) hD (by rw[WN];exact hlo);rw[Jab] at e;rw[e] at h;omega
 have g:val L=val a*2^s%(val b*2^s):=by
  rw[hN,U6 (val Q),Nat.mul_add_mod,ZG hlo]
 have d:val L/2^s=val a%val b:=by
  rw[g,Nat.mul_mod_mul_right,Nat.mul_div_cancel _ hp]
 rw[f,d];refine K6 ?_;rw[←d,UH,ZF hn];exact U7 (YP _ _) (Nat.lt_trans hlo hD)
end Go.Wf
namespace Go.Wf
open Go Go.Proofs Go.RowKit
section
variable {P:Program} {ρ:Operand→Value} {dst:Option Tmp} {ty:TypeId} {pos:String} {after:Array Edge} {gd:Option (Nat×Bool)}
 {w:World} {K:Value→World→Prop} {Kp:List PanicEntry→World→Prop}
theorem S7 {a lo r:Operand} {t e:TypeId} {z:Value} {by_ g n c:Nat} {k k':IntKind} {m m':Int} {i j u:Nat} (hu:j-i=u)
  (ht:P.underlying t=some (.slice e)) (hi:Zf P e=some (z,1,by_)) (hx:ρ a= .slice (some ⟨g,0,none⟩) n c) (hy:ρ lo= .int k m) (hm:m=i) (hy':ρ r= .int k' m') (hm':m'=j) (hij:i≤j) (hj:j≤c) (hic:i<c)
  (h:K (.slice (some ⟨g,i,none⟩) u (c-i)) w):St P ρ ⟨dst,.slice t a (some lo) (some r) none,ty,pos,after,gd⟩ w K Kp:=
 Td ht hi hx hy hm hy' hm' hij hj hic (by rw[hu];exact h)
end
theorem qJ{X:Nat→Prop}{w:World}(hX:XB X w){L:Value}{a:List Nat}(e:RS Jd X w L a){s:Nat}(hla:a.length<1099511627776)(hs:s<32):CRt 149 #[L,(.int .u64 ((s:Nat):Int))] w fun v w'=>Mn w ((Jx (a.length+1) (val a*2^s)).map u32v) (a.length+1) 96 v w':=by
 obtain⟨G,H,rfl,_,_⟩:=e.len;have C:=Cx.start hX;have sa:=e.u32_small;have hps:=V5 hs;refine Cgo Tryz.func149 rfl rfl rfl (Rg<|Ua<|Rg<|Ub<|St.len sl38 rfl<|Ol<|St.add rfl rfl (Jc (a:=a.length) (b:=1) (by omega))<|Ol<|So (n:=(a.length+1)) C sl38 rfl rfl rfl (by omega) io96 (by decide) ?_);intro M w4 x5 y6 ab Y Z N;have e:=e.sp Z;refine Oa (Nl<|Rh<|Ub<|St.len sl38 rfl<|Om<|Nl<|W.block<|Sc (fun μ f v=>∃(x y:Nat→Prop) (i:Nat) (p:List Nat) (h:Nat),Cx X w x y v∧f 1=(.int .u64 ((s:Nat):Int))∧f 4=(.slice none 0 0)∧f 5=(.slice (some ⟨M,0,none⟩) (a.length+1) (a.length+1))∧f 13=(.slice G a.length H)∧f 14=(.int .i64 ((a.length:Nat):Int))∧f 15=(.int .i64 ((i:Nat):Int))∧RS Jd x v (.slice G a.length H) a∧Own w y v M ((p++h::List.replicate (a.length-i) 0).map u32v) 96∧i≤a.length∧p.length=i∧Jp p∧h<2^s∧val p+4294967296^i*h=val (a.take i)*2^s∧μ=(a.length-i)) _ ⟨_,_,0,[],0,Y,rfl,rfl,rfl,rfl,rfl,rfl,e,N,(UN _),rfl,J9,(Jaa s),(by simp[val]),rfl⟩ ?_);rintro ac ad ae ⟨af,ag,i,p,h,k,l,m,o,r,A,B,e,g,hi,hp,hq,hh,hv,V⟩;obtain⟨ah,rfl⟩:=rebK (aC l<|aC m<|aC o<|aC r<|aC A<|aC B aN);clear l m o r A B;have hx:=Jf sa i;have hxd:=tG (s:=s) hx;refine Rg<|Ol<|Sb rfl rfl (fun I=>?_)<|fun I=>?_
 ·refine Nl (RZ<|Ud<|RT<|RZ<|W.block<|Rg<|Ub<|Sd (j:=i) (u:=(a.getD i 0)) e sl38 io96 rfl rfl rfl (Ji (by omega)) ?_);intro ai aj J D;obtain⟨rfl,aa⟩:J=_∧_:=D.rd;refine Ol (Sa pl96 rfl (D.cell 0 _ rfl)<|Oa<|Ua<|Rg<|Ub<|R2 (z:=(((a.getD i 0):Nat):Int)) us96 un97 rfl (UO _ (by omega))<|Ub<|SP rfl rfl (by omega) (Qy<|th hx hs)<|Ua<|Rg<|Om ?_);refine Om (Ol<|Sh (j:=i) sl38 io96 rfl rfl rfl (by omega)<|Ol<|SH (j:=i) (u:=h) g pl96 rfl (rM hp)<|Ub<|R2 (z:=((((a.getD i 0)*2^s)%4294967296:Nat):Int)) us97 un96 rfl (Jm _)<|Ol<|S8 (z:=((h+a.getD i 0*2^s%4294967296:Nat):Int)) rfl rfl ((zw (a:=h) (b:=a.getD i 0*2^s%4294967296) (by omega) (by omega)).trans (congrArg _<|sc hs hh)) ?_);refine Ol (Sh (j:=i) sl38 io96 rfl rfl rfl (by omega)<|On<|Se (j:=i) (u:=h+a.getD i 0*2^s%4294967296) k g io96 rfl rfl (by simp only[Uv,Uw,UE,Ux];omega) ?_);intro ak Q R E;rw[Dg hp] at E;refine Nl (RK<|Om<|Ub<|St.add rfl rfl (Jc (a:=i) (b:=1) (by omega))<|Ub<|SC rfl rfl (by decide) (Ym (d:=4294967296) _ (by decide))<|Ol<|R2 (z:=((a.getD i 0*2^s/4294967296:Nat):Int)) us97 un96 rfl (IntWalk.u32_in _ (by omega))<|Ol<|Sh (j:=i+1) sl38 io96 rfl rfl rfl (by omega) ?_);refine On (Se (j:=i+1) (u:=a.getD i 0*2^s/4294967296) Q E io96 rfl rfl (by simp only[Uv,Uw,UE,Ux];omega) ?_);intro al T U F;have e:=(e.sp R).sp U;rw[rW hp (by omega)] at F;refine Nl<|RK<|Ol<|St.add rfl rfl (Jc (a:=i) (b:=1) (by omega))<|Om<|Nl<|⟨_,(by omega),_,_,(i+1),(p++[h+a.getD i 0*2^s%4294967296]),(a.getD i 0*2^s/4294967296),T,rfl,rfl,rfl,rfl,rfl,rfl,e,F,(by omega),(by rw[Uv,hp];rfl),(Jz hq<|lT hs hh),hxd,(yd hp hv),rfl⟩
 refine Nl (RZ<|Ue<|Sf<|Rg<|Om<|Ua<|RY<|J0 rfl (resV.t rfl)<|RM ?_ k.below);refine⟨_,rfl,g.ge.resolve_right id,?_⟩;have hblk:=g.blk;rw[xk hq hs hh hp (by omega) hv] at hblk;exact hblk
theorem jP{X:Nat→Prop}{w:World}(hX:XB X w){v0:Value}{a:List Nat}(D:RS Jd X w v0 a){v1:Value}{b:List Nat}(p:RS Jd X w v1 b)(ha:trim a=a)(hb:trim b=b)(hne:b≠[])(hla:a.length≤549755813888)(hlb:b.length≤549755813888):CRt 98 #[v0,v1] w fun v w'=>(∃v0 v1,v= .tuple #[v0,v1]∧(RS Jd X w' v0 (digs (val a/val b)))∧(RS Jd X w' v1 (digs (val a%val b)))):=by
 obtain⟨a1,c2,rfl,_,_⟩:=D.len;obtain⟨a3,c4,rfl,_,_⟩:=p.len;have C:=Cx.start hX;have sa:=D.u32_small;have sb:=p.u32_small;have hbpos:0<val b:=UB (ZS (by decide)) (Xm hb hne);have b9:=W5.2 hne;refine Cgo Tryz.func98 rfl rfl rfl (Rg<|Oa<|Ua<|Rh<|Om<|Ub<|RH C KS rfl rfl (kE C.bd D p ha hb (by omega) (by omega)) ?_);intro v5 w6 Y s8 h9;have D:=D.sp s8;have p:=p.sp s8;subst h9;refine Ol<|Sb rfl rfl (fun E=>?_)<|fun E=>?_
 ·refine Nl (Uf<|Ub<|RH Y uP rfl rfl (jz Y.bd D (by omega)) ?_);intro cV cW aj cX aV;obtain⟨cY,cZ,rfl,_,_⟩:=aV.len;refine Oa (Ua<|RY<|Z4 rfl (resV.t rfl) (resV.t rfl)<|RM ?_ aj.below);refine⟨_,_,rfl,?_,?_⟩
  ·exact TP ((RS.nil:RS _ _ _ _ _).tr (Tr.weak aj.base))<|(OK<|ny E)
  ·exact TP ((aV:RS _ _ _ _ _).tr (Tr.weak aj.base))<|(t6 ha sa<|ny E)
 refine Nl<|Uc<|Rh<|Ub<|St.len sl38 rfl<|Ol<|SJ rfl rfl (fun a5=>?_)<|fun a5=>?_
 ·refine Nl (Ud<|RZ ?_);have hlab:=Yd hb sa (mC E);refine RK (Ub<|RH Y sQ rfl rfl (kX Y.bd D (by omega)) ?_);intro c0 c1 aW bE bF;have p:=p.sp bE;subst bF;refine Om (Ol<|RH aW sQ rfl rfl (kX aW.bd p (by omega)) ?_);intro c3 c6 bG c7 bH;subst bH;refine Oa (Ua<|RZ ?_);have b2:=Y5 sa (by omega);refine Sg mixed 7 [[],[],[0,1],[2],[],[],[4,5]] bG [fx<|.int .u64 (((val a):Nat):Int),fx<|.int .u64 (((val b):Nat):Int),fx<|.int .u64 (((val a)/(val b):Nat):Int),fs Jd<|digs<|(val a)/(val b),fx<|.int .u64 (((val a):Nat):Int),fx<|.int .u64 (((val b):Nat):Int),fx<|.int .u64 (((val a)%(val b):Nat):Int)] (by kernel_rfl) ⟨sx,sx,sx,ss,sx,sx,sx,trivial⟩ fun bJ F c8 ⟨l,c9⟩ m=>?_
  have m:Keep [28,29,30,31,32,33,34] _ bJ:=m;refine⟨⟨fun _=>?_,fun _=>?_,fun⟨bK,bL,_⟩=>?_,fun⟨bM,_⟩=>?_,fun _=>?_,fun _=>?_,fun⟨bN,bO,_⟩=>?_,trivial⟩,fun⟨bP,bQ,bR,aa,bS,bT,bU,_⟩=>?_⟩
  ·exact Sd0 m fun _=>RP ⟨F,RJ l,rfl⟩
  ·exact Sd0 m fun _=>RP ⟨F,RJ l,rfl⟩
  ·exact Js m (aC bK<|aC bL aN) fun _=>R8<|SF rfl rfl (by omega) (X9 (a:=(val a)) (b:=(val b)) (by omega)) ⟨F,RJ l,rfl⟩
  ·refine Sd1 m bM fun _=>RH l cb85 rfl rfl (kq l.bd (n:=(val a)/(val b))<|pH<|Y5 sa (by omega)) ?_;intro da db bV bW bX;exact⟨F,⟨bV,bW⟩,bX⟩
  ·exact Sd0 m fun _=>RP ⟨F,RJ l,rfl⟩
  ·exact Sd0 m fun _=>RP ⟨F,RJ l,rfl⟩
  ·exact Js m (aC bN<|aC bO aN) fun _=>R8<|Sz rfl rfl (by omega) (Qe (val a)<|val b) ⟨F,RJ l,rfl⟩
  obtain⟨dc,dd,bY,aa⟩:=TQ aa;obtain⟨de,rfl⟩:=mixK m (aC bP<|aC bQ<|aC bR<|aC bY<|aC bS<|aC bT<|aC bU aN);refine Ol (RH l cb85 rfl rfl (kq l.bd (n:=(val a)%(val b))<|ox<|Y5 sa (by omega)) ?_);intro df dg ak bZ aX;have aa:=aa.sp bZ;obtain⟨dh,di,rfl,_,_⟩:=aX.len;refine Oa (Ua<|RY<|Z4 rfl (resV.t rfl) (resV.t rfl)<|RM ?_ ak.below);refine⟨_,_,rfl,?_,?_⟩
  ·exact TP ((aa:RS _ _ _ _ _).tr (Tr.weak ak.base))<|rfl
  ·exact TP ((aX:RS _ _ _ _ _).tr (Tr.weak ak.base))<|rfl
 refine Nl (Uc<|RZ<|RZ ?_);have hlab:=Yd hb sa (mC E);refine RK<|Ub<|St.len sl38 rfl<|Ol<|Sj rfl rfl (fun a6=>?_)<|fun a6=>?_
 ·refine Nl (Ud<|RZ ?_);have h1v:=nJ (a:=b) (by omega);refine RK (Om<|Ub<|Sd (j:=0) (u:=(b.getD 0 0)) p sl38 io96 rfl rfl rfl (Ji (by omega)) ?_);intro dj dk a7 aY;obtain⟨rfl,cb⟩:a7=_∧_:=aY.rd;refine Ol (Sa pl96 rfl (aY.cell 0 _ rfl)<|Ol<|RH Y NT rfl rfl (Fb Y.bd D (d:=(b.getD 0 0)) (by omega) (by rw[h1v];exact hbpos)<|Jf sb _) ?_);intro dm dn aZ dp b0;obtain⟨dq,ds,rfl,a0,rfl⟩:=b0;obtain⟨dt,du,rfl,_,_⟩:=a0.len;refine Om (Ol<|St.extract rfl rfl<|Ol<|St.extract rfl rfl<|Oa<|Ua<|Rg<|Ub<|RH aZ cb87 rfl rfl (Zg aZ.bd a0 (by rw[Jg];omega)) ?_);intro dv dw a2 dx ag;obtain⟨dy,dz,rfl,_,_⟩:=ag.len;refine Om (Ol<|R2 (z:=((val a%b.getD 0 0:Nat):Int)) us96 un97 rfl (UO _ (by have:=Jf sb 0;have:=UI (val a) (show 0<b.getD 0 0 by rw[h1v];exact hbpos);omega))<|Ol<|RH a2 cb85 rfl rfl (kq a2.bd (n:=val a%b.getD 0 0) (by have:=Jf sb 0;have:=UI (val a) (show 0<b.getD 0 0 by rw[h1v];exact hbpos);omega)) ?_);intro dB dC al a8 am;have ag:=ag.sp a8;obtain⟨cc,cd,rfl,_,_⟩:=am.len;refine Oa (Ua<|RY<|Z4 rfl (resV.t rfl) (resV.t rfl)<|RM ?_ al.below);refine⟨_,_,rfl,?_,?_⟩
  ·exact TP ((ag:RS _ _ _ _ _).tr (Tr.weak al.base))<|(by rw[h1v];exact K6<|U7 (YP _ _)<|Zo a sa)
  ·exact TP ((am:RS _ _ _ _ _).tr (Tr.weak al.base))<|(by rw[h1v])
 refine Nl (Uc<|Rg<|Om<|Ub<|St.len sl38 rfl<|Ol<|St.sub (z:=(((b.length:Nat):Int)-1)) rfl rfl (UP _ (by omega))<|Ol<|Sd (j:=(b.length-1)) (u:=(b.getD (b.length-1) 0)) p sl38 io96 rfl rfl (by omega) (Ji (by omega)) ?_);intro ce cf aS an;obtain⟨rfl,b3⟩:aS=_∧_:=an.rd;refine Ol (Sa pl96 rfl (an.cell 0 _ rfl)<|Ol<|RH Y N3 rfl rfl (LW Y.bd (x:=(b.getD (b.length-1) 0))<|Jf sb _) ?_);intro cg ch ao aq a9;have D:=D.sp aq;subst a9;refine Ol (R2 (z:=(((32-blen (b.getD (b.length-1) 0)):Nat):Int)) us3 un98 rfl (UO _ (by omega))<|Ua<|RZ ?_);have hbl:=ju (nQ hb sb hne);refine RK (Om<|Ub<|TG ao Ip rfl rfl (qJ ao.bd D (s:=(32-blen (b.getD (b.length-1) 0))) (by omega) (by omega)) ?_);intro I ci cj ck b4 ar ba r;have p:=(p.sp aq).sp ba;refine Om (Ub<|RH ar Ip rfl rfl (sV ar.bd p (s:=(32-blen (b.getD (b.length-1) 0))) (by omega) (by omega)) ?_);intro cl cm au bb av;obtain⟨cn,co,rfl,_,_⟩:=av.len;refine Ol (RH au cb87 rfl rfl (Zg au.bd av (by rw[Jg];omega)) ?_);intro cp cq be bf e;have r:=(r.spn bb).spn bf;obtain⟨aw,ax,rfl,_,_⟩:=e.len;refine Oa (Ua<|RZ ?_);have ab:(32-blen (b.getD (b.length-1) 0))<32:=by omega
 obtain⟨hVl,hVv,hVt⟩:=GO hb sb hne (UM<|32-blen (b.getD (b.length-1) 0));have hVs:=e.u32_small;have a4:=Ez sa hb hne (s:=(32-blen (b.getD (b.length-1) 0))) hlab (Jg (a.length+1)<|val a*2^(32-blen (b.getD (b.length-1) 0))) (J1 _ _) (Ze _ _<|CV sa<|ZA ab);have hva:=Ze (a.length+1) (val a*2^(32-blen (b.getD (b.length-1) 0))) (CV sa<|ZA ab);generalize (trim<|Jx (b.length+1)<|val b*2^(32-blen (b.getD (b.length-1) 0)))=V at *;generalize (32-blen (b.getD (b.length-1) 0))=s at *;rw[←hVl,←hVv] at a4;have hVD:=Zo V hVs;have hVpos:0<val V:=by rw[hVv];exact ZM hbpos<|Jaa s
 have hVne:V≠[]:=by rintro rfl;simp at hVl;omega
 refine RK (Ub<|St.len sl38 rfl<|Ua<|Rg<|Ub<|St.len sl38 rfl<|Ub<|St.sub rfl rfl (Zy (a:=(a.length+1)) (b:=V.length) (by omega) (by omega))<|Ol<|So (n:=(a.length+1-V.length)) be sl38 rfl rfl rfl (by omega) io96 (by decide) ?_);intro M cr ct cu aT bg ay az;have ac:=aT _ r.blk.lt;have e:=e.sp ay;have r:=r.spn ay;refine Oa (Nl<|Rh<|Ub<|St.len sl38 rfl<|Ol<|St.sub (z:=((((a.length+1-V.length):Nat):Int)-1)) rfl rfl (UP _ (by omega))<|Ua<|W.block ?_);rw[←U8 (List.replicate (a.length+1-V.length) 0)] at az;refine Sc (fun μ f v=>∃(x y:Nat→Prop) (J:Nat) (Q:List Nat) (L:List Nat),Cx X w x y v∧f 4=(.slice (some ⟨M,0,none⟩) (a.length+1-V.length) (a.length+1-V.length))∧f 5=(.slice none 0 0)∧f 10=(.int .u64 ((s:Nat):Int))∧f 11=(.slice (some ⟨I,0,none⟩) (a.length+1) (a.length+1))∧f 12=(.slice aw V.length ax)∧f 13=(.int .i64 ((V.length:Nat):Int))∧f 14=(.int .i64 ((J:Int)-1))∧RS Jd x v (.slice aw V.length ax) V∧Own w y v I (L.map u32v) 96∧Own w y v M ((List.replicate J 0++Q).map u32v) 96∧J≤a.length+1-V.length∧J+Q.length=a.length+1-V.length∧Jp Q∧L.length=a.length+1∧Jp L∧val (L.drop J)<val V∧val a*2^s=val Q*val V*4294967296^J+val L∧μ=J) _ ⟨_,_,(a.length+1-V.length),[],(Jx (a.length+1)<|val a*2^s),bg,rfl,rfl,rfl,rfl,rfl,rfl,(congrArg (Value.int .i64) (by omega)),e,r,az,(UM _),rfl,J9,(Jg _ _),(J1 _ _),a4,(by rw[hva];simp[val]),rfl⟩ ?_;rintro cw cx cy ⟨aA,cz,J,Q,L,N,aB,aD,aE,aF,aG,aH,aI,e,o,G,hJ,hQl,hQs,hLl,hLs,hlo,hN,b1⟩;obtain⟨cB,rfl⟩:=rebK (aC aB<|aC aD<|aC aE<|aC aF<|aC aG<|aC aH<|aC aI aN);clear aB aD aE aF aG aH aI;have hJL:0<J→J+V.length≤L.length:=fun _=>by omega
 refine Rh<|Ub<|SB rfl rfl (fun aU=>?_)<|fun aU=>?_
 ·refine Nl (Ud<|RT<|RZ<|W.block<|RK<|Om<|Om<|Om<|Om<|Om<|Ub<|St.add (z:=(((J:Int)-1)+((V.length:Nat):Int))) rfl rfl (UP _ (by omega))<|Ol<|St.add (z:=((((J:Int)-1)+((V.length:Nat):Int))+1)) rfl rfl (UP _ (by omega)) ?_);refine Ol (S7 (i:=(J-1)) (j:=(J+V.length)) (by rw[sX (by omega) (by omega)];omega) sl38 io96 rfl rfl (by omega) rfl (by omega) (by omega) (by omega) (by omega)<|Ub<|TE N o ON rfl rfl (FE N.bd (A:=(L.take<|J-1)) (U:=((L.drop<|J-1).take (V.length+1))) (Z:=(L.drop<|J+V.length)) (by rw[UH];omega) (by have hh:=o.blk;rw[wF (L:=L) (J:=J) (n:=V.length) (by omega) (by omega)] at hh;exact hh) (N.yx _ o.mem) e (Ve (zi hLs _) _) (by omega) (by omega) (sX (by omega) (by omega)) (nQ hVt hVs hVne)<|CI hLs (by omega) (by omega) hVD hlo) ?_);intro cC cD bh aJ ad bi;have G:=G.spo aJ (UQ ac);subst bi;refine Ol (Sh (j:=(J-1)) sl38 io96 rfl rfl (by omega) (by omega)<|On<|Se (j:=(J-1)) (u:=(val ((L.drop<|J-1).take (V.length+1))/val V)) bh G io96 rfl rfl (by rw[Uv,UE];omega) ?_);intro cE bj aK aL;have e:=(e.sp aJ).sp aK;have ad:=ad.spo aK ac;rw[od (by omega)] at aL;refine Nl<|RK<|Ub<|St.sub (z:=(((J:Int)-1)-1)) rfl rfl (UP _ (by omega))<|Ua<|⟨_,(by omega),_,_,(J-1),((val<|(L.drop<|J-1).take (V.length+1))/val V::Q),(L.take (J-1)++Jx (V.length+1) ((val<|(L.drop<|J-1).take (V.length+1))%val V)++L.drop (J+V.length)),bj,rfl,rfl,rfl,rfl,rfl,rfl,(congrArg (Value.int .i64) (by omega)),e,ad,aL,(by omega),(by rw[Uw];omega),(Zs (wH<|CI hLs (by omega) (by omega) hVD hlo) hQs),((Cb (by omega) (by omega)).trans hLl),(vA hLs),(by rw[pN (by omega) (by omega) hVD hlo];exact UI _ hVpos),(FU (by omega) (by omega) hVD hlo hN),rfl⟩
 refine Nl (Ue<|Sf<|RZ ?_);have aM:J=0:=by omega
 rw[hVv,aM] at hN;rw[hVv,aM] at hlo;have R:=G.frRS (x:=aA) (n:=(a.length+1-V.length)) (c:=(a.length+1-V.length)) (by rw[Uv,UE];omega) (UM _) (by omega) (Yc (Ka _) hQs);rw[aM,XV,UZ,UU (by omega)] at R;have bk:=N.freeze hX G id;replace o:=o.frz ac;have T:=o.frRS (x:=(qF aA M)) (n:=(a.length+1)) (c:=(a.length+1)) (by omega) (UM _) (by omega) hLs;rw[UU (by omega)] at T;have bl:=bk.freeze hX o id;refine Sg mixed 6 [[],[0],[],[],[2,3],[]] bl [fx<|.slice (some ⟨M,0,none⟩) (a.length+1-V.length) (a.length+1-V.length),fs Jd<|trim Q,fx<|.slice (some ⟨I,0,none⟩) (a.length+1) (a.length+1),fx<|.int .i64 ((V.length:Nat):Int),fs Jd<|L.take V.length,fx<|.int .u64 ((s:Nat):Int)] (by kernel_rfl) ⟨sx,ss,sx,sx,ss,sx,trivial⟩ fun bm B cF ⟨h,aO⟩ k=>?_
 have R:=(R.tr<|Tr.frz (g:=I)).sp aO;have T:=T.sp aO;have k:Keep [93,94,95,96,97,98] _ bm:=k;refine⟨⟨fun _=>?_,fun⟨bn,_⟩=>?_,fun _=>?_,fun _=>?_,fun⟨bo,bp,_⟩=>?_,fun _=>?_,trivial⟩,fun⟨bq,H,br,bs,ae,bt,_⟩=>?_⟩
 ·exact Sd0 k fun _=>RP ⟨B,RJ h,rfl⟩
 ·refine Sd1 k bn fun _=>RH h cb87 rfl rfl (Zg h.bd R (by omega)) ?_;intro cG cH bu bv bw;exact⟨B,⟨bu,bv⟩,bw⟩
 ·exact Sd0 k fun _=>RP ⟨B,RJ h,rfl⟩
 ·exact Sd0 k fun _=>RP ⟨B,RJ h,rfl⟩
 ·refine Js k (aC bo<|aC bp aN) fun _=>R8 (Ta (j:=V.length) T sl38 io96 rfl rfl rfl (by omega) ?_);intro bx;exact⟨B,RJ h,bx⟩
 ·exact Sd0 k fun _=>RP ⟨B,RJ h,rfl⟩
 obtain⟨cI,cJ,bz,H⟩:=TQ H;obtain⟨cK,cL,bA,ae⟩:=TQ ae;obtain⟨cM,rfl⟩:=mixK k (aC bq<|aC bz<|aC br<|aC bs<|aC bA<|aC bt aN);refine Ol (RH h Pl rfl rfl (mX h.bd ae (s:=s) (by rw[UH];omega) ab) ?_);intro cN cO aP bB aQ;obtain⟨cP,cQ,rfl,_,_⟩:=aQ.len;refine Ol (RH aP cb87 rfl rfl (Zg aP.bd aQ (by rw[Jg,UH];omega)) ?_);intro cR cS af bC aR;have H:=(H.sp bB).sp bC;obtain⟨cT,cU,rfl,_,_⟩:=aR.len;refine Oa (Ua<|RY<|Z4 rfl (resV.t rfl) (resV.t rfl)<|RM ?_ af.below);refine⟨_,_,rfl,?_,?_⟩
 ·exact TP ((H:RS _ _ _ _ _).tr (Tr.weak af.base))<|(dv_q hQs hbpos hN hlo)
 ·exact TP ((aR:RS _ _ _ _ _).tr (Tr.weak af.base))<|(dv_r hLs hbpos (by omega) (by rw[←hVv];exact hVD) hN hlo)
end Go.Wf
namespace Go.Wf
open Go
theorem Q9(b:Bool)(n:Nat):(Jh b n).natAbs=n:=by cases b<;>simp[Jh]
theorem qK(b:Bool):Jh b 0=0:=by cases b<;>rfl
theorem oN(b:Bool)(n:Nat):decide (Jh b n<0)=(b&&decide (0<n)):=by
 cases b
 ·simp[Jh]
 ·simp[Jh]
theorem xm(b:Bool)(n:Nat):Jh (!b) n= - Jh b n:=by cases b<;>simp[Jh]
theorem Yh(n:Nat):Jh false n=n:=rfl
theorem Q8(v:Nat):decide (0<(digs v).length)=decide (0<v):=by
 rcases YV v with rfl|h
 ·rfl
 ·have:digs v≠[]:=fun e=>by rw[Qv] at e;omega
  rw[decide_eq_true h,decide_eq_true (W5.2 this)]
theorem r9{b:Bool}{m:List Nat}(h:Jp m):mkSg b m=ofZ (Jh b (val m)):=by
 unfold mkSg ofZ;rw[Vy h,Q9,oN,Q8]
theorem Yg{b:Bool}{m:List Nat}{z:Int}(h:Jp m)(e:Jh b (val m)=z):mkSg b m=ofZ z:=by rw[r9 h,e]
theorem Jl(z:Int):(ofZ z).toZ=z:=by
 unfold GInt.toZ ofZ;rw[Jw];rcases Int.lt_or_le z 0 with h|h
 ·rw[decide_eq_true h];simp[Jh];omega
 ·rw[decide_eq_false (by omega)];simp[Jh];omega
theorem Zr(z:Int):Jp (ofZ z).mag:=Zv _
theorem Vi(z:Int):trim (ofZ z).mag=(ofZ z).mag:=Z9 _
theorem u9{y z:Int}(h:ofZ y=ofZ z):y=z:=by rw[←Jl y,h,Jl]
theorem Xg(z:Int):(ofZ z).mag=digs z.natAbs:=rfl
theorem iz(z:Int):(ofZ z).neg=decide (z<0):=rfl
theorem Yu(a:GInt):a.toZ.natAbs=val a.mag:=Q9 _ _
theorem yi{a:GInt}:a.toZ=0↔val a.mag=0:=by rw[←Wp,Yu]
theorem K0{m:List Nat}(_h:Jp m):(trim m).length=0↔val m=0:=by
 rw[W3,Y8]
theorem tq{a:GInt}(h:val a.mag=0):(0:Int)=a.toZ.sign:=by rw[yi.2 h];rfl
theorem pK{a:GInt}(hn:a.neg=true)(h:val a.mag≠0):(-1:Int)=a.toZ.sign:=by
 unfold GInt.toZ;rw[hn];rw[Wz];simp[Jh];omega
theorem BS{a:GInt}(hn:a.neg=false)(h:val a.mag≠0):(1:Int)=a.toZ.sign:=by
 unfold GInt.toZ;rw[hn];rw[WA];simp[Jh];omega
theorem oJ{a:GInt}{b:List Nat}{n:Bool}(h:a.neg=n):Jh n (val a.mag+val b)=a.toZ+Jh n (val b):=by
 unfold GInt.toZ;rw[h];cases n<;>simp[Jh]<;>omega
theorem Dm{a:GInt}{b:List Nat}{n:Bool}(h:¬a.neg=n)(hle:val b≤val a.mag):Jh a.neg (val a.mag-val b)=a.toZ+Jh n (val b):=by
 unfold GInt.toZ
 have:n= !a.neg:=by cases n<;>cases hh:a.neg<;>simp_all
 rw[this];cases a.neg<;>simp[Jh]<;>omega
theorem CK{a:GInt}{b:List Nat}{n:Bool}(h:¬a.neg=n)(hle:val a.mag≤val b):Jh n (val b-val a.mag)=a.toZ+Jh n (val b):=by
 unfold GInt.toZ
 have:n= !a.neg:=by cases n<;>cases hh:a.neg<;>simp_all
 rw[this];cases a.neg<;>simp[Jh]<;>omega
theorem lU(a b:GInt):Jh (a.neg != b.neg) (val a.mag*val b.mag)=a.toZ*b.toZ:=by
 unfold GInt.toZ;cases a.neg<;>cases b.neg<;>simp[Jh,Ww,Wj]
theorem jw{a b:GInt}(hb:val b.mag≠0)(h:a.neg=false∨val a.mag%val b.mag=0):
  Jh (a.neg != b.neg) (val a.mag/val b.mag)=a.toZ/b.toZ∧((val a.mag%val b.mag:Nat):Int)=a.toZ%b.toZ:=by
 unfold GInt.toZ;have hm:=YM (val a.mag) (val b.mag);generalize val a.mag=x at *;generalize val b.mag=y at *;cases ha:a.neg with
 |false=>
  cases b.neg with
  |false=>simp[Jh]
  |true=>simp[Jh]
 |true=>
  have d:x%y=0:=by
   rcases h with h|h
   ·rw[ha] at h;cases h
   ·exact h
  rw[d,YH] at hm;generalize x/y=q at *;subst hm;have hy:(y:Int)≠0:=by omega
  cases b.neg with
  |false=>
   simp only[Jh];refine⟨?_,?_⟩
   ·have: -((y*q:Nat):Int)=(y:Int)*(-(q:Int)):=by simp[Wj]
    simp only[if_true,Bool.bne_false,if_false,VM];rw[this,We _ hy]
   ·simp[d]
  |true=>
   simp only[Jh];refine⟨?_,?_⟩
   ·have: -((y*q:Nat):Int)=(-(y:Int))*(q:Int):=by simp[Ww]
    simp only[if_true,bne_self_eq_false,if_false,VM];rw[this,We _ (by omega)]
   ·simp[d]
theorem iG{a b:GInt}(hb:val b.mag≠0)(ha:a.neg=true)(h:val a.mag%val b.mag≠0):
  Jh (a.neg != b.neg) (val a.mag/val b.mag+1)=a.toZ/b.toZ∧((val b.mag-val a.mag%val b.mag:Nat):Int)=a.toZ%b.toZ:=by
 unfold GInt.toZ;have hm:=YM (val a.mag) (val b.mag);have hlt:=UI (val a.mag) (show 0<val b.mag by omega);generalize val a.mag=x at *;generalize val b.mag=y at *;generalize x/y=q at *;generalize x%y=r at *;rw[ha];have key:∀s:Int,(s=y∨s= -y)→∀Q:Int,-(x:Int)=s*Q+((y-r:Nat):Int)→Q= -(x:Int)/s∧((y-r:Nat):Int)= -(x:Int)%s:=by
  intro s hs Q hQ;have d:0≤((y-r:Nat):Int):=Wu _;have i:((y-r:Nat):Int)<s.natAbs:=by
   have:s.natAbs=y:=by rcases hs with rfl|rfl<;>simp
   rw[this];omega
  have e:s≠0:=by rcases hs with rfl|rfl<;>omega
  have f: -(x:Int)/s=Q:=by
   have g:((y-r:Nat):Int)/s=0:=by
    rcases hs with rfl|rfl
    ·exact Int.ediv_eq_zero_of_lt d (by omega)
    ·rw[Int.ediv_neg,Int.ediv_eq_zero_of_lt d (by omega),Int.neg_zero]
   rw[hQ,Int.mul_add_ediv_left _ _ e,g,Int.add_zero]
  refine⟨f.symm,?_⟩
  have:=Int.emod_def (-(x:Int)) s
  rw[this,f];omega
 have hx:(x:Int)=(y:Int)*q+r:=by rw[←hm];simp
 have hsub:((y-r:Nat):Int)=(y:Int)-r:=by omega
 cases b.neg with
 |false=>
  have:=key y (.inl rfl) (-((q:Int)+1)) (by rw[hsub,hx,Wj,Int.mul_add];omega)
  simpa[Jh] using this
 |true=>
  have:=key (-y) (.inr rfl) ((q:Int)+1) (by rw[hsub,hx,Ww,Int.mul_add];omega)
  simpa[Jh] using this
def GRat.q(r:GRat):Rat:=Rat.divInt r.num.toZ r.den.toZ
def ofQ(q:Rat):GRat:=⟨ofZ q.num,ofZ (q.den:Int)⟩
theorem Zq(q:Rat):(ofQ q).q=q:=by
 unfold GRat.q ofQ;rw[Jl,Jl];exact Jao q
def low(n d:Int):GRat:=ofQ (Rat.divInt n d)
theorem l9(n:Int):low n 0=⟨ofZ 0,ofZ 1⟩:=by
 unfold low ofQ;rw[Rat.divInt_zero];rfl
theorem li(d:Int):low 0 d=⟨ofZ 0,ofZ 1⟩:=by
 unfold low ofQ;rw[Jaq];rfl
theorem nN{n d:Int}(hd:0<d):low n d=⟨ofZ (n/(Int.gcd n d:Int)),ofZ (d/(Int.gcd n d:Int))⟩:=by
 unfold low ofQ;rw[Rat.num_divInt,Rat.den_divInt,if_neg (by omega),VY,WA hd,Wy]
 congr 2
 have:(d.natAbs:Int)=d:=by omega
 rw[←this];simp
theorem DX{n d:Int}(hd:d=1):low n d=⟨ofZ n,ofZ d⟩:=by
 subst hd;rw[nN (by decide),Int.gcd_one_right];simp
theorem mZ{n d:Int}(hd:0<d)(h:Int.gcd n d=1):low n d=⟨ofZ n,ofZ d⟩:=by
 rw[nN hd,h];simp
theorem vx{a:GRat}(h:a.den.toZ=0):a.q=0:=by
 unfold GRat.q;rw[h,Rat.divInt_zero]
theorem F9{a b:GRat}(ha:a.den.toZ≠0)(hb:b.den.toZ≠0):a.q+b.q=Rat.divInt (a.num.toZ*b.den.toZ+b.num.toZ*a.den.toZ) (a.den.toZ*b.den.toZ):=Rat.divInt_add_divInt _ _ ha hb
theorem O6(a:GRat):Rat.divInt (-a.num.toZ) a.den.toZ= - a.q:=by
 unfold GRat.q;rw[Rat.neg_divInt]
def io(q:Rat):Int:=q.num.sign
theorem KZ(a:GRat):a.num.toZ.sign*a.den.toZ.sign=io a.q:=by
 unfold GRat.q io;rw[Rat.num_divInt];generalize a.num.toZ=n;generalize a.den.toZ=d;rcases Wb d 0 with h|h|h
 ·rw[Wz h];have hg:0<Int.gcd d n:=Int.gcd_pos_of_ne_zero_left _ (by omega);have hdvd:(Int.gcd d n:Int)∣n:=VZ _ _;obtain⟨k,hk⟩:=hdvd;generalize Int.gcd d n=g at *;subst hk;rw[show(-1:Int)*((g:Int)*k)=(g:Int)*(-k) by rw[Wj,Ww,Wy],We _ (by omega),Int.sign_mul,Int.sign_neg,WA (by omega)];omega
 ·subst h;simp
 ·rw[WA h];have hg:0<Int.gcd d n:=Int.gcd_pos_of_ne_zero_left _ (by omega);have hdvd:(Int.gcd d n:Int)∣n:=VZ _ _;obtain⟨k,hk⟩:=hdvd;generalize Int.gcd d n=g at *;subst hk;rw[Wy,We _ (by omega),Int.sign_mul,WA (show 0<(g:Int) by omega)];omega
end Go.Wf
namespace Go.Wf
open Go Go.Proofs Go.RowKit
theorem RV.int_small{X:Nat→Prop}{w:World}{v:Value}{a:GInt}(h:RV Jo X w v a):Jp a.mag:=by
 obtain⟨s,c,rfl,b⟩:=RV.int h;exact b.u32_small
theorem iF{a b:List Nat}(sa:Jp a)(sb:Jp b):val a+val b<4294967296^(max a.length b.length+1):=by
 have d:=Zo a sa;have e:=Zo b sb;have f:4294967296^a.length≤4294967296^max a.length b.length:=U1 (by omega) (Nat.le_max_left _ _);have g:4294967296^b.length≤4294967296^max a.length b.length:=U1 (by omega) (Nat.le_max_right _ _);rw[UV];omega
theorem yp{X:Nat→Prop}{w:World}(hX:XB X w){p:Value}{a:GInt}(r:RV Jo X w p a)(hl:a.mag.length≤1099511627776):CRt 143 #[p] w fun v w'=>RV Jo X w' v (ofZ a.toZ):=by
 obtain⟨s,u,rfl,g⟩:=RV.int r;have C:=Cx.start hX;have sa:=r.int_small;refine Cgo Tryz.func143 rfl rfl rfl (Rg<|Ol<|R9 C rfl ?_);intro x w5 x6 y7 af C9 y f;have g:=g.sp y;refine Ol (RR C9 io40 rfl ?_);intro ag ah ai aj ae z m h;refine Nl<|RZ<|Sg mixed 6 [[],[0],[],[2],[3],[4]] z [fx<|.pointer (some ⟨x,0,none⟩),fx<|.bool a.neg,fx<|.pointer (some ⟨x,1,none⟩),fx<|.slice s a.mag.length u,fs Jd<|trim a.mag,fs Jd<|trim a.mag] (by kernel_rfl) ⟨sx,sx,sx,sx,ss,ss,trivial⟩ fun A e ak ⟨b,i⟩ d=>?_
 have g:=(g.sp m).sp i;have f:=(f.spn m).spn i;have d:Keep [3,4,5,6,7,8] _ A:=d;refine⟨⟨fun _=>?_,fun⟨B,_⟩=>?_,fun _=>?_,fun⟨D,_⟩=>?_,fun⟨E,_⟩=>?_,fun⟨j,_⟩=>?_,trivial⟩,fun⟨F,G,H,I,n,k,_⟩=>?_⟩
 ·exact Sd0 d fun _=>RI Zp rfl ⟨e,RJ b,rfl⟩
 ·exact Sd1 d B fun _=>RN f pl4 rfl rfl ⟨e,RJ b,rfl⟩
 ·exact Sd0 d fun _=>RI J4 rfl ⟨e,RJ b,rfl⟩
 ·exact Sd1 d D fun _=>RN f pl38 rfl rfl ⟨e,RJ b,rfl⟩
 ·refine Sd1 d E fun _=>RH b cb87 rfl rfl (Zg b.bd g (by omega)) ?_;intro al am J K L;exact⟨e,⟨J,K⟩,L⟩
 ·obtain⟨an,ao,M,j⟩:=TQ j;refine Sd1 d M fun _=>RH b uP rfl rfl (jz b.bd j<|UC (Jr _) (by omega)) ?_;intro aq ar N P Q;exact⟨e,⟨N,P⟩,Q⟩
 obtain⟨au,av,R,n⟩:=TQ n;obtain⟨aw,ax,T,k⟩:=TQ k;obtain⟨ay,rfl⟩:=mixK d (aC F<|aC G<|aC H<|aC I<|aC R<|aC T aN);refine Ol (RH b cb84 rfl rfl (Z8 b.bd k<|UC (Jr _) (by omega)) ?_);intro az aA U V Y;have h:=(h.spn i).spn V;obtain⟨Z,aa,rfl,l⟩:=RV.int Y;refine On (Us (cs':=(zzC (mkSg a.neg<|trim a.mag) Z aa)) U h io40 ?_);intro aB o ab ac;have l:=l.sp ab;refine Nl (RY<|J0 rfl (TL ac rfl ag40 rfl)<|RM ?_ o.below);exact TM (a:=(mkSg a.neg<|trim a.mag)) ((Je l).tr (Tr.weak o.base))<|Yg (J5 sa) (by rw[Z1];rfl)
theorem z9{X:Nat→Prop}{w:World}(hX:XB X w){i:Value}{a:GInt}(j:RV Jo X w i a)(hl:a.mag.length≤1099511627776):CRt 59 #[i] w fun v w'=>v=(.int .i64 a.toZ.sign):=by
 obtain⟨o,p,rfl,g⟩:=RV.int j;have C:=Cx.start hX;have sa:=j.int_small;refine Cgo Tryz.func59 rfl rfl rfl (Rg<|Ol<|R9 C rfl ?_);intro z A B D r k l e;have g:=g.sp l;refine Oa (Nl<|RZ<|W.block<|Rg<|Ol<|RI J4 rfl<|Ol<|RN e pl38 rfl rfl<|Ol<|RH k cb87 rfl rfl (Zg k.bd g (by omega)) ?_);intro s u f m n;have e:=e.spn m;obtain⟨x,y,rfl,_,_⟩:=n.len;refine Ol<|St.len sl38 rfl<|Ol<|Sj rfl rfl (fun b=>?_)<|fun b=>?_
 ·exact Ua<|Uf<|Ua<|RY<|Wq rfl rfl f<|congrArg (Value.int _)<|(tq<|(K0 sa).1 (by omega))
 refine Ua<|Ug<|Ol<|RI Zp rfl<|Ol<|Sm<|RN e pl4 rfl rfl ⟨_,rfl,fun d=>?_,fun d=>?_⟩
 ·exact Ua<|Uf<|Ua<|RY<|Wq rfl rfl f<|congrArg (Value.int _)<|(pK d<|fun h=>b (by rw[(K0 sa).2 h];rfl))
 exact Ua<|Uc<|Rg<|Ua<|RY<|Wq rfl rfl f<|congrArg (Value.int _)<|(BS d<|fun h=>b (by rw[(K0 sa).2 h];rfl))
theorem nX{X:Nat→Prop}{w:World}(hX:XB X w){p:Value}{a:GInt}(r:RV Jo X w p a)(hl:a.mag.length≤1099511627776):CRt 144 #[p] w fun v w'=>RV Jo X w' v (ofZ (-a.toZ)):=by
 obtain⟨s,u,rfl,g⟩:=RV.int r;have C:=Cx.start hX;have sa:=r.int_small;refine Cgo Tryz.func144 rfl rfl rfl (Rg<|Ol<|R9 C rfl ?_);intro x w5 x6 y7 ah C9 y f;have g:=g.sp y;refine Ol (RR C9 io40 rfl ?_);intro ai aj ak al ag z m h;refine Nl<|RZ<|Sg mixed 7 [[],[0],[1],[],[3],[4],[5]] z [fx<|.pointer (some ⟨x,0,none⟩),fx<|.bool a.neg,fx<|.bool (!a.neg),fx<|.pointer (some ⟨x,1,none⟩),fx<|.slice s a.mag.length u,fs Jd<|trim a.mag,fs Jd<|trim a.mag] (by kernel_rfl) ⟨sx,sx,sx,sx,sx,ss,ss,trivial⟩ fun A e am ⟨b,i⟩ d=>?_
 have g:=(g.sp m).sp i;have f:=(f.spn m).spn i;have d:Keep [3,4,5,6,7,8,9] _ A:=d;refine⟨⟨fun _=>?_,fun⟨B,_⟩=>?_,fun⟨D,_⟩=>?_,fun _=>?_,fun⟨E,_⟩=>?_,fun⟨F,_⟩=>?_,fun⟨j,_⟩=>?_,trivial⟩,fun⟨G,H,I,J,K,n,k,_⟩=>?_⟩
 ·exact Sd0 d fun _=>RI Zp rfl ⟨e,RJ b,rfl⟩
 ·exact Sd1 d B fun _=>RN f pl4 rfl rfl ⟨e,RJ b,rfl⟩
 ·exact Sd1 d D fun _=>Sr rfl ⟨e,RJ b,rfl⟩
 ·exact Sd0 d fun _=>RI J4 rfl ⟨e,RJ b,rfl⟩
 ·exact Sd1 d E fun _=>RN f pl38 rfl rfl ⟨e,RJ b,rfl⟩
 ·refine Sd1 d F fun _=>RH b cb87 rfl rfl (Zg b.bd g (by omega)) ?_;intro an ao L M N;exact⟨e,⟨L,M⟩,N⟩
 ·obtain⟨aq,ar,P,j⟩:=TQ j;refine Sd1 d P fun _=>RH b uP rfl rfl (jz b.bd j<|UC (Jr _) (by omega)) ?_;intro au av Q R T;exact⟨e,⟨Q,R⟩,T⟩
 obtain⟨aw,ax,U,n⟩:=TQ n;obtain⟨ay,az,V,k⟩:=TQ k;obtain⟨aA,rfl⟩:=mixK d (aC G<|aC H<|aC I<|aC J<|aC K<|aC U<|aC V aN);refine Ol (RH b cb84 rfl rfl (Z8 b.bd k<|UC (Jr _) (by omega)) ?_);intro aB aD Y Z aa;have h:=(h.spn i).spn Z;obtain⟨ab,ac,rfl,l⟩:=RV.int aa;refine On (Us (cs':=(zzC (mkSg (!a.neg)<|trim a.mag) ab ac)) Y h io40 ?_);intro aE o ad ae;have l:=l.sp ad;refine Nl (RY<|J0 rfl (TL ae rfl ag40 rfl)<|RM ?_ o.below);exact TM (a:=(mkSg (!a.neg)<|trim a.mag)) ((Je l).tr (Tr.weak o.base))<|Yg (J5 sa) (by rw[Z1,xm];rfl)
theorem KG{X:Nat→Prop}{w:World}(hX:XB X w){o:Value}{a:GInt}(p:RV Jo X w o a)(hl:a.mag.length≤1099511627776):CRt 528 #[o] w fun v w'=>RV Jo X w' v (ofZ (a.toZ.natAbs:Int)):=by
 obtain⟨G,H,rfl,n⟩:=RV.int p;have C:=Cx.start hX;have sa:=p.int_small;refine Cgo Tryz.func528 rfl rfl rfl (Rg<|Ol<|R9 C rfl ?_);intro g4 w5 x6 y7 K I r e;refine Ol (RR I io40 rfl ?_);intro L M N P J g h d;have n:=(n.sp r).sp h;have e:=e.spn h;refine Nl (Rg<|Ol<|RI J4 rfl<|Ol<|RN e pl38 rfl rfl<|Ol<|RH g cb87 rfl rfl (Zg g.bd n (by omega)) ?_);intro Q R i s j;have d:=d.spn s;obtain⟨T,U,rfl,_,_⟩:=j.len;refine Ol (RH i uP rfl rfl (jz i.bd j<|UC (Jr _) (by omega)) ?_);intro V Y k u l;obtain⟨Z,aa,rfl,_,_⟩:=l.len;refine Ol (RH k cb84 rfl rfl (Z8 k.bd l<|UC (Jr _) (by omega)) ?_);intro ab ac x y A;have d:=(d.spn u).spn y;obtain⟨B,D,rfl,f⟩:=RV.int A;refine On (Us (cs':=(zzC (mkSg false<|trim a.mag) B D)) x d io40 ?_);intro ad m E F;have f:=f.sp E;refine Nl (RY<|J0 rfl (TL F rfl ag40 rfl)<|RM ?_ m.below);exact TM (a:=(mkSg false<|trim a.mag)) ((Je f).tr (Tr.weak m.base))<|Yg (b:=false) (z:=(a.toZ.natAbs:Int)) (J5 sa) (by rw[Z1,Yu];rfl)
theorem CW{X:Nat→Prop}{w:World}(hX:XB X w){v0:Value}{a:GInt}(r0:RV Jo X w v0 a){n:Bool}{v2:Value}{b:List Nat}(e:RS Jd X w v2 b)(hla:a.mag.length≤549755813888)(hb:trim b=b)(hlb:b.length≤549755813888):CRt 235 #[v0,(.bool n),v2] w fun v w'=>RV Jo X w' v (ofZ (a.toZ+Jh n (val b))):=by
 obtain⟨a1,c2,rfl,L⟩:=RV.int r0;obtain⟨a4,c5,rfl,_,_⟩:=e.len;have C:=Cx.start hX;have sa:=r0.int_small;have sb:=e.u32_small;have tt:=Ks sa;have tl:=Jr a.mag;have tv:=Z1 a.mag;have tb:¬cmpN (val<|trim a.mag) (val b)≥0→val a.mag≤val b:=fun h=>by rw[←tv];exact ZA<|ny (by omega)
 have tg:cmpN (val<|trim a.mag) (val b)≥0→val b≤val (trim a.mag):=fun h=>mC (by omega);have tll:val a.mag≤val b→(trim a.mag).length≤b.length:=fun h=>Yd tt sb (by omega);have tgl:val b≤val (trim a.mag)→b.length≤(trim a.mag).length:=fun h=>Yd hb (J5 sa) h;refine Cgo Tryz.func235 rfl rfl rfl (Rg<|Ol<|R9 C rfl ?_);intro g6 w7 x8 y9 aQ af G f;have e:=e.sp G;refine Ol (RR af io40 rfl ?_);intro aZ a0 a2 a3 aR H s d;have L:=(L.sp G).sp s;have f:=f.spn s;refine Nl (Rg<|Ol<|RI J4 rfl<|Ol<|RN f pl38 rfl rfl<|Ol<|RH H cb87 rfl rfl (Zg H.bd L (by omega)) ?_);intro a5 a6 o u g;have e:=(e.sp s).sp u;have f:=f.spn u;have d:=d.spn u;obtain⟨ag,ah,rfl,_,_⟩:=g.len;refine Ua<|Rh<|Ol<|RI Zp rfl<|Ol<|RN f pl4 rfl rfl<|Ub<|Sm<|Tu un4 rfl rfl rfl ⟨_,rfl,fun k=>?_,fun k=>?_⟩
 ·refine Nl (Uf<|Om<|Om<|Ub<|RH o cb99 rfl rfl (CP o.bd g e (by omega) (by omega)) ?_);intro a7 a8 I ai J;obtain⟨a9,ba,rfl,_,_⟩:=J.len;refine Ol (RH I cb84 rfl rfl (Z8 I.bd J (by rw[Jg];omega)) ?_);intro bb be aj ak al;have d:=(d.spn ai).spn ak;obtain⟨am,an,rfl,x⟩:=RV.int al;refine On (Us (cs':=(zzC (mkSg n<|Jx (max (trim a.mag).length b.length+1)<|val (trim a.mag)+val b) am an)) aj d io40 ?_);intro bf K ao aq;have x:=x.sp ao;refine Nl (RY<|J0 rfl (TL aq rfl ag40 rfl)<|RM ?_ K.below);exact TM (a:=(mkSg n<|Jx (max (trim a.mag).length b.length+1)<|val (trim a.mag)+val b)) ((Je x).tr (Tr.weak K.base))<|Yg (J1 _ _) (by rw[Ze _ _<|iF (J5 sa) sb,tv];exact oJ (by simpa using k))
 refine Nl (Uc<|Rh<|Om<|Ub<|RH o KS rfl rfl (kE o.bd g e tt hb (by omega) (by omega)) ?_);intro bg bh y p ar;have e:=e.sp p;have g:=g.sp p;have d:=d.spn p;subst ar;refine Ol<|SB rfl rfl (fun M=>?_)<|fun M=>?_
 ·refine Nl<|Ud<|RZ<|Sg mixed 5 [[],[0],[],[],[2,3]] y [fx<|.pointer (some ⟨g6,0,none⟩),fx<|.bool a.neg,fx<|.slice ag (trim a.mag).length ah,fx<|.slice a4 b.length c5,fs Jd<|Jx (trim a.mag).length<|val (trim a.mag)-val b] (by kernel_rfl) ⟨sx,sx,sx,sx,ss,trivial⟩ fun au l bi ⟨i,r⟩ j=>?_
  have e:=e.sp r;have g:=g.sp r;have f:=(f.spn p).spn r;have j:Keep [24,25,26,27,28] _ au:=j;refine⟨⟨fun _=>?_,fun⟨av,_⟩=>?_,fun _=>?_,fun _=>?_,fun⟨aw,ax,_⟩=>?_,trivial⟩,fun⟨ay,az,aA,aB,z,_⟩=>?_⟩
  ·exact Sd0 j fun _=>RI Zp rfl ⟨l,RJ i,rfl⟩
  ·exact Sd1 j av fun _=>RN f pl4 rfl rfl ⟨l,RJ i,rfl⟩
  ·exact Sd0 j fun _=>RP ⟨l,RJ i,rfl⟩
  ·exact Sd0 j fun _=>RP ⟨l,RJ i,rfl⟩
  ·refine Js j (aC aw<|aC ax aN) fun _=>R8 (RH i DM rfl rfl (uY i.bd g e (by omega) (tgl<|tg (by omega))<|tg (by omega)) ?_);intro bj bk aD aE aF;exact⟨l,⟨aD,aE⟩,aF⟩
  obtain⟨bl,bm,aG,z⟩:=TQ z;obtain⟨bn,rfl⟩:=mixK j (aC ay<|aC az<|aC aA<|aC aB<|aC aG aN);refine Ol (RH i cb84 rfl rfl (Z8 i.bd z (by rw[Jg];omega)) ?_);intro bo bp aH aI aJ;have d:=(d.spn r).spn aI;obtain⟨aK,aL,rfl,A⟩:=RV.int aJ;refine On (Us (cs':=(zzC (mkSg a.neg<|Jx (trim a.mag).length<|val (trim a.mag)-val b) aK aL)) aH d io40 ?_);intro bq B N P;have A:=A.sp N;refine Nl (RY<|J0 rfl (TL P rfl ag40 rfl)<|RM ?_ B.below);exact TM (a:=(mkSg a.neg<|Jx (trim a.mag).length<|val (trim a.mag)-val b)) ((Je A).tr (Tr.weak B.base))<|Yg (J1 _ _) (by rw[Ze _ _<|U7 (ZU _ _)<|Zo _<|J5 sa,tv];exact Dm (by simpa using k) (by rw[←tv];exact tg (by omega)))
 refine Nl (Uc<|Rg<|Om<|Om<|Ub<|RH y DM rfl rfl (uY y.bd e g (by omega) (tll<|tb (by omega)) (by rw[tv];exact tb (by omega))) ?_);intro aS aT D Q E;obtain⟨aU,aV,rfl,_,_⟩:=E.len;refine Ol (RH D cb84 rfl rfl (Z8 D.bd E (by rw[Jg];omega)) ?_);intro aW aX R T U;have d:=(d.spn Q).spn T;obtain⟨V,Y,rfl,m⟩:=RV.int U;refine On (Us (cs':=(zzC (mkSg n<|Jx b.length<|val b-val (trim a.mag)) V Y)) R d io40 ?_);intro aY F Z aa;have m:=m.sp Z;refine Nl (RY<|J0 rfl (TL aa rfl ag40 rfl)<|RM ?_ F.below);exact TM (a:=(mkSg n<|Jx b.length<|val b-val (trim a.mag))) ((Je m).tr (Tr.weak F.base))<|Yg (J1 _ _) (by rw[Ze _ _<|U7 (ZU _ _)<|Zo _ sb,tv];exact CK (by simpa using k)<|tb (by omega))
theorem uI{b:Bool}{m:List Nat}{v:Nat}{z:Int}(h:trim m=digs v)(e:Jh b v=z):mkSg b m=ofZ z:=by
 subst e;unfold mkSg ofZ;rw[h,Q9,oN,Q8]
theorem EO{a b:List Nat}(sa:Jp a)(sb:Jp b):(digs (Nat.gcd (val a) (val b))).length≤a.length+b.length:=by
 refine Jt ?_;have d:=Zo a sa;have f:=Zo b sb;have g:4294967296^a.length≤4294967296^(a.length+b.length):=U1 (by omega) (by omega);have h:4294967296^b.length≤4294967296^(a.length+b.length):=U1 (by omega) (by omega);rcases YV (val a) with e|e
 ·rw[e,Nat.gcd_zero_left];omega
 ·have:=Nat.gcd_le_left (val b) e;omega
theorem qi(x y:Nat):Nat.gcd y (x%y)=Nat.gcd x y:=by rw[YW x y,Nat.gcd_rec y x,YW]
theorem Q2{a b:List Nat}(sb:Jp b)(h:0<val b):(digs (val a%val b)).length≤b.length:=Jt (Nat.lt_trans (UI _ h) (Zo b sb))
theorem ln{a:List Nat}(sa:Jp a)(n:Nat):(digs (val a/n)).length≤a.length:=Jt (U7 (YP _ _) (Zo a sa))
theorem sZ:Jp [1]:=Zs (by decide) J9
theorem n9{X:Nat→Prop}{w:World}(hX:XB X w){z:Value}{a:GInt}(A:RV Jo X w z a){B:Value}{b:GInt}(D:RV Jo X w B b)(hla:a.mag.length≤549755813888)(hlb:b.mag.length≤549755813888):CRt 189 #[z,B] w fun v w'=>RV Jo X w' v (ofZ (a.toZ+b.toZ)):=by
 obtain⟨x,y,rfl,k⟩:=RV.int A;obtain⟨E,c5,rfl,l⟩:=RV.int D;have C:=Cx.start hX;have sa:=A.int_small;have sb:=D.int_small;refine Cgo Tryz.func189 rfl rfl rfl (Rg<|Ol<|R9 C rfl ?_);intro g7 w8 x9 aj ag F r g;refine Ol (R9 F rfl ?_);intro s ak al am ah G m i;have k:=(k.sp r).sp m;have l:=(l.sp r).sp m;have g:=g.spn m;refine Ol (RR G io40 rfl ?_);intro an ao aq ar ai H j n;refine Nl<|RZ<|Sg mixed 6 [[],[],[1],[],[3],[4]] H [fx<|.agg #[(.bool a.neg),(.slice x a.mag.length y)],fx<|.pointer (some ⟨s,0,none⟩),fx<|.bool b.neg,fx<|.pointer (some ⟨s,1,none⟩),fx<|.slice E b.mag.length c5,fs Jd<|trim b.mag] (by kernel_rfl) ⟨sx,sx,sx,sx,sx,ss,trivial⟩ fun I f au ⟨d,h⟩ e=>?_
 have k:=(k.sp j).sp h;have l:=(l.sp j).sp h;have g:=(g.spn j).spn h;have i:=(i.spn j).spn h;have e:Keep [5,6,7,8,9,10] _ I:=e;refine⟨⟨fun _=>?_,fun _=>?_,fun⟨J,_⟩=>?_,fun _=>?_,fun⟨K,_⟩=>?_,fun⟨L,_⟩=>?_,trivial⟩,fun⟨M,N,P,Q,R,o,_⟩=>?_⟩
 ·exact Sd0 e fun _=>RX (vs:=(zzC a x y)) g ag40 rfl rfl rfl ⟨f,RJ d,rfl⟩
 ·exact Sd0 e fun _=>RI Zp rfl ⟨f,RJ d,rfl⟩
 ·exact Sd1 e J fun _=>RN i pl4 rfl rfl ⟨f,RJ d,rfl⟩
 ·exact Sd0 e fun _=>RI J4 rfl ⟨f,RJ d,rfl⟩
 ·exact Sd1 e K fun _=>RN i pl38 rfl rfl ⟨f,RJ d,rfl⟩
 ·refine Sd1 e L fun _=>RH d cb87 rfl rfl (Zg d.bd l (by omega)) ?_;intro av aw T U V;exact⟨f,⟨T,U⟩,V⟩
 obtain⟨ax,ay,Y,o⟩:=TQ o;obtain⟨az,rfl⟩:=mixK e (aC M<|aC N<|aC P<|aC Q<|aC R<|aC Y aN);refine Ol (RH d I7 rfl rfl (CW d.bd (a:=a) (Je k) o (by omega) (Ks sb)<|UC (Jr _) (by omega)) ?_);intro aA aB Z aa ab;have n:=(n.spn h).spn aa;obtain⟨ac,ad,rfl,p⟩:=RV.int ab;refine On (Us (cs':=(zzC (ofZ<|a.toZ+Jh b.neg (val<|trim b.mag)) ac ad)) Z n io40 ?_);intro aD u ae af;have p:=p.sp ae;refine Nl (RY<|J0 rfl (TL af rfl ag40 rfl)<|RM ?_ u.below);exact TM (a:=(ofZ<|a.toZ+Jh b.neg (val<|trim b.mag))) ((Je p).tr (Tr.weak u.base))<|(by rw[Z1];rfl)
theorem Lc{X:Nat→Prop}{w:World}(hX:XB X w){z:Value}{a:GInt}(A:RV Jo X w z a){B:Value}{b:GInt}(D:RV Jo X w B b)(hla:a.mag.length≤549755813888)(hlb:b.mag.length≤549755813888):CRt 276 #[z,B] w fun v w'=>RV Jo X w' v (ofZ (a.toZ-b.toZ)):=by
 obtain⟨x,y,rfl,k⟩:=RV.int A;obtain⟨E,c5,rfl,l⟩:=RV.int D;have C:=Cx.start hX;have sa:=A.int_small;have sb:=D.int_small;refine Cgo Tryz.func276 rfl rfl rfl (Rg<|Ol<|R9 C rfl ?_);intro g7 w8 x9 al ai F r g;refine Ol (R9 F rfl ?_);intro s am an ao aj G m i;have k:=(k.sp r).sp m;have l:=(l.sp r).sp m;have g:=g.spn m;refine Ol (RR G io40 rfl ?_);intro aq ar au av ak H j n;refine Nl<|RZ<|Sg mixed 7 [[],[],[1],[2],[],[4],[5]] H [fx<|.agg #[(.bool a.neg),(.slice x a.mag.length y)],fx<|.pointer (some ⟨s,0,none⟩),fx<|.bool b.neg,fx<|.bool (!b.neg),fx<|.pointer (some ⟨s,1,none⟩),fx<|.slice E b.mag.length c5,fs Jd<|trim b.mag] (by kernel_rfl) ⟨sx,sx,sx,sx,sx,sx,ss,trivial⟩ fun I f aw ⟨d,h⟩ e=>?_
 have k:=(k.sp j).sp h;have l:=(l.sp j).sp h;have g:=(g.spn j).spn h;have i:=(i.spn j).spn h;have e:Keep [5,6,7,8,9,10,11] _ I:=e;refine⟨⟨fun _=>?_,fun _=>?_,fun⟨J,_⟩=>?_,fun⟨K,_⟩=>?_,fun _=>?_,fun⟨L,_⟩=>?_,fun⟨M,_⟩=>?_,trivial⟩,fun⟨N,P,Q,R,T,U,o,_⟩=>?_⟩
 ·exact Sd0 e fun _=>RX (vs:=(zzC a x y)) g ag40 rfl rfl rfl ⟨f,RJ d,rfl⟩
 ·exact Sd0 e fun _=>RI Zp rfl ⟨f,RJ d,rfl⟩
 ·exact Sd1 e J fun _=>RN i pl4 rfl rfl ⟨f,RJ d,rfl⟩
 ·exact Sd1 e K fun _=>Sr rfl ⟨f,RJ d,rfl⟩
 ·exact Sd0 e fun _=>RI J4 rfl ⟨f,RJ d,rfl⟩
 ·exact Sd1 e L fun _=>RN i pl38 rfl rfl ⟨f,RJ d,rfl⟩
 ·refine Sd1 e M fun _=>RH d cb87 rfl rfl (Zg d.bd l (by omega)) ?_;intro ax ay V Y Z;exact⟨f,⟨V,Y⟩,Z⟩
 obtain⟨az,aA,aa,o⟩:=TQ o;obtain⟨aB,rfl⟩:=mixK e (aC N<|aC P<|aC Q<|aC R<|aC T<|aC U<|aC aa aN);refine Ol (RH d I7 rfl rfl (CW d.bd (a:=a) (Je k) o (by omega) (Ks sb)<|UC (Jr _) (by omega)) ?_);intro aD aE ab ac ad;have n:=(n.spn h).spn ac;obtain⟨ae,af,rfl,p⟩:=RV.int ad;refine On (Us (cs':=(zzC (ofZ<|a.toZ+Jh (!b.neg) (val<|trim b.mag)) ae af)) ab n io40 ?_);intro aF u ag ah;have p:=p.sp ag;refine Nl (RY<|J0 rfl (TL ah rfl ag40 rfl)<|RM ?_ u.below);exact TM (a:=(ofZ<|a.toZ+Jh (!b.neg) (val<|trim b.mag))) ((Je p).tr (Tr.weak u.base))<|(by rw[Z1,xm,Int.sub_eq_add_neg];rfl)
theorem jr{X:Nat→Prop}{w:World}(hX:XB X w){R:Value}{a:GInt}(T:RV Jo X w R a){U:Value}{b:GInt}(V:RV Jo X w U b)(hla:a.mag.length≤549755813888)(hlb:b.mag.length≤549755813888):CRt 116 #[R,U] w fun v w'=>RV Jo X w' v (ofZ (a.toZ*b.toZ)):=by
 obtain⟨Y,Z,rfl,l⟩:=RV.int T;obtain⟨a4,c5,rfl,m⟩:=RV.int V;have C:=Cx.start hX;have sa:=T.int_small;have sb:=V.int_small;have tla:=Jr a.mag;have tlb:=Jr b.mag;have tdl:=iJ (J5 sa) (J5 sb);refine Cgo Tryz.func116 rfl rfl rfl (Rg<|Ol<|R9 C rfl ?_);intro g7 w8 x9 a3 aI ac x g;refine Ol (R9 ac rfl ?_);intro y a5 a6 a7 aJ ad n j;have l:=(l.sp x).sp n;have m:=(m.sp x).sp n;have g:=g.spn n;refine Ol (RR ad io40 rfl ?_);intro a8 a9 ba bb aK ae k o;refine Nl<|RZ<|Sg mixed 12 [[],[0],[],[2],[1,3],[],[5],[6],[],[8],[9],[7,10]] ae [fx<|.pointer (some ⟨g7,0,none⟩),fx<|.bool a.neg,fx<|.pointer (some ⟨y,0,none⟩),fx<|.bool b.neg,fx<|.bool (a.neg != b.neg),fx<|.pointer (some ⟨g7,1,none⟩),fx<|.slice Y a.mag.length Z,fs Jd<|trim a.mag,fx<|.pointer (some ⟨y,1,none⟩),fx<|.slice a4 b.mag.length c5,fs Jd<|trim b.mag,fs Jd<|Xh (trim a.mag)<|trim b.mag] (by kernel_rfl) ⟨sx,sx,sx,sx,sx,sx,sx,ss,sx,sx,ss,ss,trivial⟩ fun af f be ⟨d,h⟩ e=>?_
 have l:=(l.sp k).sp h;have m:=(m.sp k).sp h;have g:=(g.spn k).spn h;have j:=(j.spn k).spn h;have e:Keep [5,6,7,8,9,10,11,12,13,14,15,16] _ af:=e;refine⟨⟨fun _=>?_,fun⟨ag,_⟩=>?_,fun _=>?_,fun⟨ah,_⟩=>?_,fun⟨ai,aj,_⟩=>?_,fun _=>?_,fun⟨ak,_⟩=>?_,fun⟨al,_⟩=>?_,fun _=>?_,fun⟨am,_⟩=>?_,fun⟨an,_⟩=>?_,fun⟨p,r,_⟩=>?_,trivial⟩,fun⟨ao,aq,ar,au,av,aw,ax,z,ay,az,A,s,_⟩=>?_⟩
 ·exact Sd0 e fun _=>RI Zp rfl ⟨f,RJ d,rfl⟩
 ·exact Sd1 e ag fun _=>RN g pl4 rfl rfl ⟨f,RJ d,rfl⟩
 ·exact Sd0 e fun _=>RI Zp rfl ⟨f,RJ d,rfl⟩
 ·exact Sd1 e ah fun _=>RN j pl4 rfl rfl ⟨f,RJ d,rfl⟩
 ·exact Js e (aC ai<|aC aj aN) fun _=>R8<|SQ un4 rfl rfl rfl ⟨f,RJ d,rfl⟩
 ·exact Sd0 e fun _=>RI J4 rfl ⟨f,RJ d,rfl⟩
 ·exact Sd1 e ak fun _=>RN g pl38 rfl rfl ⟨f,RJ d,rfl⟩
 ·refine Sd1 e al fun _=>RH d cb87 rfl rfl (Zg d.bd l (by omega)) ?_;intro bf bg aA aB aD;exact⟨f,⟨aA,aB⟩,aD⟩
 ·exact Sd0 e fun _=>RI J4 rfl ⟨f,RJ d,rfl⟩
 ·exact Sd1 e am fun _=>RN j pl38 rfl rfl ⟨f,RJ d,rfl⟩
 ·refine Sd1 e an fun _=>RH d cb87 rfl rfl (Zg d.bd m (by omega)) ?_;intro bh bi aE aF aG;exact⟨f,⟨aE,aF⟩,aG⟩
 ·obtain⟨aL,aM,aH,p⟩:=TQ p;obtain⟨aO,aP,B,r⟩:=TQ r;refine Js e (aC aH<|aC B aN) fun _=>R8 (RH d Ph rfl rfl (FT d.bd p r (by omega) (by omega)) ?_);intro aQ aR D E F;exact⟨f,⟨D,E⟩,F⟩
 obtain⟨aS,aT,G,z⟩:=TQ z;obtain⟨aU,aV,H,A⟩:=TQ A;obtain⟨aW,aX,I,s⟩:=TQ s;obtain⟨aY,rfl⟩:=mixK e (aC ao<|aC aq<|aC ar<|aC au<|aC av<|aC aw<|aC ax<|aC G<|aC ay<|aC az<|aC H<|aC I aN);refine Ol (RH d cb84 rfl rfl (Z8 d.bd s (by omega)) ?_);intro aZ a0 J K L;have o:=(o.spn h).spn K;obtain⟨M,N,rfl,i⟩:=RV.int L;refine On (Us (cs':=(zzC (mkSg (a.neg != b.neg)<|Xh (trim a.mag)<|trim b.mag) M N)) J o io40 ?_);intro a2 u P Q;have i:=i.sp P;refine Nl (RY<|J0 rfl (TL Q rfl ag40 rfl)<|RM ?_ u.below);exact TM (a:=(mkSg (a.neg != b.neg)<|Xh (trim a.mag)<|trim b.mag)) ((Je i).tr (Tr.weak u.base))<|uI (mR (J5 sa)<|J5 sb) (by rw[Z1,Z1];exact lU a b)
theorem Q3{X:Nat→Prop}{w:World}(hX:XB X w){v0:Value}{a:GInt}(r0:RV Jo X w v0 a){v1:Value}{b:GInt}(r1:RV Jo X w v1 b)(hla:a.mag.length≤274877906944)(hlb:b.mag.length≤274877906944)(m:val b.mag≠0):CRt 58 #[v0,v1] w fun v w'=>(∃v0 v1 v2,v= .tuple #[v0,v1,v2]∧(RV Jo X w' v0 (ofZ (a.toZ/b.toZ)))∧(RV Jo X w' v1 (ofZ (a.toZ%b.toZ)))∧(v2=(.int .i64 0))):=by
 obtain⟨a1,c2,rfl,G⟩:=RV.int r0;obtain⟨a4,c5,rfl,h6⟩:=RV.int r1;have C:=Cx.start hX;have sa:=r0.int_small;have sb:=r1.int_small;have tla:=Jr a.mag;have tlb:=Jr b.mag;have tb:(trim b.mag).length≠0:=fun h=>m ((K0 sb).1 h);have tva:=Z1 a.mag;have tvb:=Z1 b.mag;have hbp:0<val (trim b.mag):=by omega
 have hdl:=ln (J5 sa) (val<|trim b.mag);have hml:=Q2 (a:=trim a.mag) (J5 sb) hbp;have hmz:¬(digs<|val (trim a.mag)%val (trim b.mag)).length>0↔val a.mag%val b.mag=0:=by rw[tva,tvb];have:=Q8 (val a.mag%val b.mag);simp only[decide_eq_decide] at this;omega
 refine Cgo Tryz.func58 rfl rfl rfl (Rg<|Ol<|R9 C rfl ?_);intro g7 w8 x9 bG bm bb ar g;have G:=G.sp ar;refine Ol (R9 bb rfl ?_);intro bH bJ bK bL bn be am i;have h6:=(h6.sp ar).sp am;refine Ol (RR be io40 rfl ?_);intro bM bN bO bP bo bf ag f;have G:=(G.sp am).sp ag;have g:=(g.spn am).spn ag;refine Ol (RR bf io40 rfl ?_);intro bQ bR bS bT aD au z d;have u:=aD _ f.blk.lt;have h6:=(h6.sp ag).sp z;have i:=(i.spn ag).spn z;refine Oa (Nl<|Rg<|Ol<|RI J4 rfl<|Ol<|RN i pl38 rfl rfl<|Ol<|RH au cb87 rfl rfl (Zg au.bd h6 (by omega)) ?_);intro bU bV av A k;have G:=(G.sp z).sp A;have g:=(g.spn z).spn A;have i:=i.spn A;have f:=(f.spn z).spn A;have d:=d.spn A;obtain⟨bW,bX,rfl,_,_⟩:=k.len;refine Oa (Nl<|Rh<|Ub<|St.len sl38 rfl<|Ol<|SW (t:=false) rfl rfl (decide_eq_false (by omega))<|Nl<|Uc<|Rg<|Ol<|RI J4 rfl<|Ol<|RN g pl38 rfl rfl<|Ol<|RH av cb87 rfl rfl (Zg av.bd G (by omega)) ?_);intro bY bZ aw B ax;have k:=k.sp B;obtain⟨b0,b1,rfl,_,_⟩:=ax.len;refine Om (Ol<|RH aw cb98 rfl rfl (jP aw.bd ax k (Ks sa) (Ks sb) (by intro e;rw[e] at tb;exact tb rfl) (by omega) (by omega)) ?_);intro b2 b3 D E bg;have k:=k.sp E;have g:=(g.spn B).spn E;have i:=(i.spn B).spn E;have f:=(f.spn B).spn E;have d:=(d.spn B).spn E;obtain⟨b4,b5,rfl,x,j⟩:=bg;obtain⟨b6,b7,rfl,_,_⟩:=x.len;obtain⟨b8,b9,rfl,_,_⟩:=j.len;refine Ub<|St.extract rfl rfl<|Ol<|St.extract rfl rfl<|Oa<|Ua<|Rh<|Ol<|RI Zp rfl<|Ol<|Sm<|RN g pl4 rfl rfl ⟨_,rfl,fun n=>?_,fun n=>?_⟩
 ·refine Om<|OgD<|RP<|OgD<|St.len sl38 rfl<|OgD<|Sx rfl rfl (fun aE=>?_)<|fun aE=>?_
  ·refine OT (Nl<|Uk<|Ub<|Sl (T:=Jd) (css:=[[(.int .u32 1)]]) (l:=[1]) D sl38 io96 (by decide) (by decide) rfl (by kernel_rfl) ⟨⟨rfl,(by omega)⟩,trivial⟩ ?_);intro ca cb ay o bh;have x:=x.sp o;have g:=g.spn o;have i:=i.spn o;have f:=f.spn o;refine Ol (RH ay cb99 rfl rfl (CP ay.bd x bh (by omega) (by simp)) ?_);intro cc cd az y ah;have k:=(k.sp o).sp y;have j:=(j.sp o).sp y;have d:=(d.spn o).spn y;obtain⟨ce,cf,rfl,_,_⟩:=ah.len;refine Om (Ub<|RH az DM rfl rfl (uY az.bd k j (by omega) (by omega) (by rw[Jw];exact ZA<|UI _ hbp)) ?_);intro cg ch aA F ai;have ah:=ah.sp F;have g:=(g.spn y).spn F;have i:=(i.spn y).spn F;have f:=(f.spn y).spn F;obtain⟨ci,cj,rfl,_,_⟩:=ai.len;refine Oa (Ua<|Rg<|Ol<|RI Zp rfl<|Ol<|RN g pl4 rfl rfl<|Ol<|RI Zp rfl<|Ol<|RN i pl4 rfl rfl<|Ol<|SQ un4 rfl rfl rfl<|Ub<|RH aA cb84 rfl rfl (Z8 aA.bd ah (by first|omega|(rw[Jg];simp;omega))) ?_);intro ck cl aB an bi;have ai:=ai.sp an;have d:=(d.spn F).spn an;obtain⟨aF,aG,rfl,p⟩:=RV.int bi;refine Om (Ol<|RH aB cb84 rfl rfl (Z8 aB.bd ai (by first|omega|(rw[Jg];omega))) ?_);intro bp bq aH H aI;have p:=p.sp H;have f:=(f.spn an).spn H;obtain⟨aJ,aK,rfl,I⟩:=RV.int aI;refine On (Us (cs':=(zzC (mkSg (a.neg != b.neg)<|Jx (max (digs<|val (trim a.mag)/val (trim b.mag)).length [1].length+1)<|val (digs<|val (trim a.mag)/val (trim b.mag))+val [1]) aF aG)) aH f io40 ?_);intro br aL J K;have d:=(d.spn H).spo J (UQ u);refine On (Us (cs':=(zzC (mkSg false<|Jx (trim b.mag).length<|val (trim b.mag)-val (digs<|val (trim a.mag)%val (trim b.mag))) aJ aK)) aL d io40 ?_);intro bs L M aM;have p:=(p.sp J).sp M;have I:=(I.sp J).sp M;have K:=K.spo M u;refine Oa (Nl<|RY<|Dy rfl (TL K rfl ag40 rfl) (TL aM rfl ag40 rfl) (resV.t rfl)<|RM ?_ L.below);refine⟨_,_,_,rfl,?_,?_,?_⟩
   ·exact TM (a:=(mkSg (a.neg != b.neg)<|Jx (max (digs<|val (trim a.mag)/val (trim b.mag)).length [1].length+1)<|val (digs<|val (trim a.mag)/val (trim b.mag))+val [1])) ((Je p).tr (Tr.weak L.base)) (by exact Yg (J1 _ _) (by rw[Ze _ _<|iF (Zv _) sZ,Jw,tva,tvb,show val [1]=1 from rfl];exact(iG m n (fun h=>by have:=hmz.2 h;omega)).1))
   ·exact TM (a:=(mkSg false<|Jx (trim b.mag).length<|val (trim b.mag)-val (digs<|val (trim a.mag)%val (trim b.mag)))) ((Je I).tr (Tr.weak L.base)) (by exact Yg (J1 _ _) (by rw[Ze _ _<|U7 (ZU _ _)<|Zo _<|J5 sb,Jw,tva,tvb,Yh];exact(iG m n (fun h=>by have:=hmz.2 h;omega)).2))
   ·skip
    rfl
  refine OT (Nl<|Uc<|Rg<|Ol<|RI Zp rfl<|Ol<|RN g pl4 rfl rfl<|Ol<|RI Zp rfl<|Ol<|RN i pl4 rfl rfl<|Ol<|SQ un4 rfl rfl rfl<|Ub<|RH D cb84 rfl rfl (Z8 D.bd x (by first|omega|(rw[Jg];simp;omega))) ?_);intro bt bu ao N aO;have j:=j.sp N;have d:=d.spn N;obtain⟨aP,aQ,rfl,r⟩:=RV.int aO;refine Om (Ol<|RH ao cb84 rfl rfl (Z8 ao.bd j (by first|omega|(rw[Jg];omega))) ?_);intro bv bw aR P aS;have r:=r.sp P;have f:=(f.spn N).spn P;obtain⟨aT,aU,rfl,Q⟩:=RV.int aS;refine On (Us (cs':=(zzC (mkSg (a.neg != b.neg)<|digs<|val (trim a.mag)/val (trim b.mag)) aP aQ)) aR f io40 ?_);intro bx aV R U;have d:=(d.spn P).spo R (UQ u);refine On (Us (cs':=(zzC (mkSg false<|digs<|val (trim a.mag)%val (trim b.mag)) aT aU)) aV d io40 ?_);intro bz V Y aW;have r:=(r.sp R).sp Y;have Q:=(Q.sp R).sp Y;have U:=U.spo Y u;refine Oa (Nl<|RY<|Dy rfl (TL U rfl ag40 rfl) (TL aW rfl ag40 rfl) (resV.t rfl)<|RM ?_ V.below);refine⟨_,_,_,rfl,?_,?_,?_⟩
  ·exact TM (a:=(mkSg (a.neg != b.neg)<|digs<|val (trim a.mag)/val (trim b.mag))) ((Je r).tr (Tr.weak V.base)) (by exact Yg (Zv _) (by rw[Jw,tva,tvb];exact(jw m<|.inr (hmz.1 (by omega))).1))
  ·exact TM (a:=(mkSg false<|digs<|val (trim a.mag)%val (trim b.mag))) ((Je Q).tr (Tr.weak V.base)) (by exact Yg (Zv _) (by rw[Jw,tva,tvb,Yh];exact(jw m<|.inr (hmz.1 (by omega))).2))
  ·skip
   rfl
 refine Om (Oz<|Oz<|Oz<|OF<|Nl<|Uc<|Rg<|Ol<|RI Zp rfl<|Ol<|RN g pl4 rfl rfl<|Ol<|RI Zp rfl<|Ol<|RN i pl4 rfl rfl<|Ol<|SQ un4 rfl rfl rfl<|Ub<|RH D cb84 rfl rfl (Z8 D.bd x (by first|omega|(rw[Jg];simp;omega))) ?_);intro bA bB aq Z aX;have j:=j.sp Z;have d:=d.spn Z;obtain⟨aY,aZ,rfl,s⟩:=RV.int aX;refine Om (Ol<|RH aq cb84 rfl rfl (Z8 aq.bd j (by first|omega|(rw[Jg];omega))) ?_);intro bC bD a0 aa a2;have s:=s.sp aa;have f:=(f.spn Z).spn aa;obtain⟨a3,a5,rfl,ab⟩:=RV.int a2;refine On (Us (cs':=(zzC (mkSg (a.neg != b.neg)<|digs<|val (trim a.mag)/val (trim b.mag)) aY aZ)) a0 f io40 ?_);intro bE a6 ac ad;have d:=(d.spn aa).spo ac (UQ u);refine On (Us (cs':=(zzC (mkSg false<|digs<|val (trim a.mag)%val (trim b.mag)) a3 a5)) a6 d io40 ?_);intro bF ae af a7;have s:=(s.sp ac).sp af;have ab:=(ab.sp ac).sp af;have ad:=ad.spo af u;refine Oa (Nl<|RY<|Dy rfl (TL ad rfl ag40 rfl) (TL a7 rfl ag40 rfl) (resV.t rfl)<|RM ?_ ae.below);refine⟨_,_,_,rfl,?_,?_,?_⟩
 ·exact TM (a:=(mkSg (a.neg != b.neg)<|digs<|val (trim a.mag)/val (trim b.mag))) ((Je s).tr (Tr.weak ae.base)) (by exact Yg (Zv _) (by rw[Jw,tva,tvb];exact(jw m<|.inl n).1))
 ·exact TM (a:=(mkSg false<|digs<|val (trim a.mag)%val (trim b.mag))) ((Je ab).tr (Tr.weak ae.base)) (by exact Yg (Zv _) (by rw[Jw,tva,tvb,Yh];exact(jw m<|.inl n).2))
 ·skip
  rfl
end Go.Wf
namespace Go.Ev
open Go Go.Wf
inductive I16|a0|a1|a2|a3|a4|a5|a6|a7|a8|a9|a10|a11|a12|a13|a14|a15
 deriving DecidableEq
structure N16 (α:Type) where
 x0:α
 x1:α
 x2:α
 x3:α
 x4:α
 x5:α
 x6:α
 x7:α
 x8:α
 x9:α
 x10:α
 x11:α
 x12:α
 x13:α
 x14:α
 x15:α
def N16.get{α:Type}(i:I16):N16 α→α:=I16.rec (motive:=fun _=>N16 α→α) N16.x0 N16.x1 N16.x2 N16.x3 N16.x4 N16.x5 N16.x6 N16.x7 N16.x8 N16.x9 N16.x10 N16.x11 N16.x12 N16.x13 N16.x14 N16.x15 i
def N16.set0{α:Type}(v:α)(t:N16 α):N16 α:=N16.rec (fun _ b c d e f g h i j k l m n o p=>⟨v,b,c,d,e,f,g,h,i,j,k,l,m,n,o,p⟩) t
def N16.set1{α:Type}(v:α)(t:N16 α):N16 α:=N16.rec (fun a _ c d e f g h i j k l m n o p=>⟨a,v,c,d,e,f,g,h,i,j,k,l,m,n,o,p⟩) t
def N16.set2{α:Type}(v:α)(t:N16 α):N16 α:=N16.rec (fun a b _ d e f g h i j k l m n o p=>⟨a,b,v,d,e,f,g,h,i,j,k,l,m,n,o,p⟩) t
def N16.set3{α:Type}(v:α)(t:N16 α):N16 α:=N16.rec (fun a b c _ e f g h i j k l m n o p=>⟨a,b,c,v,e,f,g,h,i,j,k,l,m,n,o,p⟩) t
def N16.set4{α:Type}(v:α)(t:N16 α):N16 α:=N16.rec (fun a b c d _ f g h i j k l m n o p=>⟨a,b,c,d,v,f,g,h,i,j,k,l,m,n,o,p⟩) t
def N16.set5{α:Type}(v:α)(t:N16 α):N16 α:=N16.rec (fun a b c d e _ g h i j k l m n o p=>⟨a,b,c,d,e,v,g,h,i,j,k,l,m,n,o,p⟩) t
def N16.set6{α:Type}(v:α)(t:N16 α):N16 α:=N16.rec (fun a b c d e f _ h i j k l m n o p=>⟨a,b,c,d,e,f,v,h,i,j,k,l,m,n,o,p⟩) t
def N16.set7{α:Type}(v:α)(t:N16 α):N16 α:=N16.rec (fun a b c d e f g _ i j k l m n o p=>⟨a,b,c,d,e,f,g,v,i,j,k,l,m,n,o,p⟩) t
def N16.set8{α:Type}(v:α)(t:N16 α):N16 α:=N16.rec (fun a b c d e f g h _ j k l m n o p=>⟨a,b,c,d,e,f,g,h,v,j,k,l,m,n,o,p⟩) t
def N16.set9{α:Type}(v:α)(t:N16 α):N16 α:=N16.rec (fun a b c d e f g h i _ k l m n o p=>⟨a,b,c,d,e,f,g,h,i,v,k,l,m,n,o,p⟩) t
def N16.set10{α:Type}(v:α)(t:N16 α):N16 α:=N16.rec (fun a b c d e f g h i j _ l m n o p=>⟨a,b,c,d,e,f,g,h,i,j,v,l,m,n,o,p⟩) t
def N16.set11{α:Type}(v:α)(t:N16 α):N16 α:=N16.rec (fun a b c d e f g h i j k _ m n o p=>⟨a,b,c,d,e,f,g,h,i,j,k,v,m,n,o,p⟩) t
def N16.set12{α:Type}(v:α)(t:N16 α):N16 α:=N16.rec (fun a b c d e f g h i j k l _ n o p=>⟨a,b,c,d,e,f,g,h,i,j,k,l,v,n,o,p⟩) t
def N16.set13{α:Type}(v:α)(t:N16 α):N16 α:=N16.rec (fun a b c d e f g h i j k l m _ o p=>⟨a,b,c,d,e,f,g,h,i,j,k,l,m,v,o,p⟩) t
def N16.set14{α:Type}(v:α)(t:N16 α):N16 α:=N16.rec (fun a b c d e f g h i j k l m n _ p=>⟨a,b,c,d,e,f,g,h,i,j,k,l,m,n,v,p⟩) t
def N16.set15{α:Type}(v:α)(t:N16 α):N16 α:=N16.rec (fun a b c d e f g h i j k l m n o _=>⟨a,b,c,d,e,f,g,h,i,j,k,l,m,n,o,v⟩) t
def N16.set{α:Type}(i:I16):α→N16 α→N16 α:=I16.rec (motive:=fun _=>α→N16 α→N16 α) N16.set0 N16.set1 N16.set2 N16.set3 N16.set4 N16.set5 N16.set6 N16.set7 N16.set8 N16.set9 N16.set10 N16.set11 N16.set12 N16.set13 N16.set14 N16.set15 i
def Ot(_:Nat):I16:= .a0
def Ro(_:Nat):I16:= .a1
def Dz(n:Nat):I16:=Bool.rec (motive:=fun _=>Nat→I16) Ro Ot (Nat.beq (Nat.land n 1) 0) n
def QW(_:Nat):I16:= .a2
def Re(_:Nat):I16:= .a3
def Dx(n:Nat):I16:=Bool.rec (motive:=fun _=>Nat→I16) Re QW (Nat.beq (Nat.land n 1) 0) n
def DY(n:Nat):I16:=Bool.rec (motive:=fun _=>Nat→I16) Dx Dz (Nat.beq (Nat.land n 2) 0) n
def Oq(_:Nat):I16:= .a4
def Rq(_:Nat):I16:= .a5
def EN(n:Nat):I16:=Bool.rec (motive:=fun _=>Nat→I16) Rq Oq (Nat.beq (Nat.land n 1) 0) n
def Ru(_:Nat):I16:= .a6
def NG(_:Nat):I16:= .a7
def Gu(n:Nat):I16:=Bool.rec (motive:=fun _=>Nat→I16) NG Ru (Nat.beq (Nat.land n 1) 0) n
def EK(n:Nat):I16:=Bool.rec (motive:=fun _=>Nat→I16) Gu EN (Nat.beq (Nat.land n 2) 0) n
def Gj(n:Nat):I16:=Bool.rec (motive:=fun _=>Nat→I16) EK DY (Nat.beq (Nat.land n 4) 0) n
def Rl(_:Nat):I16:= .a8
def Pb(_:Nat):I16:= .a9
def DP(n:Nat):I16:=Bool.rec (motive:=fun _=>Nat→I16) Pb Rl (Nat.beq (Nat.land n 1) 0) n
def LA(_:Nat):I16:= .a10
def LX(_:Nat):I16:= .a11
def zS(n:Nat):I16:=Bool.rec (motive:=fun _=>Nat→I16) LX LA (Nat.beq (Nat.land n 1) 0) n
def E3(n:Nat):I16:=Bool.rec (motive:=fun _=>Nat→I16) zS DP (Nat.beq (Nat.land n 2) 0) n
def H7(_:Nat):I16:= .a12
def L3(_:Nat):I16:= .a13
def xN(n:Nat):I16:=Bool.rec (motive:=fun _=>Nat→I16) L3 H7 (Nat.beq (Nat.land n 1) 0) n
def Nd(_:Nat):I16:= .a14
def M6(_:Nat):I16:= .a15
def yO(n:Nat):I16:=Bool.rec (motive:=fun _=>Nat→I16) M6 Nd (Nat.beq (Nat.land n 1) 0) n
def AN(n:Nat):I16:=Bool.rec (motive:=fun _=>Nat→I16) yO xN (Nat.beq (Nat.land n 2) 0) n
def Gq(n:Nat):I16:=Bool.rec (motive:=fun _=>Nat→I16) AN E3 (Nat.beq (Nat.land n 4) 0) n
def i16(n:Nat):I16:=Bool.rec (motive:=fun _=>Nat→I16) Gq Gj (Nat.beq (Nat.land n 8) 0) n
def I16.toNat:I16→Nat
 |.a0=>0
 |.a1=>1
 |.a2=>2
 |.a3=>3
 |.a4=>4
 |.a5=>5
 |.a6=>6
 |.a7=>7
 |.a8=>8
 |.a9=>9
 |.a10=>10
 |.a11=>11
 |.a12=>12
 |.a13=>13
 |.a14=>14
 |.a15=>15
theorem kL(n:Nat)(h:n<16):(i16 n).toNat=n:=by
 have:∀k,k<16→(i16 k).toNat=k:=by decide
 exact this n h
theorem N16.get_set{α:Type}(i j:I16)(v:α)(t:N16 α):N16.get i (N16.set j v t)=if i=j then v else N16.get i t:=by
 cases t;cases i<;>cases j<;>simp[N16.get,N16.set,N16.set0,N16.set1,N16.set2,N16.set3,N16.set4,N16.set5,N16.set6,N16.set7,N16.set8,N16.set9,N16.set10,N16.set11,N16.set12,N16.set13,N16.set14,N16.set15]
abbrev T2(α:Type):=N16 (N16 α)
def get2{α:Type}(n:Nat)(t:T2 α):α:=N16.get (i16 (Nat.land n 15)) (N16.get (i16 (Nat.shiftRight n 4)) t)
def set2{α:Type}(n:Nat)(v:α)(t:T2 α):T2 α:=N16.set (i16 (Nat.shiftRight n 4)) (N16.set (i16 (Nat.land n 15)) v (N16.get (i16 (Nat.shiftRight n 4)) t)) t
theorem jU{a b:Nat}(ha:a<16)(hb:b<16)(h:i16 a=i16 b):a=b:=by rw[←kL a ha,←kL b hb,h]
theorem vm(n:Nat):Nat.land n 15=n%16:=YJ n 4
theorem shr4(n:Nat):Nat.shiftRight n 4=n/16:=ZT n 4
theorem ji{α:Type}(n m:Nat)(v:α)(t:T2 α)(hn:n<256)(hm:m<256):get2 n (set2 m v t)=if n=m then v else get2 n t:=by
 unfold get2 set2;rw[N16.get_set,vm,shr4,vm,shr4];by_cases a:i16 (n/16)=i16 (m/16)
 ·have d:=jU (by omega) (by omega) a;rw[if_pos a,N16.get_set,a];by_cases b:i16 (n%16)=i16 (m%16)
  ·have f:=jU (by omega) (by omega) b;rw[if_pos b,if_pos (by omega)]
  ·rw[if_neg b,if_neg (fun e=>b (by rw[e]))]
 ·rw[if_neg a,if_neg (fun e=>a (by rw[e]))]
def Kw{α:Type}(v:α):N16 α:=⟨v,v,v,v,v,v,v,v,v,v,v,v,v,v,v,v⟩
theorem Vn{α:Type}(i:I16)(v:α):N16.get i (Kw v)=v:=by cases i<;>rfl
theorem jp{α:Type}(n:Nat)(v:α):get2 n (Kw (Kw v))=v:=by unfold get2;rw[Vn,Vn]
abbrev T5(α:Type):=N16 (T2 (T2 α))
def m9{α:Type}(n:Nat)(t:T5 α):α:=get2 (Nat.land n 255) (get2 (Nat.land (Nat.shiftRight n 8) 255) (N16.get (i16 (Nat.shiftRight n 16)) t))
def Bk{α:Type}(n:Nat)(v:α)(t:T5 α):T5 α:=
 N16.set (i16 (Nat.shiftRight n 16)) (set2 (Nat.land (Nat.shiftRight n 8) 255) (set2 (Nat.land n 255) v (get2 (Nat.land (Nat.shiftRight n 8) 255) (N16.get (i16 (Nat.shiftRight n 16)) t))) (N16.get (i16 (Nat.shiftRight n 16)) t)) t
theorem xa(n:Nat):Nat.land n 255=n%256:=YJ n 8
theorem shr8(n:Nat):Nat.shiftRight n 8=n/256:=ZT n 8
theorem O2(n:Nat):Nat.shiftRight n 16=n/65536:=ZT n 16
def big5:Nat:=1048576
theorem mF{α:Type}(n m:Nat)(v:α)(t:T5 α)(hn:n<big5)(hm:m<big5):m9 n (Bk m v t)=if n=m then v else m9 n t:=by
 unfold big5 at hn hm;unfold m9 Bk;simp only[xa,shr8,O2];rw[N16.get_set];by_cases a:i16 (n/65536)=i16 (m/65536)
 ·have f:=jU (by omega) (by omega) a;rw[if_pos a,a,ji _ _ _ _ (by omega) (by omega)];by_cases b:n/256%256=m/256%256
  ·rw[if_pos b,ji _ _ _ _ (by omega) (by omega),b];by_cases d:n%256=m%256
   ·rw[if_pos d,if_pos (by omega)]
   ·rw[if_neg d,if_neg (fun e=>d (by rw[e]))]
  ·rw[if_neg b,if_neg (fun e=>b (by rw[e]))]
 ·rw[if_neg a,if_neg (fun e=>a (by rw[e]))]
def wZ{α:Type}(v:α):T5 α:=Kw (Kw (Kw (Kw (Kw v))))
theorem rh{α:Type}(n:Nat)(v:α):m9 n (wZ v)=v:=by unfold m9 wZ;rw[Vn,jp,jp]
structure TF (α:Type) where
 lo:T2 α
 hi:N16 (T2 α)
inductive AV
 |u
 |b (x:Bool)
 |i (k:IntKind) (n:Int)
 |s (l:List Nat)
 |np
 |p (id off:Nat)
 |ns
 |sl (id off len z:Nat) (cap:Option Nat)
 |z0
 |ag (l:List AV)
 |tp (l:List AV)
 |fn (k:FuncId) (cap:List AV)
 |nf
 |ifc (t:TypeId) (v:AV)
 |nif
 |mp (id:Nat)
 |nm
 |yv (id:Nat)
 |gp (g off:Nat)
structure En where
 k:AV
 v:AV
 b:Nat
inductive Ob
 |row
 |map (es:List En) (clock:Nat)
 |sit (l:List Nat) (pos:Nat)
 |mit (m:Option Nat) (since:Nat) (seen:List Nat) (last:Nat)
 |glb
 |lp (busy:Bool) (n:Nat) (ps:List Tmp) (a b:Code) (f:TF AV)
structure Blk where
 ty:TypeId
 ex:Bool
 ro:Bool
 cs:List AV
 ob:Ob
structure Hp where
 t:T5 (Option Blk)
 n:Nat
abbrev Fr:=TF AV
abbrev YA1:=N16 AV
abbrev YA2:=N16 YA1
abbrev YA3:=N16 YA2
abbrev YB1:=N16 (Option Blk)
abbrev YB2:=N16 YB1
abbrev YB3:=N16 YB2
abbrev YB4:=N16 YB3
abbrev YB5:=N16 YB4
def gA0:I16→YA1→AV:=I16.rec (motive:=fun _=>YA1→AV) N16.x0 N16.x1 N16.x2 N16.x3 N16.x4 N16.x5 N16.x6 N16.x7 N16.x8 N16.x9 N16.x10 N16.x11 N16.x12 N16.x13 N16.x14 N16.x15
def NW:YA1→(AV)→YA1:=N16.rec (motive:=fun _=>(AV)→YA1) fun a b c d e f g h i j k l m n o p v=>⟨v,b,c,d,e,f,g,h,i,j,k,l,m,n,o,p⟩
def O3:YA1→(AV)→YA1:=N16.rec (motive:=fun _=>(AV)→YA1) fun a b c d e f g h i j k l m n o p v=>⟨a,v,c,d,e,f,g,h,i,j,k,l,m,n,o,p⟩
def PH:YA1→(AV)→YA1:=N16.rec (motive:=fun _=>(AV)→YA1) fun a b c d e f g h i j k l m n o p v=>⟨a,b,v,d,e,f,g,h,i,j,k,l,m,n,o,p⟩
def PT:YA1→(AV)→YA1:=N16.rec (motive:=fun _=>(AV)→YA1) fun a b c d e f g h i j k l m n o p v=>⟨a,b,c,v,e,f,g,h,i,j,k,l,m,n,o,p⟩
def Pt:YA1→(AV)→YA1:=N16.rec (motive:=fun _=>(AV)→YA1) fun a b c d e f g h i j k l m n o p v=>⟨a,b,c,d,v,f,g,h,i,j,k,l,m,n,o,p⟩
def QK:YA1→(AV)→YA1:=N16.rec (motive:=fun _=>(AV)→YA1) fun a b c d e f g h i j k l m n o p v=>⟨a,b,c,d,e,v,g,h,i,j,k,l,m,n,o,p⟩
def N5:YA1→(AV)→YA1:=N16.rec (motive:=fun _=>(AV)→YA1) fun a b c d e f g h i j k l m n o p v=>⟨a,b,c,d,e,f,v,h,i,j,k,l,m,n,o,p⟩
def Pj:YA1→(AV)→YA1:=N16.rec (motive:=fun _=>(AV)→YA1) fun a b c d e f g h i j k l m n o p v=>⟨a,b,c,d,e,f,g,v,i,j,k,l,m,n,o,p⟩
def PM:YA1→(AV)→YA1:=N16.rec (motive:=fun _=>(AV)→YA1) fun a b c d e f g h i j k l m n o p v=>⟨a,b,c,d,e,f,g,h,v,j,k,l,m,n,o,p⟩
def PW:YA1→(AV)→YA1:=N16.rec (motive:=fun _=>(AV)→YA1) fun a b c d e f g h i j k l m n o p v=>⟨a,b,c,d,e,f,g,h,i,v,k,l,m,n,o,p⟩
def HV:YA1→(AV)→YA1:=N16.rec (motive:=fun _=>(AV)→YA1) fun a b c d e f g h i j k l m n o p v=>⟨a,b,c,d,e,f,g,h,i,j,v,l,m,n,o,p⟩
def IU:YA1→(AV)→YA1:=N16.rec (motive:=fun _=>(AV)→YA1) fun a b c d e f g h i j k l m n o p v=>⟨a,b,c,d,e,f,g,h,i,j,k,v,m,n,o,p⟩
def Nc:YA1→(AV)→YA1:=N16.rec (motive:=fun _=>(AV)→YA1) fun a b c d e f g h i j k l m n o p v=>⟨a,b,c,d,e,f,g,h,i,j,k,l,v,n,o,p⟩
def MY:YA1→(AV)→YA1:=N16.rec (motive:=fun _=>(AV)→YA1) fun a b c d e f g h i j k l m n o p v=>⟨a,b,c,d,e,f,g,h,i,j,k,l,m,v,o,p⟩
def LP:YA1→(AV)→YA1:=N16.rec (motive:=fun _=>(AV)→YA1) fun a b c d e f g h i j k l m n o p v=>⟨a,b,c,d,e,f,g,h,i,j,k,l,m,n,v,p⟩
def MQ:YA1→(AV)→YA1:=N16.rec (motive:=fun _=>(AV)→YA1) fun a b c d e f g h i j k l m n o p v=>⟨a,b,c,d,e,f,g,h,i,j,k,l,m,n,o,v⟩
def sA0:I16→YA1→(AV)→YA1:=I16.rec (motive:=fun _=>YA1→(AV)→YA1) NW O3 PH PT Pt QK N5 Pj PM PW HV IU Nc MY LP MQ
theorem Cq(i:I16)(t:YA1):gA0 i t=N16.get i t:=by cases i<;>rfl
theorem KY(i:I16)(t:YA1)(v:AV):sA0 i t v=N16.set i v t:=by cases i<;>cases t<;>rfl
def gA1:I16→YA2→YA1:=I16.rec (motive:=fun _=>YA2→YA1) N16.x0 N16.x1 N16.x2 N16.x3 N16.x4 N16.x5 N16.x6 N16.x7 N16.x8 N16.x9 N16.x10 N16.x11 N16.x12 N16.x13 N16.x14 N16.x15
def RB:YA2→YA1→YA2:=N16.rec (motive:=fun _=>YA1→YA2) fun a b c d e f g h i j k l m n o p v=>⟨v,b,c,d,e,f,g,h,i,j,k,l,m,n,o,p⟩
def Ps:YA2→YA1→YA2:=N16.rec (motive:=fun _=>YA1→YA2) fun a b c d e f g h i j k l m n o p v=>⟨a,v,c,d,e,f,g,h,i,j,k,l,m,n,o,p⟩
def N2:YA2→YA1→YA2:=N16.rec (motive:=fun _=>YA1→YA2) fun a b c d e f g h i j k l m n o p v=>⟨a,b,v,d,e,f,g,h,i,j,k,l,m,n,o,p⟩
def PA:YA2→YA1→YA2:=N16.rec (motive:=fun _=>YA1→YA2) fun a b c d e f g h i j k l m n o p v=>⟨a,b,c,v,e,f,g,h,i,j,k,l,m,n,o,p⟩
def PV:YA2→YA1→YA2:=N16.rec (motive:=fun _=>YA1→YA2) fun a b c d e f g h i j k l m n o p v=>⟨a,b,c,d,v,f,g,h,i,j,k,l,m,n,o,p⟩
def OL:YA2→YA1→YA2:=N16.rec (motive:=fun _=>YA1→YA2) fun a b c d e f g h i j k l m n o p v=>⟨a,b,c,d,e,v,g,h,i,j,k,l,m,n,o,p⟩
def Pa:YA2→YA1→YA2:=N16.rec (motive:=fun _=>YA1→YA2) fun a b c d e f g h i j k l m n o p v=>⟨a,b,c,d,e,f,v,h,i,j,k,l,m,n,o,p⟩
def OM:YA2→YA1→YA2:=N16.rec (motive:=fun _=>YA1→YA2) fun a b c d e f g h i j k l m n o p v=>⟨a,b,c,d,e,f,g,v,i,j,k,l,m,n,o,p⟩
def QG:YA2→YA1→YA2:=N16.rec (motive:=fun _=>YA1→YA2) fun a b c d e f g h i j k l m n o p v=>⟨a,b,c,d,e,f,g,h,v,j,k,l,m,n,o,p⟩
def Oo:YA2→YA1→YA2:=N16.rec (motive:=fun _=>YA1→YA2) fun a b c d e f g h i j k l m n o p v=>⟨a,b,c,d,e,f,g,h,i,v,k,l,m,n,o,p⟩
def Ib:YA2→YA1→YA2:=N16.rec (motive:=fun _=>YA1→YA2) fun a b c d e f g h i j k l m n o p v=>⟨a,b,c,d,e,f,g,h,i,j,v,l,m,n,o,p⟩
def JY:YA2→YA1→YA2:=N16.rec (motive:=fun _=>YA1→YA2) fun a b c d e f g h i j k l m n o p v=>⟨a,b,c,d,e,f,g,h,i,j,k,v,m,n,o,p⟩
def JK:YA2→YA1→YA2:=N16.rec (motive:=fun _=>YA1→YA2) fun a b c d e f g h i j k l m n o p v=>⟨a,b,c,d,e,f,g,h,i,j,k,l,v,n,o,p⟩
def Ie:YA2→YA1→YA2:=N16.rec (motive:=fun _=>YA1→YA2) fun a b c d e f g h i j k l m n o p v=>⟨a,b,c,d,e,f,g,h,i,j,k,l,m,v,o,p⟩
def Nb:YA2→YA1→YA2:=N16.rec (motive:=fun _=>YA1→YA2) fun a b c d e f g h i j k l m n o p v=>⟨a,b,c,d,e,f,g,h,i,j,k,l,m,n,v,p⟩
def H0:YA2→YA1→YA2:=N16.rec (motive:=fun _=>YA1→YA2) fun a b c d e f g h i j k l m n o p v=>⟨a,b,c,d,e,f,g,h,i,j,k,l,m,n,o,v⟩
def sA1:I16→YA2→YA1→YA2:=I16.rec (motive:=fun _=>YA2→YA1→YA2) RB Ps N2 PA PV OL Pa OM QG Oo Ib JY JK Ie Nb H0
theorem rV(i:I16)(t:YA2):gA1 i t=N16.get i t:=by cases i<;>rfl
theorem MM(i:I16)(t:YA2)(v:YA1):sA1 i t v=N16.set i v t:=by cases i<;>cases t<;>rfl
def gA2:I16→YA3→YA2:=I16.rec (motive:=fun _=>YA3→YA2) N16.x0 N16.x1 N16.x2 N16.x3 N16.x4 N16.x5 N16.x6 N16.x7 N16.x8 N16.x9 N16.x10 N16.x11 N16.x12 N16.x13 N16.x14 N16.x15
def NE:YA3→YA2→YA3:=N16.rec (motive:=fun _=>YA2→YA3) fun a b c d e f g h i j k l m n o p v=>⟨v,b,c,d,e,f,g,h,i,j,k,l,m,n,o,p⟩
def Nr:YA3→YA2→YA3:=N16.rec (motive:=fun _=>YA2→YA3) fun a b c d e f g h i j k l m n o p v=>⟨a,v,c,d,e,f,g,h,i,j,k,l,m,n,o,p⟩
def PB:YA3→YA2→YA3:=N16.rec (motive:=fun _=>YA2→YA3) fun a b c d e f g h i j k l m n o p v=>⟨a,b,v,d,e,f,g,h,i,j,k,l,m,n,o,p⟩
def PI:YA3→YA2→YA3:=N16.rec (motive:=fun _=>YA2→YA3) fun a b c d e f g h i j k l m n o p v=>⟨a,b,c,v,e,f,g,h,i,j,k,l,m,n,o,p⟩
def NN:YA3→YA2→YA3:=N16.rec (motive:=fun _=>YA2→YA3) fun a b c d e f g h i j k l m n o p v=>⟨a,b,c,d,v,f,g,h,i,j,k,l,m,n,o,p⟩
def Pw:YA3→YA2→YA3:=N16.rec (motive:=fun _=>YA2→YA3) fun a b c d e f g h i j k l m n o p v=>⟨a,b,c,d,e,v,g,h,i,j,k,l,m,n,o,p⟩
def OJ:YA3→YA2→YA3:=N16.rec (motive:=fun _=>YA2→YA3) fun a b c d e f g h i j k l m n o p v=>⟨a,b,c,d,e,f,v,h,i,j,k,l,m,n,o,p⟩
def Nu:YA3→YA2→YA3:=N16.rec (motive:=fun _=>YA2→YA3) fun a b c d e f g h i j k l m n o p v=>⟨a,b,c,d,e,f,g,v,i,j,k,l,m,n,o,p⟩
def O1:YA3→YA2→YA3:=N16.rec (motive:=fun _=>YA2→YA3) fun a b c d e f g h i j k l m n o p v=>⟨a,b,c,d,e,f,g,h,v,j,k,l,m,n,o,p⟩
def QN:YA3→YA2→YA3:=N16.rec (motive:=fun _=>YA2→YA3) fun a b c d e f g h i j k l m n o p v=>⟨a,b,c,d,e,f,g,h,i,v,k,l,m,n,o,p⟩
def JJ:YA3→YA2→YA3:=N16.rec (motive:=fun _=>YA2→YA3) fun a b c d e f g h i j k l m n o p v=>⟨a,b,c,d,e,f,g,h,i,j,v,l,m,n,o,p⟩
def Lg:YA3→YA2→YA3:=N16.rec (motive:=fun _=>YA2→YA3) fun a b c d e f g h i j k l m n o p v=>⟨a,b,c,d,e,f,g,h,i,j,k,v,m,n,o,p⟩
def H9:YA3→YA2→YA3:=N16.rec (motive:=fun _=>YA2→YA3) fun a b c d e f g h i j k l m n o p v=>⟨a,b,c,d,e,f,g,h,i,j,k,l,v,n,o,p⟩
def JA:YA3→YA2→YA3:=N16.rec (motive:=fun _=>YA2→YA3) fun a b c d e f g h i j k l m n o p v=>⟨a,b,c,d,e,f,g,h,i,j,k,l,m,v,o,p⟩
def Ln:YA3→YA2→YA3:=N16.rec (motive:=fun _=>YA2→YA3) fun a b c d e f g h i j k l m n o p v=>⟨a,b,c,d,e,f,g,h,i,j,k,l,m,n,v,p⟩
def It:YA3→YA2→YA3:=N16.rec (motive:=fun _=>YA2→YA3) fun a b c d e f g h i j k l m n o p v=>⟨a,b,c,d,e,f,g,h,i,j,k,l,m,n,o,v⟩
def sA2:I16→YA3→YA2→YA3:=I16.rec (motive:=fun _=>YA3→YA2→YA3) NE Nr PB PI NN Pw OJ Nu O1 QN JJ Lg H9 JA Ln It
theorem CH(i:I16)(t:YA3):gA2 i t=N16.get i t:=by cases i<;>rfl
theorem Ng(i:I16)(t:YA3)(v:YA2):sA2 i t v=N16.set i v t:=by cases i<;>cases t<;>rfl
def gB0:I16→YB1→Option Blk:=I16.rec (motive:=fun _=>YB1→Option Blk) N16.x0 N16.x1 N16.x2 N16.x3 N16.x4 N16.x5 N16.x6 N16.x7 N16.x8 N16.x9 N16.x10 N16.x11 N16.x12 N16.x13 N16.x14 N16.x15
def NS:YB1→(Option Blk)→YB1:=N16.rec (motive:=fun _=>(Option Blk)→YB1) fun a b c d e f g h i j k l m n o p v=>⟨v,b,c,d,e,f,g,h,i,j,k,l,m,n,o,p⟩
def P3:YB1→(Option Blk)→YB1:=N16.rec (motive:=fun _=>(Option Blk)→YB1) fun a b c d e f g h i j k l m n o p v=>⟨a,v,c,d,e,f,g,h,i,j,k,l,m,n,o,p⟩
def NM:YB1→(Option Blk)→YB1:=N16.rec (motive:=fun _=>(Option Blk)→YB1) fun a b c d e f g h i j k l m n o p v=>⟨a,b,v,d,e,f,g,h,i,j,k,l,m,n,o,p⟩
def Of:YB1→(Option Blk)→YB1:=N16.rec (motive:=fun _=>(Option Blk)→YB1) fun a b c d e f g h i j k l m n o p v=>⟨a,b,c,v,e,f,g,h,i,j,k,l,m,n,o,p⟩
def Pv:YB1→(Option Blk)→YB1:=N16.rec (motive:=fun _=>(Option Blk)→YB1) fun a b c d e f g h i j k l m n o p v=>⟨a,b,c,d,v,f,g,h,i,j,k,l,m,n,o,p⟩
def P8:YB1→(Option Blk)→YB1:=N16.rec (motive:=fun _=>(Option Blk)→YB1) fun a b c d e f g h i j k l m n o p v=>⟨a,b,c,d,e,v,g,h,i,j,k,l,m,n,o,p⟩
def QR:YB1→(Option Blk)→YB1:=N16.rec (motive:=fun _=>(Option Blk)→YB1) fun a b c d e f g h i j k l m n o p v=>⟨a,b,c,d,e,f,v,h,i,j,k,l,m,n,o,p⟩
def PS:YB1→(Option Blk)→YB1:=N16.rec (motive:=fun _=>(Option Blk)→YB1) fun a b c d e f g h i j k l m n o p v=>⟨a,b,c,d,e,f,g,v,i,j,k,l,m,n,o,p⟩
def Rs:YB1→(Option Blk)→YB1:=N16.rec (motive:=fun _=>(Option Blk)→YB1) fun a b c d e f g h i j k l m n o p v=>⟨a,b,c,d,e,f,g,h,v,j,k,l,m,n,o,p⟩
def PQ:YB1→(Option Blk)→YB1:=N16.rec (motive:=fun _=>(Option Blk)→YB1) fun a b c d e f g h i j k l m n o p v=>⟨a,b,c,d,e,f,g,h,i,v,k,l,m,n,o,p⟩
def KH:YB1→(Option Blk)→YB1:=N16.rec (motive:=fun _=>(Option Blk)→YB1) fun a b c d e f g h i j k l m n o p v=>⟨a,b,c,d,e,f,g,h,i,j,v,l,m,n,o,p⟩
def MJ:YB1→(Option Blk)→YB1:=N16.rec (motive:=fun _=>(Option Blk)→YB1) fun a b c d e f g h i j k l m n o p v=>⟨a,b,c,d,e,f,g,h,i,j,k,v,m,n,o,p⟩
def JB:YB1→(Option Blk)→YB1:=N16.rec (motive:=fun _=>(Option Blk)→YB1) fun a b c d e f g h i j k l m n o p v=>⟨a,b,c,d,e,f,g,h,i,j,k,l,v,n,o,p⟩
def MD:YB1→(Option Blk)→YB1:=N16.rec (motive:=fun _=>(Option Blk)→YB1) fun a b c d e f g h i j k l m n o p v=>⟨a,b,c,d,e,f,g,h,i,j,k,l,m,v,o,p⟩
def HY:YB1→(Option Blk)→YB1:=N16.rec (motive:=fun _=>(Option Blk)→YB1) fun a b c d e f g h i j k l m n o p v=>⟨a,b,c,d,e,f,g,h,i,j,k,l,m,n,v,p⟩
def LH:YB1→(Option Blk)→YB1:=N16.rec (motive:=fun _=>(Option Blk)→YB1) fun a b c d e f g h i j k l m n o p v=>⟨a,b,c,d,e,f,g,h,i,j,k,l,m,n,o,v⟩
def sB0:I16→YB1→(Option Blk)→YB1:=I16.rec (motive:=fun _=>YB1→(Option Blk)→YB1) NS P3 NM Of Pv P8 QR PS Rs PQ KH MJ JB MD HY LH
theorem Df(i:I16)(t:YB1):gB0 i t=N16.get i t:=by cases i<;>rfl
theorem Mr(i:I16)(t:YB1)(v:Option Blk):sB0 i t v=N16.set i v t:=by cases i<;>cases t<;>rfl
def gB1:I16→YB2→YB1:=I16.rec (motive:=fun _=>YB2→YB1) N16.x0 N16.x1 N16.x2 N16.x3 N16.x4 N16.x5 N16.x6 N16.x7 N16.x8 N16.x9 N16.x10 N16.x11 N16.x12 N16.x13 N16.x14 N16.x15
def O9:YB2→YB1→YB2:=N16.rec (motive:=fun _=>YB1→YB2) fun a b c d e f g h i j k l m n o p v=>⟨v,b,c,d,e,f,g,h,i,j,k,l,m,n,o,p⟩
def PC:YB2→YB1→YB2:=N16.rec (motive:=fun _=>YB1→YB2) fun a b c d e f g h i j k l m n o p v=>⟨a,v,c,d,e,f,g,h,i,j,k,l,m,n,o,p⟩
def Pp:YB2→YB1→YB2:=N16.rec (motive:=fun _=>YB1→YB2) fun a b c d e f g h i j k l m n o p v=>⟨a,b,v,d,e,f,g,h,i,j,k,l,m,n,o,p⟩
def Rw:YB2→YB1→YB2:=N16.rec (motive:=fun _=>YB1→YB2) fun a b c d e f g h i j k l m n o p v=>⟨a,b,c,v,e,f,g,h,i,j,k,l,m,n,o,p⟩
def RD:YB2→YB1→YB2:=N16.rec (motive:=fun _=>YB1→YB2) fun a b c d e f g h i j k l m n o p v=>⟨a,b,c,d,v,f,g,h,i,j,k,l,m,n,o,p⟩
def QH:YB2→YB1→YB2:=N16.rec (motive:=fun _=>YB1→YB2) fun a b c d e f g h i j k l m n o p v=>⟨a,b,c,d,e,v,g,h,i,j,k,l,m,n,o,p⟩
def NL:YB2→YB1→YB2:=N16.rec (motive:=fun _=>YB1→YB2) fun a b c d e f g h i j k l m n o p v=>⟨a,b,c,d,e,f,v,h,i,j,k,l,m,n,o,p⟩
def OZ:YB2→YB1→YB2:=N16.rec (motive:=fun _=>YB1→YB2) fun a b c d e f g h i j k l m n o p v=>⟨a,b,c,d,e,f,g,v,i,j,k,l,m,n,o,p⟩
def PF:YB2→YB1→YB2:=N16.rec (motive:=fun _=>YB1→YB2) fun a b c d e f g h i j k l m n o p v=>⟨a,b,c,d,e,f,g,h,v,j,k,l,m,n,o,p⟩
def N0:YB2→YB1→YB2:=N16.rec (motive:=fun _=>YB1→YB2) fun a b c d e f g h i j k l m n o p v=>⟨a,b,c,d,e,f,g,h,i,v,k,l,m,n,o,p⟩
def JV:YB2→YB1→YB2:=N16.rec (motive:=fun _=>YB1→YB2) fun a b c d e f g h i j k l m n o p v=>⟨a,b,c,d,e,f,g,h,i,j,v,l,m,n,o,p⟩
def MB:YB2→YB1→YB2:=N16.rec (motive:=fun _=>YB1→YB2) fun a b c d e f g h i j k l m n o p v=>⟨a,b,c,d,e,f,g,h,i,j,k,v,m,n,o,p⟩
def Ir:YB2→YB1→YB2:=N16.rec (motive:=fun _=>YB1→YB2) fun a b c d e f g h i j k l m n o p v=>⟨a,b,c,d,e,f,g,h,i,j,k,l,v,n,o,p⟩
def LF:YB2→YB1→YB2:=N16.rec (motive:=fun _=>YB1→YB2) fun a b c d e f g h i j k l m n o p v=>⟨a,b,c,d,e,f,g,h,i,j,k,l,m,v,o,p⟩
def Ld:YB2→YB1→YB2:=N16.rec (motive:=fun _=>YB1→YB2) fun a b c d e f g h i j k l m n o p v=>⟨a,b,c,d,e,f,g,h,i,j,k,l,m,n,v,p⟩
def HZ:YB2→YB1→YB2:=N16.rec (motive:=fun _=>YB1→YB2) fun a b c d e f g h i j k l m n o p v=>⟨a,b,c,d,e,f,g,h,i,j,k,l,m,n,o,v⟩
def sB1:I16→YB2→YB1→YB2:=I16.rec (motive:=fun _=>YB2→YB1→YB2) O9 PC Pp Rw RD QH NL OZ PF N0 JV MB Ir LF Ld HZ
theorem Di(i:I16)(t:YB2):gB1 i t=N16.get i t:=by cases i<;>rfl
theorem LO(i:I16)(t:YB2)(v:YB1):sB1 i t v=N16.set i v t:=by cases i<;>cases t<;>rfl
def gB2:I16→YB3→YB2:=I16.rec (motive:=fun _=>YB3→YB2) N16.x0 N16.x1 N16.x2 N16.x3 N16.x4 N16.x5 N16.x6 N16.x7 N16.x8 N16.x9 N16.x10 N16.x11 N16.x12 N16.x13 N16.x14 N16.x15
def Rx:YB3→YB2→YB3:=N16.rec (motive:=fun _=>YB2→YB3) fun a b c d e f g h i j k l m n o p v=>⟨v,b,c,d,e,f,g,h,i,j,k,l,m,n,o,p⟩
def QO:YB3→YB2→YB3:=N16.rec (motive:=fun _=>YB2→YB3) fun a b c d e f g h i j k l m n o p v=>⟨a,v,c,d,e,f,g,h,i,j,k,l,m,n,o,p⟩
def Pf:YB3→YB2→YB3:=N16.rec (motive:=fun _=>YB2→YB3) fun a b c d e f g h i j k l m n o p v=>⟨a,b,v,d,e,f,g,h,i,j,k,l,m,n,o,p⟩
def PY:YB3→YB2→YB3:=N16.rec (motive:=fun _=>YB2→YB3) fun a b c d e f g h i j k l m n o p v=>⟨a,b,c,v,e,f,g,h,i,j,k,l,m,n,o,p⟩
def OQ:YB3→YB2→YB3:=N16.rec (motive:=fun _=>YB2→YB3) fun a b c d e f g h i j k l m n o p v=>⟨a,b,c,d,v,f,g,h,i,j,k,l,m,n,o,p⟩
def Nz:YB3→YB2→YB3:=N16.rec (motive:=fun _=>YB2→YB3) fun a b c d e f g h i j k l m n o p v=>⟨a,b,c,d,e,v,g,h,i,j,k,l,m,n,o,p⟩
def Pz:YB3→YB2→YB3:=N16.rec (motive:=fun _=>YB2→YB3) fun a b c d e f g h i j k l m n o p v=>⟨a,b,c,d,e,f,v,h,i,j,k,l,m,n,o,p⟩
def O7:YB3→YB2→YB3:=N16.rec (motive:=fun _=>YB2→YB3) fun a b c d e f g h i j k l m n o p v=>⟨a,b,c,d,e,f,g,v,i,j,k,l,m,n,o,p⟩
def P1:YB3→YB2→YB3:=N16.rec (motive:=fun _=>YB2→YB3) fun a b c d e f g h i j k l m n o p v=>⟨a,b,c,d,e,f,g,h,v,j,k,l,m,n,o,p⟩
def NU:YB3→YB2→YB3:=N16.rec (motive:=fun _=>YB2→YB3) fun a b c d e f g h i j k l m n o p v=>⟨a,b,c,d,e,f,g,h,i,v,k,l,m,n,o,p⟩
def L7:YB3→YB2→YB3:=N16.rec (motive:=fun _=>YB2→YB3) fun a b c d e f g h i j k l m n o p v=>⟨a,b,c,d,e,f,g,h,i,j,v,l,m,n,o,p⟩
def KX:YB3→YB2→YB3:=N16.rec (motive:=fun _=>YB2→YB3) fun a b c d e f g h i j k l m n o p v=>⟨a,b,c,d,e,f,g,h,i,j,k,v,m,n,o,p⟩
def IM:YB3→YB2→YB3:=N16.rec (motive:=fun _=>YB2→YB3) fun a b c d e f g h i j k l m n o p v=>⟨a,b,c,d,e,f,g,h,i,j,k,l,v,n,o,p⟩
def JG:YB3→YB2→YB3:=N16.rec (motive:=fun _=>YB2→YB3) fun a b c d e f g h i j k l m n o p v=>⟨a,b,c,d,e,f,g,h,i,j,k,l,m,v,o,p⟩
def Le:YB3→YB2→YB3:=N16.rec (motive:=fun _=>YB2→YB3) fun a b c d e f g h i j k l m n o p v=>⟨a,b,c,d,e,f,g,h,i,j,k,l,m,n,v,p⟩
def KD:YB3→YB2→YB3:=N16.rec (motive:=fun _=>YB2→YB3) fun a b c d e f g h i j k l m n o p v=>⟨a,b,c,d,e,f,g,h,i,j,k,l,m,n,o,v⟩
def sB2:I16→YB3→YB2→YB3:=I16.rec (motive:=fun _=>YB3→YB2→YB3) Rx QO Pf PY OQ Nz Pz O7 P1 NU L7 KX IM JG Le KD
theorem Ca(i:I16)(t:YB3):gB2 i t=N16.get i t:=by cases i<;>rfl
theorem JQ(i:I16)(t:YB3)(v:YB2):sB2 i t v=N16.set i v t:=by cases i<;>cases t<;>rfl
def gB3:I16→YB4→YB3:=I16.rec (motive:=fun _=>YB4→YB3) N16.x0 N16.x1 N16.x2 N16.x3 N16.x4 N16.x5 N16.x6 N16.x7 N16.x8 N16.x9 N16.x10 N16.x11 N16.x12 N16.x13 N16.x14 N16.x15
def Pd:YB4→YB3→YB4:=N16.rec (motive:=fun _=>YB3→YB4) fun a b c d e f g h i j k l m n o p v=>⟨v,b,c,d,e,f,g,h,i,j,k,l,m,n,o,p⟩
def NA:YB4→YB3→YB4:=N16.rec (motive:=fun _=>YB3→YB4) fun a b c d e f g h i j k l m n o p v=>⟨a,v,c,d,e,f,g,h,i,j,k,l,m,n,o,p⟩
def OU:YB4→YB3→YB4:=N16.rec (motive:=fun _=>YB3→YB4) fun a b c d e f g h i j k l m n o p v=>⟨a,b,v,d,e,f,g,h,i,j,k,l,m,n,o,p⟩
def PZ:YB4→YB3→YB4:=N16.rec (motive:=fun _=>YB3→YB4) fun a b c d e f g h i j k l m n o p v=>⟨a,b,c,v,e,f,g,h,i,j,k,l,m,n,o,p⟩
def Rc:YB4→YB3→YB4:=N16.rec (motive:=fun _=>YB3→YB4) fun a b c d e f g h i j k l m n o p v=>⟨a,b,c,d,v,f,g,h,i,j,k,l,m,n,o,p⟩
def Nw:YB4→YB3→YB4:=N16.rec (motive:=fun _=>YB3→YB4) fun a b c d e f g h i j k l m n o p v=>⟨a,b,c,d,e,v,g,h,i,j,k,l,m,n,o,p⟩
def PR:YB4→YB3→YB4:=N16.rec (motive:=fun _=>YB3→YB4) fun a b c d e f g h i j k l m n o p v=>⟨a,b,c,d,e,f,v,h,i,j,k,l,m,n,o,p⟩
def Rk:YB4→YB3→YB4:=N16.rec (motive:=fun _=>YB3→YB4) fun a b c d e f g h i j k l m n o p v=>⟨a,b,c,d,e,f,g,v,i,j,k,l,m,n,o,p⟩
def N4:YB4→YB3→YB4:=N16.rec (motive:=fun _=>YB3→YB4) fun a b c d e f g h i j k l m n o p v=>⟨a,b,c,d,e,f,g,h,v,j,k,l,m,n,o,p⟩
def Ry:YB4→YB3→YB4:=N16.rec (motive:=fun _=>YB3→YB4) fun a b c d e f g h i j k l m n o p v=>⟨a,b,c,d,e,f,g,h,i,v,k,l,m,n,o,p⟩
def IH:YB4→YB3→YB4:=N16.rec (motive:=fun _=>YB3→YB4) fun a b c d e f g h i j k l m n o p v=>⟨a,b,c,d,e,f,g,h,i,j,v,l,m,n,o,p⟩
def JR:YB4→YB3→YB4:=N16.rec (motive:=fun _=>YB3→YB4) fun a b c d e f g h i j k l m n o p v=>⟨a,b,c,d,e,f,g,h,i,j,k,v,m,n,o,p⟩
def KT:YB4→YB3→YB4:=N16.rec (motive:=fun _=>YB3→YB4) fun a b c d e f g h i j k l m n o p v=>⟨a,b,c,d,e,f,g,h,i,j,k,l,v,n,o,p⟩
def Mc:YB4→YB3→YB4:=N16.rec (motive:=fun _=>YB3→YB4) fun a b c d e f g h i j k l m n o p v=>⟨a,b,c,d,e,f,g,h,i,j,k,l,m,v,o,p⟩
def Ix:YB4→YB3→YB4:=N16.rec (motive:=fun _=>YB3→YB4) fun a b c d e f g h i j k l m n o p v=>⟨a,b,c,d,e,f,g,h,i,j,k,l,m,n,v,p⟩
def I0:YB4→YB3→YB4:=N16.rec (motive:=fun _=>YB3→YB4) fun a b c d e f g h i j k l m n o p v=>⟨a,b,c,d,e,f,g,h,i,j,k,l,m,n,o,v⟩
def sB3:I16→YB4→YB3→YB4:=I16.rec (motive:=fun _=>YB4→YB3→YB4) Pd NA OU PZ Rc Nw PR Rk N4 Ry IH JR KT Mc Ix I0
theorem Cv(i:I16)(t:YB4):gB3 i t=N16.get i t:=by cases i<;>rfl
theorem HM(i:I16)(t:YB4)(v:YB3):sB3 i t v=N16.set i v t:=by cases i<;>cases t<;>rfl
def gB4:I16→YB5→YB4:=I16.rec (motive:=fun _=>YB5→YB4) N16.x0 N16.x1 N16.x2 N16.x3 N16.x4 N16.x5 N16.x6 N16.x7 N16.x8 N16.x9 N16.x10 N16.x11 N16.x12 N16.x13 N16.x14 N16.x15
def Pg:YB5→YB4→YB5:=N16.rec (motive:=fun _=>YB4→YB5) fun a b c d e f g h i j k l m n o p v=>⟨v,b,c,d,e,f,g,h,i,j,k,l,m,n,o,p⟩
def Rf:YB5→YB4→YB5:=N16.rec (motive:=fun _=>YB4→YB5) fun a b c d e f g h i j k l m n o p v=>⟨a,v,c,d,e,f,g,h,i,j,k,l,m,n,o,p⟩
def Pk:YB5→YB4→YB5:=N16.rec (motive:=fun _=>YB4→YB5) fun a b c d e f g h i j k l m n o p v=>⟨a,b,v,d,e,f,g,h,i,j,k,l,m,n,o,p⟩
def P6:YB5→YB4→YB5:=N16.rec (motive:=fun _=>YB4→YB5) fun a b c d e f g h i j k l m n o p v=>⟨a,b,c,v,e,f,g,h,i,j,k,l,m,n,o,p⟩
def OA:YB5→YB4→YB5:=N16.rec (motive:=fun _=>YB4→YB5) fun a b c d e f g h i j k l m n o p v=>⟨a,b,c,d,v,f,g,h,i,j,k,l,m,n,o,p⟩
def N6:YB5→YB4→YB5:=N16.rec (motive:=fun _=>YB4→YB5) fun a b c d e f g h i j k l m n o p v=>⟨a,b,c,d,e,v,g,h,i,j,k,l,m,n,o,p⟩
def PG:YB5→YB4→YB5:=N16.rec (motive:=fun _=>YB4→YB5) fun a b c d e f g h i j k l m n o p v=>⟨a,b,c,d,e,f,v,h,i,j,k,l,m,n,o,p⟩
def OH:YB5→YB4→YB5:=N16.rec (motive:=fun _=>YB4→YB5) fun a b c d e f g h i j k l m n o p v=>⟨a,b,c,d,e,f,g,v,i,j,k,l,m,n,o,p⟩
def Ny:YB5→YB4→YB5:=N16.rec (motive:=fun _=>YB4→YB5) fun a b c d e f g h i j k l m n o p v=>⟨a,b,c,d,e,f,g,h,v,j,k,l,m,n,o,p⟩
def NF:YB5→YB4→YB5:=N16.rec (motive:=fun _=>YB4→YB5) fun a b c d e f g h i j k l m n o p v=>⟨a,b,c,d,e,f,g,h,i,v,k,l,m,n,o,p⟩
def Mu:YB5→YB4→YB5:=N16.rec (motive:=fun _=>YB4→YB5) fun a b c d e f g h i j k l m n o p v=>⟨a,b,c,d,e,f,g,h,i,j,v,l,m,n,o,p⟩
def KL:YB5→YB4→YB5:=N16.rec (motive:=fun _=>YB4→YB5) fun a b c d e f g h i j k l m n o p v=>⟨a,b,c,d,e,f,g,h,i,j,k,v,m,n,o,p⟩
def KR:YB5→YB4→YB5:=N16.rec (motive:=fun _=>YB4→YB5) fun a b c d e f g h i j k l m n o p v=>⟨a,b,c,d,e,f,g,h,i,j,k,l,v,n,o,p⟩
def Lp:YB5→YB4→YB5:=N16.rec (motive:=fun _=>YB4→YB5) fun a b c d e f g h i j k l m n o p v=>⟨a,b,c,d,e,f,g,h,i,j,k,l,m,v,o,p⟩
def Mp:YB5→YB4→YB5:=N16.rec (motive:=fun _=>YB4→YB5) fun a b c d e f g h i j k l m n o p v=>⟨a,b,c,d,e,f,g,h,i,j,k,l,m,n,v,p⟩
def IY:YB5→YB4→YB5:=N16.rec (motive:=fun _=>YB4→YB5) fun a b c d e f g h i j k l m n o p v=>⟨a,b,c,d,e,f,g,h,i,j,k,l,m,n,o,v⟩
def sB4:I16→YB5→YB4→YB5:=I16.rec (motive:=fun _=>YB5→YB4→YB5) Pg Rf Pk P6 OA N6 PG OH Ny NF Mu KL KR Lp Mp IY
theorem CA(i:I16)(t:YB5):gB4 i t=N16.get i t:=by cases i<;>rfl
theorem IB(i:I16)(t:YB5)(v:YB4):sB4 i t v=N16.set i v t:=by cases i<;>cases t<;>rfl
def DV(n:Nat)(f:TF AV):AV:=gA0 (i16 (Nat.land n 15)) (gA1 (i16 (Nat.shiftRight n 4)) f.lo)
def Ep(n:Nat)(f:TF AV):AV:=gA0 (i16 (Nat.land n 15)) (gA1 (i16 (Nat.land (Nat.shiftRight n 4) 15)) (gA2 (i16 (Nat.shiftRight n 8)) f.hi))
def getF(n:Nat):TF AV→AV:=Bool.rec (motive:=fun _=>Nat→TF AV→AV) Ep DV (Nat.blt n 256) n
def Br(i j:I16)(t:YA2)(v:AV):YA2:=sA1 i t (sA0 j (gA1 i t) v)
def EI(n:Nat)(v:AV)(f:TF AV):TF AV:=⟨Br (i16 (Nat.shiftRight n 4)) (i16 (Nat.land n 15)) f.lo v,f.hi⟩
def F4(n:Nat)(v:AV)(f:TF AV):TF AV:=⟨f.lo,sA2 (i16 (Nat.shiftRight n 8)) f.hi (Br (i16 (Nat.land (Nat.shiftRight n 4) 15)) (i16 (Nat.land n 15)) (gA2 (i16 (Nat.shiftRight n 8)) f.hi) v)⟩
def setF(n:Nat):AV→TF AV→TF AV:=Bool.rec (motive:=fun _=>Nat→AV→TF AV→TF AV) F4 EI (Nat.blt n 256) n
def A5(v:AV):TF AV:=⟨Kw (Kw v),Kw (Kw (Kw v))⟩
theorem wN(n:Nat)(f:TF AV):DV n f=get2 n f.lo:=by unfold DV get2;rw[Cq,rV]
theorem nib(n:Nat):Nat.land (Nat.shiftRight n 4) 15=Nat.shiftRight (Nat.land n 255) 4:=by rw[vm,shr4,xa,shr4];omega
theorem nib0(n:Nat):Nat.land n 15=Nat.land (Nat.land n 255) 15:=by rw[vm,xa,vm];omega
theorem BQ(n:Nat)(f:TF AV):Ep n f=get2 (Nat.land n 255) (N16.get (i16 (Nat.shiftRight n 8)) f.hi):=by unfold Ep get2;rw[Cq,rV,CH,nib,nib0]
theorem pg(n:Nat)(t:YA2)(v:AV):Br (i16 (Nat.shiftRight n 4)) (i16 (Nat.land n 15)) t v=set2 n v t:=by unfold Br set2;rw[MM,KY,rV]
theorem BM(n:Nat)(v:AV)(f:TF AV):F4 n v f=⟨f.lo,N16.set (i16 (Nat.shiftRight n 8)) (set2 (Nat.land n 255) v (N16.get (i16 (Nat.shiftRight n 8)) f.hi)) f.hi⟩:=by
 unfold F4;rw[Ng,CH,nib,nib0,pg]
theorem zK(n:Nat)(v:AV)(f:TF AV):EI n v f=⟨set2 n v f.lo,f.hi⟩:=by unfold EI;rw[pg]
theorem nj(n:Nat)(f:TF AV):getF n f=Bool.rec (get2 (Nat.land n 255) (N16.get (i16 (Nat.shiftRight n 8)) f.hi)) (get2 n f.lo) (Nat.blt n 256):=by
 unfold getF;cases Nat.blt n 256
 ·exact BQ n f
 ·exact wN n f
theorem GW(n:Nat)(v:AV)(f:TF AV):setF n v f=Bool.rec ⟨f.lo,N16.set (i16 (Nat.shiftRight n 8)) (set2 (Nat.land n 255) v (N16.get (i16 (Nat.shiftRight n 8)) f.hi)) f.hi⟩ ⟨set2 n v f.lo,f.hi⟩ (Nat.blt n 256):=by
 unfold setF;cases Nat.blt n 256
 ·exact BM n v f
 ·exact zK n v f
theorem Xe(n m:Nat)(v:AV)(f:TF AV)(hn:n<4096)(hm:m<4096):getF n (setF m v f)=if n=m then v else getF n f:=by
 have hb:∀k,Nat.blt k 256=decide (k<256):=fun k=>by
  cases h:Nat.blt k 256 with
  |true=>exact(decide_eq_true (UW h)).symm
  |false=>exact(decide_eq_false (fun hk=>by have a:Nat.blt k 256=true:=YL hk;rw[a] at h;cases h)).symm
 rw[GW,nj,nj];rw[hb n,hb m];by_cases d:n<256
 ·rw[decide_eq_true d];by_cases a:m<256
  ·rw[decide_eq_true a];exact ji n m v f.lo d a
  ·rw[decide_eq_false a,if_neg (by omega)]
 ·rw[decide_eq_false d];by_cases a:m<256
  ·rw[decide_eq_true a,if_neg (by omega)]
  ·rw[decide_eq_false a];show get2 (Nat.land n 255) (N16.get (i16 (Nat.shiftRight n 8)) (N16.set (i16 (Nat.shiftRight m 8)) _ f.hi))=if n=m then v else get2 (Nat.land n 255) (N16.get (i16 (Nat.shiftRight n 8)) f.hi);simp only[xa,shr8];rw[N16.get_set];by_cases b:i16 (n/256)=i16 (m/256)
   ·have i:=jU (by omega) (by omega) b;rw[if_pos b,b,ji _ _ _ _ (by omega) (by omega)];by_cases g:n%256=m%256
    ·rw[if_pos g,if_pos (by omega)]
    ·rw[if_neg g,if_neg (fun e=>g (by rw[e]))]
   ·rw[if_neg b,if_neg (fun e=>b (by rw[e]))]
theorem kI(n:Nat)(v:AV):getF n (A5 v)=v:=by
 rw[nj];unfold A5;cases Nat.blt n 256
 ·show get2 _ (N16.get _ (Kw (Kw (Kw v))))=v;rw[Vn,jp]
 ·exact jp _ _
def get5(n:Nat)(t:T5 (Option Blk)):Option Blk:=
 gB0 (i16 (Nat.land n 15)) (gB1 (i16 (Nat.land (Nat.shiftRight n 4) 15)) (gB2 (i16 (Nat.land (Nat.shiftRight n 8) 15)) (gB3 (i16 (Nat.land (Nat.shiftRight n 12) 15)) (gB4 (i16 (Nat.shiftRight n 16)) t))))
def put2(d e:I16)(t:YB2)(v:Option Blk):YB2:=sB1 d t (sB0 e (gB1 d t) v)
def put3(c d e:I16)(t:YB3)(v:Option Blk):YB3:=sB2 c t (put2 d e (gB2 c t) v)
def put4(b c d e:I16)(t:YB4)(v:Option Blk):YB4:=sB3 b t (put3 c d e (gB3 b t) v)
def put5(a b c d e:I16)(t:T5 (Option Blk))(v:Option Blk):T5 (Option Blk):=sB4 a t (put4 b c d e (gB4 a t) v)
def set5(n:Nat)(v:Option Blk)(t:T5 (Option Blk)):T5 (Option Blk):=
 put5 (i16 (Nat.shiftRight n 16)) (i16 (Nat.land (Nat.shiftRight n 12) 15)) (i16 (Nat.land (Nat.shiftRight n 8) 15)) (i16 (Nat.land (Nat.shiftRight n 4) 15)) (i16 (Nat.land n 15)) t v
theorem sh12(n:Nat):Nat.shiftRight n 12=n/4096:=ZT n 12
theorem nib3(n:Nat):Nat.shiftRight (Nat.land (Nat.shiftRight n 8) 255) 4=Nat.land (Nat.shiftRight n 12) 15:=by rw[xa,shr4,shr8,vm,sh12];omega
theorem nib2(n:Nat):Nat.land (Nat.land (Nat.shiftRight n 8) 255) 15=Nat.land (Nat.shiftRight n 8) 15:=(nib0 _).symm
theorem mW(n:Nat)(t:T5 (Option Blk)):get5 n t=m9 n t:=by
 unfold get5 m9 get2;rw[Df,Di,Ca,Cv,CA,nib3,nib2,←nib,←nib0]
theorem Eo(n:Nat)(v:Option Blk)(t:T5 (Option Blk)):set5 n v t=Bk n v t:=by
 unfold set5 Bk put5 put4 put3 put2 get2 set2;simp only[Mr,LO,JQ,HM,IB,Di,Ca,Cv,CA,Df];rw[nib3,nib2,←nib,←nib0]
theorem J8(n m:Nat)(v:Option Blk)(t:T5 (Option Blk))(hn:n<big5)(hm:m<big5):get5 n (set5 m v t)=if n=m then v else get5 n t:=by
 rw[mW,Eo,mW];exact mF n m v t hn hm
theorem vO(n:Nat)(v:Option Blk):get5 n (wZ v)=v:=by rw[mW];exact rh n v
inductive Res|ok (v:AV) (h:Hp)|no (n:Nat)|pn (v:AV) (h:Hp)
inductive Out|nx (f:Fr) (h:Hp)|ex (i:Nat) (f:Fr) (h:Hp)|rt (f:Fr) (h:Hp)|no (n:Nat)|pn (v:AV) (f:Fr) (h:Hp)
def fz{α:Type}(n:Nat)(k:Nat→α):α:=Nat.rec (k 0) (fun m _=>k (Nat.succ m)) n
theorem Yx{α:Type}(n:Nat)(k:Nat→α):fz n k=k n:=by cases n<;>rfl
def fI{α:Type}(z:Int)(k:Int→α):α:=Int.rec (fun n=>fz n fun n=>k (Int.ofNat n)) (fun n=>fz n fun n=>k (Int.negSucc n)) z
theorem GB{α:Type}(z:Int)(k:Int→α):fI z k=k z:=by cases z<;>simp[fI,Yx]
def okI(k:IntKind)(z:Int)(h:Hp):Res:=fI z fun z=> .ok (.i k z) h
theorem I8(k:IntKind)(z:Int)(h:Hp):okI k z h= .ok (.i k z) h:=GB _ _
def okB(t:Bool)(h:Hp):Res:=Bool.rec (.ok (.b false) h) (.ok (.b true) h) t
theorem LE(t:Bool)(h:Hp):okB t h= .ok (.b t) h:=by cases t<;>rfl
def nth{α:Type}(l:List α):Nat→Option α:=List.rec (fun _=>none) (fun x _ ih n=>Nat.rec (some x) (fun m _=>ih m) n) l
theorem jy{α:Type}(l:List α)(n:Nat):nth l n=l[n]? :=by
 induction l generalizing n with
 |nil=>rfl
 |cons x l ih=>cases n with
  |zero=>rfl
  |succ n=>exact ih n
def len{α:Type}(l:List α):Nat:=List.rec 0 (fun _ _ ih=>Nat.succ ih) l
theorem Y4{α:Type}(l:List α):len l=l.length:=by
 induction l with
 |nil=>rfl
 |cons x l ih=>exact congrArg Nat.succ ih
def tk{α:Type}(l:List α):Nat→List α:=List.rec (fun _=>[]) (fun x _ ih n=>Nat.rec [] (fun m _=>x::ih m) n) l
theorem ly{α:Type}(l:List α)(n:Nat):tk l n=l.take n:=by
 induction l generalizing n with
 |nil=>cases n<;>rfl
 |cons x l ih=>cases n with
  |zero=>rfl
  |succ n=>exact congrArg (x:: ·) (ih n)
def dr{α:Type}(l:List α):Nat→List α:=List.rec (fun _=>[]) (fun x t ih n=>Nat.rec (x::t) (fun m _=>ih m) n) l
theorem V6{α:Type}(l:List α)(n:Nat):dr l n=l.drop n:=by
 induction l generalizing n with
 |nil=>cases n<;>rfl
 |cons x l ih=>cases n with
  |zero=>rfl
  |succ n=>exact ih n
def putK{α:Type}(cs:List α):Nat→List α→(List α→Res)→Res:=
 List.rec (fun off vs k=>List.rec (Nat.rec (k []) (fun _ _=> .no 21) off) (fun _ _ _=> .no 20) vs)
  (fun c t ih off vs k=>Nat.rec (List.rec (k (c::t)) (fun v vs' _=>ih 0 vs' fun t'=>k (v::t')) vs) (fun m _=>ih m vs fun t'=>k (c::t')) off) cs
theorem tU{α:Type}(cs:List α)(off:Nat)(vs:List α)(k:List α→Res):(putK cs off vs k=k (cs.take off++vs++cs.drop (off+vs.length))∧off+vs.length≤cs.length)∨∃n,putK cs off vs k= .no n:=by
 induction cs generalizing off vs k with
 |nil=>
  cases vs with
  |nil=>cases off with
   |zero=>exact .inl ⟨rfl,UM _⟩
   |succ n=>exact .inr ⟨_,rfl⟩
  |cons v vs=>exact .inr ⟨_,rfl⟩
 |cons c t ih=>
  cases off with
  |zero=>
   cases vs with
   |nil=>exact .inl ⟨rfl,UN _⟩
   |cons v vs=>
    rcases ih 0 vs (fun t'=>k (v::t')) with ⟨h,hl⟩|⟨n,h⟩
    ·refine .inl ⟨?_,by simp at hl ⊢;exact hl⟩
     have:putK (c::t) 0 (v::vs) k=putK t 0 vs fun t'=>k (v::t'):=rfl
     rw[this,h];simp
    ·exact .inr ⟨n,h⟩
  |succ m=>
   rcases ih m vs (fun t'=>k (c::t')) with ⟨h,hl⟩|⟨n,h⟩
   ·refine .inl ⟨?_,by simp at hl ⊢;omega⟩
    have:putK (c::t) (m+1) vs k=putK t m vs fun t'=>k (c::t'):=rfl
    rw[this,h];have e:m+1+vs.length=(m+vs.length)+1:=by omega
    rw[e];simp
   ·exact .inr ⟨n,h⟩
def appK{α:Type}(l:List α):List α→(List α→Res)→Res:=List.rec (fun m k=>k m) (fun c _ ih m k=>ih m fun t=>k (c::t)) l
theorem K9{α:Type}(l m:List α)(k:List α→Res):appK l m k=k (l++m):=by
 induction l generalizing k with
 |nil=>rfl
 |cons c t ih=>exact(ih fun t'=>k (c::t')).trans rfl
def tkK{α:Type}(l:List α):Nat→(List α→Res)→Res:=List.rec (fun n k=>Nat.rec (k []) (fun _ _=> .no 22) n) (fun c _ ih n k=>Nat.rec (k []) (fun m _=>ih m fun t=>k (c::t)) n) l
theorem vf{α:Type}(l:List α)(n:Nat)(k:List α→Res):(tkK l n k=k (l.take n)∧n≤l.length)∨∃e,tkK l n k= .no e:=by
 induction l generalizing n k with
 |nil=>cases n with
  |zero=>exact .inl ⟨rfl,UM _⟩
  |succ n=>exact .inr ⟨_,rfl⟩
 |cons c t ih=>cases n with
  |zero=>exact .inl ⟨rfl,UN _⟩
  |succ n=>
   rcases ih n (fun t'=>k (c::t')) with ⟨h,hl⟩|⟨e,h⟩
   ·exact .inl ⟨h,by simp;exact hl⟩
   ·exact .inr ⟨e,h⟩
def repl{α:Type}(n:Nat)(l:List α):List α:=(List.replicate n l).flatten
theorem yB{n h:Nat}(hn:n<h):Nat.blt n h=true:=YL hn
theorem Zx{n h:Nat}(e:Nat.blt n h=true):n<h:=UW e
theorem zT{n h:Nat}(hn:¬n<h):Nat.blt n h=false:=by
 cases e:Nat.blt n h with
 |false=>rfl
 |true=>exact absurd (Zx e) hn
theorem sg(n h:Nat):Nat.blt n h=decide (n<h):=by
 by_cases hn:n<h
 ·rw[yB hn,decide_eq_true hn]
 ·rw[zT hn,decide_eq_false hn]
theorem yc(n h:Nat):Nat.beq n h=decide (n=h):=by
 by_cases hn:n=h
 ·rw[decide_eq_true hn];subst hn;exact YK n
 ·rw[decide_eq_false hn];cases e:Nat.beq n h with
  |false=>rfl
  |true=>exact absurd (YT e) hn
def ikN:IntKind→Nat | .i8=>0 | .i16=>1 | .i32=>2 | .i64=>3 | .u8=>4 | .u16=>5 | .u32=>6 | .u64=>7
def ikEq(a b:IntKind):Bool:=Nat.beq (ikN a) (ikN b)
theorem Y2{a b:IntKind}(h:ikEq a b=true):a=b:=by cases a<;>cases b<;>first|rfl|cases h
def kV(m:Nat)(z:Int):Int:=Int.casesOn z (fun n=>Int.ofNat (Nat.mod n m)) (fun n=>Int.ofNat (Nat.sub (Nat.sub m 1) (Nat.mod n m)))
def sgn(m h n:Nat):Int:=bif Nat.blt n h then Int.ofNat n else Int.negSucc (Nat.sub (Nat.sub m 1) n)
def iy(m h:Nat)(z:Int):Int:=Int.casesOn z (fun n=>bif Nat.blt n h then Int.ofNat n else sgn m h (Nat.mod n m)) (fun n=>bif Nat.blt n h then Int.negSucc n else sgn m h (Nat.sub (Nat.sub m 1) (Nat.mod n m)))
def jv(k:IntKind):Int→Int:=
 IntKind.casesOn (motive:=fun _=>Int→Int) k (iy 256 128) (iy 65536 32768) (iy 4294967296 2147483648) (iy 18446744073709551616 9223372036854775808)
  (kV 256) (kV 65536) (kV 4294967296) (kV 18446744073709551616)
theorem pS(m:Nat)(hm:0<m)(z:Int):kV m z=z%(m:Int):=by
 cases z with
 |ofNat n=>rfl
 |negSucc n=>
  have h:=UI n hm;have hq:=YM n m
  show((m-1-n%m:Nat):Int)=_
  have e:Int.negSucc n=((m-1-n%m:Nat):Int)+(m:Int)*(-((n/m:Nat):Int)-1):=by
   rw[Wv,Int.mul_sub,Wj,Wl]
   have:((m*(n/m):Nat):Int)=(m:Int)*((n/m:Nat):Int):=by rw[Wt]
   rw[←this];omega
  rw[e,VS,VU (by omega) (by omega)]
theorem C1(m h n:Nat)(hm:n<m)(hh:h≤m):sgn m h n=if(n:Int)≥(h:Int) then(n:Int)-(m:Int) else(n:Int):=by
 unfold sgn;by_cases hn:n<h
 ·rw[yB hn];rw[if_neg (by omega)];rfl
 ·rw[zT hn];rw[if_pos (by omega)];show Int.negSucc (m-1-n)=_;rw[Wv];omega
theorem xO(m h:Nat)(hm:0<m)(hh:h+h=m)(z:Int):iy m h z=if z%(m:Int)≥(h:Int) then z%(m:Int)-(m:Int) else z%(m:Int):=by
 cases z with
 |ofNat n=>
  show(bif Nat.blt n h then Int.ofNat n else sgn m h (n%m))=_
  have e:(Int.ofNat n)%(m:Int)=((n%m:Nat):Int):=rfl;rw[e];by_cases hn:n<h
  ·rw[yB hn];rw[ZG (by omega),if_neg (by omega)];rfl
  ·rw[zT hn];exact C1 m h _ (UI _ hm) (by omega)
 |negSucc n=>
  show(bif Nat.blt n h then Int.negSucc n else sgn m h (m-1-n%m))=_
  have e:=pS m hm (Int.negSucc n);have a:kV m (Int.negSucc n)=((m-1-n%m:Nat):Int):=rfl;rw[a] at e;rw[←e];have hlt:=UI n hm;by_cases hn:n<h
  ·rw[yB hn];rw[ZG (by omega),if_pos (by omega)];show Int.negSucc n=_;rw[Wv];omega
  ·rw[zT hn];exact C1 m h _ (by omega) (by omega)
theorem K3(k:IntKind)(z:Int):jv k z=k.wrap z:=by
 cases k
 all_goals first
  |exact(xO _ _ (by decide) (by decide) z).trans (by unfold IntKind.wrap IntKind.signed IntKind.bits;simp)
  |exact(pS _ (by decide) z).trans (by unfold IntKind.wrap IntKind.signed IntKind.bits;simp)
def ilt(a b:Int):Bool:=Int.casesOn a (fun m=>Int.casesOn b (fun n=>Nat.blt m n) (fun _=>false)) (fun m=>Int.casesOn b (fun _=>true) (fun n=>Nat.blt n m))
theorem kn(a b:Int):ilt a b=decide (a<b):=by
 cases a<;>cases b
 ·rename_i m n;show Nat.blt m n=_;rw[sg];simp only[Wx,Int.ofNat_lt]
 ·rename_i m n;show false=_;symm;rw[decide_eq_false_iff_not,Wv];simp only[Wx];omega
 ·rename_i m n;show true=_;symm;rw[decide_eq_true_iff,Wv];simp only[Wx];omega
 ·rename_i m n;show Nat.blt n m=_;rw[sg,Wv,Wv];apply decide_eq_decide.2;omega
def ieq(a b:Int):Bool:=Int.casesOn a (fun m=>Int.casesOn b (fun n=>Nat.beq m n) (fun _=>false)) (fun m=>Int.casesOn b (fun _=>false) (fun n=>Nat.beq m n))
theorem vy(a b:Int):ieq a b=decide (a=b):=by
 cases a<;>cases b
 ·rename_i m n;show Nat.beq m n=_;rw[yc];apply decide_eq_decide.2;simp only[Wx,Int.negSucc.injEq];omega
 ·rename_i m n;show false=_;symm;rw[decide_eq_false_iff_not];simp
 ·rename_i m n;show false=_;symm;rw[decide_eq_false_iff_not];simp
 ·rename_i m n;show Nat.beq m n=_;rw[yc];apply decide_eq_decide.2;simp only[Wx,Int.negSucc.injEq]
def cv:Value→AV
 |.bool x=> .b x
 |.int k n=> .i k n
 |.string s=> .s (s.data.toList.map UInt8.toNat)
 |.pointer none=> .np
 |.slice none 0 0=> .ns
 |.nilFunc=> .nf
 |.nilIface=> .nif
 |.map none=> .nm
 |_=> .u
def szOf(P:Program)(t:TypeId):Option Nat:=(Zf P t).map fun p=>p.2.1
def byOf(P:Program)(t:TypeId):Option Nat:=(Zf P t).map fun p=>p.2.2
def zcOf(P:Program)(t:TypeId):Option (List AV):=(Zf P t).map fun p=>p.1.cells.toList.map cv
def slOf(P:Program)(t:TypeId):Option TypeId:=match P.underlying t with|some (.slice e)=>some e|_=>none
def lC(P:Program)(t:TypeId):Option IntKind:=match P.underlying t with|some (.int k)=>some k|_=>none
def X4(P:Program)(t:TypeId):Bool:=match P.underlying t with|some .string=>true|_=>false
def rF(P:Program)(t:TypeId):Bool:=match P.underlying t with|some .bool=>true|_=>false
def uS(P:Program)(t:TypeId):Bool:=match P.underlying t with|some (.pointer _)=>true|_=>false
def isSl(P:Program)(t:TypeId):Bool:=match P.underlying t with|some (.slice _)=>true|_=>false
def isFn(P:Program)(t:TypeId):Bool:=match P.underlying t with|some (.func _ _ _)=>true|_=>false
def pZ(P:Program)(t:TypeId):Bool:=match P.underlying t with|some .unsafePointer=>true|_=>false
def rP(P:Program)(t:TypeId):Option TypeId:=match P.underlying t with|some (.pointer e)=>some e|_=>none
def mE(P:Program)(t:TypeId):Bool:=match P.underlying t with|some (.map _ _)=>true|_=>false
def isIf(P:Program)(t:TypeId):Bool:=match P.underlying t with|some (.interface _)=>true|_=>false
def iB(P:Program)(t:TypeId):Option (List (Nat×Nat)):=match P.underlying t with
 |some (.struct fs)=>fs.toList.mapM fun f=>(P.info? f.type).map fun i=>(f.offset,i.size)
 |_=>none
inductive LK|one|agg (sz:Nat)|no
def lkOf(P:Program)(t:TypeId):LK:=bif Yo P t then .one else match szOf P t with
 |some sz=>bif V8 P t sz then .agg sz else .no
 |none=> .no
def zvOf(P:Program)(t:TypeId):Option AV:=(Zf P t).map fun p=>match p.1 with
 |.agg cs=> .ag (cs.toList.map cv)
 |v=>cv v
def nF(P:Program)(t:TypeId):Option (Nat×TypeId):=match P.underlying t with|some (.array n e)=>some (n,e)|_=>none
def nS(P:Program)(t:TypeId):Option (TypeId×TypeId):=match P.underlying t with|some (.map k e)=>some (k,e)|_=>none
def xz(P:Program)(t:TypeId):Bool:=(nF P t).isSome
def qW(P:Program)(s:TypeId)(i:Nat):Option (TypeId×Nat):=match P.underlying s with
 |some (.struct fs)=>(fs[i]?).map fun f=>(f.type,f.offset)
 |_=>none
def opd(f:Fr)(o:Operand):AV:=
 Operand.rec (fun t=>Bool.rec .u (getF t f) (Nat.ble (Nat.succ t) 4096)) cv (fun g=> .gp g 0) (fun k=> .fn k []) o
def opds(f:Fr)(l:List Operand):List AV:=List.rec [] (fun o _ ih=>opd f o::ih) l
def getB{α:Type}(h:Hp)(id:Nat)(k:Blk→α)(no:α):α:=Bool.rec no (Option.rec no (fun b=>Ob.rec (k b) (fun _ _=>no) (fun _ _=>no) (fun _ _ _ _=>no) no (fun _ _ _ _ _ _=>no) b.ob) (get5 id h.t)) (Nat.blt id h.n)
def getM{α:Type}(h:Hp)(id:Nat)(k:List En→Nat→α)(no:α):α:=Bool.rec no (Option.rec no (fun b=>Ob.rec no k (fun _ _=>no) (fun _ _ _ _=>no) no (fun _ _ _ _ _ _=>no) b.ob) (get5 id h.t)) (Nat.blt id h.n)
def getG{α:Type}(h:Hp)(id:Nat)(k:List AV→α)(no:α):α:=Bool.rec no (Option.rec no (fun b=>Ob.rec no (fun _ _=>no) (fun _ _=>no) (fun _ _ _ _=>no) (k b.cs) (fun _ _ _ _ _ _=>no) b.ob) (get5 id h.t)) (Nat.blt id h.n)
def getL{α:Type}(h:Hp)(id:Nat)(k:Bool→Nat→List Tmp→Code→Code→TF AV→α)(no:α):α:=Bool.rec no (Option.rec no (fun b=>Ob.rec no (fun _ _=>no) (fun _ _=>no) (fun _ _ _ _=>no) no k b.ob) (get5 id h.t)) (Nat.blt id h.n)
def getO{α:Type}(h:Hp)(id:Nat)(k:Ob→α)(no:α):α:=Bool.rec no (Option.rec no (fun b=>k b.ob) (get5 id h.t)) (Nat.blt id h.n)
def newB(h:Hp)(b:Blk)(k:Nat→Hp→Res):Res:=Bool.rec (.no 30) (fz (Nat.succ h.n) fun n'=>k h.n ⟨set5 h.n (some b) h.t,n'⟩) (Nat.blt h.n big5)
def putB(h:Hp)(id:Nat)(b:Option Blk):Hp:=⟨set5 id b h.t,h.n⟩
def scal:AV→Bool
 |.u | .ag _ | .tp _=>false
 |_=>true
def Va(l:List AV):Bool:=List.rec true (fun a _ ih=>bif scal a then ih else false) l
def Zn:AV→Option (List AV)
 |.u | .tp _=>none
 |.ag l=>some l
 |v=>some [v]
def jj{α:Type}(v:AV)(k:Nat→α)(no:α):α:=match v with
 |.i _ n=>Int.rec k (fun _=>no) n
 |_=>no
section
variable (P:Program)
def mj(x:Operand)(f:Fr)(h:Hp):Res:= .ok (opd f x) h
def yl(c a b:Operand)(f:Fr)(h:Hp):Res:=match opd f c with
 |.b t=>Bool.rec (.ok (opd f b) h) (.ok (opd f a) h) t
 |_=> .no 2
def iq(e:TypeId)(_:Fr)(h:Hp):Res:=match zcOf P e with
 |some l=>newB h ⟨e,true,false,l,.row⟩ fun id h=> .ok (.p id 0) h
 |none=> .no 3
def lk(e:TypeId)(x:Operand)(f:Fr)(h:Hp):Res:=match Zn (opd f x) with
 |some l=>newB h ⟨e,true,false,l,.row⟩ fun id h=> .ok (.p id 0) h
 |none=> .no 4
def jx(place:Nat→Option (Nat×Nat))(f:Fr)(l:List (Nat×Operand)):List AV→(List AV→Res)→Res:=
 List.rec (fun cs k=>k cs) (fun p _ ih cs k=>match place p.1 with
  |none=> .no 5
  |some q=>match Zn (opd f p.2) with
   |none=> .no 5
   |some vs=>Bool.rec (.no 5) (putK cs q.1 vs fun cs'=>ih cs' k) (Nat.beq (len vs) q.2)) l
def V9(t:TypeId)(ps:Array (Nat×Operand))(f:Fr)(h:Hp):Res:=match iB P t,zcOf P t with
 |some pl,some z=>jx (nth pl) f ps.toList z fun cs=> .ok (.ag cs) h
 |_,_=> .no 5
def Yq(t:TypeId)(n:Nat)(ps:Array (Nat×Operand))(f:Fr)(h:Hp):Res:=match slOf P t with
 |none=> .no 6
 |some e=>match szOf P e,zcOf P e with
  |some sz,some z=>Bool.rec (.no 6) (jx (fun i=>some (Nat.mul i sz,sz)) f ps.toList (repl n z) fun cs=>newB h ⟨e,true,false,cs,.row⟩ fun id h=> .ok (.sl id 0 n sz (some n)) h)
    (Nat.blt 0 sz&&Nat.ble (Nat.mul n sz) 16777216&&Nat.beq (len z) sz)
  |_,_=> .no 6
def Q1(t:TypeId)(a:Operand)(f:Fr)(h:Hp):Res:=match opd f a with
 |.p id off=>getB h id (fun b=>match lkOf P t with
   |.one=>match nth b.cs off with
    |some v=> .ok v h
    |none=> .no 8
   |.agg sz=>tkK (dr b.cs off) sz fun l=> .ok (.ag l) h
   |.no=> .no 8) (.no 8)
 |.gp g off=>getG h g (fun cs=>match lkOf P t with
   |.one=>match nth cs off with
    |some v=> .ok v h
    |none=> .no 8
   |.agg sz=>tkK (dr cs off) sz fun l=> .ok (.ag l) h
   |.no=> .no 8) (.no 8)
 |_=> .no 7
def wrB(h:Hp)(id:Nat)(off:Nat)(vs:List AV)(k:Hp→Res):Res:=
 getB h id (fun b=>Bool.rec (.no 201) (Bool.rec (.no 202) (putK b.cs off vs fun cs=>k (putB h id (some ⟨b.ty,b.ex,false,cs,.row⟩))) (Va vs)) (!b.ro)) (.no 9)
def Qs(t:TypeId)(a x:Operand)(f:Fr)(h:Hp):Res:=match opd f a with
 |.p id off=>match Zn (opd f x) with
  |some vs=>match szOf P t with
   |some sz=>Bool.rec (.no 11) (wrB h id off vs fun h=> .ok .u h) (Nat.beq (len vs) sz)
   |none=> .no 11
  |none=> .no 11
 |_=> .no 9
def Y6(x:Operand)(f:Fr)(h:Hp):Res:=match opd f x with
 |.p id off=> .ok (.p id off) h
 |.fn k c=> .ok (.fn k c) h
 |.gp g off=> .ok (.gp g off) h
 |_=> .no 12
def bAdd(x y:AV)(h:Hp):Res:=match x,y with
 |.i k a,.i k' b=>Bool.rec (.no 13) (okI k (jv k (Int.add a b)) h) (ikEq k k')
 |.s a,.s b=>Bool.rec (.no 13) (appK a b fun l=> .ok (.s l) h) (Nat.blt (Nat.add (len a) (len b)) 1000000)
 |_,_=> .no 13
def bSub(x y:AV)(h:Hp):Res:=match x,y with
 |.i k a,.i k' b=>Bool.rec (.no 13) (okI k (jv k (Int.sub a b)) h) (ikEq k k')
 |_,_=> .no 13
def bMul(x y:AV)(h:Hp):Res:=match x,y with
 |.i k a,.i k' b=>Bool.rec (.no 13) (okI k (jv k (Int.mul a b)) h) (ikEq k k')
 |_,_=> .no 13
def bQuo(x y:AV)(h:Hp):Res:=match x,y with
 |.i k a,.i k' b=>Bool.rec (.no 13) (okI k (jv k (Int.tdiv a b)) h) (ikEq k k' && !ieq b 0)
 |_,_=> .no 13
def bRem(x y:AV)(h:Hp):Res:=match x,y with
 |.i k a,.i k' b=>Bool.rec (.no 13) (okI k (Int.tmod a b) h) (ikEq k k' && !ieq b 0)
 |_,_=> .no 13
def bShl(x y:AV)(h:Hp):Res:=match x,y with
 |.i k a,.i _ b=>Bool.rec (.no 13) (okI k (jv k (Int.mul a (Int.ofNat (Nat.pow 2 (Nat.min b.toNat k.bits))))) h) (!ilt b 0)
 |_,_=> .no 13
def bShr(x y:AV)(h:Hp):Res:=match x,y with
 |.i k a,.i _ b=>Bool.rec (.no 13) (okI k (Int.ediv a (Int.ofNat (Nat.pow 2 (Nat.min b.toNat k.bits)))) h) (!ilt b 0)
 |_,_=> .no 13
def Vr(g:Nat→Nat→Nat)(x y:AV)(h:Hp):Res:=match x,y with
 |.i k a,.i k' b=>Bool.rec (.no 13) (Int.rec (fun m=>Int.rec (fun n=>okI k (jv k (Int.ofNat (g (Nat.mod m (Nat.pow 2 k.bits)) (Nat.mod n (Nat.pow 2 k.bits))))) h) (fun _=> .no 13) b) (fun _=> .no 13) a) (ikEq k k')
 |_,_=> .no 13
def leqL(a:List Nat):List Nat→Bool:=List.rec (fun b=>List.rec true (fun _ _ _=>false) b) (fun x _ ih b=>List.rec false (fun y t _=>Bool.rec false (ih t) (Nat.beq x y)) b) a
def ltL(a:List Nat):List Nat→Bool:=List.rec (fun b=>List.rec false (fun _ _ _=>true) b) (fun x _ ih b=>List.rec false (fun y t _=>Bool.rec (Bool.rec false (ih t) (Nat.beq x y)) true (Nat.blt x y)) b) a
def zy(t:TypeId)(cs:List AV)(off:Nat):Option AV:=match lkOf P t with
 |.one=>nth cs off
 |.agg sz=>some (.ag (tk (dr cs off) sz))
 |.no=>none
def andO(a:Option Bool)(k:Option Bool):Option Bool:=Option.rec none (fun b=>Bool.rec (some false) k b) a
def ry{α:Type}(t:TypeId)(xs ys:List AV)(off:Nat)(k:AV→AV→α)(no:α):α:=match zy P t xs off with
 |some a=>(match zy P t ys off with
  |some b=>k a b
  |none=>no)
 |none=>no
def eqFs(ih:TypeId→AV→AV→Option Bool)(xs ys:List AV)(fs:List Field):Option Bool:=
 List.rec (some true) (fun f _ r=>Bool.rec (ry P f.type xs ys f.offset (fun a b=>andO (ih f.type a b) r) none) r (f.name == "_")) fs
def eqAr(ih:AV→AV→Option Bool)(e sz:Nat)(xs ys:List AV)(n:Nat):Nat→Option Bool:=
 Nat.rec (fun _=>some true) (fun _ r off=>ry P e xs ys off (fun a b=>andO (ih a b) (fz (Nat.add off sz) r)) none) n
def eqT1(ih:TypeId→AV→AV→Option Bool)(t:TypeId)(x y:AV):Option Bool:=match P.underlying t with
 |some (.int _)=>(match x,y with
  |.i k a,.i k' b=>Bool.rec none (some (ieq a b)) (ikEq k k')
  |_,_=>none)
 |some .string=>(match x,y with
  |.s a,.s b=>some (leqL a b)
  |_,_=>none)
 |some .bool=>(match x,y with
  |.b a,.b b=>some (a==b)
  |_,_=>none)
 |some (.struct fs)=>(match x,y with
  |.ag xs,.ag ys=>Bool.rec (eqFs P ih xs ys fs.toList) none (P.stoodInHeld t)
  |_,_=>none)
 |some (.array n e)=>(match x,y with
  |.ag xs,.ag ys=>Option.rec none (fun sz=>eqAr P (ih e) e sz xs ys n 0) (szOf P e)
  |_,_=>none)
 |_=>none
def eqT(d:Nat):TypeId→AV→AV→Option Bool:=Nat.rec (fun _ _ _=>none) (fun _ ih=>eqT1 P ih) d
def Kr(t:TypeId)(x:AV):Bool:=match P.underlying t,x with
 |some (.int _),.i _ _=>true
 |some .string,.s _=>true
 |some .bool,.b _=>true
 |_,_=>false
def td(xs:List AV)(fs:List Field):Bool:=List.rec true (fun f _ r=>Option.rec false (fun a=>Bool.rec false r (Kr P f.type a)) (zy P f.type xs f.offset)) fs
def xu(t:TypeId)(x:AV):Bool:=match P.underlying t,x with
 |some (.struct fs),.ag xs=>td P xs fs.toList
 |some (.int _),.i _ _=>true
 |some .string,.s _=>true
 |some .bool,.b _=>true
 |_,_=>false
def eqV(c:Bool)(t:TypeId)(x y:AV):Option Bool:=match x,y with
 |.i k a,.i k' b=>Bool.rec none (some (ieq a b)) (ikEq k k')
 |.b a,.b b=>Bool.rec none (some (a==b)) (rF P t)
 |.s a,.s b=>some (leqL a b)
 |.np,.np=>Bool.rec none (some true) (uS P t)
 |.np,.p _ _=>Bool.rec none (some false) (uS P t)
 |.p _ _,.np=>Bool.rec none (some false) (uS P t)
 |.ns,.ns=>Bool.rec none (some true) (isSl P t)
 |.ns,.sl _ _ _ _ _=>Bool.rec none (some false) (isSl P t)
 |.sl _ _ _ _ _,.ns=>Bool.rec none (some false) (isSl P t)
 |.nf,.nf=>Bool.rec none (some true) (isFn P t)
 |.nf,.fn _ _=>Bool.rec none (some false) (isFn P t)
 |.fn _ _,.nf=>Bool.rec none (some false) (isFn P t)
 |.nif,.nif=>Bool.rec none (some true) (isIf P t&&c)
 |.nif,.ifc _ _=>Bool.rec none (some false) (isIf P t)
 |.ifc _ _,.nif=>Bool.rec none (some false) (isIf P t)
 |.nm,.nm=>Bool.rec none (some true) (mE P t)
 |.nm,.mp _=>Bool.rec none (some false) (mE P t)
 |.mp _,.nm=>Bool.rec none (some false) (mE P t)
 |.p i o,.p j q=>Bool.rec none (some true) (((rP P t).bind P.info?).isSome&&Nat.beq i j&&Nat.beq o q)
 |.ag _,.ag _=>Bool.rec none (eqT P 4 t x y) (!P.eqGuardType P.depth t)
 |_,_=>none
def bEql(c:Bool)(t:TypeId)(x y:AV)(h:Hp):Res:=match eqV P c t x y with
 |some b=>okB b h
 |none=> .no 14
def bNeq(c:Bool)(t:TypeId)(x y:AV)(h:Hp):Res:=match eqV P c t x y with
 |some b=>okB (!b) h
 |none=> .no 14
def bLss(x y:AV)(h:Hp):Res:=match x,y with
 |.i k a,.i k' b=>Bool.rec (.no 13) (okB (ilt a b) h) (ikEq k k')
 |.s a,.s b=>okB (ltL a b) h
 |_,_=> .no 13
def bLeq(x y:AV)(h:Hp):Res:=match x,y with
 |.i k a,.i k' b=>Bool.rec (.no 13) (okB (!ilt b a) h) (ikEq k k')
 |_,_=> .no 13
def bGtr(x y:AV)(h:Hp):Res:=match x,y with
 |.i k a,.i k' b=>Bool.rec (.no 13) (okB (ilt b a) h) (ikEq k k')
 |_,_=> .no 13
def bGeq(x y:AV)(h:Hp):Res:=match x,y with
 |.i k a,.i k' b=>Bool.rec (.no 13) (okB (!ilt a b) h) (ikEq k k')
 |_,_=> .no 13
def Z6:Operand→Bool
 |.const _=>true
 |_=>false
def mz(op:BinOp)(t:TypeId)(x y:Operand)(f:Fr)(h:Hp):Res:=(match op with
 |.add=>bAdd | .sub=>bSub | .mul=>bMul | .quo=>bQuo | .rem=>bRem | .shl=>bShl | .shr=>bShr
 |.andNot=>Vr (fun m n=>Nat.xor m (Nat.land m n)) | .and=>Vr Nat.land | .or=>Vr Nat.lor | .xor=>Vr Nat.xor
 |.eql=>bEql P (Z6 x||Z6 y) t | .neq=>bNeq P (Z6 x||Z6 y) t | .lss=>bLss | .leq=>bLeq | .gtr=>bGtr | .geq=>bGeq) (opd f x) (opd f y) h
def evUn(op:UnOp)(x:Operand)(f:Fr)(h:Hp):Res:=match op,opd f x with
 |.not,.b t=>okB (!t) h
 |.neg,.i k a=>okI k (jv k (Int.sub 0 a)) h
 |.xor,.i k a=>okI k (jv k (Int.sub (Int.negSucc 0) a)) h
 |_,_=> .no 16
def AF(l:List Nat):List AV:=List.rec [] (fun c _ ih=> .i .u8 (Int.ofNat c)::ih) l
def s3(l:List AV):(List Nat→Res)→Res:=List.rec (fun k=>k []) (fun a _ ih k=>match a with
 |.i .u8 n=>Int.rec (fun c=>Bool.rec (.no 17) (ih fun l'=>k (c::l')) (Nat.blt c 256)) (fun _=> .no 17) n
 |_=> .no 17) l
def mA(P:Program)(e:TypeId):Bool:=(match lC P e with|some .u8=>true|_=>false)&&(match szOf P e with|some 1=>true|_=>false)
def Cu(P:Program)(t:TypeId):Bool:=match slOf P t with|some e=>mA P e|none=>false
def Qu(s d:TypeId)(x:Operand)(f:Fr)(h:Hp):Res:=match opd f x with
 |.i _ a=>match lC P d with
  |some j=>Bool.rec (.no 17) (okI j (jv j a) h) (P.underlying s).isSome
  |none=> .no 17
 |.s l=>Bool.rec (.no 17) (.ok (.s l) h) (X4 P d&&X4 P s)
 |_=> .no 17
def toUnsOk(s d:TypeId)(off n:Nat):Bool:=pZ P d&&Nat.blt off n&&(match (rP P s).bind (szOf P) with|some sz=>Nat.blt 0 sz|none=>false)
def ofUnsOk(s d:TypeId)(b:Blk)(off:Nat):Bool:=pZ P s&&b.ex&&(match rP P d with
   |some u=>(P.info? u).isSome&&liesAt P P.depth b.ty (Nat.div (len b.cs) (P.cellsOf b.ty)) off u 1
   |none=>false)
def jN(s d:TypeId)(x:Operand)(f:Fr)(h:Hp):Res:=let _p:=P;.no 999
def jT(s d:TypeId)(x:Operand)(f:Fr)(h:Hp):Res:=let _p:=P;.no 999
def cvKd(s d:TypeId):Nat:=bif (lC P d).isSome||(X4 P d&&X4 P s) then 0 else bif X4 P d||pZ P d||pZ P s then 1 else bif X4 P s then 2 else 3
def j7(s d:TypeId)(x:Operand)(f:Fr)(h:Hp):Res:=match cvKd P s d with
 |0=>Qu P s d x f h
 |1=>jN P s d x f h
 |2=>jT P s d x f h
 |_=> .no 17
def Yy(t:TypeId)(l c:Operand)(f:Fr)(h:Hp):Res:=match slOf P t with
 |none=> .no 18
 |some e=>match szOf P e,zcOf P e with
  |some sz,some z=>jj (opd f l) (fun n=>jj (opd f c) (fun m=>fz n fun n=>fz m fun m=>
    Bool.rec (.no 18) (appK (repl m z) [] fun cs=>newB h ⟨e,true,false,cs,.row⟩ fun id h=> .ok (.sl id 0 n sz (some m)) h)
     (Nat.blt 0 sz&&Nat.ble n m&&Nat.ble m 65536&&Nat.beq (len z) sz&&Nat.ble ((byOf P e).getD 4294967296) 65536)) (.no 18)) (.no 18)
  |_,_=> .no 18
def bnd{α:Type}(f:Fr)(o:Option Operand)(d:Nat)(k:Nat→α)(no:α):α:=match o with
 |none=>k d
 |some x=>jj (opd f x) (fun n=>fz n k) no
def K4(t:TypeId)(x:Operand)(lo hi mx:Option Operand)(f:Fr)(h:Hp):Res:=match mx with
 |some _=> .no 19
 |none=>match opd f x with
  |.s l=>Bool.rec (.no 19) (bnd f hi (len l) (fun j=>bnd f lo 0 (fun i=>Bool.rec (.no 19) (.ok (.s (dr (tk l j) i)) h) (Nat.ble i j&&Nat.ble j (len l))) (.no 19)) (.no 19)) (X4 P t)
  |.ns=>Bool.rec (.no 19) (bnd f hi 0 (fun j=>bnd f lo 0 (fun i=>Bool.rec (.no 19) (.ok .ns h) (Nat.beq i 0&&Nat.beq j 0)) (.no 19)) (.no 19)) (isSl P t&&((slOf P t).bind (szOf P)).isSome)
  |.sl id off n z cap=>match (slOf P t).bind (szOf P) with
   |none=> .no 19
   |some sz=>bnd f hi n (fun j=>bnd f lo 0 (fun i=>Bool.rec (.no 19)
     (match cap with
      |some c=>Bool.rec (.no 19) (Bool.rec (fz (Nat.add off (Nat.mul i z)) fun o=>fz (Nat.sub j i) fun n'=>fz (Nat.sub c i) fun c'=> .ok (.sl id o n' z (some c')) h) (.ok (.sl id off 0 z (some 0)) h) (Nat.beq c i)) (Nat.ble j c)
      |none=>Bool.rec (.no 19) (Bool.rec (fz (Nat.add off (Nat.mul i z)) fun o=>fz (Nat.sub j i) fun n'=> .ok (.sl id o n' z none) h) (.ok .z0 h) (Nat.beq n i)) (Nat.ble j n))
     (Nat.ble i j&&Nat.beq sz z)) (.no 19)) (.no 19)
  |_=> .no 19
def jf(t:TypeId)(x:Operand)(lo hi mx:Option Operand)(f:Fr)(h:Hp):Res:=match mx with
 |some _=> .no 19
 |none=>match opd f x with
  |.p id off=>(match nF P t with
   |none=> .no 19
   |some p=>(match szOf P p.2 with
    |none=> .no 19
    |some sz=>getB h id (fun b=>bnd f hi p.1 (fun j=>bnd f lo 0 (fun i=>Bool.rec (.no 19)
      (Bool.rec (fz (Nat.add off (Nat.mul i sz)) fun o=>fz (Nat.sub j i) fun n'=>fz (Nat.sub p.1 i) fun c'=> .ok (.sl id o n' sz (some c')) h) (.ok (.sl id off 0 sz (some 0)) h) (Nat.beq p.1 i))
      (Nat.ble i j&&Nat.ble j p.1&&Nat.ble p.1 1000000&&Nat.ble (Nat.add off (Nat.mul p.1 sz)) (len b.cs))) (.no 19)) (.no 19)) (.no 19)))
  |_=> .no 19
def Qx(t:TypeId)(x:Operand)(lo hi mx:Option Operand)(f:Fr)(h:Hp):Res:=Bool.rec (K4 P t x lo hi mx f h) (jf P t x lo hi mx f h) (xz P t)
def Yp(s:TypeId)(x:Operand)(i:Nat)(f:Fr)(h:Hp):Res:=match opd f x with
 |.p id off=>match Ye P s i with
  |some o=>fz (Nat.add off o) fun o=> .ok (.p id o) h
  |none=> .no 23
 |.gp id off=>(match Ye P s i with
  |some o=>fz (Nat.add off o) fun o=> .ok (.gp id o) h
  |none=> .no 23)
 |_=> .no 23
def Zz(t:TypeId)(x i:Operand)(f:Fr)(h:Hp):Res:=match opd f x with
 |.sl id off n z _=>match (slOf P t).bind (szOf P) with
  |none=> .no 24
  |some sz=>jj (opd f i) (fun j=>Bool.rec (.no 24) (fz (Nat.add off (Nat.mul j z)) fun o=> .ok (.p id o) h) (Nat.blt j n&&Nat.beq sz z)) (.no 24)
 |.p id off=>(match nF P t with
  |none=> .no 24
  |some p=>(match szOf P p.2 with
   |none=> .no 24
   |some sz=>jj (opd f i) (fun j=>Bool.rec (.no 24) (fz (Nat.add off (Nat.mul j sz)) fun o=> .ok (.p id o) h) (Nat.blt j p.1&&Nat.blt 0 sz)) (.no 24)))
 |.gp id off=>(match nF P t with
  |none=> .no 24
  |some p=>(match szOf P p.2 with
   |none=> .no 24
   |some sz=>jj (opd f i) (fun j=>Bool.rec (.no 24) (fz (Nat.add off (Nat.mul j sz)) fun o=> .ok (.gp id o) h) (Nat.blt j p.1&&Nat.blt 0 sz)) (.no 24)))
 |_=> .no 24
def Xr(t:TypeId)(x i:Operand)(f:Fr)(h:Hp):Res:=match opd f x with
 |.s l=>Bool.rec (.no 25) (jj (opd f i) (fun j=>match nth l j with
   |some c=> .ok (.i .u8 (Int.ofNat c)) h
   |none=> .no 25) (.no 25)) (X4 P t)
 |.ag cs=>(match nF P t with
  |none=> .no 25
  |some p=>(match szOf P p.2 with
   |none=> .no 25
   |some sz=>jj (opd f i) (fun j=>Bool.rec (.no 25) (match zy P p.2 cs (Nat.mul j sz) with
    |some v=> .ok v h
    |none=> .no 25) (Nat.blt j p.1)) (.no 25)))
 |_=> .no 25
def Kn(x:Operand)(i:Nat)(f:Fr)(h:Hp):Res:=match opd f x with
 |.tp l=>match nth l i with
  |some v=> .ok v h
  |none=> .no 26
 |_=> .no 26
def Ki(fn:Fn)(first cap:Array Operand)(f:Fr)(h:Hp):Res:=match fn with
 |.func k=>match first.toList with
  |[]=> .ok (.fn k (opds f cap.toList)) h
  |_=> .no 27
 |_=> .no 27
def va(kt:TypeId)(k:AV)(es:List En):Nat→Option (Option (Nat×En)):=
 List.rec (fun _=>some none) (fun e _ ih i=>match eqT P 4 kt k e.k with
  |none=>none
  |some b=>Bool.rec (ih (Nat.succ i)) (some (some (i,e))) b) es
def Mz{α:Type}(l:List α)(x:α)(k:List α→Res):Res:=appK l [x] k
def setE(es:List En):Nat→AV→(List En→Res)→Res:=
 List.rec (fun _ _ _=> .no 150) (fun e t ih i v k=>Nat.rec (k (⟨e.k,v,e.b⟩::t)) (fun m _=>ih m v fun t'=>k (e::t')) i) es
def mapK{α:Type}(h:Hp)(x:AV)(k:List En→Nat→α)(no:α):α:=match x with
 |.nm=>k [] 0
 |.mp id=>getM h id k no
 |_=>no
def mapB(es:List En)(c:Nat):Option Blk:=some ⟨0,true,false,[],.map es c⟩
def itB(o:Ob):Blk:=⟨0,true,false,[],o⟩
def Xi(t:TypeId)(r:Option Operand)(f:Fr)(h:Hp):Res:=match r with
 |none=>newB h (itB (.map [] 0)) fun id h=> .ok (.mp id) h
 |some x=>(match opd f x with
  |.i _ _=>Bool.rec (.no 151) (newB h (itB (.map [] 0)) fun id h=> .ok (.mp id) h) (nS P t).isSome
  |_=> .no 151)
def X3(t:TypeId)(x i:Operand)(ok:Bool)(f:Fr)(h:Hp):Res:=match nS P t with
 |none=> .no 152
 |some p=>mapK h (opd f x) (fun es _=>Bool.rec (.no 153) (match va P p.1 (opd f i) es 0 with
   |none=> .no 154
   |some none=>(match zvOf P p.2 with
    |none=> .no 154
    |some z=> .ok (Bool.rec z (.tp [z,.b false]) ok) h)
   |some (some q)=> .ok (Bool.rec q.2.v (.tp [q.2.v,.b true]) ok) h) (xu P p.1 (opd f i))) (.no 155)
def E1(x y:AV):Bool:=match x,y with
 |.i k n,.i k' n'=>ikEq k k'&&ieq n n'
 |.b p,.b q=>p==q
 |.s l,.s m=>leqL l m
 |_,_=>false
def vN(a b:List AV):Bool:=List.rec (fun b=>List.rec true (fun _ _ _=>false) b) (fun x _ ih b=>List.rec false (fun y t _=>Bool.rec false (ih t) (E1 x y)) b) a b
def MX(a b:AV):Bool:=match a,b with
 |.ag l,.ag m=>vN l m
 |.ag _,_=>false
 |_,_=>true
def Zl(t:TypeId)(m k x:Operand)(f:Fr)(h:Hp):Res:=match nS P t with
 |none=> .no 156
 |some p=>(match opd f m with
  |.mp id=>getM h id (fun es c=>Bool.rec (.no 157) (match va P p.1 (opd f k) es 0 with
   |none=> .no 158
   |some none=>Mz es ⟨opd f k,opd f x,c⟩ fun es'=>fz (Nat.succ c) fun c'=> .ok .u (putB h id (mapB es' c'))
   |some (some q)=>Bool.rec (.no 157) (setE es q.1 (opd f x) fun es'=> .ok .u (putB h id (mapB es' c))) (MX (opd f k) q.2.k)) (xu P p.1 (opd f k))) (.no 159)
  |_=> .no 159)
def V0(t:TypeId)(x:Operand)(f:Fr)(h:Hp):Res:=match opd f x with
 |.s l=>Bool.rec (.no 163) (newB h (itB (.sit l 0)) fun id h=> .ok (.p id 0) h) (X4 P t)
 |.nm=>Bool.rec (.no 163) (newB h (itB (.mit none 0 [] 0)) fun id h=> .ok (.p id 0) h) (nS P t).isSome
 |.mp m=>Bool.rec (.no 163) (getM h m (fun _ c=>newB h (itB (.mit (some m) c [] c)) fun id h=> .ok (.p id 0) h) (.no 163)) (nS P t).isSome
 |_=> .no 163
def u6(id:Nat)(h:Hp)(l:List Nat)(pos:Nat):Res:=match nth l pos with
 |none=> .ok (.tp [.b false]) h
 |some c=>Bool.rec (.no 165) (fz (Nat.succ pos) fun q=> .ok (.tp [.b true,.i .i64 (Int.ofNat pos),.i .i32 (Int.ofNat c)]) (putB h id (some (itB (.sit l q))))) (Nat.blt c 128)
def um(h:Hp)(m:Nat):Res:=getM h m (fun es _=>match es with
 |[]=> .ok (.tp [.b false]) h
 |_=> .no 168) (.no 166)
def kd(it:Operand)(st:Bool)(f:Fr)(h:Hp):Res:=match opd f it with
 |.p id off=>Bool.rec (.no 164) (getO h id (fun o=>match o with
   |.sit l pos=>Bool.rec (.no 164) (u6 id h l pos) st
   |.mit none _ _ _=>Bool.rec (.ok (.tp [.b false]) h) (.no 164) st
   |.mit (some m) _ _ _=>Bool.rec (um h m) (.no 164) st
   |_=> .no 164) (.no 164)) (Nat.beq off 0)
 |_=> .no 164
def Q0(x:Operand)(at_:TypeId)(ok:Bool)(f:Fr)(h:Hp):Res:=let _p:=P;.no 999
def Xf(t:TypeId)(x:Operand)(f:Fr)(h:Hp):Res:=let _p:=P;.no 999
def X5(x:Operand)(f:Fr)(h:Hp):Res:=match opd f x with
 |.ifc t v=> .pn (.ifc t v) h
 |_=> .no 173
def Q4(s:TypeId)(x:Operand)(i:Nat)(f:Fr)(h:Hp):Res:=match opd f x with
 |.ag cs=>(match qW P s i with
  |none=> .no 174
  |some p=>(match zy P p.1 cs p.2 with
   |some v=> .ok v h
   |none=> .no 174))
 |_=> .no 174
def tL(ts:List TypeId)(l:List AV)(h:Hp):Res:=match ts,l with
 |[t],[.sl _ _ n _ _]=>Bool.rec (.no 28) (.ok (.i .i64 (Int.ofNat n)) h) (isSl P t)
 |[t],[.ns]=>Bool.rec (.no 28) (.ok (.i .i64 (Int.ofNat 0)) h) (isSl P t)
 |[t],[.z0]=>Bool.rec (.no 28) (.ok (.i .i64 (Int.ofNat 0)) h) (isSl P t)
 |[t],[.s l]=>Bool.rec (.no 28) (fz (len l) fun n=> .ok (.i .i64 (Int.ofNat n)) h) (X4 P t)
 |_,_=> .no 28
def oE(l:List AV)(h:Hp):Res:=match l with
 |[.nm]=> .ok (.i .i64 (Int.ofNat 0)) h
 |[.mp id]=>getM h id (fun es _=>fz (len es) fun n=> .ok (.i .i64 (Int.ofNat n)) h) (.no 28)
 |_=> .no 28
def ix(P:Program)(ts:List TypeId):Bool:=match ts with|[t]=>mE P t|_=>false
def minL(k:IntKind)(h:Hp)(l:List AV):Int→Res:=List.rec (fun a=> .ok (.i k a) h) (fun x _ ih a=>match x with
 |.i _ b=>Bool.rec (ih a) (ih b) (ilt b a)
 |_=> .no 29) l
def maxL(k:IntKind)(h:Hp)(l:List AV):Int→Res:=List.rec (fun a=> .ok (.i k a) h) (fun x _ ih a=>match x with
 |.i _ b=>Bool.rec (ih a) (ih b) (ilt a b)
 |_=> .no 29) l
def As(l:List AV)(h:Hp):Res:=match l with
 |.i k a::r=>minL k h r a
 |_=> .no 29
def yE(l:List AV)(h:Hp):Res:=match l with
 |.i k a::r=>maxL k h r a
 |_=> .no 29
def srcK(h:Hp)(sz:Nat)(x:AV)(k:Nat→List AV→Res):Res:=match x with
 |.sl id off n z _=>Bool.rec (.no 31) (getB h id (fun b=>tkK (dr b.cs off) (Nat.mul n z) (k n)) (.no 31)) (Nat.beq z sz&&Nat.blt 0 n)
 |.s l=>Bool.rec (.no 31) (fz (len l) fun n=>appK (AF l) [] (k n)) (Nat.beq sz 1&&Nat.blt 0 (len l))
 |_=> .no 31
def oi:AV→Bool
 |.ns | .z0 | .sl _ _ 0 _ _ | .s []=>true
 |_=>false
def rb(P:Program)(e:TypeId)(m n:Nat)(k:Nat→Res):Res:=fz (Nat.add m n) fun mn=>Bool.rec (.no 34) (k mn) (Nat.ble mn 1000000&&Nat.ble ((byOf P e).getD 4294967296) 65536)
def V2(P:Program)(e sz:Nat)(h:Hp)(m n:Nat)(us vs:List AV):Res:=
 rb P e m n fun mn=>appK us vs fun cs=>newB h ⟨e,false,false,cs,.row⟩ fun id' h=> .ok (.sl id' 0 mn sz none) h
def apTo(P:Program)(e sz:Nat)(h:Hp)(s:AV)(n:Nat)(vs:List AV):Res:=match s with
 |.ns=>V2 P e sz h 0 n [] vs
 |.sl id off m z cap=>Bool.rec (.no 33) (match cap with
  |some c=>Bool.rec
    (getB h id (fun b=>tkK (dr b.cs off) (Nat.mul m z) fun us=>V2 P e sz h m n us vs) (.no 33))
    (wrB h id (Nat.add off (Nat.mul m z)) vs fun h=>rb P e m n fun mn=> .ok (.sl id off mn sz (some c)) h) (Nat.ble (Nat.add m n) c)
  |none=>getB h id (fun b=>Bool.rec (.no 34) (tkK (dr b.cs off) (Nat.mul m z) fun us=>V2 P e sz (putB h id none) m n us vs) (!b.ro&&Va vs&&Nat.beq b.ty e)) (.no 34)) (Nat.beq z sz)
 |_=> .no 33
def jd(ts:List TypeId)(l:List AV)(h:Hp):Res:=match ts,l with
 |[t,t'],[s,x]=>match slOf P t with
  |none=> .no 32
  |some e=>match szOf P e,zcOf P e with
   |some sz,some zc=>Bool.rec (.no 32) (Bool.rec (srcK h sz x fun n vs=>apTo P e sz h s n vs) (match s with
     |.ns=> .ok s h
     |.sl _ _ _ _ _=> .ok s h
     |_=> .no 32) (oi x)) (Nat.blt 0 sz&&(Nat.beq t t'||X4 P t'&&mA P e)&&Nat.beq (len zc) sz)
   |_,_=> .no 32
 |_,_=> .no 32
def Dc(h:Hp)(sz n:Nat)(x:AV)(k:List AV→Res):Res:=match x with
 |.sl id off _ z _=>Bool.rec (.no 35) (getB h id (fun b=>tkK (dr b.cs off) (Nat.mul n z) k) (.no 35)) (Nat.beq z sz)
 |.s l=>Bool.rec (.no 35) (appK (AF (tk l n)) [] k) (Nat.beq sz 1)
 |_=> .no 35
def lenA{α:Type}(x:AV)(k:Nat→α)(no:α):α:=match x with
 |.sl _ _ n _ _=>k n
 |.ns=>k 0
 |.z0=>k 0
 |.s l=>fz (len l) k
 |_=>no
def NY:AV→Bool
 |.sl _ _ _ _ _ | .ns | .z0=>true
 |_=>false
def ti(ts:List TypeId)(l:List AV)(h:Hp):Res:=let _p:=P;.no 999
def EP(ts:List TypeId)(l:List AV)(h:Hp):Res:=let _p:=P;.no 999
def jA(l:List AV)(h:Hp):Res:= .no 999
def vV(ts:List TypeId)(l:List AV)(h:Hp):Res:=let _p:=P;.no 999
def xl(ts:List TypeId)(l:List AV)(h:Hp):Res:=Bool.rec (tL P ts l h) (oE l h) (ix P ts)
def Zi(b:Builtin)(ts:List TypeId)(l:List AV)(h:Hp):Res:=(match b with
 |.len=>xl P | .append=>jd P | .min=>fun _=>As | .max=>fun _=>yE | .copy=>ti P | .cap=>EP P | .unsafeSliceData=>fun _=>jA | .unsafeString=>vV P|_=>fun _ _ _=> .no 36) ts l h
def asB:AV→(Bool→Res)→Res→Res:=AV.rec (motive_1:=fun _=>(Bool→Res)→Res→Res) (motive_2:=fun _=>PUnit) (fun _ no=>no) (fun a0 k0 _=>k0 a0) (fun _ _ _ no=>no) (fun _ _ no=>no) (fun _ no=>no) (fun _ _ _ no=>no) (fun _ no=>no) (fun _ _ _ _ _ _ no=>no) (fun _ no=>no) (fun _ _ _ no=>no) (fun _ _ _ no=>no) (fun _ _ _ _ no=>no) (fun _ no=>no) (fun _ _ _ _ no=>no) (fun _ no=>no) (fun _ _ no=>no) (fun _ no=>no) (fun _ _ no=>no) (fun _ _ _ no=>no) ⟨⟩ (fun _ _ _ _=>⟨⟩)
def asI:AV→(IntKind→Int→Res)→Res→Res:=AV.rec (motive_1:=fun _=>(IntKind→Int→Res)→Res→Res) (motive_2:=fun _=>PUnit) (fun _ no=>no) (fun _ _ no=>no) (fun a0 a1 k0 _=>k0 a0 a1) (fun _ _ no=>no) (fun _ no=>no) (fun _ _ _ no=>no) (fun _ no=>no) (fun _ _ _ _ _ _ no=>no) (fun _ no=>no) (fun _ _ _ no=>no) (fun _ _ _ no=>no) (fun _ _ _ _ no=>no) (fun _ no=>no) (fun _ _ _ _ no=>no) (fun _ no=>no) (fun _ _ no=>no) (fun _ no=>no) (fun _ _ no=>no) (fun _ _ _ no=>no) ⟨⟩ (fun _ _ _ _=>⟨⟩)
def asIS:AV→(IntKind→Int→Res)→(List Nat→Res)→Res→Res:=AV.rec (motive_1:=fun _=>(IntKind→Int→Res)→(List Nat→Res)→Res→Res) (motive_2:=fun _=>PUnit) (fun _ _ no=>no) (fun _ _ _ no=>no) (fun a0 a1 k0 _ _=>k0 a0 a1) (fun a0 _ k1 _=>k1 a0) (fun _ _ no=>no) (fun _ _ _ _ no=>no) (fun _ _ no=>no) (fun _ _ _ _ _ _ _ no=>no) (fun _ _ no=>no) (fun _ _ _ _ no=>no) (fun _ _ _ _ no=>no) (fun _ _ _ _ _ no=>no) (fun _ _ no=>no) (fun _ _ _ _ _ no=>no) (fun _ _ no=>no) (fun _ _ _ no=>no) (fun _ _ no=>no) (fun _ _ _ no=>no) (fun _ _ _ _ no=>no) ⟨⟩ (fun _ _ _ _=>⟨⟩)
def asS:AV→(List Nat→Res)→Res→Res:=AV.rec (motive_1:=fun _=>(List Nat→Res)→Res→Res) (motive_2:=fun _=>PUnit) (fun _ no=>no) (fun _ _ no=>no) (fun _ _ _ no=>no) (fun a0 k0 _=>k0 a0) (fun _ no=>no) (fun _ _ _ no=>no) (fun _ no=>no) (fun _ _ _ _ _ _ no=>no) (fun _ no=>no) (fun _ _ _ no=>no) (fun _ _ _ no=>no) (fun _ _ _ _ no=>no) (fun _ no=>no) (fun _ _ _ _ no=>no) (fun _ no=>no) (fun _ _ no=>no) (fun _ no=>no) (fun _ _ no=>no) (fun _ _ _ no=>no) ⟨⟩ (fun _ _ _ _=>⟨⟩)
def asP:AV→(Nat→Nat→Res)→Res→Res:=AV.rec (motive_1:=fun _=>(Nat→Nat→Res)→Res→Res) (motive_2:=fun _=>PUnit) (fun _ no=>no) (fun _ _ no=>no) (fun _ _ _ no=>no) (fun _ _ no=>no) (fun _ no=>no) (fun a0 a1 k0 _=>k0 a0 a1) (fun _ no=>no) (fun _ _ _ _ _ _ no=>no) (fun _ no=>no) (fun _ _ _ no=>no) (fun _ _ _ no=>no) (fun _ _ _ _ no=>no) (fun _ no=>no) (fun _ _ _ _ no=>no) (fun _ no=>no) (fun _ _ no=>no) (fun _ no=>no) (fun _ _ no=>no) (fun _ _ _ no=>no) ⟨⟩ (fun _ _ _ _=>⟨⟩)
def asPG:AV→(Nat→Nat→Res)→(Nat→Nat→Res)→Res→Res:=AV.rec (motive_1:=fun _=>(Nat→Nat→Res)→(Nat→Nat→Res)→Res→Res) (motive_2:=fun _=>PUnit) (fun _ _ no=>no) (fun _ _ _ no=>no) (fun _ _ _ _ no=>no) (fun _ _ _ no=>no) (fun _ _ no=>no) (fun a0 a1 k0 _ _=>k0 a0 a1) (fun _ _ no=>no) (fun _ _ _ _ _ _ _ no=>no) (fun _ _ no=>no) (fun _ _ _ _ no=>no) (fun _ _ _ _ no=>no) (fun _ _ _ _ _ no=>no) (fun _ _ no=>no) (fun _ _ _ _ _ no=>no) (fun _ _ no=>no) (fun _ _ _ no=>no) (fun _ _ no=>no) (fun _ _ _ no=>no) (fun a0 a1 _ k1 _=>k1 a0 a1) ⟨⟩ (fun _ _ _ _=>⟨⟩)
def NQ:AV→(Nat→Nat→Nat→Nat→Option Nat→Res)→(Nat→Nat→Res)→(Nat→Nat→Res)→Res→Res:=AV.rec (motive_1:=fun _=>(Nat→Nat→Nat→Nat→Option Nat→Res)→(Nat→Nat→Res)→(Nat→Nat→Res)→Res→Res) (motive_2:=fun _=>PUnit) (fun _ _ _ no=>no) (fun _ _ _ _ no=>no) (fun _ _ _ _ _ no=>no) (fun _ _ _ _ no=>no) (fun _ _ _ no=>no) (fun a0 a1 _ k1 _ _=>k1 a0 a1) (fun _ _ _ no=>no) (fun a0 a1 a2 a3 a4 k0 _ _ _=>k0 a0 a1 a2 a3 a4) (fun _ _ _ no=>no) (fun _ _ _ _ _ no=>no) (fun _ _ _ _ _ no=>no) (fun _ _ _ _ _ _ no=>no) (fun _ _ _ no=>no) (fun _ _ _ _ _ _ no=>no) (fun _ _ _ no=>no) (fun _ _ _ _ no=>no) (fun _ _ _ no=>no) (fun _ _ _ _ no=>no) (fun a0 a1 _ _ k2 _=>k2 a0 a1) ⟨⟩ (fun _ _ _ _=>⟨⟩)
def Lt:AV→(List Nat→Res)→Res→(Nat→Nat→Nat→Nat→Option Nat→Res)→Res→Res:=AV.rec (motive_1:=fun _=>(List Nat→Res)→Res→(Nat→Nat→Nat→Nat→Option Nat→Res)→Res→Res) (motive_2:=fun _=>PUnit) (fun _ _ _ no=>no) (fun _ _ _ _ no=>no) (fun _ _ _ _ _ no=>no) (fun a0 k0 _ _ _=>k0 a0) (fun _ _ _ no=>no) (fun _ _ _ _ _ no=>no) (fun _ k1 _ _=>k1) (fun a0 a1 a2 a3 a4 _ _ k2 _=>k2 a0 a1 a2 a3 a4) (fun _ _ _ no=>no) (fun _ _ _ _ _ no=>no) (fun _ _ _ _ _ no=>no) (fun _ _ _ _ _ _ no=>no) (fun _ _ _ no=>no) (fun _ _ _ _ _ _ no=>no) (fun _ _ _ no=>no) (fun _ _ _ _ no=>no) (fun _ _ _ no=>no) (fun _ _ _ _ no=>no) (fun _ _ _ _ _ no=>no) ⟨⟩ (fun _ _ _ _=>⟨⟩)
def QI:AV→Res→(Nat→Nat→Nat→Nat→Option Nat→Res)→Res→Res:=AV.rec (motive_1:=fun _=>Res→(Nat→Nat→Nat→Nat→Option Nat→Res)→Res→Res) (motive_2:=fun _=>PUnit) (fun _ _ no=>no) (fun _ _ _ no=>no) (fun _ _ _ _ no=>no) (fun _ _ _ no=>no) (fun _ _ no=>no) (fun _ _ _ _ no=>no) (fun k0 _ _=>k0) (fun a0 a1 a2 a3 a4 _ k1 _=>k1 a0 a1 a2 a3 a4) (fun _ _ no=>no) (fun _ _ _ _ no=>no) (fun _ _ _ _ no=>no) (fun _ _ _ _ _ no=>no) (fun _ _ no=>no) (fun _ _ _ _ _ no=>no) (fun _ _ no=>no) (fun _ _ _ no=>no) (fun _ _ no=>no) (fun _ _ _ no=>no) (fun _ _ _ _ no=>no) ⟨⟩ (fun _ _ _ _=>⟨⟩)
def PU:AV→(Nat→Nat→Nat→Nat→Option Nat→Res)→Res→Res→(List Nat→Res)→Res→Res:=AV.rec (motive_1:=fun _=>(Nat→Nat→Nat→Nat→Option Nat→Res)→Res→Res→(List Nat→Res)→Res→Res) (motive_2:=fun _=>PUnit) (fun _ _ _ _ no=>no) (fun _ _ _ _ _ no=>no) (fun _ _ _ _ _ _ no=>no) (fun a0 _ _ _ k3 _=>k3 a0) (fun _ _ _ _ no=>no) (fun _ _ _ _ _ _ no=>no) (fun _ k1 _ _ _=>k1) (fun a0 a1 a2 a3 a4 k0 _ _ _ _=>k0 a0 a1 a2 a3 a4) (fun _ _ k2 _ _=>k2) (fun _ _ _ _ _ _ no=>no) (fun _ _ _ _ _ _ no=>no) (fun _ _ _ _ _ _ _ no=>no) (fun _ _ _ _ no=>no) (fun _ _ _ _ _ _ _ no=>no) (fun _ _ _ _ no=>no) (fun _ _ _ _ _ no=>no) (fun _ _ _ _ no=>no) (fun _ _ _ _ _ no=>no) (fun _ _ _ _ _ _ no=>no) ⟨⟩ (fun _ _ _ _=>⟨⟩)
def asTp:AV→(List AV→Res)→Res→Res:=AV.rec (motive_1:=fun _=>(List AV→Res)→Res→Res) (motive_2:=fun _=>PUnit) (fun _ no=>no) (fun _ _ no=>no) (fun _ _ _ no=>no) (fun _ _ no=>no) (fun _ no=>no) (fun _ _ _ no=>no) (fun _ no=>no) (fun _ _ _ _ _ _ no=>no) (fun _ no=>no) (fun _ _ _ no=>no) (fun a0 _ k0 _=>k0 a0) (fun _ _ _ _ no=>no) (fun _ no=>no) (fun _ _ _ _ no=>no) (fun _ no=>no) (fun _ _ no=>no) (fun _ no=>no) (fun _ _ no=>no) (fun _ _ _ no=>no) ⟨⟩ (fun _ _ _ _=>⟨⟩)
def asAg:AV→(List AV→Res)→Res→Res:=AV.rec (motive_1:=fun _=>(List AV→Res)→Res→Res) (motive_2:=fun _=>PUnit) (fun _ no=>no) (fun _ _ no=>no) (fun _ _ _ no=>no) (fun _ _ no=>no) (fun _ no=>no) (fun _ _ _ no=>no) (fun _ no=>no) (fun _ _ _ _ _ _ no=>no) (fun _ no=>no) (fun a0 _ k0 _=>k0 a0) (fun _ _ _ no=>no) (fun _ _ _ _ no=>no) (fun _ no=>no) (fun _ _ _ _ no=>no) (fun _ no=>no) (fun _ _ no=>no) (fun _ no=>no) (fun _ _ no=>no) (fun _ _ _ no=>no) ⟨⟩ (fun _ _ _ _=>⟨⟩)
def Od:AV→(List Nat→Res)→(List AV→Res)→Res→Res:=AV.rec (motive_1:=fun _=>(List Nat→Res)→(List AV→Res)→Res→Res) (motive_2:=fun _=>PUnit) (fun _ _ no=>no) (fun _ _ _ no=>no) (fun _ _ _ _ no=>no) (fun a0 k0 _ _=>k0 a0) (fun _ _ no=>no) (fun _ _ _ _ no=>no) (fun _ _ no=>no) (fun _ _ _ _ _ _ _ no=>no) (fun _ _ no=>no) (fun a0 _ _ k1 _=>k1 a0) (fun _ _ _ _ no=>no) (fun _ _ _ _ _ no=>no) (fun _ _ no=>no) (fun _ _ _ _ _ no=>no) (fun _ _ no=>no) (fun _ _ _ no=>no) (fun _ _ no=>no) (fun _ _ _ no=>no) (fun _ _ _ _ no=>no) ⟨⟩ (fun _ _ _ _=>⟨⟩)
def asFn:AV→(FuncId→List AV→Res)→(Nat→Res)→Res→Res:=AV.rec (motive_1:=fun _=>(FuncId→List AV→Res)→(Nat→Res)→Res→Res) (motive_2:=fun _=>PUnit) (fun _ _ no=>no) (fun _ _ _ no=>no) (fun _ _ _ _ no=>no) (fun _ _ _ no=>no) (fun _ _ no=>no) (fun _ _ _ _ no=>no) (fun _ _ no=>no) (fun _ _ _ _ _ _ _ no=>no) (fun _ _ no=>no) (fun _ _ _ _ no=>no) (fun _ _ _ _ no=>no) (fun a0 a1 _ k0 _ _=>k0 a0 a1) (fun _ _ no=>no) (fun _ _ _ _ _ no=>no) (fun _ _ no=>no) (fun _ _ _ no=>no) (fun _ _ no=>no) (fun a0 _ k1 _=>k1 a0) (fun _ _ _ _ no=>no) ⟨⟩ (fun _ _ _ _=>⟨⟩)
def PN:AV→(Nat→Nat→Res)→(FuncId→List AV→Res)→(Nat→Nat→Res)→Res→Res:=AV.rec (motive_1:=fun _=>(Nat→Nat→Res)→(FuncId→List AV→Res)→(Nat→Nat→Res)→Res→Res) (motive_2:=fun _=>PUnit) (fun _ _ _ no=>no) (fun _ _ _ _ no=>no) (fun _ _ _ _ _ no=>no) (fun _ _ _ _ no=>no) (fun _ _ _ no=>no) (fun a0 a1 k0 _ _ _=>k0 a0 a1) (fun _ _ _ no=>no) (fun _ _ _ _ _ _ _ _ no=>no) (fun _ _ _ no=>no) (fun _ _ _ _ _ no=>no) (fun _ _ _ _ _ no=>no) (fun a0 a1 _ _ k1 _ _=>k1 a0 a1) (fun _ _ _ no=>no) (fun _ _ _ _ _ _ no=>no) (fun _ _ _ no=>no) (fun _ _ _ _ no=>no) (fun _ _ _ no=>no) (fun _ _ _ _ no=>no) (fun a0 a1 _ _ k2 _=>k2 a0 a1) ⟨⟩ (fun _ _ _ _=>⟨⟩)
def tz:AV→(List AV→Res)→Res→Res:=AV.rec (motive_1:=fun _=>(List AV→Res)→Res→Res) (motive_2:=fun _=>PUnit)
 (fun _ no=>no) (fun x k _=>k [.b x]) (fun a n k _=>k [.i a n]) (fun l k _=>k [.s l]) (fun k _=>k [.np]) (fun i o k _=>k [.p i o]) (fun k _=>k [.ns]) (fun i o n z c k _=>k [.sl i o n z c]) (fun k _=>k [.z0])
 (fun l _ k _=>k l) (fun _ _ _ no=>no) (fun a c _ k _=>k [.fn a c]) (fun k _=>k [.nf]) (fun t v _ k _=>k [.ifc t v]) (fun k _=>k [.nif]) (fun i k _=>k [.mp i]) (fun k _=>k [.nm]) (fun i k _=>k [.yv i]) (fun g o k _=>k [.gp g o]) ⟨⟩ (fun _ _ _ _=>⟨⟩)
theorem kF(v:AV)(k:List AV→Res)(no:Res):tz v k no=match Zn v with|some l=>k l|none=>no:=by cases v<;>rfl
def EY:AV→Bool:=AV.rec (motive_1:=fun _=>Bool) (motive_2:=fun _=>PUnit)
 false (fun _=>true) (fun _ _=>true) (fun _=>true) true (fun _ _=>true) true (fun _ _ _ _ _=>true) true (fun _ _=>false) (fun _ _=>false) (fun _ _ _=>true) true (fun _ _ _=>true) true (fun _=>true) true (fun _=>true) (fun _ _=>true) ⟨⟩ (fun _ _ _ _=>⟨⟩)
theorem A9(v:AV):EY v=scal v:=by cases v<;>rfl
def qo:List AV→Bool:=List.rec true (fun a _ ih=>Bool.rec false ih (EY a))
theorem xo(l:List AV):qo l=Va l:=by
 induction l with
 |nil=>rfl
 |cons a l ih=>show(Bool.rec false (qo l) (EY a):Bool)=bif scal a then Va l else false;rw[ih,A9];cases scal a<;>rfl
def nthC:List AV→Nat→Option AV:=List.rec (fun _=>none) (fun x _ ih n=>Nat.rec (some x) (fun m _=>ih m) n)
def lenC:List AV→Nat:=List.rec 0 (fun _ _ ih=>Nat.succ ih)
def drC:List AV→Nat→List AV:=List.rec (fun _=>[]) (fun x t ih n=>Nat.rec (x::t) (fun m _=>ih m) n)
def tkKC:List AV→Nat→(List AV→Res)→Res:=List.rec (fun n k=>Nat.rec (k []) (fun _ _=> .no 22) n) (fun c _ ih n k=>Nat.rec (k []) (fun m _=>ih m fun t=>k (c::t)) n)
def NI:List AV→List AV→(List AV→Res)→Res:=List.rec (fun m k=>k m) (fun c _ ih m k=>ih m fun t=>k (c::t))
def OX:List AV→Nat→List AV→(List AV→Res)→Res:=
 List.rec (fun off vs k=>List.rec (Nat.rec (k []) (fun _ _=> .no 21) off) (fun _ _ _=> .no 20) vs)
  (fun c t ih off vs k=>Nat.rec (List.rec (k (c::t)) (fun v vs' _=>ih 0 vs' fun t'=>k (v::t')) vs) (fun m _=>ih m vs fun t'=>k (c::t')) off)
def opdC:Operand→Fr→AV:=Operand.rec (fun t f=>Bool.rec .u (getF t f) (Nat.ble (Nat.succ t) 4096)) (fun v _=>cv v) (fun g _=> .gp g 0) (fun k _=> .fn k [])
theorem Z7(o:Operand)(f:Fr):opdC o f=opd f o:=by cases o<;>rfl
def rS:List Operand→Fr→List AV:=List.rec (fun _=>[]) (fun o _ ih f=>opdC o f::ih f)
theorem oM(l:List Operand)(f:Fr):rS l f=opds f l:=by
 induction l with
 |nil=>rfl
 |cons o l ih=>show opdC o f::rS l f=opd f o::opds f l;rw[ih,Z7]
def OD:Ob→Blk→(Blk→Res)→Res→Res:=Ob.rec (fun b k _=>k b) (fun _ _ _ _ no=>no) (fun _ _ _ _ no=>no) (fun _ _ _ _ _ _ no=>no) (fun _ _ no=>no) (fun _ _ _ _ _ _ _ _ no=>no)
def QL:Ob→List AV→(List AV→Res)→Res→Res:=Ob.rec (fun _ _ no=>no) (fun _ _ _ _ no=>no) (fun _ _ _ _ no=>no) (fun _ _ _ _ _ _ no=>no) (fun b k _=>k b) (fun _ _ _ _ _ _ _ _ no=>no)
def LT:Option Blk→(Blk→Res)→Res→Res:=Option.rec (fun _ no=>no) (fun b k no=>OD b.ob b k no)
def H6:Option Blk→(List AV→Res)→Res→Res:=Option.rec (fun _ no=>no) (fun b k no=>QL b.ob b.cs k no)
def pY(h:Hp)(id:Nat)(k:Blk→Res)(no:Res):Res:=Bool.rec no (LT (get5 id h.t) k no) (Nat.blt id h.n)
theorem iC(h:Hp)(id:Nat)(k:Blk→Res)(no:Res):pY h id k no=getB h id k no:=by
 unfold pY getB;cases Nat.blt id h.n
 ·rfl
 ·show LT (get5 id h.t) k no=_;cases get5 id h.t with
  |none=>rfl
  |some b=>obtain⟨ty,ex,ro,cs,ob⟩:=b;cases ob<;>rfl
def FF(h:Hp)(id:Nat)(k:List AV→Res)(no:Res):Res:=Bool.rec no (H6 (get5 id h.t) k no) (Nat.blt id h.n)
theorem Bg(h:Hp)(id:Nat)(k:List AV→Res)(no:Res):FF h id k no=getG h id k no:=by
 unfold FF getG;cases Nat.blt id h.n
 ·rfl
 ·show H6 (get5 id h.t) k no=_;cases get5 id h.t with
  |none=>rfl
  |some b=>obtain⟨ty,ex,ro,cs,ob⟩:=b;cases ob<;>rfl
def okN:Nat→IntKind→Hp→Res:=Nat.rec (fun k h=> .ok (.i k (Int.ofNat 0)) h) (fun m _ k h=> .ok (.i k (Int.ofNat (Nat.succ m))) h)
def okM:Nat→IntKind→Hp→Res:=Nat.rec (fun k h=> .ok (.i k (Int.negSucc 0)) h) (fun m _ k h=> .ok (.i k (Int.negSucc (Nat.succ m))) h)
def okIC:Int→IntKind→Hp→Res:=Int.rec okN okM
theorem nH(z:Int)(k:IntKind)(h:Hp):okIC z k h=okI k z h:=by cases z<;>(rename_i n;cases n<;>rfl)
def ML:IntKind→Int→Int:=
 IntKind.rec (motive:=fun _=>Int→Int) (iy 256 128) (iy 65536 32768) (iy 4294967296 2147483648) (iy 18446744073709551616 9223372036854775808)
  (kV 256) (kV 65536) (Int.rec (fun n=>Int.ofNat (Nat.mod n 4294967296)) (fun n=>Int.ofNat (Nat.sub (Nat.sub 4294967296 1) (Nat.mod n 4294967296)))) (Int.rec (fun n=>Int.ofNat (Nat.mod n 18446744073709551616)) (fun n=>Int.ofNat (Nat.sub (Nat.sub 18446744073709551616 1) (Nat.mod n 18446744073709551616))))
theorem xE(k:IntKind)(z:Int):ML k z=jv k z:=by cases k<;>first|rfl|(cases z<;>rfl)
def okWC(k:IntKind)(z:Int)(h:Hp):Res:=okIC (ML k z) k h
theorem X8(k:IntKind)(z:Int)(h:Hp):okWC k z h=okI k (jv k z) h:=by unfold okWC;rw[nH,xE]
def qS(m n:Nat):Int:=Nat.rec (Int.ofNat (Nat.sub m n)) (fun k _=>Int.negSucc k) (Nat.sub n m)
theorem jE(m n:Nat):qS m n=Int.subNatNat m n:=by
 unfold qS Int.subNatNat
 show(Nat.rec (Int.ofNat (m-n)) (fun k _=>Int.negSucc k) (n-m):Int)=_
 cases n-m<;>rfl
def iadd:Int→Int→Int:=Int.rec (fun m b=>Int.rec (fun n=>Int.ofNat (Nat.add m n)) (fun n=>qS m (Nat.succ n)) b) (fun m b=>Int.rec (fun n=>qS n (Nat.succ m)) (fun n=>Int.negSucc (Nat.succ (Nat.add m n))) b)
theorem FX(a b:Int):iadd a b=Int.add a b:=by
 cases a<;>cases b
 ·rfl
 ·exact jE _ _
 ·exact jE _ _
 ·rfl
def isub:Int→Int→Int:=Int.rec (fun m b=>Int.rec (fun n=>qS m n) (fun n=>Int.ofNat (Nat.add m (Nat.succ n))) b) (fun m b=>Int.sub (.negSucc m) b)
theorem uC(a b:Int):isub a b=Int.sub a b:=by
 cases a<;>cases b
 ·rename_i m n;show qS m n=Int.sub (.ofNat m) (.ofNat n);rw[jE]
  have:Int.subNatNat m n=(m:Int)-(n:Int):=Int.subNatNat_eq_coe
  exact this
 ·rfl
 ·rfl
 ·rfl
def imul:Int→Int→Int:=Int.rec (fun m b=>Int.rec (fun n=>Int.ofNat (Nat.mul m n)) (fun n=>Int.mul (.ofNat m) (.negSucc n)) b) (fun m b=>Int.mul (.negSucc m) b)
theorem vF(a b:Int):imul a b=Int.mul a b:=by cases a<;>cases b<;>rfl
def iquo:Int→Int→Int:=Int.rec (fun m b=>Int.rec (fun n=>Int.ofNat (Nat.div m n)) (fun n=>Int.tdiv (.ofNat m) (.negSucc n)) b) (fun m b=>Int.tdiv (.negSucc m) b)
theorem Gn(a b:Int):iquo a b=Int.tdiv a b:=by cases a<;>cases b<;>rfl
def irem:Int→Int→Int:=Int.rec (fun m b=>Int.rec (fun n=>Int.ofNat (Nat.mod m n)) (fun n=>Int.tmod (.ofNat m) (.negSucc n)) b) (fun m b=>Int.tmod (.negSucc m) b)
theorem F6(a b:Int):irem a b=Int.tmod a b:=by cases a<;>cases b<;>rfl
def ishr:Int→Nat→Int:=Int.rec (fun m n=>Int.ofNat (Nat.div m n)) (fun m n=>Int.ediv (.negSucc m) (Int.ofNat n))
theorem GP(a:Int)(n:Nat):ishr a n=Int.ediv a (Int.ofNat n):=by cases a<;>rfl
def iltC:Int→Int→Bool:=Int.rec (fun m b=>Int.rec (fun n=>Nat.blt m n) (fun _=>false) b) (fun m b=>Int.rec (fun _=>true) (fun n=>Nat.blt n m) b)
theorem zd(a b:Int):iltC a b=ilt a b:=by cases a<;>cases b<;>rfl
def ieqC:Int→Int→Bool:=Int.rec (fun m b=>Int.rec (fun n=>Nat.beq m n) (fun _=>false) b) (fun m b=>Int.rec (fun _=>false) (fun n=>Nat.beq m n) b)
theorem il(a b:Int):ieqC a b=ieq a b:=by cases a<;>cases b<;>rfl
def vG:Int→Nat:=Int.rec (fun n=>n) (fun _=>0)
theorem kW(a:Int):vG a=a.toNat:=by cases a<;>rfl
def AU(c a b:Operand)(f:Fr)(h:Hp):Res:=asB (opdC c f) (fun t=>Bool.rec (.ok (opdC b f) h) (.ok (opdC a f) h) t) (.no 2)
theorem Au:AU=yl:=by
 funext c a b f h;unfold AU yl;simp only[Z7];cases opd f c<;>rfl
def uB(x:Operand)(f:Fr)(h:Hp):Res:= .ok (opdC x f) h
theorem pC:uB=mj:=by funext x f h;unfold uB mj;rw[Z7]
def xBox(e:TypeId)(x:Operand)(f:Fr)(h:Hp):Res:=tz (opdC x f) (fun l=>newB h ⟨e,true,false,l,.row⟩ fun id h=> .ok (.p id 0) h) (.no 4)
theorem Ha:xBox=lk:=by funext e x f h;unfold xBox lk;rw[kF,Z7]
def ldC:LK→List AV→Nat→Hp→Res:=LK.rec (fun cs off h=>Option.rec (.no 8) (fun v=> .ok v h) (nthC cs off)) (fun sz cs off h=>tkKC (drC cs off) sz fun l=> .ok (.ag l) h) (fun _ _ _=> .no 8)
def Aa(t:TypeId)(a:Operand)(f:Fr)(h:Hp):Res:=
 asPG (opdC a f) (fun id off=>pY h id (fun b=>ldC (lkOf P t) b.cs off h) (.no 8)) (fun g off=>FF h g (fun cs=>ldC (lkOf P t) cs off h) (.no 8)) (.no 7)
theorem H3(k:LK)(cs:List AV)(off:Nat)(h:Hp):ldC k cs off h=match k with
   |.one=>(match nth cs off with
    |some v=> .ok v h
    |none=> .no 8)
   |.agg sz=>tkK (dr cs off) sz fun l=> .ok (.ag l) h
   |.no=> .no 8:=by
 cases k
 ·show(Option.rec (.no 8) (fun v=> .ok v h) (nth cs off):Res)=_
  cases nth cs off<;>rfl
 ·rfl
 ·rfl
theorem Aj:Aa P=Q1 P:=by
 funext t a f h;unfold Aa Q1;simp only[Z7,iC,Bg,H3];cases opd f a<;>rfl
def wrBC(h:Hp)(id:Nat)(off:Nat)(vs:List AV)(k:Hp→Res):Res:=
 pY h id (fun b=>Bool.rec (Bool.rec (.no 202) (OX b.cs off vs fun cs=>k (putB h id (some ⟨b.ty,b.ex,false,cs,.row⟩))) (qo vs)) (.no 201) b.ro) (.no 9)
theorem uZ(h:Hp)(id off:Nat)(vs:List AV)(k:Hp→Res):wrBC h id off vs k=wrB h id off vs k:=by
 unfold wrBC wrB;rw[iC];congr 1;funext b;rw[xo];cases b.ro<;>rfl
def oX(t:TypeId)(a x:Operand)(f:Fr)(h:Hp):Res:=
 asP (opdC a f) (fun id off=>tz (opdC x f) (fun vs=>Option.rec (.no 11) (fun sz=>Bool.rec (.no 11) (wrBC h id off vs fun h=> .ok .u h) (Nat.beq (lenC vs) sz)) (szOf P t)) (.no 11)) (.no 9)
theorem tN:oX P=Qs P:=by
 funext t a x f h;unfold oX Qs;simp only[Z7,uZ,kF]
 cases opd f a<;>try rfl
 show(match Zn (opd f x) with|some l=>_|none=>_)=_
 cases Zn (opd f x) with
 |none=>rfl
 |some vs=>show(Option.rec _ _ (szOf P t):Res)=_;cases szOf P t<;>rfl
def je(x:Operand)(f:Fr)(h:Hp):Res:=PN (opdC x f) (fun id off=> .ok (.p id off) h) (fun k c=> .ok (.fn k c) h) (fun g off=> .ok (.gp g off) h) (.no 12)
theorem ll:je=Y6:=by funext x f h;unfold je Y6;simp only[Z7];cases opd f x<;>rfl
def xAdd(x y:AV)(h:Hp):Res:=asIS x
 (fun k a=>asI y (fun k' b=>Bool.rec (.no 13) (okWC k (iadd a b) h) (ikEq k k')) (.no 13))
 (fun a=>asS y (fun b=>Bool.rec (.no 13) (appK a b fun l=> .ok (.s l) h) (Nat.blt (Nat.add (len a) (len b)) 1000000)) (.no 13)) (.no 13)
theorem Hl(x y:AV)(h:Hp):xAdd x y h=bAdd x y h:=by
 unfold xAdd bAdd;simp only[X8,FX];cases x<;>cases y<;>rfl
def xTwo(g:Int→Int→Int)(x y:AV)(h:Hp):Res:=asI x (fun k a=>asI y (fun k' b=>Bool.rec (.no 13) (okWC k (g a b) h) (ikEq k k')) (.no 13)) (.no 13)
theorem F3(x y:AV)(h:Hp):xTwo isub x y h=bSub x y h:=by
 unfold xTwo bSub;simp only[X8,uC];cases x<;>cases y<;>rfl
theorem G5(x y:AV)(h:Hp):xTwo imul x y h=bMul x y h:=by
 unfold xTwo bMul;simp only[X8,vF];cases x<;>cases y<;>rfl
def xQuo(x y:AV)(h:Hp):Res:=asI x (fun k a=>asI y (fun k' b=>Bool.rec (.no 13) (Bool.rec (okWC k (iquo a b) h) (.no 13) (ieqC b 0)) (ikEq k k')) (.no 13)) (.no 13)
theorem F2(x y:AV)(h:Hp):xQuo x y h=bQuo x y h:=by
 unfold xQuo bQuo;simp only[X8,Gn,il];cases x<;>cases y<;>try rfl
 rename_i k a k' b
 show(Bool.rec _ (Bool.rec _ _ (ieq b 0)) (ikEq k k'):Res)=Bool.rec _ _ (ikEq k k' && !ieq b 0)
 cases ikEq k k'<;>cases ieq b 0<;>rfl
def xRem(x y:AV)(h:Hp):Res:=asI x (fun k a=>asI y (fun k' b=>Bool.rec (.no 13) (Bool.rec (okIC (irem a b) k h) (.no 13) (ieqC b 0)) (ikEq k k')) (.no 13)) (.no 13)
theorem Eb(x y:AV)(h:Hp):xRem x y h=bRem x y h:=by
 unfold xRem bRem;simp only[nH,F6,il];cases x<;>cases y<;>try rfl
 rename_i k a k' b
 show(Bool.rec _ (Bool.rec _ _ (ieq b 0)) (ikEq k k'):Res)=Bool.rec _ _ (ikEq k k' && !ieq b 0)
 cases ikEq k k'<;>cases ieq b 0<;>rfl
def xShl(x y:AV)(h:Hp):Res:=asI x (fun k a=>asI y (fun _ b=>Bool.rec (okWC k (imul a (Int.ofNat (Nat.pow 2 (Nat.min (vG b) k.bits)))) h) (.no 13) (iltC b 0)) (.no 13)) (.no 13)
theorem EM(x y:AV)(h:Hp):xShl x y h=bShl x y h:=by
 unfold xShl bShl;simp only[X8,vF,zd,kW];cases x<;>cases y<;>try rfl
 rename_i k a k' b
 show(Bool.rec _ _ (ilt b 0):Res)=Bool.rec _ _ (!ilt b 0)
 cases ilt b 0<;>rfl
def xShr(x y:AV)(h:Hp):Res:=asI x (fun k a=>asI y (fun _ b=>Bool.rec (okIC (ishr a (Nat.pow 2 (Nat.min (vG b) k.bits))) k h) (.no 13) (iltC b 0)) (.no 13)) (.no 13)
theorem Fy(x y:AV)(h:Hp):xShr x y h=bShr x y h:=by
 unfold xShr bShr;simp only[nH,GP,zd,kW];cases x<;>cases y<;>try rfl
 rename_i k a k' b
 show(Bool.rec _ _ (ilt b 0):Res)=Bool.rec _ _ (!ilt b 0)
 cases ilt b 0<;>rfl
def qT(g:Nat→Nat→Nat)(x y:AV)(h:Hp):Res:=asI x (fun k a=>asI y (fun k' b=>Bool.rec (.no 13) (Int.rec (fun m=>Int.rec (fun n=>okWC k (Int.ofNat (g (Nat.mod m (Nat.pow 2 k.bits)) (Nat.mod n (Nat.pow 2 k.bits)))) h) (fun _=> .no 13) b) (fun _=> .no 13) a) (ikEq k k')) (.no 13)) (.no 13)
theorem qd(g:Nat→Nat→Nat)(x y:AV)(h:Hp):qT g x y h=Vr g x y h:=by
 unfold qT Vr;simp only[X8];cases x<;>cases y<;>rfl
def okBC:Bool→Hp→Res:=Bool.rec (fun h=> .ok (.b false) h) (fun h=> .ok (.b true) h)
theorem V3(t:Bool)(h:Hp):okBC t h=okB t h:=by cases t<;>rfl
def xCmp(g:Int→Int→Bool)(x y:AV)(h:Hp):Res:=asI x (fun k a=>asI y (fun k' b=>Bool.rec (.no 13) (okBC (g a b) h) (ikEq k k')) (.no 13)) (.no 13)
def xLss(x y:AV)(h:Hp):Res:=asI x (fun k a=>asI y (fun k' b=>Bool.rec (.no 13) (okBC (iltC a b) h) (ikEq k k')) (.no 13)) (bLss x y h)
theorem Gy(x y:AV)(h:Hp):xLss x y h=bLss x y h:=by
 unfold xLss bLss;simp only[V3,zd];cases x<;>cases y<;>rfl
theorem EW(x y:AV)(h:Hp):xCmp (fun a b=>Bool.rec true false (iltC b a)) x y h=bLeq x y h:=by
 unfold xCmp bLeq;simp only[V3,zd];cases x<;>cases y<;>try rfl
 rename_i k a k' b
 show(Bool.rec _ (okB (Bool.rec true false (ilt b a)) h) _:Res)=Bool.rec _ (okB (!ilt b a) h) _
 cases ilt b a<;>rfl
theorem DB(x y:AV)(h:Hp):xCmp (fun a b=>iltC b a) x y h=bGtr x y h:=by
 unfold xCmp bGtr;simp only[V3,zd];cases x<;>cases y<;>rfl
theorem G8(x y:AV)(h:Hp):xCmp (fun a b=>Bool.rec true false (iltC a b)) x y h=bGeq x y h:=by
 unfold xCmp bGeq;simp only[V3,zd];cases x<;>cases y<;>try rfl
 rename_i k a k' b
 show(Bool.rec _ (okB (Bool.rec true false (ilt a b)) h) _:Res)=Bool.rec _ (okB (!ilt a b) h) _
 cases ilt a b<;>rfl
def xEql(P:Program)(c:Bool)(t:TypeId)(x y:AV)(h:Hp):Res:=asI x (fun k a=>asI y (fun k' b=>Bool.rec (.no 14) (okBC (ieqC a b) h) (ikEq k k')) (.no 14)) (bEql P c t x y h)
theorem F8(c:Bool)(t:TypeId)(x y:AV)(h:Hp):xEql P c t x y h=bEql P c t x y h:=by
 unfold xEql;simp only[V3,il];cases x<;>try rfl
 cases y<;>try rfl
 rename_i k a k' b
 show(Bool.rec _ _ (ikEq k k'):Res)=_
 unfold bEql eqV;show _=(match (Bool.rec none (some (ieq a b)) (ikEq k k'):Option Bool) with|some b=>okB b h|none=> .no 14);cases ikEq k k'<;>rfl
def xNeq(P:Program)(c:Bool)(t:TypeId)(x y:AV)(h:Hp):Res:=asI x (fun k a=>asI y (fun k' b=>Bool.rec (.no 14) (okBC (Bool.rec true false (ieqC a b)) h) (ikEq k k')) (.no 14)) (bNeq P c t x y h)
theorem Ft(c:Bool)(t:TypeId)(x y:AV)(h:Hp):xNeq P c t x y h=bNeq P c t x y h:=by
 unfold xNeq;simp only[V3,il];cases x<;>try rfl
 cases y<;>try rfl
 rename_i k a k' b
 show(Bool.rec _ _ (ikEq k k'):Res)=_
 unfold bNeq eqV;show _=(match (Bool.rec none (some (ieq a b)) (ikEq k k'):Option Bool) with|some b=>okB (!b) h|none=> .no 14);cases ikEq k k'
 ·rfl
 ·show okB (Bool.rec true false (ieq a b)) h=okB (!ieq a b) h;cases ieq a b<;>rfl
def orB(a b:Bool):Bool:=Bool.rec b true a
theorem Dh(a b:Bool):orB a b=(a||b):=by cases a<;>rfl
def Pm:BinOp→Program→Operand→Operand→TypeId→AV→AV→Hp→Res:=
 BinOp.rec (motive:=fun _=>Program→Operand→Operand→TypeId→AV→AV→Hp→Res)
  (fun _ _ _ _=>xAdd) (fun _ _ _ _=>xTwo isub) (fun _ _ _ _=>xTwo imul) (fun _ _ _ _=>xQuo) (fun _ _ _ _=>xRem)
  (fun _ _ _ _=>qT Nat.land) (fun _ _ _ _=>qT Nat.lor) (fun _ _ _ _=>qT Nat.xor) (fun _ _ _ _=>xShl) (fun _ _ _ _=>xShr) (fun _ _ _ _=>qT (fun m n=>Nat.xor m (Nat.land m n)))
  (fun P x y t=>xEql P (orB (Z6 x) (Z6 y)) t) (fun P x y t=>xNeq P (orB (Z6 x) (Z6 y)) t) (fun _ _ _ _=>xLss) (fun _ _ _ _=>xCmp (fun a b=>Bool.rec true false (iltC b a))) (fun _ _ _ _=>xCmp (fun a b=>iltC b a)) (fun _ _ _ _=>xCmp (fun a b=>Bool.rec true false (iltC a b)))
def xBin(op:BinOp)(t:TypeId)(x y:Operand)(f:Fr)(h:Hp):Res:=Pm op P x y t (opdC x f) (opdC y f) h
theorem Ga:xBin P=mz P:=by
 funext op t x y f h;unfold xBin mz;rw[Z7,Z7]
 cases op
 ·exact Hl ..
 ·exact F3 ..
 ·exact G5 ..
 ·exact F2 ..
 ·exact Eb ..
 ·exact qd ..
 ·exact qd ..
 ·exact qd ..
 ·exact EM ..
 ·exact Fy ..
 ·exact qd (fun m n=>Nat.xor m (Nat.land m n)) _ _ h
 ·show xEql P (orB _ _) t _ _ h=bEql P _ t _ _ h;rw[Dh];exact F8 ..
 ·show xNeq P (orB _ _) t _ _ h=bNeq P _ t _ _ h;rw[Dh];exact Ft ..
 ·exact Gy ..
 ·exact EW ..
 ·exact DB ..
 ·exact G8 ..
def xUnF:UnOp→AV→Hp→Res:=UnOp.rec (fun x h=>asI x (fun k a=>okWC k (isub 0 a) h) (.no 16)) (fun x h=>asI x (fun k a=>okWC k (Int.sub (Int.negSucc 0) a) h) (.no 16)) (fun x h=>asB x (fun t=>okBC (Bool.rec true false t) h) (.no 16)) (fun _ _=> .no 16)
def xUn(op:UnOp)(x:Operand)(f:Fr)(h:Hp):Res:=xUnF op (opdC x f) h
theorem Mb:xUn=evUn:=by
 funext op x f h;unfold xUn evUn;rw[Z7]
 cases op
 ·show asI _ _ _=_;simp only[X8,uC];cases opd f x<;>rfl
 ·show asI _ _ _=_;simp only[X8];cases opd f x<;>rfl
 ·show asB _ _ _=_;simp only[V3];cases opd f x<;>first|rfl|(rename_i t;cases t<;>rfl)
 ·cases opd f x<;>rfl
def pT(s d:TypeId)(x:Operand)(f:Fr)(h:Hp):Res:=asI (opdC x f) (fun _ a=>Option.rec (.no 17) (fun j=>Bool.rec (.no 17) (okWC j a h) (P.underlying s).isSome) (lC P d)) (Qu P s d x f h)
theorem vX:pT P=Qu P:=by
 funext s d x f h;unfold pT Qu;simp only[X8,Z7]
 cases opd f x<;>try rfl
 rename_i k a
 show(Option.rec _ _ (lC P d):Res)=_
 cases lC P d<;>rfl
def xU(s d:TypeId)(x:Operand)(f:Fr)(h:Hp):Res:=Nat.rec (motive:=fun _=>Res) (pT P s d x f h) (fun _ _=>j7 P s d x f h) (cvKd P s d)
theorem zM:xU P=j7 P:=by
 funext s d x f h;unfold xU
 cases hk:cvKd P s d with
 |zero=>show pT P s d x f h=_;rw[vX];unfold j7;simp only[hk]
 |succ n=>rfl
def natC(v:AV)(k:Nat→Res)(no:Res):Res:=asI v (fun _ n=>Int.rec k (fun _=>no) n) no
theorem nD(v:AV)(k:Nat→Res)(no:Res):natC v k no=jj v k no:=by cases v<;>rfl
def fzC(k:Nat→Res):Nat→Res:=Nat.rec (k 0) (fun m _=>k (Nat.succ m))
theorem IE(n:Nat)(k:Nat→Res):fzC k n=fz n k:=rfl
def bndC(f:Fr)(o:Option Operand)(d:Nat)(k:Nat→Res)(no:Res):Res:=Option.rec (k d) (fun x=>natC (opdC x f) (fzC k) no) o
theorem Du(f:Fr)(o:Option Operand)(d:Nat)(k:Nat→Res)(no:Res):bndC f o d k no=bnd f o d k no:=by
 cases o with
 |none=>rfl
 |some x=>show natC (opdC x f) (fzC k) no=jj (opd f x) (fun n=>fz n k) no;rw[nD,Z7];rfl
def slC:Option Nat→Nat→Nat→Nat→Nat→Nat→Nat→Hp→Res:=Option.rec
 (fun id off n z i j h=>Bool.rec (.no 19) (Bool.rec (fz (Nat.add off (Nat.mul i z)) fun o=>fz (Nat.sub j i) fun n'=> .ok (.sl id o n' z none) h) (.ok .z0 h) (Nat.beq n i)) (Nat.ble j n))
 (fun c id off _ z i j h=>Bool.rec (.no 19) (Bool.rec (fz (Nat.add off (Nat.mul i z)) fun o=>fz (Nat.sub j i) fun n'=>fz (Nat.sub c i) fun c'=> .ok (.sl id o n' z (some c')) h) (.ok (.sl id off 0 z (some 0)) h) (Nat.beq c i)) (Nat.ble j c))
def nh(t:TypeId)(x:Operand)(lo hi mx:Option Operand)(f:Fr)(h:Hp):Res:=Option.rec
 (Lt (opdC x f)
  (fun _=>K4 P t x lo hi mx f h) (K4 P t x lo hi mx f h)
  (fun id off n z cap=>Option.rec (.no 19) (fun sz=>bndC f hi n (fun j=>bndC f lo 0 (fun i=>Bool.rec (.no 19) (Bool.rec (.no 19) (slC cap id off n z i j h) (Nat.beq sz z)) (Nat.ble i j)) (.no 19)) (.no 19)) ((slOf P t).bind (szOf P)))
  (.no 19))
 (fun _=> .no 19) mx
theorem ru:nh P=K4 P:=by
 funext t x lo hi mx f h;unfold nh
 cases mx with
 |some m=>rfl
 |none=>
  show Lt (opdC x f) _ _ _ _=_;rw[Z7];cases hx:opd f x with
  |sl id off n z cap=>
   show(Option.rec _ _ ((slOf P t).bind (szOf P)):Res)=_
   unfold K4;rw[hx];cases hs:(slOf P t).bind (szOf P) with
   |none=>simp only[hs]
   |some sz=>
    simp only[hs,Du]
    congr 1;funext j;congr 1;funext i
    cases Nat.ble i j
    ·rfl
    ·cases Nat.beq sz z
     ·rfl
     ·cases cap<;>rfl
  |_=>first|rfl|(unfold K4;rw[hx];rfl)
def oC(t:TypeId)(x:Operand)(lo hi mx:Option Operand)(f:Fr)(h:Hp):Res:=Bool.rec (nh P t x lo hi mx f h) (jf P t x lo hi mx f h) (xz P t)
theorem uV:oC P=Qx P:=by funext t x lo hi mx f h;unfold oC Qx;rw[ru]
def Vf(s:TypeId)(x:Operand)(i:Nat)(f:Fr)(h:Hp):Res:=asPG (opdC x f)
 (fun id off=>Option.rec (.no 23) (fun o=>fzC (fun o=> .ok (.p id o) h) (Nat.add off o)) (Ye P s i))
 (fun id off=>Option.rec (.no 23) (fun o=>fzC (fun o=> .ok (.gp id o) h) (Nat.add off o)) (Ye P s i)) (.no 23)
theorem i0:Vf P=Yp P:=by
 funext s x i f h;unfold Vf Yp;rw[Z7]
 cases opd f x<;>try rfl
 all_goals (show(Option.rec _ _ (Ye P s i):Res)=_;cases Ye P s i<;>rfl)
def Vq(t:TypeId)(x i:Operand)(f:Fr)(h:Hp):Res:=NQ (opdC x f)
 (fun id off n z _=>Option.rec (.no 24) (fun sz=>natC (opdC i f) (fun j=>Bool.rec (.no 24) (Bool.rec (.no 24) (fzC (fun o=> .ok (.p id o) h) (Nat.add off (Nat.mul j z))) (Nat.beq sz z)) (Nat.blt j n)) (.no 24)) ((slOf P t).bind (szOf P)))
 (fun _ _=>Zz P t x i f h) (fun _ _=>Zz P t x i f h) (.no 24)
theorem iK:Vq P=Zz P:=by
 funext t x i f h;unfold Vq;rw[Z7]
 cases hx:opd f x with
 |sl id off n z cap=>
  show(Option.rec _ _ ((slOf P t).bind (szOf P)):Res)=_
  unfold Zz;rw[hx];cases hs:(slOf P t).bind (szOf P) with
  |none=>simp only[hs]
  |some sz=>
   simp only[hs,nD,Z7]
   congr 1;funext j
   cases Nat.blt j n
   ·rfl
   ·cases Nat.beq sz z<;>rfl
 |_=>first|rfl|(unfold Zz;rw[hx];rfl)
def nthN:List Nat→Nat→Option Nat:=List.rec (fun _=>none) (fun x _ ih n=>Nat.rec (some x) (fun m _=>ih m) n)
def n8(t:TypeId)(x i:Operand)(f:Fr)(h:Hp):Res:=Od (opdC x f)
 (fun l=>Bool.rec (.no 25) (natC (opdC i f) (fun j=>Option.rec (.no 25) (fun c=> .ok (.i .u8 (Int.ofNat c)) h) (nthN l j)) (.no 25)) (X4 P t))
 (fun _=>Xr P t x i f h) (.no 25)
theorem uq:n8 P=Xr P:=by
 funext t x i f h;unfold n8;rw[Z7]
 cases hx:opd f x with
 |s l=>
  unfold Xr;rw[hx];simp only[nD,Z7]
  show(Bool.rec _ _ (X4 P t):Res)=Bool.rec _ _ (X4 P t)
  cases X4 P t
  ·rfl
  ·show jj _ _ _=jj _ _ _
   congr 1;funext j
   show(Option.rec _ _ (nth l j):Res)=_
   cases nth l j<;>rfl
 |_=>first|rfl|(unfold Xr;rw[hx];rfl)
def qu(x:Operand)(i:Nat)(f:Fr)(h:Hp):Res:=asTp (opdC x f) (fun l=>Option.rec (.no 26) (fun v=> .ok v h) (nthC l i)) (.no 26)
theorem nc:qu=Kn:=by
 funext x i f h;unfold qu Kn;rw[Z7]
 cases opd f x<;>try rfl
 rename_i l
 show(Option.rec _ _ (nth l i):Res)=(match nth l i with|some v=> .ok v h|none=> .no 26)
 cases nth l i<;>rfl
def I5(k:LK):List AV→Nat→(AV→Res)→Res→Res:=LK.rec (fun cs off k no=>Option.rec no k (nthC cs off)) (fun sz cs off k _=>k (.ag (tk (dr cs off) sz))) (fun _ _ _ no=>no) k
theorem yS(t:TypeId)(cs:List AV)(off:Nat)(k:AV→Res)(no:Res):I5 (lkOf P t) cs off k no=match zy P t cs off with|some v=>k v|none=>no:=by
 unfold zy;cases lkOf P t
 ·show(Option.rec no k (nth cs off):Res)=_
  cases nth cs off<;>rfl
 ·rfl
 ·rfl
def pi(s:TypeId)(x:Operand)(i:Nat)(f:Fr)(h:Hp):Res:=asAg (opdC x f) (fun cs=>Option.rec (.no 174) (fun p=>I5 (lkOf P p.1) cs p.2 (fun v=> .ok v h) (.no 174)) (qW P s i)) (.no 174)
theorem sY:pi P=Q4 P:=by
 funext s x i f h;unfold pi Q4;simp only[Z7,yS]
 cases opd f x<;>try rfl
 rename_i cs
 show(Option.rec _ _ (qW P s i):Res)=_
 cases qW P s i<;>rfl
def xLen(t:TypeId)(x:AV)(no:Res)(h:Hp):Res:=PU x
 (fun _ _ n _ _=>Bool.rec (.no 28) (.ok (.i .i64 (Int.ofNat n)) h) (isSl P t)) (Bool.rec (.no 28) (.ok (.i .i64 (Int.ofNat 0)) h) (isSl P t)) (Bool.rec (.no 28) (.ok (.i .i64 (Int.ofNat 0)) h) (isSl P t))
 (fun l=>Bool.rec (.no 28) (fz (len l) fun n=> .ok (.i .i64 (Int.ofNat n)) h) (X4 P t)) no
def zI(ts:List TypeId)(l:List AV)(h:Hp):Res:=Bool.rec
 (List.rec (.no 28) (fun t tr _=>List.rec (List.rec (.no 28) (fun x xr _=>List.rec (xLen P t x (.no 28) h) (fun _ _ _=> .no 28) xr) l) (fun _ _ _=> .no 28) tr) ts) (oE l h) (ix P ts)
theorem AY:zI P=xl P:=by
 funext ts l h;unfold zI xl
 cases ix P ts
 ·show _=tL P ts l h;unfold tL
  match ts,l with
  |[],[]=>rfl
  |[],_::_=>rfl
  |[_],[]=>rfl
  |[_],_::_::_=>rename_i a b c d;cases b<;>rfl
  |_::_::_,[]=>rfl
  |_::_::_,_::_=>rename_i a b c d e;cases d<;>first|rfl|(cases e<;>rfl)
  |[t],[x]=>cases x<;>rfl
 ·rfl
def oF(P:Program)(e:TypeId)(m n:Nat)(k:Nat→Res):Res:=fzC (fun mn=>Bool.rec (.no 34) (Bool.rec (.no 34) (k mn) (Nat.ble ((byOf P e).getD 4294967296) 65536)) (Nat.ble mn 1000000)) (Nat.add m n)
theorem kR(e:TypeId)(m n:Nat)(k:Nat→Res):oF P e m n k=rb P e m n k:=by
 unfold oF rb;rw[IE];congr 1;funext mn;cases Nat.ble mn 1000000<;>rfl
def kS(P:Program)(e sz:Nat)(h:Hp)(m n:Nat)(us vs:List AV):Res:=
 oF P e m n fun mn=>NI us vs fun cs=>newB h ⟨e,false,false,cs,.row⟩ fun id' h=> .ok (.sl id' 0 mn sz none) h
theorem sC(e sz:Nat)(h:Hp)(m n:Nat)(us vs:List AV):kS P e sz h m n us vs=V2 P e sz h m n us vs:=by
 unfold kS V2;rw[kR];rfl
def Fc(P:Program)(e sz:Nat)(h:Hp)(s:AV)(n:Nat)(vs:List AV):Res:=QI s (kS P e sz h 0 n [] vs)
 (fun id off m z cap=>Bool.rec (.no 33) (Option.rec
  (pY h id (fun b=>Bool.rec (Bool.rec (.no 34) (Bool.rec (.no 34) (tkKC (drC b.cs off) (Nat.mul m z) fun us=>kS P e sz (putB h id none) m n us vs) (Nat.beq b.ty e)) (qo vs)) (.no 34) b.ro) (.no 34))
  (fun c=>Bool.rec
    (pY h id (fun b=>tkKC (drC b.cs off) (Nat.mul m z) fun us=>kS P e sz h m n us vs) (.no 33))
    (wrBC h id (Nat.add off (Nat.mul m z)) vs fun h=>oF P e m n fun mn=> .ok (.sl id off mn sz (some c)) h) (Nat.ble (Nat.add m n) c)) cap) (Nat.beq z sz)) (.no 33)
theorem AB(e sz:Nat)(h:Hp)(s:AV)(n:Nat)(vs:List AV):Fc P e sz h s n vs=apTo P e sz h s n vs:=by
 unfold Fc apTo;simp only[sC,uZ,iC,xo,kR];cases s<;>try rfl
 rename_i id off m z cap
 show(Bool.rec _ _ (Nat.beq z sz):Res)=Bool.rec _ _ (Nat.beq z sz)
 cases Nat.beq z sz
 ·rfl
 ·cases cap with
  |some c=>rfl
  |none=>
   show getB h id _ _=getB h id _ _
   congr 1;funext b
   cases b.ro<;>cases Va vs<;>cases Nat.beq b.ty e<;>rfl
def i5(t t':TypeId)(s x:AV)(h:Hp)(no:Res):Res:=Option.rec no (fun e=>Option.rec no (fun sz=>Option.rec no (fun zc=>
 Bool.rec (.no 32) (Bool.rec (srcK h sz x fun n vs=>Fc P e sz h s n vs) (match s with
     |.ns=> .ok s h
     |.sl _ _ _ _ _=> .ok s h
     |_=> .no 32) (oi x)) (Nat.blt 0 sz&&(Nat.beq t t'||X4 P t'&&mA P e)&&Nat.beq (len zc) sz)) (zcOf P e)) (szOf P e)) (slOf P t)
def jJ(ts:List TypeId)(l:List AV)(h:Hp):Res:=
 List.rec (.no 32) (fun t tr _=>List.rec (.no 32) (fun t' tr' _=>List.rec
  (List.rec (.no 32) (fun s lr _=>List.rec (.no 32) (fun x lr' _=>List.rec (i5 P t t' s x h (.no 32)) (fun _ _ _=> .no 32) lr') lr) l) (fun _ _ _=> .no 32) tr') tr) ts
theorem p6:jJ P=jd P:=by
 funext ts l h;unfold jJ jd
 match ts,l with
 |[],_=>rfl
 |[_],_=>rfl
 |_::_::_::_,_=>rfl
 |[_,_],[]=>rfl
 |[_,_],[_]=>rfl
 |[_,_],_::_::_::_=>rfl
 |[t,t'],[s,x]=>
  show i5 P t t' s x h _=_;unfold i5;simp only[AB];cases slOf P t with
  |none=>rfl
  |some e=>
   show(Option.rec _ _ (szOf P e):Res)=_
   cases hs:szOf P e with
   |none=>simp only[hs]
   |some sz=>
    show(Option.rec _ _ (zcOf P e):Res)=_
    cases hz:zcOf P e with
    |none=>simp only[hs,hz]
    |some zc=>simp only[hs,hz]
def ks:Builtin→Program→List TypeId→List AV→Hp→Res:=
 Builtin.rec (motive:=fun _=>Program→List TypeId→List AV→Hp→Res)
  jJ (fun P=>EP P) (fun P=>Zi P .clear) (fun P=>Zi P .close) (fun P=>Zi P .complex) (fun P=>ti P) (fun P=>Zi P .delete) (fun P=>Zi P .imag) zI
  (fun P=>Zi P .make) (fun _ _=>yE) (fun _ _=>As) (fun P=>Zi P .new) (fun P=>Zi P .panic) (fun P=>Zi P .print) (fun P=>Zi P .println) (fun P=>Zi P .real) (fun P=>Zi P .recover)
  (fun P=>Zi P .unsafeAdd) (fun P=>Zi P .unsafeSlice) (fun _ _=>jA) (fun P=>vV P) (fun P=>Zi P .unsafeStringData) (fun P=>Zi P .unsafeSizeof) (fun P=>Zi P .unsafeAlignof) (fun P=>Zi P .unsafeOffsetof)
theorem lS(b:Builtin)(ts:List TypeId)(l:List AV)(h:Hp):ks b P ts l h=Zi P b ts l h:=by
 cases b<;>first|rfl|(show jJ P ts l h=_;rw[p6];rfl)|(show zI P ts l h=_;rw[AY];rfl)
structure CallF where
 run:FuncId→List AV→Hp→Res
 ex:FuncId→Nat
 rd:Nat→List AV→Hp→Res
def i9(k m:Nat)(l:List AV)(h:Hp):Res:=match m,l with
 |1,[x]=> .ok x h
 |2,[.i .i64 n]=>Int.rec (fun n=>match (P.funcs[k]?).bind (fun fn=>(fn.resultTypes[0]?).bind (slOf P)) with
  |some e=>Bool.rec (.no 70) (appK (repl n [AV.u]) [] fun cs=>newB h ⟨e,false,false,cs,.row⟩ fun id h=> .ok (.sl id 0 n 1 none) h) (Nat.ble n 1000000&&mA P e)
  |none=> .no 70) (fun _=> .no 70) n
 |_,_=> .no 71
def appL(l m:List AV):List AV:=List.rec m (fun a _ ih=>a::ih) l
def Vk(call:CallF)(c:Call)(f:Fr)(h:Hp):Res:=match c.callee with
 |.builtin b=>Zi P b c.argTypes.toList (opds f c.args.toList) h
 |.value x=>match opd f x with
  |.fn k cap=>Nat.rec (call.run k (appL (opds f c.args.toList) cap) h) (fun m _=>i9 P k (Nat.succ m) (appL (opds f c.args.toList) cap) h) (call.ex k)
  |.yv id=>call.rd id (opds f c.args.toList) h
  |_=> .no 37
 |_=> .no 38
def appC:List AV→List AV→List AV:=List.rec (fun m=>m) (fun a _ ih m=>a::ih m)
theorem Ff(l m:List AV):appC l m=appL l m:=by
 induction l with
 |nil=>rfl
 |cons a l ih=>show a::appC l m=a::appL l m;rw[ih]
def Li:Nat→Program→CallF→FuncId→List AV→Hp→Res:=Nat.rec (fun _ call k l h=>call.run k l h) (fun m _ P _ k l h=>i9 P k (Nat.succ m) l h)
def IQ:Callee→Program→CallF→Call→Fr→Hp→Res:=Callee.rec
 (fun x P call c f h=>asFn (opdC x f) (fun k cap=>Li (call.ex k) P call k (appC (rS c.args.toList f) cap) h) (fun id=>call.rd id (rS c.args.toList f) h) (.no 37))
 (fun _ _ _ _ _ _ _=> .no 38) (fun b P _ c f h=>ks b P c.argTypes.toList (rS c.args.toList f) h)
def ij(call:CallF)(c:Call)(f:Fr)(h:Hp):Res:=IQ c.callee P call c f h
theorem rm(call:CallF):ij P call=Vk P call:=by
 funext c f h;unfold ij Vk
 cases hc:c.callee with
 |value x=>
  show asFn (opdC x f) _ _ _=_;simp only[Z7,oM,Ff];cases opd f x<;>try rfl
  rename_i k cap;show Li (call.ex k) P call k _ h=Nat.rec (motive:=fun _=>Res) (call.run k _ h) (fun m _=>i9 P k (Nat.succ m) _ h) (call.ex k);cases call.ex k<;>rfl
 |invoke r m=>rfl
 |builtin b=>show ks b P _ _ h=_;rw[lS,oM]
def KV(call:CallF)(op:Op):Fr→Hp→Res:=
 Op.rec (motive:=fun _=>Fr→Hp→Res) mj mj yl (iq P) (lk) (V9 P) (Yq P) (Zl P)
  (Q1 P) (Qs P) (fun _ _ _=> .no 102) (fun _ _ _=> .no 103) Y6 (fun op t x y _=>mz P op t x y) (fun op _ x=>evUn op x) (j7 P)
  (fun _ _ _ _=> .no 104) (Xf P) Ki (Xi P) (fun _ _ _ _=> .no 107) (Yy P) (Qx P) (Yp P) (Q4 P)
  (Zz P) (Xr P) (X3 P) (Zl P) (fun _ _ _ _ _=> .no 108) (fun _ _ _ _ _ _=> .no 109) (V0 P) (fun it st=>kd it st)
  (fun _ _ _=> .no 115) (fun x _ a ok=>Q0 P x a ok) Kn (Vk P call) (fun _ _ _=> .no 117) (fun _ _ _=> .no 118) X5 (fun _ _ _ _=> .no 120) (fun _ _ _ _ _=> .no 121) (fun _ _ _ _=> .no 122) op
def xOpF:Op→Program→CallF→Fr→Hp→Res:=
 Op.rec (motive:=fun _=>Program→CallF→Fr→Hp→Res) (fun x _ _=>uB x) (fun x _ _=>uB x) (fun c a b _ _=>AU c a b) (fun e P _=>iq P e) (fun e x _ _=>xBox e x) (fun t ps P _=>V9 P t ps) (fun t n ps P _=>Yq P t n ps) (fun t m k x P _=>Zl P t m k x) (fun t a P _=>Aa P t a) (fun t a x P _=>oX P t a x) (fun _ _ _ _ _=> .no 102) (fun _ _ _ _ _=> .no 103) (fun x _ _=>je x) (fun op t x y _ P _=>xBin P op t x y) (fun op _ x _ _=>xUn op x) (fun s d x P _=>xU P s d x) (fun _ _ _ _ _ _=> .no 104) (fun t x P _=>Xf P t x) (fun fn a b _ _=>Ki fn a b) (fun t r P _=>Xi P t r) (fun _ _ _ _ _ _=> .no 107) (fun t l c P _=>Yy P t l c) (fun t x lo hi mx P _=>oC P t x lo hi mx) (fun s x i P _=>Vf P s x i) (fun s x i P _=>pi P s x i) (fun t x i P _=>Vq P t x i) (fun t x i P _=>n8 P t x i) (fun t x i ok P _=>X3 P t x i ok) (fun t m k x P _=>Zl P t m k x) (fun _ _ _ _ _ _ _=> .no 108) (fun _ _ _ _ _ _ _ _=> .no 109) (fun t x P _=>V0 P t x) (fun it st _ _=>kd it st) (fun _ _ _ _ _=> .no 115) (fun x _ a ok P _=>Q0 P x a ok) (fun x i _ _=>qu x i) (fun c P call=>ij P call c) (fun _ _ _ _ _=> .no 117) (fun _ _ _ _ _=> .no 118) (fun x _ _=>X5 x) (fun _ _ _ _ _ _=> .no 120) (fun _ _ _ _ _ _ _=> .no 121) (fun _ _ _ _ _ _=> .no 122)
def evOp(call:CallF)(op:Op):Fr→Hp→Res:=xOpF op P call
theorem zk(call:CallF)(op:Op):evOp P call op=KV P call op:=by
 cases op
 all_goals first
  |rfl
  |exact pC▸rfl
  |(funext f h;show uB _ f h=_;rw[pC];rfl)
  |(funext f h;show AU _ _ _ f h=_;rw[Au];rfl)
  |(funext f h;show xBox _ _ f h=_;rw[Ha];rfl)
  |(funext f h;show Aa P _ _ f h=_;rw[Aj];rfl)
  |(funext f h;show oX P _ _ _ f h=_;rw[tN];rfl)
  |(funext f h;show je _ f h=_;rw[ll];rfl)
  |(funext f h;show xBin P _ _ _ _ f h=_;rw[Ga];rfl)
  |(funext f h;show xUn _ _ f h=_;rw[Mb];rfl)
  |(funext f h;show xU P _ _ _ f h=_;rw[zM];rfl)
  |(funext f h;show oC P _ _ _ _ _ f h=_;rw[uV];rfl)
  |(funext f h;show Vf P _ _ _ f h=_;rw[i0];rfl)
  |(funext f h;show pi P _ _ _ f h=_;rw[sY];rfl)
  |(funext f h;show Vq P _ _ _ f h=_;rw[iK];rfl)
  |(funext f h;show n8 P _ _ _ f h=_;rw[uq];rfl)
  |(funext f h;show qu _ _ f h=_;rw[nc];rfl)
  |(funext f h;show ij P call _ f h=_;rw[rm];rfl)
def setO(n:Nat)(d:Option Tmp)(v:AV)(f:Fr)(k:Fr→Out):Out:=
 Option.rec (k f) (fun t=>Bool.rec (.no 40) (k (setF t v f)) (Nat.blt t n)) d
def jM{α:Type}(ops:Array Oper)(g:Option (Nat×Bool))(f:Fr)(yes no:α)(bad:α):α:=
 Option.rec yes (fun p=>match (ops[p.1]?).bind (·.dst) with
  |some d=>(match opd f (.tmp d) with
   |.b c=>Bool.rec no yes (c==p.2)
   |.tp []=>no
   |_=>bad)
  |none=>bad) g
def nl:Op→Bool
 |.panic _=>true
 |.call {callee:= .value _,..}=>true
 |_=>false
def loB(n:Nat):Option Tmp→Bool
 |none=>true
 |some t=>Nat.blt t n
def jn(call:CallF)(n:Nat)(ops:Array Oper)(l:List Oper):Fr→Hp→Out:=
 List.rec Out.nx (fun o _ ih f h=>jM ops o.guard f (Res.rec (fun v h'=>setO n o.dst v f fun f'=>ih f' h') Out.no (fun v h'=>Bool.rec (.no 61) (.pn v f h') (nl o.op&&loB n o.dst)) (evOp P call o.op f h)) (setO n o.dst (.tp []) f fun f'=>ih f' h) (.no 41)) l
def stO:Option Tmp→AV→Nat→Fr→Hp→(Fr→Hp→Out)→Out:=Option.rec (fun _ _ f h k=>k f h) (fun t v n f h k=>Bool.rec (.no 40) (k (setF t v f) h) (Nat.blt t n))
theorem B5(d:Option Tmp)(v:AV)(n:Nat)(f:Fr)(h:Hp)(k:Fr→Hp→Out):stO d v n f h k=setO n d v f fun f'=>k f' h:=by cases d<;>rfl
def stR:Res→Oper→Nat→Fr→(Fr→Hp→Out)→Out:=Res.rec (fun v h o n f k=>stO o.dst v n f h k) (fun m _ _ _ _=> .no m) (fun v h o n f _=>Bool.rec (.no 61) (.pn v f h) (nl o.op&&loB n o.dst))
def xOps:List Oper→Program→CallF→Nat→Array Oper→Fr→Hp→Out:=List.rec (fun _ _ _ _ f h=> .nx f h)
 (fun o _ ih P call n ops f h=>Option.rec (motive:=fun _=>Out) (stR (evOp P call o.op f h) o n f (ih P call n ops))
  (fun p=>jM ops (some p) f (stR (evOp P call o.op f h) o n f (ih P call n ops)) (stO o.dst (.tp []) n f h (ih P call n ops)) (.no 41)) o.guard)
theorem Hf(call:CallF)(n:Nat)(ops:Array Oper)(l:List Oper):xOps l P call n ops=jn P call n ops l:=by
 induction l with
 |nil=>rfl
 |cons o l ih=>
  funext f h
  have a:jn P call n ops (o::l) f h=jM ops o.guard f (Res.rec (fun v h'=>setO n o.dst v f fun f'=>jn P call n ops l f' h') Out.no (fun v h'=>Bool.rec (.no 61) (.pn v f h') (nl o.op&&loB n o.dst)) (evOp P call o.op f h)) (setO n o.dst (.tp []) f fun f'=>jn P call n ops l f' h) (.no 41):=rfl;have b:xOps (o::l) P call n ops f h=Option.rec (motive:=fun _=>Out) (stR (evOp P call o.op f h) o n f (xOps l P call n ops))
   (fun p=>jM ops (some p) f (stR (evOp P call o.op f h) o n f (xOps l P call n ops)) (stO o.dst (.tp []) n f h (xOps l P call n ops)) (.no 41)) o.guard:=rfl
  have d:stR (evOp P call o.op f h) o n f (jn P call n ops l)=Res.rec (fun v h'=>setO n o.dst v f fun f'=>jn P call n ops l f' h') Out.no (fun v h'=>Bool.rec (.no 61) (.pn v f h') (nl o.op&&loB n o.dst)) (evOp P call o.op f h):=by
   cases evOp P call o.op f h
   ·exact B5 ..
   ·rfl
   ·rfl
  rw[a,b,ih,d,B5];cases o.guard<;>rfl
def snoc{α:Type}(l:List α)(x:α):List α:=List.rec [x] (fun a _ ih=>a::ih) l
def tb(m j:Nat):Bool:=Nat.beq (Nat.land (Nat.shiftRight m j) 1) 1
def edgM(acc:List Nat)(l:List Edge)(s:Nat):Nat:=
 List.rec s (fun e _ ih=>Bool.rec ih (fz (Nat.lor (Nat.lor ih (Nat.pow 2 e.on)) ((nth acc e.on).getD 0)) fun x=>x) (Region.binds .any e)) l
def ancM(l:List Oper):List Nat→List Nat:=List.rec (fun acc=>acc) (fun o _ ih acc=>fz (edgM acc o.after.toList 0) fun m=>ih (snoc acc m)) l
def xg(l:List Operand):List Nat:=List.rec [] (fun o _ ih=>Operand.casesOn o (fun t=>t::ih) (fun _=>ih) (fun _=>ih) (fun _=>ih)) l
def allB{α:Type}(p:α→Bool)(l:List α):Bool:=List.rec true (fun a _ ih=>Bool.rec false ih (p a)) l
inductive Kd|pure|read|quiet|move
def kdOf(P:Program):Op→Kd
 |.convert s d _=>(match cvKd P s d with|0=> .pure|1=> .read|2=> .quiet|_=> .move)
 |.slice t .. =>bif xz P t then .read else .pure
 |.move _ | .assign _ | .pick .. | .build .. | .nilCheck _ | .binOp .. | .unOp .. | .fieldAddr .. | .field .. | .index .. | .indexAddr .. | .extract .. | .makeFunc .. | .makeInterface .. | .typeAssert .. => .pure
 |.call {callee:= .builtin .len,argTypes:=ts,..}=>bif ix P ts.toList then .read else .pure
 |.call {callee:= .builtin .min,..}=> .pure
 |.call {callee:= .builtin .max,..}=> .pure
 |.load .. | .lookup .. => .read
 |.makeMap .. => .quiet
 |.alloc _ | .box .. | .buildSlice .. | .makeSlice .. => .quiet
 |_=> .move
def Yw:Kd→Bool | .move=>true|_=>false
def ov:Kd→Bool | .read=>true|_=>false
def movM(l:List Oper):Nat→Nat:=List.rec (fun _=>0) (fun o _ ih k=>Bool.rec (ih (Nat.succ k)) (Nat.lor (Nat.pow 2 k) (ih (Nat.succ k))) (Yw (kdOf P o.op))) l
def lE(mv:Nat)(l:List Nat):Nat→Bool:=List.rec (fun _=>true) (fun a _ ih k=>
 Bool.rec (ih (Nat.succ k)) (Bool.rec false (ih (Nat.succ k)) (Nat.beq (Nat.land (Nat.land mv (Nat.sub (Nat.pow 2 k) 1)) a) (Nat.land mv (Nat.sub (Nat.pow 2 k) 1)))) (tb mv k)) l
def dsts(l:List Oper):Nat→List (Nat×Nat):=List.rec (fun _=>[]) (fun o _ ih k=>Option.rec (ih (Nat.succ k)) (fun d=>(d,k)::ih (Nat.succ k)) o.dst) l
def pX(ms:List Nat)(ds:List (Nat×Nat))(m k:Nat)(t:Nat):Bool:=allB (fun p:Nat×Nat=>Bool.rec true (Bool.rec (tb ((nth ms p.2).getD 0) k) true (tb m p.2)) (Nat.beq p.1 t)) ds
def nodB(n:Nat)(l:List (Nat×Nat)):Nat→Bool:=List.rec (fun _=>true) (fun p _ ih s=>Bool.rec false (Bool.rec (ih (Nat.lor s (Nat.pow 2 p.1))) false (tb s p.1)) (Nat.blt p.1 n)) l
def gdOk(ops:Array Oper)(a:Nat)(g:Option (Nat×Bool)):Bool:=Option.rec true (fun p=>tb a p.1) g
def FQ(ops:Array Oper)(all:List Nat)(ds:List (Nat×Nat))(l:List Oper):List Nat→Nat→Bool:=List.rec (fun _ _=>true) (fun o _ ih ms k=>List.rec false (fun a ms' _=>
  Bool.rec false (ih ms' (Nat.succ k)) (allB (pX all ds a k) (xg o.op.operands.toList)&&gdOk ops a o.guard&&allB (fun e=>Bool.rec true (Nat.blt e.on k) (Region.binds .any e)) o.after.toList)) ms) l
def yD(n:Nat)(ops:Array Oper)(ms:List Nat):Bool:=
 FQ ops ms (dsts ops.toList 0) ops.toList ms 0&&nodB n (dsts ops.toList 0) 0&&lE (movM P ops.toList 0) ms 0
def loM(mv a:Nat)(l:List Nat):Nat→Nat:=List.rec (fun _=>0) (fun _ _ ih k=>Bool.rec (ih (Nat.succ k)) (Nat.succ (ih (Nat.succ k))) (tb (Nat.land mv a) k)) l
def hiM(mv i:Nat)(l:List Nat):Nat→Nat:=List.rec (fun _=>0) (fun b _ ih k=>Bool.rec (ih (Nat.succ k)) (Bool.rec (Nat.succ (ih (Nat.succ k))) (ih (Nat.succ k)) (tb b i)) (tb mv k)) l
def winM(mv:Nat)(ms:List Nat)(l:List Oper):List Nat→Nat→List (Nat×Oper×Nat×Nat×Nat):=List.rec (fun _ _=>[]) (fun o _ ih m k=>List.rec [] (fun a m' _=>
 Bool.rec (ih m' (Nat.succ k)) (Bool.rec ((k,o,a,loM mv a ms 0,hiM mv k ms 0)::ih m' (Nat.succ k)) (ih m' (Nat.succ k)) (Nat.beq (loM mv a ms 0) (hiM mv k ms 0))) (ov (kdOf P o.op))) m) l
def FB(a b:Option Nat):Bool:=match a,b with
 |none,none=>true
 |some x,some y=>Nat.beq x y
 |_,_=>false
def avEq(a b:AV):Bool:=match a,b with
 |.b x,.b y=>x==y
 |.i k x,.i k' y=>ikEq k k'&&ieq x y
 |.s x,.s y=>leqL x y
 |.np,.np=>true
 |.p i o,.p j q=>Nat.beq i j&&Nat.beq o q
 |.ns,.ns=>true
 |.sl i o n z c,.sl j q m y d=>Nat.beq i j&&Nat.beq o q&&Nat.beq n m&&Nat.beq z y&&FB c d
 |.nf,.nf=>true
 |.nif,.nif=>true
 |.z0,.z0=>true
 |.u,.u=>true
 |_,_=>false
def wT(a:List AV):List AV→Bool:=List.rec (fun b=>List.rec true (fun _ _ _=>false) b) (fun x _ ih b=>List.rec false (fun y t _=>Bool.rec false (ih t) (avEq x y)) b) a
def sP(a b:AV):Bool:=match a,b with
 |.ag l,.ag m=>wT l m
 |x,y=>avEq x y
abbrev QT:=List (Nat×Nat×Option Blk)
def Yb(qt:QT)(a fl:Nat)(t:T5 (Option Blk)):T5 (Option Blk):=
 List.rec t (fun p _ ih=>Bool.rec ih (Bool.rec (set5 p.2.1 p.2.2 ih) ih (tb fl p.1)) (tb a p.1)) qt
def winK(call:CallF)(n:Nat)(qt:QT)(a:Nat)(f:Fr)(o:Oper)(v:AV)(l:List (Hp×Nat))(k:Out):Out:=
 List.rec k (fun h _ ih=>Res.rec (fun v' _=>Bool.rec (.no 61) ih (sP v v')) Out.no (fun _ _=> .no 60) (evOp P call o.op f ⟨Yb qt a h.2 h.1.t,n⟩)) l
def kN(rs:List (Nat×Fr×AV))(k:Nat):Option (Fr×AV):=List.rec none (fun p _ ih=>Bool.rec ih (some p.2) (Nat.beq p.1 k)) rs
def rz(call:CallF)(n:Nat)(qt:QT)(rs:List (Nat×Fr×AV))(hs:List (Hp×Nat))(k:Out)(l:List (Nat×Oper×Nat×Nat×Nat)):Out:=
 List.rec k (fun p _ ih=>Option.rec ih (fun r=>winK P call n qt p.2.2.1 r.1 p.2.1 r.2 (tk (dr hs p.2.2.2.1) (Nat.succ (Nat.sub p.2.2.2.2 p.2.2.2.1))) ih) (kN rs p.1)) l
structure DS where
 f:Fr
 h:Hp
 fl:Nat
 qt:QT
 hs:List (Hp×Nat)
 rs:List (Nat×Fr×AV)
def rK(call:CallF)(i a:Nat)(o:Oper)(s:DS)(k:AV→DS→Out):Out:=
 Kd.rec (Res.rec (fun v _=>k v s) Out.no (fun _ _=> .no 60) (evOp P call o.op s.f s.h))
  (Res.rec (fun v _=>k v ⟨s.f,s.h,s.fl,s.qt,s.hs,(i,s.f,v)::s.rs⟩) Out.no (fun _ _=> .no 60) (evOp P call o.op s.f ⟨Yb s.qt a s.fl s.h.t,s.h.n⟩))
  (Res.rec (fun v h'=>k v ⟨s.f,⟨s.h.t,h'.n⟩,s.fl,(i,s.h.n,get5 s.h.n h'.t)::s.qt,s.hs,s.rs⟩) Out.no (fun _ _=> .no 60) (evOp P call o.op s.f s.h))
  (Res.rec (fun v h'=>fz (Nat.lor s.fl a) fun fl=>k v ⟨s.f,h',fl,s.qt,snoc s.hs (h',fl),s.rs⟩) Out.no (fun _ _=> .no 60) (evOp P call o.op s.f ⟨Yb s.qt a s.fl s.h.t,s.h.n⟩)) (kdOf P o.op)
def Py:Kd→Program→CallF→Nat→Nat→Oper→DS→(AV→DS→Out)→Out:=Kd.rec
 (fun P call _ _ o s k=>Res.rec (fun v _=>k v s) Out.no (fun _ _=> .no 60) (evOp P call o.op s.f s.h))
 (fun P call i a o s k=>Res.rec (fun v _=>k v ⟨s.f,s.h,s.fl,s.qt,s.hs,(i,s.f,v)::s.rs⟩) Out.no (fun _ _=> .no 60) (evOp P call o.op s.f ⟨Yb s.qt a s.fl s.h.t,s.h.n⟩))
 (fun P call i _ o s k=>Res.rec (fun v h'=>k v ⟨s.f,⟨s.h.t,h'.n⟩,s.fl,(i,s.h.n,get5 s.h.n h'.t)::s.qt,s.hs,s.rs⟩) Out.no (fun _ _=> .no 60) (evOp P call o.op s.f s.h))
 (fun P call _ a o s k=>Res.rec (fun v h'=>fz (Nat.lor s.fl a) fun fl=>k v ⟨s.f,h',fl,s.qt,snoc s.hs (h',fl),s.rs⟩) Out.no (fun _ _=> .no 60) (evOp P call o.op s.f ⟨Yb s.qt a s.fl s.h.t,s.h.n⟩))
def rA(call:CallF)(i a:Nat)(o:Oper)(s:DS)(k:AV→DS→Out):Out:=Py (kdOf P o.op) P call i a o s k
theorem xX(call:CallF)(i a:Nat)(o:Oper)(s:DS)(k:AV→DS→Out):rA P call i a o s k=rK P call i a o s k:=by
 unfold rA rK;cases kdOf P o.op<;>rfl
def lg(call:CallF)(n:Nat)(ops:Array Oper)(l:List Oper):Nat→List Nat→DS→(DS→Out)→Out:=
 List.rec (fun _ _ s k=>k s) (fun o _ ih i ms s k=>List.rec (.no 42) (fun a ms' _=>
  jM ops o.guard s.f
   (rA P call i a o s fun v s'=>setO n o.dst v s'.f fun f'=>ih (Nat.succ i) ms' ⟨f',s'.h,s'.fl,s'.qt,s'.hs,s'.rs⟩ k)
   (setO n o.dst (.tp []) s.f fun f'=>ih (Nat.succ i) ms' ⟨f',s.h,s.fl,s.qt,Bool.rec s.hs (snoc s.hs (s.h,s.fl)) (Yw (kdOf P o.op)),s.rs⟩ k) (.no 42)) ms) l
def r4(call:CallF)(n:Nat)(ops:Array Oper)(f:Fr)(h:Hp):Out:=
 Bool.rec (.no 43) (lg P call n ops ops.toList 0 (ancM ops.toList []) ⟨f,h,0,[],[(h,0)],[]⟩ fun s=>
  rz P call s.h.n s.qt s.rs s.hs (.nx s.f ⟨Yb s.qt (Nat.sub (Nat.pow 2 ops.size) 1) s.fl s.h.t,s.h.n⟩) (winM P (movM P ops.toList 0) (ancM ops.toList []) ops.toList (ancM ops.toList []) 0)) (yD P n ops (ancM ops.toList []))
def yz(call:CallF)(n:Nat)(ops:Array Oper)(draw:Bool):Fr→Hp→Out:=
 Bool.rec (xOps ops.toList P call n ops) (r4 P call n ops) draw
theorem ve(call:CallF)(n:Nat)(ops:Array Oper):yz P call n ops false=jn P call n ops ops.toList:=Hf ..
def sq(o:Out)(k:Fr→Hp→Out):Out:=Out.rec k Out.ex Out.rt Out.no Out.pn o
def blkO(id:Nat)(o:Out):Out:=Out.rec Out.nx (fun i f h=>Bool.rec (.ex i f h) (.nx f h) (Nat.beq i id)) Out.rt Out.no Out.pn o
def iter(n:Nat)(b:Fr→Hp→Out):Fr→Hp→Out:=Nat.rec (fun _ _=> .no 44) (fun _ ih f h=>sq (b f h) ih) n
def sf(c:Operand)(a b:Fr→Hp→Out)(f:Fr)(h:Hp):Out:=match opd f c with
 |.b t=>Bool.rec (b f h) (a f h) t
 |_=> .no 45
def Qj(call:CallF)(n:Nat)(c:Code):Fr→Hp→Out:=
 Code.rec (motive:=fun _=>Fr→Hp→Out) Out.nx (fun _ ops draw=>yz P call n ops draw) (fun _ _ a b f h=>sq (a f h) b) (fun c _ _ a b=>sf c a b)
  (fun id _ b f h=>blkO id (b f h)) (fun _ b=>iter 1000000 b) (fun _ _ _ _ _ _ _ _=> .no 84) (fun id f h=> .ex id f h) (fun _ b=>b) (fun _=>Out.nx) (fun _ _ _=> .no 49) Out.rt (fun _ _ _=> .no 50) c
def lpB(busy:Bool)(n:Nat)(ps:List Tmp)(a b:Code)(f:TF AV):Blk:=⟨0,true,false,[],.lp busy n ps a b f⟩
def Fk(n:Nat)(ps:List Tmp):List AV→Fr→(Fr→Res)→Res:=
 List.rec (fun l f k=>List.rec (k f) (fun _ _ _=> .no 81) l) (fun t _ ih l f k=>List.rec (.no 81) (fun a r _=>Bool.rec (.no 81) (ih r (setF t a f) k) (Nat.blt t n)) l) ps
def nR(call:CallF)(id:Nat)(args:List AV)(h:Hp):Res:=
 getL h id (fun busy n ps a b f=>Bool.rec (Fk n ps args f fun f1=>
  Out.rec (fun f2 h2=>getL h2 id (fun busy2 n2 ps2 a2 b2 g2=>Bool.rec
   (Out.rec (fun _ h3=>getL h3 id (fun busy3 n3 ps3 a3 b3 g3=>Bool.rec (.no 83) (.ok (.b true) (putB h3 id (some (lpB false n3 ps3 a3 b3 g3)))) busy3) (.no 83)) (fun _ _ _=> .no 83) (fun _ _=> .no 83) Res.no (fun _ _ _=> .no 83)
    (Qj P call n b f2 (putB h2 id (some (lpB true n2 ps2 a2 b2 g2))))) (.no 83) busy2) (.no 83)) (fun _ _ _=> .no 83) (fun _ _=> .no 83) Res.no (fun _ _ _=> .no 83) (Qj P call n a f1 h)) (.no 82) (busy||Nat.blt 4096 n)) (.no 82)
def Bo(c:Code):Option (Code×Nat×Operand×List Tmp×Code×Code):=match c with
 |.seq u (.block id (.rangeFunc g ps a b))=>some (u,id,g,ps.toList,a,b)
 |_=>none
def ot(c:Code):Option (List Code×(Code×Nat×Operand×List Tmp×Code×Code)×Code):=
 Code.rec (motive:=fun _=>Option (List Code×(Code×Nat×Operand×List Tmp×Code×Code)×Code)) none (fun _ _ _=>none)
  (fun x y _ ih=>match Bo x with
   |some d=>some ([],d,y)
   |none=>Option.rec none (fun p=>some (x::p.1,p.2)) ih)
  (fun _ _ _ _ _=>none) (fun _ _ _=>none) (fun _ _=>none) (fun _ _ _ _ _ _=>none) (fun _=>none) (fun _ _=>none) (fun _=>none) (fun _=>none) none (fun _=>none) c
def yb(call:CallF)(n:Nat)(l:List Code):Fr→Hp→(Fr→Hp→Res)→Res:=
 List.rec (fun f h k=>k f h) (fun c _ ih f h k=>Out.rec (fun f h=>ih f h k) (fun _ _ _=> .no 87) (fun _ _=> .no 87) Res.no (fun _ _ _=> .no 87) (Qj P call n c f h)) l
def q7(l:List AV):Nat→Fr:=List.rec (fun _=>A5 .u) (fun a _ ih i=>setF i a (ih (Nat.succ i))) l
def resA(f:Fr)(h:Hp)(r:ResultVar)(k:AV→Res):Res:=match r with
 |.tmp t=>k (opd f (.tmp t))
 |.cell p t=>Res.rec (fun v _=>k v) Res.no (fun _ _=> .no 60) (Q1 P t (.tmp p) f h)
def resL(f:Fr)(h:Hp)(l:List ResultVar):(List AV→Res)→Res:=List.rec (fun k=>k []) (fun r _ ih k=>resA P f h r fun v=>ih fun vs=>k (v::vs)) l
def finR(f:Fr)(h:Hp)(l:List ResultVar):Res:=resL P f h l fun vs=>List.rec (.ok (.tp []) h) (fun v r _=>List.rec (.ok v h) (fun _ _ _=> .ok (.tp vs) h) r) vs
def vn(call:CallF)(n:Nat)(c:Code)(rs:List ResultVar)(f:Fr)(h:Hp):Res:=
 Out.rec (fun f h=>finR P f h rs) (fun _ _ _=> .no 53) (fun f h=>finR P f h rs) Res.no (fun v _ h=> .pn v h) (Qj P call n c f h)
def Eg(call:CallF)(n:Nat)(g:Operand)(ps:List Tmp)(a b rest:Code)(rs:List ResultVar)(f:Fr)(h:Hp):Res:=match opd f g with
 |.fn k cap=>newB h (lpB false n ps a b f) fun id h2=>Res.rec (fun _ h3=>getL h3 id (fun busy _ _ _ _ _=>Bool.rec (vn P call n rest rs f (putB h3 id none)) (.no 86) busy) (.no 86)) Res.no (fun _ _=> .no 86) (call.run k (.yv id::cap) h2)
 |_=> .no 85
def Ch(call:CallF)(n:Nat)(c:Code)(rs:List ResultVar)(f:Fr)(h:Hp):Res:=match ot c with
 |none=>vn P call n c rs f h
 |some s=>yb P call n s.1 f h fun f h=>yb P call n [s.2.1.1] f h fun f h=>Eg P call n s.2.1.2.2.1 s.2.1.2.2.2.1 s.2.1.2.2.2.2.1 s.2.1.2.2.2.2.2 s.2.2 rs f h
def Bw(call:CallF)(k:FuncId)(args:List AV)(h:Hp):Res:=match P.funcs[k]? with
 |none=> .no 51
 |some fn=>match fn.body with
  |none=> .no 1000
  |some c=>Bool.rec (.no 52) (Ch P call fn.ntmps c fn.results.toList (q7 args 0) h)
    (Nat.ble fn.ntmps 4096&&Nat.ble (len args) fn.ntmps && !(fn.name == "runtime.NumGoroutine"))
abbrev Prim:=FuncId→Option (List AV→Hp→Res)
def iv(pr:Prim)(ex:FuncId→Nat)(n:Nat):CallF:=Nat.rec ⟨fun _ _ _=> .no 54,ex,fun _ _ _=> .no 54⟩
 (fun _ ih=>⟨fun k args h=>Option.rec (Bw P ih k args h) (fun p=>p args h) (pr k),ex,nR P ih⟩) n
def Qn(pr:Prim)(ex:FuncId→Nat)(n:Nat):FuncId→List AV→Hp→Res:=(iv P pr ex n).run
end
end Go.Ev
