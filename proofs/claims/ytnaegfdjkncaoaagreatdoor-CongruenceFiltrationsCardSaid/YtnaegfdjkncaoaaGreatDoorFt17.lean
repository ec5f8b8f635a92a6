/- Part 17 of the texts for the claim. -/
import Derived.Test.YtnaegfdjkncaoaaGreatDoorFt16
set_option linter.unusedVariables false
set_option linter.unusedSimpArgs false
set_option maxRecDepth 100000
set_option maxHeartbeats 4000000
noncomputable section
namespace Go.Wf
open Go Go.Proofs Go.RowKit
theorem ph{l p:List GRat}{k i:Nat}(hp:p=((l.drop k).take (i-k)).map nrm)(a:k≤i)(b:i<l.length):p++[ofQ (l.getD i default).q]=((l.drop k).take (i+1-k)).map nrm:=by
 have h:=pd (l:=l) (k:=k) (i:=i-k) (by omega);rw[lF,show k+(i-k)=i by omega] at h;rw[hp,h,show i+1-k=i-k+1 by omega]
theorem tR{l p:List GRat}{k i:Nat}(hp:p=((l.drop k).take (i-k)).map nrm)(h:l.length≤2000):p.length≤2000:=by
 rw[hp,W4,UH,UG];omega
theorem CJ{l p:List GRat}{k i:Nat}{x:GRat}(hp:p=((l.drop k).take (i-k)).map nrm)(h:l.length≤2000):p.length+[x].length≤maxLen:=by
 have:=tR hp h
 simp[maxLen];omega
theorem wg{l p:List GRat}{k i:Nat}{x:GRat}(hp:p=((l.drop k).take (i-k)).map nrm)(h:l.length≤2000):(p.length+[x].length)*64≤140737488355328:=by
 have:=tR hp h
 simp;omega
theorem uv{m:Int}{l p:List GRat}{k i:Nat}(hz:nz l=k)(hp:p=((l.drop k).take (i-k)).map nrm)(a:k≤i)(b:i≤l.length)(h:¬i<l.length):(⟨m+(k:Nat),p⟩:GSer)=bld m l:=by
 unfold bld;rw[hz,hp,UU (by rw[UG];omega)]
theorem pj(a:GSer):a.fr≤ordM a∧ordM a≤a.fr+(a.cs.length:Nat):=by
 have:=lu a.cs
 unfold ordM;constructor<;>omega
theorem Er{a b:GSer}{p:List GRat}{j:Nat}(hia:intC a)(hib:intC b)(hp:p=mulL a b j)(hj:j≤12)(hc:∀j,j≤12→cntM a b (ordM a+ordM b+(j:Nat))≤1000:=by intro j hj;unfold cntM;omega):szL 1000 p:=by
 intro i hi;rw[hp,ib] at hi;have e:p.getD i default=ofQ (sumQ a b (ordM a+ordM b+(i:Nat))<|cntM a b<|ordM a+ordM b+(i:Nat)):=by
  rw[hp];unfold mulL;rw[UJ,VA,WZ hi];rfl
 rw[e]
 have:=mQ hia hib (n:=ordM a+ordM b+((i:Nat):Int)) (hc i (by omega)) rfl
 omega
theorem Ei{a b:GSer}{p:List GRat}{j:Nat}(hp:p=mulL a b j)(hj:j≤(Ku a b-(ordM a+ordM b)).toNat)(h:¬j<(Ku a b-(ordM a+ordM b)).toNat):bld (ordM a+ordM b) p=mulM a b:=by
 rw[hp,show j=(Ku a b-(ordM a+ordM b)).toNat by omega];rfl
theorem IJ{X:Nat→Prop}{w:World}(hX:XB X w){v0:Value}{a:GRat}(L:RV Jj X w v0 a){v1:Value}{b:GRat}(M:RV Jj X w v1 b)(hln:a.num.mag.length≤100000)(hld:a.den.mag.length≤100000)(hlm:b.num.mag.length≤100000)(hle:b.den.mag.length≤100000):CRt 31 #[v0,v1] w fun v w'=>RV Jj X w' v (ofQ (a.q*b.q)):=by
 obtain⟨N,P,Q,R,rfl,z,A⟩:=TN L;obtain⟨T,U,V,B,rfl,k,l⟩:=TN M;have C:=Cx.start hX;have sn:=L.rat_small.1;have sd:=L.rat_small.2;have sm:=M.rat_small.1;have se:=M.rat_small.2;have hN:=Jv sn;have hD:=Jv sd;have hM:=Jv sm;have hE:=Jv se;have m1:=Yj (x:=a.num.toZ) (y:=b.num.toZ);have m2:=Yj (x:=a.den.toZ) (y:=b.den.toZ);refine Cgo Tryz.func31 rfl rfl rfl (Rg<|Ol<|R9 C rfl ?_);intro G aP aQ aR aK ad s i;refine Ol (R9 ad rfl ?_);intro H aS aT aU aL ae m u;have z:=(z.sp s).sp m;have A:=(A.sp s).sp m;have k:=(k.sp s).sp m;have l:=(l.sp s).sp m;have i:=i.spn m;refine Ol (RR ae io42 rfl ?_);intro aV aW aX aY aM af j o;refine Nl<|RZ<|Sg mixed 9 [[],[0],[],[2],[1,3],[],[5],[],[7]] af [fx<|.pointer (some ⟨G,0,none⟩),fx<|.agg #[(.bool a.num.neg),(.slice N a.num.mag.length P)],fx<|.pointer (some ⟨H,0,none⟩),fx<|.agg #[(.bool b.num.neg),(.slice T b.num.mag.length U)],fr Jo<|ofZ<|a.num.toZ*b.num.toZ,fx<|.pointer (some ⟨G,2,none⟩),fx<|.agg #[(.bool a.den.neg),(.slice Q a.den.mag.length R)],fx<|.pointer (some ⟨H,2,none⟩),fx<|.agg #[(.bool b.den.neg),(.slice V b.den.mag.length B)]] (by kernel_rfl) ⟨sx,sx,sx,sx,sr,sx,sx,sx,sx,trivial⟩ fun ag g aZ ⟨e,h⟩ f=>?_
 have z:=(z.sp j).sp h;have A:=(A.sp j).sp h;have k:=(k.sp j).sp h;have l:=(l.sp j).sp h;have i:=(i.spn j).spn h;have u:=(u.spn j).spn h;have o:=o.spn h;have f:Keep [5,6,7,8,9,10,11,12,13] _ ag:=f;refine⟨⟨fun _=>?_,fun⟨ah,_⟩=>?_,fun _=>?_,fun⟨ai,_⟩=>?_,fun⟨aj,ak,_⟩=>?_,fun _=>?_,fun⟨al,_⟩=>?_,fun _=>?_,fun⟨am,_⟩=>?_,trivial⟩,fun⟨an,ao,aq,ar,au,av,aw,ax,ay,_⟩=>?_⟩
 ·exact Sd0 f fun _=>RI Ko rfl ⟨g,RJ e,rfl⟩
 ·exact Sd1 f ah fun _=>RX (vs:=(zzC a.num N P)) i ag40 rfl rfl rfl ⟨g,RJ e,rfl⟩
 ·exact Sd0 f fun _=>RI Ko rfl ⟨g,RJ e,rfl⟩
 ·exact Sd1 f ai fun _=>RX (vs:=(zzC b.num T U)) u ag40 rfl rfl rfl ⟨g,RJ e,rfl⟩
 ·refine Js f (aC aj<|aC ak aN) fun _=>R8 (RH e cb68 rfl rfl (u7 e.bd (a:=a.num) (Je z) (b:=b.num) (Je k) (by omega) (by omega)) ?_);intro a0 a2 az aA aB;exact⟨g,⟨az,aA⟩,aB⟩
 ·exact Sd0 f fun _=>RI Yi rfl ⟨g,RJ e,rfl⟩
 ·exact Sd1 f al fun _=>RX (vs:=(zzC a.den Q R)) i ag40 rfl rfl rfl ⟨g,RJ e,rfl⟩
 ·exact Sd0 f fun _=>RI Yi rfl ⟨g,RJ e,rfl⟩
 ·exact Sd1 f am fun _=>RX (vs:=(zzC b.den V B)) u ag40 rfl rfl rfl ⟨g,RJ e,rfl⟩
 obtain⟨a4,a5,aD,D⟩:=RV.int au;obtain⟨a6,rfl⟩:=mixK f (aC an<|aC ao<|aC aq<|aC ar<|aC aD<|aC av<|aC aw<|aC ax<|aC ay aN);refine Ol (RH e cb68 rfl rfl (u7 e.bd (a:=a.den) (Je A) (b:=b.den) (Je l) (by omega) (by omega)) ?_);intro a8 ba I J aE;have D:=D.sp J;obtain⟨bb,be,rfl,aF⟩:=RV.int aE;refine Ol (RH I cb66 rfl rfl (tS I.bd (n:=(ofZ<|a.num.toZ*b.num.toZ)) (Je D) (d:=(ofZ<|a.den.toZ*b.den.toZ)) (Je aF) (by omega) (by omega)) ?_);intro bf bg aG aH K;have o:=(o.spn J).spn aH;simp only[Jl,Zq] at K;obtain⟨aI,aJ,Y,Z,rfl,p,r⟩:=TN K;refine On (Us (cs':=(qqC (ofQ<|Rat.divInt (a.num.toZ*b.num.toZ)<|a.den.toZ*b.den.toZ) aI aJ Y Z)) aG o io42 ?_);intro aO E F aa;have p:=p.sp F;have r:=r.sp F;refine Nl (RY<|J0 rfl (TL aa rfl ag42 rfl)<|RM ?_ E.below);exact TM (a:=(ofQ<|Rat.divInt (a.num.toZ*b.num.toZ)<|a.den.toZ*b.den.toZ)) ((J2 p r).tr (Tr.weak E.base))<|congrArg ofQ<|CN a b
theorem u4{X:Nat→Prop}{w:World}(hX:XB X w){h:Value}{a:GSer}(i:RV Zu X w h a)  :CRt 63 #[h] w fun v w'=>v=(.int .i64 (if Zd a then 0 else 2)):=by
 obtain⟨j,k,rfl,m,n,p⟩:=TO i;have C:=Cx.start hX;have hml:maxLen=9223372036854775807:=rfl;refine Cgo Tryz.func63 rfl rfl rfl (Rg<|Ol<|R9 C rfl ?_);intro r s u x l f o g;refine Ua<|Rh<|Ol<|RI Y9 rfl<|Ol<|RN g pl3 rfl rfl<|Ol<|Sb rfl rfl (fun b=>?_)<|fun b=>?_
 ·exact Om<|Oz<|Oz<|Oz<|OT<|Om<|Oz<|Oz<|Oz<|Oz<|Oz<|Oz<|Oz<|OT<|Nl<|Uf<|Ua<|RY<|Wq rfl rfl f<|congrArg (Value.int _)<|H4 b
 refine Om<|OgD<|RI Y9 rfl<|OgD<|RN g pl3 rfl rfl<|OgD<|Sx rfl rfl (fun d=>?_)<|fun d=>?_
 ·exact OF<|Om<|Oz<|Oz<|Oz<|Oz<|Oz<|Oz<|Oz<|OT<|Nl<|Uf<|Ua<|RY<|Wq rfl rfl f<|congrArg (Value.int _)<|L9 d
 refine OF<|Om<|OgD<|RI Kq rfl<|OgD<|RN g pl27 rfl rfl<|OgD<|St.len sl27 rfl<|OgD<|RI Y9 rfl<|OgD<|RN g pl3 rfl rfl<|OgD<|St.sub (z:=(1000-a.fr)) rfl rfl (UP _ (by omega))<|OgD<|Sx rfl rfl (fun e=>?_)<|fun e=>?_
 ·exact OF<|Nl<|Uf<|Ua<|RY<|Wq rfl rfl f<|congrArg (Value.int _)<|HN e
 exact OF<|Nl<|Uc<|Rg<|Ua<|RY<|Wq rfl rfl f<|congrArg (Value.int _)<|Hx b d e
theorem PP{X:Nat→Prop}{w:World}(hX:XB X w){m:Value}{a:GSer}(F:RV Zu X w m a){n:Value}{b:GSer}(G:RV Zu X w n b)(hv:Zd a=true)(hu:Zd b=true):CRt 26 #[m,n] w fun v w'=>v=(.int .i64 0):=by
 obtain⟨o,p,rfl,r,s,l⟩:=TO F;obtain⟨u,x,rfl,y,z,d⟩:=TO G;have C:=Cx.start hX;refine Cgo Tryz.func26 rfl rfl rfl (Rg<|Ol<|R9 C rfl ?_);intro I J K L H A h e;have d:=d.sp h;refine Ol (R9 A rfl ?_);intro M N P Q lt23 i f g;have l:=(l.sp h).sp f;have e:=e.spn f;refine Oa (Nl<|Rh<|Ol<|Uo (vs:=(ssC a o p)) e ag29<|Ol<|RH i cb63 rfl rfl (u4 i.bd (a:=a)<|Zm r s l) ?_);intro R T j k B;have d:=(d.sp f).sp k;have g:=g.spn k;subst B;refine Oa (Nl<|Rg<|Ub<|SK (t:=false) rfl rfl (by rw[decide_eq_true (by rw[if_pos hv])];rfl)<|Nl<|Uc<|Rg<|Ol<|Uo (vs:=(ssC b u x)) g ag29<|Ol<|RH j cb63 rfl rfl (u4 j.bd (a:=b)<|Zm y z d) ?_);intro U V D Y E;subst E;exact Ua<|RY<|Wq rfl rfl D<|congrArg (Value.int _)<|(by rw[if_pos hu])
theorem tP{X:Nat→Prop}{w:World}(hX:XB X w){d:Value}{a:GSer}(f:RV Zu X w d a)(hv:Zd a=true):CRt 28 #[d] w fun v w'=>v=(.int .i64 (a.fr+(a.cs.length:Nat))):=by
 obtain⟨g,h,rfl,j,k,m⟩:=TO f;have C:=Cx.start hX;obtain⟨n,o,p⟩:=X1 hv;refine Cgo Tryz.func28 rfl rfl rfl (Rg<|Ol<|R9 C rfl ?_);intro r s u x i e l b;refine Ua<|Rg<|Ol<|RI Y9 rfl<|Ol<|RN b pl3 rfl rfl<|Ol<|RI Kq rfl<|Ol<|RN b pl27 rfl rfl<|Ol<|St.len sl27 rfl<|Ol<|St.add (z:=(a.fr+((a.cs.length:Nat):Int))) rfl rfl (UP _ (by omega))<|Ua<|RY<|J0 rfl (resV.t rfl)<|RM ?_ e.below
 rfl
theorem CQ{X:Nat→Prop}{w:World}(hX:XB X w){i:Value}{a:GRat}(u:RV Jj X w i a)(hln:a.num.mag.length≤1001)(hld:a.den.mag.length≤1001):CRt 64 #[i] w fun v w'=>v=(.bool (decide (a.q=0))):=by
 obtain⟨j,k,l,m,rfl,g,h⟩:=TN u;have C:=Cx.start hX;refine Cgo Tryz.func64 rfl rfl rfl (Rg<|Ol<|R9 C rfl ?_);intro F G H y x e f n;have g:=g.sp f;have h:=h.sp f;refine Oa (Nl<|Rg<|Ol<|Uo (vs:=(qqC a j k l m)) n ag42<|Ol<|RH e cb65 rfl rfl (Xu e.bd (a:=a) (J2 g h) (by omega) (by omega)) ?_);intro z A o B p;obtain⟨b,d,r,s,rfl,D,E⟩:=TN p;refine Ol (S9 (cs:=(qqC (ofQ a.q) b d r s)) (ds:=(zzC ((ofQ a.q).num) b d)) M3 ag40 rfl rfl<|Ol<|Ts (cs:=(zzC ((ofQ a.q).num) b d)) HW pl38 rfl rfl ?_);exact Ol<|St.len sl38 rfl<|Ol<|SW rfl rfl rfl<|Ua<|RY<|Wq rfl rfl o<|congrArg (Value.bool)<|EH
theorem rg{X:Nat→Prop}{w:World}(hX:XB X w){D:Value}{a:GSer}(Y:RV Zu X w D a)(hv:Zd a=true)(hsz:szL 1000 a.cs):CRt 27 #[D] w fun v w'=>v=(.int .i64 (ordM a)):=by
 obtain⟨m,n,rfl,E,F,e⟩:=TO Y;have C:=Cx.start hX;obtain⟨v1,v2,v3⟩:=X1 hv;refine Cgo Tryz.func27 rfl rfl rfl (Rg<|Ol<|R9 C rfl ?_);intro G w7 x8 y9 Z H I J;have e:=e.sp I;refine Oa (Nl<|Rh<|Ua<|W.block<|Sc (fun μ f v=>∃(x y:Nat→Prop) (i:Nat),Cx X w x y v∧f 1=(.pointer (some ⟨G,0,none⟩))∧f 3=(.int .i64 ((i:Nat):Int))∧RS Jj x v (.slice m a.cs.length n) a.cs∧Own w y v G (ssC a m n) 29∧i≤a.cs.length∧nz a.cs=i+nz (a.cs.drop i)∧μ=(a.cs.length-i)) _ ⟨_,_,0,H,rfl,rfl,e,J,(UN _),(by rw[WN];omega),rfl⟩ ?_);rintro ab ac ad ⟨ae,af,i,h,o,p,e,d,hi,hn,V⟩;obtain⟨ag,rfl⟩:=rebK (aC o<|aC p aN);clear o p;refine Rh<|Ub<|RI Kq rfl<|Ol<|RN d pl27 rfl rfl<|Ol<|St.len sl27 rfl<|Ol<|Sb rfl rfl (fun B=>?_)<|fun B=>?_
 ·refine Nl (Ud<|RT<|RZ<|W.block<|Rg<|Ol<|RI Kq rfl<|Ol<|RN d pl27 rfl rfl<|Ub<|Sd (j:=i) (u:=(a.cs.getD i default)) e sl27 io42 rfl rfl rfl (Ji (by omega)) ?_);intro ah ai aa r;obtain⟨K,L,M,N,rfl,P,Q⟩:=Zh r.rd;refine Ol (Sv (cs:=(qqC (a.cs.getD i default) K L M N)) ag42 rfl rfl r.cell<|Ol<|Sm<|RH h cb64 rfl rfl (CQ h.bd (a:=(a.cs.getD i default)) (J2 P Q) (UC (hsz i (by omega)).1 (by decide))<|UC (hsz i (by omega)).2 (by decide)) ?_);intro aj ak s A R;have e:=e.sp A;have d:=d.spn A;refine⟨_,R,fun g=>?_,fun g=>?_⟩
  ·refine Ol<|Sr rfl<|Nl<|Uc<|RK<|Ub<|St.add rfl rfl (Jc (a:=i) (b:=1) (by omega))<|Ua<|⟨_,(by omega),_,_,(i+1),s,rfl,rfl,e,d,(by omega),(by have:=pM (l:=a.cs) (k:=i) (by omega) (of_decide_eq_true g);omega),rfl⟩
  exact Ol<|Sr rfl<|Nl<|Uf<|Ol<|RI Y9 rfl<|Ol<|RN d pl3 rfl rfl<|Ub<|St.add (z:=(a.fr+((i:Nat):Int))) rfl rfl (UP _ (by omega))<|Ua<|RY<|Wq rfl rfl s<|congrArg (Value.int _)<|(by have:=om (l:=a.cs) (k:=i) (by omega) (of_decide_eq_false g);unfold ordM;omega)
 refine Nl (Ue<|Sf<|Rg<|Ol<|Uo (vs:=(ssC a m n)) d ag29<|Ol<|RH h cb28 rfl rfl (tP h.bd (a:=a) (Zm E F e) (by omega)) ?_);intro al am T an U;subst U;exact Ua<|RY<|Wq rfl rfl T<|congrArg (Value.int _)<|(by have:=sT hi (by omega);unfold ordM;omega)
theorem Cp{X:Nat→Prop}{w:World}(hX:XB X w){G:Value}{a:GSer}(r0:RV Zu X w G a){n:Int}(hv:Zd a=true)(hsz:szL 1000 a.cs)(hT:T10 X w)(az: -2000≤n)(aA:n≤2000):CRt 32 #[G,(.int .i64 n)] w fun v w'=>RV Jj X w' v (cofM a n):=by
 obtain⟨a1,c2,rfl,aB,aD,F⟩:=TO r0;have C:=Cx.start hX;obtain⟨v1,v2,v3⟩:=X1 hv;refine Cgo Tryz.func32 rfl rfl rfl (Rg<|Ol<|R9 C rfl ?_);intro g6 w7 x8 y9 aw H r d;refine Ol (RR H io42 rfl ?_);intro aE aF aG aH ax e f b;have F:=(F.sp r).sp f;have hT:=(hT.sp r).sp f;have d:=d.spn f;refine Nl<|Rh<|Ub<|RI Y9 rfl<|Ol<|RN d pl3 rfl rfl<|Ol<|Sb rfl rfl (fun g=>?_)<|fun g=>?_
 ·refine Om (Oz<|Oz<|Oz<|Oz<|Oz<|Oz<|Oz<|Oz<|OT<|Nl<|Uf<|Ol<|RH e cb11 rfl rfl (x_Q e.bd hT (by decide) (by decide)) ?_);intro aI aJ I J K;have b:=b.spn J;obtain⟨L,M,N,P,rfl,h,i⟩:=TN K;refine On (Us (cs':=(qqC (ofQ<|Rat.divInt 0 1) L M N P)) I b io42 ?_);intro aK s x Q;have h:=h.sp x;have i:=i.sp x;refine Nl (RY<|J0 rfl (TL Q rfl ag42 rfl)<|RM ?_ s.below);exact TM (a:=(ofQ<|Rat.divInt 0 1)) ((J2 h i).tr (Tr.weak s.base))<|(MP g)
 refine Om<|OgD<|RP<|OgD<|RI Y9 rfl<|OgD<|RN d pl3 rfl rfl<|OgD<|RI Kq rfl<|OgD<|RN d pl27 rfl rfl<|OgD<|St.len sl27 rfl<|OgD<|St.add (z:=(a.fr+((a.cs.length:Nat):Int))) rfl rfl (UP _ (by omega))<|OgD<|SB rfl rfl (fun k=>?_)<|fun k=>?_
 ·refine OF (Nl<|Uf<|Ol<|RH e cb11 rfl rfl (x_Q e.bd hT (by decide) (by decide)) ?_);intro aL aM R T U;have b:=b.spn T;obtain⟨V,Y,Z,aa,rfl,l,m⟩:=TN U;refine On (Us (cs':=(qqC (ofQ<|Rat.divInt 0 1) V Y Z aa)) R b io42 ?_);intro aO y A ab;have l:=l.sp A;have m:=m.sp A;refine Nl (RY<|J0 rfl (TL ab rfl ag42 rfl)<|RM ?_ y.below);exact TM (a:=(ofQ<|Rat.divInt 0 1)) ((J2 l m).tr (Tr.weak y.base))<|(MC k)
 refine OF (Nl<|Uc<|Rg<|Ol<|RI Kq rfl<|Ol<|RN d pl27 rfl rfl<|Ub<|RI Y9 rfl<|Ol<|RN d pl3 rfl rfl<|Ol<|St.sub (z:=(n-a.fr)) rfl rfl (UP _ (by omega))<|Ol<|Sd (j:=(n-a.fr).toNat) (u:=(a.cs.getD ((n-a.fr).toNat) default)) F sl27 io42 rfl rfl (by omega) (Ji (by omega)) ?_);intro aP aQ ay B;obtain⟨ac,ad,ae,af,rfl,ag,ah⟩:=Zh B.rd;refine Ol (Sv (cs:=(qqC (a.cs.getD ((n-a.fr).toNat) default) ac ad ae af)) ag42 rfl rfl B.cell<|Ol<|RH e cb65 rfl rfl (Xu e.bd (a:=(a.cs.getD ((n-a.fr).toNat) default)) (J2 ag ah) (UC (hsz (n-a.fr).toNat (by omega)).1 (by decide))<|UC (hsz (n-a.fr).toNat (by omega)).2 (by decide)) ?_);intro aR aS ai aj ak;have b:=b.spn aj;obtain⟨al,am,an,ao,rfl,o,p⟩:=TN ak;refine On (Us (cs':=(qqC (ofQ (a.cs.getD ((n-a.fr).toNat) default).q) al am an ao)) ai b io42 ?_);intro aT D E aq;have o:=o.sp E;have p:=p.sp E;refine Nl (RY<|J0 rfl (TL aq rfl ag42 rfl)<|RM ?_ D.below);exact TM (a:=(ofQ (a.cs.getD ((n-a.fr).toNat) default).q)) ((J2 o p).tr (Tr.weak D.base))<|(HK (by omega) (by omega))
theorem wi{X:Nat→Prop}{w:World}(hX:XB X w){m:Int}{v1:Value}{l:List GRat}(d:RS Jj X w v1 l)(fG: -100≤m)(fH:m+(l.length:Nat)≤1000)(hsz:szL 1000 l):CRt 33 #[(.int .i64 m),v1] w fun v w'=>(∃v0 v1,v= .tuple #[v0,v1]∧(RV Zu X w' v0 (bld m l))∧(v1=(.int .i64 0))):=by
 obtain⟨F,G,rfl,_,_⟩:=d.len;have C:=Cx.start hX;have hml:maxLen=9223372036854775807:=rfl;refine Cgo Tryz.func33 rfl rfl rfl (Rg<|Ol<|RR C io29 rfl ?_);intro J w4 x5 y6 fJ C8 s9 dp;have d:=d.sp s9;refine Oa (Nl<|Rg<|Om<|Ub<|St.len sl27 rfl<|Ol<|St.add (z:=(m+((l.length:Nat):Int))) rfl rfl (UP _ (by omega))<|Ua<|Rh<|Ub<|SM (t:=false) rfl rfl (decide_eq_false (by omega))<|Nl<|Ue<|RT ?_);refine Rg<|Ua<|RZ<|SX (fun f v=>∃(x y:Nat→Prop) (k:Nat),Cx X w x y v∧f 0=(.int .i64 m)∧f 1=(.slice F l.length G)∧f 4=(.pointer (some ⟨J,0,none⟩))∧f 5=(.int .i64 0)∧f 6=(.int .i64 (m+((l.length:Nat):Int)))∧f 7=(.int .i64 ((k:Nat):Int))∧RS Jj x v (.slice F l.length G) l∧Own w y v J [(.int .i64 0),(.slice none 0 0)] 29∧k≤l.length∧nz l=k) ?_ ?_
 ·refine W.block (Sc (fun μ f v=>∃(x y:Nat→Prop) (k:Nat),Cx X w x y v∧f 0=(.int .i64 m)∧f 1=(.slice F l.length G)∧f 4=(.pointer (some ⟨J,0,none⟩))∧f 5=(.int .i64 0)∧f 6=(.int .i64 (m+((l.length:Nat):Int)))∧f 7=(.int .i64 ((k:Nat):Int))∧RS Jj x v (.slice F l.length G) l∧Own w y v J [(.int .i64 0),(.slice none 0 0)] 29∧k≤l.length∧nz l=k+nz (l.drop k)∧μ=(l.length-k)) _ ⟨_,_,0,C8,rfl,rfl,rfl,rfl,rfl,rfl,d,dp,(UN _),(by rw[WN];omega),rfl⟩ ?_);rintro fK fM fO ⟨fP,fR,k,aj,aS,aT,aU,aV,aW,aX,d,K,hk,hn,dH⟩;obtain⟨fS,rfl⟩:=rebK (aC aS<|aC aT<|aC aU<|aC aV<|aC aW<|aC aX aN);clear aS aT aU aV aW aX;refine Rh<|Om<|Ub<|St.len sl27 rfl<|Ol<|Sb rfl rfl (fun bk=>?_)<|fun bk=>?_
  ·refine Om (OgD<|RP<|OgD<|RP<|OgD<|Sd (j:=k) (u:=(l.getD k default)) d sl27 io42 rfl rfl rfl (Ji (by omega)) ?_);intro fT fU dR aY;obtain⟨dq,ds,dt,du,rfl,dv,dw⟩:=Zh aY.rd;refine OgD (Sv (cs:=(qqC (l.getD k default) dq ds dt du)) ag42 rfl rfl aY.cell<|OgD<|Sm<|RH aj cb64 rfl rfl (CQ aj.bd (a:=(l.getD k default)) (J2 dv dw) (UC (hsz k (by omega)).1 (by decide))<|UC (hsz k (by omega)).2 (by decide)) ?_);intro fV fW aZ a0 dx;have d:=d.sp a0;have K:=K.spn a0;refine⟨_,dx,fun N=>?_,fun N=>?_⟩
   ·refine OT<|Nl<|Ud<|RT<|W.block<|RK<|Ub<|St.add rfl rfl (Jc (a:=k) (b:=1) (by omega))<|Ua<|⟨_,(by omega),_,_,(k+1),aZ,rfl,rfl,rfl,rfl,rfl,rfl,d,K,(by omega),(by have:=pM (l:=l) (k:=k) (by omega) (of_decide_eq_true N);omega),rfl⟩
   refine OT<|Nl<|Ue<|Sf<|⟨_,_,k,aZ,rfl,rfl,rfl,rfl,rfl,rfl,d,K,hk,(by have:=om (l:=l) (k:=k) (by omega) (of_decide_eq_false N);omega)⟩
  refine Om<|Oz<|Oz<|Oz<|Oz<|Oz<|OF<|Nl<|Ue<|Sf<|⟨_,_,k,aj,rfl,rfl,rfl,rfl,rfl,rfl,d,K,hk,(by have:=sT hk (by omega);omega)⟩
 rintro fX fY ⟨f0,f1,k,a2,a3,a4,a5,a6,a7,a8,d,E,hk,hz⟩;obtain⟨f2,rfl⟩:=rebK (aC a3<|aC a4<|aC a5<|aC a6<|aC a7<|aC a8 aN);clear a3 a4 a5 a6 a7 a8;refine Rh<|Om<|Ub<|St.len sl27 rfl<|Ol<|Sj rfl rfl (fun bl=>?_)<|fun bl=>?_
 ·refine Nl (Uk<|Om<|Ub<|St.sub (z:=((m+((l.length:Nat):Int))-((k:Nat):Int))) rfl rfl (UP _ (by omega))<|Ua<|Rh<|Om<|Ub<|St.add (z:=(((m+((l.length:Nat):Int))-((k:Nat):Int))+((k:Nat):Int))) rfl rfl (UP _ (by omega)) ?_);refine Ol (SG (t:=false) rfl rfl (decide_eq_false (by omega))<|Nl<|Uc<|Rg<|Om<|Ub<|St.add (z:=(((m+((l.length:Nat):Int))-((k:Nat):Int))+((k:Nat):Int))) rfl rfl (UP _ (by omega))<|Ol<|Si (cs:=[(.int .i64 (((m+((l.length:Nat):Int))-((k:Nat):Int))+((k:Nat):Int))),(.slice none 0 0)]) rfl (by kernel_rfl) ?_);refine Ol (RR a2 io29 rfl ?_);intro ak f3 f4 f5 bm dy a9 dz;have ba:=bm _ E.blk.lt;refine On (Us (cs':=[(.int .i64 (((m+((l.length:Nat):Int))-((k:Nat):Int))+((k:Nat):Int))),(.slice none 0 0)]) dy dz io29 ?_);intro f6 dB bb dC;have d:=(d.sp a9).sp bb;have E:=(E.spn a9).spo bb ba;refine Nl (Rh<|Om<|Ua<|W.block<|Sc (fun μ f v=>∃(x y:Nat→Prop) (i:Nat) (p:List GRat) (pa:Option Addr) (pc:Nat),Cx X w x y v∧f 1=(.slice F l.length G)∧f 4=(.pointer (some ⟨J,0,none⟩))∧f 5=(.int .i64 0)∧f 8=(.pointer (some ⟨ak,0,none⟩))∧f 9=(.int .i64 ((i:Nat):Int))∧RS Jj x v (.slice F l.length G) l∧OS Jj 42 w x y v (.slice pa p.length pc) p∧Own w y v J [(.int .i64 0),(.slice none 0 0)] 29∧Own w y v ak [(.int .i64 (((m+((l.length:Nat):Int))-((k:Nat):Int))+((k:Nat):Int))),(.slice pa p.length pc)] 29∧k≤i∧i≤l.length∧p=((l.drop k).take (i-k)).map nrm∧μ=(l.length-i)) _ ⟨_,_,k,[],none,0,dB,rfl,rfl,rfl,rfl,rfl,d,OS.nil,E,dC,(UM _),hk,(by rw[ZV];rfl),rfl⟩ ?_);rintro f7 f8 dD ⟨dE,B,i,p,pa,pc,be,bf,bg,bh,bi,bj,d,hP,L,I,M,al,hp,dI⟩;obtain⟨f9,rfl⟩:=rebK (aC bf<|aC bg<|aC bh<|aC bi<|aC bj aN);clear bf bg bh bi bj;refine Rh<|Om<|Ub<|St.len sl27 rfl<|Ol<|Sb rfl rfl (fun bn=>?_)<|fun bn=>?_
  ·refine Nl (Ud<|RT<|RZ<|W.block<|Te mixed 9 8 [[],[0],[],[],[2,3],[4],[5],[6],[1,7]] be hP [fx<|.pointer (some ⟨ak,1,none⟩),fx<|.slice pa p.length pc,fx<|.slice F l.length G,fx<|.int .i64 ((i:Nat):Int),fE Jj<|l.getD i default,fr Jj<|l.getD i default,fr Jj<|ofQ (l.getD i default).q,fs Jj [(ofQ (l.getD i default).q)],fo Jj 42 w<|p++[(ofQ (l.getD i default).q)]] (by kernel_rfl) ⟨sx,sx,sx,sx,aEl,aRv,aRv,aSl,so,trivial⟩ ?_);rintro bo ⟨o,bp⟩ P Q g;have ey:B=bp:=Q.yy.symm;subst ey;have r:Cx X w o B P:=Q.cx;have R:Ap dE dD o B P:=Q.ap;have d:=d.tr R.tx;replace I:=I.ap R I.mem;have g:Keep [57,58,59,60,61,62,63,64,65] _ bo:=g;refine⟨⟨fun _ _=>?_,fun⟨bq,_⟩ _=>?_,fun _ _=>?_,fun _ _=>?_,fun⟨br,bs,_⟩ _=>?_,fun⟨bt,_⟩ _=>?_,fun⟨bu,_⟩ _=>?_,fun⟨bv,_⟩ _=>?_,fun⟨bw,U,_⟩ aL=>?_,trivial⟩,fun⟨bx,bz,bA,bB,bC,bD,bE,am,bF,_⟩=>?_⟩
   ·exact Sd0 g fun _=>RI Kq rfl ⟨(o,B),RA0.same r,rfl⟩
   ·exact Sd1 g bq fun _=>RN I pl27 rfl rfl ⟨(o,B),RA0.same r,rfl⟩
   ·exact Sd0 g fun _=>RP ⟨(o,B),RA0.same r,rfl⟩
   ·exact Sd0 g fun _=>RP ⟨(o,B),RA0.same r,rfl⟩
   ·refine Js g (aC br<|aC bs aN) fun _=>R8 (Sd (j:=i) (u:=(l.getD i default)) d sl27 io42 rfl rfl rfl (Ji (by omega)) ?_);intro dS dT dJ an;obtain⟨dU,dV,dW,dX,rfl,dY,dZ⟩:=Zh an.rd;exact⟨(o,B),RA0.same r,⟨_,_,_,rfl,an⟩⟩
   ·obtain⟨d0,d1,dK,bG,ao⟩:=bt;obtain⟨bH,bJ,bK,bL,rfl,bM,bN⟩:=Zh ao.rd;exact Sd1 g bG fun _=>Sv (cs:=(qqC (l.getD i default) bH bJ bK bL)) ag42 rfl rfl ao.cell ⟨(o,B),RA0.same r,(J2 bM bN)⟩
   ·obtain⟨d2,d3,d4,d5,bO,bP,bQ⟩:=TN bu;refine Sd1 g bO fun _=>RH r cb65 rfl rfl (Xu r.bd (a:=(l.getD i default)) (J2 bP bQ) (UC (hsz i (by omega)).1 (by decide))<|UC (hsz i (by omega)).2 (by decide)) ?_;intro d6 d7 bR bS bT;exact⟨(o,B),TT bR bS,bT⟩
   ·obtain⟨bU,bV,bW,bX,bY,bZ,b0⟩:=TN bv;refine Sd1 g bY fun _=>Sl (T:=Jj) (css:=[(qqC (ofQ (l.getD i default).q) bU bV bW bX)]) (l:=[(ofQ (l.getD i default).q)]) r sl27 io42 (by decide) (by decide) rfl (by kernel_rfl) ⟨(⟨_,_,rfl,bZ,b0⟩),trivial⟩ ?_;intro d8 d9 b1 b2 b3;exact⟨(o,B),TT b1 b2,b3⟩
   ·obtain⟨ea,eb,b4,U⟩:=TQ U;have aM:OS Jj 42 w o B P (.slice pa p.length pc) p:=aL rfl;refine Js g (aC bw<|aC b4 aN) fun _=>R8 (Sk (T:=Jj) r sl27 io42 rfl rfl aM (Xq U) (CJ hp (by omega)) (wg hp (by omega)) rfl ?_);intro ec ed b5 b6 b7 ee b8;exact⟨(b5,B),TY b6 b7,b8⟩
   obtain⟨ef,eg,dL,b9,ca⟩:=bC;obtain⟨eh,ei,ej,ek,rfl,el,em⟩:=Zh ca.rd;obtain⟨en,eo,ep,eq,cb,er,es⟩:=TN bD;obtain⟨et,eu,ev,ew,cc,ex,ez⟩:=TN bE;obtain⟨eA,eB,cd,am⟩:=TQ am;obtain⟨aq,ar,ce,V⟩:=T6 bF;obtain⟨eC,rfl⟩:=mixK g (aC bx<|aC bz<|aC bA<|aC bB<|aC b9<|aC cb<|aC cc<|aC cd<|aC ce aN);refine Ol (RI Kq rfl<|On<|Us (cs':=[(.int .i64 (((m+((l.length:Nat):Int))-((k:Nat):Int))+((k:Nat):Int))),(.slice aq (p++[(ofQ (l.getD i default).q)]).length ar)]) r I io27 ?_);intro eD au Y cf;have d:=d.sp Y;have V:=V.sp Y au<|fun _ h=>h
   replace L:=(L.ap R L.mem).spo Y ba;refine Nl<|RK<|Ub<|St.add rfl rfl (Jc (a:=i) (b:=1) (by omega))<|Ua<|⟨_,(by omega),_,_,(i+1),(p++[(ofQ (l.getD i default).q)]),aq,ar,au,rfl,rfl,rfl,rfl,rfl,d,V,L,cf,(by omega),(by omega),(ph hp M (by omega)),rfl⟩
  refine Nl (Ue<|Sf<|Rg<|Ol<|Uo (vs:=[(.int .i64 (((m+((l.length:Nat):Int))-((k:Nat):Int))+((k:Nat):Int))),(.slice pa p.length pc)]) I ag29<|On<|Us (cs':=[(.int .i64 (((m+((l.length:Nat):Int))-((k:Nat):Int))+((k:Nat):Int))),(.slice pa p.length pc)]) be L io29 ?_);intro eE Z cg ch;have hP:=hP.sp cg Z<|fun _ h=>h
  refine Oa (Nl<|RY<|Z4 rfl (TL ch rfl ag29 rfl) (resV.t rfl)<|RM ?_ Z.below);refine⟨_,_,rfl,?_,?_⟩
  ·exact TM (a:=(⟨(((m+((l.length:Nat):Int))-((k:Nat):Int))+((k:Nat):Int)),p⟩:GSer)) (Zm (by omega) (by omega)<|hP.toRS Z hX)<|((congrArg (fun f=>(⟨f,p⟩:GSer)) (by omega)).trans (uv (m:=m) hz hp M al (by omega)))
  ·skip
   rfl
 refine Nl (Uc<|Rh<|Om<|Ub<|St.add (z:=(m+((k:Nat):Int))) rfl rfl (UP _ (by omega))<|Ol<|SG (t:=false) rfl rfl (decide_eq_false (by omega))<|Nl<|Uc<|Rg<|Om<|Ub<|St.add (z:=(m+((k:Nat):Int))) rfl rfl (UP _ (by omega)) ?_);refine Ol (Si (cs:=[(.int .i64 (m+((k:Nat):Int))),(.slice none 0 0)]) rfl (by kernel_rfl)<|Ol<|RR a2 io29 rfl ?_);intro aa eG eH eI aO ci av cj;have aw:=aO _ E.blk.lt;refine On (Us (cs':=[(.int .i64 (m+((k:Nat):Int))),(.slice none 0 0)]) ci cj io29 ?_);intro eJ ck ax cl;have d:=(d.sp av).sp ax;have E:=(E.spn av).spo ax aw;refine Nl (Rh<|Om<|Ua<|W.block<|Sc (fun μ f v=>∃(x y:Nat→Prop) (i:Nat) (p:List GRat) (pa:Option Addr) (pc:Nat),Cx X w x y v∧f 1=(.slice F l.length G)∧f 4=(.pointer (some ⟨J,0,none⟩))∧f 5=(.int .i64 0)∧f 8=(.pointer (some ⟨aa,0,none⟩))∧f 9=(.int .i64 ((i:Nat):Int))∧RS Jj x v (.slice F l.length G) l∧OS Jj 42 w x y v (.slice pa p.length pc) p∧Own w y v J [(.int .i64 0),(.slice none 0 0)] 29∧Own w y v aa [(.int .i64 (m+((k:Nat):Int))),(.slice pa p.length pc)] 29∧k≤i∧i≤l.length∧p=((l.drop k).take (i-k)).map nrm∧μ=(l.length-i)) _ ⟨_,_,k,[],none,0,ck,rfl,rfl,rfl,rfl,rfl,d,OS.nil,E,cl,(UM _),hk,(by rw[ZV];rfl),rfl⟩ ?_);rintro eK eL cm ⟨cn,e,i,p,pa,pc,ay,az,aA,aB,aD,aE,d,hP,H,D,M,al,hp,dG⟩;obtain⟨eM,rfl⟩:=rebK (aC az<|aC aA<|aC aB<|aC aD<|aC aE aN);clear az aA aB aD aE;refine Rh<|Om<|Ub<|St.len sl27 rfl<|Ol<|Sb rfl rfl (fun aP=>?_)<|fun aP=>?_
 ·refine Nl (Ud<|RT<|RZ<|W.block<|Te mixed 9 8 [[],[0],[],[],[2,3],[4],[5],[6],[1,7]] ay hP [fx<|.pointer (some ⟨aa,1,none⟩),fx<|.slice pa p.length pc,fx<|.slice F l.length G,fx<|.int .i64 ((i:Nat):Int),fE Jj<|l.getD i default,fr Jj<|l.getD i default,fr Jj<|ofQ (l.getD i default).q,fs Jj [(ofQ (l.getD i default).q)],fo Jj 42 w<|p++[(ofQ (l.getD i default).q)]] (by kernel_rfl) ⟨sx,sx,sx,sx,aEl,aRv,aRv,aSl,so,trivial⟩ ?_);rintro co ⟨s,cp⟩ ab ac n;have ey:e=cp:=ac.yy.symm;subst ey;have A:Cx X w s e ab:=ac.cx;have ad:Ap cn cm s e ab:=ac.ap;have d:=d.tr ad.tx;replace D:=D.ap ad D.mem;have n:Keep [57,58,59,60,61,62,63,64,65] _ co:=n;refine⟨⟨fun _ _=>?_,fun⟨cq,_⟩ _=>?_,fun _ _=>?_,fun _ _=>?_,fun⟨cr,ct,_⟩ _=>?_,fun⟨cu,_⟩ _=>?_,fun⟨cw,_⟩ _=>?_,fun⟨cy,_⟩ _=>?_,fun⟨cz,ae,_⟩ aQ=>?_,trivial⟩,fun⟨cB,cC,cD,cE,cF,cG,cH,aF,cI,_⟩=>?_⟩
  ·exact Sd0 n fun _=>RI Kq rfl ⟨(s,e),RA0.same A,rfl⟩
  ·exact Sd1 n cq fun _=>RN D pl27 rfl rfl ⟨(s,e),RA0.same A,rfl⟩
  ·exact Sd0 n fun _=>RP ⟨(s,e),RA0.same A,rfl⟩
  ·exact Sd0 n fun _=>RP ⟨(s,e),RA0.same A,rfl⟩
  ·refine Js n (aC cr<|aC ct aN) fun _=>R8 (Sd (j:=i) (u:=(l.getD i default)) d sl27 io42 rfl rfl rfl (Ji (by omega)) ?_);intro eN eO dM aG;obtain⟨eP,eQ,eR,eS,rfl,eT,eU⟩:=Zh aG.rd;exact⟨(s,e),RA0.same A,⟨_,_,_,rfl,aG⟩⟩
  ·obtain⟨eV,eW,dN,cJ,aH⟩:=cu;obtain⟨cK,cL,cM,cN,rfl,cO,cP⟩:=Zh aH.rd;exact Sd1 n cJ fun _=>Sv (cs:=(qqC (l.getD i default) cK cL cM cN)) ag42 rfl rfl aH.cell ⟨(s,e),RA0.same A,(J2 cO cP)⟩
  ·obtain⟨eX,eY,eZ,c373,cQ,cR,cS⟩:=TN cw;refine Sd1 n cQ fun _=>RH A cb65 rfl rfl (Xu A.bd (a:=(l.getD i default)) (J2 cR cS) (UC (hsz i (by omega)).1 (by decide))<|UC (hsz i (by omega)).2 (by decide)) ?_;intro e0 e1 cT cU cV;exact⟨(s,e),TT cT cU,cV⟩
  ·obtain⟨cW,cX,cY,cZ,c0,c1,c3⟩:=TN cy;refine Sd1 n c0 fun _=>Sl (T:=Jj) (css:=[(qqC (ofQ (l.getD i default).q) cW cX cY cZ)]) (l:=[(ofQ (l.getD i default).q)]) A sl27 io42 (by decide) (by decide) rfl (by kernel_rfl) ⟨(⟨_,_,rfl,c1,c3⟩),trivial⟩ ?_;intro e2 e3 c4 c6 c7;exact⟨(s,e),TT c4 c6,c7⟩
  ·obtain⟨e4,e5,c8,ae⟩:=TQ ae;have aR:OS Jj 42 w s e ab (.slice pa p.length pc) p:=aQ rfl;refine Js n (aC cz<|aC c8 aN) fun _=>R8 (Sk (T:=Jj) A sl27 io42 rfl rfl aR (Xq ae) (CJ hp (by omega)) (wg hp (by omega)) rfl ?_);intro e6 e7 c9 da db e8 dc;exact⟨(c9,e),TY da db,dc⟩
  obtain⟨e9,fa,dO,dd,de⟩:=cF;obtain⟨fb,fc,fd,ff,rfl,fg,fh⟩:=Zh de.rd;obtain⟨fi,fj,fk,fl,df,fm,fn⟩:=TN cG;obtain⟨fp,fq,ft,fu,dg,fv,fw⟩:=TN cH;obtain⟨fy,fB,dh,aF⟩:=TQ aF;obtain⟨aI,aJ,di,af⟩:=T6 cI;obtain⟨fC,rfl⟩:=mixK n (aC cB<|aC cC<|aC cD<|aC cE<|aC dd<|aC df<|aC dg<|aC dh<|aC di aN);refine Ol (RI Kq rfl<|On<|Us (cs':=[(.int .i64 (m+((k:Nat):Int))),(.slice aI (p++[(ofQ (l.getD i default).q)]).length aJ)]) A D io27 ?_);intro fD aK ag dj;have d:=d.sp ag;have af:=af.sp ag aK<|fun _ h=>h
  replace H:=(H.ap ad H.mem).spo ag aw;refine Nl<|RK<|Ub<|St.add rfl rfl (Jc (a:=i) (b:=1) (by omega))<|Ua<|⟨_,(by omega),_,_,(i+1),(p++[(ofQ (l.getD i default).q)]),aI,aJ,aK,rfl,rfl,rfl,rfl,rfl,d,af,H,dj,(by omega),(by omega),(ph hp M (by omega)),rfl⟩
 refine Nl (Ue<|Sf<|Rg<|Ol<|Uo (vs:=[(.int .i64 (m+((k:Nat):Int))),(.slice pa p.length pc)]) D ag29<|On<|Us (cs':=[(.int .i64 (m+((k:Nat):Int))),(.slice pa p.length pc)]) ay H io29 ?_);intro fF ah dk dm;have hP:=hP.sp dk ah<|fun _ h=>h
 refine Oa (Nl<|RY<|Z4 rfl (TL dm rfl ag29 rfl) (resV.t rfl)<|RM ?_ ah.below);refine⟨_,_,rfl,?_,?_⟩
 ·exact TM (a:=(⟨(m+((k:Nat):Int)),p⟩:GSer)) (Zm (by omega) (by omega)<|hP.toRS ah hX)<|((congrArg (fun f=>(⟨f,p⟩:GSer)) (by omega)).trans (uv (m:=m) hz hp M al (by omega)))
 ·skip
  rfl
set_option maxHeartbeats 8000000 in
theorem I9{X:Nat→Prop}{w:World}(hX:XB X w){v0:Value}{a:GSer}(r0:RV Zu X w v0 a){v1:Value}{b:GSer}(r1:RV Zu X w v1 b)(hv:Zd a=true)(hu:Zd b=true)(hsa:szL 1000 a.cs)(hsb:szL 1000 b.cs)(hT:T10 X w)(hia:intC a)(hib:intC b)(hfa:0≤a.fr)(hla:a.fr+(a.cs.length:Nat)≤6)(hfb:0≤b.fr)(hlb:b.fr+(b.cs.length:Nat)≤6):CRt 8 #[v0,v1] w fun v w'=>(∃v0 v1,v= .tuple #[v0,v1]∧(RV Zu X w' v0 (mulM a b))∧(v1=(.int .i64 0))):=by
 obtain⟨P,Q,rfl,aa,ab,e⟩:=TO r0;obtain⟨V,Y,rfl,ac,ad,d⟩:=TO r1;have C:=Cx.start hX;have oa:=pj a;have ob:=pj b;have hpm:Ku a b≤12:=by unfold Ku;omega
 have hml:maxLen=9223372036854775807:=rfl;refine Cgo Tryz.func8 rfl rfl rfl (Rg<|Ol<|R9 C rfl ?_);intro aw dX dY dZ cS cD aD E;have e:=e.sp aD;have d:=d.sp aD;have hT:=hT.sp aD;refine Ol (R9 cD rfl ?_);intro ax d0 d1 d2 lt23 cE ay F;refine Ol (RR cE io29 rfl ?_);intro az d3 d4 d5 cT bn aj ak;have e:=(e.sp ay).sp aj;have d:=(d.sp ay).sp aj;have hT:=(hT.sp ay).sp aj;have E:=(E.spn ay).spn aj;have F:=F.spn aj;refine Oa (Nl<|Rh<|Ol<|Uo (vs:=(ssC a P Q)) E ag29<|Ol<|Uo (vs:=(ssC b V Y)) F ag29<|Ol<|RH bn cb26 rfl rfl (PP bn.bd (a:=a) (Zm aa ab e) (b:=b) (Zm ac ad d) hv hu) ?_);intro d6 d7 cF ae cG;have e:=e.sp ae;have E:=E.spn ae;have F:=F.spn ae;subst cG;refine Oa (Nl<|Rg<|Ub<|SK (t:=false) rfl rfl (by rw[decide_eq_true rfl];rfl)<|Nl<|Uc<|RZ<|ST mixed 3 cF<|Qw (fun w c=>RX (vs:=(ssC a P Q)) (E.spn c.2) ag29 rfl rfl rfl ⟨rfl,c⟩)<|Qw (fun w c=>RH c.1 cb27 rfl rfl (rg c.1.bd (a:=a) (Zm aa ab<|e.sp c.2) hv hsa) fun _ _ C s h=>⟨h,C,c.2.trans s⟩) ?_);refine Qw (fun w c=>RX (vs:=(ssC b V Y)) (F.spn c.2) ag29 rfl rfl rfl ⟨rfl,c⟩)<|Qz fun d8 bo af=>?_
 have d:=(d.sp ae).sp af;have hT:=(hT.sp ae).sp af;have ak:=(ak.spn ae).spn af;refine Ol (RH bo cb27 rfl rfl (rg bo.bd (a:=b) (Zm ac ad d) hu hsb) ?_);intro d9 ea cH ag cI;have e:=(e.sp af).sp ag;have d:=d.sp ag;have E:=(E.spn af).spn ag;have F:=(F.spn af).spn ag;subst cI;refine Ol (St.add (z:=((ordM a)+(ordM b))) rfl rfl (UP _ (by omega))<|Ua<|RZ<|ST mixed 10 cH<|Qw (fun w c=>RX (vs:=(ssC a P Q)) (E.spn c.2) ag29 rfl rfl rfl ⟨rfl,c⟩)<|Qw (fun w c=>RH c.1 cb28 rfl rfl (tP c.1.bd (a:=a) (Zm aa ab<|e.sp c.2) hv) fun _ _ C s h=>⟨h,C,c.2.trans s⟩) ?_);refine Qw (fun w c=>RX (vs:=(ssC b V Y)) (F.spn c.2) ag29 rfl rfl rfl ⟨rfl,c⟩) (Qw (fun w c=>RH c.1 cb27 rfl rfl (rg c.1.bd (a:=b) (Zm ac ad<|d.sp c.2) hu hsb) fun _ _ C s h=>⟨h,C,c.2.trans s⟩)<|Qp (fun _=>St.add (z:=((a.fr+(a.cs.length:Nat))+(ordM b))) rfl rfl (UP _ (by omega)) ⟨rfl,rfl⟩) ?_);refine Qw (fun w c=>RX (vs:=(ssC b V Y)) (F.spn c.2) ag29 rfl rfl rfl ⟨rfl,c⟩) (Qw (fun w c=>RH c.1 cb28 rfl rfl (tP c.1.bd (a:=b) (Zm ac ad<|d.sp c.2) hu) fun _ _ C s h=>⟨h,C,c.2.trans s⟩)<|Qw (fun w c=>RX (vs:=(ssC a P Q)) (E.spn c.2) ag29 rfl rfl rfl ⟨rfl,c⟩) ?_);refine Qw (fun w c=>RH c.1 cb27 rfl rfl (rg c.1.bd (a:=a) (Zm aa ab<|e.sp c.2) hv hsa) fun _ _ C s h=>⟨h,C,c.2.trans s⟩)<|Qp (fun _=>St.add (z:=((b.fr+(b.cs.length:Nat))+(ordM a))) rfl rfl (UP _ (by omega)) ⟨rfl,rfl⟩)<|Qz fun eb cJ ah=>?_
 have e:=e.sp ah;have d:=d.sp ah;have hT:=(hT.sp ag).sp ah;have E:=E.spn ah;have F:=F.spn ah;have ak:=(ak.spn ag).spn ah;refine Ol (Tj rfl rfl (oe _ _)<|Ua<|Rh<|Ub<|SV (t:=false) rfl rfl (decide_eq_false (by omega))<|Nl<|Uc<|Rg<|Ua<|Rh<|Om<|Ua<|W.block<|Sc (fun μ f v=>∃(x y:Nat→Prop) (n:Int) (j:Nat) (p:List GRat) (pa:Option Addr) (pc:Nat),Cx X w x y v∧f 2=(.pointer (some ⟨aw,0,none⟩))∧f 3=(.pointer (some ⟨ax,0,none⟩))∧f 4=(.pointer (some ⟨az,0,none⟩))∧f 5=(.int .i64 0)∧f 7=(.int .i64 ((ordM a)+(ordM b)))∧f 8=(.int .i64 (Ku a b))∧f 29=(.int .i64 ((a.fr+(a.cs.length:Nat))+(ordM b)))∧f 10=(.int .i64 n)∧f 9=(.slice pa p.length pc)∧RS Jj x v (.slice P a.cs.length Q) a.cs∧RS Jj x v (.slice V b.cs.length Y) b.cs∧T10 x v∧OS Jj 42 w x y v (.slice pa p.length pc) p∧Own w y v aw (ssC a P Q) 29∧Own w y v ax (ssC b V Y) 29∧Own w y v az [(.int .i64 0),(.slice none 0 0)] 29∧j≤(Ku a b-(ordM a+ordM b)).toNat∧n=ordM a+ordM b+((j:Nat):Int)∧p=mulL a b j∧μ=((Ku a b-(ordM a+ordM b)).toNat-j)) _ ⟨_,_,(ordM a+ordM b),0,[],none,0,cJ,rfl,rfl,rfl,rfl,rfl,rfl,rfl,rfl,rfl,e,d,hT,OS.nil,E,F,ak,(UN _),(by omega),rfl,rfl⟩ ?_);rintro ec ed ee ⟨ef,eg,n,j,p,pa,pc,aE,bp,bq,br,bs,bt,bu,bv,bw,bx,e,d,hT,hP,M,U,J,hj,hn,hp,cO⟩;obtain⟨eh,rfl⟩:=rebK (aC bp<|aC bq<|aC br<|aC bs<|aC bt<|aC bu<|aC bv<|aC bw<|aC bx aN);clear bp bq br bs bt bu bv bw bx;have hpl:p.length=j:=by rw[hp,ib]
 refine Rh<|Om<|Ub<|Tj rfl rfl (if_neg (by omega))<|Ol<|Sb rfl rfl (fun bF=>?_)<|fun bF=>?_
 ·refine Nl (Ud<|RT<|RZ<|W.block<|Rg<|Ol<|RH aE cb11 rfl rfl (x_Q aE.bd hT (by decide) (by decide)) ?_);intro ei ej bz Z cK;have e:=e.sp Z;have M:=M.spn Z;have U:=U.spn Z;have J:=J.spn Z;obtain⟨aF,aG,aH,aI,rfl,al,am⟩:=TN cK;refine Ol (SL bz io42 rfl ?_);intro bA ek el em an bB N cL cM;have bC:=an _ M.blk.lt;have bD:=an _ U.blk.lt;have bE:=an _ J.blk.lt;have d:=(d.sp Z).sp N;have hT:=(hT.sp Z).sp N;have hP:=(hP.sp Z bz<|fun _ h=>h).sp N bB cM;have al:=al.sp N;have am:=am.sp N;have U:=U.spn N;have J:=J.spn N;refine On (Us (cs':=(qqC (ofQ<|Rat.divInt 0 1) aF aG aH aI)) bB cL io42 ?_);intro en aJ G ao;have e:=(e.sp N).sp G;have M:=(M.spn N).spo G bC;refine Nl (Rh<|Ol<|Uo (vs:=(ssC a P Q)) M ag29<|Ol<|RH aJ cb27 rfl rfl (rg aJ.bd (a:=a) (Zm aa ab e) hv hsa) ?_);intro cU cV aK B bG;have e:=e.sp B;have d:=(d.sp G).sp B;have hT:=(hT.sp G).sp B;have hP:=(hP.sp G aJ<|fun _ h=>h).sp B aK (fun _ h=>h)
  have al:=(al.sp G).sp B;have am:=(am.sp G).sp B;have M:=M.spn B;have U:=(U.spo G bD).spn B;have J:=(J.spo G bE).spn B;have ao:=ao.spn B;subst bG;refine Oa (Nl<|W.block<|Sc (fun μ f v=>∃(x y:Nat→Prop) (qq:Rat) (i:Int) (c:Nat) (nA:Option Addr) (nC:Nat) (dA:Option Addr) (dC:Nat),Cx X w x y v∧f 2=(.pointer (some ⟨aw,0,none⟩))∧f 3=(.pointer (some ⟨ax,0,none⟩))∧f 4=(.pointer (some ⟨az,0,none⟩))∧f 5=(.int .i64 0)∧f 7=(.int .i64 ((ordM a)+(ordM b)))∧f 8=(.int .i64 (Ku a b))∧f 9=(.slice pa p.length pc)∧f 10=(.int .i64 n)∧f 11=(.pointer (some ⟨bA,0,none⟩))∧f 29=(.int .i64 ((a.fr+(a.cs.length:Nat))+(ordM b)))∧f 40=(.int .i64 n)∧f 41=(.int .i64 (Ku a b))∧f 42=(.int .i64 (Ku a b))∧f 43=(.bool true)∧f 46=(qqA (ofQ<|Rat.divInt 0 1) aF aG aH aI)∧f 47=(ssA a P Q)∧f 48=(.int .i64 (ordM a))∧f 12=(.int .i64 i)∧RS Jj x v (.slice P a.cs.length Q) a.cs∧RS Jj x v (.slice V b.cs.length Y) b.cs∧T10 x v∧OS Jj 42 w x y v (.slice pa p.length pc) p∧RS Jd x v (.slice nA (ofQ qq).num.mag.length nC) (ofQ qq).num.mag∧RS Jd x v (.slice dA (ofQ qq).den.mag.length dC) (ofQ qq).den.mag∧Own w y v aw (ssC a P Q) 29∧Own w y v ax (ssC b V Y) 29∧Own w y v az [(.int .i64 0),(.slice none 0 0)] 29∧Own w y v bA (qqC (ofQ qq) nA nC dA dC) 42∧i=ordM a+((c:Nat):Int)∧i≤n-ordM b+1∧qq=sumQ a b n c∧μ=(n-ordM b+1-i).toNat) _ ⟨_,_,(Rat.divInt 0 1),(ordM a),0,aF,aG,aH,aI,aK,rfl,rfl,rfl,rfl,rfl,rfl,rfl,rfl,rfl,rfl,rfl,rfl,rfl,rfl,rfl,rfl,rfl,rfl,e,d,hT,hP,al,am,M,U,J,ao,(by omega),(by omega),(Jaq 1),rfl⟩ ?_);rintro cW cX cY ⟨aq,cZ,qq,i,c,nA,nC,dA,dC,aL,aM,aO,aP,aQ,aR,aS,aT,aU,aV,aW,aX,aY,aZ,a0,a2,a3,a4,a5,e,d,hT,hP,hA,hB,u,o,A,H,hc,hic,hqq,cN⟩;obtain⟨c0,rfl⟩:=rebK (aC aM<|aC aO<|aC aP<|aC aQ<|aC aR<|aC aS<|aC aT<|aC aU<|aC aV<|aC aW<|aC aX<|aC aY<|aC aZ<|aC a0<|aC a2<|aC a3<|aC a4<|aC a5 aN);clear aM aO aP aQ aR aS aT aU aV aW aX aY aZ a0 a2 a3 a4 a5;refine Rh (Om<|Ub<|Uo (vs:=(ssC b V Y)) o ag29<|Ol<|RH aL cb27 rfl rfl (rg aL.bd (a:=b) (Zm ac ad d) hu hsb) ?_);intro c1 c3 ai m bH;have e:=e.sp m;have d:=d.sp m;have hT:=hT.sp m;have hA:=hA.sp m;have hB:=hB.sp m;have H:=H.spn m;subst bH;refine Ol<|St.sub (z:=(n-(ordM b))) rfl rfl (UP _ (by omega))<|Ol<|SJ rfl rfl (fun bk=>?_)<|fun bk=>?_
  ·refine Nl (Ud<|RT<|RZ<|W.block ?_);have k1:=uA hia (n:=i);have k2:=uA hib (n:=n-i);have k3:=Gc hia hib (n:=i) (k:=n-i);have k4:=mQ hia hib (show c≤1000 by omega) hqq;refine Tx mixed 10 [[],[],[],[1,2],[],[],[],[5,6],[4,7],[3,8]] ai [fx<|.agg #[(.bool (ofQ qq).num.neg),(.slice nA (ofQ qq).num.mag.length nC),(.bool (ofQ qq).den.neg),(.slice dA (ofQ qq).den.mag.length dC)],fx<|.agg #[(.int .i64 a.fr),(.slice P a.cs.length Q)],fx<|.int .i64 i,ur aq Jj<|cofM a i,fx<|.agg #[(.int .i64 b.fr),(.slice V b.cs.length Y)],fx<|.int .i64 n,fx<|.int .i64 i,fx<|.int .i64 (n-i),ur aq Jj<|cofM b<|n-i,ur aq Jj<|ofQ<|(cofM a i).q*(cofM b<|n-i).q] (by kernel_rfl) ⟨sx,sx,sx,tr,sx,sx,sx,sx,tr,tr,trivial⟩ fun bJ c4 g D r=>?_
   have e:=e.sp D;have d:=d.sp D;have hT:=hT.sp D;have hP:=(hP.sp m ai<|fun _ h=>h).sp D g (fun _ h=>h)
   have hA:=hA.sp D;have hB:=hB.sp D;have u:=(u.spn m).spn D;have o:=(o.spn m).spn D;have A:=(A.spn m).spn D;have H:=H.spn D;have r:Keep [57,58,59,60,61,62,63,64,65,66] _ bJ:=r;refine⟨⟨fun _=>?_,fun _=>?_,fun _=>?_,fun⟨bK,bL,_⟩=>?_,fun _=>?_,fun _=>?_,fun _=>?_,fun⟨bM,bN,_⟩=>?_,fun⟨bO,bP,_⟩=>?_,fun⟨bQ,bR,_⟩=>?_,trivial⟩,fun⟨bS,bT,bU,bV,bW,bX,bY,bZ,b0,b1,_⟩=>?_⟩
   ·exact Sd0 r fun _=>Uo (vs:=(qqC (ofQ qq) nA nC dA dC)) H ag42<|⟨(),⟨g,Sp.refl⟩,rfl⟩
   ·exact Sd0 r fun _=>Uo (vs:=(ssC a P Q)) u ag29<|⟨(),⟨g,Sp.refl⟩,rfl⟩
   ·exact Sd0 r fun _=>RP<|⟨(),⟨g,Sp.refl⟩,rfl⟩
   ·refine Js r (aC bK<|aC bL aN) fun _=>R8 (RH g cb32 rfl rfl (Cp g.bd (a:=a) (Zm aa ab e) hv hsa hT (by omega) (by omega)) ?_);intro c6 c8 b2 b3 b4;exact⟨(),⟨b2,b3⟩,b4⟩
   ·exact Sd0 r fun _=>Uo (vs:=(ssC b V Y)) o ag29<|⟨(),⟨g,Sp.refl⟩,rfl⟩
   ·exact Sd0 r fun _=>RP<|⟨(),⟨g,Sp.refl⟩,rfl⟩
   ·exact Sd0 r fun _=>RP<|⟨(),⟨g,Sp.refl⟩,rfl⟩
   ·exact Js r (aC bM<|aC bN aN) fun _=>R8<|St.sub (z:=(n-i)) rfl rfl (UP _ (by omega))<|⟨(),⟨g,Sp.refl⟩,rfl⟩
   ·refine Js r (aC bO<|aC bP aN) fun _=>R8 (RH g cb32 rfl rfl (Cp g.bd (a:=b) (Zm ac ad d) hu hsb hT (by omega) (by omega)) ?_);intro c9 da b5 b6 b7;exact⟨(),⟨b5,b6⟩,b7⟩
   ·obtain⟨db,dc,dd,de,b8,b9,ca⟩:=TN bQ;obtain⟨df,dg,dh,di,cb,cc,cd⟩:=TN bR;refine Js r (aC b8<|aC cb aN) fun _=>R8 (RH g cb31 rfl rfl (IJ g.bd (a:=(cofM a i)) (J2 b9 ca) (b:=(cofM b<|n-i)) (J2 cc cd) (by omega) (by omega) (by omega) (by omega)) ?_);intro dj dk ce cf cg;exact⟨(),⟨ce,cf⟩,cg⟩
   obtain⟨dm,dn,dp,dq,ch,ds,dt⟩:=TN bV;obtain⟨du,dv,dw,dx,ci,dy,dz⟩:=TN b0;obtain⟨dB,dD,dE,dG,cj,ck,cl⟩:=TN b1;obtain⟨dH,rfl⟩:=mixK r (aC bS<|aC bT<|aC bU<|aC ch<|aC bW<|aC bX<|aC bY<|aC bZ<|aC ci<|aC cj aN);refine Ol (RH g cb30 rfl rfl (LM g.bd (a:=(ofQ qq)) (J2 hA hB) (b:=(ofQ<|(cofM a i).q*(cofM b<|n-i).q)) (J2 ck cl) (by omega) (by omega) (by omega) (by omega)) ?_);intro dI dJ a7 K a8;have H:=H.spn K;simp only[Jl,Zq] at a8;obtain⟨a9,ba,bb,be,rfl,ar,au⟩:=TN a8;refine On (Us (cs':=(qqC (ofQ<|qq+((cofM a i).q*(cofM b<|n-i).q)) a9 ba bb be)) a7 H io42 ?_);intro dK bf I cm;have e:=(e.sp K).sp I;have d:=(d.sp K).sp I;have hT:=(hT.sp K).sp I;have hP:=(hP.sp K a7<|fun _ h=>h).sp I bf (fun _ h=>h)
   have ar:=ar.sp I;have au:=au.sp I;have u:=(u.spn K).spo I bC;have o:=(o.spn K).spo I bD;have A:=(A.spn K).spo I bE;refine Nl<|RK<|Ub<|St.add (z:=(i+1)) rfl rfl (UP _ (by omega))<|Ua<|⟨_,(by omega),_,_,(qq+(cofM a i).q*(cofM b<|n-i).q),(i+1),(c+1),a9,ba,bb,be,bf,rfl,rfl,rfl,rfl,rfl,rfl,rfl,rfl,rfl,rfl,rfl,rfl,rfl,rfl,rfl,rfl,rfl,rfl,e,d,hT,hP,ar,au,u,o,A,cm,(by omega),(by omega),(tD hqq hc),rfl⟩
  refine Nl (Ue<|Sf<|RK<|Ub<|Uo (vs:=(qqC (ofQ qq) nA nC dA dC)) H ag42<|Ol<|Sl (T:=Jj) (css:=[(qqC (ofQ qq) nA nC dA dC)]) (l:=[(ofQ qq)]) ai sl27 io42 (by decide) (by decide) rfl (by kernel_rfl) ⟨(⟨_,_,rfl,hA,hB⟩),trivial⟩ ?_);intro dL dM bg L cn;have hP:=(hP.sp m ai<|fun _ h=>h).sp L bg (fun _ h=>h)
  have u:=(u.spn m).spn L;have o:=(o.spn m).spn L;have A:=(A.spn m).spn L;refine Ol (Sk (T:=Jj) bg sl27 io42 rfl rfl hP (Xq cn) (by simp[maxLen];omega) (by simp;omega) rfl ?_);intro dN dO dP co R dQ bh;have e:=(e.sp L).tr R.tx;have d:=(d.sp L).tr R.tx;have hT:=(hT.sp L).tr R.tx;replace u:=u.ap R u.mem;replace o:=o.ap R o.mem;replace A:=A.ap R A.mem;obtain⟨cp,cq,rfl,_,_⟩:=bh.len;refine Ua<|RK<|Ub<|St.add (z:=(n+1)) rfl rfl (UP _ (by omega))<|Ua<|⟨_,(by omega),_,_,(n+1),(j+1),(p++[(ofQ qq)]),cp,cq,co,rfl,rfl,rfl,rfl,rfl,rfl,rfl,rfl,rfl,e,d,hT,bh,u,o,A,(by omega),(by omega),(uD hp hn hc hic (by omega) hqq),rfl⟩
 refine Nl (Ue<|Sf<|Rg<|Om<|Om ?_);obtain⟨dR,bi,cP,cr⟩:=hP.freeze aE hX;refine Ol (RH bi cb33 rfl rfl (wi bi.bd cr (by omega) (by omega)<|Er hia hib hp (by omega)) ?_);intro dS dT ct cu cw;have J:=J.spn cu;obtain⟨dU,dV,rfl,cx,rfl⟩:=cw;obtain⟨cy,cz,rfl,bl,bm,av⟩:=TO cx;refine Ol (St.extract rfl rfl<|Ol<|St.extract rfl rfl<|On<|Us (cs':=(ssC (bld ((ordM a)+(ordM b)) p) cy cz)) ct J io29 ?_);intro dW bj cB cC;have av:=av.sp cB;refine Oa (Nl<|RY<|Z4 rfl (TL cC rfl ag29 rfl) (resV.t rfl)<|RM ?_ bj.below);refine⟨_,_,rfl,?_,?_⟩
 ·exact TM (a:=(bld ((ordM a)+(ordM b)) p)) ((Zm bl bm av).tr (Tr.weak bj.base))<|(Ei hp hj (by omega))
 ·skip
  rfl
end Go.Wf
namespace Go.Wf
open Go Go.RowKit
section
variable {P:Program} {ρ:Operand→Value} {w:World} {K:Value→World→Prop} {Kp:List PanicEntry→World→Prop} {dst:Option Tmp} {ty:TypeId} {pos:String} {after:Array Edge} {gd:Option (Nat×Bool)}
theorem Sn {t e:TypeId} {a i:Operand} {g off n sz by_:Nat} {k:IntKind} {m:Int} {j:Nat} {z:Value} (ht:P.underlying t=some (.array n e)) (hi:Zf P e=some (z,sz,by_)) (hx:ρ a= .pointer (some ⟨g,off,none⟩)) (hy:ρ i= .int k m) (hm:m=j) (hj:j<n)
  (h:K (.pointer (some ⟨g,off+j*sz,none⟩)) w):St P ρ ⟨dst,.indexAddr t a i,ty,pos,after,gd⟩ w K Kp:=by
 obtain⟨inf,hi',_,hs,_⟩:=Jk hi;subst hs;exact Go.Ev.S2 ht hi' hx hy hm hj h
end
theorem zq{X:Nat→Prop}{w:World}{cs:List Value}{x:GInt}(h:Jo.rd X w cs x):∃a c,cs=[.bool x.neg,.slice a x.mag.length c]∧RS Jd X w (.slice a x.mag.length c) x.mag:=by
 obtain⟨s,rfl,h⟩:=h;obtain⟨a,c,rfl,_⟩:=h.len;exact⟨a,c,rfl,h⟩
end Go.Wf
namespace Go.Wf
open Go Go.Ev Go.Proofs
def dimM(k:Int):Int:=if k%12=2 then k/12 else k/12+1
def scM(c:GRat)(b:GSer):GSer:=bld b.fr (sclL c b.cs)
def frmM(lead:List GRat)(l:List GSer):Nat→GSer
 |0=>⟨6,[]⟩
 |1=>scM (lead.getD 0 default) (l.getD 0 default)
 |i+2=>cmb (frmM lead l (i+1)) (scM (lead.getD (i+1) default) (l.getD (i+1) default)) 1
theorem tV{lead:List GRat}{l:List GSer}{i:Nat}(h:((i:Nat):Int)=0):bld (l.getD i default).fr (sclL (lead.getD i default) (l.getD i default).cs)=frmM lead l (i+1):=by
 obtain rfl:i=0:=by omega
 rfl
theorem yM{lead:List GRat}{l:List GSer}{i:Nat}(h:¬((i:Nat):Int)=0):cmb (frmM lead l i) (bld (l.getD i default).fr (sclL (lead.getD i default) (l.getD i default).cs)) 1=frmM lead l (i+1):=by
 obtain⟨j,rfl⟩:∃j,i=j+1:=⟨i-1,by omega⟩
 rfl
def okS(s:GSer):Prop:=Zd s=true∧szL 1000 s.cs
def ldM(lead:List GInt)(n:Nat):List GRat:=(List.range n).map fun(i:Nat)=>if i<lead.length∧(lead.getD i default).mag.length≤2 then ofQ (Rat.divInt (lead.getD i default).toZ 1) else ofQ (Rat.divInt ((i:Int)+1) 1)
theorem uF{lead:List GInt}{n:Nat}:(ldM lead n).length=n:=by unfold ldM;rw[W4,W6]
theorem tc{lead:List GInt}{l:List GRat}{i:Nat}(h:l=ldM lead i)(a:i<lead.length)(b:(lead.getD i default).mag.length≤2):l++[ofQ (Rat.divInt (lead.getD i default).toZ 1)]=ldM lead (i+1):=by
 rw[h];unfold ldM;rw[XS,XA];simp only[U9,XE];rw[if_pos ⟨a,b⟩]
theorem mr{lead:List GInt}{l:List GRat}{i:Nat}(h:l=ldM lead i)(a:¬(i<lead.length∧(lead.getD i default).mag.length≤2)):l++[ofQ (Rat.divInt (((i:Nat):Int)+1) 1)]=ldM lead (i+1):=by
 rw[h];unfold ldM;rw[XS,XA];simp only[U9,XE];rw[if_neg a]
def ldZ(lead:List GInt)(i:Nat):Int:=if i<lead.length∧(lead.getD i default).mag.length≤2 then(lead.getD i default).toZ else(i:Int)+1
def smI(l:List GInt):Prop:=∀i,i<l.length→Jp (l.getD i default).mag
theorem RS.smI{X:Nat→Prop}{w:World}{v:Value}{l:List GInt}(h:RS Jo X w v l):Go.Wf.smI l:=by
 obtain⟨a,c,rfl,_,_,d⟩:=h;intro i hi;rcases d with d|⟨b,o,rfl,hx,d⟩
 ·subst d;simp at hi
 ·obtain⟨cs,hr,_⟩:=d i l[i] (by simp[hi]);rw[UJ,UL hi,Jaf];obtain⟨a,c,rfl,k⟩:=zq hr;exact k.u32_small
theorem zm(z:Int):Rat.divInt z 1=(z:Rat):=by
 rw[←Jao (z:Rat),Jap,Jam];rfl
theorem t8{lead:List GInt}{n i:Nat}(h:i<n):(ldM lead n).getD i default=ofQ ((ldZ lead i:Int):Rat):=by
 unfold ldM ldZ;rw[UJ,VA,WZ h]
 show(if _ then _ else _:GRat)=_
 split
 ·rw[zm]
 ·rw[zm]
theorem CS{lead:List GInt}(hs:smI lead){i:Nat}(hi:i≤100):(ldZ lead i).natAbs≤2^64:=by
 unfold ldZ;split
 ·rename_i h;rw[Yu];have a:=Zo _ (hs i h.1);have b:4294967296^(lead.getD i default).mag.length≤4294967296^2:=U1 (by decide) h.2;have d:(4294967296:Nat)^2=2^64:=by decide
  omega
 ·have:(2:Nat)^64=18446744073709551616:=by decide
  omega
structure sI (s:GSer) (f:Nat→Int) (B:Nat):Prop where
 fr0:0≤s.fr
 pr:s.fr+(s.cs.length:Nat)=6
 co:∀n:Nat,n<6→(atM s (n:Int)).q=(f n:Rat)
 bd:∀n:Nat,n<6→(f n).natAbs≤B
 nr:∀i,i<s.cs.length→s.cs.getD i default=nrm (s.cs.getD i default)
theorem sI.cs{s:GSer}{f:Nat→Int}{B:Nat}(h:sI s f B){i:Nat}(hi:i<s.cs.length):s.cs.getD i default=ofQ ((f (s.fr+(i:Nat)).toNat:Int):Rat):=by
 have b:=h.fr0;have d:=h.pr;have a:=h.co (s.fr+(i:Nat)).toNat (by omega);rw[h.nr i hi];show ofQ _=_;rw[←a];unfold atM;rw[if_neg (by omega),show(((s.fr+(i:Nat)).toNat:Nat):Int)-s.fr=((i:Nat):Int) by omega];rfl
theorem sI.ok{s:GSer}{f:Nat→Int}{B:Nat}(h:sI s f B)(hB:B<4294967296^4):okS s∧szL 4 s.cs∧smL s.cs:=by
 have a:=h.fr0;have b:=h.pr;have hz:szL 4 s.cs:=fun i hi=>by
  rw[h.cs hi]
  have:=k6 (z:=f (s.fr+(i:Nat)).toNat) (k:=4) (U7 (h.bd _ (by omega)) hB)
  omega
 refine⟨⟨?_,fun i hi=>⟨UC (hz i hi).1 (by decide),UC (hz i hi).2 (by decide)⟩⟩,hz,fun i hi=>?_⟩
 ·unfold Zd;rw[decide_eq_true (show -100≤s.fr by omega),decide_eq_true (show s.fr≤1000 by omega),decide_eq_true (show((s.cs.length:Nat):Int)≤1000-s.fr by omega)];rfl
 ·rw[h.cs hi];exact⟨Zr _,Zr _⟩
theorem mN:∀ {l:List GRat} {j:Nat},j<nz l→(l.getD j default).q=0
 |[],j,h=>by simp[nz] at h
 |a::l,j,h=>by
  unfold nz at h;split at h
  ·rename_i ha;cases j with
   |zero=>exact ha
   |succ j=>exact mN (l:=l) (j:=j) (by omega)
  ·omega
theorem oy{f n:Int}{l:List GRat}(hn:n<f+(l.length:Nat)):(atM (bld f l) n).q=(atM ⟨f,l⟩ n).q:=by
 have hz:=lu l;have b:(ofQ (Rat.divInt 0 1)).q=0:=by rw[Zq,Jaq]
 by_cases a:n<f
 ·unfold atM;rw[if_pos (show n<(bld f l).fr from Int.lt_of_lt_of_le a (by show f≤f+(nz l:Nat);omega)),if_pos a]
 ·by_cases d:n<f+(nz l:Nat)
  ·unfold atM;rw[if_pos (show n<(bld f l).fr from d),if_neg a,b]
   exact(mN (by show(n-f).toNat<nz l;omega)).symm
  ·unfold atM;rw[if_neg (show ¬n<(bld f l).fr from d),if_neg a];have e:(bld f l).cs.length=l.length-nz l:=by unfold bld;rw[W4,UG]
   have g:(n-(bld f l).fr).toNat<(bld f l).cs.length:=by rw[e];show(n-(f+(nz l:Nat))).toNat<_;omega
   rw[(iX g).1,rE,show nz l+(n-(bld f l).fr).toNat=(n-f).toNat by show nz l+(n-(f+(nz l:Nat))).toNat=_;omega]
theorem j0{f:Int}{l:List GRat}:(bld f l).fr=f+(nz l:Nat)∧(bld f l).cs.length=l.length-nz l:=⟨rfl,by unfold bld;rw[W4,UG]⟩
theorem B8{f:Int}{l:List GRat}{i:Nat}(h:i<(bld f l).cs.length):(bld f l).cs.getD i default=nrm ((bld f l).cs.getD i default):=by
 rw[(iX h).1];show ofQ _=ofQ (ofQ _).q;rw[Zq]
theorem gZ{b:GSer}{g:Nat→Int}{B C:Nat}(h:sI b g B){c:GRat}{z:Int}(hc:c.q=(z:Rat))(hz:z.natAbs≤C):sI (scM c b) (fun n=>z*g n) (C*B):=by
 have o:=h.fr0;have p:=h.pr;have hl:(sclL c b.cs).length=b.cs.length:=oZ;have hn:=lu (sclL c b.cs);obtain⟨r,s⟩:=j0 (f:=b.fr) (l:=sclL c b.cs);refine⟨by show 0≤(bld _ _).fr;omega,by show(bld _ _).fr+_=6;unfold scM;omega,fun n d=>?_,fun n d=>?_,fun i hi=>B8 hi⟩
 ·unfold scM;rw[oy (by rw[hl];omega)];have a:=h.co n d;unfold atM at a ⊢;by_cases e:((n:Nat):Int)<b.fr
  ·rw[if_pos e] at a ⊢;have m:(ofQ (Rat.divInt 0 1)).q=0:=by rw[Zq,Jaq]
   rw[m] at a ⊢
   have:g n=0:=by
    have:=congrArg Rat.num a
    rw[Jap] at this;exact this.symm
   rw[this,Wm];rfl
  ·rw[if_neg e] at a ⊢;have j:(((n:Nat):Int)-b.fr).toNat<b.cs.length:=by omega
   show((sclL c b.cs).getD _ default).q=_
   unfold sclL;rw[UJ,VA,UL j];rw[UJ,UL j] at a
   show(ofQ _).q=_
   rw[Zq];have a:(b.cs[(((n:Nat):Int)-b.fr).toNat]).q=_:=a;rw[a,hc,kh]
 ·rw[Wr];exact ZH hz (h.bd n d)
theorem Hv{a b:GSer}{f g:Nat→Int}{A B:Nat}(h:sI a f A)(k:sI b g B):sI (cmb a b 1) (fun n=>f n+g n) (A+B):=by
 have u:=h.fr0;have v:=h.pr;have k0:=k.fr0;have k1:=k.pr;have ec:cmb a b 1=bld (min a.fr b.fr) (cmbL a b 1 (min a.fr b.fr) (6-min a.fr b.fr).toNat):=by
  unfold cmb;have m:min (a.fr+(a.cs.length:Nat)) (b.fr+(b.cs.length:Nat))=6:=by omega
  show bld (min (min a.fr b.fr) (min (a.fr+(a.cs.length:Nat)) (b.fr+(b.cs.length:Nat)))) _=_;rw[m,show min (min a.fr b.fr) 6=min a.fr b.fr by omega]
 rw[ec];obtain⟨w,x⟩:=j0 (f:=min a.fr b.fr) (l:=cmbL a b 1 (min a.fr b.fr) (6-min a.fr b.fr).toNat);have hl:(cmbL a b 1 (min a.fr b.fr) (6-min a.fr b.fr).toNat).length=(6-min a.fr b.fr).toNat:=jl;have hn:=lu (cmbL a b 1 (min a.fr b.fr) (6-min a.fr b.fr).toNat);refine⟨by omega,by omega,fun n d=>?_,fun n d=>?_,fun i hi=>B8 hi⟩
 ·rw[oy (by rw[hl];omega)];have e:=h.co n d;have j:=k.co n d;by_cases p:((n:Nat):Int)<min a.fr b.fr
  ·have o:(ofQ (Rat.divInt 0 1)).q=0:=by rw[Zq,Jaq]
   unfold atM at e j ⊢;rw[if_pos (show((n:Nat):Int)<a.fr by omega),o] at e;rw[if_pos (show((n:Nat):Int)<b.fr by omega),o] at j;rw[if_pos (show((n:Nat):Int)<min a.fr b.fr from p),o];have m:f n=0:=by
    have:=congrArg Rat.num e
    rw[Jap] at this;exact this.symm
   have r:g n=0:=by
    have:=congrArg Rat.num j
    rw[Jap] at this;exact this.symm
   rw[m,r];rfl
  ·show(if((n:Nat):Int)<min a.fr b.fr then _ else _:GRat).q=_
   rw[if_neg p];have s:(((n:Nat):Int)-min a.fr b.fr).toNat<(6-min a.fr b.fr).toNat:=by omega
   show((cmbL a b 1 (min a.fr b.fr) (6-min a.fr b.fr).toNat).getD _ default).q=_
   unfold cmbL;rw[UJ,VA,WZ s]
   show(ofQ _).q=_
   rw[Zq,show min a.fr b.fr+(((((n:Nat):Int)-min a.fr b.fr).toNat:Nat):Int)=((n:Nat):Int) by omega,e,j,zm,kh,Wy,nw]
 ·have y:=h.bd n d;have z:=k.bd n d
  have:=Wo (f n) (g n)
  show(f n+g n).natAbs≤_
  omega
theorem Bh{l:List Int}{n:Nat}(h:n<l.length):l.getD n 0∈l:=by
 rw[UJ,UL h];exact List.getElem_mem _
theorem Ed{k:Int}(hk:K1 k 6=true){i:Nat}(h:i<(mB k 6).length):sI ((mB k 6).getD i default) (fun n=>bc k.toNat i n) (2^48):=by
 obtain⟨e,f,a,b,g⟩:=A4 hk h;have h':=h;rw[k7] at h';obtain⟨l,d,m⟩:=iH h';refine⟨b,a,fun n hn=>DA hk h (by omega),fun n hn=>?_,fun j hj=>?_⟩
 ·unfold bc
  have:((milR k.toNat).getD i []).getD n 0∈(milR k.toNat).getD i []:=Bh (by omega)
  have o:=d _ this
  have:(2:Nat)^48=281474976710656:=by decide
  omega
 ·rw[rB h] at hj ⊢;have hcs:(serI (Int.ofNat (min i (6:Int).toNat),(((milR k.toNat).getD i []).take (6:Int).toNat).drop i)).cs=((((milR k.toNat).getD i []).take (6:Int).toNat).drop i).map zQ:=rfl;rw[hcs] at hj ⊢;rw[W4] at hj;rw[UJ,VA,UL hj];show zQ _=ofQ (zQ _).q;rw[Dw,Zq]
def cA(k:Nat)(z:Nat→Int)(n:Nat):Nat→Int
 |0=>0
 |i+1=>cA k z n i+z i*bc k i n
theorem Cz{k:Int}(hk:K1 k 6=true){lead:List GRat}{z:Nat→Int}(hz:∀i,i<(mB k 6).length→(lead.getD i default).q=(z i:Rat)∧(z i).natAbs≤2^64):
  ∀i,i<(mB k 6).length→sI (frmM lead (mB k 6) (i+1)) (fun n=>cA k.toNat z n (i+1)) ((i+1)*2^112)
 |0,h=>by
  have a:=gZ (Ed hk h) (hz 0 h).1 (hz 0 h).2;have e:(fun n=>z 0*bc k.toNat 0 n)=fun n=>cA k.toNat z n 1:=by
   funext n
   show _=0+z 0*bc k.toNat 0 n;omega
  rw[e] at a;have b:(2:Nat)^64*2^48=(0+1)*2^112:=by decide
  rw[b] at a;exact a
 |i+1,h=>by
  have d:=Cz hk hz i (by omega);have a:=Hv d (gZ (Ed hk h) (hz (i+1) h).1 (hz (i+1) h).2);have b:(i+1)*2^112+2^64*2^48=(i+1+1)*2^112:=by
   have:(2:Nat)^64*2^48=2^112:=by decide
   rw[this,ZW (i+1)]
  rw[b] at a;exact a
theorem n5:((List.range 31).all fun j=>Nat.beq (milT.getD j []).length (if 2*j%12=2 then 2*j/12 else 2*j/12+1))=true:=by kernel_rfl
theorem mJ{k:Int}(a:0≤k)(b:k≤60)(d:k%2=0):(((mB k 6).length:Nat):Int)=dimM k:=by
 rw[k7];have h:=YT (WD.1 n5 (k.toNat/2) (XQ.2 (by omega)));unfold milR dimM;rw[h,show 2*(k.toNat/2)=k.toNat by omega];by_cases e:k%12=2
 ·rw[if_pos e,if_pos (by omega)];omega
 ·rw[if_neg e,if_neg (by omega)];omega
theorem Ly:((List.range 61).all fun k=> !Nat.beq (k%2) 0||inE milL k 6)=true:=by kernel_rfl
theorem mil6{k:Int}(a:0≤k)(d:k≤60)(e:k%2=0):K1 k 6=true:=by
 have h:=WD.1 Ly k.toNat (XQ.2 (by omega));have b:Nat.beq (k.toNat%2) 0=true:=by rw[show k.toNat%2=0 by omega];rfl
 rw[b] at h;unfold K1;rw[decide_eq_true a];exact h
def fA(lead:List GInt)(k:Int):GSer:=frmM (ldM lead (dimM k).toNat) (mB k 6) (mB k 6).length
section
variable {lead:List GInt} {k:Int}
theorem qw(a:0≤k)(b:k≤24):0≤dimM k∧dimM k≤3:=by unfold dimM;split<;>omega
theorem Id(hs:smI lead)(a:0≤k)(b:k≤24)(d:k%2=0):∀i,i<(mB k 6).length→((ldM lead (dimM k).toNat).getD i default).q=((ldZ lead i:Int):Rat)∧(ldZ lead i).natAbs≤2^64:=by
 intro i hi;have hd:=mJ a (by omega) d;have hp:=qw a b;rw[t8 (by omega),Zq];exact⟨rfl,CS hs (by omega)⟩
theorem MS(hs:smI lead)(a:0≤k)(d:k≤24)(b:k%2=0){i:Nat}(hi:i<(mB k 6).length):sI (frmM (ldM lead (dimM k).toNat) (mB k 6) (i+1)) (fun n=>cA k.toNat (ldZ lead) n (i+1)) (2^114-1):=by
 have hd:=mJ a (by omega) b;have hp:=qw a d;have h:=Cz (mil6 a (by omega) b) (Id hs a d b) i hi;refine⟨h.fr0,h.pr,h.co,fun n hn=>UC (h.bd n hn) ?_,h.nr⟩
 have:(i+1)*2^112≤3*2^112:=ZI _ (by omega)
 exact UC this (by decide)
theorem wb:sI ⟨6,[]⟩ (fun _=>0) (2^114-1):=by
 refine⟨by decide,by decide,fun n hn=>?_,fun _ _=>by decide,fun i hi=>by simp at hi⟩;unfold atM;rw[if_pos (show((n:Nat):Int)<6 by omega),Zq,Jaq];rfl
theorem LI(hs:smI lead)(a:0≤k)(b:k≤24)(d:k%2=0):∀i,i≤(mB k 6).length→sI (frmM (ldM lead (dimM k).toNat) (mB k 6) i) (fun n=>cA k.toNat (ldZ lead) n i) (2^114-1)∧okS (frmM (ldM lead (dimM k).toNat) (mB k 6) i)
 |0,_=>⟨wb,(wb.ok (by decide)).1⟩
 |i+1,h=>⟨MS hs a b d h,((MS hs a b d h).ok (by decide)).1⟩
theorem P2(hs:smI lead)(a:0≤k)(d:k≤24)(b:k%2=0):∀i,i<(mB k 6).length→okS (bld ((mB k 6).getD i default).fr (sclL ((ldM lead (dimM k).toNat).getD i default) ((mB k 6).getD i default).cs)):=by
 intro i hi;have h:=Id hs a d b i hi;have e:=gZ (Ed (mil6 a (by omega) b) hi) h.1 h.2
 exact(e.ok (by decide)).1
theorem N9(hs:smI lead)(a:0≤k)(b:k≤24)(d:k%2=0):szL 1000 (ldM lead (dimM k).toNat):=by
 intro i hi;rw[uF] at hi;have hp:=qw a b;rw[t8 hi]
 have:=k6 (z:=ldZ lead i) (k:=3) (U7 (CS hs (by omega)) (by decide))
 omega
end
end Go.Wf
namespace Go.Wf
open Go Go.Proofs Go.RowKit
theorem ar23:Tryz.prog.underlying 23=some (.array 2 3):=by kernel_rfl
theorem sl22:Tryz.prog.underlying 22=some (.slice 40):=by kernel_rfl
theorem He{X:Nat→Prop}{w:World}(hX:XB X w){s:Value}{a:GInt}(u:RV Jo X w s a)(hl:a.mag.length≤34359738368):CRt 17 #[s] w fun v w'=>RV Jj X w' v (ofQ (Rat.divInt a.toZ 1)):=by
 obtain⟨x,y,rfl,r⟩:=RV.int u;have C:=Cx.start hX;have sa:=u.int_small;refine Cgo Tryz.func17 rfl rfl rfl (Rg<|Ol<|R9 C rfl ?_);intro U V Y Z I G z b;refine Ol (RR G io42 rfl ?_);intro J K L M H g h d;have r:=(r.sp z).sp h;have b:=b.spn h;refine Nl (Rg<|Ol<|Uo (vs:=(zzC a x y)) b ag40<|Ol<|RH g cb47 rfl rfl (Ql g.bd (a:=a) (Je r) (by omega)) ?_);intro N P i A B;obtain⟨j,k,rfl,e⟩:=RV.int B;refine Ol (RH i cb48 rfl rfl (x_of i.bd (by decide) (by decide)) ?_);intro Q R D l E;have d:=(d.spn A).spn l;obtain⟨m,n,rfl,f⟩:=RV.int E;refine Ol (Si (cs:=[(.bool (ofZ a.toZ).neg),(.slice j (ofZ a.toZ).mag.length k),(.bool (ofZ 1).neg),(.slice m (ofZ 1).mag.length n)]) rfl (by kernel_rfl)<|On<|Us (cs':=[(.bool (ofZ a.toZ).neg),(.slice j (ofZ a.toZ).mag.length k),(.bool (ofZ 1).neg),(.slice m (ofZ 1).mag.length n)]) D d io42 ?_);intro T o p F;have e:=(e.sp l).sp p;have f:=f.sp p;refine Nl (RY<|J0 rfl (TL F rfl ag42 rfl)<|RM ?_ o.below);exact TM (a:=(⟨⟨(ofZ a.toZ).neg,(ofZ a.toZ).mag⟩,⟨(ofZ 1).neg,(ofZ 1).mag⟩⟩:GRat)) ((J2 e f).tr (Tr.weak o.base))<|Kx rfl
theorem Lw{X:Nat→Prop}{w:World}(hX:XB X w){k:Int}(b:0≤k)(d:k≤60)(e:k%2=0):CRt 16 #[(.int .i64 k)] w fun v w'=>v=(.int .i64 (dimM k)):=by
 have C:=Cx.start hX;refine Cgo Tryz.func16 rfl rfl rfl (Rg<|Ua<|RZ<|W.block<|Rg<|Ub<|SG (t:=false) rfl rfl (decide_eq_false (by omega))<|Om<|OgD<|RP<|OgD<|Sz rfl rfl (by decide) (IntWalk.rem_in _ _ (by omega))<|OgD<|SK (t:=false) rfl rfl (by rw[decide_eq_true (by omega)];rfl) ?_);refine OF<|Ua<|Ug<|Ub<|Sz rfl rfl (by decide) (IntWalk.rem_in _ _ (by omega))<|Ol<|Sj rfl rfl (fun a=>?_)<|fun a=>?_
 ·exact Ua<|Uf<|Ub<|SF rfl rfl (by decide) (IntWalk.i64_quo _ _ (by omega))<|Ua<|RY<|Wq rfl rfl C<|congrArg (Value.int _)<|(by unfold dimM;rw[if_pos a])
 exact Ua<|Uc<|Rg<|Ub<|SF rfl rfl (by decide) (IntWalk.i64_quo _ _ (by omega))<|Ol<|St.add (z:=((k/12)+1)) rfl rfl (UP _ (by omega))<|Ua<|RY<|Wq rfl rfl C<|congrArg (Value.int _)<|(by unfold dimM;rw[if_neg a])
theorem uw{X:Nat→Prop}{w:World}(hX:XB X w)   :CRt 90 #[(.int .i64 6)] w fun v w'=>RV Zu X w' v (⟨6,[]⟩:GSer):=by
 have C:=Cx.start hX;refine Cgo Tryz.func90 rfl rfl rfl (Rg<|Ol<|RR C io29 rfl ?_);intro i j k l g e m f;refine Nl (Rg<|Ub<|Si (cs:=[(.int .i64 6),(.slice none 0 0)]) rfl (by kernel_rfl)<|On<|Us (cs':=[(.int .i64 6),(.slice none 0 0)]) e f io29 ?_);intro n b h d;refine Nl (RY<|J0 rfl (TL d rfl ag29 rfl)<|RM ?_ b.below);exact TM (a:=(⟨6,[]⟩:GSer)) ((Zm (by omega) (by omega) RS.nil).tr (Tr.weak b.base)) rfl
theorem MT{X:Nat→Prop}{w:World}(hX:XB X w){k:Int}{v1:Value}{lead:List GRat}(n:RS Jj X w v1 lead)(hT:T10 X w)(Y:0≤k)(h1:k≤24)(h2:k%2=0)(hln:((lead.length:Nat):Int)=dimM k)(hsl:szL 1000 lead)(hfo:∀i,i≤(mB k 6).length→okS (frmM lead (mB k 6) i))(hso:∀i,i<(mB k 6).length→okS (bld ((mB k 6).getD i default).fr (sclL (lead.getD i default) ((mB k 6).getD i default).cs))):CRt 51 #[(.int .i64 k),v1,(.int .i64 6)] w fun v w'=>RV Zu X w' v (frmM lead (mB k 6) (mB k 6).length):=by
 obtain⟨a1,c2,rfl,_,_⟩:=n.len;have C:=Cx.start hX;have hk:=mil6 Y (by omega) h2;have hdl:=mJ Y (by omega) h2;have hdp:=qw Y h1;have hml:maxLen=9223372036854775807:=rfl;refine Cgo Tryz.func51 rfl rfl rfl (Rg<|Ol<|RR C io29 rfl ?_);intro g3 w4 x5 y6 d0 C8 s9 G;have n:=n.sp s9;refine Nl (Rg<|Ub<|RH C8 cb90 rfl rfl (uw C8.bd) ?_);intro d1 d2 ci aj cj;have hT:=(hT.sp s9).sp aj;have G:=G.spn aj;obtain⟨aM,aO,rfl,cN,cO,T⟩:=TO cj;refine Ol (RR ci io29 rfl ?_);intro ak d3 d4 d5 a3 ck ac cl;have al:=a3 _ G.blk.lt;have n:=(n.sp aj).sp ac;have T:=T.sp ac;have G:=G.spn ac;refine On (Us (cs':=(ssC (⟨6,[]⟩:GSer) aM aO)) ck cl io29 ?_);intro d6 aP ad am;have hT:=(hT.sp ac).sp ad;refine Nl (Rh<|Om<|Ub<|RH aP cb91 rfl rfl (oD aP.bd hT hk) ?_);intro d7 d8 cm U p;have n:=(n.sp ad).sp U;have hT:=hT.sp U;have T:=(T.sp ad).sp U;have G:=(G.spo ad al).spn U;have am:=am.spn U;obtain⟨aQ,aR,rfl,_,_⟩:=p.len;refine Ol (St.len sl91 rfl<|Om<|Nl<|W.block<|Sc (fun μ f v=>∃(x y:Nat→Prop) (i:Nat) (oa:Option Addr) (oc:Nat),Cx X w x y v∧f 1=(.slice a1 lead.length c2)∧f 6=(.pointer (some ⟨g3,0,none⟩))∧f 7=(.pointer (some ⟨ak,0,none⟩))∧f 16=(.slice aQ (mB k 6).length aR)∧f 17=(.int .i64 (((mB k 6).length:Nat):Int))∧f 18=(.int .i64 ((i:Nat):Int))∧RS Jj x v (.slice a1 lead.length c2) lead∧T10 x v∧RS Zu x v (.slice aQ (mB k 6).length aR) (mB k 6)∧RS Jj x v (.slice oa (frmM lead (mB k 6) i).cs.length oc) (frmM lead (mB k 6) i).cs∧Own w y v g3 [(.int .i64 0),(.slice none 0 0)] 29∧Own w y v ak (ssC (frmM lead (mB k 6) i) oa oc) 29∧i≤(mB k 6).length∧μ=((mB k 6).length-i)) _ ⟨_,_,0,aM,aO,cm,rfl,rfl,rfl,rfl,rfl,rfl,n,hT,p,T,G,am,(UN _),rfl⟩ ?_);rintro d9 ea eb ⟨ec,ed,i,oa,oc,aS,aT,aU,aV,aW,aX,aY,n,hT,p,hO,z,D,hi,cB⟩;obtain⟨ee,rfl⟩:=rebK (aC aT<|aC aU<|aC aV<|aC aW<|aC aX<|aC aY aN);clear aT aU aV aW aX aY;have hoi:=hfo i hi;have hoir:=X1 hoi.1;refine Rg<|Ol<|Sb rfl rfl (fun a4=>?_)<|fun a4=>?_
 ·refine Nl (RZ<|Ud<|RT<|RZ<|W.block<|Rg<|Ub<|Sd (j:=i) (u:=((mB k 6).getD i default)) p sl91 io29 rfl rfl rfl (Ji (by omega)) ?_);intro ef eg cP aZ;obtain⟨ae,af,rfl,a5,a6,V⟩:=z7 aZ.rd;refine Ol (Sv (cs:=(ssC ((mB k 6).getD i default) ae af)) ag29 rfl rfl aZ.cell<|Ol<|RR aS io29 rfl ?_);intro cn eh co cp an cq H cr;have ct:=an _ z.blk.lt;have cu:=an _ D.blk.lt;have n:=n.sp H;have V:=V.sp H;refine Oa (On<|Us (cs':=(ssC ((mB k 6).getD i default) ae af)) cq cr io29 ?_);intro cw cx I ag;have hT:=(hT.sp H).sp I;have p:=(p.sp H).sp I;have hO:=(hO.sp H).sp I;have z:=(z.spn H).spo I ct;have D:=(D.spn H).spo I cu;refine Nl (RZ ?_);obtain⟨cy,cz,ei,ej,ek⟩:=A4 hk (i:=i) (by omega);have a0:=hsl i (by omega);refine Tb [(10,8)] rfl (by kernel_rfl) (fun _ _ _ _ h=>h) mixed 10 [[],[],[0,1],[2],[],[3,4],[5],[6],[6],[]] (co,cp) (RC X w) [fx<|.slice a1 lead.length c2,fx<|.int .i64 ((i:Nat):Int),fE Jj<|lead.getD i default,fr Jj<|lead.getD i default,fx<|.agg #[(.int .i64 ((mB k 6).getD i default).fr),(.slice ae ((mB k 6).getD i default).cs.length af)],fun(s:Gh) (v:Value) (w':World)=>∃u0 P,v= .tuple #[u0,P]∧(RV Zu s.1 w' u0<|bld ((mB k 6).getD i default).fr<|sclL (lead.getD i default) ((mB k 6).getD i default).cs)∧(P=(.int .i64 0)),fun(s:Gh) (v:Value) (w':World)=>∃u0 P,v= .tuple #[u0,P]∧(RV Zu s.1 w' u0<|bld ((mB k 6).getD i default).fr<|sclL (lead.getD i default) ((mB k 6).getD i default).cs)∧(P=(.int .i64 0)),fr Zu<|bld ((mB k 6).getD i default).fr<|sclL (lead.getD i default) ((mB k 6).getD i default).cs,fx<|.int .i64 0,fun(s:Gh) (v:Value) (w':World)=>∃g':Nat,v= .pointer (some ⟨g',0,none⟩)∧Own w s.2 w' g' [(.int .i64 0),(.slice none 0 0)] 29∧cw.heap.size≤g'] (by kernel_rfl) (SS cx) RC.trans ⟨sx,sx,sE,sr,sx,(fun _ _ _ _ _ ⟨u0,P,e,Y,h1⟩ r=>⟨u0,P,e,Y.tr r.sp.tx,h1⟩),(fun _ _ _ _ _ ⟨u0,P,e,Y,h1⟩ r=>⟨u0,P,e,Y.tr r.sp.tx,h1⟩),sr,sx,(fun _ _ _ _ _ ⟨g,e,o,l⟩ r=>⟨g,e,o.spn r.sp,l⟩),trivial⟩ fun a7 A cQ ⟨m,B⟩ d=>?_
  have aB:=z.blk.lt;have aD:=D.blk.lt;have aE:=ag.blk.lt;have ah:=B.tx.size;have n:=(n.sp I).sp B;have V:=(V.sp I).sp B;have ag:=ag.spn B;have d:Keep [24,25,26,27,28,29,23,30,31,10] _ a7:=d;refine⟨⟨fun _=>?_,fun _=>?_,fun⟨a8,a9,_⟩=>?_,fun⟨ba,_⟩=>?_,fun _=>?_,fun⟨bb,be,_⟩=>?_,fun⟨bf,_⟩=>?_,fun⟨bg,_⟩=>?_,fun⟨bh,_⟩=>?_,fun _=>?_,trivial⟩,fun⟨bi,bj,bk,bl,bm,bn,bo,bp,bq,br,_⟩=>?_⟩
  ·exact Sd0 d fun _=>RP ⟨A,RJ m,rfl⟩
  ·exact Sd0 d fun _=>RP ⟨A,RJ m,rfl⟩
  ·refine Js d (aC a8<|aC a9 aN) fun _=>R8 (Sd (j:=i) (u:=(lead.getD i default)) n sl27 io42 rfl rfl rfl (Ji (by omega)) ?_);intro cR cS cC ao;obtain⟨cT,cU,cV,cW,rfl,cX,cY⟩:=Zh ao.rd;exact⟨A,RJ m,⟨_,_,_,rfl,ao⟩⟩
  ·obtain⟨cZ,c0,cD,bs,aq⟩:=ba;obtain⟨bt,bu,bv,bw,rfl,bx,bz⟩:=Zh aq.rd;exact Sd1 d bs fun _=>Sv (cs:=(qqC (lead.getD i default) bt bu bv bw)) ag42 rfl rfl aq.cell ⟨A,RJ m,(J2 bx bz)⟩
  ·exact Sd0 d fun _=>RX (vs:=(ssC ((mB k 6).getD i default) ae af)) ag ag29 rfl rfl rfl ⟨A,RJ m,rfl⟩
  ·obtain⟨c1,c3,c4,c6,bA,bB,bC⟩:=TN bb;refine Js d (aC bA<|aC be aN) fun _=>R8 (RH m cb92 rfl rfl (DQ m.bd (c:=(lead.getD i default)) (J2 bB bC) (a:=((mB k 6).getD i default)) (Zm a5 a6 V) cy a0.1 a0.2<|oR cz (by decide)) ?_);intro c7 c8 bD bE bF;exact⟨A,⟨bD,bE⟩,bF⟩
  ·obtain⟨c9,da,bG,bH,rfl⟩:=bf;obtain⟨db,dc,rfl,aF,aG,bJ⟩:=TO bH;exact Sd1 d bG fun _=>RP<|⟨A,RJ m,⟨_,_,rfl,(Zm aF aG bJ),rfl⟩⟩
  ·obtain⟨dd,de,bK,bL,rfl⟩:=bg;obtain⟨df,dg,rfl,aH,aI,bM⟩:=TO bL;exact Sd1 d bK fun _=>St.extract rfl rfl ⟨A,RJ m,(Zm aH aI bM)⟩
  ·obtain⟨dh,di,bN,bO,rfl⟩:=bh;obtain⟨dj,dk,rfl,cE,cF,dm⟩:=TO bO;exact Sd1 d bN fun _=>St.extract rfl rfl ⟨A,RJ m,rfl⟩
  ·refine Sd0 d fun _=>RR m io29 rfl ?_;intro bP dn bQ bR aJ bS bT bU;exact⟨(bQ,bR),⟨bS,bT⟩,bP,rfl,bU,ZB fun hh=>aJ _ (UB hh ah) rfl⟩
  obtain⟨dp,dq,cG,bV,bW⟩:=bk;obtain⟨ds,dt,du,dv,rfl,dw,dx⟩:=Zh bW.rd;obtain⟨dy,dz,dB,dC,bX,dD,dE⟩:=TN bl;obtain⟨dG,dH,bY,bZ,rfl⟩:=bn;obtain⟨dI,dJ,rfl,cH,cI,dK⟩:=TO bZ;obtain⟨dL,dM,b0,b1,rfl⟩:=bo;obtain⟨dN,dO,rfl,cJ,cK,dP⟩:=TO b1;obtain⟨J,K,b2,aK,aL,E⟩:=TO bp;obtain⟨Z,b3,b4,aa⟩:=br;have b5:g3≠Z:=ZO (UB aB aa);have b6:ak≠Z:=ZO (UB aD aa);have dQ:cn≠Z:=ZO (UB aE aa);obtain⟨dR,rfl⟩:=mixK d (aC bi<|aC bj<|aC bV<|aC bX<|aC bm<|aC bY<|aC b0<|aC b2<|aC bq<|aC b3 aN);refine On (Us (cs':=(ssC (bld ((mB k 6).getD i default).fr<|sclL (lead.getD i default) ((mB k 6).getD i default).cs) J K)) m b4 io29 ?_);intro dS ab F ar;have n:=n.sp F;have hT:=(hT.sp B).sp F;have p:=(p.sp B).sp F;have hO:=(hO.sp B).sp F;have E:=E.sp F;have z:=(z.spn B).spo F b5;have D:=(D.spn B).spo F b6;refine Ua<|Rh<|Ub<|Sj rfl rfl (fun Q=>?_)<|fun Q=>?_
  ·refine Nl (Uf<|Ol<|Uo (vs:=(ssC (bld ((mB k 6).getD i default).fr<|sclL (lead.getD i default) ((mB k 6).getD i default).cs) J K)) ar ag29<|On<|Us (cs':=(ssC (bld ((mB k 6).getD i default).fr<|sclL (lead.getD i default) ((mB k 6).getD i default).cs) J K)) ab D io29 ?_);intro dT b7 L au;have n:=n.sp L;have hT:=hT.sp L;have p:=p.sp L;have E:=E.sp L;have z:=z.spo L al;refine Nl (Sf<|RK<|Ol<|St.add rfl rfl (Jc (a:=i) (b:=1) (by omega))<|Om<|Nl ?_);have hf:=tV (lead:=lead) (l:=(mB k 6)) (i:=i) Q;rw[hf] at au E;refine⟨_,(by omega),_,_,(i+1),J,K,b7,rfl,rfl,rfl,rfl,rfl,rfl,n,hT,p,E,z,au,(by omega),rfl⟩
  refine Nl (Ue<|RT ?_);have hsi:=hso i (by omega);refine RK (Ol<|Uo (vs:=(ssC (frmM lead (mB k 6) i) oa oc)) D ag29<|Ol<|Uo (vs:=(ssC (bld ((mB k 6).getD i default).fr<|sclL (lead.getD i default) ((mB k 6).getD i default).cs) J K)) ar ag29 ?_);refine Ol (RH ab cb93 rfl rfl (Oc ab.bd (a:=(frmM lead (mB k 6) i)) (Zm (by omega) (by omega) hO) (b:=(bld ((mB k 6).getD i default).fr<|sclL (lead.getD i default) ((mB k 6).getD i default).cs)) (Zm aK aL E) hoi.1 hsi.1 hoi.2 hsi.2) ?_);intro dU dV b8 M b9;have D:=D.spn M;obtain⟨dW,dX,rfl,ca,rfl⟩:=b9;obtain⟨av,aw,rfl,cL,cM,R⟩:=TO ca;refine Om (Ol<|St.extract rfl rfl<|Ol<|St.extract rfl rfl<|On<|Us (cs':=(ssC (cmb (frmM lead (mB k 6) i) (bld ((mB k 6).getD i default).fr<|sclL (lead.getD i default) ((mB k 6).getD i default).cs) 1) av aw)) b8 D io29 ?_);intro dY cb N ax;have n:=(n.sp M).sp N;have hT:=(hT.sp M).sp N;have p:=(p.sp M).sp N;have R:=R.sp N;have z:=(z.spn M).spo N al;refine Nl (RK<|Ol<|St.add rfl rfl (Jc (a:=i) (b:=1) (by omega))<|Om<|Nl ?_);have hf:=yM (lead:=lead) (l:=(mB k 6)) (i:=i) Q;rw[hf] at ax R;refine⟨_,(by omega),_,_,(i+1),av,aw,cb,rfl,rfl,rfl,rfl,rfl,rfl,n,hT,p,R,z,ax,(by omega),rfl⟩
 refine Nl (RZ<|Ue<|Sf<|Rg<|Ol<|Uo (vs:=(ssC (frmM lead (mB k 6) i) oa oc)) D ag29<|On<|Us (cs':=(ssC (frmM lead (mB k 6) i) oa oc)) aS z io29 ?_);intro dZ ay cc cd;have hO:=hO.sp cc;refine Nl (RY<|J0 rfl (TL cd rfl ag29 rfl)<|RM ?_ ay.below);exact TM (a:=(frmM lead (mB k 6) i)) ((Zm (by omega) (by omega) hO).tr (Tr.weak ay.base))<|(by rw[show i=(mB k 6).length by omega])
theorem LN{X:Nat→Prop}{w:World}(hX:XB X w){k:Int}{e:Value}{lead:List GRat}(d:RS Jj X w e lead)(hT:T10 X w)(p:0≤k)(L:k≤24)(r:k%2=0)(hln:((lead.length:Nat):Int)=dimM k)(hsl:szL 1000 lead)(hfo:∀i,i≤(mB k 6).length→okS (frmM lead (mB k 6) i))(hso:∀i,i<(mB k 6).length→okS (bld ((mB k 6).getD i default).fr (sclL (lead.getD i default) ((mB k 6).getD i default).cs))):CRt 18 #[(.int .i64 k),e,(.int .i64 6)] w fun v w'=>(∃x e,v= .tuple #[x,e]∧(RV Zu X w' x (frmM lead (mB k 6) (mB k 6).length))∧(e=(.int .i64 0))):=by
 obtain⟨M,N,rfl,_,_⟩:=d.len;have C:=Cx.start hX;refine Cgo Tryz.func18 rfl rfl rfl (Rg<|Ol<|RR C io29 rfl ?_);intro g3 w4 x5 y6 P y z b;refine Oa (Nl<|Rh<|Ub<|RH y cb49 rfl rfl (pk y.bd p (by omega) r) ?_);intro Q R l f A;have d:=(d.sp z).sp f;have hT:=(hT.sp z).sp f;subst A;refine Oa (Nl<|Rg<|Ub<|SK (t:=false) rfl rfl (by rw[decide_eq_true rfl];rfl)<|Nl<|Uc<|Rh<|Ub<|St.len sl27 rfl<|Ub<|RH l cb16 rfl rfl (Lw l.bd p (by omega) r) ?_);intro T U m g B;have b:=(b.spn f).spn g;subst B;refine Ol (SK (t:=false) rfl rfl (by rw[decide_eq_true hln];rfl)<|Nl<|Uc<|Rh<|Ub<|RH m cb50 rfl rfl (pf m.bd (by decide) (by decide)) ?_);intro V Y n h D;have d:=(d.sp g).sp h;have hT:=(hT.sp g).sp h;subst D;refine Ol (Sr rfl<|Nl<|Uc<|Rg<|Om<|Om<|Ub<|RH n cb51 rfl rfl (MT n.bd d hT p L r hln hsl hfo hso) ?_);intro Z aa E F G;have b:=(b.spn h).spn F;obtain⟨H,I,rfl,s,u,j⟩:=TO G;refine On (Us (cs':=(ssC (frmM lead (mB k 6) (mB k 6).length) H I)) E b io29 ?_);intro ab o J K;have j:=j.sp J;refine Oa (Nl<|RY<|Z4 rfl (TL K rfl ag29 rfl) (resV.t rfl)<|RM ?_ o.below);refine⟨_,_,rfl,?_,?_⟩
 ·exact TM (a:=(frmM lead (mB k 6) (mB k 6).length)) ((Zm s u j).tr (Tr.weak o.base)) rfl
 ·skip
  rfl
theorem r7{X:Nat→Prop}{w:World}(hX:XB X w){P:Value}{lead:List GInt}(d:RS Jo X w P lead){k:Int}(hT:T10 X w)(N:0≤k)(Q:k≤24)(R:k%2=0):CRt 6 #[P,(.int .i64 k)] w fun v w'=>(∃P v1,v= .tuple #[P,v1]∧(RV Zu X w' P (fA lead k))∧(v1=(.int .i64 0))):=by
 obtain⟨U,V,rfl,_,_⟩:=d.len;have C:=Cx.start hX;have hsm:=d.smI;have hdp:=qw N Q;have hml:maxLen=9223372036854775807:=rfl;refine Cgo Tryz.func6 rfl rfl rfl (Rg<|Ol<|RR C io29 rfl ?_);intro g3 w4 x5 y6 bL C8 s9 bh;have d:=d.sp s9;have hT:=hT.sp s9;refine Oa (Nl<|Rg<|Ua<|Rh<|Ua<|W.block<|Sc (fun μ f v=>∃(x y:Nat→Prop) (i:Nat) (p:List GRat) (pa:Option Addr) (pc:Nat),Cx X w x y v∧f 0=(.slice U lead.length V)∧f 1=(.int .i64 k)∧f 4=(.pointer (some ⟨g3,0,none⟩))∧f 5=(.int .i64 0)∧f 7=(.int .i64 ((i:Nat):Int))∧f 6=(.slice pa p.length pc)∧RS Jo x v (.slice U lead.length V) lead∧T10 x v∧OS Jj 42 w x y v (.slice pa p.length pc) p∧Own w y v g3 [(.int .i64 0),(.slice none 0 0)] 29∧i≤(dimM k).toNat∧p=ldM lead i∧μ=((dimM k).toNat-i)) _ ⟨_,_,0,[],none,0,C8,rfl,rfl,rfl,rfl,rfl,rfl,d,hT,OS.nil,bh,(UN _),rfl,rfl⟩ ?_);rintro bM bN bO ⟨bP,bQ,i,p,pa,pc,aq,ar,au,av,aw,ax,ay,d,hT,hP,e,hi,hp,bs⟩;obtain⟨bR,rfl⟩:=rebK (aC ar<|aC au<|aC av<|aC aw<|aC ax<|aC ay aN);clear ar au av aw ax ay;have hpl:p.length=i:=by rw[hp,uF]
 refine Rh (Om<|Ub<|RH aq cb16 rfl rfl (Lw aq.bd N (by omega) R) ?_);intro bS bT F s bi;have hT:=hT.sp s;have hP:=hP.sp s F<|fun _ h=>h
 subst bi;refine Ol<|Sb rfl rfl (fun aU=>?_)<|fun aU=>?_
 ·refine Nl (Ud<|RT<|RZ<|W.block<|Rg<|Ub<|St.add rfl rfl (Jc (a:=i) (b:=1) (by omega))<|Ol<|RH F cb11 rfl rfl (x_Q F.bd hT (by omega) (by omega)) ?_);intro bU bV az G bj;have d:=(d.sp s).sp G;have hT:=hT.sp G;have hP:=hP.sp G az<|fun _ h=>h
  have e:=(e.spn s).spn G;obtain⟨H,I,J,K,rfl,L,M⟩:=TN bj;refine Ol (SL az io42 rfl ?_);intro aA bW bX bY aV aB m bk bl;have aD:=aV _ e.blk.lt;refine On (Us (cs':=(qqC (ofQ<|Rat.divInt ((i+1:Nat):Int) 1) H I J K)) aB bk io42 ?_);intro bZ z n A;have d:=(d.sp m).sp n;have hT:=(hT.sp m).sp n;have hP:=(hP.sp m aB bl).sp n z (fun _ h=>h)
  have L:=(L.sp m).sp n;have M:=(M.sp m).sp n;have e:=(e.spn m).spo n aD;refine Nl<|RZ<|SX (fun f v=>∃(x y:Nat→Prop) (cc:GRat) (nA:Option Addr) (nC:Nat) (dA:Option Addr) (dC:Nat),Cx X w x y v∧f 0=(.slice U lead.length V)∧f 1=(.int .i64 k)∧f 4=(.pointer (some ⟨g3,0,none⟩))∧f 5=(.int .i64 0)∧f 6=(.slice pa p.length pc)∧f 7=(.int .i64 ((i:Nat):Int))∧f 8=(.pointer (some ⟨aA,0,none⟩))∧f 9=(.int .i64 ((i:Nat):Int))∧f 10=(.int .i64 k)∧f 11=(.int .i64 (dimM k))∧f 12=(.bool true)∧f 15=(.int .i64 ((i:Nat):Int))∧f 16=(.int .i64 ((i+1:Nat):Int))∧f 17=(qqA (ofQ<|Rat.divInt ((i+1:Nat):Int) 1) H I J K)∧RS Jo x v (.slice U lead.length V) lead∧T10 x v∧OS Jj 42 w x y v (.slice pa p.length pc) p∧RS Jd x v (.slice nA cc.num.mag.length nC) cc.num.mag∧RS Jd x v (.slice dA cc.den.mag.length dC) cc.den.mag∧Own w y v g3 [(.int .i64 0),(.slice none 0 0)] 29∧Own w y v aA (qqC cc nA nC dA dC) 42∧p++[cc]=ldM lead (i+1)) ?_ ?_
  ·refine Rg<|Om<|Ub<|St.len sl22 rfl<|Ol<|Sb rfl rfl (fun aW=>?_)<|fun aW=>?_
   ·refine Om (OgD<|RP<|OgD<|RP<|OgD<|Sd (j:=i) (u:=(lead.getD i default)) d sl22 io40 rfl rfl rfl (Ji (by omega)) ?_);intro b0 b1 bu aE;obtain⟨b2,b3,rfl,b4⟩:=zq aE.rd;refine OgD<|RI J4 rfl<|OgD<|Sa pl38 rfl (aE.cell 1 _ rfl)<|OgD<|St.len sl38 rfl<|OgD<|SJ rfl rfl (fun aX=>?_)<|fun aX=>?_
    ·refine OT (Nl<|Uk<|Om<|Ub<|Sd (j:=i) (u:=(lead.getD i default)) d sl22 io40 rfl rfl rfl (Ji (by omega)) ?_);intro b5 b6 bv aF;obtain⟨bm,bn,rfl,bo⟩:=zq aF.rd;refine Ol (Sv (cs:=(zzC (lead.getD i default) bm bn)) ag40 rfl rfl aF.cell<|Ol<|RH z cb17 rfl rfl (He z.bd (a:=(lead.getD i default)) (Je bo) (by omega)) ?_);intro b7 b8 aG B bp;have A:=A.spn B;obtain⟨aH,aI,aJ,aK,rfl,Y,Z⟩:=TN bp;refine On (Us (cs':=(qqC (ofQ<|Rat.divInt (lead.getD i default).toZ 1) aH aI aJ aK)) aG A io42 ?_);intro b9 aL o bq;have d:=(d.sp B).sp o;have hT:=(hT.sp B).sp o;have hP:=(hP.sp B aG<|fun _ h=>h).sp o aL (fun _ h=>h)
     have Y:=Y.sp o;have Z:=Z.sp o;have e:=(e.spn B).spo o aD;refine Nl<|⟨_,_,(ofQ<|Rat.divInt (lead.getD i default).toZ 1),aH,aI,aJ,aK,aL,rfl,rfl,rfl,rfl,rfl,rfl,rfl,rfl,rfl,rfl,rfl,rfl,rfl,rfl,d,hT,hP,Y,Z,e,bq,(tc hp (by omega) (by omega))⟩
    refine OT<|Nl<|Uc<|⟨_,_,(ofQ<|Rat.divInt ((i+1:Nat):Int) 1),H,I,J,K,z,rfl,rfl,rfl,rfl,rfl,rfl,rfl,rfl,rfl,rfl,rfl,rfl,rfl,rfl,d,hT,hP,L,M,e,A,(mr hp (by omega))⟩
   refine Om<|Oz<|Oz<|Oz<|Oz<|Oz<|Oz<|Oz<|OF<|Nl<|Uc<|⟨_,_,(ofQ<|Rat.divInt ((i+1:Nat):Int) 1),H,I,J,K,z,rfl,rfl,rfl,rfl,rfl,rfl,rfl,rfl,rfl,rfl,rfl,rfl,rfl,rfl,d,hT,hP,L,M,e,A,(mr hp (by omega))⟩
  rintro ca cb ⟨cd,ce,cc,nA,nC,dA,dC,br,aM,aO,aP,aQ,aR,aS,aT,aa,ab,ac,ad,ae,af,ag,d,hT,hP,hA,hB,g,aY,hcc⟩;obtain⟨bw,rfl⟩:=rebK (aC aM<|aC aO<|aC aP<|aC aQ<|aC aR<|aC aS<|aC aT<|aC aa<|aC ab<|aC ac<|aC ad<|aC ae<|aC af<|aC ag aN);clear aM aO aP aQ aR aS aT aa ab ac ad ae af ag;refine RK (Ub<|Uo (vs:=(qqC cc nA nC dA dC)) aY ag42<|Ol<|Sl (T:=Jj) (css:=[(qqC cc nA nC dA dC)]) (l:=[cc]) br sl27 io42 (by decide) (by decide) rfl (by kernel_rfl) ⟨(⟨_,_,rfl,hA,hB⟩),trivial⟩ ?_);intro bx bz ah r aZ;have hP:=hP.sp r ah<|fun _ h=>h
  have g:=g.spn r;refine Ol (Sk (T:=Jj) ah sl27 io42 rfl rfl hP (Xq aZ) (by simp[maxLen];omega) (by simp;omega) rfl ?_);intro bA bB bC a0 D bD ai;have d:=(d.sp r).tr D.tx;have hT:=(hT.sp r).tr D.tx;replace g:=g.ap D g.mem;obtain⟨a2,a3,rfl,_,_⟩:=ai.len;refine Ua<|RK<|Ub<|St.add rfl rfl (Jc (a:=i) (b:=1) (by omega))<|Ua<|⟨_,(by omega),_,_,(i+1),(p++[cc]),a2,a3,a0,rfl,rfl,rfl,rfl,rfl,rfl,d,hT,ai,g,(by omega),hcc,rfl⟩
 refine Nl (Ue<|Sf<|RZ ?_);have hie:i=(dimM k).toNat:=by omega
 refine RK (Om<|Om ?_);obtain⟨bE,aj,am,a4⟩:=hP.freeze F hX;have hT:=hT.tr (Tr.weak am);refine Ol (RH aj cb18 rfl rfl (LN aj.bd a4 hT N Q R (by omega) (by rw[hp,hie];exact N9 hsm N Q R) (by rw[hp,hie];exact fun i hi=>(LI hsm N Q R i hi).2) (by rw[hp,hie];exact P2 hsm N Q R)) ?_);intro bF bG a5 a6 a7;have e:=(e.spn s).spn a6;obtain⟨bH,bJ,rfl,a8,rfl⟩:=a7;obtain⟨a9,ba,rfl,an,ao,E⟩:=TO a8;refine Ol (St.extract rfl rfl<|Ol<|St.extract rfl rfl<|On<|Us (cs':=(ssC (frmM p (mB k 6) (mB k 6).length) a9 ba)) a5 e io29 ?_);intro bK ak bb be;have E:=E.sp bb;refine Oa (Nl<|RY<|Z4 rfl (TL be rfl ag29 rfl) (resV.t rfl)<|RM ?_ ak.below);refine⟨_,_,rfl,?_,?_⟩
 ·exact TM (a:=(frmM p (mB k 6) (mB k 6).length)) ((Zm an ao E).tr (Tr.weak ak.base))<|(by rw[hp,hie];rfl)
 ·skip
  rfl
end Go.Wf
namespace Go.Wf
open Go Go.Ev Go.Proofs
def S(f:Nat→Int):Nat→Int
 |0=>0
 |n+1=>S f n+f n
theorem Yn{f g:Nat→Int}:∀ {n:Nat},(∀i,i<n→f i=g i)→S f n=S g n
 |0,_=>rfl
 |n+1,h=>by show S f n+f n=S g n+g n;rw[Yn fun i hi=>h i (by omega),h n (by omega)]
theorem lw{f g:Nat→Int}{p:Int}:∀ {n:Nat},(∀i,i<n→f i%p=g i%p)→S f n%p=S g n%p
 |0,_=>rfl
 |n+1,h=>by
  show(S f n+f n)%p=(S g n+g n)%p
  rw[Int.add_emod,lw fun i hi=>h i (by omega),h n (by omega),←Int.add_emod]
theorem IO{f g:Nat→Int}:∀ {n:Nat},S (fun i=>f i+g i) n=S f n+S g n
 |0=>rfl
 |n+1=>by
  show S (fun i=>f i+g i) n+(f n+g n)=S f n+f n+(S g n+g n);rw[IO];omega
theorem qO{f:Nat→Int}{c:Int}:∀ {n:Nat},S (fun i=>f i*c) n=S f n*c
 |0=>by show(0:Int)=0*c;rw[Int.zero_mul]
 |n+1=>by
  show S (fun i=>f i*c) n+f n*c=(S f n+f n)*c;rw[qO,Int.add_mul]
theorem py{f:Nat→Int}{c:Int}{n:Nat}:S (fun i=>c*f i) n=c*S f n:=by
 rw[Wd,←qO];exact Yn fun i _=>Wd _ _
theorem lh{f:Nat→Int}:∀ {n:Nat},(∀i,i<n→f i=0)→S f n=0
 |0,_=>rfl
 |n+1,h=>by show S f n+f n=0;rw[lh fun i hi=>h i (by omega),h n (by omega)];rfl
theorem vp{f:Nat→Nat→Int}{m:Nat}:∀ {n:Nat},S (fun i=>S (f i) m) n=S (fun j=>S (fun i=>f i j) n) m
 |0=>(lh fun _ _=>rfl).symm
 |n+1=>by
  show S (fun i=>S (f i) m) n+S (f n) m=_;rw[vp,←IO];rfl
theorem DD{f:Nat→Int}{k:Nat}:∀ {n:Nat},k<n→(∀i,i<n→i≠k→f i=0)→S f n=f k
 |0,h,_=>by omega
 |n+1,h,e=>by
  show S f n+f n=f k;by_cases hk:k=n
  ·subst hk;rw[lh fun i hi=>e i (by omega) (by omega)];omega
  ·rw[DD (k:=k) (by omega) fun i hi hne=>e i (by omega) hne,e n (by omega) (by omega)];omega
theorem cA_S{k:Nat}{z:Nat→Int}{n:Nat}:∀ {i:Nat},cA k z n i=S (fun i=>z i*bc k i n) i
 |0=>rfl
 |i+1=>by show cA k z n i+_=S _ i+_;rw[cA_S]
def cv(f g:Nat→Int)(n:Nat):Int:=S (fun i=>f i*g (n-i)) (n+1)
theorem HJ{f g f' g':Nat→Int}{p:Int}{N n:Nat}(hn:n<N)(hf:∀i,i<N→f i%p=f' i%p)(hg:∀i,i<N→g i%p=g' i%p):cv f g n%p=cv f' g' n%p:=by
 refine lw fun i hi=>?_
 rw[Wg,hf i (by omega),hg (n-i) (by omega),←Wg]
theorem La{u v:Nat}{x y:Nat→Int}{b c:Nat→Nat→Int}{n:Nat}:cv (fun n=>S (fun i=>x i*b i n) u) (fun n=>S (fun j=>y j*c j n) v) n=S (fun i=>S (fun j=>x i*y j*cv (b i) (c j) n) v) u:=by
 unfold cv;have a:∀t,S (fun i=>x i*b i t) u*S (fun j=>y j*c j (n-t)) v=S (fun i=>S (fun j=>x i*y j*(b i t*c j (n-t))) v) u:=by
  intro t;rw[←qO];refine Yn fun i _=>?_
  rw[←py];refine Yn fun j _=>?_
  rw[Wc,Wc,Int.mul_left_comm (b i t)]
 rw[Yn fun t _=>a t,vp];refine Yn fun i _=>?_
 rw[vp];refine Yn fun j _=>?_
 rw[py]
def dl(k:Nat):Nat:=(milR k).length
theorem DN:((List.range 31).all fun k=>(List.range (dl (2*k))).all fun i=>(List.range (dl (2*k))).all fun j=>Nat.beq (bc (2*k) i j-(if i=j then 1 else 0)).natAbs 0)=true:=by kernel_rfl
theorem Cw{k i j:Nat}(hk:k≤60)(a:k%2=0)(hi:i<dl k)(hj:j<dl k):bc k i j=if i=j then 1 else 0:=by
 have e:2*(k/2)=k:=by omega
 have h:=WD.1 DN (k/2) (XQ.2 (by omega));rw[e] at h;have h:=WD.1 h i (XQ.2 hi);have h:=WD.1 h j (XQ.2 hj);have h:=Wp.1 (YT h);omega
theorem zD:((List.range 13).all fun u=>(List.range 13).all fun v=>(List.range (dl (2*u))).all fun i=>(List.range (dl (2*v))).all fun j=>(List.range 6).all fun n=>
  Nat.beq (cv (bc (2*u) i) (bc (2*v) j) n-S (fun l=>cv (bc (2*u) i) (bc (2*v) j) l*bc (2*u+2*v) l n) (dl (2*u+2*v))).natAbs 0)=true:=by kernel_rfl
theorem FZ{u v i j n:Nat}(hu:u≤24)(hv:v≤24)(d:u%2=0)(e:v%2=0)(hi:i<dl u)(hj:j<dl v)(hn:n<6):cv (bc u i) (bc v j) n=S (fun l=>cv (bc u i) (bc v j) l*bc (u+v) l n) (dl (u+v)):=by
 have a:2*(u/2)=u:=by omega
 have b:2*(v/2)=v:=by omega
 have h:=WD.1 zD (u/2) (XQ.2 (by omega));have h:=WD.1 h (v/2) (XQ.2 (by omega));rw[a,b] at h;have h:=WD.1 h i (XQ.2 hi);have h:=WD.1 h j (XQ.2 hj);have h:=WD.1 h n (XQ.2 hn);have h:=Wp.1 (YT h);omega
theorem xJ:(([5,7,11,13]:List Nat).all fun p=>(List.range 13).all fun k=>(List.range 13).all fun m=> !(Nat.ble m k&&Nat.beq ((2*k-2*m)%(p-1)) 0)||(List.range (dl (2*m))).all fun i=>(List.range 6).all fun n=>
  Nat.beq ((bc (2*m) i n-S (fun j=>bc (2*m) i j*bc (2*k) j n) (dl (2*k)))%(p:Int)).natAbs 0)=true:=by kernel_rfl
theorem GU{p k m i n:Nat}(hp:p=5∨p=7∨p=11∨p=13)(hk:k≤24)(g:k%2=0)(l:m%2=0)(hmk:m≤k)(hd:(k-m)%(p-1)=0)(hi:i<dl m)(hn:n<6):
  bc m i n%(p:Int)=S (fun j=>bc m i j*bc k j n) (dl k)%(p:Int):=by
 have a:2*(k/2)=k:=by omega
 have b:2*(m/2)=m:=by omega
 have h:=WD.1 xJ p (by rcases hp with h|h|h|h<;>subst h<;>decide);have h:=WD.1 h (k/2) (XQ.2 (by omega));have h:=WD.1 h (m/2) (XQ.2 (by omega));rw[a,b] at h;have d:Nat.ble (m/2) (k/2)=true:=YL (by omega);have e:Nat.beq ((k-m)%(p-1)) 0=true:=by rw[hd];rfl
 rw[d,e] at h;have h:=WD.1 (show((List.range (dl m)).all _)=true from h) i (XQ.2 hi);have h:=WD.1 h n (XQ.2 hn);have h:=Wp.1 (YT h)
 have:=Int.emod_add_emod (bc m i n-S (fun j=>bc m i j*bc k j n) (dl k)) (p:Int) (S (fun j=>bc m i j*bc k j n) (dl k))
 rw[h,Int.zero_add,Int.sub_add_cancel] at this;exact this.symm
theorem oQ{a:GRat}{z p:Int}(hp:1<p)(h:a.q=(z:Rat)):rmM (nrm a) p=z%p:=by
 unfold rmM;rw[rE,h,Jap,Jam];have e:((1:Nat):Int)%p=1:=VU (by decide) (by simpa using hp);rw[e,EF hp,Wl,VT]
theorem my{p:Int}{want:List Int}{w:Int}(hp:1<p)(hk:K1 w want.length=true){j:Nat}(hj:j<want.length):∀ {i:Nat},i≤(mB w want.length).length→
  (matF p want (mB w want.length) i).getD j 0%p=S (fun i=>want.getD i 0*bc w.toNat i j) i%p∧(matF p want (mB w want.length) i).getD j 0%p=(matF p want (mB w want.length) i).getD j 0
 |0,_=>by
  unfold matF;rw[UJ,W0,if_pos hj];exact⟨rfl,by simp⟩
 |i+1,hi=>by
  obtain⟨a,b⟩:=my hp hk hj (i:=i) (by omega);unfold matF;rw[Vg (by rw[jm];exact hj),if_pos hj,oQ hp (DA hk (by omega) (by omega)),VT];refine⟨?_,rfl⟩;show _=(S _ i+_)%p;rw[Int.add_emod,a,Wg,VT,←Wg,←Int.add_emod]
theorem CY{p:Int}{want:List Int}{w:Int}(hp:1<p)(hk:K1 w want.length=true)(hw:inP p want):
  mtM want w p=true↔∀j,j<want.length→S (fun i=>want.getD i 0*bc w.toNat i j) (dl w.toNat)%p=want.getD j 0%p:=by
 have hl:(mB w want.length).length=dl w.toNat:=k7;have hz:∀i j,want.length≤i→i<dl w.toNat→j<want.length→bc w.toNat i j=0:=fun i j a b d=>(iH b).2.2 j (by omega);have hS:∀j,j<want.length→S (fun i=>want.getD i 0*bc w.toNat i j) (dl w.toNat)=S (fun i=>want.getD i 0*bc w.toNat i j) (min (dl w.toNat) want.length):=by
  intro j hj;by_cases h:dl w.toNat≤want.length
  ·rw[ZF h]
  ·have hsp:∀m,want.length≤m→m≤dl w.toNat→S (fun i=>want.getD i 0*bc w.toNat i j) m=S (fun i=>want.getD i 0*bc w.toNat i j) want.length:=by
    intro m
    induction m with
    |zero=>intro a _;rw[show want.length=0 by omega]
    |succ m ih=>
     intro a b;by_cases e:want.length=m+1
     ·rw[e]
     ·show S _ m+want.getD m 0*bc w.toNat m j=_;rw[ih (by omega) (by omega),hz m j (by omega) (by omega) hj,Wm,Int.add_zero]
   rw[Nat.min_eq_right (by omega)];exact hsp _ (by omega) (UM _)
 unfold mtM;rw[decide_eq_true_iff];constructor
 ·intro e j hj;obtain⟨a,b⟩:=my hp hk hj (i:=min (mB w want.length).length want.length) (Nat.min_le_left _ _);rw[hS j hj,←hl,←a,e]
 ·intro h;refine qe jm fun j hj=>?_
  rw[jm] at hj;obtain⟨a,b⟩:=my hp hk hj (i:=min (mB w want.length).length want.length) (Nat.min_le_left _ _);have d:=h j hj;rw[hS j hj,←hl,←a,b] at d;rw[d]
  have:=hw j hj
  exact VU this.1 this.2
theorem qh{b:GSer}{p:Int}{n j:Nat}{z:Int}(hp:1<p)(hj:j<n)(h:(atM b (j:Int)).q=(z:Rat)):(Y7 b p n).getD j 0=z%p:=by
 unfold Y7;rw[UJ,VA,WZ hj];exact oQ hp h
theorem qg{b:GSer}{p:Int}{n:Nat}:(Y7 b p n).length=n:=by unfold Y7;rw[W4,W6]
theorem vJ {p k:Int} {n:Nat} {b:GSer} {f:Nat→Int} (hp:1<p) (hk:K1 k n=true) (hc:∀j:Nat,j<n→(atM b (j:Int)).q=(f j:Rat)) (hd:dl k.toNat≤n)
  (h:∀j,j<n→f j%p=S (fun i=>f i*bc k.toNat i j) (dl k.toNat)%p):mtM (Y7 b p n) k p=true:=by
 have hk':K1 k ((Y7 b p n).length:Nat)=true:=by rw[qg];exact hk
 refine(CY hp hk' (iO (by omega))).2 fun j hj=>?_
 rw[qg] at hj;rw[qh hp hj (hc j hj),VT,h j hj];refine lw fun i hi=>?_
 rw[qh hp (by omega) (hc i (by omega)),Wg,VT,←Wg]
theorem EB {p k:Int} {n:Nat} {b:GSer} {f:Nat→Int} (hp:1<p) (hk:K1 k n=true) (hc:∀j:Nat,j<n→(atM b (j:Int)).q=(f j:Rat)) (hd:dl k.toNat≤n)
  (h:mtM (Y7 b p n) k p=true):∀j,j<n→S (fun i=>f i*bc k.toNat i j) (dl k.toNat)%p=f j%p:=by
 have hk':K1 k ((Y7 b p n).length:Nat)=true:=by rw[qg];exact hk
 intro j hj;have a:=(CY hp hk' (iO (by omega))).1 h j (by rw[qg];exact hj);rw[qh hp hj (hc j hj),VT] at a;rw[←a];refine lw fun i hi=>?_
 rw[qh hp (by omega) (hc i (by omega)),Wg (f i%p),VT,←Wg]
theorem mT{k:Nat}(hk:k≤60)(a:k%2=0):dl k≤k/12+1∧(k%12≠2→dl k=k/12+1):=by
 have h:=YT (WD.1 n5 (k/2) (XQ.2 (by omega)));unfold dl milR;rw[h,show 2*(k/2)=k by omega];split<;>omega
structure Fm (s:GSer) (f:Nat→Int) (x:Nat→Int) (k:Nat):Prop where
 si:sI s f (2^114-1)
 ex:∀n,n<6→f n=S (fun i=>x i*bc k i n) (dl k)
theorem Fm.self{s:GSer}{f x:Nat→Int}{k:Nat}(h:Fm s f x k)(hk:k≤60)(a:k%2=0):∀n,n<6→f n=S (fun i=>f i*bc k i n) (dl k):=by
 intro n hn;rw[h.ex n hn];refine Yn fun i hi=>?_
 have hd:=mT hk a
 have:f i=x i:=by
  rw[h.ex i (by omega),DD (k:=i) hi fun j hj hne=>?_,Cw hk a hi hi,if_pos rfl,Wl];rw[Cw hk a hj hi,if_neg hne,Wm]
 rw[this]
theorem qL{lead:List GInt}{k:Int}(hs:smI lead)(a:0≤k)(b:k≤24)(d:k%2=0):Fm (fA lead k) (fun n=>cA k.toNat (ldZ lead) n (dl k.toNat)) (ldZ lead) k.toNat:=by
 have h:=(LI hs a b d (mB k 6).length (UM _)).1;have e:(mB k 6).length=dl k.toNat:=k7;refine⟨?_,fun n hn=>cA_S⟩
 unfold fA;rw[e] at h ⊢;exact h
section
variable {s:GSer} {f:Nat→Int} {k p:Int}
theorem mL(hpr:6≤s.fr+(s.cs.length:Nat))(hc:∀n:Nat,n<6→(atM s (n:Int)).q=(f n:Rat)):∀n:Nat,n<6→(atM (bld s.fr s.cs) (n:Int)).q=(f n:Rat):=by
 intro n hn;rw[oy (by omega)];exact hc n hn
theorem mY (hp:isP p) (b:5≤p) (d:p≤997) (e:0≤k) (g:k≤60) (m:k%2=0) (o:k/12+1≤6) (hf:0≤s.fr) (hpr:6≤s.fr+(s.cs.length:Nat)) (hc:∀n:Nat,n<6→(atM s (n:Int)).q=(f n:Rat))
  (h:∀j,j<6→f j%p=S (fun i=>f i*bc k.toNat i j) (dl k.toNat)%p):
  mtM (Y7 (bld s.fr s.cs) p (k/12+1).toNat) k p=true∧filM s k p=if zerB (Y7 (bld s.fr s.cs) p (k/12+1).toNat)=true then(0,5) else(fndM (Y7 (bld s.fr s.cs) p (k/12+1).toNat) k p,0):=by
 have hn:=lu s.cs;obtain⟨r,u⟩:=j0 (f:=s.fr) (l:=s.cs);have hd:=mT (k:=k.toNat) (by omega) (by omega);have hco:=mL hpr hc;have hm:mtM (Y7 (bld s.fr s.cs) p (k/12+1).toNat) k p=true:=by
  refine vJ (by omega) ?_ (fun j hj=>hco j (by omega)) (by omega) fun j hj=>h j (by omega)
  have:=kH e (Wa k) g m
  rw[←show(((k/12+1).toNat:Nat):Int)=k/12+1 by omega] at this;exact this
 refine⟨hm,?_⟩;have hq:(decide (5≤p)&&decide (p≤997)&&prmB p)=true:=by
  rw[decide_eq_true b,decide_eq_true d];exact decide_eq_true hp
 have:=mP (a:=s) (k:=k) hq (by omega) (by omega) (by omega) (i:=(k/12+1).toNat) (wl:=Y7 (bld s.fr s.cs) p (k/12+1).toNat)
  (fun j hj=>oh (by omega) (by rw[rE,hco j (by omega)];exact Jam _)) rfl rfl
 rw[this,if_neg (by rw[hm];simp)]
theorem tY{q:Int→Bool}{l:List Int}{u:Int}(hu:u∈l)(hq:q u=true):∃v,l.find? q=some v∧q v=true∧v∈l:=by
 cases h:l.find? q with
 |none=>have:=List.find?_eq_none.1 h u hu;exact absurd hq this
 |some v=>exact⟨v,rfl,List.find?_some h,XN h⟩
theorem A7{want:List Int}(a:0≤k)(b:k≤60)(h:mtM want k p=true):0≤fndM want k p∧fndM want k p≤k∧(k-fndM want k p)%(p-1)=0∧mtM want (fndM want k p) p=true:=by
 unfold fndM;obtain⟨v,e,hv,hm⟩:=tY (q:=fun w=>decide (w≤k)&&decide ((k-w)%(p-1)=0)&&mtM want w p) (l:=(List.range 61).map fun(n:Nat)=>((n:Nat):Int)) (u:=k) (XM.2 ⟨k.toNat,XQ.2 (by omega),by omega⟩) (by
  simp only[VJ,decide_eq_true_eq];exact⟨⟨Wa _,by rw[Int.sub_self];rfl⟩,h⟩)
 rw[e];simp only[VJ,decide_eq_true_eq] at hv;obtain⟨n,hn,d⟩:=XM.1 hm;exact⟨by show 0≤v;omega,hv.1.1,hv.1.2,hv.2⟩
theorem L5{want:List Int}{u:Int}(d:0≤u)(hu:u≤k)(a:k≤60)(hd:(k-u)%(p-1)=0)(hm:mtM want u p=true):fndM want k p≤u:=by
 unfold fndM;have key:∀(N n:Nat),n+N=61→(n:Int)≤u→(((List.range' n N).map fun(n:Nat)=>((n:Nat):Int)).find? fun w=>decide (w≤k)&&decide ((k-w)%(p-1)=0)&&mtM want w p).getD (-1)≤u:=by
  intro N
  induction N with
  |zero=>intro n a b;omega
  |succ N ih=>
   intro n a b;rw[List.range'_succ,U9,List.find?_cons];cases hq:(decide (((n:Nat):Int)≤k)&&decide ((k-((n:Nat):Int))%(p-1)=0)&&mtM want ((n:Nat):Int) p) with
   |true=>exact b
   |false=>
    refine ih (n+1) (by omega) ?_;by_cases e:((n:Nat):Int)=u
    ·rw[e] at hq;rw[decide_eq_true hu,decide_eq_true hd,hm] at hq;cases hq
    ·omega
 have:=key 61 0 rfl d
 rw[List.range_eq_range'];exact this
end
theorem uM{f:Nat→Int}{a:Nat}(h:∀i,i<a→f i=0):∀m,S f (a+m)=S (fun t=>f (a+t)) m
 |0=>lh h
 |m+1=>by show S f (a+m)+f (a+m)=S _ m+_;rw[uM h m]
theorem B6{f:Nat→Int}{m:Nat}:∀r,(∀i,m≤i→i<m+r→f i=0)→S f (m+r)=S f m
 |0,_=>rfl
 |r+1,h=>by
  show S f (m+r)+f (m+r)=_;rw[B6 r fun i d e=>h i d (by omega),h (m+r) (by omega) (by omega),Int.add_zero]
theorem Lh{s:GSer}{n:Int}(h:n<ordM s):(atM s n).q=0:=by
 unfold atM;split
 ·rw[Zq,Jaq]
 ·refine mN ?_;unfold ordM at h;omega
theorem FM{x y:Int}(h:(x:Rat)=(y:Rat)):x=y:=by
 have:=congrArg Rat.num h
 rwa [Jap,Jap] at this
section
variable {a b:GSer} {f g:Nat→Int} {A B:Nat}
theorem sI.zero(h:sI a f A){i:Nat}(hi:i<6)(ho:(i:Int)<ordM a):f i=0:=by
 have:=h.co i hi
 rw[Lh ho] at this;exact FM (this.symm.trans rfl)
theorem sI.cof(h:sI a f A){i:Nat}(hi:i<6):(cofM a (i:Int)).q=(f i:Rat):=by
 have d:=h.fr0;have j:=h.pr;rw[←h.co i hi];unfold cofM atM;by_cases e:((i:Nat):Int)<a.fr
 ·rw[if_pos (.inl e),if_pos e]
 ·rw[if_neg (by omega),if_neg e,rE]
theorem sI.intC(h:sI a f A)(hA:A≤2^120):intC a:=by
 intro n;have d:=h.fr0;have j:=h.pr;by_cases e:0≤n∧n<6
 ·refine⟨f n.toNat,?_,UC (h.bd _ (by omega)) hA⟩;rw[←h.cof (i:=n.toNat) (by omega),show((n.toNat:Nat):Int)=n by omega]
 ·refine⟨0,?_,by simp⟩;unfold cofM;rw[if_pos (by omega),Zq,Jaq];rfl
theorem Ri{n:Int}{m:Nat}(F:Nat→Int)(h:∀t,t<m→(cofM a (ordM a+(t:Nat))).q*(cofM b (n-(ordM a+(t:Nat)))).q=(F t:Rat)):sumQ a b n m=(S F m:Rat):=by
 induction m with
 |zero=>rfl
 |succ m ih=>
  show sumQ a b n m+_=((S F m+F m:Int):Rat);rw[ih fun t ht=>h t (by omega),h m (by omega),nw]
theorem m8(h:sI a f A)(k:sI b g B):(mulL a b (Ku a b-(ordM a+ordM b)).toNat).length=(Ku a b-(ordM a+ordM b)).toNat∧0≤ordM a∧ordM a≤6∧0≤ordM b∧ordM b≤6∧6≤Ku a b∧Ku a b≤12∧ordM a+ordM b≤Ku a b:=by
 have e:=h.fr0;have d:=h.pr;have k0:=k.fr0;have k1:=k.pr;have i:=pj a;have j:=pj b;have hp:Ku a b=min (6+ordM b) (6+ordM a):=by unfold Ku;rw[d,k1]
 exact⟨ib,by omega,by omega,by omega,by omega,by omega,by omega,by omega⟩
theorem Ci(h:sI a f A)(k:sI b g B){n:Nat}(hn:n<6):(atM (mulM a b) (n:Int)).q=(cv f g n:Rat):=by
 obtain⟨hl,m,o,r,s,u,v,w⟩:=m8 h k;unfold mulM;rw[oy (by rw[hl];omega)];by_cases e:((n:Nat):Int)<ordM a+ordM b
 ·unfold atM;rw[if_pos e,Zq,Jaq]
  have:cv f g n=0:=lh fun i hi=>by
   by_cases d:((i:Nat):Int)<ordM a
   ·rw[h.zero (by omega) d,Int.zero_mul]
   ·rw[k.zero (i:=n-i) (by omega) (by omega),Wm]
  rw[this];rfl
 ·unfold atM;rw[if_neg e];have hj:(((n:Nat):Int)-(ordM a+ordM b)).toNat<(Ku a b-(ordM a+ordM b)).toNat:=by omega
  show((mulL a b (Ku a b-(ordM a+ordM b)).toNat).getD _ default).q=_
  unfold mulL;rw[UJ,VA,WZ hj]
  show(ofQ _).q=_
  rw[Zq,show ordM a+ordM b+(((((n:Nat):Int)-(ordM a+ordM b)).toNat:Nat):Int)=((n:Nat):Int) by omega];have hc:cntM a b ((n:Nat):Int)=n+1-(ordM b).toNat-(ordM a).toNat:=by unfold cntM;omega
  rw[Ri (F:=fun t=>f ((ordM a).toNat+t)*g (n-((ordM a).toNat+t))) fun t ht=>?_]
  ·congr 1
   have j:n+1=(ordM a).toNat+cntM a b ((n:Nat):Int)+(ordM b).toNat:=by rw[hc];omega
   unfold cv;rw[j,B6 _ fun i x y=>?_,uM fun i hi=>?_]
   ·rw[h.zero (i:=i) (by omega) (by omega),Int.zero_mul]
   ·rw[k.zero (i:=n-i) (by omega) (by omega),Wm]
  ·rw[hc] at ht;have d:ordM a+((t:Nat):Int)=(((ordM a).toNat+t:Nat):Int):=by omega
   have l:((n:Nat):Int)-(ordM a+((t:Nat):Int))=((n-((ordM a).toNat+t):Nat):Int):=by omega
   rw[l,d,h.cof (by omega),k.cof (by omega),kh]
theorem kJ(h:sI a f A)(k:sI b g B):0≤(mulM a b).fr∧6≤(mulM a b).fr+((mulM a b).cs.length:Nat)∧(mulM a b).fr+((mulM a b).cs.length:Nat)≤12:=by
 obtain⟨hl,d,e,i,j,m,n,o⟩:=m8 h k;have hn:=lu (mulL a b (Ku a b-(ordM a+ordM b)).toNat);obtain⟨r,s⟩:=j0 (f:=ordM a+ordM b) (l:=mulL a b (Ku a b-(ordM a+ordM b)).toNat);unfold mulM;omega
theorem sW(h:sI a f A)(k:sI b g B):Zd (mulM a b)=true:=by
 have:=kJ h k
 unfold Zd;rw[decide_eq_true (show -100≤(mulM a b).fr by omega),decide_eq_true (show(mulM a b).fr≤1000 by omega),decide_eq_true (show(((mulM a b).cs.length:Nat):Int)≤1000-(mulM a b).fr by omega)];rfl
theorem KQ(h:sI a f A)(k:sI b g B)(hA:A≤2^120)(hB:B≤2^120):szL 1000 (mulM a b).cs:=by
 obtain⟨hl,l,n,o,r,s,u,v⟩:=m8 h k;have e:szL 20 (mulL a b (Ku a b-(ordM a+ordM b)).toNat):=fun i hi=>by
  rw[hl] at hi;unfold mulL;rw[UJ,VA,WZ hi];exact mQ (h.intC hA) (k.intC hB) (by unfold cntM;omega) rfl
 have j:smL (mulL a b (Ku a b-(ordM a+ordM b)).toNat):=fun i hi=>by
  rw[hl] at hi;unfold mulL;rw[UJ,VA,WZ hi];exact⟨Zr _,Zr _⟩
 have d:=Cd (m:=ordM a+ordM b) e j;intro i hi;exact⟨UC (d i hi).1 (by decide),UC (d i hi).2 (by decide)⟩
end
theorem yN {s:GSer} {f x:Nat→Int} {k m:Nat} {p:Nat} (hp:p=5∨p=7∨p=11∨p=13) (h:Fm s f x k) (hk:k≤24) (l:k%2=0) (hmk:m≤k) (hd:(k-m)%(p-1)=0)
  (hm:∀j,j<k/12+1→S (fun i=>f i*bc m i j) (dl m)%(p:Int)=f j%(p:Int)):∀n,n<6→S (fun i=>f i*bc m i n) (dl m)%(p:Int)=f n%(p:Int):=by
 intro n hn;have d:m%2=0:=by rcases hp with e|e|e|e<;>subst e<;>omega
 have u:=mT (k:=k) (by omega) l;have v:=mT (k:=m) (by omega) d;have o:S (fun i=>f i*bc m i n) (dl m)%(p:Int)=S (fun i=>f i*S (fun j=>bc m i j*bc k j n) (dl k)) (dl m)%(p:Int):=by
  refine lw fun i hi=>?_
  rw[Wg,GU hp hk l d hmk hd hi hn,←Wg]
 have r:S (fun i=>f i*S (fun j=>bc m i j*bc k j n) (dl k)) (dl m)=S (fun j=>S (fun i=>f i*bc m i j) (dl m)*bc k j n) (dl k):=by
  rw[Yn fun i _=>(py (f:=fun j=>bc m i j*bc k j n) (c:=f i) (n:=dl k)).symm,vp];refine Yn fun j _=>?_
  rw[←qO];exact Yn fun i _=>(Wc _ _ _).symm
 rw[o,r,h.self (by omega) l n hn];refine lw fun j hj=>?_
 rw[Wg,hm j (by omega),←Wg]
theorem lX{u v:Nat}{x y:Nat→Int}(hu:u≤24)(hv:v≤24)(d:u%2=0)(e:v%2=0){F G:Nat→Int}(hF:∀n,n<6→F n=S (fun i=>x i*bc u i n) (dl u))(hG:∀n,n<6→G n=S (fun j=>y j*bc v j n) (dl v)):
  ∀n,n<6→cv F G n=S (fun l=>cv F G l*bc (u+v) l n) (dl (u+v)):=by
 have hc:∀n,n<6→cv F G n=S (fun i=>S (fun j=>x i*y j*cv (bc u i) (bc v j) n) (dl v)) (dl u):=by
  intro n hn;rw[←La];unfold cv;refine Yn fun i hi=>?_
  rw[hF i (by omega),hG (n-i) (by omega)]
 intro n hn;have hd:=mT (k:=u+v) (by omega) (by omega);rw[hc n hn];have h:S (fun l=>cv F G l*bc (u+v) l n) (dl (u+v))=S (fun l=>S (fun i=>S (fun j=>x i*y j*cv (bc u i) (bc v j) l) (dl v)) (dl u)*bc (u+v) l n) (dl (u+v)):=
  Yn fun l hl=>by rw[hc l (by omega)]
 rw[h,Yn fun l _=>(qO (f:=fun i=>S (fun j=>x i*y j*cv (bc u i) (bc v j) l) (dl v)) (c:=bc (u+v) l n) (n:=dl u)).symm,vp (n:=dl (u+v))];refine Yn fun i hi=>?_
 rw[Yn fun l _=>(qO (f:=fun j=>x i*y j*cv (bc u i) (bc v j) l) (c:=bc (u+v) l n) (n:=dl v)).symm,vp (n:=dl (u+v))];refine Yn fun j hj=>?_
 rw[FZ hu hv d e hi hj hn,←py];exact Yn fun l _=>(Wc _ _ _).symm
theorem sS{p x y:Int}(hp:isP p)(hx:¬x%p=0)(hy:¬y%p=0):¬(x*y)%p=0:=by
 intro h;have d:=kD hp hx;have i:p∣x*y:=Int.dvd_of_emod_eq_zero h;have j:Int.gcd p x=1:=by
  rw[VY,←d];show Nat.gcd _ _=Nat.gcd _ _;have m:=hp.1;have e:Int.gcd (x%p) p=Int.gcd x p:=by
   rw[VY,VY x]
   have:=Int.gcd_add_mul_right_right p (x%p) (x/p)
   rw[Wd,Int.emod_add_mul_ediv] at this;exact this.symm
  exact e.symm
 have k:p.natAbs∣x.natAbs*y.natAbs:=by rw[←Wr];exact Int.natAbs_dvd_natAbs.2 i
 have l:Nat.Coprime p.natAbs x.natAbs:=j;exact hy (VV (Int.natAbs_dvd_natAbs.1 (l.dvd_of_dvd_mul_left k)))
theorem jF{f:Nat→Int}{p:Int}:∀ {n:Nat},(∃j,j<n∧¬f j%p=0)→∃j,j<n∧¬f j%p=0∧∀i,i<j→f i%p=0
 |0,⟨j,h,_⟩=>by omega
 |n+1,⟨j,h,e⟩=>by
  by_cases hc:∃j,j<n∧¬f j%p=0
  ·obtain⟨i,d,k,l⟩:=jF hc;exact⟨i,by omega,k,l⟩
  ·refine⟨j,h,e,fun i hi=>?_⟩
   exact VR fun d=>hc ⟨i,by omega,d⟩
theorem rC{b:GSer}{p:Int}{n:Nat}{f:Nat→Int}(hp:1<p)(hc:∀j:Nat,j<n→(atM b (j:Int)).q=(f j:Rat)):zerB (Y7 b p n)=false↔∃j,j<n∧¬f j%p=0:=by
 unfold zerB;rw[List.all_eq_false];constructor
 ·rintro⟨z,hz,h⟩
  unfold Y7 at hz;obtain⟨j,hj,rfl⟩:=XM.1 hz;rw[XQ] at hj;rw[oQ hp (hc j hj)] at h;exact⟨j,hj,by simpa using h⟩
 ·rintro⟨j,hj,h⟩
  refine⟨_,XM.2 ⟨j,XQ.2 hj,rfl⟩,?_⟩;rw[oQ hp (hc j hj)];simpa using h
theorem ig{p:Int}(h:p=5∨p=7∨p=11∨p=13):isP p:=by
 refine⟨by omega,fun d j k=>?_⟩
 have l:d≤3:=by
  refine Int.not_lt.1 fun i=>?_
  have:4*4≤d*d:=Wh i i (by omega) (by omega)
  omega
 rcases h with e|e|e|e<;>subst e<;>(have:d=2∨d=3:=by omega)<;>rcases this with e|e<;>subst e<;>omega
section
variable {lead:List GInt} {k0 k1 p:Int}
theorem KI(hs:smI lead)(d:0≤k0)(i:k0≤24)(e:k0%2=0)(hp:p=5∨p=7∨p=11∨p=13):(filM (fA lead k0) k0 p).2=0∨(filM (fA lead k0) k0 p).2=5:=by
 have hF:=qL hs d i e;have h:=(mY (ig hp) (by omega) (by omega) d (by omega) e (by omega) hF.si.fr0 (by rw[hF.si.pr];exact Wa _) hF.si.co fun j hj=>by rw[←hF.self (by omega) (by omega) j hj]).2;rw[h];split
 ·exact .inr rfl
 ·exact .inl rfl
theorem uz(hs:smI lead)(d:0≤k0)(r:k0≤24)(h:k0%2=0)(hp:p=5∨p=7∨p=11∨p=13)(he:(filM (fA lead k0) k0 p).2=0):
  ∃m:Nat,(filM (fA lead k0) k0 p).1=(m:Int)∧(m:Int)≤k0∧(k0-m)%(p-1)=0∧(∃j,j<(k0/12+1).toNat∧¬cA k0.toNat (ldZ lead) j (dl k0.toNat)%p=0)∧
   ∀n,n<6→S (fun i=>cA k0.toNat (ldZ lead) i (dl k0.toNat)*bc m i n) (dl m)%p=cA k0.toNat (ldZ lead) n (dl k0.toNat)%p:=by
 have hF:=qL hs d r h;have hP:=ig hp;obtain⟨v,w⟩:=mY hP (by omega) (by omega) d (by omega) h (by omega) hF.si.fr0 (by rw[hF.si.pr];exact Wa _) hF.si.co fun j hj=>by rw[←hF.self (by omega) (by omega) j hj]
 have hco:=mL (s:=fA lead k0) (by rw[hF.si.pr];exact Wa _) hF.si.co;rw[w] at he ⊢;split at he
 ·cases he
 ·rename_i hz;rw[if_neg hz];have hz:zerB (Y7 (bld (fA lead k0).fr (fA lead k0).cs) p (k0/12+1).toNat)=false:=by simpa using hz
  obtain⟨l,x,y,z⟩:=A7 (p:=p) d (by omega) v;refine⟨(fndM (Y7 (bld (fA lead k0).fr (fA lead k0).cs) p (k0/12+1).toNat) k0 p).toNat,by omega,by omega,by rw[Int.toNat_of_nonneg l];exact y,(rC (by omega) fun j hj=>hco j (by omega)).1 hz,?_⟩;have hpn:p=((p.toNat:Nat):Int):=by omega
  generalize fndM (Y7 (bld (fA lead k0).fr (fA lead k0).cs) p (k0/12+1).toNat) k0 p=u at *;have o:u%2=0:=by rcases hp with e|e|e|e<;>subst e<;>omega
  have hmo:K1 u ((k0/12+1).toNat:Nat)=true:=by
   have:=kH l x (by omega) o
   rw[←show(((k0/12+1).toNat:Nat):Int)=k0/12+1 by omega] at this;exact this
  have hdu:=mT (k:=u.toNat) (by omega) (by omega);have hb:=EB (by omega) hmo (fun j hj=>hco j (by omega)) (by omega) z;rw[hpn] at hb ⊢;refine yN (k:=k0.toNat) (m:=u.toNat) (by omega) hF (by omega) (by omega) (by omega) ?_ fun j hj=>hb j (by omega);rcases hp with e|e|e|e<;>subst e
  ·show _%4=0;omega
  ·show _%6=0;omega
  ·show _%10=0;omega
  ·show _%12=0;omega
theorem Bt (hs:smI lead) (C:0≤k0) (D:k0≤24) (E:k0%2=0) (H:0≤k1) (I:k1≤24) (J:k1%2=0) (hp:p=5∨p=7∨p=11∨p=13)
  (he:(filM (fA lead k0) k0 p).2=0) (hf:(filM (fA lead k1) k1 p).2=0):
  (filM (mulM (fA lead k0) (fA lead k1)) (k0+k1) p).2=0∧0≤(filM (fA lead k0) k0 p).1∧(filM (fA lead k0) k0 p).1≤k0∧(k0-(filM (fA lead k0) k0 p).1)%(p-1)=0∧0≤(filM (fA lead k1) k1 p).1∧(filM (fA lead k1) k1 p).1≤k1∧
   (k1-(filM (fA lead k1) k1 p).1)%(p-1)=0∧(filM (mulM (fA lead k0) (fA lead k1)) (k0+k1) p).1≤(filM (fA lead k0) k0 p).1+(filM (fA lead k1) k1 p).1:=by
 obtain⟨m,N,P,Q,d,h⟩:=uz hs C D E hp he;obtain⟨n,R,T,U,o,r⟩:=uz hs H I J hp hf;rw[N,R];have hF:=qL hs C D E;have hG:=qL hs H I J;have hP:=ig hp;generalize hfe:(fun i=>cA k0.toNat (ldZ lead) i (dl k0.toNat))=f at hF d h;generalize hge:(fun i=>cA k1.toNat (ldZ lead) i (dl k1.toNat))=g at hG o r;have d:∃j,j<(k0/12+1).toNat∧¬f j%p=0:=by rw[←hfe];exact d
 have o:∃j,j<(k1/12+1).toNat∧¬g j%p=0:=by rw[←hge];exact o
 have h:∀t,t<6→S (fun i=>f i*bc m i t) (dl m)%p=f t%p:=by rw[←hfe];exact h
 have r:∀t,t<6→S (fun i=>g i*bc n i t) (dl n)%p=g t%p:=by rw[←hge];exact r
 have K:m%2=0:=by rcases hp with e|e|e|e<;>subst e<;>omega
 have L:n%2=0:=by rcases hp with e|e|e|e<;>subst e<;>omega
 obtain⟨V,M,c3⟩:=kJ hF.si hG.si;have hpr:=lX (by omega) (by omega) (by omega) (by omega) hF.ex hG.ex;have hK:(k0+k1).toNat=k0.toNat+k1.toNat:=by omega
 obtain⟨g1,X⟩:=mY (s:=mulM (fA lead k0) (fA lead k1)) (f:=cv f g) (k:=k0+k1) hP (by omega) (by omega) (by omega) (by omega) (by omega) (by omega) V M (fun t ht=>Ci hF.si hG.si ht) fun j hj=>by
  rw[hK,←hpr j hj]
 have hco:=mL M fun t ht=>Ci hF.si hG.si ht;have hz:zerB (Y7 (bld (mulM (fA lead k0) (fA lead k1)).fr (mulM (fA lead k0) (fA lead k1)).cs) p ((k0+k1)/12+1).toNat)=false:=by
  refine(rC (by omega) fun j hj=>hco j (by omega)).2 ?_
  obtain⟨i,i1,Y,Z⟩:=jF d;obtain⟨j,j1,j2,j3⟩:=jF o;refine⟨i+j,by omega,fun hzz=>sS hP Y j2 ?_⟩;have e:cv f g (i+j)%p=(f i*g j)%p:=by
   have:S (fun t=>if t=i then f i*g j else 0) (i+j+1)=f i*g j:=by
    rw[DD (k:=i) (by omega) fun t _ ht=>if_neg ht,if_pos rfl]
   rw[←this];refine lw fun t ht=>?_
   by_cases z:t=i
   ·rw[if_pos z,z,show i+j-i=j by omega]
   ·rw[if_neg z];by_cases e2:t<i
    ·rw[Wg,Z t e2,Int.zero_mul]
    ·rw[Wg,j3 (i+j-t) (by omega),Wm]
  rw[←e];exact hzz
 rw[X,if_neg (by rw[hz];simp)];refine⟨rfl,by omega,P,Q,by omega,T,U,?_⟩;show fndM _ _ _≤_;refine L5 (by omega) (by omega) (by omega) ?_ ?_
 ·rcases hp with e|e|e|e<;>subst e<;>omega
 ·have hmn:((m:Int)+(n:Int)).toNat=m+n:=by omega
  have hd:=mT (k:=m+n) (by omega) (by omega);refine vJ (by omega) ?_ (fun j hj=>hco j (by omega)) (by rw[hmn];omega) fun j hj=>?_
  ·have:=kH (k:=k0+k1) (w:=(m:Int)+(n:Int)) (by omega) (by omega) (by omega) (by omega)
   rw[←show((((k0+k1)/12+1).toNat:Nat):Int)=(k0+k1)/12+1 by omega] at this;exact this
  ·rw[hmn];have q:=lX (u:=m) (v:=n) (x:=f) (y:=g) (by omega) (by omega) K L (F:=fun t=>S (fun i=>f i*bc m i t) (dl m)) (G:=fun t=>S (fun i=>g i*bc n i t) (dl n)) (fun _ _=>rfl) (fun _ _=>rfl)
   have w:∀t,t<6→cv (fun t=>S (fun i=>f i*bc m i t) (dl m)) (fun t=>S (fun i=>g i*bc n i t) (dl n)) t%p=cv f g t%p:=fun t ht=>HJ ht h r;rw[←w j (by omega),q j (by omega)];refine lw fun l hl=>?_
   rw[Wg,w l (by omega),←Wg]
end
end Go.Wf
