/- Part 5 of the texts for the claim. -/
import Derived.Test.YtjiojpmoleilgaaGreatDoorParses4
set_option linter.unusedVariables false
set_option linter.unusedSimpArgs false
set_option maxRecDepth 100000
set_option maxHeartbeats 4000000
noncomputable section
namespace Go.Wf
open Go
theorem Jdt{s:List UInt8}{p:Nat}(h:p≤s.length):p+(Jr s p).length≤s.length:=by
 have:=xb okB (s.drop p)
 rw [List.length_drop] at this;unfold Jr;omega
theorem qd{s:List UInt8}{p:Nat}:(Jr s p).length≤s.length:=by
 have:=xb okB (s.drop p)
 rw [List.length_drop] at this;unfold Jr;omega
theorem Jv8{s:List UInt8}{p:Nat}(h:Ke (hdM s p)=true):spM s p < s.length:=by
 rcases Nat.lt_or_ge (spM s p) s.length with h1 | h1
 ·exact h1
 ·unfold hdM at h;rw [List.getD_eq_getElem?_getD,List.getElem?_eq_none h1] at h
  cases h
theorem Jla{s:List UInt8}{p:Nat}(h:Ke (hdM s p)=true):Jr s (spM s p)=s.getD (spM s p) 0::Jr s (spM s p+1):=by
 have h1:=Jv8 h;unfold Jr;rw [Vw h1,List.takeWhile_cons,if_pos (by unfold okB;unfold hdM at h;rw [h];rfl)]
theorem Jff{s:List UInt8}{p:Nat}(h:Ke (hdM s p)=true):0 < (Jr s (spM s p)).length:=by rw [Jla h];exact Nat.succ_pos _
theorem wt_t{w:List UInt8}(h1:(((w.getD 0 0).toNat:Nat):Int)=69)(h2:((w.drop 1).all digB && decide (¬ w.drop 1=[]))=true):Jy w=true:=by
 simp only [Bool.and_eq_true,decide_eq_true_eq] at h2;unfold Jy;simp only [Bool.and_eq_true,decide_eq_true_eq];refine⟨⟨?_,UInt8.toNat_inj.1 (by show _=69;omega)⟩,h2.1⟩
 have:0 < (w.drop 1).length:=List.length_pos_iff.2 h2.2
 rw [List.length_drop] at this;omega
theorem Jue{w:List UInt8}(h1:¬ (((w.getD 0 0).toNat:Nat):Int)=69):Jy w=false:=by
 unfold Jy
 have:decide (w.getD 0 0=69)=false:=decide_eq_false fun e=>h1 (by rw [e];rfl)
 rw [this,Bool.and_false,Bool.false_and]
theorem Jvc{w:List UInt8}(h2:((w.drop 1).all digB && decide (¬ w.drop 1=[]))=false):Jy w=false:=by
 unfold Jy
 rcases Bool.and_eq_false_iff.1 h2 with h | h
 ·rw [h,Bool.and_false]
 ·have h:=of_decide_eq_false h
  have:w.drop 1=[]:=Classical.byContradiction fun e=>h e
  have h4:w.length - 1=0:=by rw [← List.length_drop,this];rfl
  have h3:w.length≤1:=by omega
  rw [show decide (1 < w.length)=false from decide_eq_false (by omega),Bool.false_and,Bool.false_and]
theorem Jvn{w:List UInt8}(h2:((w.drop 1).all digB && decide (¬ w.drop 1=[]))=true):∀ c ∈ w.drop 1,digB c=true:=by
 simp only [Bool.and_eq_true] at h2;exact List.all_eq_true.1 h2.1
section
variable {s:List UInt8} {S:Nat→Nat→Rr GExpr} {o p q p1 p2 r k:Nat} {a:GExpr} {e n:Int} {u u1:Unit}
theorem at_n1(hd:Yl (hdM s p)=true)(h:numM s (spM s p)= .er e q):Jx s S o p= .er e q:=by unfold Jx;rw [if_pos hd,h];rfl
theorem at_n2(hd:Yl (hdM s p)=true)(h:numM s (spM s p)= .ok a q):Jx s S o p= .ok (a,true) q:=by unfold Jx;rw [if_pos hd,h];rfl
theorem at_o1(hd:Yl (hdM s p)=false)(hh:((hdM s p:Nat):Int)=40)(h:opnM s o (spM s p)= .er e q):Jx s S o p= .er e q:=by
 unfold Jx;rw [if_neg (by rw [hd];decide),if_pos (by omega),h];rfl
theorem at_o2(hd:Yl (hdM s p)=false)(hh:((hdM s p:Nat):Int)=40)(h:opnM s o (spM s p)= .ok u p1)(h2:S (o+1) p1= .er e q):Jx s S o p= .er e q:=by
 unfold Jx;rw [if_neg (by rw [hd];decide),if_pos (by omega),h,Rr.th_ok,h2];rfl
theorem at_o3(hd:Yl (hdM s p)=false)(hh:((hdM s p:Nat):Int)=40)(h:opnM s o (spM s p)= .ok u p1)(h2:S (o+1) p1= .ok a p2)(h3:tkM s p2 41= .er e q):Jx s S o p= .er e q:=by
 unfold Jx;rw [if_neg (by rw [hd];decide),if_pos (by omega),h,Rr.th_ok,h2,Rr.th_ok,h3];rfl
theorem at_o4(hd:Yl (hdM s p)=false)(hh:((hdM s p:Nat):Int)=40)(h:opnM s o (spM s p)= .ok u p1)(h2:S (o+1) p1= .ok a p2)(h3:tkM s p2 41= .ok u1 q):Jx s S o p= .ok (a,false) q:=by
 unfold Jx;rw [if_neg (by rw [hd];decide),if_pos (by omega),h,Rr.th_ok,h2,Rr.th_ok,h3];rfl
theorem at_x(hd:Yl (hdM s p)=false)(hh:¬ ((hdM s p:Nat):Int)=40)(hl:Ke (hdM s p)=false):Jx s S o p= .er 19 (spM s p):=by
 unfold Jx;rw [if_neg (by rw [hd];decide),if_neg (by omega),if_neg (by rw [hl];decide)]
theorem at_w(hd:Yl (hdM s p)=false)(hh:¬ ((hdM s p:Nat):Int)=40)(hl:Ke (hdM s p)=true):Jx s S o p=
  if Jy (Jr s (spM s p)) then(if 1000000 < Je ((Jr s (spM s p)).drop 1) then .er 2 (spM s p+1) else .ok (eOp 2 [(Je ((Jr s (spM s p)).drop 1):Int)] [],false) (spM s p+(Jr s (spM s p)).length))
  else(Xi s S (Jr s (spM s p)) (spM s p) o (spM s p+(Jr s (spM s p)).length)).th fun a q=> .ok (a,false) q:=by
 unfold Jx;rw [if_neg (by rw [hd];decide),if_neg (by omega),if_pos hl]
variable (hd:Yl (hdM s p)=false) (hh:¬ ((hdM s p:Nat):Int)=40) (hl:Ke (hdM s p)=true)
include hd hh hl
theorem Jxm(hw:Jy (Jr s (spM s p))=true)(hb:1000000 < ((valM ((Jr s (spM s p)).drop 1):Nat):Int)):Jx s S o p= .er 2 (spM s p+1):=by
 rw [at_w hd hh hl,if_pos hw,if_pos (by unfold valM at hb;omega)]
theorem at_E(hw:Jy (Jr s (spM s p))=true)(hb:¬ 1000000 < ((valM ((Jr s (spM s p)).drop 1):Nat):Int)):
  Jx s S o p= .ok (eOp 2 [((valM ((Jr s (spM s p)).drop 1):Nat):Int)] [],false) (spM s p+(Jr s (spM s p)).length):=by
 unfold valM at hb ⊢;rw [at_w hd hh hl,if_pos hw,if_neg (by omega),Nat.min_eq_right (by omega)]
theorem Jt9(hw:Jy (Jr s (spM s p))=false)(h:Xi s S (Jr s (spM s p)) (spM s p) o (spM s p+(Jr s (spM s p)).length)= .er e q):Jx s S o p= .er e q:=by
 rw [at_w hd hh hl,if_neg (by rw [hw];decide),h];rfl
theorem Jvh(hw:Jy (Jr s (spM s p))=false)(h:Xi s S (Jr s (spM s p)) (spM s p) o (spM s p+(Jr s (spM s p)).length)= .ok a q):Jx s S o p= .ok (a,false) q:=by
 rw [at_w hd hh hl,if_neg (by rw [hw];decide),h];rfl
end
end Go.Wf
namespace Go.Wf
open Go Go.Proofs Go.RowKit
theorem Jne{X:Nat→Prop}{w:World}(hX:XB X w){g:Nat}{s:List UInt8}{p o:Nat}(hB:Blk w g (rc s p o) 88)(hXg:X g){S:Nat→Nat→Rr GExpr}{lo:Nat}(hp:p≤s.length)(hs:s.length≤65536)(ho:o≤64)(hS:∀ o p,p≤s.length→(S o p).fw s p)(ih:SumC s S lo)(hlo:lo≤p):Calls Tryz.prog 147 #[(.pointer (some ⟨g,0,none⟩))] w (RetP w g (Jx s S o p) fun a q v w'=>(∃ v0 v1,v= .tuple #[v0,v1]∧(RV Jg X w' v0 a.1)∧(v1=(.bool a.2)))∧Blk w' g (rc s q o) 88):=by
 have C:=J1t g hX hXg;have o0:=J38 hB;have hsp:=Yh hp;refine Cgo (args:=[(.pointer (some ⟨g,0,none⟩))]) Tryz.func147 rfl rfl rfl (Rg<|Ol<|J05 C io31 rfl ?_);intro g1 w2 x3 y4 bD C6 s7 h;have D:=bD _ o0.blk.lt;replace o0:=o0.spn s7;refine Oa (Nl<|Rh<|Om<|Ol<|J03 rfl<|Ol<|J0s Ym rfl<|Ol<|J08 C6 o0 cb68 rfl rfl (X8 C6.bd (s:=s) (p:=p) (o:=o) o0.blk (C6.yx _ o0.mem) hp hs) ?_);intro cF cG aR bE r bF;subst bF;refine Oa (Nl<|W.block<|Rg<|Om<|Ol<|J1n<|J0t aR Jk1 rfl rfl (Jcq aR.bd (n:=(hdM s p))) ?_);intro cH cI G aS bG;replace r:=r.spn aS;replace h:=(h.spo bE<|Ne.symm D).spn aS;refine⟨_,bG,fun d=>?_,fun d=>?_⟩
 ·refine Oa<|Nl<|J0w rfl<|Rg<|Om<|Ol<|J1w (cs':=fun a q=>rc s q o) G r cb192 rfl rfl (Jrl G.bd (s:=s) (p:=(spM s p)) (o:=o) r.blk (G.yx _ r.mem) (Yh hp) hs) ?_ ?_
  ·intro cJ cK cL Y bH;exact Zg (at_n1 d Y) bH
  intro cM cN ae bI Y bJ bK ag bL;replace h:=h.spo bK (Ne.symm D);obtain⟨bM,bN,bO,bP,bQ,bR,bS,bT,rfl,E⟩:=J37 bL;refine On (J0u (cs':=(ec ae bM bN bO bP bQ bR bS bT)) bJ h io31 rfl rfl rfl rfl rfl rfl ?_);intro cO aT aU bU;replace E:=E.sp aU;replace ag:=ag.spo aU D;refine Oa<|Nl<|J04<|Zh rfl (resV.c bU rfl ag31 rfl) (J35 rfl)<|RetP.ok (a:=(ae,true)) (q:=bI) (at_n2 d Y) ⟨?_,?_⟩ aT.below
  ·refine⟨_,_,rfl,?_,?_⟩
   ·skip
    exact J36 (a:=ae) ((Ju ae E.lo E.hi E.name E.n E.num E.den E.args).tr (Tr.weak aT.base)) rfl
   ·skip
    rfl
  exact ag.blk
 refine Oa<|Nl<|J0v rfl<|Rg<|Om<|Ol<|J1a rfl rfl (fun k=>?_)<|fun k=>?_
 ·refine Oa<|Nl<|J0w rfl<|Rg<|Om<|Ol<|J1w (cs':=fun a q=>rc s q<|o+1) G r z6 rfl rfl (Ji1 G.bd (s:=s) (p:=(spM s p)) (o:=o) r.blk (G.yx _ r.mem) (Yh hp) hs ho) ?_ ?_
  ·intro cP cQ cR x bV;exact Zg (at_o1 d k x) bV
  intro cS cT cU bW x ah bX ai cV;refine Nl<|Rg<|Om<|Ol<|J1w (cs':=fun a q=>rc s q<|o+1) ah ai cb67 rfl rfl (ih ah.bd (p:=bW) (o:=o+1) ai.blk (ah.yx _ ai.mem) (Rr.le (Zv<|Yh hp) x) hs (tk_o x ho) (by have h0:=K7 (s:=s) (p:=p);have h1:=Rr.ge (Zv<|Yh hp) x;omega)) ?_ ?_
  ·intro cW cX cY H bZ;exact Zg (at_o2 d k x H) bZ
  intro cZ c0 K b0 H b1 b2 L b3;replace h:=(h.spo bX<|Ne.symm D).spo b2 (Ne.symm D);obtain⟨aj,ak,am,an,ao,aq,ar,au,rfl,A⟩:=J37 b3;refine Ol (J05 b1 io31 rfl ?_);intro c1 c2 c3 c4 av b4 aw b5;have aV:=av _ L.blk.lt;have b6:=av _ h.blk.lt;replace h:=h.spn aw;refine On (J0u (cs':=(ec K aj ak am an ao aq ar au)) b4 b5 io31 rfl rfl rfl rfl rfl rfl ?_);intro c5 ax ay az;replace A:=(A.sp aw).sp ay;replace L:=(L.spn aw).spo ay aV;refine Nl<|Rg<|Om<|Ol<|J1w (cs':=fun a q=>rc s q o) ax L z6 rfl rfl (Jlm ax.bd (s:=s) (p:=b0) (o:=o) L.blk (ax.yx _ L.mem) (Rr.le (hS _ _<|Rr.le (Zv<|Yh hp) x) H) hs<|tk_o x ho) ?_ ?_
  ·intro b8 c6 c7 M aX;exact Zg (at_o3 d k x H M) aX
  intro b9 ca cb aY M aZ Z aa cc;replace h:=(h.spo ay b6).spo Z (Ne.symm D);replace az:=az.spo Z (Ne.symm aV);refine Nl (Rg<|Ol<|J0z (vs:=(ec K aj ak am an ao aq ar au)) az ag31 rfl rfl rfl<|On<|J0u (cs':=(ec K aj ak am an ao aq ar au)) aZ h io31 rfl rfl rfl rfl rfl rfl ?_);intro cd aA aB a0;replace A:=(A.sp Z).sp aB;replace aa:=aa.spo aB D;refine Oa<|Nl<|J04<|Zh rfl (resV.c a0 rfl ag31 rfl) (J35 rfl)<|RetP.ok (a:=(K,false)) (q:=aY) (at_o4 d k x H M) ⟨?_,?_⟩ aA.below
  ·refine⟨_,_,rfl,?_,?_⟩
   ·skip
    exact J36 (a:=K) ((Ju K A.lo A.hi A.name A.n A.num A.den A.args).tr (Tr.weak aA.base)) rfl
   ·skip
    rfl
  exact aa.blk
 refine Oa (Nl<|J0v rfl<|Rg<|Om<|Ol<|J1n<|J0t G Jng rfl rfl (Jgq G.bd (n:=(hdM s p))) ?_);intro ce cf N aD a1;replace r:=r.spn aD;replace h:=h.spn aD;refine⟨_,a1,fun m=>?_,fun m=>?_⟩
 ·refine Ol (J1s rfl<|Oa<|Nl<|J0v rfl<|J01<|Rg<|Om<|Ol<|J03 rfl<|Ol<|J0s Ym rfl<|Ol<|J0s Zb rfl<|Ol<|J0x r pl3 rfl rfl<|Oa<|Nl<|J06 ?_);have hwp:=Jff (s:=s) (p:=p) m;refine J0y (Om<|Ol<|J03 rfl<|Ol<|J0s Ym rfl<|Ol<|J08 N r cb195 rfl rfl (Jl2 N.bd (s:=s) (p:=(spM s p)) (o:=o) r.blk (N.yx _ r.mem) (Yh hp) hs) ?_);intro cg ch I aE e a2;subst a2;refine Oa<|Nl<|Rh<|Om<|Ol<|J1p (j:=0) (c:=((Jr s<|spM s p).getD 0 0)) un9 rfl rfl rfl (Jf (by omega))<|Ol<|J1a rfl rfl (fun F=>?_)<|fun F=>?_
  ·refine Om (OgD<|J00<|OgD<|J2n (i:=1) un9 rfl rfl rfl (by omega)<|OgD<|J1n<|J0t I cb45 rfl rfl (Jez I.bd) ?_);intro ci cj J aF a3;replace e:=e.spn aF;replace h:=(h.spo aE<|Ne.symm D).spn aF;refine⟨_,a3,fun B=>?_,fun B=>?_⟩
   ·refine OT (Nl<|J0w rfl<|Rg<|Om<|Ol<|J2n (i:=1) un9 rfl rfl rfl (by omega)<|Ol<|J0t J Jq4 rfl rfl (Jea J.bd (Jvn B) (by rw [List.length_drop];exact Nat.le_trans (Nat.sub_le ..)<|Nat.le_trans qd hs)) ?_);intro ck cl aG aH a4;replace e:=e.spn aH;subst a4;refine Oa<|Nl<|Rh<|Om<|Ol<|J10 rfl rfl (fun P=>?_)<|fun P=>?_
    ·exact Nl<|J0w rfl<|J0y<|Om<|Ol<|St.add rfl rfl (Jc (a:=(spM s p)) (b:=1) (by omega))<|Ol<|J09 (cs:=[(.int .i64 2),(.int .i64 (((spM s p)+1:Nat):Int))]) rfl (by kernel_rfl)<|Ol<|J1z (by kernel_rfl)<|On<|J2t rfl<|Zg (Jxm d k m (wt_t F B) P) aG.below
    refine Nl<|J0v rfl<|J01<|J06 ?_
    have:=Jj4<|(Jr s<|spM s p).drop 1
    refine J0y (Om<|Ol<|J1k (T:=Ye) (css:=[[(.int .i64 (((valM<|(Jr s<|spM s p).drop 1):Nat):Int))]]) (l:=[(((valM<|(Jr s<|spM s p).drop 1):Nat):Int)]) aG sl23 io3 (by decide) (by decide) rfl (by kernel_rfl) ⟨⟨rfl,(by omega),(by omega)⟩,trivial⟩ ?_);intro aI cm a5 aJ ab;replace h:=(h.spn aH).spn aJ;refine Ol (J09 (cs:=[(.int .i64 2),(.slice (some ⟨aI,0,none⟩) 1 1),(.bool false),(.slice none 0 0),(.bool false),(.slice none 0 0),(str []),(.slice none 0 0)]) rfl (by kernel_rfl)<|On<|J0u (cs':=[(.int .i64 2),(.slice (some ⟨aI,0,none⟩) 1 1),(.bool false),(.slice none 0 0),(.bool false),(.slice none 0 0),(str []),(.slice none 0 0)]) a5 h io31 rfl rfl rfl rfl rfl rfl ?_);intro cn aK aL a6;replace ab:=ab.sp aL;replace e:=(e.spn aJ).spo aL D;refine Oa<|Nl<|J04<|Zh rfl (resV.c a6 rfl ag31 rfl) (J35 rfl)<|RetP.ok (a:=((.mk 2 [(((valM<|(Jr s<|spM s p).drop 1):Nat):Int)] ⟨⟨false,[]⟩,⟨false,[]⟩⟩ [] []),false)) (q:=((spM s p)+(Jr s<|spM s p).length)) (at_E d k m (wt_t F B) P) ⟨?_,?_⟩ aK.below
    ·refine⟨_,_,rfl,?_,?_⟩
     ·skip
      exact J36 (a:=(.mk 2 [(((valM<|(Jr s<|spM s p).drop 1):Nat):Int)] ⟨⟨false,[]⟩,⟨false,[]⟩⟩ [] [])) ((Zs (by omega) (by omega) (by unfold maxLen;simp) ab RS.nil RS.nil RS.nil).tr (Tr.weak aK.base)) rfl
     ·skip
      rfl
    exact e.blk
   refine OT<|Nl<|J0v rfl<|J01<|Rg<|Om<|Om<|Om<|Ol<|J1w (cs':=fun a q=>rc s q o) J e Jtw rfl rfl (Jf0 J.bd (s:=s) (p:=((spM s p)+(Jr s<|spM s p).length)) (o:=o) e.blk (J.yx _ e.mem) (q0:=(spM s p)) (Jdt<|Yh hp) hs ho hS ih (by have h0:=K7 (s:=s) (p:=p);omega)<|Nat.le_trans qd hs) ?_ ?_
   ·intro co cp cq Q a7;exact Zg (Jt9 d k m (Jvc B) Q) a7
   intro cr ct R a8 Q a9 ba ac bb;replace h:=h.spo ba (Ne.symm D);obtain⟨bc,be,bf,bg,bh,bi,bj,bk,rfl,y⟩:=J37 bb;refine On (J0u (cs':=(ec R bc be bf bg bh bi bj bk)) a9 h io31 rfl rfl rfl rfl rfl rfl ?_);intro cu aM aO bl;replace y:=y.sp aO;replace ac:=ac.spo aO D;refine Oa<|Nl<|J04<|Zh rfl (resV.c bl rfl ag31 rfl) (J35 rfl)<|RetP.ok (a:=(R,false)) (q:=a8) (Jvh d k m (Jvc B) Q) ⟨?_,?_⟩ aM.below
   ·refine⟨_,_,rfl,?_,?_⟩
    ·skip
     exact J36 (a:=R) ((Ju R y.lo y.hi y.name y.n y.num y.den y.args).tr (Tr.weak aM.base)) rfl
    ·skip
     rfl
   exact ac.blk
  refine Om<|Oz<|Oz<|Oz<|OF<|Nl<|J0v rfl<|J01<|Rg<|Om<|Om<|Om<|Ol<|J1w (cs':=fun a q=>rc s q o) I e Jtw rfl rfl (Jf0 I.bd (s:=s) (p:=((spM s p)+(Jr s<|spM s p).length)) (o:=o) e.blk (I.yx _ e.mem) (q0:=(spM s p)) (Jdt<|Yh hp) hs ho hS ih (by have h0:=K7 (s:=s) (p:=p);omega)<|Nat.le_trans qd hs) ?_ ?_
  ·intro cv cw cx U bm;exact Zg (Jt9 d k m (Jue F) U) bm
  intro cy cz V bn U bo bp ad bq;replace h:=(h.spo aE<|Ne.symm D).spo bp (Ne.symm D);obtain⟨br,bs,bt,bu,bv,bw,bx,bz,rfl,z⟩:=J37 bq;refine On (J0u (cs':=(ec V br bs bt bu bv bw bx bz)) bo h io31 rfl rfl rfl rfl rfl rfl ?_);intro cE aP aQ bA;replace z:=z.sp aQ;replace ad:=ad.spo aQ D;refine Oa<|Nl<|J04<|Zh rfl (resV.c bA rfl ag31 rfl) (J35 rfl)<|RetP.ok (a:=(V,false)) (q:=bn) (Jvh d k m (Jue F) U) ⟨?_,?_⟩ aP.below
  ·refine⟨_,_,rfl,?_,?_⟩
   ·skip
    exact J36 (a:=V) ((Ju V z.lo z.hi z.name z.n z.num z.den z.args).tr (Tr.weak aP.base)) rfl
   ·skip
    rfl
  exact ad.blk
 exact Ol<|J1s rfl<|Oa<|Nl<|J0w rfl<|J0y<|Om<|Ol<|J03 rfl<|Ol<|J0s Ym rfl<|Ol<|J0s Zb rfl<|Ol<|J0x r pl3 rfl rfl<|Ol<|J09 (cs:=[(.int .i64 19),(.int .i64 (((spM s p):Nat):Int))]) rfl (by kernel_rfl)<|Ol<|J1z (by kernel_rfl)<|On<|J2t rfl<|Zg (at_x d k m) N.below
end Go.Wf
namespace Go.Wf
open Go
section
variable (s:List UInt8) (S:Nat→Nat→Rr GExpr) (o:Nat)
def Kg:Nat→List GExpr→Bool→Nat→Rr (List GExpr × Bool)
 | 0,_,_,p=>(powM s S o p).th fun _ q=> .er 0 q
 | k+1,l,pl,p=>(powM s S o p).th fun a q=>
  if folB s q 42 then Kg k (l++[a.1]) (if l.length=0 then a.2 else pl) (spM s q+1) else .ok (l++[a.1],if l.length=0 then a.2 else pl) (spM s q)
end
section
variable {s:List UInt8} {S:Nat→Nat→Rr GExpr} {o p q r k q1:Nat} {a:GExpr × Bool} {e n:Int} {l m:List GExpr} {pl pl2 minus:Bool} {M:Rr (List GExpr × Bool)}
theorem Rr.th_th{α β γ:Type}(x:Rr α)(f:α→Nat→Rr β)(g:β→Nat→Rr γ):(x.th f).th g=x.th fun a p=>(f a p).th g:=by cases x <;> rfl
theorem Jgd:∀ (k:Nat) (l:List GExpr) (pl:Bool) (p:Nat),Kg s S o k l pl p=(powM s S o p).th fun a q=>(Jbz s S o k (l++[a.1]) q).th fun m q'=> .ok (m,if l.length=0 then a.2 else pl) q'
 | 0,l,pl,p=>rfl
 | k+1,l,pl,p=>by
  unfold Kg
  congr 1
  funext a q
  rw [Jbz]
  split
  ·rw [Jgd k,Rr.th_th]
   congr 1
   funext b r
   rw [if_neg (by rw [List.length_append];simp)]
  ·rfl
theorem Jc5(minus:Bool):Zx s S minus o p=(Kg s S o (s.length+1) [] false p).th fun x q=> .ok (Kc 11 (negL minus x.2 x.1)) q:=by
 rw [Jgd,Rr.th_th];unfold Zx
 congr 1
 funext a q
 rw [Rr.th_th];rfl
theorem Jvq(h:Jx s S o q= .er e r):powM s S o q= .er e r:=by unfold powM;rw [h];rfl
theorem Juq(h:Jx s S o q= .ok a q1)(hf:folB s q1 94=true)(h2:intM s (fpM s q1 94)= .er e r):powM s S o q= .er e r:=by
 unfold powM;rw [h,Rr.th_ok,if_pos hf,fp_t hf,h2];rfl
theorem X5(h:Jx s S o q= .ok a q1)(hf:folB s q1 94=true)(h2:intM s (fpM s q1 94)= .ok n r):powM s S o q= .ok (eOp 12 [n] [a.1],false) r:=by
 unfold powM;rw [h,Rr.th_ok,if_pos hf,fp_t hf,h2];rfl
theorem zq(h:Jx s S o q= .ok a q1)(hf:folB s q1 94=false):powM s S o q= .ok a (fpM s q1 94):=by
 unfold powM;rw [h,Rr.th_ok,if_neg (by rw [hf];decide),fp_f hf]
theorem Jt8(hM:M=Kg s S o k l pl q)(h:powM s S o q= .er e r):M= .er e r:=by
 rw [hM];cases k <;> (unfold Kg;rw [h];rfl)
theorem Jbj(hM:M=Kg s S o k l pl q)(hk:s.length < q+k)(hq:q≤s.length)(h:powM s S o q= .ok a r)(hf:folB s r 42=true)(hpl:pl2=if l.length=0 then a.2 else pl):M=Kg s S o (k - 1) (l++[a.1]) pl2 (fpM s r 42):=by
 obtain⟨k,rfl⟩:∃ j,k=j+1:=⟨k - 1,by omega⟩;rw [hM,Kg,h,Rr.th_ok,if_pos hf,fp_t hf,hpl];rfl
theorem Ja0(hM:M=Kg s S o k l pl q)(hk:s.length < q+k)(hq:q≤s.length)(h:powM s S o q= .ok a r)(hf:folB s r 42=false)(hpl:pl2=if l.length=0 then a.2 else pl):M= .ok (l++[a.1],pl2) (fpM s r 42):=by
 obtain⟨k,rfl⟩:∃ j,k=j+1:=⟨k - 1,by omega⟩;rw [hM,Kg,h,Rr.th_ok,if_neg (by rw [hf];decide),fp_f hf,hpl]
theorem Z1(hS:∀ o p,p≤s.length→(S o p).fw s p)(hq:q≤s.length)(h:powM s S o q= .ok a r)(hf:folB s r 42=true):q+1≤fpM s r 42∧fpM s r 42≤s.length:=by
 have h1:=q5 hS (o:=o) hq;rw [h] at h1;have h2:=K7 (s:=s) (p:=r);refine⟨?_,Yu h1.2⟩;rw [← fp_t hf]
 have:=h1.1;omega
theorem Jof(h:Kg s S o (s.length+1) [] false p= .er e r):Zx s S minus o p= .er e r:=by rw [Jc5,h];rfl
theorem Jtd(h:Kg s S o (s.length+1) [] false p= .ok (m,pl) r)(hp:pl=true):Zx s S true o p= .ok (Kc 11 (negE (m.getD 0 default)::m.drop 1)) r:=by rw [Jc5,h,hp];rfl
theorem Jxd(h:Kg s S o (s.length+1) [] false p= .ok (m,pl) r)(hp:pl=false):Zx s S true o p= .ok (Kc 11 (eNum (-1) 1::m)) r:=by rw [Jc5,h,hp];rfl
theorem Jwu(h:Kg s S o (s.length+1) [] false p= .ok (m,pl) r):Zx s S false o p= .ok (Kc 11 m) r:=by rw [Jc5,h];rfl
theorem Jey{op:Int}{m:List GExpr}(h:m.length=1):Kc op m=m.getD 0 default:=by
 cases m with
 | nil=>cases h
 | cons a m=>
  cases m with
  | nil=>rfl
  | cons b m=>simp at h
theorem Jjg{op:Int}{m:List GExpr}(h:¬ m.length=1):Kc op m=eOp op [] m:=by
 unfold Kc
 split
 ·exact absurd rfl h
 ·rfl
theorem Jj9{m:List GExpr}(h:0 < m.length):∃ a l,m=a::l:=by
 cases m with
 | nil=>cases h
 | cons a l=>exact⟨a,l,rfl⟩
def cBd(s:List UInt8)(a:GExpr):Prop:=a.c.num.mag.length≤s.length∧a.c.den.mag.length≤s.length+1
theorem nu_c{a:GExpr}(h:numM s p= .ok a q):cBd s a:=by
 have key:∀ n d:Int,(ofZ n).mag.length≤s.length→(ofZ d).mag.length≤s.length→cBd s (eNum n d):=fun n d hn hd=>⟨Nat.le_trans (Xs n d) hn,Nat.le_trans (Xr n d) (by omega)⟩;unfold numM at h
 cases hn:dgsM s p with
 | er e q=>rw [hn] at h;cases h
 | ok n q1=>
  have l1:(ofZ (Je n:Int)).mag.length≤s.length:=Nat.le_trans (Xl (Xe hn)) (K8 hn);rw [hn,Rr.th_ok] at h
  split at h
  ·cases hd:dgsM s (spM s q1+1) with
   | er e q=>rw [hd] at h;cases h
   | ok d q2=>
    rw [hd,Rr.th_ok] at h
    split at h
    ·cases h
    ·cases h
     exact key _ _ l1 (Nat.le_trans (Xl (Xe hd)) (K8 hd))
  ·cases h
   have l2:(ofZ 1).mag.length≤s.length:=by
    have h3:=K8 hn;have h4:=List.length_pos_iff.2 (Jtl hn)
    have:(ofZ 1).mag.length=1:=Kh
    omega
   exact key _ _ l1 l2
theorem at_c(h:Jx s S o p= .ok a q)(hp:a.2=true):cBd s a.1:=by
 unfold Jx at h
 split at h
 ·cases hn:numM s (spM s p) with
  | er e q=>rw [hn] at h;cases h
  | ok b q1=>rw [hn] at h;cases h;exact nu_c hn
 split at h
 ·cases h1:opnM s o (spM s p) with
  | er e q=>rw [h1] at h;cases h
  | ok u q1=>
   rw [h1,Rr.th_ok] at h
   cases h2:S (o+1) q1 with
   | er e q=>rw [h2] at h;cases h
   | ok b q2=>
    rw [h2,Rr.th_ok] at h
    cases h3:tkM s q2 41 with
    | er e q=>rw [h3] at h;cases h
    | ok u q3=>rw [h3] at h;cases h;cases hp
 split at h
 ·dsimp only at h
  split at h
  ·split at h
   ·cases h
   ·cases h;cases hp
  ·cases h1:Xi s S (Jr s (spM s p)) (spM s p) o (spM s p+(Jr s (spM s p)).length) with
   | er e q=>rw [h1] at h;cases h
   | ok b q1=>rw [h1] at h;cases h;cases hp
 ·cases h
theorem pw_c(h:powM s S o p= .ok a q)(hp:a.2=true):cBd s a.1:=by
 unfold powM at h
 cases h1:Jx s S o p with
 | er e q=>rw [h1] at h;cases h
 | ok b q1=>
  rw [h1,Rr.th_ok] at h
  split at h
  ·cases h2:intM s (spM s q1+1) with
   | er e q=>rw [h2] at h;cases h
   | ok n q2=>rw [h2] at h;cases h;cases hp
  ·cases h;exact at_c h1 hp
theorem Jwv:∀ (k:Nat) (l:List GExpr) (pl:Bool) (p:Nat) (m:List GExpr) (pl2:Bool) (r:Nat),Kg s S o k l pl p= .ok (m,pl2) r→(0 < l.length→pl=true→cBd s (l.getD 0 default))→pl2=true→cBd s (m.getD 0 default)
 | 0,l,pl,p,m,pl2,r,h,_,_=>by
  unfold Kg at h
  cases h1:powM s S o p with
  | er e q=>rw [h1] at h;cases h
  | ok a q=>rw [h1] at h;cases h
 | k+1,l,pl,p,m,pl2,r,h,hl,hp=>by
  unfold Kg at h
  cases h1:powM s S o p with
  | er e q=>rw [h1] at h;cases h
  | ok a q=>
   rw [h1,Rr.th_ok] at h;have key:(if l.length=0 then a.2 else pl)=true→cBd s ((l++[a.1]).getD 0 default):=by
    intro hx
    cases l with
    | nil=>exact pw_c h1 hx
    | cons b l=>exact hl (Nat.succ_pos _) hx
   split at h
   ·exact Jwv k _ _ _ m pl2 r h (fun _=>key) hp
   ·cases h;exact key hp
theorem pr_c{m:List GExpr}(h:Kg s S o k [] false p= .ok (m,pl) r)(hp:pl=true):cBd s (m.getD 0 default):=Jwv k [] false p m pl r h (fun h=>by cases h) hp
end
section
variable {s:List UInt8} {S:Nat→Nat→Rr GExpr} {o p q r k q1:Nat} {a:GExpr} {e n:Int} {l m:List GExpr} {M:Rr GExpr} {b:Bool}
theorem Jub(h:Zx s S (folB s p 45) o (fpM s p 45)= .er e r):sumF s S o p= .er e r:=by unfold sumF;rw [h];rfl
theorem su_go(h:Zx s S (folB s p 45) o (fpM s p 45)= .ok a q):sumF s S o p=(sumL s S o (s.length+1) [a] q).th fun l q=> .ok (Kc 10 l) q:=by unfold sumF;rw [h];rfl
theorem Jh0(c d:Nat)(h:folB s q c=false):folB s (fpM s q c) d=folB s q d:=by rw [← fp_f h,xg]
theorem Jsn(c d:Nat)(h:folB s q c=false):fpM s (fpM s q c) d=fpM s q d:=by rw [← fp_f h,Ji6]
theorem su_p1(hM:M=(sumL s S o k l q).th fun l q=> .ok (Kc 10 l) q)(hk:s.length < q+k)(hq:q≤s.length)(hf:folB s q 43=true)(h:Zx s S false o (fpM s q 43)= .er e r):M= .er e r:=by
 obtain⟨k,rfl⟩:∃ j,k=j+1:=⟨k - 1,by omega⟩;rw [hM,sumL,if_pos hf,fp_t hf,h];rfl
theorem su_p2(hM:M=(sumL s S o k l q).th fun l q=> .ok (Kc 10 l) q)(hk:s.length < q+k)(hq:q≤s.length)(hf:folB s q 43=true)(h:Zx s S false o (fpM s q 43)= .ok a r):M=(sumL s S o (k - 1) (l++[a]) r).th fun l q=> .ok (Kc 10 l) q:=by
 obtain⟨k,rfl⟩:∃ j,k=j+1:=⟨k - 1,by omega⟩;rw [hM,sumL,if_pos hf,fp_t hf,h];rfl
theorem su_m1(hM:M=(sumL s S o k l q).th fun l q=> .ok (Kc 10 l) q)(hk:s.length < q+k)(hq:q≤s.length)(h0:folB s q 43=false)(hf:folB s (fpM s q 43) 45=true)(h:Zx s S true o (fpM s (fpM s q 43) 45)= .er e r):M= .er e r:=by
 obtain⟨k,rfl⟩:∃ j,k=j+1:=⟨k - 1,by omega⟩;rw [Jsn _ _ h0] at h;rw [Jh0 _ _ h0] at hf;rw [hM,sumL,if_neg (by rw [h0];decide),if_pos hf,fp_t hf,h];rfl
theorem su_m2(hM:M=(sumL s S o k l q).th fun l q=> .ok (Kc 10 l) q)(hk:s.length < q+k)(hq:q≤s.length)(h0:folB s q 43=false)(hf:folB s (fpM s q 43) 45=true)(h:Zx s S true o (fpM s (fpM s q 43) 45)= .ok a r):
  M=(sumL s S o (k - 1) (l++[a]) r).th fun l q=> .ok (Kc 10 l) q:=by
 obtain⟨k,rfl⟩:∃ j,k=j+1:=⟨k - 1,by omega⟩;rw [Jsn _ _ h0] at h;rw [Jh0 _ _ h0] at hf;rw [hM,sumL,if_neg (by rw [h0];decide),if_pos hf,fp_t hf,h];rfl
theorem Joz(hM:M=(sumL s S o k l q).th fun l q=> .ok (Kc 10 l) q)(hk:s.length < q+k)(hq:q≤s.length)(h0:folB s q 43=false)(hf:folB s (fpM s q 43) 45=false):M= .ok (Kc 10 l) (fpM s (fpM s q 43) 45):=by
 obtain⟨k,rfl⟩:∃ j,k=j+1:=⟨k - 1,by omega⟩;rw [Jsn _ _ h0];rw [Jh0 _ _ h0] at hf;rw [hM,sumL,if_neg (by rw [h0];decide),if_neg (by rw [hf];decide),fp_f hf];rfl
theorem Jjp{op:Int}(h:M= .ok (Kc op l) q)(hl:((l.length:Nat):Int)=1):M= .ok (l.getD 0 default) q:=by rw [h,Jey (by omega)]
theorem Jqt{op:Int}(h:M= .ok (Kc op l) q)(hl:¬ ((l.length:Nat):Int)=1):M= .ok (eOp op [] l) q:=by rw [h,Jjg (by omega)]
theorem Qh(hfw:∀ p,p≤s.length→∀ a q,Zx s S b o p= .ok a q→p≤q∧q≤s.length)(hq:q≤s.length){c:Nat}(hf:folB s q c=true)(h:Zx s S b o (fpM s q c)= .ok a r):q+1≤r∧r≤s.length:=by
 have h1:=hfw _ (Yu hq) a r h;have h2:=K7 (s:=s) (p:=q);rw [← fp_t hf] at h1;exact⟨by omega,h1.2⟩
end
end Go.Wf
namespace Go.Wf
open Go Go.RowKit
structure ElO {α:Type} (T:Ty α) (x:Nat→Prop) (w:World) (b o:Nat) (cs:List Value) (u:α):Prop where
 rd:T.rd x w cs u
 cell:∀ q v,cs[q]? =some v→w.cell? ⟨b,o+q,none⟩=some v
section
variable {α:Type} {T:Ty α} {E:TypeId} {X0 x y:Nat→Prop} {w0:Bs} {w:World} {ad:Option Addr} {g n c:Nat} {a:α} {l:List α}
theorem OS.adr{l:List α}(h:OS T E w0 x y w (.slice ad n c) l)(hl:0 < l.length):∃ g,ad=some ⟨g,0,none⟩:=by
 obtain⟨⟨css,h1,h2,h3⟩,hm⟩:=h
 rcases h3.2 with ⟨e,h⟩ | ⟨g,cap,cur,e,_⟩
 ·omega
 ·cases e;exact⟨g,rfl⟩
theorem OS.first(h:OS T E w0 x y w (.slice (some ⟨g,0,none⟩) n c) (a::l)):∃ (cs:List Value) (css:List (List Value)) (cap:Nat) (tl:List Value),T.rd x w cs a∧w.heap[g]? =some (.cells (cs++css.flatten++tl).toArray E (0,0))∧css.length=l.length∧n=l.length+1∧c=cap∧n≤cap∧cap≤maxLen∧
  (cs++css.flatten++tl).length=cap * T.sz∧(cs++css.flatten).length=n * T.sz∧∀ (i:Nat) (cs:List Value) (u:α),css[i]? =some cs→l[i]? =some u→T.rd x w cs u:=by
 obtain⟨⟨css,h1,h2,h3⟩,hm⟩:=h;obtain⟨h4,h5⟩:=h3
 rcases h5 with ⟨e,h⟩ | ⟨g',cap,cur,e,hb,hg,h6,h7,h8,h9⟩
 ·cases e
 ·cases e
  cases css with
  | nil=>simp at h1
  | cons cs css=>
   rw [List.flatten_cons] at h4 h9;have e2:cur.toList=cs++css.flatten++cur.toList.drop ((l.length+1) * T.sz):=by
    rw [← h9];exact(List.take_append_drop _ _).symm
   refine⟨cs,css,c,cur.toList.drop ((l.length+1) * T.sz),h2 0 cs a rfl rfl,?_,by simpa using h1,by simp,rfl,by simpa using h6,h7,?_,by simpa using h4,fun i cs u hi hu=>h2 (i+1) cs u (by simpa using hi) (by simpa using hu)⟩
   ·rw [← e2];simpa using hg
   ·rw [← e2];simpa using h8
variable {P:Program} {ρ:Operand→Value} {K:Value→World→Prop} {Kp:List PanicEntry→World→Prop} {dst:Option Tmp} {ty:TypeId} {pos:String} {after:Array Edge} {gd:Option (Nat × Bool)}
theorem ElO.of(h:OS T E w0 x y w (.slice (some ⟨g,0,none⟩) n c) (a::l)):∃ cs,ElO T x w g 0 cs a:=by
 obtain⟨cs,css,cap,tl,hr,hg,_⟩:=h.first;refine⟨cs,hr,fun q v hq=>?_⟩
 rw [Nat.zero_add,cell_of_row w g q _ E (0,0) hg]
 have:=(List.getElem?_eq_some_iff.1 hq).1
 rw [List.getElem?_toArray,List.append_assoc,List.getElem?_append_left this];exact hq
theorem J2z {s i:Operand} {t e:TypeId} {z:Value} {by_:Nat} {k:IntKind} (ho:OS T E w0 x y w (.slice (some ⟨g,0,none⟩) n c) (a::l)) (ht:P.underlying t=some (.slice e)) (hi:Zn P e=some (z,T.sz,by_))
  (hx:ρ s= .slice (some ⟨g,0,none⟩) n c) (hy:ρ i= .int k 0) (h:∀ cs,ElO T x w g 0 cs a→K (.pointer (some ⟨g,0,none⟩)) w):St P ρ ⟨dst,.indexAddr t s i,ty,pos,after,gd⟩ w K Kp:=by
 obtain⟨cs,hcs⟩:=ElO.of ho
 have:=J2w (P:=P) (ρ:=ρ) (K:=K) (Kp:=Kp) (dst:=dst) (ty:=ty) (pos:=pos) (after:=after) (gd:=gd) (j:=0) ho ht hi hx hy rfl (Nat.succ_pos _)
 refine this ?_;have h8:(Value.pointer (Option.map (fun x=>x.add (0 * T.sz)) (some (⟨g,0,none⟩:Addr))))= .pointer (some ⟨g,0,none⟩):=by rw [Nat.zero_mul];simp [Addr.add]
 rw [h8];exact h cs hcs
theorem J26 {p v:Operand} {t:TypeId} {z:Value} {sz by_ off:Nat} {cs cs' vs:List Value} {u':α} (C:Cx X0 w0 x y w) (ho:OS T E w0 x y w (.slice (some ⟨g,0,none⟩) n c) (a::l)) (he:ElO T x w g 0 cs a) (hi:Zn P t=some (z,sz,by_))
  (hx:ρ p= .pointer (some ⟨g,0+off,none⟩)) (hy:(ρ v).cells=vs.toArray) (hl:vs.length=sz) (h1:vs.all Value.oneCell'=true) (hfit:Nat.ble (off+vs.length) cs.length=true) (hc:cs.take off++vs++cs.drop (off+vs.length)=cs') (hr:T.rd x w cs' u')
  (h:∀ w',Cx X0 w0 x y w'→Ap x w x y w'→OS T E w0 x y w' (.slice (some ⟨g,0,none⟩) n c) (u'::l)→K undef w'):St P ρ ⟨dst,.store t p v,ty,pos,after,gd⟩ w K Kp:=by
 have hm:=ho.mem g rfl;obtain⟨ds,css,cap,tl,hrd,hg,hcl,hn,rfl,hnc,hcm,hcap,hnl,hall⟩:=ho.first;have hfit:=Nat.le_of_ble_eq_true hfit;have hds:ds=cs:=by
  apply List.ext_getElem?
  intro q;have hld:=T.len hrd;have hlc:=T.len he.rd
  rcases Nat.lt_or_ge q cs.length with hq | hq
  ·have h2:=he.cell q cs[q] (List.getElem?_eq_getElem hq);rw [Nat.zero_add,cell_of_row w g q _ E (0,0) hg,List.getElem?_toArray,List.append_assoc,List.getElem?_append_left (by omega)] at h2;rw [h2,List.getElem?_eq_getElem hq]
  ·rw [List.getElem?_eq_none hq,List.getElem?_eq_none (by omega)]
 subst hds;obtain⟨inf,hi',_,hs,_⟩:=J5 hi;have hB:Blk w g (ds++css.flatten++tl) E:=hg;rw [Nat.zero_add] at hx;refine J27 (vs:=vs) hi' hs hx hy hl hB (by rw [List.length_append,List.length_append];omega) h1 fun C' hC'=>?_
 have hC2:C'=cs'++css.flatten++tl:=by
  rw [hC',← hc,List.append_assoc ds,List.take_append_of_le_length (by omega),List.drop_append_of_le_length hfit];simp only [List.append_assoc]
 have hsz:(Ku w g C').heap.size=w.heap.size:=by simp [Ku,World.setRow]
 have hsame:∀ b,b < w.heap.size→¬ b=g→(Ku w g C').heap[b]? =w.heap[b]? :=fun b _ hb=>Vg hb;have hb2:Bel w0 (Ku w g C'):=C.below.turn (g:=g) ⟨rfl,rfl,rfl,by rw [hsz];exact Nat.le_refl _,fun b hb hm=>hsame b hb hm⟩ hm.2;have htr:Tr x w x (Ku w g C'):=⟨fun _ _ h=>h,fun b hb hx=>hsame b hb (fun e=>hx (e ▸ hm.1.1)),by omega⟩;have hlen:cs'.length=ds.length:=by
  rw [← hc];simp only [List.length_append,List.length_take,List.length_drop];omega
 refine h _ ⟨hb2,C.base,fun b hb=>by rw [hsz];exact C.bd b hb,C.yx⟩ ⟨htr,fun b hb hy=>hsame b hb (fun e=>hm.1.2 (e ▸ hy))⟩ ⟨⟨cs'::css,by simp [hcl],fun i cs u hci hu=>?_,?_⟩,fun k hk=>?_⟩
 ·cases i with
  | zero=>simp at hci hu;subst hci;subst hu;exact T.tr hr htr
  | succ i=>exact T.tr (hall i cs u (by simpa using hci) (by simpa using hu)) htr
 ·have hB2:=hB.set (C':=C');rw [hC2] at hB2 ⊢;refine⟨?_,.inr ⟨g,c,(cs'++css.flatten++tl).toArray,by rw [List.length_cons,hn],Nat.zero_le _,hB2,by rw [List.length_cons];omega,hcm,?_,?_⟩⟩
  ·rw [List.flatten_cons,List.length_append,hlen,← List.length_append,hnl,hn,List.length_cons]
  ·rw [List.size_toArray,← hcap];simp only [List.length_append,hlen]
  ·rw [List.flatten_cons,List.length_cons,← hn]
   have:(cs'++css.flatten).length=n * T.sz:=by rw [← hnl];simp only [List.length_append,hlen]
   rw [← this];exact List.take_left
 ·have:=ho.mem k hk
  exact this
end
end Go.Wf
namespace Go.Wf
open Go Go.Proofs Go.RowKit
theorem Jbp{X:Nat→Prop}{w:World}(hX:XB X w){g:Nat}{s:List UInt8}{p o:Nat}(hB:Blk w g (rc s p o) 88)(hXg:X g){minus:Bool}{S:Nat→Nat→Rr GExpr}{lo:Nat}(hp:p≤s.length)(hs:s.length≤65536)(ho:o≤64)(hS:∀ o p,p≤s.length→(S o p).fw s p)(ih:SumC s S lo)(hlo:lo≤p):Calls Tryz.prog 98 #[(.pointer (some ⟨g,0,none⟩)),(.bool minus)] w (RetP w g (Zx s S minus o p) fun a q v w'=>RV Jg X w' v a∧Blk w' g (rc s q o) 88):=by
 have C:=J1t g hX hXg;have o0:=J38 hB
 have:maxLen=9223372036854775807:=rfl
 refine Cgo (args:=[(.pointer (some ⟨g,0,none⟩)),(.bool minus)]) Tryz.func98 rfl rfl rfl (Rg<|Ol<|J05 C io31 rfl ?_);intro g1 w2 x3 y4 dU C6 s7 o8;have n9:=dU _ o0.blk.lt;replace o0:=o0.spn s7;refine Nl<|Rg<|Oa<|Nl<|Rg<|Oa<|Nl<|J06<|J2b (fun f v=>∃ (x y:Nat→Prop) (r:Nat) (l:List GExpr) (la:Option Addr) (lc:Nat) (pl:Bool),Cx X ⟨w,(· =g)⟩ x y v∧f 1=(.bool minus)∧f 4=(.pointer (some ⟨g1,0,none⟩))∧f 5=(.slice la l.length lc)∧f 6=(.bool pl)∧OS Jg 31 ⟨w,(· =g)⟩ x y v (.slice la l.length lc) l∧Own ⟨w,(· =g)⟩ y v g [(str s),(.int .i64 ((r:Nat):Int)),(.int .i64 ((o:Nat):Int))] 88∧Own ⟨w,(· =g)⟩ y v g1 [(.int .i64 0),(.slice none 0 0),(.bool false),(.slice none 0 0),(.bool false),(.slice none 0 0),(str []),(.slice none 0 0)] 31∧r≤s.length∧Kg s S o (s.length+1) [] false p= .ok (l,pl) r∧0 < l.length∧l.length≤s.length+1) ?_ ?_
 ·refine W.block (J1g (fun μ f v=>∃ (x y:Nat→Prop) (q:Nat) (k:Nat) (l:List GExpr) (la:Option Addr) (lc:Nat) (pl:Bool),Cx X ⟨w,(· =g)⟩ x y v∧f 0=(.pointer (some ⟨g,0,none⟩))∧f 1=(.bool minus)∧f 4=(.pointer (some ⟨g1,0,none⟩))∧f 5=(.slice la l.length lc)∧f 6=(.bool pl)∧OS Jg 31 ⟨w,(· =g)⟩ x y v (.slice la l.length lc) l∧Own ⟨w,(· =g)⟩ y v g [(str s),(.int .i64 ((q:Nat):Int)),(.int .i64 ((o:Nat):Int))] 88∧Own ⟨w,(· =g)⟩ y v g1 [(.int .i64 0),(.slice none 0 0),(.bool false),(.slice none 0 0),(.bool false),(.slice none 0 0),(str []),(.slice none 0 0)] 31∧q≤s.length∧lo≤q∧s.length < q+k∧l.length≤q∧Kg s S o (s.length+1) [] false p=Kg s S o k l pl q∧μ=(s.length+1 - q)) _ ⟨_,_,p,(s.length+1),[],none,0,false,C6,rfl,rfl,rfl,rfl,rfl,OS.nil,o0,o8,hp,hlo,(by omega),(Nat.zero_le _),rfl,rfl⟩ ?_);rintro fN fO fP ⟨fQ,fR,q,k,l,la,lc,pl,be,cI,cJ,cK,cL,cM,hL,bf,i,hq,hlq,hk,hl,hM,d1⟩;obtain⟨fS,rfl⟩:=rebK (aC cI<|aC cJ<|aC cK<|aC cL<|aC cM aN);clear cI cJ cK cL cM;refine W.block<|Rg<|Om<|Ol<|J1w (cs':=fun a q=>rc s q o) be bf cb147 rfl rfl (Jne be.bd (s:=s) (p:=q) (o:=o) bf.blk (be.yx _ bf.mem) hq hs ho hS ih (by omega)) ?_ ?_
  ·intro fT fU fV b dV;exact Zg (Jof<|Jt8 hM<|Jvq b) dV
  intro fW fX A Y b cN cO aI dW;replace hL:=hL.sp cO cN<|fun _ h=>h
  replace i:=i.spo cO (Ne.symm n9);obtain⟨fY,fZ,rfl,dX,rfl⟩:=dW;obtain⟨am,an,ao,aq,ar,au,av,aw,rfl,D⟩:=J37 dX;refine Om (Ol<|St.extract rfl rfl<|Ol<|St.extract rfl rfl<|Ol<|J24 cN io31 rfl ?_);intro f0 f1 f2 f3 bg cP ba dY dZ;have aS:=bg _ aI.blk.lt;have bh:=bg _ i.blk.lt;replace D:=D.sp ba;refine On (J0u (cs':=(ec A.1 am an ao aq ar au av aw)) cP dY io31 rfl rfl rfl rfl rfl rfl ?_);intro f4 bb bc ax;replace hL:=(hL.sp ba cP dZ).sp bc bb (fun _ h=>h)
  replace aI:=(aI.spn ba).spo bc aS;replace i:=(i.spn ba).spo bc bh;refine Oa (Nl<|Rh<|Om<|Ol<|J03 rfl<|Ol<|J0s Ym rfl<|Ol<|J1n<|J08 bb aI cb99 rfl rfl (Xg bb.bd (s:=s) (p:=Y) (o:=o) aI.blk (bb.yx _ aI.mem) (c:=94) (Rr.le (Xf hS hq) b) hs) ?_);intro f5 f6 aJ ay I d0;replace D:=(D.sp bc).sp ay;replace ax:=ax.spo ay (Ne.symm aS);refine⟨_,d0,fun d=>?_,fun d=>?_⟩
  ·refine Nl<|J0w rfl<|J2f mixed 5 1 [[],[0],[1],[],[3]] aJ I [fx<|.pointer (some ⟨g,0,none⟩),fun(z:Gh) (v:Value) (w':World)=>∃ a q,(intM s<|fpM s Y 94)= .ok a q∧(v=(.int .i64 a))∧Own ⟨w,(· =g)⟩ z.2 w' g (rc s q o) 88,fun(z:Gh) (v:Value) (w':World)=>∀ a q,(intM s<|fpM s Y 94)= .ok a q→RS Ye z.1 w' v [a],fx<|ea A.1 am an ao aq ar au av aw,fs Jg [A.1]] (by kernel_rfl) ⟨sx,(fun _ _ _ _ _ ⟨a,q,e,h,o⟩ r=>⟨a,q,e,h,o.spn r.sp⟩),(fun _ _ _ _ _ h r a q e=>(h a q e).tr r.sp.tx),sx,tSl,trivial⟩ fun cQ aA ed aT U=>?_
   have P:=aT.cx;have aK:=aT.sp;replace hL:=(hL.sp ay aJ<|fun _ h=>h).sp aK P (aT.up);replace D:=D.sp aK;replace i:=(i.spo ay<|Ne.symm n9).spo aK (Ne.symm n9);replace ax:=ax.spo aK (Ne.symm aS);have U:Keep [18,19,20,21,22] _ cQ:=U;refine⟨⟨fun _ _=>?_,fun⟨cR,_⟩ aa=>?_,fun⟨cS,_⟩ _=>?_,fun _ _=>?_,fun⟨cT,_⟩ _=>?_,trivial⟩,fun⟨cU,cV,cW,cX,ad,_⟩=>?_⟩
   ·exact Ja U aN fun _=>OpSt.op<|J00 ⟨aA,RZ.same P,rfl⟩
   ·replace aa:=aa rfl;refine Ja U (aC cR aN) fun _=>OpSt.op<|J1w (cs':=fun a q=>rc s q o) P aa Jje rfl rfl (kz P.bd (s:=s) (p:=(fpM s Y 94)) (o:=o) aa.blk (P.yx _ aa.mem) (Yu<|Rr.le (Xf hS hq) b) hs) ?_ ?_
    ·intro ee ef bi aL cY eg;exact Zg (Jof<|Jt8 hM<|Juq b d aL) cY
    intro eh ei cZ bi aL c0 c1 c2 c3;exact⟨aA,RT.step c0 c1,cZ,bi,aL,c3,c2⟩
   ·obtain⟨bj,ej,aM,c4,ek⟩:=cS;refine Ja U (aC c4 aN) fun _=>OpSt.op (J1k (T:=Ye) (css:=[[(.int .i64 bj)]]) (l:=[bj]) P sl23 io3 (by decide) (by decide) rfl (by kernel_rfl) ⟨⟨rfl,(by have:=Xy aM;omega),(by have:=Xy aM;omega)⟩,trivial⟩ ?_);intro el em c5 c6 c7;exact⟨aA,RZ.go c5 c6,(fun a q e=>by cases aM.symm.trans e;exact c7)⟩
   ·exact Ja U aN fun _=>OpSt.op<|J0z (vs:=(ec A.1 am an ao aq ar au av aw)) ax ag31 rfl rfl rfl ⟨aA,RZ.same P,rfl⟩
   ·refine Ja U (aC cT aN) fun _=>OpSt.op (J1k (T:=Jg) (css:=[(ec A.1 am an ao aq ar au av aw)]) (l:=[A.1]) P sl29 io31 (by decide) (by decide) rfl (by kernel_rfl) ⟨(Z3 A.1 D.lo D.hi D.name D.n D.num D.den D.args),trivial⟩ ?_);intro en eo c8 c9 da;exact⟨aA,RZ.go c8 c9,da⟩
   obtain⟨H,Z,B,db,E⟩:=cV;have ae:=cW H Z B;obtain⟨af,ag,dc,ae⟩:=RS.opn ae;obtain⟨ah,ai,dd,ad⟩:=RS.opn ad;obtain⟨ep,rfl⟩:=mixK U (aC cU<|aC db<|aC dc<|aC cX<|aC dd aN);refine Ol (J09 (cs:=[(.int .i64 12),(.slice af [H].length ag),(.bool false),(.slice none 0 0),(.bool false),(.slice none 0 0),(str []),(.slice ah [A.1].length ai)]) rfl (by kernel_rfl)<|On<|J0u (cs':=[(.int .i64 12),(.slice af [H].length ag),(.bool false),(.slice none 0 0),(.bool false),(.slice none 0 0),(str []),(.slice ah [A.1].length ai)]) P ax io31 rfl rfl rfl rfl rfl rfl ?_);intro eq aO V bk;replace ae:=ae.sp V;replace ad:=ad.sp V;refine Oa<|Nl<|Rh<|Om<|Ol<|St.len sl29 rfl<|Ol<|J1a rfl rfl (fun cG=>?_)<|fun cG=>?_
   ·refine Nl (J0w rfl<|J0y<|Om<|Oa<|Nl<|Rg<|Om<|Ol<|J0z (vs:=[(.int .i64 12),(.slice af [H].length ag),(.bool false),(.slice none 0 0),(.bool false),(.slice none 0 0),(str []),(.slice ah [A.1].length ai)]) bk ag31 rfl rfl rfl<|Ol<|J1k (T:=Jg) (css:=[[(.int .i64 12),(.slice af [H].length ag),(.bool false),(.slice none 0 0),(.bool false),(.slice none 0 0),(str []),(.slice ah [A.1].length ai)]]) (l:=[(.mk 12 [H] ⟨⟨false,[]⟩,⟨false,[]⟩⟩ [] [A.1])]) aO sl29 io31 (by decide) (by decide) rfl (by kernel_rfl) ⟨(yf (by omega) (by omega) (by unfold maxLen;simp) ae RS.nil RS.nil ad),trivial⟩ ?_);intro es et bl aU de;replace hL:=(hL.sp V aO<|fun _ h=>h).sp aU bl (fun _ h=>h)
    replace i:=(i.spo V bh).spn aU;replace E:=(E.spo V aS).spn aU;refine Ol (J1o (T:=Jg) bl sl29 io31 rfl rfl hL (Kb de) (by simp only [List.length_cons,List.length_nil];omega) (by simp only [List.length_cons,List.length_nil];omega) rfl ?_);intro eu ev ew aV bm ex aB;replace E:=E.ap bm E.mem;obtain⟨bn,bo,rfl,_,_⟩:=aB.len;refine Oa (Nl<|Rg<|Om<|Ol<|J03 rfl<|Ol<|J0s Ym rfl<|Ol<|J1n<|J08 aV E cb99 rfl rfl (Xg aV.bd (s:=s) (p:=Z) (o:=o) E.blk (aV.yx _ E.mem) (c:=42) (Rr.le (Yc<|Yu<|Rr.le (Xf hS hq) b) B) hs) ?_);intro ey ez aW bp bq df;replace aB:=aB.sp bp aW<|fun _ h=>h
    replace i:=(i.ap bm i.mem).spo bp (Ne.symm n9);refine⟨_,df,fun K=>?_,fun K=>?_⟩
    ·refine Ol<|J1s rfl<|Nl<|J0v rfl<|J01<|⟨_,(by have:=(Z1 hS hq (X5 b d B) K);omega),_,_,(fpM s Z 42),(k - 1),(l++[(.mk 12 [H] ⟨⟨false,[]⟩,⟨false,[]⟩⟩ [] [A.1])]),bn,bo,false,aW,rfl,rfl,rfl,rfl,rfl,aB,bq,i,(Z1 hS hq (X5 b d B) K).2,(by have:=(Z1 hS hq (X5 b d B) K);omega),(by have:=(Z1 hS hq (X5 b d B) K);omega),(by have:=(Z1 hS hq (X5 b d B) K);rw [List.length_append,List.length_singleton];omega),(Jbj hM hk hq (X5 b d B) K (by rw [if_pos (by omega)])),rfl⟩
    refine Ol<|J1s rfl<|Nl<|J0w rfl<|J1j<|⟨_,_,(fpM s Z 42),(l++[(.mk 12 [H] ⟨⟨false,[]⟩,⟨false,[]⟩⟩ [] [A.1])]),bn,bo,false,aW,rfl,rfl,rfl,rfl,aB,bq,i,(Yu<|Rr.le (Yc<|Yu<|Rr.le (Xf hS hq) b) B),(Ja0 hM hk hq (X5 b d B) K (by rw [if_pos (by omega)])),(by rw [List.length_append,List.length_singleton];omega),(by rw [List.length_append,List.length_singleton];omega)⟩
   refine Nl (J0v rfl<|J01<|Rg<|Om<|Ol<|J0z (vs:=[(.int .i64 12),(.slice af [H].length ag),(.bool false),(.slice none 0 0),(.bool false),(.slice none 0 0),(str []),(.slice ah [A.1].length ai)]) bk ag31 rfl rfl rfl<|Ol<|J1k (T:=Jg) (css:=[[(.int .i64 12),(.slice af [H].length ag),(.bool false),(.slice none 0 0),(.bool false),(.slice none 0 0),(str []),(.slice ah [A.1].length ai)]]) (l:=[(.mk 12 [H] ⟨⟨false,[]⟩,⟨false,[]⟩⟩ [] [A.1])]) aO sl29 io31 (by decide) (by decide) rfl (by kernel_rfl) ⟨(yf (by omega) (by omega) (by unfold maxLen;simp) ae RS.nil RS.nil ad),trivial⟩ ?_);intro eA eB br aX dg;replace hL:=(hL.sp V aO<|fun _ h=>h).sp aX br (fun _ h=>h)
   replace i:=(i.spo V bh).spn aX;replace E:=(E.spo V aS).spn aX;refine Ol (J1o (T:=Jg) br sl29 io31 rfl rfl hL (Kb dg) (by simp only [List.length_cons,List.length_nil];omega) (by simp only [List.length_cons,List.length_nil];omega) rfl ?_);intro eC eD eE aY bs eF aD;replace E:=E.ap bs E.mem;obtain⟨bt,bu,rfl,_,_⟩:=aD.len;refine Oa (Nl<|Rg<|Om<|Ol<|J03 rfl<|Ol<|J0s Ym rfl<|Ol<|J1n<|J08 aY E cb99 rfl rfl (Xg aY.bd (s:=s) (p:=Z) (o:=o) E.blk (aY.yx _ E.mem) (c:=42) (Rr.le (Yc<|Yu<|Rr.le (Xf hS hq) b) B) hs) ?_);intro eG eH aZ bv bw dh;replace aD:=aD.sp bv aZ<|fun _ h=>h
   replace i:=(i.ap bs i.mem).spo bv (Ne.symm n9);refine⟨_,dh,fun L=>?_,fun L=>?_⟩
   ·refine Ol<|J1s rfl<|Nl<|J0v rfl<|J01<|⟨_,(by have:=(Z1 hS hq (X5 b d B) L);omega),_,_,(fpM s Z 42),(k - 1),(l++[(.mk 12 [H] ⟨⟨false,[]⟩,⟨false,[]⟩⟩ [] [A.1])]),bt,bu,pl,aZ,rfl,rfl,rfl,rfl,rfl,aD,bw,i,(Z1 hS hq (X5 b d B) L).2,(by have:=(Z1 hS hq (X5 b d B) L);omega),(by have:=(Z1 hS hq (X5 b d B) L);omega),(by have:=(Z1 hS hq (X5 b d B) L);rw [List.length_append,List.length_singleton];omega),(Jbj hM hk hq (X5 b d B) L (by rw [if_neg (by omega)])),rfl⟩
   refine Ol<|J1s rfl<|Nl<|J0w rfl<|J1j<|⟨_,_,(fpM s Z 42),(l++[(.mk 12 [H] ⟨⟨false,[]⟩,⟨false,[]⟩⟩ [] [A.1])]),bt,bu,pl,aZ,rfl,rfl,rfl,rfl,aD,bw,i,(Yu<|Rr.le (Yc<|Yu<|Rr.le (Xf hS hq) b) B),(Ja0 hM hk hq (X5 b d B) L (by rw [if_neg (by omega)])),(by rw [List.length_append,List.length_singleton];omega),(by rw [List.length_append,List.length_singleton];omega)⟩
  refine Nl<|J0v rfl<|J01<|Rh<|Om<|Ol<|St.len sl29 rfl<|Ol<|J1a rfl rfl (fun cH=>?_)<|fun cH=>?_
  ·refine Nl (J0w rfl<|J0y<|Om<|Oa<|Nl<|Rg<|Om<|Ol<|J0z (vs:=(ec A.1 am an ao aq ar au av aw)) ax ag31 rfl rfl rfl<|Ol<|J1k (T:=Jg) (css:=[(ec A.1 am an ao aq ar au av aw)]) (l:=[A.1]) aJ sl29 io31 (by decide) (by decide) rfl (by kernel_rfl) ⟨(Z3 A.1 D.lo D.hi D.name D.n D.num D.den D.args),trivial⟩ ?_);intro eI eJ bx a1 di;replace hL:=(hL.sp ay aJ<|fun _ h=>h).sp a1 bx (fun _ h=>h)
   replace I:=I.spn a1;replace i:=(i.spo ay<|Ne.symm n9).spn a1;refine Ol (J1o (T:=Jg) bx sl29 io31 rfl rfl hL (Kb di) (by simp only [List.length_cons,List.length_nil];omega) (by simp only [List.length_cons,List.length_nil];omega) rfl ?_);intro eK eL eM a2 bz eN aE;replace I:=I.ap bz I.mem;obtain⟨bA,bB,rfl,_,_⟩:=aE.len;refine Oa (Nl<|Rg<|Om<|Ol<|J03 rfl<|Ol<|J0s Ym rfl<|Ol<|J1n<|J08 a2 I cb99 rfl rfl (Xg a2.bd (s:=s) (p:=(fpM s Y 94)) (o:=o) I.blk (a2.yx _ I.mem) (c:=42) (Yu<|Rr.le (Xf hS hq) b) hs) ?_);intro eO eP a3 bC bD dj;replace aE:=aE.sp bC a3<|fun _ h=>h
   replace i:=(i.ap bz i.mem).spo bC (Ne.symm n9);refine⟨_,dj,fun M=>?_,fun M=>?_⟩
   ·refine Ol<|J1s rfl<|Nl<|J0v rfl<|J01<|⟨_,(by have:=(Z1 hS hq (zq b d) M);omega),_,_,(fpM s (fpM s Y 94) 42),(k - 1),(l++[A.1]),bA,bB,A.2,a3,rfl,rfl,rfl,rfl,rfl,aE,bD,i,(Z1 hS hq (zq b d) M).2,(by have:=(Z1 hS hq (zq b d) M);omega),(by have:=(Z1 hS hq (zq b d) M);omega),(by have:=(Z1 hS hq (zq b d) M);rw [List.length_append,List.length_singleton];omega),(Jbj hM hk hq (zq b d) M (by rw [if_pos (by omega)])),rfl⟩
   refine Ol<|J1s rfl<|Nl<|J0w rfl<|J1j<|⟨_,_,(fpM s (fpM s Y 94) 42),(l++[A.1]),bA,bB,A.2,a3,rfl,rfl,rfl,rfl,aE,bD,i,(Yu<|Yu<|Rr.le (Xf hS hq) b),(Ja0 hM hk hq (zq b d) M (by rw [if_pos (by omega)])),(by rw [List.length_append,List.length_singleton];omega),(by rw [List.length_append,List.length_singleton];omega)⟩
  refine Nl (J0v rfl<|J01<|Rg<|Om<|Ol<|J0z (vs:=(ec A.1 am an ao aq ar au av aw)) ax ag31 rfl rfl rfl<|Ol<|J1k (T:=Jg) (css:=[(ec A.1 am an ao aq ar au av aw)]) (l:=[A.1]) aJ sl29 io31 (by decide) (by decide) rfl (by kernel_rfl) ⟨(Z3 A.1 D.lo D.hi D.name D.n D.num D.den D.args),trivial⟩ ?_);intro eQ eR bE a4 dk;replace hL:=(hL.sp ay aJ<|fun _ h=>h).sp a4 bE (fun _ h=>h)
  replace I:=I.spn a4;replace i:=(i.spo ay<|Ne.symm n9).spn a4;refine Ol (J1o (T:=Jg) bE sl29 io31 rfl rfl hL (Kb dk) (by simp only [List.length_cons,List.length_nil];omega) (by simp only [List.length_cons,List.length_nil];omega) rfl ?_);intro eS eT eU a5 bF eV aF;replace I:=I.ap bF I.mem;obtain⟨bG,bH,rfl,_,_⟩:=aF.len;refine Oa (Nl<|Rg<|Om<|Ol<|J03 rfl<|Ol<|J0s Ym rfl<|Ol<|J1n<|J08 a5 I cb99 rfl rfl (Xg a5.bd (s:=s) (p:=(fpM s Y 94)) (o:=o) I.blk (a5.yx _ I.mem) (c:=42) (Yu<|Rr.le (Xf hS hq) b) hs) ?_);intro eW eX a6 bI bJ dl;replace aF:=aF.sp bI a6<|fun _ h=>h
  replace i:=(i.ap bF i.mem).spo bI (Ne.symm n9);refine⟨_,dl,fun N=>?_,fun N=>?_⟩
  ·refine Ol<|J1s rfl<|Nl<|J0v rfl<|J01<|⟨_,(by have:=(Z1 hS hq (zq b d) N);omega),_,_,(fpM s (fpM s Y 94) 42),(k - 1),(l++[A.1]),bG,bH,pl,a6,rfl,rfl,rfl,rfl,rfl,aF,bJ,i,(Z1 hS hq (zq b d) N).2,(by have:=(Z1 hS hq (zq b d) N);omega),(by have:=(Z1 hS hq (zq b d) N);omega),(by have:=(Z1 hS hq (zq b d) N);rw [List.length_append,List.length_singleton];omega),(Jbj hM hk hq (zq b d) N (by rw [if_neg (by omega)])),rfl⟩
  refine Ol<|J1s rfl<|Nl<|J0w rfl<|J1j<|⟨_,_,(fpM s (fpM s Y 94) 42),(l++[A.1]),bG,bH,pl,a6,rfl,rfl,rfl,rfl,aF,bJ,i,(Yu<|Yu<|Rr.le (Xf hS hq) b),(Ja0 hM hk hq (zq b d) N (by rw [if_neg (by omega)])),(by rw [List.length_append,List.length_singleton];omega),(by rw [List.length_append,List.length_singleton];omega)⟩
 rintro eY eZ ⟨e0,e1,r,l,la,lc,pl,aG,bK,bL,bM,bN,hL,G,J,hr,hM,hl,hlm⟩;obtain⟨e2,rfl⟩:=rebK (aC bK<|aC bL<|aC bM<|aC bN aN);clear bK bL bM bN
 cases minus
 ·refine J06<|J2b (fun f v=>∃ (x y:Nat→Prop) (m:List GExpr) (ma:Option Addr) (mc:Nat),Cx X ⟨w,(· =g)⟩ x y v∧f 4=(.pointer (some ⟨g1,0,none⟩))∧f 5=(.slice ma m.length mc)∧RS Jg x v (.slice ma m.length mc) m∧Own ⟨w,(· =g)⟩ y v g [(str s),(.int .i64 ((r:Nat):Int)),(.int .i64 ((o:Nat):Int))] 88∧Own ⟨w,(· =g)⟩ y v g1 [(.int .i64 0),(.slice none 0 0),(.bool false),(.slice none 0 0),(.bool false),(.slice none 0 0),(str []),(.slice none 0 0)] 31∧Zx s S false o p= .ok (Kc 11 m) r) ?_ ?_
  ·refine Rg (Om<|Om<|Oz<|OF<|Nl<|J0v rfl<|Rg<|Om<|Nl<|J0v rfl<|J01 ?_);obtain⟨e3,dm,d2,dn⟩:=hL.freeze aG hX G.sees;refine⟨_,_,l,la,lc,dm,rfl,rfl,dn,G,J,(Jwu hM)⟩
  rintro e4 e5 ⟨e6,e7,m,ma,mc,bO,bP,bQ,ab,aj,bR,hZ⟩;obtain⟨e8,rfl⟩:=rebK (aC bP<|aC bQ aN);clear bP bQ;refine Rh<|Om<|Ol<|St.len sl29 rfl<|Ol<|J1a rfl rfl (fun aP=>?_)<|fun aP=>?_
  ·refine Nl (J0w rfl<|Rg<|Om<|Ol<|J1l (j:=0) (u:=(m.getD 0 default)) ab sl29 io31 rfl rfl rfl (Jf (by omega)) ?_);intro e9 fa d3 bS;obtain⟨bT,bU,bV,bW,bX,bY,bZ,b0,rfl,Q⟩:=Jv bS.rd;refine Ol (J14 (cs:=(ec (m.getD 0 default) bT bU bV bW bX bY bZ b0)) ag31 rfl rfl bS.cell<|On<|J0u (cs':=(ec (m.getD 0 default) bT bU bV bW bX bY bZ b0)) bO bR io31 rfl rfl rfl rfl rfl rfl ?_);intro fb b1 b2 dp;replace Q:=Q.sp b2;replace aj:=aj.spo b2 n9;refine Nl<|J04<|Jo rfl (resV.c dp rfl ag31 rfl)<|RetP.ok (a:=(m.getD 0 default)) (q:=r) (Jjp hZ aP) ⟨?_,?_⟩ b1.below
   ·exact J36 (a:=(m.getD 0 default)) ((Ju (m.getD 0 default) Q.lo Q.hi Q.name Q.n Q.num Q.den Q.args).tr (Tr.weak b1.base)) rfl
   exact aj.blk
  refine Nl (J0v rfl<|J01<|Rg<|Om<|Ol<|J09 (cs:=[(.int .i64 11),(.slice none 0 0),(.bool false),(.slice none 0 0),(.bool false),(.slice none 0 0),(str []),(.slice ma m.length mc)]) rfl (by kernel_rfl)<|On<|J0u (cs':=[(.int .i64 11),(.slice none 0 0),(.bool false),(.slice none 0 0),(.bool false),(.slice none 0 0),(str []),(.slice ma m.length mc)]) bO bR io31 rfl rfl rfl rfl rfl rfl ?_);intro fc b3 b4 dq;replace ab:=ab.sp b4;replace aj:=aj.spo b4 n9;refine Nl<|J04<|Jo rfl (resV.c dq rfl ag31 rfl)<|RetP.ok (a:=(.mk 11 [] ⟨⟨false,[]⟩,⟨false,[]⟩⟩ [] m)) (q:=r) (Jqt hZ aP) ⟨?_,?_⟩ b3.below
  ·exact J36 (a:=(.mk 11 [] ⟨⟨false,[]⟩,⟨false,[]⟩⟩ [] m)) ((Zs (by omega) (by omega) (by unfold maxLen;simp) RS.nil RS.nil RS.nil ab).tr (Tr.weak b3.base)) rfl
  exact aj.blk
 refine J06<|J2b (fun f v=>∃ (x y:Nat→Prop) (m:List GExpr) (ma:Option Addr) (mc:Nat),Cx X ⟨w,(· =g)⟩ x y v∧f 4=(.pointer (some ⟨g1,0,none⟩))∧f 5=(.slice ma m.length mc)∧RS Jg x v (.slice ma m.length mc) m∧Own ⟨w,(· =g)⟩ y v g [(str s),(.int .i64 ((r:Nat):Int)),(.int .i64 ((o:Nat):Int))] 88∧Own ⟨w,(· =g)⟩ y v g1 [(.int .i64 0),(.slice none 0 0),(.bool false),(.slice none 0 0),(.bool false),(.slice none 0 0),(str []),(.slice none 0 0)] 31∧Zx s S true o p= .ok (Kc 11 m) r) ?_ ?_
 ·refine Rg<|Om<|Om<|OgD<|J1n<|J00 ⟨_,rfl,fun az=>?_,fun az=>?_⟩
  ·refine OT (Nl<|J0w rfl ?_);obtain⟨F,l0,rfl⟩:=Jj9 hl;obtain⟨dr,rfl⟩:=hL.adr hl;have hcb:cBd s F:=pr_c hM az;have ff:=hcb.1;have fg:=hcb.2;refine J0y (Om<|Om<|Ol<|J2z hL sl29 io31 rfl rfl ?_);intro d4 b5;obtain⟨fh,fi,ds,dt,du,dv,fj,fk,rfl,b6⟩:=Jv b5.rd;refine Ol (J0s Qo rfl<|Ol<|J14 (cs:=[(.bool F.c.num.neg),(.slice ds F.c.num.mag.length dt),(.bool F.c.den.neg),(.slice du F.c.den.mag.length dv)]) ag28 rfl rfl (Jav b5.cell rfl)<|Ol<|J0t aG Js1 rfl rfl (Jk5 aG.bd (a:=F.c) (Zz b6.num b6.den) (by omega) (by omega)) ?_);intro fl fm b7 a7 dw;replace hL:=hL.sp a7 b7<|fun _ h=>h
   replace G:=G.spn a7;replace J:=J.spn a7;obtain⟨dx,dy,dz,dA,rfl,dB,dC⟩:=J4a dw;refine Ol (J2z hL sl29 io31 rfl rfl ?_);intro d5 b8;obtain⟨dD,dE,fn,fo,fp,fq,dF,dG,rfl,aH⟩:=Jv b8.rd;refine Ol (J0s Qo rfl<|On<|J26 (cs':=[(.int .i64 F.op),(.slice dD F.n.length dE),(.bool (ofQ<|-F.c.q).num.neg),(.slice dx (ofQ<|-F.c.q).num.mag.length dy),(.bool (ofQ<|-F.c.q).den.neg),(.slice dz (ofQ<|-F.c.q).den.mag.length dA),(str F.name),(.slice dF F.args.length dG)]) (u':=(.mk F.op F.n ⟨⟨(ofQ<|-F.c.q).num.neg,(ofQ<|-F.c.q).num.mag⟩,⟨(ofQ<|-F.c.q).den.neg,(ofQ<|-F.c.q).den.mag⟩⟩ F.name F.args)) b7 hL b8 io28 rfl rfl rfl rfl rfl rfl (yf aH.lo aH.hi aH.name aH.n dB dC aH.args) ?_);intro ft dH b9 dI;replace G:=G.ap b9 G.mem;replace J:=J.ap b9 J.mem;refine Nl ?_;obtain⟨fu,dJ,d6,dK⟩:=dI.freeze dH hX G.sees;refine⟨_,_,((.mk F.op F.n ⟨⟨(ofQ<|-F.c.q).num.neg,(ofQ<|-F.c.q).num.mag⟩,⟨(ofQ<|-F.c.q).den.neg,(ofQ<|-F.c.q).den.mag⟩⟩ F.name F.args)::l0),(some ⟨dr,0,none⟩),lc,dJ,rfl,rfl,dK,G,J,(Jtd hM az)⟩
  refine OT (Nl<|J0v rfl<|Rg<|Om<|Nl<|J0w rfl<|J0y<|Ol<|J0t aG Juv rfl rfl (Jxk aG.bd (by omega) (by omega)) ?_);intro fv fy ca a8 dL;replace G:=G.spn a8;replace J:=J.spn a8;obtain⟨cb,cc,cd,ce,rfl,dM,dN⟩:=J4a dL;refine Ol (J09 (cs:=[(.int .i64 1),(.slice none 0 0),(.bool (ofQ<|Rat.divInt (-1) 1).num.neg),(.slice cb (ofQ<|Rat.divInt (-1) 1).num.mag.length cc),(.bool (ofQ<|Rat.divInt (-1) 1).den.neg),(.slice cd (ofQ<|Rat.divInt (-1) 1).den.mag.length ce),(str []),(.slice none 0 0)]) rfl (by kernel_rfl)<|Ol<|J1k (T:=Jg) (css:=[[(.int .i64 1),(.slice none 0 0),(.bool (ofQ<|Rat.divInt (-1) 1).num.neg),(.slice cb (ofQ<|Rat.divInt (-1) 1).num.mag.length cc),(.bool (ofQ<|Rat.divInt (-1) 1).den.neg),(.slice cd (ofQ<|Rat.divInt (-1) 1).den.mag.length ce),(str []),(.slice none 0 0)]]) (l:=[(.mk 1 [] ⟨⟨(ofQ<|Rat.divInt (-1) 1).num.neg,(ofQ<|Rat.divInt (-1) 1).num.mag⟩,⟨(ofQ<|Rat.divInt (-1) 1).den.neg,(ofQ<|Rat.divInt (-1) 1).den.mag⟩⟩ [] [])]) ca sl29 io31 (by decide) (by decide) rfl (by kernel_rfl) ⟨(yf (by omega) (by omega) (by unfold maxLen;simp) RS.nil dM dN RS.nil),trivial⟩ ?_);intro fz fA cf a9 dO;replace hL:=(hL.sp a8 ca<|fun _ h=>h).sp a9 cf (fun _ h=>h)
  refine Om (Ol<|J2c (T:=Jg) cf sl29 io31 rfl rfl dO (Juj hL) (by simp only [List.length_cons,List.length_nil];omega) (by simp only [List.length_cons,List.length_nil];omega) rfl ?_);intro fB fC dP cg ch;replace G:=(G.spn a9).spn cg;replace J:=(J.spn a9).spn cg;obtain⟨dQ,dR,rfl,_,_⟩:=ch.len;refine Oa<|Nl<|⟨_,_,([(.mk 1 [] ⟨⟨(ofQ<|Rat.divInt (-1) 1).num.neg,(ofQ<|Rat.divInt (-1) 1).num.mag⟩,⟨(ofQ<|Rat.divInt (-1) 1).den.neg,(ofQ<|Rat.divInt (-1) 1).den.mag⟩⟩ [] [])]++l),dQ,dR,dP,rfl,rfl,ch,G,J,(Jxd hM az)⟩
 rintro fD fF ⟨fG,fH,m,ma,mc,ci,cj,ck,ab,ak,cl,hZ⟩;obtain⟨fI,rfl⟩:=rebK (aC cj<|aC ck aN);clear cj ck;refine Rh<|Om<|Ol<|St.len sl29 rfl<|Ol<|J1a rfl rfl (fun aQ=>?_)<|fun aQ=>?_
 ·refine Nl (J0w rfl<|Rg<|Om<|Ol<|J1l (j:=0) (u:=(m.getD 0 default)) ab sl29 io31 rfl rfl rfl (Jf (by omega)) ?_);intro fJ fK d7 cm;obtain⟨cn,co,cp,cq,cr,ct,cu,cv,rfl,R⟩:=Jv cm.rd;refine Ol (J14 (cs:=(ec (m.getD 0 default) cn co cp cq cr ct cu cv)) ag31 rfl rfl cm.cell<|On<|J0u (cs':=(ec (m.getD 0 default) cn co cp cq cr ct cu cv)) ci cl io31 rfl rfl rfl rfl rfl rfl ?_);intro fL cw cy dS;replace R:=R.sp cy;replace ak:=ak.spo cy n9;refine Nl<|J04<|Jo rfl (resV.c dS rfl ag31 rfl)<|RetP.ok (a:=(m.getD 0 default)) (q:=r) (Jjp hZ aQ) ⟨?_,?_⟩ cw.below
  ·exact J36 (a:=(m.getD 0 default)) ((Ju (m.getD 0 default) R.lo R.hi R.name R.n R.num R.den R.args).tr (Tr.weak cw.base)) rfl
  exact ak.blk
 refine Nl (J0v rfl<|J01<|Rg<|Om<|Ol<|J09 (cs:=[(.int .i64 11),(.slice none 0 0),(.bool false),(.slice none 0 0),(.bool false),(.slice none 0 0),(str []),(.slice ma m.length mc)]) rfl (by kernel_rfl)<|On<|J0u (cs':=[(.int .i64 11),(.slice none 0 0),(.bool false),(.slice none 0 0),(.bool false),(.slice none 0 0),(str []),(.slice ma m.length mc)]) ci cl io31 rfl rfl rfl rfl rfl rfl ?_);intro fM cz cE dT;replace ab:=ab.sp cE;replace ak:=ak.spo cE n9;refine Nl<|J04<|Jo rfl (resV.c dT rfl ag31 rfl)<|RetP.ok (a:=(.mk 11 [] ⟨⟨false,[]⟩,⟨false,[]⟩⟩ [] m)) (q:=r) (Jqt hZ aQ) ⟨?_,?_⟩ cz.below
 ·exact J36 (a:=(.mk 11 [] ⟨⟨false,[]⟩,⟨false,[]⟩⟩ [] m)) ((Zs (by omega) (by omega) (by unfold maxLen;simp) RS.nil RS.nil RS.nil ab).tr (Tr.weak cz.base)) rfl
 exact ak.blk
theorem Ji9{X:Nat→Prop}{w:World}(hX:XB X w){g:Nat}{s:List UInt8}{p o:Nat}(hB:Blk w g (rc s p o) 88)(hXg:X g){S:Nat→Nat→Rr GExpr}{lo:Nat}(hp:p≤s.length)(hs:s.length≤65536)(ho:o≤64)(hS:∀ o p,p≤s.length→(S o p).fw s p)(ih:SumC s S lo)(hlo:lo≤p):Calls Tryz.prog 67 #[(.pointer (some ⟨g,0,none⟩))] w (RetP w g (sumF s S o p) fun a q v w'=>RV Jg X w' v a∧Blk w' g (rc s q o) 88):=by
 have C:=J1t g hX hXg;have V:=J38 hB
 have:maxLen=9223372036854775807:=rfl
 refine Cgo (args:=[(.pointer (some ⟨g,0,none⟩))]) Tryz.func67 rfl rfl rfl (Rg<|Ol<|J05 C io31 rfl ?_);intro g1 w2 x3 y4 be C6 s7 Y;have P:=be _ V.blk.lt;replace V:=V.spn s7;refine Nl (Rg<|Om<|Om<|Ol<|J03 rfl<|Ol<|J0s Ym rfl<|Ol<|J08 C6 V cb99 rfl rfl (Xg C6.bd (s:=s) (p:=p) (o:=o) V.blk (C6.yx _ V.mem) (c:=45) hp hs) ?_);intro b9 ca Z bf aa bg;replace Y:=Y.spo bf (Ne.symm P);subst bg;refine Ol<|J1w (cs':=fun a q=>rc s q o) Z aa cb98 rfl rfl (Jbp Z.bd (s:=s) (p:=(fpM s p 45)) (o:=o) aa.blk (Z.yx _ aa.mem) (Yu hp) hs ho hS ih (by have h0:=xf (s:=s) (p:=p) (c:=45);omega)) ?_ ?_
 ·intro cb cc cd E bh;exact Zg (Jub E) bh
 intro ce cf R bi E bj bk ab bl;obtain⟨bm,bn,bo,bp,bq,br,bs,bt,rfl,F⟩:=J37 bl;refine Ol (J2v (T:=Jg) (css:=[(ec R bm bn bo bp bq br bs bt)]) (l:=[R]) bj sl29 io31 (by decide) (by decide) rfl (by kernel_rfl) ⟨(Z3 R F.lo F.hi F.name F.n F.num F.den F.args),trivial⟩ ?_);intro bu cg ch bv aF ci bw;replace ab:=ab.spn aF;replace Y:=(Y.spo bk<|Ne.symm P).spn aF;refine Oa (Nl<|W.block<|J1g (fun μ f v=>∃ (x y:Nat→Prop) (q:Nat) (k:Nat) (l:List GExpr) (la:Option Addr) (lc:Nat),Cx X ⟨w,(· =g)⟩ x y v∧f 0=(.pointer (some ⟨g,0,none⟩))∧f 2=(.pointer (some ⟨g1,0,none⟩))∧f 3=(.slice la l.length lc)∧OS Jg 31 ⟨w,(· =g)⟩ x y v (.slice la l.length lc) l∧Own ⟨w,(· =g)⟩ y v g [(str s),(.int .i64 ((q:Nat):Int)),(.int .i64 ((o:Nat):Int))] 88∧Own ⟨w,(· =g)⟩ y v g1 [(.int .i64 0),(.slice none 0 0),(.bool false),(.slice none 0 0),(.bool false),(.slice none 0 0),(str []),(.slice none 0 0)] 31∧q≤s.length∧lo≤q∧s.length < q+k∧l.length≤q+1∧(sumF s S o p=(sumL s S o k l q).th fun l q=> .ok (Kc 10 l) q)∧μ=(s.length+1 - q)) _ ⟨_,_,bi,(s.length+1),[R],(some ⟨bu,0,none⟩),1,bv,rfl,rfl,rfl,bw,ab,Y,(Rr.le (Y2 hS<|Yu hp) E),(by have h0:=xf (s:=s) (p:=p) (c:=45);have h1:=Rr.ge (Y2 hS<|Yu hp) E;omega),(by omega),(by rw [List.length_singleton];omega),(su_go E),rfl⟩ ?_);rintro cj ck cl ⟨cm,cn,q,k,l,la,lc,ac,aG,aH,aI,hL,ad,b,hq,hlq,hk,hl,hM,bM⟩;obtain⟨co,rfl⟩:=rebK (aC aG<|aC aH<|aC aI aN);clear aG aH aI;refine W.block (W.block<|Rg<|Om<|Ol<|J03 rfl<|Ol<|J0s Ym rfl<|Ol<|J1n<|J08 ac ad cb99 rfl rfl (Xg ac.bd (s:=s) (p:=q) (o:=o) ad.blk (ac.yx _ ad.mem) (c:=43) hq hs) ?_);intro cp cq G aJ J bx;replace hL:=hL.sp aJ G<|fun _ h=>h
 replace b:=b.spo aJ (Ne.symm P);refine⟨_,bx,fun i=>?_,fun i=>?_⟩
 ·refine Oa<|Nl<|J0w rfl<|J0y<|Om<|Om<|Ol<|J1w (cs':=fun a q=>rc s q o) G J cb98 rfl rfl (Jbp G.bd (s:=s) (p:=(fpM s q 43)) (o:=o) J.blk (G.yx _ J.mem) (Yu hq) hs ho hS ih (by have h0:=xf (s:=s) (p:=q) (c:=43);omega)) ?_ ?_
  ·intro cr ct cu A bz;exact Zg (su_p1 hM hk hq i A) bz
  intro cv cw U bA A aK aL K bB;obtain⟨bC,bD,bE,bF,bG,bH,bI,bJ,rfl,H⟩:=J37 bB;refine Ol (J1k (T:=Jg) (css:=[(ec U bC bD bE bF bG bH bI bJ)]) (l:=[U]) aK sl29 io31 (by decide) (by decide) rfl (by kernel_rfl) ⟨(Z3 U H.lo H.hi H.name H.n H.num H.den H.args),trivial⟩ ?_);intro cx cy aM ae bK;replace hL:=(hL.sp aL aK<|fun _ h=>h).sp ae aM (fun _ h=>h)
  replace K:=K.spn ae;replace b:=(b.spo aL<|Ne.symm P).spn ae;refine Ol (J1o (T:=Jg) aM sl29 io31 rfl rfl hL (Kb bK) (by simp only [List.length_cons,List.length_nil];omega) (by simp only [List.length_cons,List.length_nil];omega) rfl ?_);intro cz cE cF bL aO cG af;replace K:=K.ap aO K.mem;replace b:=b.ap aO b.mem;obtain⟨aR,aS,rfl,_,_⟩:=af.len;refine Oa<|Nl<|⟨_,(by have:=(Qh (fun p hp a q e=>by have h:=Y2 (minus:=false) (o:=o) hS hp;rw [e] at h;exact h) hq i A);omega),_,_,bA,(k - 1),(l++[U]),aR,aS,bL,rfl,rfl,rfl,af,K,b,(Qh (fun p hp a q e=>by have h:=Y2 (minus:=false) (o:=o) hS hp;rw [e] at h;exact h) hq i A).2,(by have:=(Qh (fun p hp a q e=>by have h:=Y2 (minus:=false) (o:=o) hS hp;rw [e] at h;exact h) hq i A);omega),(by have:=(Qh (fun p hp a q e=>by have h:=Y2 (minus:=false) (o:=o) hS hp;rw [e] at h;exact h) hq i A);omega),(by have:=(Qh (fun p hp a q e=>by have h:=Y2 (minus:=false) (o:=o) hS hp;rw [e] at h;exact h) hq i A);rw [List.length_append,List.length_singleton];omega),(su_p2 hM hk hq i A),rfl⟩
 refine Oa (Nl<|J0v rfl<|Rg<|Om<|Ol<|J03 rfl<|Ol<|J0s Ym rfl<|Ol<|J1n<|J08 G J cb99 rfl rfl (Xg G.bd (s:=s) (p:=(fpM s q 43)) (o:=o) J.blk (G.yx _ J.mem) (c:=45) (Yu hq) hs) ?_);intro bR bS I ag r aT;replace hL:=hL.sp ag I<|fun _ h=>h
 replace b:=b.spo ag (Ne.symm P);refine⟨_,aT,fun d=>?_,fun d=>?_⟩
 ·refine Oa<|Nl<|J0w rfl<|J0y<|Om<|Om<|Ol<|J1w (cs':=fun a q=>rc s q o) I r cb98 rfl rfl (Jbp I.bd (s:=s) (p:=(fpM s (fpM s q 43) 45)) (o:=o) r.blk (I.yx _ r.mem) (Yu<|Yu hq) hs ho hS ih (by have h0:=xf (s:=s) (p:=q) (c:=43);have h1:=xf (s:=s) (p:=(fpM s q 43)) (c:=45);omega)) ?_ ?_
  ·intro bT bU bV m aU;exact Zg (su_m1 hM hk hq i d m) aU
  intro bW bX L aV m ah ai D aW;obtain⟨aX,aY,aZ,a0,a1,a2,a3,a4,rfl,B⟩:=J37 aW;refine Ol (J1k (T:=Jg) (css:=[(ec L aX aY aZ a0 a1 a2 a3 a4)]) (l:=[L]) ah sl29 io31 (by decide) (by decide) rfl (by kernel_rfl) ⟨(Z3 L B.lo B.hi B.name B.n B.num B.den B.args),trivial⟩ ?_);intro bY bZ aj Q a5;replace hL:=(hL.sp ai ah<|fun _ h=>h).sp Q aj (fun _ h=>h)
  replace D:=D.spn Q;replace b:=(b.spo ai<|Ne.symm P).spn Q;refine Ol (J1o (T:=Jg) aj sl29 io31 rfl rfl hL (Kb a5) (by simp only [List.length_cons,List.length_nil];omega) (by simp only [List.length_cons,List.length_nil];omega) rfl ?_);intro b0 b1 b2 a6 ak b3 am;replace D:=D.ap ak D.mem;replace b:=b.ap ak b.mem;obtain⟨a7,a8,rfl,_,_⟩:=am.len;refine Oa<|Nl<|⟨_,(by have:=(Qh (fun p hp a q e=>by have h:=Y2 (minus:=true) (o:=o) hS hp;rw [e] at h;exact h) (Yu hq) d m);have h9:=xf (s:=s) (p:=q) (c:=43);omega),_,_,aV,(k - 1),(l++[L]),a7,a8,a6,rfl,rfl,rfl,am,D,b,(Qh (fun p hp a q e=>by have h:=Y2 (minus:=true) (o:=o) hS hp;rw [e] at h;exact h) (Yu hq) d m).2,(by have:=(Qh (fun p hp a q e=>by have h:=Y2 (minus:=true) (o:=o) hS hp;rw [e] at h;exact h) (Yu hq) d m);have h9:=xf (s:=s) (p:=q) (c:=43);omega),(by have:=(Qh (fun p hp a q e=>by have h:=Y2 (minus:=true) (o:=o) hS hp;rw [e] at h;exact h) (Yu hq) d m);have h9:=xf (s:=s) (p:=q) (c:=43);omega),(by have:=(Qh (fun p hp a q e=>by have h:=Y2 (minus:=true) (o:=o) hS hp;rw [e] at h;exact h) (Yu hq) d m);have h9:=xf (s:=s) (p:=q) (c:=43);rw [List.length_append,List.length_singleton];omega),(su_m2 hM hk hq i d m),rfl⟩
 refine Oa (Nl<|J0v rfl<|J06 ?_);obtain⟨b4,an,bN,M⟩:=hL.freeze I hX r.sees;refine J0y<|Om<|Ol<|St.len sl29 rfl<|Ol<|J1a rfl rfl (fun N=>?_)<|fun N=>?_
 ·refine Oa (Nl<|J0w rfl<|Rg<|Om<|Ol<|J1l (j:=0) (u:=(l.getD 0 default)) M sl29 io31 rfl rfl rfl (Jf (by omega)) ?_);intro b5 b6 bO ao;obtain⟨aq,ar,au,av,aw,ax,ay,az,rfl,z⟩:=Jv ao.rd;refine Ol (J14 (cs:=(ec (l.getD 0 default) aq ar au av aw ax ay az)) ag31 rfl rfl ao.cell<|On<|J0u (cs':=(ec (l.getD 0 default) aq ar au av aw ax ay az)) an b io31 rfl rfl rfl rfl rfl rfl ?_);intro b7 aA aB ba;replace z:=z.sp aB;replace r:=r.spo aB P;refine Nl<|J04<|Jo rfl (resV.c ba rfl ag31 rfl)<|RetP.ok (a:=(l.getD 0 default)) (q:=(fpM s (fpM s q 43) 45)) (Jjp (Joz hM hk hq i d) N) ⟨?_,?_⟩ aA.below
  ·exact J36 (a:=(l.getD 0 default)) ((Ju (l.getD 0 default) z.lo z.hi z.name z.n z.num z.den z.args).tr (Tr.weak aA.base)) rfl
  exact r.blk
 refine Oa (Nl<|J0v rfl<|Rg<|Om<|Ol<|J09 (cs:=[(.int .i64 10),(.slice none 0 0),(.bool false),(.slice none 0 0),(.bool false),(.slice none 0 0),(str []),(.slice la l.length lc)]) rfl (by kernel_rfl)<|On<|J0u (cs':=[(.int .i64 10),(.slice none 0 0),(.bool false),(.slice none 0 0),(.bool false),(.slice none 0 0),(str []),(.slice la l.length lc)]) an b io31 rfl rfl rfl rfl rfl rfl ?_);intro b8 aD aE bb;replace M:=M.sp aE;replace r:=r.spo aE P;refine Nl<|J04<|Jo rfl (resV.c bb rfl ag31 rfl)<|RetP.ok (a:=(.mk 10 [] ⟨⟨false,[]⟩,⟨false,[]⟩⟩ [] l)) (q:=(fpM s (fpM s q 43) 45)) (Jqt (Joz hM hk hq i d) N) ⟨?_,?_⟩ aD.below
 ·exact J36 (a:=(.mk 10 [] ⟨⟨false,[]⟩,⟨false,[]⟩⟩ [] l)) ((Zs (by omega) (by omega) (by unfold maxLen;simp) RS.nil RS.nil RS.nil M).tr (Tr.weak aD.base)) rfl
 exact r.blk
theorem Jpa{s:List UInt8}:∀ k lo:Nat,s.length≤lo+k→SumC s (sumM s k) lo
 | 0,lo,h=>by intro hX g p o hB hXg hp hs ho hlo;exact absurd hlo (by omega)
 | k+1,lo,h=>by intro hX g p o hB hXg hp hs ho hlo;exact Ji9 hX hB hXg hp hs ho (V9 k) (Jpa k p (by omega))<|Nat.le_refl p
end Go.Wf
namespace Go.Wf
open Go
abbrev rc4(s:List UInt8)(p:Nat)(e:Int)(o:Nat):List Value:=[str s,.int .i64 ((p:Nat):Int),.int .i64 e,.int .i64 ((o:Nat):Int)]
theorem Blk.to4{w:World}{g:Nat}{s:List UInt8}{p p' o o':Nat}{e e':Int}{T:TypeId}(h:Blk w g (rc4 s p e o) T)(h1:p=p')(h2:e=e')(h3:o=o'):Blk w g (rc4 s p' e' o') T:=by subst h1;subst h2;subst h3;exact h
def plF(e:Int)(p q:Nat):Nat:=if e=0 then q else p
def erF(e c:Int):Int:=if e=0 then c else e
theorem Jvr{e:Int}{p q:Nat}(h:e=0):q=plF e p q:=(if_pos h).symm
theorem Jup{e:Int}{p q:Nat}(h:¬ e=0):p=plF e p q:=(if_neg h).symm
theorem erF_t{e c:Int}(h:e=0):c=erF e c:=(if_pos h).symm
theorem erF_f{e c:Int}(h:¬ e=0):e=erF e c:=(if_neg h).symm
theorem Ju5{e:Int}{p q i:Nat}(h:e=0)(hi:i=q):i=plF e p q:=by rw [hi];exact Jvr h
def plR:Rr Unit→Nat
 | .ok _ p=>p
 | .er _ p=>p
def ecR:Rr Unit→Int
 | .ok _ _=>0
 | .er e _=>e
def Rr.u{α:Type}:Rr α→Rr Unit
 | .ok _ p=> .ok () p
 | .er e p=> .er e p
def Rr.run{α:Type}(t:Rr Unit)(f:Nat→Rr α):Rr α:=t.th fun _ p=>f p
def Rr.go{α:Type}(t:Rr Unit)(f:Nat→Rr α):Rr Unit:=(t.run f).u
def Rr.val{α:Type}(d:α):Rr α→α
 | .ok a _=>a
 | .er _ _=>d
def Rr.fine{α:Type}(s:List UInt8):Rr α→Prop
 | .ok _ p=>p≤s.length
 | .er e p=>e≠0∧p≤s.length
def Got{α:Type}(x:Rr α)(m:α):Prop:=∀ a q,x= .ok a q→m=a
abbrev blR(s:List UInt8)(t:Rr Unit):Rr Unit:=t.go fun p=>Rr.ok () (spM s p)
abbrev tkR(s:List UInt8)(t:Rr Unit)(c:Nat):Rr Unit:=t.go fun p=>tkM s p c
def pkS(s:List UInt8):Rr Unit→Nat
 | .ok _ p=>hdM s p
 | .er _ _=>0
section
variable {s:List UInt8} {t:Rr Unit} {c:Nat}
theorem zh(h:t.fine s):plR t≤s.length:=by cases t <;> first | exact h | exact h.2
theorem Jn(h:t.fine s):(blR s t).fine s:=by
 cases t with
 | ok u p=>exact Yh h
 | er e p=>exact h
theorem Yd(h:t.fine s):(tkR s t c).fine s:=by
 cases t with
 | ok u p=>
  show(Rr.u (tkM s p c)).fine s
  unfold tkM
  split
  ·rename_i hf;exact(Z9.1 hf).1
  ·exact⟨by decide,Yh h⟩
 | er e p=>exact h
theorem bl_pl(h:t.fine s):plF (ecR t) (plR t) (spM s (plR t))=plR (blR s t):=by
 cases t with
 | ok u p=>rfl
 | er e p=>exact if_neg h.1
theorem bl_ec:ecR t=ecR (blR s t):=by cases t <;> rfl
theorem pk_1(h:¬ ecR (blR s t)=0):(0:Int)=((pkS s t:Nat):Int):=by
 cases t with
 | ok u p=>exact absurd rfl h
 | er e p=>rfl
theorem pk_2(ht:t.fine s)(h:ecR (blR s t)=0)(h2:s.length≤plR (blR s t)):(0:Int)=((pkS s t:Nat):Int):=by
 cases t with
 | ok u p=>
  show(0:Int)=((hdM s p:Nat):Int)
  have h2:s.length≤spM s p:=h2;unfold hdM;rw [List.getD_eq_getElem?_getD,List.getElem?_eq_none h2];rfl
 | er e p=>exact absurd h ht.1
theorem pk_3(ht:t.fine s)(h:ecR (blR s t)=0):(((s.getD (plR (blR s t)) 0).toNat:Nat):Int)=((pkS s t:Nat):Int):=by
 cases t with
 | ok u p=>rfl
 | er e p=>exact absurd h ht.1
theorem Jox(ht:t.fine s)(h:¬ (pkS s t=c∧plR (blR s t) < s.length)):plF (ecR (blR s t)) (plR (blR s t)) (plR (blR s t))=plR (tkR s t c):=by
 cases t with
 | ok u p=>
  have:tkM s p c= .er 19 (spM s p):=if_neg (by rw [qx fun k=>h ⟨k.2,k.1⟩];decide)
  show plF 0 (spM s p) (spM s p)=plR (tkM s p c).u
  rw [this];rfl
 | er e p=>exact if_neg ht.1
theorem Jok(ht:t.fine s)(h:¬ (pkS s t=c∧plR (blR s t) < s.length)):erF (ecR (blR s t)) 19=ecR (tkR s t c):=by
 cases t with
 | ok u p=>
  have:tkM s p c= .er 19 (spM s p):=if_neg (by rw [qx fun k=>h ⟨k.2,k.1⟩];decide)
  show erF 0 19=ecR (tkM s p c).u
  rw [this];rfl
 | er e p=>exact if_neg ht.1
theorem Jtn(ht:t.fine s)(h:¬ ecR (blR s t)=0):plF (ecR (blR s t)) (plR (blR s t)) (plR (blR s t))=plR (tkR s t c):=by
 cases t with
 | ok u p=>exact absurd rfl h
 | er e p=>exact if_neg ht.1
theorem Ju7(ht:t.fine s)(h:¬ ecR (blR s t)=0):erF (ecR (blR s t)) 19=ecR (tkR s t c):=by
 cases t with
 | ok u p=>exact absurd rfl h
 | er e p=>exact if_neg ht.1
theorem Jvk(ht:t.fine s)(h0:ecR (blR s t)=0)(h:pkS s t=c)(h2:plR (blR s t) < s.length):plR (blR s t)+1=plR (tkR s t c):=by
 cases t with
 | ok u p=>
  have:tkM s p c= .ok () (spM s p+1):=if_pos (Jem h2 h)
  show spM s p+1=plR (tkM s p c).u
  rw [this];rfl
 | er e p=>exact absurd h0 ht.1
theorem Jvf(ht:t.fine s)(h0:ecR (blR s t)=0)(h:pkS s t=c)(h2:plR (blR s t) < s.length):ecR (blR s t)=ecR (tkR s t c):=by
 cases t with
 | ok u p=>
  have:tkM s p c= .ok () (spM s p+1):=if_pos (Jem h2 h)
  show(0:Int)=ecR (tkM s p c).u
  rw [this];rfl
 | er e p=>exact absurd h0 ht.1
end
end Go.Wf
namespace Go.Wf
open Go
def zM(m:List Nat)(u:Nat):List Nat:=m++(if u=0 then [] else [u])
theorem Jfl{N:Nat}(h:N < 4294967296):zM [] N=digs N:=by
 unfold zM
 split
 ·rename_i h0;rw [h0];rfl
 ·rename_i h0;rw [qa h0 h];rfl
theorem Jja{m:List Nat}{u N:Nat}(h:zM m u=digs N)(hu:0 < u)(hl:u < 4294967296):zM (m++[u % 4294967296]) (u / 4294967296)=digs N:=by
 rw [← h];unfold zM;rw [if_pos (by omega),if_neg (by omega),Nat.mod_eq_of_lt hl,List.append_nil]
theorem Jnz{m:List Nat}{u N:Nat}(h:zM m u=digs N)(hu:¬ 0 < u):m=digs N:=by
 rw [← h];unfold zM;rw [if_pos (by omega),List.append_nil]
theorem Jvg{N:Nat}(h:2 < (digs N).length):¬ N≤9223372036854775807:=by
 intro hN
 have:=Jw (v:=N) (n:=2) (by omega)
 omega
theorem Jrv{N k:Nat}(hk:k < (digs N).length):val ((digs N).drop (k+1)) * 4294967296+(digs N).getD k 0=val ((digs N).drop k):=by
 rw [List.drop_eq_getElem_cons hk,List.getD_eq_getElem?_getD,List.getElem?_eq_getElem hk]
 show val ((digs N).drop (k+1)) * 4294967296+(digs N)[k]=(digs N)[k]+4294967296 * val ((digs N).drop (k+1))
 omega
theorem Jt6{N k:Nat}(hl:(digs N).length≤2)(hk:k < (digs N).length):val ((digs N).drop (k+1)) < 4294967296:=by
 have h:=Zw ((digs N).drop (k+1)) (Vy (Zt N) _);rw [List.length_drop] at h
 have:(digs N).length - (k+1)≤1:=by omega
 have h2:=Nat.pow_le_pow_right (n:=4294967296) (by decide) this;omega
theorem Jte{N:Nat}:val ((digs N).drop 0)=N:=by rw [List.drop_zero,Jz]
theorem Jsv{d:List UInt8}{i:Nat}(hd:∀ c ∈ d,digB c=true)(hi:i≤d.length):(ofZ (Je (d.take i):Int)).mag.length≤i:=Jw (Jbq i d hd hi)
theorem Jnd{d:List UInt8}{i:Nat}(hi:i < d.length):ofZ (Je (d.take i) * 10+(((d.getD i 0).toNat - 48:Nat):Int))=ofZ (Je (d.take (i+1)):Int):=by rw [Vc hi];congr 1
theorem Jp6{d:List UInt8}{i:Nat}(hi:¬ i < d.length):ofZ (Je (d.take i):Int)=ofZ (Je d:Int):=by rw [List.take_of_length_le (by omega)]
theorem Jpp{d:List UInt8}{i:Nat}(hd:∀ c ∈ d,digB c=true)(hi:i≤d.length)(hl:d.length≤65536):(ofZ ((Je (d.take i):Int) * 10)).mag.length≤549755813888:=by
 have h:=Jbq i d hd hi
 have:(ofZ ((Je (d.take i):Int) * 10)).mag.length≤i+1:=by
  refine Jw ?_;rw [show((Je (d.take i):Int) * 10).natAbs=Je (d.take i) * 10 by omega,Nat.pow_succ];omega
 omega
theorem Jta{n:Nat}(h:n < 4294967296):(ofZ (n:Int)).mag.length≤549755813888:=by
 have:(ofZ (n:Int)).mag.length≤1:=Jw (by show n < 4294967296 ^ 1;omega)
 omega
abbrev dgR(s:List UInt8)(t:Rr Unit):Rr Unit:=t.go fun p=>dgsM s p
def dgV(s:List UInt8)(t:Rr Unit):List UInt8:=(t.run fun p=>dgsM s p).val []
section
variable {s:List UInt8} {t:Rr Unit} {i:Nat}
theorem qs(p:Nat)(h:p≤s.length):(dgsM s p).fine s:=by
 have:=V8 h
 unfold dgsM at this ⊢
 split
 ·exact⟨by decide,Yh h⟩
 ·rename_i hn;rw [if_neg hn] at this;exact this.2
theorem Z5{α:Type}{x:Rr α}(h:x.fine s):x.u.fine s:=by cases x <;> exact h
theorem qz{α:Type}{f:Nat→Rr α}(h:t.fine s)(hf:∀ p,p≤s.length→(f p).fine s):(t.go f).fine s:=by
 cases t with
 | ok u p=>exact Z5 (hf p h)
 | er e p=>exact h
theorem Xw(h:t.fine s):(dgR s t).fine s:=qz h qs
theorem Jdj{c:UInt8}(h:c ∈ dgV s t):digB c=true:=by
 unfold dgV at h
 cases hx:(t.run fun p=>dgsM s p) with
 | er e q=>rw [hx] at h;cases h
 | ok d q=>
  rw [hx] at h
  cases t with
  | er e p=>cases hx
  | ok u p=>exact Xe (p:=p) hx c h
theorem Jby:(dgV s t).length≤s.length:=by
 unfold dgV
 cases hx:(t.run fun p=>dgsM s p) with
 | er e q=>exact Nat.zero_le _
 | ok d q=>
  cases t with
  | er e p=>cases hx
  | ok u p=>exact K8 (p:=p) hx
variable (ht:t.fine s) (h0:ecR (blR s t)=0→digL s i=[]) (hR:ecR (blR s t)=0→i+(digL s i).length=plR (blR s t)+(digL s (plR (blR s t))).length) (hn:¬ ecR (blR s t)=0→i=plR (blR s t))
include ht h0 hR hn
theorem Jlb(hi:i=plR (blR s t)):dgV s t=[]∧plF (ecR (blR s t)) i (plR (blR s t))=plR (dgR s t)∧erF (ecR (blR s t)) 19=ecR (dgR s t):=by
 cases t with
 | er e p=>exact⟨rfl,by rw [hi];exact(by unfold plF;split <;> rfl),if_neg ht.1⟩
 | ok u p=>
  have hi:i=spM s p:=hi;have hd:dgsM s p= .er 19 i:=Js4 (h0 rfl) (hR rfl) hi;refine⟨by show(Rr.val [] (dgsM s p))=[];rw [hd];rfl,?_,?_⟩
  ·show plF 0 i (spM s p)=plR (dgsM s p).u
   rw [hd,hi];rfl
  ·show erF 0 19=ecR (dgsM s p).u
   rw [hd];rfl
theorem Jdn(hi:¬ i=plR (blR s t)):(s.take i).drop (plR (blR s t))=dgV s t∧i=plR (dgR s t)∧ecR (blR s t)=ecR (dgR s t):=by
 cases t with
 | er e p=>exact absurd (hn ht.1) hi
 | ok u p=>
  have hi:¬ i=spM s p:=hi;have hd:dgsM s p= .ok ((s.take i).drop (spM s p)) i:=Jsd (h0 rfl) (hR rfl) hi;refine⟨by show _=(Rr.val [] (dgsM s p));rw [hd];rfl,?_,?_⟩
  ·show i=plR (dgsM s p).u
   rw [hd];rfl
  ·show(0:Int)=ecR (dgsM s p).u
   rw [hd];rfl
end
abbrev inR(s:List UInt8)(t:Rr Unit):Rr Unit:=t.go fun p=>intM s p
def inV(s:List UInt8)(t:Rr Unit):Int:=(t.run fun p=>intM s p).val 0
section
variable {s:List UInt8} {t:Rr Unit}
theorem Jfx(p:Nat)(h:p≤s.length):(intM s p).fine s:=by
 unfold intM;have h1:=qs (s:=s) _ (Yu (c:=45) h)
 cases hd:dgsM s (fpM s p 45) with
 | er e q=>rw [hd] at h1;exact h1
 | ok d q=>
  rw [hd] at h1;rw [Rr.th_ok]
  split
  ·exact⟨by decide,Yh h⟩
  ·exact h1
theorem ye(h:t.fine s):(inR s t).fine s:=qz h Jfx
theorem Q1: -1000000≤inV s t∧inV s t≤1000000:=by
 unfold inV
 cases hx:(t.run fun p=>intM s p) with
 | er e q=>show -1000000≤(0:Int)∧(0:Int)≤1000000;omega
 | ok d q=>
  cases t with
  | er e p=>cases hx
  | ok u p=>exact Xy (p:=p) hx
end
end Go.Wf
namespace Go.Wf
open Go
theorem Jwp{z:Int}(h:0≤z):(ofZ z).neg=false:=decide_eq_false (by omega)
theorem Jwb{z:Int}(h:0≤z)(hl:2 < (ofZ z).mag.length):¬ z≤9223372036854775807:=fun hz=>Jvg (N:=z.natAbs) hl (by omega)
theorem Jc1{z:Int}(h:0≤z):((val ((ofZ z).mag.drop 0):Nat):Int)=z:=by
 have:val ((ofZ z).mag.drop 0)=z.natAbs:=Jte
 rw [this];omega
theorem Jrp{z:Int}{k:Nat}(hl:(ofZ z).mag.length≤2)(hk:k < (ofZ z).mag.length):val ((ofZ z).mag.drop (k+1)) < 4294967296:=Jt6 (N:=z.natAbs) hl hk
theorem Jm2{z:Int}{k:Nat}(hk:k < (ofZ z).mag.length):val ((ofZ z).mag.drop (k+1)) * 4294967296+(ofZ z).mag.getD k 0=val ((ofZ z).mag.drop k):=Jrv (N:=z.natAbs) hk
def wiR(d:List UInt8)(q:Nat)(t:Rr Unit):Rr Unit:=t.go fun p=>if 1000000 < Je d then Rr.er (α:=Unit) 2 q else .ok () p
def wiV(d:List UInt8)(mi:Bool):Int:=if 1000000 < Je d then 0 else if mi then -(Je d:Int) else(Je d:Int)
section
variable {d:List UInt8} {q:Nat} {t:Rr Unit} {s:List UInt8} {mi:Bool} {n:Int}
theorem vx(hn:n=if(Je d:Int)≤9223372036854775807 then(Je d:Int) else 0)(h:¬ (Je d:Int)≤9223372036854775807∨1000000 < n):1000000 < Je d:=by
 rcases h with h | h
 ·omega
 ·rw [hn] at h;split at h <;> omega
theorem Jhi(h:(Je d:Int)≤9223372036854775807)(h2:¬ 1000000 < (if(Je d:Int)≤9223372036854775807 then(Je d:Int) else 0)):¬ 1000000 < Je d:=by rw [if_pos h] at h2;omega
theorem Ju8(h:(Je d:Int)≤9223372036854775807)(h2:¬ 1000000 < Je d)(hm:mi=true): -(if(Je d:Int)≤9223372036854775807 then(Je d:Int) else 0)=wiV d mi:=by unfold wiV;rw [if_pos h,if_neg h2,if_pos hm]
theorem Jxc(h:(Je d:Int)≤9223372036854775807)(h2:¬ 1000000 < Je d)(hm:mi=false):(if(Je d:Int)≤9223372036854775807 then(Je d:Int) else 0)=wiV d mi:=by unfold wiV;rw [if_pos h,if_neg h2,if_neg (by rw [hm];decide)]
theorem Jo3(ht:t.fine s)(h:1000000 < Je d):plF (ecR t) (plR t) q=plR (wiR d q t):=by
 cases t with
 | ok u p=>show q=plR (Rr.u (if 1000000 < Je d then Rr.er (α:=Unit) 2 q else .ok () p));rw [if_pos h];rfl
 | er e p=>exact if_neg ht.1
theorem Jn5(ht:t.fine s)(h:1000000 < Je d):erF (ecR t) 2=ecR (wiR d q t):=by
 cases t with
 | ok u p=>show(2:Int)=ecR (Rr.u (if 1000000 < Je d then Rr.er (α:=Unit) 2 q else .ok () p));rw [if_pos h];rfl
 | er e p=>exact if_neg ht.1
theorem wi_t(h:¬ 1000000 < Je d):t=wiR d q t:=by
 cases t with
 | ok u p=>show _=Rr.u (if 1000000 < Je d then Rr.er (α:=Unit) 2 q else .ok () p);rw [if_neg h];rfl
 | er e p=>rfl
end
section
variable {s:List UInt8} {t:Rr Unit}
def in1(s:List UInt8)(t:Rr Unit):Rr Unit:=t.go fun p=>Rr.ok () (fpM s p 45)
theorem in1_t(ht:t.fine s)(h:pkS s (blR s t)=45):tkR s (blR s (blR s t)) 45=in1 s t:=by
 cases t with
 | er e p=>rfl
 | ok u p=>
  have h1:hdM s p=45:=by rw [← Jen];exact h
  have h2:folB s p 45=true:=Jem (by
   rcases Nat.lt_or_ge (spM s p) s.length with h3 | h3
   ·exact h3
   ·unfold hdM at h1;rw [List.getD_eq_getElem?_getD,List.getElem?_eq_none h3] at h1;cases h1) h1
  show Rr.u (tkM s (spM s (spM s p)) 45)= .ok () (fpM s p 45)
  rw [vb,← fp_t h2];unfold tkM;rw [xg,h2,if_pos rfl,vb];rfl
theorem in1_f(ht:t.fine s)(h:¬ pkS s (blR s t)=45):blR s (blR s t)=in1 s t:=by
 cases t with
 | er e p=>rfl
 | ok u p=>
  have h1:¬ hdM s p=45:=fun e=>h (by show hdM s (spM s p)=45;rw [Jen];exact e)
  show Rr.ok () (spM s (spM s p))= .ok () (fpM s p 45)
  rw [vb,← fp_f (Jcf h1)]
theorem qj(ht:t.fine s):(in1 s t).fine s:=qz ht fun p hp=>Yu hp
theorem in_mi(h:pkS s (blR s t)=45)(p:Nat)(hp:t= .ok () p):folB s p 45=true:=by
 subst hp;have h1:hdM s p=45:=by rw [← Jen];exact h
 exact Jem (by
  rcases Nat.lt_or_ge (spM s p) s.length with h3 | h3
  ·exact h3
  ·unfold hdM at h1;rw [List.getD_eq_getElem?_getD,List.getElem?_eq_none h3] at h1;cases h1) h1
theorem in_e(ht:t.fine s)(h:¬ ecR (dgR s (in1 s t))=0):dgR s (in1 s t)=inR s t∧0=inV s t:=by
 cases t with
 | er e p=>exact⟨rfl,rfl⟩
 | ok u p=>
  unfold inV
  show Rr.u (dgsM s (fpM s p 45))=Rr.u (intM s p)∧0=Rr.val 0 (intM s p)
  unfold intM;have h:¬ ecR (Rr.u (dgsM s (fpM s p 45)))=0:=h
  cases hd:dgsM s (fpM s p 45) with
  | er e q=>exact⟨rfl,rfl⟩
  | ok d q=>rw [hd] at h;exact absurd rfl h
theorem in_o{b:Bool}(ht:t.fine s)(h:ecR (dgR s (in1 s t))=0)(hb:decide (pkS s (blR s t)=45)=b):wiR (dgV s (in1 s t)) (plR (blR s t)) (dgR s (in1 s t))=inR s t∧wiV (dgV s (in1 s t)) b=inV s t:=by
 cases t with
 | er e p=>exact absurd h ht.1
 | ok u p=>
  have hf:folB s p 45=b:=by
   rw [← hb]
   cases hx:decide (pkS s (blR s (Rr.ok u p))=45) with
   | true=>exact in_mi (t:= .ok u p) (of_decide_eq_true hx) p rfl
   | false=>exact Jcf fun e=>of_decide_eq_false hx (by show hdM s (spM s p)=45;rw [Jen];exact e)
  have h:ecR (Rr.u (dgsM s (fpM s p 45)))=0:=h;have hgo:=qs (s:=s) (fpM s p 45) (Yu ht);unfold inV dgV
  show wiR (Rr.val [] (dgsM s (fpM s p 45))) (spM s p) (Rr.u (dgsM s (fpM s p 45)))=Rr.u (intM s p)∧wiV (Rr.val [] (dgsM s (fpM s p 45))) b=Rr.val 0 (intM s p)
  unfold intM
  cases hd:dgsM s (fpM s p 45) with
  | er e q=>rw [hd] at h hgo;exact absurd h hgo.1
  | ok d q=>
   rw [Rr.th_ok,hf]
   show Rr.u (if 1000000 < Je d then Rr.er (α:=Unit) 2 (spM s p) else .ok () q)=_∧wiV d b=_
   unfold wiV
   split
   ·exact⟨rfl,rfl⟩
   ·cases b <;> exact⟨rfl,rfl⟩
end
end Go.Wf
namespace Go.Wf
open Go
section
variable {α β:Type} {t:Rr Unit} {f:Nat→Rr α} {g:α→Nat→Rr β} {x:α} {y:β} {s:List UInt8}
theorem Xc(h:Got (t.run f) x):(t.go f).go (g x)=t.go fun p=>(f p).th g:=by
 cases t with
 | er e p=>rfl
 | ok u p=>
  have h:Got (f p) x:=h
  show(Rr.u (f p)).go (g x)=Rr.u ((f p).th g)
  cases hf:f p with
  | er e q=>rfl
  | ok a q=>rw [h a q hf];rfl
theorem Got.bind(h:Got (t.run f) x)(k:Got ((t.go f).run (g x)) y):Got (t.run fun p=>(f p).th g) y:=by
 cases t with
 | er e p=>intro a q e;cases e
 | ok u p=>
  have h:Got (f p) x:=h;have k:Got ((Rr.u (f p)).run (g x)) y:=k
  show Got ((f p).th g) y
  cases hf:f p with
  | er e q=>intro a q e;cases e
  | ok a q=>rw [hf,h a q hf] at k;exact k
theorem Got.pure:Got (t.run fun p=>Rr.ok x p) x:=by
 intro a q e
 cases t with
 | er e p=>cases e
 | ok u p=>cases e;rfl
theorem Got.unit{f:Nat→Rr Unit}:Got (t.run f) ():=fun a _ _=>rfl
theorem Got.val{d:α}:Got (t.run f) ((t.run f).val d):=by intro a q e;rw [e];rfl
theorem Jkm:t.go (fun p=>Rr.ok x p)=t:=by cases t <;> rfl
theorem Got.mono{z:Rr α}{z':Rr α}(h:Got z x)(e:z'=z):Got z' x:=by rw [e];exact h
end
abbrev flR(t:Rr Unit)(q:Nat)(c:Int):Rr Unit:=t.go fun _=>Rr.er (α:=Unit) c q
abbrev opR(s:List UInt8)(o:Nat)(t:Rr Unit)(c:Nat):Rr Unit:=t.go fun p=>K6 s o p c
def opB(c o:Nat):Nat:=if c=40 then o+1 else o
section
variable {s:List UInt8} {t:Rr Unit} {c o q:Nat} {e:Int}
theorem fl_pl(h:t.fine s):plF (ecR t) (plR t) q=plR (flR t q e):=by
 cases t with
 | ok u p=>rfl
 | er e p=>exact if_neg h.1
theorem fl_ec(h:t.fine s):erF (ecR t) e=ecR (flR t q e):=by
 cases t with
 | ok u p=>rfl
 | er e p=>exact if_neg h.1
theorem Jdr(h:t.fine s)(he:e≠0)(hq:q≤s.length):(flR t q e).fine s:=by
 cases t with
 | ok u p=>exact⟨he,hq⟩
 | er e p=>exact h
theorem Jk0(o c p:Nat)(h:p≤s.length):(K6 s o p c).fine s:=by
 have:=Jio (o:=o) (c:=c) h
 unfold K6 opnM tkM at this ⊢
 split
 ·rename_i hc
  rw [if_pos hc] at this
  split
  ·rename_i hf
   rw [if_pos hf] at this
   split
   ·exact⟨by decide,Yh h⟩
   ·exact(Z9.1 hf).1
  ·exact⟨by decide,Yh h⟩
 ·split
  ·rename_i hf;exact(Z9.1 hf).1
  ·exact⟨by decide,Yh h⟩
theorem Qe(h:t.fine s):(opR s o t c).fine s:=qz h fun p hp=>Jk0 o c p hp
theorem Jlc:tkR s (blR s t) c=tkR s t c:=by
 cases t with
 | er e p=>rfl
 | ok u p=>
  show Rr.u (tkM s (spM s p) c)=Rr.u (tkM s p c)
  unfold tkM;rw [xg,vb]
theorem op_A(hc:¬ c=40):tkR s (blR s t) c=opR s o t c:=by
 rw [Jlc]
 cases t with
 | er e p=>rfl
 | ok u p=>show Rr.u (tkM s p c)=Rr.u (K6 s o p c);unfold K6;rw [if_neg hc]
theorem op_B(hc:c=40)(h:pkS s (blR s t)=c→¬ o=64):tkR s (blR s (blR s t)) c=opR s o t c:=by
 rw [Jlc,Jlc];subst hc
 cases t with
 | er e p=>rfl
 | ok u p=>
  have h:hdM s (spM s p)=40→¬ o=64:=h
  show Rr.u (tkM s p 40)=Rr.u (K6 s o p 40)
  unfold K6 tkM opnM;rw [if_pos rfl]
  cases hf:folB s p 40 with
  | false=>rfl
  | true=>
   rw [if_pos rfl,if_pos rfl,if_neg (h (by rw [Jen];exact(Z9.1 hf).2))]
theorem op_C(hc:c=40)(h:pkS s (blR s t)=c)(ho:o=64):tkR s (flR (blR s (blR s t)) (plR (blR s (blR s t))) 7) c=opR s o t c:=by
 subst hc
 cases t with
 | er e p=>rfl
 | ok u p=>
  have h1:hdM s p=40:=by rw [← Jen];exact h
  have h2:folB s p 40=true:=Jem (by
   rcases Nat.lt_or_ge (spM s p) s.length with h3 | h3
   ·exact h3
   ·unfold hdM at h1;rw [List.getD_eq_getElem?_getD,List.getElem?_eq_none h3] at h1;cases h1) h1
  show Rr.er 7 (spM s (spM s p))=Rr.u (K6 s o p 40)
  unfold K6 opnM;rw [if_pos rfl,h2,if_pos rfl,if_pos ho,vb];rfl
theorem Jl4(h:c=40):o+1=opB c o:=(if_pos h).symm
theorem Jm8(h:¬ c=40):o=opB c o:=(if_neg h).symm
def opC(c o:Nat):Nat:=if c=41 then o - 1 else o
theorem opC_t(h:c=41):o - 1=opC c o:=(if_pos h).symm
theorem opC_f(h:¬ c=41):o=opC c o:=(if_neg h).symm
theorem opBC{a b:Nat}(h:(a=40∧b=41)∨(a=91∧b=93)):opC b (opB a o)=o:=by rcases h with ⟨rfl,rfl⟩ | ⟨rfl,rfl⟩ <;> rfl
end
abbrev isF(s:List UInt8)(o a b p:Nat):Rr (List Int):=(K6 s o p a).th fun _ p=>Kn s b p
abbrev isR(s:List UInt8)(o:Nat)(t:Rr Unit)(a b:Nat):Rr Unit:=t.go (isF s o a b)
def msR(s:List UInt8):Rr Unit→Nat
 | .ok _ q=>s.length+2 - q
 | .er _ _=>0
section
variable {s:List UInt8} {t τ:Rr Unit} {a b o k:Nat} {l:List Int} {R:Rr (List Int)}
theorem Jru:msR s t≤s.length+2:=by cases t <;> simp only [msR] <;> omega
theorem is_go:t.run (isF s o a b)=(inR s (opR s o t a)).run fun q=>Xd s b (s.length+1) [inV s (opR s o t a)] q:=by
 cases t with
 | er e p=>rfl
 | ok u p=>
  show(K6 s o p a).th (fun _ p=>Kn s b p)=(inR s (Rr.u (K6 s o p a))).run fun q=>Xd s b (s.length+1) [inV s (Rr.u (K6 s o p a))] q
  cases K6 s o p a with
  | er e q=>rfl
  | ok u q=>
   show Kn s b q=(Rr.u (intM s q)).run fun q'=>Xd s b (s.length+1) [Rr.val 0 (intM s q)] q'
   unfold Kn
   cases intM s q <;> rfl
theorem Jg0{c:Nat}(hc:0 < c)(h:pkS s τ=c):∃ q,τ= .ok () q∧folB s q c=true:=by
 cases τ with
 | er e p=>have h:0=c:=h;omega
 | ok u q=>
  have h:hdM s q=c:=h;refine⟨q,rfl,Jem ?_ h⟩
  rcases Nat.lt_or_ge (spM s q) s.length with h3 | h3
  ·exact h3
  ·unfold hdM at h;rw [List.getD_eq_getElem?_getD,List.getElem?_eq_none h3] at h;have h:0=c:=h;omega
theorem Jht{q c:Nat}(hf:folB s q c=true):tkR s (blR s (.ok () q)) c= .ok () (spM s q+1):=by
 rw [Jlc]
 show Rr.u (tkM s q c)=_
 unfold tkM;rw [if_pos hf];rfl
theorem Jaw(hR:R=τ.run fun q=>Xd s b k l q)(hk:ecR τ=0→s.length < plR τ+k)(hf:τ.fine s)(hp:pkS s τ=44):
  R=(inR s (tkR s (blR s τ) 44)).run (fun q=>Xd s b (k - 1) (l++[inV s (tkR s (blR s τ) 44)]) q)∧msR s (inR s (tkR s (blR s τ) 44)) < msR s τ∧(ecR (inR s (tkR s (blR s τ) 44))=0→s.length < plR (inR s (tkR s (blR s τ) 44))+(k - 1)):=by
 obtain⟨q,rfl,hfo⟩:=Jg0 (by decide) hp;have hq:q≤s.length:=hf;have hk:s.length < q+k:=hk rfl;obtain⟨k,rfl⟩:∃ j,k=j+1:=⟨k - 1,by omega⟩;rw [Jht hfo];have h1:=(Z9.1 hfo).1;have h2:=Yc (s:=s) (p:=spM s q+1) h1;have h3:=K7 (s:=s) (p:=q);have hR:R=Xd s b (k+1) l q:=hR;rw [hR,Xd,if_pos hfo];have e1:inR s (Rr.ok () (spM s q+1))=(intM s (spM s q+1)).u:=rfl;have e2:inV s (Rr.ok () (spM s q+1))=Rr.val 0 (intM s (spM s q+1)):=rfl;have e4:msR s (Rr.ok () q)=s.length+2 - q:=rfl;rw [e1,e2,e4,Nat.add_sub_cancel];have hg:=Jfx (s:=s) (spM s q+1) h1
 cases hi:intM s (spM s q+1) with
 | er e r=>rw [hi] at hg;exact⟨rfl,by show 0 < _;omega,fun h=>absurd h hg.1⟩
 | ok i r=>
  rw [hi] at h2;have h4:=h2.1;have h5:=h2.2;exact⟨rfl,by show s.length+2 - r < s.length+2 - q;omega,fun _=>by show s.length < r+k;omega⟩
theorem Jgn(hR:R=τ.run fun q=>Xd s b k l q)(hk:ecR τ=0→s.length < plR τ+k)(hf:τ.fine s)(hp:¬ pkS s τ=44):tkR s (blR s τ) b=R.u∧Got R l:=by
 rw [Jlc]
 cases τ with
 | er e p=>rw [hR];exact⟨rfl,fun a q e=>by cases e⟩
 | ok u q=>
  have hk:s.length < q+k:=hk rfl;have hq:q≤s.length:=hf;obtain⟨k,rfl⟩:∃ j,k=j+1:=⟨k - 1,by omega⟩;have hR:R=Xd s b (k+1) l q:=hR;rw [hR,Xd,if_neg (by rw [Jcf hp];decide)]
  show Rr.u (tkM s q b)=_∧_
  cases tkM s q b with
  | er e r=>exact⟨rfl,fun a q e=>by cases e⟩
  | ok u r=>exact⟨rfl,fun a q e=>by cases e;rfl⟩
end
end Go.Wf
namespace Go.Wf
open Go
section
variable {α β γ:Type} {t:Rr Unit} {f:Nat→Rr α} {g:Nat→Rr β} {s:List UInt8} {lo c o:Nat}
theorem Jxj:(t.go f).run g=t.run fun p=>(f p).th fun _ q=>g q:=by
 cases t with
 | er e p=>rfl
 | ok u p=>
  show(Rr.u (f p)).run g=(f p).th fun _ q=>g q
  cases f p <;> rfl
theorem okr(h:∃ q,t.go f= .ok () q):∃ p,t= .ok () p:=by
 cases t with
 | ok u p=>exact⟨p,rfl⟩
 | er e p=>obtain⟨q,h⟩:=h;cases h
def Lo(lo:Nat)(t:Rr Unit):Prop:=∀ p,t= .ok () p→lo≤p
theorem Lo.go{d:Nat}(h:Lo lo t)(ht:t.fine s)(hf:∀ p,p≤s.length→(f p).fw s (p+d)):Lo (lo+d) (t.go f):=by
 intro q e
 cases t with
 | er e2 p=>cases e
 | ok u p=>
  have e:Rr.u (f p)= .ok () q:=e;have h1:=hf p ht;have h2:=h p rfl
  cases hx:f p with
  | er e2 r=>rw [hx] at e;cases e
  | ok a r=>rw [hx] at e h1;cases e;have:=h1.1;omega
theorem Lo.weak{lo lo':Nat}(h:Lo lo' t)(hl:lo≤lo'):Lo lo t:=fun p e=>Nat.le_trans hl (h p e)
theorem Jau(h:Lo lo t)(ht:t.fine s):Lo lo (blR s t):=Lo.go (d:=0) h ht fun p hp=>⟨K7,Yh hp⟩
theorem Jbr(h:Lo lo t)(ht:t.fine s):Lo lo (tkR s t c):=Lo.go (d:=0) h ht fun p hp=>Rr.fw_mono (Ka hp) (by omega)
theorem Jpz(h:Lo lo t)(ht:t.fine s):Lo (lo+1) (opR s o t c):=Lo.go (d:=1) h ht fun p hp=>Jio hp
theorem lo_in(h:Lo lo t)(ht:t.fine s):Lo lo (inR s t):=Lo.go (d:=0) h ht fun p hp=>Yc hp
end
section
variable {s:List UInt8} {S:Nat→Nat→Rr GExpr} {t:Rr Unit} {o o2:Nat} {op:Int} {l:List Int} {m m2:GExpr}
theorem ls_R(h:Got (t.run (isF s o 40 41)) l):isR s o t 40 41=t.go (Vr s op o)∧Got (t.run (Vr s op o)) (eOp op l []):=by
 have e:∀ p,Vr s op o p=(isF s o 40 41 p).th fun l q=> .ok (eOp op l []) q:=fun p=>(Rr.th_th _ _ _).symm;have e2:Vr s op o=fun p=>(isF s o 40 41 p).th fun l q=> .ok (eOp op l []) q:=funext e;rw [e2];exact⟨by rw [← Xc h];exact Jkm.symm,Got.bind h Got.pure⟩
abbrev twS(s:List UInt8)(o:Nat)(t:Rr Unit):Rr Unit:=tkR s (inR s (opR s o t 40)) 41
theorem tw_R(h:Got ((twS s o t).run (isF s o2 91 93)) l):isR s o2 (twS s o t) 91 93=t.go (twoM s op o)∧Got (t.run (twoM s op o)) (eOp op (inV s (opR s o t 40)::l) []):=by
 have hv:Got ((opR s o t 40).run fun p=>intM s p) (inV s (opR s o t 40)):=Got.val;have e0:opR s o t 40=t.go (opnM s o):=rfl;have hl:Got (((twS s o t).go fun p=>tkM s p 91).run fun p=>Kn s 93 p) l:=by rw [Jxj];exact h
 refine⟨?_,?_⟩
 ·have e1:t.go (twoM s op o)=(opR s o t 40).go (fun p1=>(intM s p1).th fun n p2=>(tkM s p2 41).th fun _ p3=>(tkM s p3 91).th fun _ p4=>(Kn s 93 p4).th fun l p5=> .ok (eOp op (n::l) []) p5):=(Xc (f:=opnM s o) (x:=()) (g:=fun _ p1=>(intM s p1).th fun n p2=>(tkM s p2 41).th fun _ p3=>(tkM s p3 91).th fun _ p4=>(Kn s 93 p4).th fun l p5=>Rr.ok (eOp op (n::l) []) p5) Got.unit).symm;rw [e1,← Xc hv,← Xc (f:=fun p2=>tkM s p2 41) (x:=()) (g:=fun _ p3=>(tkM s p3 91).th fun _ p4=>(Kn s 93 p4).th fun l p5=>Rr.ok (eOp op (_::l) []) p5) Got.unit,← Xc (f:=fun p3=>tkM s p3 91) (x:=()) (g:=fun _ p4=>(Kn s 93 p4).th fun l p5=>Rr.ok (eOp op (_::l) []) p5) Got.unit,← Xc hl,Jkm]
  exact(Xc (t:=twS s o t) (f:=fun p3=>tkM s p3 91) (x:=()) (g:=fun _ p4=>Kn s 93 p4) Got.unit).symm
 ·exact Got.bind (f:=opnM s o) (x:=()) (g:=fun _ p1=>(intM s p1).th fun n p2=>(tkM s p2 41).th fun _ p3=>(tkM s p3 91).th fun _ p4=>(Kn s 93 p4).th fun l p5=> .ok (eOp op (n::l) []) p5) Got.unit
   (Got.bind hv (Got.bind (f:=fun p2=>tkM s p2 41) (x:=()) (g:=fun _ p3=>(tkM s p3 91).th fun _ p4=>(Kn s 93 p4).th fun l p5=> .ok (eOp op (_::l) []) p5) Got.unit
    (Got.bind (f:=fun p3=>tkM s p3 91) (x:=()) (g:=fun _ p4=>(Kn s 93 p4).th fun l p5=> .ok (eOp op (_::l) []) p5) Got.unit (Got.bind hl Got.pure))))
abbrev suR(S:Nat→Nat→Rr GExpr)(o:Nat)(t:Rr Unit):Rr Unit:=t.go (S o)
theorem sr_R(h:Got ((opR s o t 40).run (S (o+1))) m):tkR s (suR S (o+1) (opR s o t 40)) 41=t.go (serM s S o)∧Got (t.run (serM s S o)) (eOp 17 [] [m]):=by
 refine⟨?_,?_⟩
 ·have e1:t.go (serM s S o)=(opR s o t 40).go (fun p1=>(S (o+1) p1).th fun a p2=>(tkM s p2 41).th fun _ p3=> .ok (eOp 17 [] [a]) p3):=(Xc (f:=opnM s o) (x:=()) (g:=fun _ p1=>(S (o+1) p1).th fun a p2=>(tkM s p2 41).th fun _ p3=>Rr.ok (eOp 17 [] [a]) p3) Got.unit).symm;rw [e1,← Xc h,← Xc (f:=fun p2=>tkM s p2 41) (x:=()) (g:=fun _ p3=>Rr.ok (eOp 17 [] [m]) p3) Got.unit,Jkm]
 ·exact Got.bind (f:=opnM s o) (x:=()) (g:=fun _ p1=>(S (o+1) p1).th fun a p2=>(tkM s p2 41).th fun _ p3=> .ok (eOp 17 [] [a]) p3) Got.unit
   (Got.bind h (Got.bind (f:=fun p2=>tkM s p2 41) (x:=()) (g:=fun _ p3=> .ok (eOp 17 [] [m]) p3) Got.unit Got.pure))
theorem pa_R(h:Got ((opR s o t 40).run (S (o+1))) m):tkR s (suR S (o+1) (opR s o t 40)) 41=t.go (fun p=>(opnM s o p).th fun _ p1=>(S (o+1) p1).th fun a p2=>(tkM s p2 41).th fun _ p3=> .ok (a,false) p3)∧
  Got (t.run (fun p=>(opnM s o p).th fun _ p1=>(S (o+1) p1).th fun a p2=>(tkM s p2 41).th fun _ p3=> .ok (a,false) p3)) (m,false):=by
 refine⟨?_,?_⟩
 ·have e1:t.go (fun p=>(opnM s o p).th fun _ p1=>(S (o+1) p1).th fun a p2=>(tkM s p2 41).th fun _ p3=>Rr.ok (a,false) p3)=(opR s o t 40).go (fun p1=>(S (o+1) p1).th fun a p2=>(tkM s p2 41).th fun _ p3=> .ok (a,false) p3):=(Xc (f:=opnM s o) (x:=()) (g:=fun _ p1=>(S (o+1) p1).th fun a p2=>(tkM s p2 41).th fun _ p3=>Rr.ok (a,false) p3) Got.unit).symm;rw [e1,← Xc h,← Xc (f:=fun p2=>tkM s p2 41) (x:=()) (g:=fun _ p3=>Rr.ok (m,false) p3) Got.unit,Jkm]
 ·exact Got.bind (f:=opnM s o) (x:=()) (g:=fun _ p1=>(S (o+1) p1).th fun a p2=>(tkM s p2 41).th fun _ p3=> .ok (a,false) p3) Got.unit
   (Got.bind h (Got.bind (f:=fun p2=>tkM s p2 41) (x:=()) (g:=fun _ p3=> .ok (m,false) p3) Got.unit Got.pure))
end
theorem Yo{α:Type}{s:List UInt8}{x:Rr α}(h:x.u.fine s):x.fine s:=by cases x <;> exact h
theorem Xa{α:Type}{s:List UInt8}{t X:Rr Unit}{f:Nat→Rr α}(e:X=t.go f)(h:X.fine s):(t.run f).fine s:=by rw [e] at h;exact Yo h
end Go.Wf
namespace Go.Wf
open Go
theorem Yn{α β:Type}{t:Rr Unit}{f:Nat→Rr α}{g:α→Nat→Rr β}{x:α}(h:Got (t.run f) x):(t.run fun p=>(f p).th g)=(t.go f).run (g x):=by
 cases t with
 | er e p=>rfl
 | ok u p=>
  have h:Got (f p) x:=h
  show(f p).th g=(Rr.u (f p)).run (g x)
  cases hf:f p with
  | er e q=>rfl
  | ok a q=>rw [h a q hf];rfl
section
variable (s:List UInt8) (S:Nat→Nat→Rr GExpr) (op n:Int) (o:Nat)
def oneT:Nat→List GExpr→Nat→Rr GExpr
 | 0,l,q=>(tkM s q 41).th fun _ r=> .ok (eOp op [n] l) r
 | k+1,l,q=>(tkM s q 44).th fun _ q=>(S (o+1) q).th fun a q=>oneT k (l++[a]) q
end
section
variable {s:List UInt8} {S:Nat→Nat→Rr GExpr} {op n:Int} {o k ar lo B:Nat} {t τ:Rr Unit} {l:List GExpr} {m:GExpr} {R:Rr GExpr}
theorem one_T(two:Bool):oneM s S op two o=fun p=>(opnM s o p).th fun _ p1=>(intM s p1).th fun n p2=>oneT s S op n o (if two then 2 else 1) [] p2:=by
 funext p
 cases two <;> rfl
theorem Jm7(har:ar=1∨ar=2):t.run (oneM s S op (decide (ar=2)) o)=(inR s (opR s o t 40)).run (oneT s S op (inV s (opR s o t 40)) o ar []):=by
 rw [one_T,show(if decide (ar=2) then 2 else 1)=ar by rcases har with rfl | rfl <;> rfl];have hv:Got ((opR s o t 40).run fun p=>intM s p) (inV s (opR s o t 40)):=Got.val;rw [Yn (f:=opnM s o) (x:=()) (g:=fun _ p1=>(intM s p1).th fun n p2=>oneT s S op n o ar [] p2) Got.unit];exact Yn hv
theorem Jsa(hR:R=τ.run (oneT s S op n o (k+1) l))(hg:Got ((tkR s τ 44).run (S (o+1))) m):R=(suR S (o+1) (tkR s τ 44)).run (oneT s S op n o k (l++[m])):=by
 rw [hR];have e:oneT s S op n o (k+1) l=fun q=>(tkM s q 44).th fun _ q=>(S (o+1) q).th fun a q=>oneT s S op n o k (l++[a]) q:=rfl;rw [e,Yn (f:=fun q=>tkM s q 44) (x:=()) (g:=fun _ q=>(S (o+1) q).th fun a q=>oneT s S op n o k (l++[a]) q) Got.unit];exact Yn hg
theorem Jgp(hR:R=τ.run (oneT s S op n o 0 l)):tkR s τ 41=R.u∧Got R (eOp op [n] l):=by
 rw [hR];have e:oneT s S op n o 0 l=fun q=>(tkM s q 41).th fun _ r=> .ok (eOp op [n] l) r:=rfl;rw [e,Yn (f:=fun q=>tkM s q 41) (x:=()) (g:=fun _ r=>Rr.ok (eOp op [n] l) r) Got.unit];refine⟨?_,Got.pure⟩
 show tkR s τ 41=((tkR s τ 41).run fun r=>Rr.ok (eOp op [n] l) r).u
 exact Jkm.symm
theorem Jfj{F:Nat→Rr GExpr}(hf:τ.fine s)(he:¬ ecR τ=0)(hR:R=τ.run F):tkR s τ 41=R.u∧Got R m:=by
 cases τ with
 | ok u p=>exact absurd rfl he
 | er e p=>rw [hR];exact⟨rfl,fun a q e=>by cases e⟩
theorem lo_su(hS:∀ o p,p≤s.length→(S o p).fw s p)(h:Lo lo t)(ht:t.fine s):Lo lo (suR S o t):=Lo.go (d:=0) h ht fun p hp=>hS o p hp
def wdM(s:List UInt8)(S:Nat→Nat→Rr GExpr)(o p:Nat):Rr GExpr:=
 if Jy (Jr s p) then(if 1000000 < Je ((Jr s p).drop 1) then .er 2 (p+1) else .ok (eOp 2 [(Je ((Jr s p).drop 1):Int)] []) (p+(Jr s p).length))
 else Xi s S (Jr s p) p o (p+(Jr s p).length)
variable {p:Nat} {N M:Rr GExpr} {X:Rr Unit}
theorem Yv(e:M=N)(h:X=N.u∧Got N m):X=M.u∧Got M m:=by rw [e];exact h
theorem zv{w:List UInt8}(h:Jr s p=w)(hw:Jy w=false):wdM s S o p=Xi s S w p o (p+(Jr s p).length):=by
 unfold wdM;rw [h,if_neg (by rw [hw];decide)]
theorem Vo{op:Int}{i:Nat}(hi:i=p+(Jr s p).length)(h:(Jr s p=wG∧op=3)∨(Jr s p=wNew∧op=9)):wdM s S o p=Vr s op o i:=by
 subst hi;rcases h with ⟨h,rfl⟩ | ⟨h,rfl⟩ <;> (rw [zv h (by decide)];rfl)
theorem ys{op:Int}{i:Nat}(hi:i=p+(Jr s p).length)(h:(Jr s p=wEta∧op=4)∨(Jr s p=Jfs∧op=5)):wdM s S o p=twoM s op o i:=by
 subst hi;rcases h with ⟨h,rfl⟩ | ⟨h,rfl⟩ <;> (rw [zv h (by decide)];rfl)
theorem Jfu{i:Nat}(hi:i=p+(Jr s p).length)(h:Jr s p=wSer):wdM s S o p=serM s S o i:=by subst hi;rw [zv h (by decide)];rfl
theorem yo{op:Int}{i:Nat}(hi:i=p+(Jr s p).length)(h:(Jr s p=[68,101,108,116,97]∧op=6)∨(Jr s p=[106]∧op=7)): .ok () i=(wdM s S o p).u∧Got (wdM s S o p) (eOp op [] []):=by
 subst hi
 rcases h with ⟨h,rfl⟩ | ⟨h,rfl⟩ <;> (rw [zv h (by decide)];exact⟨rfl,fun a q e=>by cases e;rfl⟩)
theorem wd_E{i:Nat}(hi:i=p+(Jr s p).length)(h:Jy (Jr s p)=true):wiR ((Jr s p).drop 1) (p+1) (.ok () i)=(wdM s S o p).u∧Got (wdM s S o p) (eOp 2 [wiV ((Jr s p).drop 1) false] []):=by
 subst hi;unfold wdM wiV;rw [if_pos h]
 show Rr.u (if 1000000 < Je ((Jr s p).drop 1) then Rr.er (α:=Unit) 2 (p+1) else .ok () _)=_∧_
 split
 ·exact⟨rfl,fun a q e=>by cases e⟩
 ·exact⟨rfl,fun a q e=>by cases e;rfl⟩
theorem Ja3{i:Nat}(hi:i=p+(Jr s p).length)(h1:¬ Jr s p=[68,101,108,116,97])(h2:¬ Jr s p=[106])(h3:vu (Jr s p))(h4:Jgw (Jr s p))(h5:Jg9 (Jr s p))(h6:¬ Jr s p=wSer)(hw:Jy (Jr s p)=false)(h7:Kx (Jr s p)=true):
  .ok () i=(wdM s S o p).u∧Got (wdM s S o p) (Jc4 (Jr s p)):=by
 subst hi;unfold wdM;rw [if_neg (by rw [hw];decide),Jji h1 h2 h3 h4 h5 h6 h7];exact⟨rfl,fun a q e=>by cases e;rfl⟩
theorem Jfq{i:Nat}{m:GExpr}(hi:i=p+(Jr s p).length)(h1:¬ Jr s p=[68,101,108,116,97])(h2:¬ Jr s p=[106])(h3:vu (Jr s p))(h4:Jgw (Jr s p))(h5:Jg9 (Jr s p))(h6:¬ Jr s p=wSer)(hw:Jy (Jr s p)=false)(h7:Kx (Jr s p)=false):
  flR (.ok () i) p 19=(wdM s S o p).u∧Got (wdM s S o p) m:=by
 subst hi;unfold wdM;rw [if_neg (by rw [hw];decide),Jnv h1 h2 h3 h4 h5 h6 h7];exact⟨rfl,fun a q e=>by cases e⟩
end
end Go.Wf
namespace Go.Wf
open Go
theorem Jde{lo p:Nat}(h:lo≤p):Lo lo (.ok () p):=fun q e=>by cases e;exact h
section
variable {s:List UInt8} {S:Nat→Nat→Rr GExpr} {op:Int} {o p i:Nat}
theorem Xk(hi:i=p+(Jr s p).length)(h:(Jr s p=[86]∧op=13)∨(Jr s p=[85]∧op=14)∨(Jr s p=[84]∧op=15)∨(Jr s p=Jgb∧op=16)):wdM s S o p=oneM s S op (decide (1=2)) o i:=by
 subst hi
 rcases h with ⟨h,rfl⟩ | ⟨h,rfl⟩ | ⟨h,rfl⟩ | ⟨h,rfl⟩ <;> (rw [zv h (by decide)];rfl)
theorem Jf4(hi:i=p+(Jr s p).length)(h:Jr s p=wBr∧op=18):wdM s S o p=oneM s S op (decide (2=2)) o i:=by
 subst hi;obtain⟨h,rfl⟩:=h;rw [zv h (by decide)];rfl
theorem Jnx(hi:i=p+(Jr s p).length)(hil:i≤s.length)(h:Jy (Jr s p)=true):p+1≤s.length:=by
 unfold Jy at h;simp only [Bool.and_eq_true,decide_eq_true_eq] at h;omega
theorem wd_ge{w:List UInt8}(h:Jy w=true):1≤w.length:=by
 unfold Jy at h;simp only [Bool.and_eq_true,decide_eq_true_eq] at h;omega
theorem Jkg{d:List UInt8}{mi:Bool}: -1000000≤wiV d mi∧wiV d mi≤1000000:=by
 unfold wiV
 repeat' split
 all_goals omega
theorem Jsz{d:List UInt8}{q:Nat}{t:Rr Unit}(h:t.fine s)(hq:q≤s.length):(wiR d q t).fine s:=by
 refine qz h fun p hp=>?_
 split
 ·exact⟨by decide,hq⟩
 ·exact hp
theorem Jwn{w:List UInt8}(h:Jy w=true):∀ c ∈ w.drop 1,digB c=true:=by
 unfold Jy at h;simp only [Bool.and_eq_true] at h;exact List.all_eq_true.1 h.2
end
end Go.Wf
namespace Go.Wf
open Go
theorem Jhg{s:List UInt8}{t:Rr Unit}(h:¬ pkS s t=0):∃ p,t= .ok () p:=by
 cases t with
 | ok u p=>exact⟨p,rfl⟩
 | er e p=>exact absurd rfl h
theorem Jsh{n:Nat}(h:Yl n=true):¬ n=0:=fun e=>by rw [e] at h;cases h
theorem Jeg{n:Nat}(h:Ke n=true):¬ n=0:=fun e=>by rw [e] at h;cases h
theorem Jda{n d:Int}{k:Nat}(h:(ofZ n).mag.length≤k):(ofQ (Rat.divInt n d)).num.mag.length≤k:=Nat.le_trans (Xs n d) h
theorem Jcu{n d:Int}{k:Nat}(h:(ofZ d).mag.length≤k):(ofQ (Rat.divInt n d)).den.mag.length≤k+1:=Nat.le_trans (Xr n d) (by omega)
def nuE(m:GExpr):Prop:=∃ n d:Int,m=eNum n d∧(ofZ n).mag.length≤65536∧(ofZ d).mag.length≤65536
theorem Jiq{n d:Int}(hn:(ofZ n).mag.length≤65536)(hd:(ofZ d).mag.length≤65536):nuE (.mk 1 [] (ofQ (Rat.divInt n d)) [] []):=⟨n,d,rfl,hn,hd⟩
theorem nuE.ln{m:GExpr}(h:nuE m):m.c.num.mag.length≤536870912:=by
 obtain⟨n,d,rfl,hn,hd⟩:=h;exact Nat.le_trans (Jda (n:=n) (d:=d) hn) (by decide)
theorem nuE.ld{m:GExpr}(h:nuE m):m.c.den.mag.length≤536870912:=by
 obtain⟨n,d,rfl,hn,hd⟩:=h;exact Nat.le_trans (Jcu (n:=n) (d:=d) hd) (by decide)
theorem nuE.nl{m:GExpr}(h:nuE m):(ofQ (-m.c.q)).num.mag.length≤536870912∧(ofQ (-m.c.q)).den.mag.length≤536870912:=by
 obtain⟨n,d,rfl,hn,hd⟩:=h;have e: -(eNum n d).c.q=Rat.divInt (-n) d:=by
  show -(ofQ (Rat.divInt n d)).q=_
  rw [Yq,Rat.neg_divInt]
 have e2:(ofZ (-n)).mag.length=(ofZ n).mag.length:=by show(digs (-n).natAbs).length=(digs n.natAbs).length;rw [Int.natAbs_neg]
 rw [e];exact⟨Nat.le_trans (Jda (n:= -n) (d:=d) (by rw [e2];exact hn)) (by decide),Nat.le_trans (Jcu (n:= -n) (d:=d) hd) (by decide)⟩
theorem nuE.ng{m:GExpr}{l:List GExpr}(h:nuE m):negL true true (m::l)= .mk 1 [] (ofQ (-m.c.q)) [] []::l:=by
 obtain⟨n,d,rfl,hn,hd⟩:=h;rfl
theorem Jv3{b:Bool}{l:List GExpr}{a:GExpr}(hl:0 < l.length)(h:b=true→nuE (l.getD 0 default)):b=true→nuE ((l++[a]).getD 0 default):=by
 cases l with
 | nil=>cases hl
 | cons c l=>exact h
theorem nu_f{b:Bool}{P:Prop}(h:b=false):b=true→P:=fun e=>by rw [h] at e;cases e
theorem sg_0{n:Nat}(h:(n:Int).sign=0):n=0:=by
 have:=Int.sign_eq_zero_iff_zero.1 h
 omega
theorem sg_1{n:Nat}(h:¬ (n:Int).sign=0):¬ n=0:=by
 intro e;subst e;exact h rfl
section
variable {s:List UInt8} {S:Nat→Nat→Rr GExpr} {t:Rr Unit} {o lo q:Nat} {a m:GExpr} {x:GExpr × Bool}
theorem vlen{t:Rr Unit}(hs:s.length≤65536):(ofZ (Je (dgV s t):Int)).mag.length≤65536:=Nat.le_trans (Xl fun c hc=>Jdj hc) (Nat.le_trans Jby hs)
theorem qn(h:((pkS s t:Nat):Int)=40)(hg:Got ((opR s o (blR s t) 40).run (S (o+1))) m):tkR s (suR S (o+1) (opR s o (blR s t) 40)) 41=t.go (Jx s S o)∧Got (t.run (Jx s S o)) (m,false):=by
 obtain⟨p,rfl⟩:=Jhg (s:=s) (t:=t) (by omega);have h:((hdM s p:Nat):Int)=40:=h;have h40:hdM s p=40:=by omega
 have h1:=pa_R (t:=blR s (.ok () p)) hg;have e:Jx s S o p=(opnM s o (spM s p)).th fun _ p1=>(S (o+1) p1).th fun a p2=>(tkM s p2 41).th fun _ p3=> .ok (a,false) p3:=by
  unfold Jx;rw [if_neg (by rw [h40];decide),if_pos h40]
 refine⟨h1.1.trans ?_,?_⟩
 ·show _=Rr.u (Jx s S o p)
  rw [e];rfl
 ·show Got (Jx s S o p) _
  rw [e];exact h1.2
theorem Jv4(ht:t.fine s)(hlo:Lo lo t)(h:Ke (pkS s t)=true):∃ q,blR s t= .ok () q∧q≤s.length∧lo≤q:=by
 obtain⟨p,rfl⟩:=Jhg (Jeg h);exact⟨spM s p,rfl,Yh ht,Nat.le_trans (hlo p rfl) K7⟩
theorem Jmz(h1:¬ ((pkS s t:Nat):Int)=40)(h2:Yl (pkS s t)=false)(h3:Ke (pkS s t)=true)(hq:blR s t= .ok () q)(hg:Got (wdM s S o q) m):(wdM s S o q).u=t.go (Jx s S o)∧Got (t.run (Jx s S o)) (m,false):=by
 obtain⟨p,rfl⟩:=Jhg (Jeg h3);have hq:spM s p=q:=by injection hq
 subst hq;have h1:¬ ((hdM s p:Nat):Int)=40:=h1;have h2:Yl (hdM s p)=false:=h2;have h3:Ke (hdM s p)=true:=h3;have e:Jx s S o p=(wdM s S o (spM s p)).th fun a q=> .ok (a,false) q:=by
  rw [at_w h2 h1 h3];unfold wdM
  split
  ·split <;> rfl
  ·rfl
 refine⟨?_,?_⟩
 ·show _=Rr.u (Jx s S o p)
  rw [e];cases wdM s S o (spM s p) <;> rfl
 ·show Got (Jx s S o p) _
  rw [e]
  cases hw:wdM s S o (spM s p) with
  | er e q=>intro a q e;cases e
  | ok b r=>rw [hw] at hg;intro a q e;cases e;rw [hg b r rfl]
theorem Jm3(h1:¬ ((pkS s t:Nat):Int)=40)(h2:Yl (pkS s t)=false)(h3:Ke (pkS s t)=false):flR (blR s t) (plR (blR s t)) 19=t.go (Jx s S o)∧Got (t.run (Jx s S o)) x:=by
 cases t with
 | er e p=>exact⟨rfl,fun a q e=>by cases e⟩
 | ok u p=>
  have h1:¬ ((hdM s p:Nat):Int)=40:=h1;have e:Jx s S o p= .er 19 (spM s p):=at_x h2 h1 h3;refine⟨?_,?_⟩
  ·show Rr.er 19 (spM s p)=Rr.u (Jx s S o p)
   rw [e];rfl
  ·show Got (Jx s S o p) _
   rw [e];intro a q e;cases e
theorem Jsb{p:Nat}(h:Yl (hdM s p)=true):∃ l q,dgsM s p= .ok l q:=by
 unfold dgsM;rw [if_neg ?_]
 ·exact⟨_,_,rfl⟩
 ·have h1:spM s p < s.length:=by
   rcases Nat.lt_or_ge (spM s p) s.length with h1 | h1
   ·exact h1
   ·unfold hdM at h;rw [List.getD_eq_getElem?_getD,List.getElem?_eq_none h1] at h
    cases h
  have e:=Jan (f:=digB) h1 h;intro h0;have h0:(s.drop (spM s p)).takeWhile digB=[]:=h0;rw [h0] at e;simp only [List.length_nil] at e;omega
theorem Jt4(ht:t.fine s)(h:Yl (pkS s t)=true):∃ p l q,t= .ok () p∧dgsM s p= .ok l q∧q≤s.length∧dgR s (blR s t)= .ok () q∧dgV s (blR s t)=l∧
  ∀ S o,Jx s S o p=(if folB s q 47 then(dgsM s (spM s q+1)).th fun d q'=>if Je d=0 then Rr.er 19 (spM s (spM s q+1)) else .ok (eNum (Je l) (Je d),true) q' else .ok (eNum (Je l) 1,true) (spM s q)):=by
 obtain⟨p,rfl⟩:=Jhg (Jsh h);have h:Yl (hdM s p)=true:=h;obtain⟨l,q,hd⟩:=Jsb h;refine⟨p,l,q,rfl,hd,?_,?_,?_,?_⟩
 ·have:=V8 (s:=s) (p:=p) ht
  rw [hd] at this;exact this.2
 ·show(dgsM s (spM s p)).u=_
  rw [xe,hd];rfl
 ·show Rr.val [] (dgsM s (spM s p))=_
  rw [xe,hd];rfl
 ·intro S o;unfold Jx;rw [if_pos h];unfold numM;rw [xe,hd,Rr.th_ok]
  split
  ·rw [Rr.th_th]
   congr 1
   funext d q'
   split <;> rfl
  ·rfl
abbrev nuT(s:List UInt8)(t:Rr Unit):Rr Unit:=blR s (tkR s (blR s (dgR s (blR s t))) 47)
theorem Jk9(ht:t.fine s)(h:Yl (pkS s t)=true)(h2:¬ ((pkS s (dgR s (blR s t)):Nat):Int)=47):
  ecR (blR s (dgR s (blR s t)))=0∧(blR s (dgR s (blR s t))=t.go (Jx s S o)∧Got (t.run (Jx s S o)) (eNum (Je (dgV s (blR s t))) 1,true)):=by
 obtain⟨p,l,q,rfl,hd,hq,e1,e2,e3⟩:=Jt4 ht h;rw [e1] at h2 ⊢;rw [e2];have h2:¬ ((hdM s q:Nat):Int)=47:=h2;have e3:Jx s S o p=_:=e3 S o;rw [if_neg (by rw [qx fun k=>h2 (by rw [k.2];rfl)];decide)] at e3;refine⟨rfl,?_,?_⟩
 ·show _=Rr.u (Jx s S o p)
  rw [e3];rfl
 ·show Got (Jx s S o p) _
  rw [e3];intro a q e;cases e;rfl
theorem nu_T(ht:t.fine s)(h:Yl (pkS s t)=true)(h2:((pkS s (dgR s (blR s t)):Nat):Int)=47):∃ p q,t= .ok () p∧q≤s.length∧nuT s t= .ok () q∧
  ∀ S o,Jx s S o p=(dgsM s q).th fun d q'=>if Je d=0 then Rr.er 19 q else .ok (eNum (Je (dgV s (blR s t))) (Je d),true) q':=by
 obtain⟨p,l,q,rfl,hd,hq,e1,e2,e3⟩:=Jt4 ht h;unfold nuT;rw [e1] at h2 ⊢;rw [e2];obtain⟨q',e4,hf⟩:=Jg0 (s:=s) (τ:= .ok () q) (c:=47) (by decide) (by omega);have e4:q=q':=by injection e4
 subst e4;have h5:=(Z9.1 hf).1;refine⟨p,spM s (spM s q+1),rfl,Yh h5,?_,?_⟩
 ·rw [Jht hf];rfl
 ·intro S o;rw [e3,if_pos hf,xe]
variable (ht:t.fine s) (h:Yl (pkS s t)=true) (h2:((pkS s (dgR s (blR s t)):Nat):Int)=47)
include ht h h2
theorem Jls(h3:¬ ecR (dgR s (nuT s t))=0):dgR s (nuT s t)=t.go (Jx s S o)∧Got (t.run (Jx s S o)) x:=by
 obtain⟨p,q,rfl,hq,e1,e2⟩:=nu_T ht h h2;rw [e1] at h3 ⊢;have h3:¬ ecR (dgsM s q).u=0:=h3;have e2:Jx s S o p=_:=e2 S o
 cases hd:dgsM s q with
 | ok d r=>rw [hd] at h3;exact absurd rfl h3
 | er e r=>
  rw [hd] at e2;refine⟨?_,?_⟩
  ·show(dgsM s q).u=(Jx s S o p).u
   rw [e2,hd];rfl
  ·show Got (Jx s S o p) _
   rw [e2];intro a q e;cases e
theorem nu_V(h3:ecR (dgR s (nuT s t))=0):∃ p q d r,t= .ok () p∧q≤s.length∧nuT s t= .ok () q∧dgR s (nuT s t)= .ok () r∧dgV s (nuT s t)=d∧
  ∀ S o,Jx s S o p=if Je d=0 then Rr.er 19 q else .ok (eNum (Je (dgV s (blR s t))) (Je d),true) r:=by
 obtain⟨p,q,rfl,hq,e1,e2⟩:=nu_T ht h h2;rw [e1] at h3 ⊢;have hf:=qs (s:=s) q hq;have h3:ecR (dgsM s q).u=0:=h3
 cases hd:dgsM s q with
 | er e r=>rw [hd] at h3 hf;exact absurd h3 hf.1
 | ok d r=>
  refine⟨p,q,d,r,rfl,hq,rfl,?_,?_,fun S o=>by rw [e2,hd];rfl⟩
  ·show(dgsM s q).u=_
   rw [hd];rfl
  ·show Rr.val [] (dgsM s q)=_
   rw [hd];rfl
theorem Jju(h3:ecR (dgR s (nuT s t))=0)(h4:((Je (dgV s (nuT s t)):Nat):Int).sign=0):
  ¬ erF (ecR (dgR s (nuT s t))) 19=0∧plF (ecR (dgR s (nuT s t))) (plR (nuT s t)) (plR (nuT s t))=plR (t.go (Jx s S o))∧erF (ecR (dgR s (nuT s t))) 19=ecR (t.go (Jx s S o))∧Got (t.run (Jx s S o)) x∧(t.run (Jx s S o)).fine s:=by
 rw [h3];obtain⟨p,q,d,r,rfl,hq,e1,e2,e3,e4⟩:=nu_V ht h h2 h3;have e4:Jx s S o p=_:=e4 S o;rw [e3] at h4;rw [if_pos (sg_0 h4)] at e4;rw [e1];refine⟨by decide,?_,?_,?_,?_⟩
 ·show q=plR (Jx s S o p).u
  rw [e4];rfl
 ·show(19:Int)=ecR (Jx s S o p).u
  rw [e4];rfl
 ·show Got (Jx s S o p) _
  rw [e4];intro a q e;cases e
 ·show(Jx s S o p).fine s
  rw [e4];exact⟨by decide,hq⟩
theorem Jmd(h3:ecR (dgR s (nuT s t))=0)(h4:¬ ((Je (dgV s (nuT s t)):Nat):Int).sign=0):
  dgR s (nuT s t)=t.go (Jx s S o)∧Got (t.run (Jx s S o)) (eNum (Je (dgV s (blR s t))) (Je (dgV s (nuT s t))),true):=by
 obtain⟨p,q,d,r,rfl,hq,e1,e2,e3,e4⟩:=nu_V ht h h2 h3;have e4:Jx s S o p=_:=e4 S o;rw [e3] at h4;rw [if_neg (sg_1 h4)] at e4;rw [e2,e3];refine⟨?_,?_⟩
 ·show _=(Jx s S o p).u
  rw [e4];rfl
 ·show Got (Jx s S o p) _
  rw [e4];intro a q e;cases e;rfl
end
end Go.Wf
namespace Go.Wf
open Go
@[irreducible] def mQ:Rat:=Rat.divInt (-1) 1
theorem Jrn:mQ=Rat.divInt (-1) 1:=by unfold mQ;rfl
theorem Jpd:(ofQ mQ).num.mag.length≤536870912∧(ofQ mQ).den.mag.length≤536870912:=by
 rw [Jrn];exact⟨Nat.le_trans (Jda (n:= -1) (d:=1) (k:=65536) (Nat.le_trans (Nat.le_of_eq Kh) (by decide))) (by decide),Nat.le_trans (Jcu (n:= -1) (d:=1) (k:=65536) (Nat.le_trans (Nat.le_of_eq Kh) (by decide))) (by decide)⟩
section
variable (s:List UInt8) (S:Nat→Nat→Rr GExpr) (o:Nat)
def prG(k:Nat)(l:List GExpr)(pl:Bool)(q:Nat):Rr (List GExpr × Bool):=if folB s q 42 then Kg s S o k l pl (spM s q+1) else .ok (l,pl) (spM s q)
def suH(b:Bool)(q:Nat):Rr GExpr:=(Zx s S b o q).th fun a r=>(sumL s S o (s.length+1) [a] r).th fun l q=> .ok (Kc 10 l) q
def suT(k:Nat)(l:List GExpr)(q:Nat):Rr GExpr:=(sumL s S o k l q).th fun l q=> .ok (Kc 10 l) q
end
section
variable {s:List UInt8} {S:Nat→Nat→Rr GExpr} {o k lo:Nat} {t τ T:Rr Unit} {l L:List GExpr} {m:GExpr} {b pl minus:Bool} {R:Rr (List GExpr × Bool)} {M:Rr GExpr}
theorem okg{α:Type}{t:Rr Unit}{f:Nat→Rr α}{P:Prop}(h:(∃ p,t= .ok () p)→P):(∃ q,t.go f= .ok () q)→P:=fun k=>h (okr k)
theorem Je8(hg:Got (t.run (Jx s S o)) (m,b))(h:¬ ((pkS s (t.go (Jx s S o)):Nat):Int)=94):blR s (t.go (Jx s S o))=t.go (powM s S o)∧Got (t.run (powM s S o)) (m,b):=by
 cases t with
 | er e p=>exact⟨rfl,fun a q e=>by cases e⟩
 | ok u p=>
  show blR s (Jx s S o p).u=(powM s S o p).u∧Got (powM s S o p) _
  have hg:Got (Jx s S o p) (m,b):=hg;have h:¬ ((pkS s (Jx s S o p).u:Nat):Int)=94:=h;unfold powM
  cases ha:Jx s S o p with
  | er e q=>exact⟨rfl,fun a q e=>by cases e⟩
  | ok a q=>
   rw [ha] at h hg;have h:¬ ((hdM s q:Nat):Int)=94:=h;rw [Rr.th_ok,if_neg (by rw [qx fun k=>h (by rw [k.2];rfl)];decide)];exact⟨rfl,fun x r e=>by cases e;exact hg a q rfl⟩
theorem Jbc(hg:Got (t.run (Jx s S o)) (m,b))(h:((pkS s (t.go (Jx s S o)):Nat):Int)=94):
  inR s (tkR s (blR s (t.go (Jx s S o))) 94)=t.go (powM s S o)∧Got (t.run (powM s S o)) (eOp 12 [inV s (tkR s (blR s (t.go (Jx s S o))) 94)] [m],false):=by
 cases t with
 | er e p=>exact⟨rfl,fun a q e=>by cases e⟩
 | ok u p=>
  show inR s (tkR s (blR s (Jx s S o p).u) 94)=(powM s S o p).u∧Got (powM s S o p) (eOp 12 [inV s (tkR s (blR s (Jx s S o p).u) 94)] [m],false)
  have hg:Got (Jx s S o p) (m,b):=hg;have h:((pkS s (Jx s S o p).u:Nat):Int)=94:=h;unfold powM
  cases ha:Jx s S o p with
  | er e q=>exact⟨rfl,fun a q e=>by cases e⟩
  | ok a q=>
   rw [ha] at h hg;obtain⟨q',e4,hf⟩:=Jg0 (s:=s) (τ:= .ok () q) (c:=94) (by decide) (by show hdM s q=94;have h:((hdM s q:Nat):Int)=94:=h;omega);have e4:q=q':=by injection e4
   subst e4;have e5:tkR s (blR s (Rr.ok a q).u) 94= .ok () (spM s q+1):=Jht hf;rw [Rr.th_ok,if_pos hf,e5];have e6:inR s (.ok () (spM s q+1))=(intM s (spM s q+1)).u:=rfl;have e7:inV s (.ok () (spM s q+1))=Rr.val 0 (intM s (spM s q+1)):=rfl;rw [e6,e7]
   cases intM s (spM s q+1) with
   | er e r=>exact⟨rfl,fun a q e=>by cases e⟩
   | ok n r=>exact⟨rfl,fun x r e=>by cases e;rw [← hg a q rfl];rfl⟩
theorem Jxb(hS:∀ o p,p≤s.length→(S o p).fw s p)(h:Lo lo t)(ht:t.fine s):Lo lo (t.go (powM s S o)):=Lo.go (d:=0) h ht fun p hp=>q5 hS hp
theorem Jr6(hS:∀ o p,p≤s.length→(S o p).fw s p)(h:Lo lo t)(ht:t.fine s):Lo lo (t.go (Zx s S b o)):=Lo.go (d:=0) h ht fun p hp=>Y2 hS hp
theorem Jki(hg:Got (t.run (powM s S o)) (m,b)):t.run (Kg s S o (s.length+1) [] false)=(t.go (powM s S o)).run (prG s S o s.length [m] b):=Yn (f:=powM s S o) (g:=fun a q=>prG s S o s.length ([]++[a.1]) (if([]:List GExpr).length=0 then a.2 else false) q) hg
theorem qg(hS:∀ o p,p≤s.length→(S o p).fw s p)(hR:R=τ.run (prG s S o k l pl))(hk:ecR τ=0→s.length≤plR τ+k)(hf:τ.fine s)(hl:0 < l.length)(hp:((pkS s τ:Nat):Int)=42)(hg:Got ((tkR s (blR s τ) 42).run (powM s S o)) (m,b))(hfi:((tkR s (blR s τ) 42).run (powM s S o)).fine s):
  R=((tkR s (blR s τ) 42).go (powM s S o)).run (prG s S o (k - 1) (l++[m]) pl)∧msR s ((tkR s (blR s τ) 42).go (powM s S o)) < msR s τ∧(ecR ((tkR s (blR s τ) 42).go (powM s S o))=0→s.length≤plR ((tkR s (blR s τ) 42).go (powM s S o))+(k - 1)):=by
 obtain⟨q,rfl,hfo⟩:=Jg0 (s:=s) (τ:=τ) (c:=42) (by decide) (by omega);have hq:q≤s.length:=hf;have hk:s.length≤q+k:=hk rfl;have h1:=(Z9.1 hfo).1;have h3:=K7 (s:=s) (p:=q);obtain⟨k,rfl⟩:∃ j,k=j+1:=⟨k - 1,by omega⟩;rw [Jht hfo] at hg hfi ⊢;have hg:Got (powM s S o (spM s q+1)) (m,b):=hg;have hfi:(powM s S o (spM s q+1)).fine s:=hfi;have h2:=q5 hS (o:=o) h1;have e4:msR s (Rr.ok () q)=s.length+2 - q:=rfl;have e5:(Rr.ok () (spM s q+1)).go (powM s S o)=(powM s S o (spM s q+1)).u:=rfl;have hR:R=prG s S o (k+1) l pl q:=hR;rw [e4,e5,hR,prG,if_pos hfo,Nat.add_sub_cancel,Kg]
 cases hw:powM s S o (spM s q+1) with
 | er e r=>rw [hw] at hfi;exact⟨rfl,by show 0 < _;omega,fun h=>absurd h hfi.1⟩
 | ok a r=>
  rw [hw] at h2 hg;have h4:=h2.1;have h5:=h2.2;have e6:=hg a r rfl;refine⟨?_,by show s.length+2 - r < s.length+2 - q;omega,fun _=>by show s.length≤r+k;omega⟩;rw [Rr.th_ok,← e6,if_neg (show ¬ l.length=0 by omega)];rfl
theorem Jsc(hR:R=τ.run (prG s S o k l pl))(hp:¬ ((pkS s τ:Nat):Int)=42):blR s τ=R.u∧Got R (l,pl):=by
 cases τ with
 | er e p=>rw [hR];exact⟨rfl,fun a q e=>by cases e⟩
 | ok u q=>
  have hR:R=prG s S o k l pl q:=hR;have hp:¬ ((hdM s q:Nat):Int)=42:=hp;rw [hR,prG,if_neg (by rw [qx fun k=>hp (by rw [k.2];rfl)];decide)];exact⟨rfl,fun a q e=>by cases e;rfl⟩
theorem Jeu(hu:T=(t.run (Kg s S o (s.length+1) [] false)).u∧Got (t.run (Kg s S o (s.length+1) [] false)) (l,pl)):T=t.go (Zx s S minus o)∧Got (t.run (Zx s S minus o)) (Kc 11 (negL minus pl l)):=by
 obtain⟨h1,h2⟩:=hu
 cases t with
 | er e p=>exact⟨h1,fun a q e=>by cases e⟩
 | ok u p=>
  have h1:T=(Kg s S o (s.length+1) [] false p).u:=h1;have h2:Got (Kg s S o (s.length+1) [] false p) (l,pl):=h2
  show T=(Zx s S minus o p).u∧Got (Zx s S minus o p) _
  rw [Jc5]
  cases hx:Kg s S o (s.length+1) [] false p with
  | er e q=>rw [hx] at h1;exact⟨h1,fun a q e=>by cases e⟩
  | ok x q=>rw [hx] at h1 h2;exact⟨h1,fun a r e=>by cases e;rw [← h2 x q rfl]⟩
abbrev PrT(s:List UInt8)(S:Nat→Nat→Rr GExpr)(o:Nat)(t T:Rr Unit)(l:List GExpr)(b:Bool):Prop:=T=(t.run (Kg s S o (s.length+1) [] false)).u∧Got (t.run (Kg s S o (s.length+1) [] false)) (l,b)
abbrev PrZ(s:List UInt8)(S:Nat→Nat→Rr GExpr)(o:Nat)(t T:Rr Unit)(mi:Bool)(l:List GExpr):Prop:=T=t.go (Zx s S mi o)∧Got (t.run (Zx s S mi o)) (Kc 11 l)
theorem pr_f0(h:PrT s S o t T l b):PrZ s S o t T false l:=Jeu (minus:=false) h
theorem pr_f1(h:PrT s S o t T l b)(hb:b=false):PrZ s S o t T true (.mk 1 [] (ofQ mQ) [] []::l):=by subst hb;rw [Jrn];exact Jeu (minus:=true) h
theorem pr_f2(h:PrT s S o t T (m::l) b)(hb:b=true)(hn:nuE m):PrZ s S o t T true (.mk 1 [] (ofQ (-m.c.q)) [] []::l):=by
 subst hb
 have:=Jeu (minus:=true) h
 rw [hn.ng] at this;exact this
theorem Jj1{op:Int}(h:Got M (Kc op l))(hl:((l.length:Nat):Int)=1):Got M (l.getD 0 default):=by rw [← Jey (op:=op) (by omega)];exact h
theorem Jq9{op:Int}(h:Got M (Kc op l))(hl:¬ ((l.length:Nat):Int)=1):Got M (eOp op [] l):=by rw [← Jjg (by omega)];exact h
theorem Jb1(hb:∀ p,t= .ok () p→b=folB s p 45)(hT:τ=t.go fun p=>Rr.ok () (fpM s p 45)):t.run (sumF s S o)=τ.run (suH s S o b):=by
 subst hT
 cases t with
 | er e p=>rfl
 | ok u p=>rw [hb p rfl];rfl
theorem Jxh(h:((pkS s t:Nat):Int)=45):(∀ p,t= .ok () p→true=folB s p 45)∧tkR s (blR s t) 45=t.go fun p=>Rr.ok () (fpM s p 45):=by
 obtain⟨q,rfl,hfo⟩:=Jg0 (s:=s) (τ:=t) (c:=45) (by decide) (by omega);refine⟨fun p e=>by cases e;exact hfo.symm,?_⟩;rw [Jht hfo]
 show _=Rr.ok () (fpM s q 45)
 rw [← fp_t hfo]
theorem Jwj(h:¬ ((pkS s t:Nat):Int)=45):(∀ p,t= .ok () p→false=folB s p 45)∧blR s t=t.go fun p=>Rr.ok () (fpM s p 45):=by
 cases t with
 | er e p=>exact⟨(fun p e=>by cases e),rfl⟩
 | ok u q=>
  have h:¬ ((hdM s q:Nat):Int)=45:=h;have hf:folB s q 45=false:=qx fun k=>h (by rw [k.2];rfl);exact⟨fun p e=>by cases e;exact hf.symm,by show Rr.ok () (spM s q)=Rr.ok () (fpM s q 45);rw [← fp_f hf]⟩
theorem su_d1(h:decide (((pkS s t:Nat):Int)=45)=true):t.run (sumF s S o)=(tkR s (blR s t) 45).run (suH s S o (decide (((pkS s t:Nat):Int)=45))):=by
 rw [h];exact Jb1 (Jxh (of_decide_eq_true h)).1 (Jxh (of_decide_eq_true h)).2
theorem su_d0(h:decide (((pkS s t:Nat):Int)=45)=false):t.run (sumF s S o)=(blR s t).run (suH s S o (decide (((pkS s t:Nat):Int)=45))):=by
 rw [h];exact Jb1 (Jwj (of_decide_eq_false h)).1 (Jwj (of_decide_eq_false h)).2
theorem Qb {c:Nat} (hS:∀ o p,p≤s.length→(S o p).fw s p) (hM:M=τ.run (suT s S o k l)) (hk:ecR τ=0→s.length < plR τ+k) (hf:τ.fine s) (hc:(c=43∧b=false)∨(c=45∧b=true)) (hp:((pkS s τ:Nat):Int)=c)
  (hg:Got ((tkR s (blR s τ) (pkS s τ)).run (Zx s S b o)) m) (hfi:((tkR s (blR s τ) (pkS s τ)).run (Zx s S b o)).fine s):
  M=((tkR s (blR s τ) (pkS s τ)).go (Zx s S b o)).run (suT s S o (k - 1) (l++[m]))∧msR s ((tkR s (blR s τ) (pkS s τ)).go (Zx s S b o)) < msR s τ∧(ecR ((tkR s (blR s τ) (pkS s τ)).go (Zx s S b o))=0→s.length < plR ((tkR s (blR s τ) (pkS s τ)).go (Zx s S b o))+(k - 1)):=by
 have hp:pkS s τ=c:=by omega
 rw [hp] at hg hfi ⊢;obtain⟨q,rfl,hfo⟩:=Jg0 (s:=s) (τ:=τ) (c:=c) (by omega) hp;have hq:q≤s.length:=hf;have hk:s.length < q+k:=hk rfl;have h1:=(Z9.1 hfo).1;have h3:=K7 (s:=s) (p:=q);obtain⟨k,rfl⟩:∃ j,k=j+1:=⟨k - 1,by omega⟩;rw [Jht hfo] at hg hfi ⊢;have hg:Got (Zx s S b o (spM s q+1)) m:=hg;have hfi:(Zx s S b o (spM s q+1)).fine s:=hfi;have h2:=Y2 (minus:=b) hS (o:=o) h1;have e4:msR s (Rr.ok () q)=s.length+2 - q:=rfl;have e5:(Rr.ok () (spM s q+1)).go (Zx s S b o)=(Zx s S b o (spM s q+1)).u:=rfl;have hM:M=suT s S o (k+1) l q:=hM;have e6:suT s S o (k+1) l q=((Zx s S b o (spM s q+1)).th fun a q=>sumL s S o k (l++[a]) q).th fun l q=> .ok (Kc 10 l) q:=by
  unfold suT;rw [sumL]
  rcases hc with ⟨rfl,rfl⟩ | ⟨rfl,rfl⟩
  ·rw [if_pos hfo]
  ·have:folB s q 43=false:=qx fun k=>by have:=(Z9.1 hfo).2;omega
   rw [if_neg (by rw [this];decide),if_pos hfo]
 rw [e4,e5,hM,e6,Nat.add_sub_cancel]
 cases hw:Zx s S b o (spM s q+1) with
 | er e r=>rw [hw] at hfi;exact⟨rfl,by show 0 < _;omega,fun h=>absurd h hfi.1⟩
 | ok a r=>
  rw [hw] at h2 hg;have h4:=h2.1;have h5:=h2.2;have e6:=hg a r rfl;refine⟨?_,by show s.length+2 - r < s.length+2 - q;omega,fun _=>by show s.length < r+k;omega⟩;rw [Rr.th_ok,← e6];rfl
theorem Vd(hM:M=τ.run (suT s S o k l))(hk:ecR τ=0→s.length < plR τ+k)(hf:τ.fine s)(hp:¬ ((pkS s τ:Nat):Int)=43)(hp2:¬ ((pkS s τ:Nat):Int)=45):blR s τ=M.u∧Got M (Kc 10 l):=by
 cases τ with
 | er e p=>rw [hM];exact⟨rfl,fun a q e=>by cases e⟩
 | ok u q=>
  have hq:q≤s.length:=hf;have hk:s.length < q+k:=hk rfl;obtain⟨k,rfl⟩:∃ j,k=j+1:=⟨k - 1,by omega⟩;have hM:M=suT s S o (k+1) l q:=hM;have hp:¬ ((hdM s q:Nat):Int)=43:=hp;have hp2:¬ ((hdM s q:Nat):Int)=45:=hp2;rw [hM,suT,sumL,if_neg (by rw [qx fun k=>hp (by rw [k.2];rfl)];decide),if_neg (by rw [qx fun k=>hp2 (by rw [k.2];rfl)];decide)];exact⟨rfl,fun a q e=>by cases e;rfl⟩
theorem Jvm(hM:M=τ.run (suH s S o b))(hg:Got (τ.run (Zx s S b o)) m):M=(τ.go (Zx s S b o)).run (suT s S o (s.length+1) [m]):=by
 rw [hM];exact Yn (g:=fun a q=>suT s S o (s.length+1) [a] q) hg
end
end Go.Wf
namespace Go.Wf
open Go
def rdT(s:List UInt8):GExpr × Nat × Int:=match zc s with
 | .er e p=>(Kq,p,e)
 | .ok a _=>(a,0,0)
section
variable {s:List UInt8} {a:GExpr} {q p:Nat} {e:Int}
theorem rd_er(h:sumF s (sumM s s.length) 0 0= .er e p):rdT s=(Kq,p,e):=by
 have h:sumM s (s.length+1) 0 0= .er e p:=h;unfold rdT zc;rw [h];rfl
theorem Jpy(h:sumF s (sumM s s.length) 0 0= .ok a q)(hl:((spM s q:Nat):Int) < ((s.length:Nat):Int)):rdT s=(Kq,spM s q,19):=by
 have h:sumM s (s.length+1) 0 0= .ok a q:=h;unfold rdT zc;rw [h,Rr.th_ok,if_pos (by omega)]
theorem rd_ok(h:sumF s (sumM s s.length) 0 0= .ok a q)(hl:¬ ((spM s q:Nat):Int) < ((s.length:Nat):Int)):rdT s=(a,0,0):=by
 have h:sumM s (s.length+1) 0 0= .ok a q:=h;unfold rdT zc;rw [h,Rr.th_ok,if_neg (by omega)]
theorem rd_le(h:sumF s (sumM s s.length) 0 0= .ok a q):q≤s.length:=by
 have h1:=V9 (s:=s) (s.length+1) 0 0 (Nat.zero_le _);have h:sumM s (s.length+1) 0 0= .ok a q:=h;rw [h] at h1;exact h1.2
end
end Go.Wf
namespace Go.Ev
open Go Go.Wf Go.RowKit
section
variable {fc:Fence} {P:Program} {n:Nat}
theorem Jvx{n:Nat}{vs:List Value}(hl:vs.length≤n):Wf.Good n [] {tmps:=vs.toArray++Array.replicate (n - vs.toArray.size) undef,defers:=[]}∧frOf {tmps:=vs.toArray++Array.replicate (n - vs.toArray.size) undef,defers:=[]}=vf vs:=by
 refine⟨⟨by simp;omega,rfl⟩,?_⟩
 funext t
 simp only [frOf,vf,Array.getD_eq_getD_getElem?,List.getD_eq_getElem?_getD,Array.getElem?_append]
 by_cases ht:t < vs.length
 ·simp [ht]
 ·simp only [List.size_toArray,ht,if_false];rw [List.getElem?_eq_none (by omega)];simp only [Array.getElem?_replicate]
  split <;> rfl
theorem Jcj{fn:Func}{c:Code}{k:FuncId}{cs:Array Value}{w:World}(hf:P.funcs[k]? =some fn)(hname:(fn.name == "runtime.NumGoroutine")=false)(hb:fn.body=some c):(invoke (.fn (.func k) cs) #[]).run P w= .ok (.enter k cs) w:=by
 have h1:fn.name≠ "runtime.NumGoroutine" :=by simpa using hname
 simp [invoke,callFunc,hf,h1,hb]
end
end Go.Ev
namespace Go.Wf
open Go Go.Proofs Go.Ev
section
variable {P:Program}
abbrev vg(R:World→Prop):Ending→FrameMode→World→Prop:=fun en u w=>(∃ y,en= .returned y)∧settle u= .returning∧R w
def recQ(R:World→Prop):Post:=fun ex _ w=>(ex= .normal∨ex= .ret)∧R w
theorem CallsD.ofRec {k:FuncId} {fn:Func} {vs:List Value} {t u0:Tmp} {id n:Nat} {ts:Array TypeId} {y1 y2:TypeId} {p1 p2:String} {a1 a2:Array Edge} {b:Code} {x:Value} {u:FrameMode} {w:World} {R:World→Prop}
  (hf:P.funcs[k]? =some fn) (hb:fn.body=some (.seq (.region id #[⟨some t,.call ⟨.builtin .recover,#[],ts⟩,y1,p1,a1,none⟩,⟨some u0,.assign (.tmp t),y2,p2,a2,none⟩] false) b)) (hres:fn.results= #[]) (hn:fn.ntmps=n)
  (hl:Nat.ble vs.length n=true) (h3:Nat.blt t n=true) (h4:Nat.blt u0 n=true) (hu:(u= .returning∧x= .nilIface)∨u= .panicking [{v:=x,recovered:=false}])
  (hW:W Fence.wide P b n [] (recQ R) (upd (upd (vf vs) t x) u0 x) w):CallsD P k vs.toArray u w (vg R):=by
 subst hn;have hl:=Nat.le_of_ble_eq_true hl;have h3:t < fn.ntmps:=Jkl h3;have h4:u0 < fn.ntmps:=Jkl h4;refine callsD_of_wpS hf hb fun c₀ cs hc0=>?_
 obtain⟨hgood,hfr⟩:=Jvx (n:=fn.ntmps) (vs:=vs) hl;obtain⟨c1,hset,hrec⟩:∃ (c1:FrameMode),settle c1= .returning∧((recoverD (c₀::cs)=some (x,{c₀ with mode:=c1}::cs))∨(recoverD (c₀::cs)=none∧x= .nilIface∧c₀::cs={c₀ with mode:=c1}::cs)):=by
  rcases hu with ⟨rfl,rfl⟩ | rfl
  ·exact⟨.returning,rfl,.inr ⟨by simp [recoverD,hc0],rfl,by rw [← hc0]⟩⟩
  ·exact⟨.panicking [{v:=x,recovered:=true}],rfl,.inl (by simp [recoverD,hc0])⟩
 refine wpS_seq (wpS_region ?_);have hrange:List.range (#[(⟨some t,.call ⟨.builtin .recover,#[],ts⟩,y1,p1,a1,none⟩:Oper),⟨some u0,.assign (.tmp t),y2,p2,a2,none⟩]).size=[0,1]:=rfl;rw [hrange];have hend:∀ (act:Act),Wf.Good fn.ntmps [] act→frOf act=upd (upd (vf vs) t x) u0 x→b.wpS P (bodyPostS P fn c₀ cs (vg R)) act ({c₀ with mode:=c1}::cs) w:=by
  intro act hact hfa;refine wpS_of_wp (wp_mono (hW.wide hact hfa) ?_);rintro ex act' w' ⟨ga,hex,hR⟩;have done:act'.defers=[]∧∃ u',({c₀ with mode:=c1}::cs:List Frame)={c₀ with mode:=u'}::cs∧∃ v,(results fn act'.tmps).run P w'= .ok v w'∧vg R (.returned v) u' w':=by
   refine⟨ga.defers,c1,rfl,.tuple #[],?_,⟨_,rfl⟩,hset,hR⟩;rw [Xo,hres];simp
  rcases hex with rfl | rfl
  ·exact done
  ·exact done
 have hput:∀ (act:Act),Wf.Good fn.ntmps [] act→frOf act=vf vs→Wf.Good fn.ntmps [] ((act.put (some t) x).put (some u0) x)∧frOf ((act.put (some t) x).put (some u0) x)=upd (upd (vf vs) t x) u0 x:=by
  intro act hact hfa;refine⟨(hact.put _ _).put _ _,?_⟩;rw [Yt (hact.put _ _) (some u0) (show lo fn.ntmps (some u0) from h4),Yt hact (some t) (show lo fn.ntmps (some t) from h3),hfa];rfl
 have hev:∀ (act:Act),Wf.Good fn.ntmps [] act→(act.put (some t) x).eval (.tmp t)=x:=by
  intro act hact;rw [q9,Yt hact (some t) (show lo fn.ntmps (some t) from h3)]
  show upd (frOf act) t x t=x
  simp [upd]
 obtain⟨k1,k2⟩:=hput _ hgood hfr;have k3:=hev _ hgood;have h0:(execOp (Act.eval {tmps:=vs.toArray++Array.replicate (fn.ntmps - vs.toArray.size) undef,defers:=[]}) ⟨some t,.call ⟨.builtin .recover,#[],ts⟩,y1,p1,a1,none⟩).run P w= .ok .recover w:=by
  simp [execOp,resolve,invoke,builtin]
 have hop0:(#[(⟨some t,.call ⟨.builtin .recover,#[],ts⟩,y1,p1,a1,none⟩:Oper),⟨some u0,.assign (.tmp t),y2,p2,a2,none⟩])[0]? =some ⟨some t,.call ⟨.builtin .recover,#[],ts⟩,y1,p1,a1,none⟩:=rfl;have hop1:(#[(⟨some t,.call ⟨.builtin .recover,#[],ts⟩,y1,p1,a1,none⟩:Oper),⟨some u0,.assign (.tmp t),y2,p2,a2,none⟩])[1]? =some ⟨some u0,.assign (.tmp t),y2,p2,a2,none⟩:=rfl;have hw0:∀ (z:Nat→Option Bool),Region.wanted (⟨some t,.call ⟨.builtin .recover,#[],ts⟩,y1,p1,a1,none⟩:Oper) z=true:=fun z=>rfl
 have hw1:∀ (z:Nat→Option Bool),Region.wanted (⟨some u0,.assign (.tmp t),y2,p2,a2,none⟩:Oper) z=true:=fun z=>rfl
 have second:∀ cs',cs'={c₀ with mode:=c1}::cs→wpOpsS P #[(⟨some t,.call ⟨.builtin .recover,#[],ts⟩,y1,p1,a1,none⟩:Oper),⟨some u0,.assign (.tmp t),y2,p2,a2,none⟩] (Exit.thenS (b.wpS P (bodyPostS P fn c₀ cs (vg R))) (bodyPostS P fn c₀ cs (vg R))) [1] (Act.put {tmps:=vs.toArray++Array.replicate (fn.ntmps - vs.toArray.size) undef,defers:=[]} (some t) x) cs' w:=by
  rintro cs' rfl;simp only [wpOpsS,hop1,hw1,if_true];have h1':(execOp (Act.put {tmps:=vs.toArray++Array.replicate (fn.ntmps - vs.toArray.size) undef,defers:=[]} (some t) x).eval ⟨some u0,.assign (.tmp t),y2,p2,a2,none⟩).run P w= .ok (.value x) w:=by
   simp only [execOp,k3,Sem.run_pure]
  rw [h1'];exact hend _ k1 k2
 unfold wpOpsS;simp only [hop0,hw0,if_true,h0]
 rcases hrec with hrec | ⟨hrec,rfl,hcs⟩
 ·rw [hrec];exact second _ rfl
 ·rw [hrec];exact second _ hcs
def defQ(P:Program)(fn:Func)(k:FuncId)(vs:List Value)(R:Ending→World→Prop):Post
 | .normal,f,w | .ret,f,w=>CallsD P k vs.toArray .returning w (vg fun w'=>∃ v,(∀ tmps:Array Value,(∀ t,tmps.getD t undef=f t)→(results fn tmps).run P w'= .ok v w')∧R (.returned v) w')
 | .panic ch,f,w=>CallsD P k vs.toArray (.panicking ch) w (vg fun w'=>∃ v,(∀ tmps:Array Value,(∀ t,tmps.getD t undef=f t)→(results fn tmps).run P w'= .ok v w')∧R (.returned v) w')
 | _,_,_=>False
def begQ(P:Program)(fn:Func)(n:Nat)(k:FuncId)(cp:List Operand)(t:Tmp)(b:Code)(R:Ending→World→Prop):Post:=fun ex f w=>ex= .normal∧W Fence.wide P b n [⟨.fn (.func k) (cp.map (fe f)).toArray,#[]⟩] (defQ P fn k (cp.map (fe f)) R) (upd f t (.func (.func k) #[] (cp.map (fe f)).toArray)) w
theorem J4c {f k:FuncId} {fn fk:Func} {args:List Value} {t:Tmp} {id n:Nat} {ts:Array TypeId} {cp:List Operand} {y1 y2:TypeId} {p1 p2:String} {a1 a2:Array Edge} {A b ck:Code} {w:World} {R:Ending→World→Prop}
  (hf:P.funcs[f]? =some fn) (hb:fn.body=some (.seq A (.seq (.region id #[⟨some t,.makeFunc (.func k) #[] cp.toArray,y1,p1,a1,none⟩,⟨none,.defer ⟨.value (.tmp t),#[],ts⟩,y2,p2,a2,none⟩] false) b))) (hn:fn.ntmps=n)
  (hl:Nat.ble args.length n=true) (ht:Nat.blt t n=true) (hk:P.funcs[k]? =some fk) (hkn:(fk.name == "runtime.NumGoroutine")=false) (hkb:fk.body=some ck)
  (h:W Fence.wide P A n [] (begQ P fn n k cp t b R) (vf args) w):Calls P f args.toArray w R:=by
 subst hn;have ht:t < fn.ntmps:=Jkl ht;obtain⟨hgood,hfr⟩:=Jvx (n:=fn.ntmps) (vs:=args) (Nat.le_of_ble_eq_true hl);refine calls_of_wp_defers hf hb (wp_seq (wp_mono (h.wide hgood hfr) ?_));rintro ex a w1 ⟨ha,rfl,hB⟩;have hce:cp.toArray.map a.eval=(cp.map (fe (frOf a))).toArray:=by apply Array.ext';rw [q9];simp
 generalize hcv:cp.map (fe (frOf a))=cvs at hB hce
 refine wp_seq (wp_region ?_);have hrange:List.range (#[(⟨some t,.makeFunc (.func k) #[] cp.toArray,y1,p1,a1,none⟩:Oper),⟨none,.defer ⟨.value (.tmp t),#[],ts⟩,y2,p2,a2,none⟩]).size=[0,1]:=rfl;rw [hrange];have hop0:(#[(⟨some t,.makeFunc (.func k) #[] cp.toArray,y1,p1,a1,none⟩:Oper),⟨none,.defer ⟨.value (.tmp t),#[],ts⟩,y2,p2,a2,none⟩])[0]? =some ⟨some t,.makeFunc (.func k) #[] cp.toArray,y1,p1,a1,none⟩:=rfl;have hop1:(#[(⟨some t,.makeFunc (.func k) #[] cp.toArray,y1,p1,a1,none⟩:Oper),⟨none,.defer ⟨.value (.tmp t),#[],ts⟩,y2,p2,a2,none⟩])[1]? =some ⟨none,.defer ⟨.value (.tmp t),#[],ts⟩,y2,p2,a2,none⟩:=rfl;have hw0:∀ (z:Nat→Option Bool),Region.wanted (⟨some t,.makeFunc (.func k) #[] cp.toArray,y1,p1,a1,none⟩:Oper) z=true:=fun z=>rfl
 have hw1:∀ (z:Nat→Option Bool),Region.wanted (⟨none,.defer ⟨.value (.tmp t),#[],ts⟩,y2,p2,a2,none⟩:Oper) z=true:=fun z=>rfl
 simp only [wpOps,hop0,hop1,hw0,hw1,if_true]
 left
 unfold Oper.wp;have r0:(execOp a.eval ⟨some t,.makeFunc (.func k) #[] cp.toArray,y1,p1,a1,none⟩).run P w1= .ok (.value (.func (.func k) #[] cvs.toArray)) w1:=by
  simp [execOp,Instr.makeFunc] at hce ⊢;exact hce
 rw [r0]
 show(_:Prop)∨_
 left
 have hev:(a.put (some t) (.func (.func k) #[] cvs.toArray)).eval (.tmp t)= .func (.func k) #[] cvs.toArray:=by
  rw [q9,Yt ha (some t) (show lo fn.ntmps (some t) from ht)]
  show upd (frOf a) t _ t=_
  simp [upd]
 have r1:(execOp (a.put (some t) (.func (.func k) #[] cvs.toArray)).eval ⟨none,.defer ⟨.value (.tmp t),#[],ts⟩,y2,p2,a2,none⟩).run P w1= .ok (.defer ⟨.fn (.func k) cvs.toArray,#[]⟩) w1:=by
  simp [execOp,resolve,Deferred.ofValue,hev]
 rw [r1]
 show(b.wp P _ _ w1)
 have ga:Wf.Good fn.ntmps [⟨.fn (.func k) cvs.toArray,#[]⟩] (({(a.put (some t) (.func (.func k) #[] cvs.toArray)) with defers:=(⟨.fn (.func k) cvs.toArray,#[]⟩:Deferred)::(a.put (some t) (.func (.func k) #[] cvs.toArray)).defers}:Act).put none undef):=by
  have:=ha.put (some t) (.func (.func k) #[] cvs.toArray)
  exact⟨this.size,by show _::(a.put (some t) _).defers=_;rw [this.defers]⟩
 have gf:frOf (({(a.put (some t) (.func (.func k) #[] cvs.toArray)) with defers:=(⟨.fn (.func k) cvs.toArray,#[]⟩:Deferred)::(a.put (some t) (.func (.func k) #[] cvs.toArray)).defers}:Act).put none undef)=upd (frOf a) t (.func (.func k) #[] cvs.toArray):=by
  have:=Yt ha (some t) (show lo fn.ntmps (some t) from ht) (.func (.func k) #[] cvs.toArray)
  exact this
 refine wp_mono (hB.wide ga gf) ?_;rintro ex a' w2 ⟨gg,qq⟩;have leaves:∀ u,u≠ .run→CallsD P k cvs.toArray u w2 (vg fun w'=>∃ v,(∀ tmps:Array Value,(∀ t,tmps.getD t undef=frOf a' t)→(results fn tmps).run P w'= .ok v w')∧R (.returned v) w')→Leaves P fn a'.tmps R a'.defers u w2:=by
  intro u hu hq;rw [gg.defers];refine leaves_cons hu (Jcj hk hkn hkb) (hq.mono ?_);rintro en u' w3 ⟨⟨y,rfl⟩,hset,v,hrun,hR⟩
  show Leaves P fn a'.tmps _ [] (settle u') w3
  rw [hset];exact⟨v,hrun a'.tmps (fun _=>rfl),hR⟩
 cases ex with
 | normal=>exact leaves _ (fun h=>by cases h) qq
 | ret=>exact leaves _ (fun h=>by cases h) qq
 | panic ch=>exact leaves _ (fun h=>by cases h) qq
 | _=>exact qq.elim
end
end Go.Wf
namespace Go.Wf
open Go Go.Proofs Go.Ev
section
variable {P:Program} {ρ:Operand→Value} {dst:Option Tmp} {ty:TypeId} {pos:String} {after:Array Edge} {gd:Option (Nat × Bool)} {w:World} {K:Value→World→Prop} {Kp:List PanicEntry→World→Prop}
theorem J3s{x:Operand}{t t':TypeId}{m:Array (String × TypeId)}(hq:P.underlying t=some (.interface m))(hc:ρ (.const .nilIface)= .nilIface)(hx:ρ x= .nilIface)(h:K (.bool false) w):St P ρ ⟨dst,.binOp .neq t x (.const .nilIface) t',ty,pos,after,gd⟩ w K Kp:=by
 refine J1i (v:= .bool false) ?_ h;have e:(binOp .neq t .nilIface .nilIface).run P w= .ok (.bool false) w:=by
  rw [show binOp .neq t .nilIface .nilIface=(do pure (.bool (!(← Op.equal t .nilIface .nilIface)))) from rfl,eqIn,Sem.run_bind,eqI0 hq];rfl
 simp [execOp,hx,hc,eqGuard,e]
theorem J3x{x:Operand}{t t' u:TypeId}{p:Value}{m:Array (String × TypeId)}(hq:P.underlying t=some (.interface m))(hc:ρ (.const .nilIface)= .nilIface)(hx:ρ x= .iface u p)(h:K (.bool true) w):St P ρ ⟨dst,.binOp .neq t x (.const .nilIface) t',ty,pos,after,gd⟩ w K Kp:=by
 refine J1i (v:= .bool true) ?_ h;have e:(binOp .neq t (.iface u p) .nilIface).run P w= .ok (.bool true) w:=by
  rw [show binOp .neq t (.iface u p) .nilIface=(do pure (.bool (!(← Op.equal t (.iface u p) .nilIface)))) from rfl,eqIn,Sem.run_bind,eqI2 hq];rfl
 simp [execOp,hx,hc,eqGuard,e]
theorem J4k{x:Operand}{xt at_:TypeId}{a:Value}{fs:Array Field}(hu:P.underlying at_=some (.struct fs))(hx:ρ x= .iface at_ a)(h:K (.tuple #[a,.bool true]) w):St P ρ ⟨dst,.typeAssert x xt at_ true,ty,pos,after,gd⟩ w K Kp:=by
 refine J1i (v:= .tuple #[a,.bool true]) ?_ h;simp [execOp,hx,Instr.typeAssert,run_underlying hu]
end
section
variable {P:Program} {ρ:Operand→Value} {dst:Option Tmp} {ty:TypeId} {pos:String} {after:Array Edge} {gd:Option (Nat × Bool)}
 {w:World} {K:Value→World→Prop} {Kp:List PanicEntry→World→Prop} {X0 x y:Nat→Prop} {w0:Bs}
theorem Cx.turn0{w':World}(C:Cx X0 w0 x y w){g:Nat}{cs:List Value}{T:TypeId}(o:Own w0 y w g cs T)(h:Bel ⟨w,(· =g)⟩ w'):Cx X0 w0 x y w'∧Sp x y w x y w' (· =g):=
 ⟨⟨C.below.turn h o.ge,C.base,fun b hb=>Nat.lt_of_lt_of_le (C.bd b hb) h.size,C.yx⟩,
  ⟨⟨fun _ _ h=>h,fun b hb hx=>h.block b hb (fun e=>hx (e ▸ C.yx _ o.mem)),h.size⟩,⟨fun _ _ h=>h,fun b hb hx=>h.block b hb (fun e=>hx (e ▸ o.mem)),h.size⟩,fun _ h=>h,fun b hb hn=>h.block b hb hn⟩⟩
theorem J3z {α:Type} {k:FuncId} {args:Array Operand} {ts:Array TypeId} {vs:List Value} {g:Nat} {cs:List Value} {T:TypeId} {m:Rr α} {Φ:α→Nat→Value→World→Prop} {cs':α→Nat→List Value}
  (C:Cx X0 w0 x y w) (o:Own w0 y w g cs T) (hk:Jb P k=true)
  (ha:args.toList.map ρ=vs) (he:ρ (.func k)= .func (.func k) #[] #[]) (hc:Calls P k vs.toArray w (RetP w g m fun a q v w'=>Φ a q v w'∧Blk w' g (cs' a q) T))
  (hp:∀ w' e q,m= .er e q→Cx X0 w0 x y w'→Sp x y w x y w' (· =g)→Kp [flt e q] w')
  (h:∀ v w' a q,m= .ok a q→Cx X0 w0 x y w'→Sp x y w x y w' (· =g)→Own w0 y w' g (cs' a q) T→Φ a q v w'→K v w'):
  St P ρ ⟨dst,.call {callee:= .value (.func k),args:=args,argTypes:=ts},ty,pos,after,gd⟩ w K Kp:=by
 unfold Jb at hk
 split at hk
 ·rename_i fn hf
  simp only [Bool.and_eq_true,Bool.not_eq_true'] at hk;refine J23 hf hk.1 hk.2 ha (Calls.mono hc ?_) he;intro e w' hr
  cases e with
  | returned v=>
   obtain⟨⟨a,q,hx,h1,hb⟩,h2⟩:=hr;obtain⟨c,s,o'⟩:=C.turn o h2 hb;exact h v w' a q hx c s o' h1
  | panicked ch=>
   obtain⟨⟨e,q,hx,rfl⟩,h2⟩:=hr;obtain⟨c,s⟩:=C.turn0 o h2;exact hp w' e q hx c s
  | outgrown=>exact hr.elim
 ·cases hk
end
theorem qp{L:Array Bool}{i j:Nat}(h:(L.setIfInBounds i true).getD j false=true):j=i∨L.getD j false=true:=by
 by_cases e:j=i
 ·exact .inl e
 ·right
  simp only [Array.getD_eq_getD_getElem?] at h ⊢;rw [Array.getElem?_setIfInBounds_ne (by omega)] at h;exact h
set_option maxRecDepth 100000 in
theorem io82:Zn Tryz.prog 82=some (.agg #[.int .i64 0,.int .i64 0],2,16):=by kernel_rfl
set_option maxRecDepth 100000 in
theorem Jws:Zl Tryz.prog 82 0=some 0:=by kernel_rfl
set_option maxRecDepth 100000 in
theorem Jwf:Zl Tryz.prog 82 1=some 1:=by kernel_rfl
end Go.Wf
namespace Go.Wf
open Go Go.Proofs Go.Ev
theorem if20:Tryz.prog.underlying 20=some (.interface #[]):=by kernel_rfl
theorem uu82:∃ fs,Tryz.prog.underlying 82=some (.struct fs):=by
 cases h:Tryz.prog.underlying 82 with
 | none=>
      have:(Tryz.prog.underlying 82).isSome=true:=by kernel_rfl
      rw [h] at this;cases this
 | some u=>
  have e:(match Tryz.prog.underlying 82 with | some (.struct _)=>true | _=>false)=true:=by kernel_rfl
  rw [h] at e
  cases u <;> first | exact⟨_,rfl⟩ | cases e
abbrev zE:List Value:=[.int .i64 0,.slice none 0 0,.bool false,.slice none 0 0,.bool false,.slice none 0 0,str [],.slice none 0 0]
section
variable {X:Nat→Prop} {w0:Bs} {x y:Nat→Prop} {w:World}
theorem Jw3{vs:List Value}(hl:Nat.ble vs.length 22=true){R:World→Prop}(h:R w):CallsD Tryz.prog 66 vs.toArray .returning w (vg R):=
 by
 refine CallsD.ofRec Tryz.func66 rfl rfl rfl hl rfl rfl (.inl ⟨rfl,rfl⟩) ?_;refine Rg<|Om<|Ol<|J3s if20 rfl rfl<|Nl<|J0v rfl<|J01 ⟨.inl rfl,h⟩
def lowB(a:Array Edge)(k:Nat):Bool:=a.toList.all fun e=> !Region.binds .any e || Nat.blt e.on k
theorem Vj{a:Array Edge}{k:Nat}(h:lowB a k=true){e:Edge}(he:e ∈ a)(hb:Region.binds .any e=true):e.on < k:=by
 unfold lowB at h
 have:=List.all_eq_true.1 h e<|Array.mem_toList_iff.2 he
 rw [hb] at this;exact Nat.le_of_ble_eq_true this
theorem nq{a b:Nat}{P:Prop}(h:Nat.beq a b=false:=by rfl):a=b→P:=fun e=>by rw [e,Nat.beq_refl] at h;cases h
structure IL (g1 g2 g3 g4:Nat) (e:Int) (p:Nat) (cs1 c2 c3:List Value) (f:Fr) (j:Nat):Prop where
 i0:j=0→f 17= .agg zE.toArray
 i1:j=1→f 18= .pointer (some ⟨g4,1,none⟩)
 i2:j=2→f 19= .int .i64 ((p:Nat):Int)
 i3:j=3→f 20= .pointer (some ⟨g4,0,none⟩)
 i4:j=4→f 21= .int .i64 e
 i5:j=5→cs1=zE
 i6:j=6→c2=[.int .i64 ((p:Nat):Int)]
 i7:j=7→c3=[.int .i64 e]
structure IH (X:Nat→Prop) (w0:Bs) (x y:Nat→Prop) (g1 g2 g3 g4:Nat) (e:Int) (p:Nat) (cs1 c2 c3:List Value) (f:Fr) (v:World):Prop where
 C:Cx X w0 x y v
 o1:Own w0 y v g1 cs1 31
 o2:Own w0 y v g2 c2 3
 o3:Own w0 y v g3 c3 32
 o4:Own w0 y v g4 [.int .i64 e,.int .i64 ((p:Nat):Int)] 82
 f0:f 0= .pointer (some ⟨g1,0,none⟩)
 f1:f 1= .pointer (some ⟨g2,0,none⟩)
 f2:f 2= .pointer (some ⟨g3,0,none⟩)
 f4:f 4= .pointer (some ⟨g4,0,none⟩)
 l1:cs1.length=8
 l2:c2.length=1
 l3:c3.length=1
theorem IL.mv{b g i k:Nat}{e:Int}{p:Nat}{a l m:List Value}{f:Fr}{j:Nat}(h:IL b g i k e p a l m f j)(d:Nat)(v:Value)(hd:d≠17+j):IL b g i k e p a l m (upd f d v) j:=by
 refine⟨fun q=>?_,fun q=>?_,fun q=>?_,fun q=>?_,fun q=>?_,h.i5,h.i6,h.i7⟩ <;> (unfold upd;rw [if_neg (by omega)])
 ·exact h.i0 q
 ·exact h.i1 q
 ·exact h.i2 q
 ·exact h.i3 q
 ·exact h.i4 q
theorem IH.mv{b g i j:Nat}{e:Int}{p:Nat}{a k l:List Value}{f:Fr}{v:World}(h:IH X w0 x y b g i j e p a k l f v)(d:Nat)(z:Value)(hd:5≤d):IH X w0 x y b g i j e p a k l (upd f d z) v:=
 ⟨h.C,h.o1,h.o2,h.o3,h.o4,by unfold upd;rw [if_neg (by omega)];exact h.f0,by unfold upd;rw [if_neg (by omega)];exact h.f1,by unfold upd;rw [if_neg (by omega)];exact h.f2,by unfold upd;rw [if_neg (by omega)];exact h.f4,h.l1,h.l2,h.l3⟩
def IV(X:Nat→Prop)(w0:Bs)(x y:Nat→Prop)(g1 g2 g3 g4:Nat)(e:Int)(p:Nat)(L:Array Bool)(f:Fr)(v:World):Prop:=
 ∃ cs1 c2 c3,IH X w0 x y g1 g2 g3 g4 e p cs1 c2 c3 f v∧∀ j,j < 8→L.getD j false=true→IL g1 g2 g3 g4 e p cs1 c2 c3 f j
theorem Jo7 {m r s:Nat} {e:Int} {p:Nat} {F:List Value} {v2 v3:Value} (C:Cx X w0 x y w) (A:Own w0 y w m F 31) (B:Own w0 y w r [v2] 3) (E:Own w0 y w s [v3] 32) (J:m≠r) (K:m≠s) (M:r≠s) (Y:F.length=8) {R:World→Prop}
  (h:∀ x' y' w',Cx X w0 x' y' w'→Own w0 y' w' m zE 31→Own w0 y' w' r [.int .i64 ((p:Nat):Int)] 3→Own w0 y' w' s [.int .i64 e] 32→R w'):
  CallsD Tryz.prog 66 [.pointer (some ⟨m,0,none⟩),.pointer (some ⟨r,0,none⟩),.pointer (some ⟨s,0,none⟩)].toArray (.panicking [flt e p]) w (vg R):=by
 obtain⟨fs,S⟩:=uu82;refine CallsD.ofRec Tryz.func66 rfl rfl rfl rfl rfl rfl (.inr rfl) ?_;refine Rg (Om<|Ol<|J3x if20 rfl rfl<|Nl<|J0w rfl<|Rg<|Om<|Ol<|J4k S rfl<|Om<|Ol<|St.extract rfl rfl<|Ol<|St.extract rfl rfl<|Ol<|J05 C io82 rfl ?_);intro Z w2 x2 y2 G C2 T U;have N:=G _ A.blk.lt;have P:=G _ B.blk.lt;have Q:=G _ E.blk.lt;replace A:=A.spn T;replace B:=B.spn T;replace E:=E.spn T;refine On (J0u (cs':=[(.int .i64 e),(.int .i64 ((p:Nat):Int))]) C2 U io82 rfl rfl rfl rfl rfl rfl ?_);intro w3 C3 V U;replace A:=A.spo V N;replace B:=B.spo V P;replace E:=E.spo V Q;refine Oa (Nl ?_);refine Rh (Om<|Ol<|J1s rfl<|Nl<|J0v rfl<|J01 ?_);refine J3r mixed (IV X w0 x2 y2 m r s Z e p) ?_ ?_ ?_ ?_
 ·intro i o ho e he hb
  match i,ho with
  | 0,ho=>cases ho;exact Vj (k:=0) (by kernel_rfl) he hb
  | 1,ho=>cases ho;exact Vj (k:=1) (by kernel_rfl) he hb
  | 2,ho=>cases ho;exact Vj (k:=2) (by kernel_rfl) he hb
  | 3,ho=>cases ho;exact Vj (k:=3) (by kernel_rfl) he hb
  | 4,ho=>cases ho;exact Vj (k:=4) (by kernel_rfl) he hb
  | 5,ho=>cases ho;exact Vj (k:=5) (by kernel_rfl) he hb
  | 6,ho=>cases ho;exact Vj (k:=6) (by kernel_rfl) he hb
  | 7,ho=>cases ho;exact Vj (k:=7) (by kernel_rfl) he hb
  | i+8,ho=>simp at ho
 ·have D:=(J2l C3);refine⟨F,_,_,⟨D.cx,A.spn D.sp,B.spn D.sp,E.spn D.sp,U.spn D.sp,rfl,rfl,rfl,rfl,Y,rfl,rfl⟩,fun j hj hh=>?_⟩
  rw [Array.getD_eq_getD_getElem?,Array.getElem?_replicate] at hh
  split at hh <;> cases hh
 ·intro L i o f v hs hc ho hi hed ⟨a,b,g,H,I⟩;have dn:∀ {u:Nat},hasE o.after u=true→L.getD u false=true:=fun ha=>by
   obtain⟨e,he,hb,rfl⟩:=Jee ha;exact hed e he hb
  have I':∀ {i d:Nat} {z:Value},d=17+i→∀ j,j < 8→(L.setIfInBounds i true).getD j false=true→j=i∨IL m r s Z e p a b g (upd f d z) j:=fun {i d z} hd j hj hh=>by
   rcases qp hh with h | h
   ·exact .inl h
   ·by_cases hji:j=i
    ·exact .inl hji
    ·exact .inr ((I j hj h).mv d z (by omega))
  match i,ho with
  | 0,ho=>
   cases ho
   refine⟨Nat.le_of_ble_eq_true rfl,OpSt.op<|J09 (cs:=zE) rfl (by kernel_rfl) ⟨a,b,g,H.mv _ _ (by decide),fun j hj hh=>?_⟩⟩
   rcases I' rfl j hj hh with rfl | h
   ·exact⟨fun _=>rfl,nq,nq,nq,nq,nq,nq,nq⟩
   ·exact h
  | 1,ho=>
   cases ho
   refine⟨Nat.le_of_ble_eq_true rfl,OpSt.op<|J0s Jwf H.f4 ⟨a,b,g,H.mv _ _ (by decide),fun j hj hh=>?_⟩⟩
   rcases I' rfl j hj hh with rfl | h
   ·exact⟨nq,fun _=>rfl,nq,nq,nq,nq,nq,nq⟩
   ·exact h
  | 2,ho=>
   cases ho
   have hd:=(I 1 (by decide)<|dn (by kernel_rfl)).i1 rfl;refine⟨Nat.le_of_ble_eq_true rfl,OpSt.op<|J0x H.o4 pl3 hd rfl ⟨a,b,g,H.mv _ _ (by decide),fun j hj hh=>?_⟩⟩
   rcases I' rfl j hj hh with rfl | h
   ·exact⟨nq,nq,fun _=>rfl,nq,nq,nq,nq,nq⟩
   ·exact h
  | 3,ho=>
   cases ho
   refine⟨Nat.le_of_ble_eq_true rfl,OpSt.op<|J0s Jws H.f4 ⟨a,b,g,H.mv _ _ (by decide),fun j hj hh=>?_⟩⟩
   rcases I' rfl j hj hh with rfl | h
   ·exact⟨nq,nq,nq,fun _=>rfl,nq,nq,nq,nq⟩
   ·exact h
  | 4,ho=>
   cases ho
   have hd:=(I 3 (by decide)<|dn (by kernel_rfl)).i3 rfl;refine⟨Nat.le_of_ble_eq_true rfl,OpSt.op<|J0x H.o4 pl32 hd rfl ⟨a,b,g,H.mv _ _ (by decide),fun j hj hh=>?_⟩⟩
   rcases I' rfl j hj hh with rfl | h
   ·exact⟨nq,nq,nq,nq,fun _=>rfl,nq,nq,nq⟩
   ·exact h
  | 5,ho=>
   cases ho
   have hd:=(I 0 (by decide)<|dn (by kernel_rfl)).i0 rfl;refine⟨trivial,OpSt.op<|J0u (vs:=zE) (cs':=zE) H.C H.o1 io31 H.f0 (by show(f 17).cells=_;rw [hd];rfl) rfl (by rw [H.l1];rfl) rfl (by rw [show a.drop (0+zE.length)=[] from List.drop_eq_nil_of_le (by rw [H.l1];decide)];rfl) ?_⟩;intro v' C' s' o';refine⟨zE,b,g,⟨C',o',H.o2.spo s'<|Ne.symm J,H.o3.spo s'<|Ne.symm K,H.o4.spo s'<|Ne.symm N,H.f0,H.f1,H.f2,H.f4,rfl,H.l2,H.l3⟩,fun j hj hh=>?_⟩
   rcases qp hh with rfl | h
   ·exact⟨nq,nq,nq,nq,nq,fun _=>rfl,nq,nq⟩
   ·have k:=I j hj h;exact⟨k.i0,k.i1,k.i2,k.i3,k.i4,fun _=>rfl,k.i6,k.i7⟩
  | 6,ho=>
   cases ho
   have hd:=(I 2 (by decide)<|dn (by kernel_rfl)).i2 rfl;refine⟨trivial,OpSt.op<|J0u (vs:=[.int .i64 ((p:Nat):Int)]) (cs':=[.int .i64 ((p:Nat):Int)]) H.C H.o2 io3 H.f1 (by show(f 19).cells=_;rw [hd];rfl) rfl (by rw [H.l2];rfl) rfl (by rw [show b.drop (0+[Value.int .i64 ((p:Nat):Int)].length)=[] from List.drop_eq_nil_of_le (by rw [H.l2];exact Nat.le_refl 1)];rfl) ?_⟩;intro v' C' s' o';refine⟨a,_,g,⟨C',H.o1.spo s' J,o',H.o3.spo s'<|Ne.symm M,H.o4.spo s'<|Ne.symm P,H.f0,H.f1,H.f2,H.f4,H.l1,rfl,H.l3⟩,fun j hj hh=>?_⟩
   rcases qp hh with rfl | h
   ·exact⟨nq,nq,nq,nq,nq,nq,fun _=>rfl,nq⟩
   ·have k:=I j hj h;exact⟨k.i0,k.i1,k.i2,k.i3,k.i4,k.i5,fun _=>rfl,k.i7⟩
  | 7,ho=>
   cases ho
   have hd:=(I 4 (by decide)<|dn (by kernel_rfl)).i4 rfl;refine⟨trivial,OpSt.op<|J0u (vs:=[.int .i64 e]) (cs':=[.int .i64 e]) H.C H.o3 io32 H.f2 (by show(f 21).cells=_;rw [hd];rfl) rfl (by rw [H.l3];rfl) rfl (by rw [show g.drop (0+[Value.int .i64 e].length)=[] from List.drop_eq_nil_of_le (by rw [H.l3];exact Nat.le_refl 1)];rfl) ?_⟩;intro v' C' s' o';refine⟨a,b,_,⟨C',H.o1.spo s' K,H.o2.spo s' M,o',H.o4.spo s'<|Ne.symm Q,H.f0,H.f1,H.f2,H.f4,H.l1,H.l2,rfl⟩,fun j hj hh=>?_⟩
   rcases qp hh with rfl | h
   ·exact⟨nq,nq,nq,nq,nq,nq,nq,fun _=>rfl⟩
   ·have k:=I j hj h;exact⟨k.i0,k.i1,k.i2,k.i3,k.i4,k.i5,k.i6,fun _=>rfl⟩
  | i+8,ho=>simp at ho
 ·intro L f v hs hall ⟨a,b,g,H,I⟩;have tf:∀ j,j < 8→L.getD j false=true:=fun j hj=>by
   have hs':L.size=8:=hs
   have:=hall j (by omega)
   simpa [Array.getD_eq_getD_getElem?,hs',hj] using this
  refine⟨.inl rfl,h x2 y2 v H.C ?_ ?_ ?_⟩
  ·have:=(I 5 (by decide)<|tf 5 (by decide)).i5 rfl;subst this;exact H.o1
  ·have:=(I 6 (by decide)<|tf 6 (by decide)).i6 rfl;subst this;exact H.o2
  ·have:=(I 7 (by decide)<|tf 7 (by decide)).i7 rfl;subst this;exact H.o3
theorem Jpo{f:Fr}{p t g:Nat}{v:Value}{T:TypeId}(ht:Y1 Tryz.prog t=true)(o:Own w0 y w g [v] T)(hp:f p= .pointer (some ⟨g,0,none⟩))(tmps:Array Value)(hf:∀ t,tmps.getD t undef=f t):(resM tmps (.cell p t)).run Tryz.prog w= .ok v w:=by
 unfold resM;simp only [hf p,hp];simp [asAddr,loadVar,Vq ht,o.blk.cell (j:=0) rfl]
theorem Jjd{f:Fr}{a b d:Nat}{cs:List Value}{e g:Value}(i:Own w0 y w a cs 31)(j:Own w0 y w b [e] 3)(k:Own w0 y w d [g] 32)(hl:cs.length=8)(l:f 2= .pointer (some ⟨a,0,none⟩))(m:f 3= .pointer (some ⟨b,0,none⟩))(o:f 4= .pointer (some ⟨d,0,none⟩)):
  ∀ tmps:Array Value,(∀ t,tmps.getD t undef=f t)→(results Tryz.f30 tmps).run Tryz.prog w= .ok (.tuple #[.agg cs.toArray,e,g]) w:=by
 intro tmps hf;have p:=K1 (P:=Tryz.prog) (r:= .cell 2 31) (resV.c i l ag31 hl) tmps hf;have s:=Jpo pl3 j m tmps hf;have v:=Jpo pl32 k o tmps hf;simp only [Xo,show Tryz.f30.results= #[.cell 2 31,.cell 3 3,.cell 4 32] from rfl,List.mapM_toArray,List.mapM_cons,List.mapM_nil,Sem.run_bind,Sem.run_map];rw [p];simp only [Result.andThen_ok];rw [s];simp only [Result.andThen_ok];rw [v];simp
end
theorem Jt0{X:Nat→Prop}{w:World}(hX:XB X w){s:List UInt8}(hs:s.length≤65536):CRt 30 #[str s] w fun v w'=>∃ v0 v1 v2,v= .tuple #[v0,v1,v2]∧RV Jg X w' v0 (rdT s).1∧v1= .int .i64 (((rdT s).2.1:Nat):Int)∧v2= .int .i64 (rdT s).2.2:=by
 have C:=J07 hX;have hml:maxLen=9223372036854775807:=rfl;refine J4c (args:=[str s]) Tryz.func30 rfl rfl rfl rfl Tryz.func66 rfl rfl ?_;refine J0y (Ol<|J05 C io31 rfl ?_);intro g1 w1 x1 y1 ar C1 s1 b;refine Ol (J05 C1 io3 rfl ?_);intro g2 w2 x2 y2 ad C2 s2 d;have j:=ad _ b.blk.lt;replace b:=b.spn s2;refine Ol (J05 C2 io32 rfl ?_);intro g3 w3 x3 y3 E C3 s3 g;have k:=E _ b.blk.lt;have m:=E _ d.blk.lt;replace b:=b.spn s3;replace d:=d.spn s3;refine Nl ⟨rfl,?_⟩;refine Rg (Om<|Ol<|J09 (cs:=[str s,.int .i64 0]) rfl (by kernel_rfl)<|Ol<|J09 (cs:=[str s,.int .i64 0,.int .i64 0]) rfl (by kernel_rfl)<|Ol<|J1e C3 rfl ?_);intro gr w4 x4 y4 x G H i;have r:=x _ b.blk.lt;have y:=x _ d.blk.lt;have z:=x _ g.blk.lt;replace b:=b.spn H;replace d:=d.spn H;replace g:=g.spn H;refine Oa<|Nl<|Rg<|Om<|Ol<|J3z (cs':=fun a q=>rc s q 0) G i cb67 rfl rfl (Ji9 G.bd (s:=s) (p:=0) (o:=0) i.blk (G.yx _ i.mem) (Nat.zero_le _) hs (by decide) (V9 s.length) (Jpa s.length 0 (by omega))<|Nat.le_refl 0) ?_ ?_
 ·intro w5 e p hx I l;refine Jo7 I (b.spo l r) (d.spo l y) (g.spo l z) j k m rfl fun x' y' w' C' J K L=>⟨_,Jjd J K L rfl rfl rfl rfl,J02 ⟨_,_,_,rfl,?_⟩ C'.below⟩;rw [rd_er hx];exact⟨(Ju Kq (by decide) (by decide) (by unfold maxLen;decide) RS.nil RS.nil RS.nil RS.nil).tr (Tr.weak C'.base),rfl,rfl⟩
 intro v w5 a q hx I l i h5;have hq:=rd_le hx;obtain⟨M,N,P,Q,R,S,T,U,rfl,h⟩:=J37 h5;replace b:=b.spo l r;replace d:=d.spo l y;replace g:=g.spo l z;refine On (J0u (cs':=ec a M N P Q R S T U) I b io31 rfl rfl rfl rfl rfl rfl ?_);intro w6 V B b;replace h:=h.sp B;replace d:=d.spo B (Ne.symm j);replace g:=g.spo B (Ne.symm k);replace i:=i.spo B (Ne.symm r);refine Nl (Rg<|Om<|Ol<|J03 rfl<|Ol<|J0s Ym rfl<|Ol<|J08 V i cb68 rfl rfl (X8 V.bd (s:=s) (p:=q) (o:=0) i.blk (V.yx _ i.mem) hq hs) ?_);intro v7 w7 C7 D i h7;subst h7;replace h:=h.sp D;replace b:=b.spo D r;replace d:=d.spo D y;replace g:=g.spo D z;refine Nl<|Rh<|Om<|Ol<|J03 rfl<|Ol<|J0s Ym rfl<|Ol<|J0s Zb rfl<|Ol<|J0x i pl3 rfl rfl<|Om<|Ol<|J1v un9 rfl<|Ol<|J1h rfl rfl (fun hc=>?_)<|fun hc=>?_
 ·refine Nl (J0w rfl<|J0y<|Om<|Ol<|J03 rfl<|Ol<|J0s Ym rfl<|Ol<|J0s Zb rfl<|Ol<|J0x i pl3 rfl rfl<|Ol<|J09 (cs:=[.int .i64 19,.int .i64 ((spM s q:Nat):Int)]) rfl (by kernel_rfl)<|Ol<|J1z (by kernel_rfl)<|On<|J2t rfl ?_);refine Jo7 C7 b d g j k m rfl fun x' y' w' C' J K L=>⟨_,Jjd J K L rfl rfl rfl rfl,J02 ⟨_,_,_,rfl,?_⟩ C'.below⟩;rw [Jpy hx hc];exact⟨(Ju Kq (by decide) (by decide) (by unfold maxLen;decide) RS.nil RS.nil RS.nil RS.nil).tr (Tr.weak C'.base),rfl,rfl⟩
 refine Nl (J0v rfl<|J01<|Rg<|Ol<|J0z (vs:=ec a M N P Q R S T U) b ag31 rfl rfl rfl<|On<|J0u (cs':=ec a M N P Q R S T U) C7 b io31 rfl rfl rfl rfl rfl rfl ?_);intro w8 C8 Y b;replace h:=h.sp Y;replace d:=d.spo Y (Ne.symm j);replace g:=g.spo Y (Ne.symm k);refine On (J0u (cs':=[.int .i64 0]) C8 d io3 rfl rfl rfl rfl rfl rfl ?_);intro w9 C9 Z d;replace h:=h.sp Z;replace b:=b.spo Z j;replace g:=g.spo Z (Ne.symm m);refine On (J0u (cs':=[.int .i64 0]) C9 g io32 rfl rfl rfl rfl rfl rfl ?_);intro au F A g;replace h:=h.sp A;replace b:=b.spo A k;replace d:=d.spo A m;refine Nl (J04 ?_);refine Jw3 rfl ⟨_,Jjd b d g rfl rfl rfl rfl,J02 ⟨_,_,_,rfl,?_⟩ F.below⟩;rw [rd_ok hx hc];exact⟨(Ju a h.lo h.hi h.name h.n h.num h.den h.args).tr (Tr.weak F.base),rfl,rfl⟩
end Go.Wf
namespace Go.Wf
open Go Go.Proofs
theorem Kt:Zl Tryz.prog 62 0=some 0:=by kernel_rfl
theorem Zd:Zl Tryz.prog 62 1=some 1:=by kernel_rfl
theorem Kz:Zl Tryz.prog 62 2=some 2:=by kernel_rfl
theorem Va:Zl Tryz.prog 62 3=some 3:=by kernel_rfl
end Go.Wf
namespace Go.Wf
open Go Go.Proofs Go.RowKit
theorem yr{X:Nat→Prop}{w:World}(hX:XB X w){g:Nat}{s:List UInt8}{p:Nat}{e:Int}{o:Nat}(hB:Blk w g (rc4 s p e o) 62)(hXg:X g){q:Nat}{c:Int}  :Calls Tryz.prog 33 #[(.pointer (some ⟨g,0,none⟩)),(.int .i64 ((q:Nat):Int)),(.int .i64 c)] w (RetM w g fun v w'=>v= .tuple #[]∧Blk w' g (rc4 s (plF e p q) (erF e c) o) 62):=by
 have C:=J1t g hX hXg;have b:=J38 hB;refine Cgo (args:=[(.pointer (some ⟨g,0,none⟩)),(.int .i64 ((q:Nat):Int)),(.int .i64 c)]) Tryz.func33 rfl rfl rfl<|Rg<|Om<|Ol<|J03 rfl<|Ol<|J0s Kz rfl<|Ol<|J0x b pl3 rfl rfl<|Ol<|J1a rfl rfl (fun a=>?_)<|fun a=>?_
 ·refine Nl (J0w rfl<|Rg<|Om<|Om<|Ol<|J03 rfl<|Ol<|J0s Zd rfl<|On<|J0u (cs':=[(str s),(.int .i64 ((q:Nat):Int)),(.int .i64 e),(.int .i64 ((o:Nat):Int))]) C b io3 rfl rfl rfl rfl rfl rfl ?_);intro k d l h;refine Nl (J0y<|Om<|Om<|Ol<|J03 rfl<|Ol<|J0s Kz rfl<|On<|J0u (cs':=[(str s),(.int .i64 ((q:Nat):Int)),(.int .i64 c),(.int .i64 ((o:Nat):Int))]) d h io3 rfl rfl rfl rfl rfl rfl ?_);intro m i r j;refine Nl<|Zp rfl<|RetM.intro ⟨?_,?_⟩ i.below
  ·exact rfl
  exact Blk.to4 j.blk (Jvr a) (erF_t a) rfl
 refine Nl<|J0v rfl<|J01<|Zp rfl<|RetM.intro ⟨?_,?_⟩ C.below
 ·exact rfl
 exact Blk.to4 b.blk (Jup a) (erF_f a) rfl
theorem Jp4{X:Nat→Prop}{w:World}(hX:XB X w){g:Nat}{s:List UInt8}{p:Nat}{e:Int}{o:Nat}(hB:Blk w g (rc4 s p e o) 62)(hXg:X g)(hp:p≤s.length)(hs:s.length≤65536):Calls Tryz.prog 71 #[(.pointer (some ⟨g,0,none⟩))] w (RetM w g fun v w'=>v= .tuple #[]∧Blk w' g (rc4 s (plF e p (spM s p)) e o) 62):=by
 have C:=J1t g hX hXg;have E:=J38 hB;refine Cgo (args:=[(.pointer (some ⟨g,0,none⟩))]) Tryz.func71 rfl rfl rfl (W.block<|J1g (fun μ f v=>∃ (x y:Nat→Prop) (i:Nat),Cx X ⟨w,(· =g)⟩ x y v∧f 0=(.pointer (some ⟨g,0,none⟩))∧Own ⟨w,(· =g)⟩ y v g [(str s),(.int .i64 ((i:Nat):Int)),(.int .i64 e),(.int .i64 ((o:Nat):Int))] 62∧i≤s.length∧(e=0→spM s i=spM s p)∧(¬ e=0→i=p)∧μ=(s.length - i)) _ ⟨_,_,p,C,rfl,E,hp,(fun _=>rfl),(fun _=>rfl),rfl⟩ ?_);rintro L M N ⟨P,Q,i,F,A,k,hi,hR,hn,G⟩;obtain⟨I,rfl⟩:=rebK (aC A aN);clear A;refine J06<|J06<|J12 mixed 26 F<|Qm<|Qn<|Qf Kz rfl<|Qd k pl3 rfl rfl ?_
 by_cases d:e=0
 ·refine Qp (fun _=>J1y (t:=true) rfl rfl (decide_eq_true d) ⟨rfl,rfl⟩)<|Qm<|Qg<|Qm<|Qg<|Qn<|Qg<|Qf Zd rfl<|Qg<|Qd k pl3 rfl rfl<|Qg<|Qm<|Qg<|Qn<|Qg<|Qf Kt rfl<|Qg<|Qd k pl9 rfl rfl<|Qg<|Qp (fun _=>J1v un9 rfl ⟨rfl,rfl⟩) ?_
  by_cases H:i < s.length
  ·refine Qg<|Qp (fun _=>J15 (t:=true) rfl rfl (decide_eq_true (by omega)) ⟨rfl,rfl⟩)<|QT<|Qm<|Qg<|Qm<|Qg<|Qn<|Qg<|Qf Kt rfl<|Qg<|Qd k pl9 rfl rfl<|Qg<|Qm<|Qg<|Qn<|Qg<|Qf Zd rfl<|Qg<|Qd k pl3 rfl rfl<|Qz fun r l m=>?_
   replace k:=k.spn m;refine OgD<|J1p (j:=i) (c:=(s.getD i 0)) un9 rfl rfl rfl (Jf (by omega))<|OgD<|J1a rfl rfl (fun z=>?_)<|fun z=>?_
   ·refine OT (Nl<|J0w rfl<|J01<|W.block<|J0y<|Om<|Om<|Ol<|J03 rfl<|Ol<|J0s Zd rfl<|Ol<|J0x k pl3 rfl rfl<|Ol<|St.add rfl rfl (Jc (a:=i) (b:=1) (by omega))<|Ol<|J03 rfl<|Ol<|J0s Zd rfl<|On<|J0u (cs':=[(str s),(.int .i64 ((i+1:Nat):Int)),(.int .i64 e),(.int .i64 ((o:Nat):Int))]) l k io3 rfl rfl rfl rfl rfl rfl ?_);intro J B K D;refine Nl<|⟨_,(by omega),_,_,(i+1),B,rfl,D,(by omega),(fun h=>(Jdu (by omega) (by omega)).trans (hR h)),(fun h=>absurd d h),rfl⟩
   refine OT<|Nl<|J0v rfl<|J1j<|Zp rfl<|RetM.intro ⟨?_,?_⟩ l.below
   ·exact rfl
   exact Blk.to4 k.blk (Ju5 d<|Ji7 (hR d) (by omega)) rfl rfl
  refine Qg<|Qp (fun _=>J15 (t:=false) rfl rfl (decide_eq_false (by omega)) ⟨rfl,rfl⟩)<|QT<|Qm<|Qx<|Qx<|Qx<|Qx<|Qx<|Qx<|Qx<|Qx<|Qz fun r l m=>?_
  replace k:=k.spn m;refine Oz<|Oz<|OF<|Nl<|J0v rfl<|J1j<|Zp rfl<|RetM.intro ⟨?_,?_⟩ l.below
  ·exact rfl
  exact Blk.to4 k.blk (Ju5 d<|Jd5 (hR d) (by omega)) rfl rfl
 refine Qp (fun _=>J1y (t:=false) rfl rfl (decide_eq_false d) ⟨rfl,rfl⟩)<|Qm<|Qx<|Qx<|Qx<|Qx<|Qx<|Qx<|Qx<|Qx<|Qx<|Qx<|QF<|Qm<|Qx<|Qx<|Qx<|Qx<|Qx<|Qx<|Qx<|Qx<|Qz fun r l m=>?_
 replace k:=k.spn m;refine Oz<|Oz<|OF<|Nl<|J0v rfl<|J1j<|Zp rfl<|RetM.intro ⟨?_,?_⟩ l.below
 ·exact rfl
 exact Blk.to4 k.blk ((hn d).trans (Jup d)) rfl rfl
theorem zr{X:Nat→Prop}{w:World}(hX:XB X w){g:Nat}{s:List UInt8}{t:Rr Unit}{o:Nat}(hB:Blk w g (rc4 s (plR t) (ecR t) o) 62)(hXg:X g)(ht:t.fine s)(hs:s.length≤65536):
  Calls Tryz.prog 71 #[(.pointer (some ⟨g,0,none⟩))] w (RetM w g fun v w'=>v= .tuple #[]∧Blk w' g (rc4 s (plR<|blR s t) (ecR<|blR s t) o) 62):=by
 have h:=Jp4 hX hB hXg (zh ht) hs;rw [bl_pl ht,bl_ec (s:=s)] at h;exact h
theorem Xj{X:Nat→Prop}{w:World}(hX:XB X w){g:Nat}{s:List UInt8}{t:Rr Unit}{o:Nat}(hB:Blk w g (rc4 s (plR t) (ecR t) o) 62)(hXg:X g)(ht:t.fine s)(hs:s.length≤65536):Calls Tryz.prog 32 #[(.pointer (some ⟨g,0,none⟩))] w (RetM w g fun v w'=>v=(.int .u8 (((pkS s t):Nat):Int))∧Blk w' g (rc4 s (plR (blR s t)) (ecR (blR s t)) o) 62):=by
 have C:=J1t g hX hXg;have e:=J38 hB;refine Cgo (args:=[(.pointer (some ⟨g,0,none⟩))]) Tryz.func32 rfl rfl rfl (Rg<|Oa<|Nl<|Rg<|Om<|Ol<|J08 C e cb71 rfl rfl (zr C.bd (s:=s) (t:=t) (o:=o) e.blk (C.yx _ e.mem) ht hs) ?_);intro x y p z a A;refine Nl<|J06<|J06<|J12 mixed 15 p<|Qm<|Qn<|Qf Kz rfl<|Qd a pl3 rfl rfl ?_
 by_cases b:(ecR<|blR s t)=0
 ·refine Qp (fun _=>J17 (t:=false) rfl rfl (by rw [decide_eq_true b];rfl) ⟨rfl,rfl⟩)<|Qm<|Qg<|Qm<|Qg<|Qn<|Qg<|Qf Zd rfl<|Qg<|Qd a pl3 rfl rfl<|Qg<|Qm<|Qg<|Qn<|Qg<|Qf Kt rfl<|Qg<|Qd a pl9 rfl rfl<|Qg<|Qp (fun _=>J1v un9 rfl ⟨rfl,rfl⟩)<|Qz fun k d h=>?_
  replace a:=a.spn h;refine OgD<|J13 rfl rfl (fun i=>?_)<|fun i=>?_
  ·refine OF<|Nl<|J0w rfl<|Rg<|Oa<|Nl<|J04<|Jo rfl (J35 rfl)<|RetM.intro ⟨?_,?_⟩ d.below
   ·exact congrArg (Value.int _)<|pk_2 ht b (by omega)
   exact Blk.to4 a.blk rfl rfl rfl
  refine OF<|Nl<|J0v rfl<|J01<|J06<|J12 mixed 8 d<|Qm<|Qn<|Qf Kt rfl<|Qd a pl9 rfl rfl<|Qm<|Qn<|Qf Zd rfl<|Qd a pl3 rfl rfl<|Qz fun r l m=>?_
  replace a:=a.spn m;refine Ol<|J1p (j:=plR<|blR s t) (c:=(s.getD (plR<|blR s t) 0)) un9 rfl rfl rfl (Jf (by omega))<|Oa<|Nl<|J04<|Jo rfl (J35 rfl)<|RetM.intro ⟨?_,?_⟩ l.below
  ·exact congrArg (Value.int _)<|pk_3 ht b
  exact Blk.to4 a.blk rfl rfl rfl
 refine Qp (fun _=>J17 (t:=true) rfl rfl (by rw [decide_eq_false b];rfl) ⟨rfl,rfl⟩)<|Qm<|Qx<|Qx<|Qx<|Qx<|Qx<|Qx<|Qx<|Qx<|Qx<|Qz fun k d h=>?_
 replace a:=a.spn h;refine Oz<|OT<|Nl<|J0w rfl<|Rg<|Oa<|Nl<|J04<|Jo rfl (J35 rfl)<|RetM.intro ⟨?_,?_⟩ d.below
 ·exact congrArg (Value.int _)<|pk_1 b
 exact Blk.to4 a.blk rfl rfl rfl
theorem X9{X:Nat→Prop}{w:World}(hX:XB X w){g:Nat}{s:List UInt8}{t:Rr Unit}{o:Nat}(hB:Blk w g (rc4 s (plR t) (ecR t) o) 62)(hXg:X g){c:Nat}(ht:t.fine s)(hs:s.length≤65536):Calls Tryz.prog 69 #[(.pointer (some ⟨g,0,none⟩)),(.int .u8 ((c:Nat):Int))] w (RetM w g fun v w'=>v= .tuple #[]∧Blk w' g (rc4 s (plR (tkR s t c)) (ecR (tkR s t c)) o) 62):=by
 have C:=J1t g hX hXg;have P:=J38 hB;refine Cgo (args:=[(.pointer (some ⟨g,0,none⟩)),(.int .u8 ((c:Nat):Int))]) Tryz.func69 rfl rfl rfl<|J06<|J06 ?_
 by_cases hpc:pkS s t=c
 ·by_cases he:ecR (blR s t)=0
  ·by_cases hin:plR (blR s t) < s.length
   ·refine J2f mixed 21 1 [[],[0],[],[1,2],[3],[4],[4,5],[4,6],[1,4,7],[4,8],[4,9],[10],[11],[11,12],[11,13],[1,11,14],[11],[11,16],[11,17],[1,11,18],[1,11,19]] C P [fx<|.pointer (some ⟨g,0,none⟩),fun(z:Gh) (v:Value) (w':World)=>(v=(.int .u8 (((pkS s t):Nat):Int)))∧Own ⟨w,(· =g)⟩ z.2 w' g (rc4 s (plR<|blR s t) (ecR<|blR s t) o) 62,fx<|.int .u8 ((c:Nat):Int),fx<|.bool false,fx<|.bool false,fx<|.pointer (some ⟨g,0,none⟩),fx<|.pointer (some ⟨g,0,none⟩),fx<|.pointer (some ⟨g,2,none⟩),fx<|.int .i64 (ecR<|blR s t),fx<|.bool false,fx<|.bool false,fx<|.bool false,fx<|.pointer (some ⟨g,0,none⟩),fx<|.pointer (some ⟨g,0,none⟩),fx<|.pointer (some ⟨g,1,none⟩),fx<|.int .i64 ((plR (blR s t):Nat):Int),fx<|.pointer (some ⟨g,0,none⟩),fx<|.pointer (some ⟨g,0,none⟩),fx<|.pointer (some ⟨g,0,none⟩),fx<|str s,fx<|.int .i64 ((s.length:Nat):Int)] (by kernel_rfl) ⟨sx,(fun _ _ _ _ _ ⟨h,o⟩ r=>⟨h,o.spn r.sp⟩),sx,sx,sx,sx,sx,sx,sx,sx,sx,sx,sx,sx,sx,sx,sx,sx,sx,sx,sx,trivial⟩ fun f8 F fJ c7 D=>?_
    have E:=c7.cx;have D:Keep [4,5,6,7,8,9,10,11,12,13,14,15,16,17,18,19,20,21,22,23,24] _ f8:=D;refine⟨⟨fun _ _=>?_,fun⟨c8,_⟩ J=>?_,fun _ _=>?_,fun⟨c9,da,_⟩ _=>?_,fun⟨db,_⟩ _=>?_,fun⟨dc,_⟩ _=>?_,fun⟨dd,de,_⟩ _=>?_,fun⟨df,dg,_⟩ _=>?_,fun⟨dh,di,dj,_⟩ _=>?_,fun⟨dk,dl,_⟩ _=>?_,fun⟨dm,dn,_⟩ _=>?_,fun⟨dp,_⟩ _=>?_,fun⟨dq,_⟩ _=>?_,fun⟨dr,ds,_⟩ _=>?_,fun⟨dt,du,_⟩ _=>?_,fun⟨dv,dw,dx,_⟩ _=>?_,fun⟨dy,_⟩ _=>?_,fun⟨dz,dA,_⟩ _=>?_,fun⟨dB,dC,_⟩ _=>?_,fun⟨dD,dE,dF,_⟩ _=>?_,fun⟨dG,dH,dI,_⟩ _=>?_,trivial⟩,fun⟨dJ,dK,dL,dM,dN,dO,dP,dQ,dR,dS,dT,dU,dV,dW,dX,dY,dZ,d0,d1,d2,d3,_⟩=>?_⟩
    ·exact Ja D aN fun _=>OpSt.op<|J00 ⟨F,RZ.same E,rfl⟩
    ·replace J:=J rfl;refine Ja D (aC c8 aN) fun _=>OpSt.op (J08 E J cb32 rfl rfl (Xj E.bd (s:=s) (t:=t) (o:=o) J.blk (E.yx _ J.mem) ht hs) ?_);intro fK fL d4 d5 d6 d7;exact⟨F,RT.step d4 d5,d7,d6⟩
    ·exact Ja D aN fun _=>OpSt.op<|J00 ⟨F,RZ.same E,rfl⟩
    ·obtain⟨d8,fM⟩:=c9;exact Ja D (aC d8<|aC da aN) fun _=>OpSt.op<|J17 (t:=false) rfl rfl (by rw [decide_eq_true (by omega)];rfl) ⟨F,RZ.same E,rfl⟩
    ·exact Ja D (aC db aN) fun _=>OpSt.op<|J00 ⟨F,RZ.same E,rfl⟩
    ·exact Ja D (aC dc aN) fun _=>J1c rfl<|J00 ⟨F,RZ.same E,rfl⟩
    ·exact Ja D (aC dd<|aC de aN) fun _=>J1c rfl<|J03 rfl ⟨F,RZ.same E,rfl⟩
    ·exact Ja D (aC df<|aC dg aN) fun _=>J1c rfl<|J0s Kz rfl ⟨F,RZ.same E,rfl⟩
    ·obtain⟨d9,eb⟩:=dh;exact Ja D (aC d9<|aC di<|aC dj aN) fun _=>J1c rfl<|J0x eb pl3 rfl rfl ⟨F,RZ.same E,rfl⟩
    ·exact Ja D (aC dk<|aC dl aN) fun _=>J1c rfl<|J17 (t:=false) rfl rfl (by rw [decide_eq_true he];rfl) ⟨F,RZ.same E,rfl⟩
    ·exact Ja D (aC dm<|aC dn aN) fun _=>OpSt.op<|J1f (t:=false) rfl ⟨F,RZ.same E,rfl⟩
    ·exact Ja D (aC dp aN) fun _=>OpSt.op<|J00 ⟨F,RZ.same E,rfl⟩
    ·exact Ja D (aC dq aN) fun _=>J1c rfl<|J00 ⟨F,RZ.same E,rfl⟩
    ·exact Ja D (aC dr<|aC ds aN) fun _=>J1c rfl<|J03 rfl ⟨F,RZ.same E,rfl⟩
    ·exact Ja D (aC dt<|aC du aN) fun _=>J1c rfl<|J0s Zd rfl ⟨F,RZ.same E,rfl⟩
    ·obtain⟨ed,ee⟩:=dv;exact Ja D (aC ed<|aC dw<|aC dx aN) fun _=>J1c rfl<|J0x ee pl3 rfl rfl ⟨F,RZ.same E,rfl⟩
    ·exact Ja D (aC dy aN) fun _=>J1c rfl<|J00 ⟨F,RZ.same E,rfl⟩
    ·exact Ja D (aC dz<|aC dA aN) fun _=>J1c rfl<|J03 rfl ⟨F,RZ.same E,rfl⟩
    ·exact Ja D (aC dB<|aC dC aN) fun _=>J1c rfl<|J0s Kt rfl ⟨F,RZ.same E,rfl⟩
    ·obtain⟨ef,eg⟩:=dD;exact Ja D (aC ef<|aC dE<|aC dF aN) fun _=>J1c rfl<|J0x eg pl9 rfl rfl ⟨F,RZ.same E,rfl⟩
    ·obtain⟨eh,ej⟩:=dG;exact Ja D (aC eh<|aC dH<|aC dI aN) fun _=>J1c rfl<|J1v un9 rfl ⟨F,RZ.same E,rfl⟩
    obtain⟨Q,N⟩:=dK;obtain⟨ek,rfl⟩:=mixK D (aC dJ<|aC Q<|aC dL<|aC dM<|aC dN<|aC dO<|aC dP<|aC dQ<|aC dR<|aC dS<|aC dT<|aC dU<|aC dV<|aC dW<|aC dX<|aC dY<|aC dZ<|aC d0<|aC d1<|aC d2<|aC d3 aN);refine OgD (J21 (t:=false) rfl rfl (decide_eq_false (by omega))<|OF<|Nl<|J0v rfl<|J01 ?_);have hpl:=zh ht;refine J0y (Om<|Om<|Ol<|J03 rfl<|Ol<|J0s Zd rfl<|Ol<|J0x N pl3 rfl rfl<|Ol<|St.add rfl rfl (Jc (a:=plR<|blR s t) (b:=1) (by omega))<|Ol<|J03 rfl<|Ol<|J0s Zd rfl<|On<|J0u (cs':=[(str s),(.int .i64 (((plR<|blR s t)+1:Nat):Int)),(.int .i64 (ecR<|blR s t)),(.int .i64 ((o:Nat):Int))]) E N io3 rfl rfl rfl rfl rfl rfl ?_);intro el R em S;refine Nl<|Zp rfl<|RetM.intro ⟨?_,?_⟩ R.below
    ·exact rfl
    exact Blk.to4 S.blk (Jvk ht he hpc hin) (Jvf ht he hpc hin) rfl
   refine J2f mixed 21 1 [[],[0],[],[1,2],[3],[4],[4,5],[4,6],[1,4,7],[4,8],[4,9],[10],[11],[11,12],[11,13],[1,11,14],[11],[11,16],[11,17],[1,11,18],[1,11,19]] C P [fx<|.pointer (some ⟨g,0,none⟩),fun(z:Gh) (v:Value) (w':World)=>(v=(.int .u8 (((pkS s t):Nat):Int)))∧Own ⟨w,(· =g)⟩ z.2 w' g (rc4 s (plR<|blR s t) (ecR<|blR s t) o) 62,fx<|.int .u8 ((c:Nat):Int),fx<|.bool false,fx<|.bool false,fx<|.pointer (some ⟨g,0,none⟩),fx<|.pointer (some ⟨g,0,none⟩),fx<|.pointer (some ⟨g,2,none⟩),fx<|.int .i64 (ecR<|blR s t),fx<|.bool false,fx<|.bool false,fx<|.bool false,fx<|.pointer (some ⟨g,0,none⟩),fx<|.pointer (some ⟨g,0,none⟩),fx<|.pointer (some ⟨g,1,none⟩),fx<|.int .i64 ((plR (blR s t):Nat):Int),fx<|.pointer (some ⟨g,0,none⟩),fx<|.pointer (some ⟨g,0,none⟩),fx<|.pointer (some ⟨g,0,none⟩),fx<|str s,fx<|.int .i64 ((s.length:Nat):Int)] (by kernel_rfl) ⟨sx,(fun _ _ _ _ _ ⟨h,o⟩ r=>⟨h,o.spn r.sp⟩),sx,sx,sx,sx,sx,sx,sx,sx,sx,sx,sx,sx,sx,sx,sx,sx,sx,sx,sx,trivial⟩ fun T y en U l=>?_
   have d:=U.cx;have l:Keep [4,5,6,7,8,9,10,11,12,13,14,15,16,17,18,19,20,21,22,23,24] _ T:=l;refine⟨⟨fun _ _=>?_,fun⟨V,_⟩ G=>?_,fun _ _=>?_,fun⟨Y,Z,_⟩ _=>?_,fun⟨aa,_⟩ _=>?_,fun⟨ab,_⟩ _=>?_,fun⟨ac,ad,_⟩ _=>?_,fun⟨ae,af,_⟩ _=>?_,fun⟨ag,ah,ai,_⟩ _=>?_,fun⟨aj,ak,_⟩ _=>?_,fun⟨am,an,_⟩ _=>?_,fun⟨ao,_⟩ _=>?_,fun⟨aq,_⟩ _=>?_,fun⟨ar,au,_⟩ _=>?_,fun⟨av,aw,_⟩ _=>?_,fun⟨ax,ay,az,_⟩ _=>?_,fun⟨aA,_⟩ _=>?_,fun⟨aB,aD,_⟩ _=>?_,fun⟨aE,aF,_⟩ _=>?_,fun⟨aG,aH,aI,_⟩ _=>?_,fun⟨aJ,aK,aL,_⟩ _=>?_,trivial⟩,fun⟨aM,aO,aP,aQ,aR,aS,aT,aU,aV,aW,aX,aY,aZ,a0,a1,a2,a3,a4,a5,a6,a7,_⟩=>?_⟩
   ·exact Ja l aN fun _=>OpSt.op<|J00 ⟨y,RZ.same d,rfl⟩
   ·replace G:=G rfl;refine Ja l (aC V aN) fun _=>OpSt.op (J08 d G cb32 rfl rfl (Xj d.bd (s:=s) (t:=t) (o:=o) G.blk (d.yx _ G.mem) ht hs) ?_);intro eo ep a8 a9 ba bb;exact⟨y,RT.step a8 a9,bb,ba⟩
   ·exact Ja l aN fun _=>OpSt.op<|J00 ⟨y,RZ.same d,rfl⟩
   ·obtain⟨bc,eq⟩:=Y;exact Ja l (aC bc<|aC Z aN) fun _=>OpSt.op<|J17 (t:=false) rfl rfl (by rw [decide_eq_true (by omega)];rfl) ⟨y,RZ.same d,rfl⟩
   ·exact Ja l (aC aa aN) fun _=>OpSt.op<|J00 ⟨y,RZ.same d,rfl⟩
   ·exact Ja l (aC ab aN) fun _=>J1c rfl<|J00 ⟨y,RZ.same d,rfl⟩
   ·exact Ja l (aC ac<|aC ad aN) fun _=>J1c rfl<|J03 rfl ⟨y,RZ.same d,rfl⟩
   ·exact Ja l (aC ae<|aC af aN) fun _=>J1c rfl<|J0s Kz rfl ⟨y,RZ.same d,rfl⟩
   ·obtain⟨be,bf⟩:=ag;exact Ja l (aC be<|aC ah<|aC ai aN) fun _=>J1c rfl<|J0x bf pl3 rfl rfl ⟨y,RZ.same d,rfl⟩
   ·exact Ja l (aC aj<|aC ak aN) fun _=>J1c rfl<|J17 (t:=false) rfl rfl (by rw [decide_eq_true he];rfl) ⟨y,RZ.same d,rfl⟩
   ·exact Ja l (aC am<|aC an aN) fun _=>OpSt.op<|J1f (t:=false) rfl ⟨y,RZ.same d,rfl⟩
   ·exact Ja l (aC ao aN) fun _=>OpSt.op<|J00 ⟨y,RZ.same d,rfl⟩
   ·exact Ja l (aC aq aN) fun _=>J1c rfl<|J00 ⟨y,RZ.same d,rfl⟩
   ·exact Ja l (aC ar<|aC au aN) fun _=>J1c rfl<|J03 rfl ⟨y,RZ.same d,rfl⟩
   ·exact Ja l (aC av<|aC aw aN) fun _=>J1c rfl<|J0s Zd rfl ⟨y,RZ.same d,rfl⟩
   ·obtain⟨bg,bh⟩:=ax;exact Ja l (aC bg<|aC ay<|aC az aN) fun _=>J1c rfl<|J0x bh pl3 rfl rfl ⟨y,RZ.same d,rfl⟩
   ·exact Ja l (aC aA aN) fun _=>J1c rfl<|J00 ⟨y,RZ.same d,rfl⟩
   ·exact Ja l (aC aB<|aC aD aN) fun _=>J1c rfl<|J03 rfl ⟨y,RZ.same d,rfl⟩
   ·exact Ja l (aC aE<|aC aF aN) fun _=>J1c rfl<|J0s Kt rfl ⟨y,RZ.same d,rfl⟩
   ·obtain⟨bi,bj⟩:=aG;exact Ja l (aC bi<|aC aH<|aC aI aN) fun _=>J1c rfl<|J0x bj pl9 rfl rfl ⟨y,RZ.same d,rfl⟩
   ·obtain⟨bk,es⟩:=aJ;exact Ja l (aC bk<|aC aK<|aC aL aN) fun _=>J1c rfl<|J1v un9 rfl ⟨y,RZ.same d,rfl⟩
   obtain⟨bl,K⟩:=aO;obtain⟨et,rfl⟩:=mixK l (aC aM<|aC bl<|aC aP<|aC aQ<|aC aR<|aC aS<|aC aT<|aC aU<|aC aV<|aC aW<|aC aX<|aC aY<|aC aZ<|aC a0<|aC a1<|aC a2<|aC a3<|aC a4<|aC a5<|aC a6<|aC a7 aN);refine OgD (J21 (t:=true) rfl rfl (decide_eq_true (by omega))<|OF<|Nl<|J0w rfl<|Rg<|Om<|Om<|Ol<|J03 rfl<|Ol<|J0s Zd rfl<|Ol<|J0x K pl3 rfl rfl<|Ol<|J08 d K cb33 rfl rfl (yr d.bd (s:=s) (p:=plR<|blR s t) (e:=(ecR<|blR s t)) (o:=o) K.blk (d.yx _ K.mem) (q:=plR<|blR s t)) ?_);intro eu ev bm ew bn ex;refine Nl<|J04<|Ja5 rfl<|RetM.intro ⟨?_,?_⟩ bm.below
   ·exact rfl
   exact Blk.to4 bn.blk (Jox ht<|fun k=>hin k.2) (Jok ht<|fun k=>hin k.2) rfl
  refine J2f mixed 21 1 [[],[0],[],[1,2],[3],[4],[4,5],[4,6],[1,4,7],[4,8],[4,9],[10],[11],[11,12],[11,13],[1,11,14],[11],[11,16],[11,17],[1,11,18],[1,11,19]] C P [fx<|.pointer (some ⟨g,0,none⟩),fun(z:Gh) (v:Value) (w':World)=>(v=(.int .u8 (((pkS s t):Nat):Int)))∧Own ⟨w,(· =g)⟩ z.2 w' g (rc4 s (plR<|blR s t) (ecR<|blR s t) o) 62,fx<|.int .u8 ((c:Nat):Int),fx<|.bool false,fx<|.bool false,fx<|.pointer (some ⟨g,0,none⟩),fx<|.pointer (some ⟨g,0,none⟩),fx<|.pointer (some ⟨g,2,none⟩),fx<|.int .i64 (ecR<|blR s t),fx<|.bool true,fx<|.bool true,fx<|.bool true,noG,noG,noG,noG,noG,noG,noG,noG,noG] (by kernel_rfl) ⟨sx,(fun _ _ _ _ _ ⟨h,o⟩ r=>⟨h,o.spn r.sp⟩),sx,sx,sx,sx,sx,sx,sx,sx,sx,sx,(fun _ _ _ _ _ h _=>h),(fun _ _ _ _ _ h _=>h),(fun _ _ _ _ _ h _=>h),(fun _ _ _ _ _ h _=>h),(fun _ _ _ _ _ h _=>h),(fun _ _ _ _ _ h _=>h),(fun _ _ _ _ _ h _=>h),(fun _ _ _ _ _ h _=>h),(fun _ _ _ _ _ h _=>h),trivial⟩ fun bo A ey bp m=>?_
  have i:=bp.cx;have m:Keep [4,5,6,7,8,9,10,11,12,13,14,15,16,17,18,19,20,21,22,23,24] _ bo:=m;refine⟨⟨fun _ _=>?_,fun⟨bq,_⟩ H=>?_,fun _ _=>?_,fun⟨br,bs,_⟩ _=>?_,fun⟨bt,_⟩ _=>?_,fun⟨bu,_⟩ _=>?_,fun⟨bv,bw,_⟩ _=>?_,fun⟨bx,bz,_⟩ _=>?_,fun⟨bA,bB,bC,_⟩ _=>?_,fun⟨bD,bE,_⟩ _=>?_,fun⟨bF,bG,_⟩ _=>?_,fun⟨bH,_⟩ _=>?_,fun⟨bI,_⟩ _=>?_,fun⟨bJ,ez,_⟩ _=>?_,fun⟨bK,eA,_⟩ _=>?_,fun⟨bL,bM,eB,_⟩ _=>?_,fun⟨bN,_⟩ _=>?_,fun⟨bO,eC,_⟩ _=>?_,fun⟨bP,eD,_⟩ _=>?_,fun⟨bQ,bR,eE,_⟩ _=>?_,fun⟨bS,bT,eF,_⟩ _=>?_,trivial⟩,fun⟨bU,bV,bW,bX,bY,bZ,b0,b1,b2,b3,b4,b5,eG,eH,eI,eJ,eK,eL,eM,eN,eO,_⟩=>?_⟩
  ·exact Ja m aN fun _=>OpSt.op<|J00 ⟨A,RZ.same i,rfl⟩
  ·replace H:=H rfl;refine Ja m (aC bq aN) fun _=>OpSt.op (J08 i H cb32 rfl rfl (Xj i.bd (s:=s) (t:=t) (o:=o) H.blk (i.yx _ H.mem) ht hs) ?_);intro eP eQ b6 b7 b8 b9;exact⟨A,RT.step b6 b7,b9,b8⟩
  ·exact Ja m aN fun _=>OpSt.op<|J00 ⟨A,RZ.same i,rfl⟩
  ·obtain⟨ca,eR⟩:=br;exact Ja m (aC ca<|aC bs aN) fun _=>OpSt.op<|J17 (t:=false) rfl rfl (by rw [decide_eq_true (by omega)];rfl) ⟨A,RZ.same i,rfl⟩
  ·exact Ja m (aC bt aN) fun _=>OpSt.op<|J00 ⟨A,RZ.same i,rfl⟩
  ·exact Ja m (aC bu aN) fun _=>J1c rfl<|J00 ⟨A,RZ.same i,rfl⟩
  ·exact Ja m (aC bv<|aC bw aN) fun _=>J1c rfl<|J03 rfl ⟨A,RZ.same i,rfl⟩
  ·exact Ja m (aC bx<|aC bz aN) fun _=>J1c rfl<|J0s Kz rfl ⟨A,RZ.same i,rfl⟩
  ·obtain⟨cb,cc⟩:=bA;exact Ja m (aC cb<|aC bB<|aC bC aN) fun _=>J1c rfl<|J0x cc pl3 rfl rfl ⟨A,RZ.same i,rfl⟩
  ·exact Ja m (aC bD<|aC bE aN) fun _=>J1c rfl<|J17 (t:=true) rfl rfl (by rw [decide_eq_false he];rfl) ⟨A,RZ.same i,rfl⟩
  ·exact Ja m (aC bF<|aC bG aN) fun _=>OpSt.op<|J1f (t:=false) rfl ⟨A,RZ.same i,rfl⟩
  ·exact Ja m (aC bH aN) fun _=>OpSt.op<|J00 ⟨A,RZ.same i,rfl⟩
  ·exact Ja m (aC bI aN) fun _=>J1m rfl rfl ⟨A,RZ.same i,trivial⟩
  ·exact Ja m (aC bJ aN) fun _=>J1m rfl rfl ⟨A,RZ.same i,trivial⟩
  ·exact Ja m (aC bK aN) fun _=>J1m rfl rfl ⟨A,RZ.same i,trivial⟩
  ·obtain⟨cd,eS⟩:=bL;exact Ja m (aC cd<|aC bM aN) fun _=>J1m rfl rfl ⟨A,RZ.same i,trivial⟩
  ·exact Ja m (aC bN aN) fun _=>J1m rfl rfl ⟨A,RZ.same i,trivial⟩
  ·exact Ja m (aC bO aN) fun _=>J1m rfl rfl ⟨A,RZ.same i,trivial⟩
  ·exact Ja m (aC bP aN) fun _=>J1m rfl rfl ⟨A,RZ.same i,trivial⟩
  ·obtain⟨ce,eT⟩:=bQ;exact Ja m (aC ce<|aC bR aN) fun _=>J1m rfl rfl ⟨A,RZ.same i,trivial⟩
  ·obtain⟨cf,eU⟩:=bS;exact Ja m (aC cf<|aC bT aN) fun _=>J1m rfl rfl ⟨A,RZ.same i,trivial⟩
  obtain⟨cg,L⟩:=bV;obtain⟨eV,rfl⟩:=mixK m (aC bU<|aC cg<|aC bW<|aC bX<|aC bY<|aC bZ<|aC b0<|aC b1<|aC b2<|aC b3<|aC b4<|aC b5 aN);refine Oz (OT<|Nl<|J0w rfl<|Rg<|Om<|Om<|Ol<|J03 rfl<|Ol<|J0s Zd rfl<|Ol<|J0x L pl3 rfl rfl<|Ol<|J08 i L cb33 rfl rfl (yr i.bd (s:=s) (p:=plR<|blR s t) (e:=(ecR<|blR s t)) (o:=o) L.blk (i.yx _ L.mem) (q:=plR<|blR s t)) ?_);intro eW eX ch eY ci eZ;refine Nl<|J04<|Ja5 rfl<|RetM.intro ⟨?_,?_⟩ ch.below
  ·exact rfl
  exact Blk.to4 ci.blk (Jtn ht he) (Ju7 ht he) rfl
 refine J2f mixed 21 1 [[],[0],[],[1,2],[3],[4],[4,5],[4,6],[1,4,7],[4,8],[4,9],[10],[11],[11,12],[11,13],[1,11,14],[11],[11,16],[11,17],[1,11,18],[1,11,19]] C P [fx<|.pointer (some ⟨g,0,none⟩),fun(z:Gh) (v:Value) (w':World)=>(v=(.int .u8 (((pkS s t):Nat):Int)))∧Own ⟨w,(· =g)⟩ z.2 w' g (rc4 s (plR<|blR s t) (ecR<|blR s t) o) 62,fx<|.int .u8 ((c:Nat):Int),fx<|.bool true,fx<|.bool true,noG,noG,noG,noG,noG,fx<|.bool true,fx<|.bool true,noG,noG,noG,noG,noG,noG,noG,noG,noG] (by kernel_rfl) ⟨sx,(fun _ _ _ _ _ ⟨h,o⟩ r=>⟨h,o.spn r.sp⟩),sx,sx,sx,(fun _ _ _ _ _ h _=>h),(fun _ _ _ _ _ h _=>h),(fun _ _ _ _ _ h _=>h),(fun _ _ _ _ _ h _=>h),(fun _ _ _ _ _ h _=>h),sx,sx,(fun _ _ _ _ _ h _=>h),(fun _ _ _ _ _ h _=>h),(fun _ _ _ _ _ h _=>h),(fun _ _ _ _ _ h _=>h),(fun _ _ _ _ _ h _=>h),(fun _ _ _ _ _ h _=>h),(fun _ _ _ _ _ h _=>h),(fun _ _ _ _ _ h _=>h),(fun _ _ _ _ _ h _=>h),trivial⟩ fun cj B e0 ck x=>?_
 have j:=ck.cx;have x:Keep [4,5,6,7,8,9,10,11,12,13,14,15,16,17,18,19,20,21,22,23,24] _ cj:=x;refine⟨⟨fun _ _=>?_,fun⟨cl,_⟩ I=>?_,fun _ _=>?_,fun⟨cm,cn,_⟩ _=>?_,fun⟨co,_⟩ _=>?_,fun⟨cp,_⟩ _=>?_,fun⟨cq,e1,_⟩ _=>?_,fun⟨cr,e2,_⟩ _=>?_,fun⟨cs,ct,e3,_⟩ _=>?_,fun⟨cu,e4,_⟩ _=>?_,fun⟨cv,e5,_⟩ _=>?_,fun⟨cw,_⟩ _=>?_,fun⟨cy,_⟩ _=>?_,fun⟨cz,e6,_⟩ _=>?_,fun⟨cE,e7,_⟩ _=>?_,fun⟨cF,cG,e8,_⟩ _=>?_,fun⟨cH,_⟩ _=>?_,fun⟨cI,e9,_⟩ _=>?_,fun⟨cJ,fa,_⟩ _=>?_,fun⟨cK,cL,fb,_⟩ _=>?_,fun⟨cM,cN,fc,_⟩ _=>?_,trivial⟩,fun⟨cO,cP,cQ,cR,cS,fd,ff,fg,fh,fi,cT,cU,fj,fk,fl,fm,fn,fo,fp,fq,ft,_⟩=>?_⟩
 ·exact Ja x aN fun _=>OpSt.op<|J00 ⟨B,RZ.same j,rfl⟩
 ·replace I:=I rfl;refine Ja x (aC cl aN) fun _=>OpSt.op (J08 j I cb32 rfl rfl (Xj j.bd (s:=s) (t:=t) (o:=o) I.blk (j.yx _ I.mem) ht hs) ?_);intro fu fv cV cW cX cY;exact⟨B,RT.step cV cW,cY,cX⟩
 ·exact Ja x aN fun _=>OpSt.op<|J00 ⟨B,RZ.same j,rfl⟩
 ·obtain⟨cZ,fy⟩:=cm;exact Ja x (aC cZ<|aC cn aN) fun _=>OpSt.op<|J17 (t:=true) rfl rfl (by rw [decide_eq_false (by omega)];rfl) ⟨B,RZ.same j,rfl⟩
 ·exact Ja x (aC co aN) fun _=>OpSt.op<|J00 ⟨B,RZ.same j,rfl⟩
 ·exact Ja x (aC cp aN) fun _=>J1m rfl rfl ⟨B,RZ.same j,trivial⟩
 ·exact Ja x (aC cq aN) fun _=>J1m rfl rfl ⟨B,RZ.same j,trivial⟩
 ·exact Ja x (aC cr aN) fun _=>J1m rfl rfl ⟨B,RZ.same j,trivial⟩
 ·obtain⟨c0,fz⟩:=cs;exact Ja x (aC c0<|aC ct aN) fun _=>J1m rfl rfl ⟨B,RZ.same j,trivial⟩
 ·exact Ja x (aC cu aN) fun _=>J1m rfl rfl ⟨B,RZ.same j,trivial⟩
 ·exact Ja x (aC cv aN) fun _=>OpSt.op<|J1f (t:=true) rfl ⟨B,RZ.same j,rfl⟩
 ·exact Ja x (aC cw aN) fun _=>OpSt.op<|J00 ⟨B,RZ.same j,rfl⟩
 ·exact Ja x (aC cy aN) fun _=>J1m rfl rfl ⟨B,RZ.same j,trivial⟩
 ·exact Ja x (aC cz aN) fun _=>J1m rfl rfl ⟨B,RZ.same j,trivial⟩
 ·exact Ja x (aC cE aN) fun _=>J1m rfl rfl ⟨B,RZ.same j,trivial⟩
 ·obtain⟨c1,fA⟩:=cF;exact Ja x (aC c1<|aC cG aN) fun _=>J1m rfl rfl ⟨B,RZ.same j,trivial⟩
 ·exact Ja x (aC cH aN) fun _=>J1m rfl rfl ⟨B,RZ.same j,trivial⟩
 ·exact Ja x (aC cI aN) fun _=>J1m rfl rfl ⟨B,RZ.same j,trivial⟩
 ·exact Ja x (aC cJ aN) fun _=>J1m rfl rfl ⟨B,RZ.same j,trivial⟩
 ·obtain⟨c2,fB⟩:=cK;exact Ja x (aC c2<|aC cL aN) fun _=>J1m rfl rfl ⟨B,RZ.same j,trivial⟩
 ·obtain⟨c3,fC⟩:=cM;exact Ja x (aC c3<|aC cN aN) fun _=>J1m rfl rfl ⟨B,RZ.same j,trivial⟩
 obtain⟨c4,M⟩:=cP;obtain⟨fD,rfl⟩:=mixK x (aC cO<|aC c4<|aC cQ<|aC cR<|aC cS<|aC cT<|aC cU aN);refine Oz (OT<|Nl<|J0w rfl<|Rg<|Om<|Om<|Ol<|J03 rfl<|Ol<|J0s Zd rfl<|Ol<|J0x M pl3 rfl rfl<|Ol<|J08 j M cb33 rfl rfl (yr j.bd (s:=s) (p:=plR<|blR s t) (e:=(ecR<|blR s t)) (o:=o) M.blk (j.yx _ M.mem) (q:=plR<|blR s t)) ?_);intro fF fG c5 fH c6 fI;refine Nl<|J04<|Ja5 rfl<|RetM.intro ⟨?_,?_⟩ c5.below
 ·exact rfl
 exact Blk.to4 c6.blk (Jox ht<|fun k=>hpc k.1) (Jok ht<|fun k=>hpc k.1) rfl
end Go.Wf
namespace Go.Wf
open Go Go.Proofs Go.RowKit
theorem qt{X:Nat→Prop}{w:World}(hX:XB X w){g:Nat}{s:List UInt8}{t:Rr Unit}{o:Nat}(hB:Blk w g (rc4 s (plR t) (ecR t) o) 62)(hXg:X g)(ht:t.fine s)(hs:s.length≤65536):Calls Tryz.prog 202 #[(.pointer (some ⟨g,0,none⟩))] w (RetM w g fun v w'=>v=(str (dgV s t))∧Blk w' g (rc4 s (plR (dgR s t)) (ecR (dgR s t)) o) 62):=by
 have C:=J1t g hX hXg;have L:=J38 hB;refine Cgo (args:=[(.pointer (some ⟨g,0,none⟩))]) Tryz.func202 rfl rfl rfl (Rg<|Oa<|Nl<|Rg<|Om<|Ol<|J08 C L cb71 rfl rfl (zr C.bd (s:=s) (t:=t) (o:=o) L.blk (C.yx _ L.mem) ht hs) ?_);intro v1 w2 C3 s4 N h6;refine Nl<|Rg<|Om<|Ol<|J03 rfl<|Ol<|J0s Zd rfl<|Ol<|J0x N pl3 rfl rfl<|Oa<|Nl<|J06<|J2b (fun f v=>∃ (x y:Nat→Prop) (i:Nat),Cx X ⟨w,(· =g)⟩ x y v∧f 0=(.pointer (some ⟨g,0,none⟩))∧f 2=(str [])∧f 3=(.int .i64 ((plR (blR s t):Nat):Int))∧Own ⟨w,(· =g)⟩ y v g [(str s),(.int .i64 ((i:Nat):Int)),(.int .i64 (ecR<|blR s t)),(.int .i64 ((o:Nat):Int))] 62∧i≤s.length∧plR (blR s t)≤i∧(ecR (blR s t)=0→digL s i=[])∧(ecR (blR s t)=0→i+(digL s i).length=plR (blR s t)+(digL s<|plR<|blR s t).length)∧(¬ ecR (blR s t)=0→i=plR (blR s t))) ?_ ?_
 ·refine W.block (J1g (fun μ f v=>∃ (x y:Nat→Prop) (i:Nat),Cx X ⟨w,(· =g)⟩ x y v∧f 0=(.pointer (some ⟨g,0,none⟩))∧f 2=(str [])∧f 3=(.int .i64 ((plR (blR s t):Nat):Int))∧Own ⟨w,(· =g)⟩ y v g [(str s),(.int .i64 ((i:Nat):Int)),(.int .i64 (ecR<|blR s t)),(.int .i64 ((o:Nat):Int))] 62∧i≤s.length∧plR (blR s t)≤i∧(ecR (blR s t)=0→i+(digL s i).length=plR (blR s t)+(digL s<|plR<|blR s t).length)∧(¬ ecR (blR s t)=0→i=plR (blR s t))∧μ=(s.length - i)) _ ⟨_,_,(plR<|blR s t),C3,rfl,rfl,rfl,N,(zh<|Jn ht),(Nat.le_refl _),(fun _=>rfl),(fun _=>rfl),rfl⟩ ?_);rintro ad f7 w8 ⟨x9,ae,i,P,D,E,F,d,hi,hpi,hR,hn,aa⟩;obtain⟨af,rfl⟩:=rebK (aC D<|aC E<|aC F aN);clear D E F;refine J06<|J06<|J12 mixed 26 P<|Qm<|Qn<|Qf Kz rfl<|Qd d pl3 rfl rfl ?_
  by_cases m:(ecR<|blR s t)=0
  ·refine Qp (fun _=>J1y (t:=true) rfl rfl (decide_eq_true m) ⟨rfl,rfl⟩)<|Qm<|Qg<|Qm<|Qg<|Qn<|Qg<|Qf Zd rfl<|Qg<|Qd d pl3 rfl rfl<|Qg<|Qm<|Qg<|Qn<|Qg<|Qf Kt rfl<|Qg<|Qd d pl9 rfl rfl<|Qg<|Qp (fun _=>J1v un9 rfl ⟨rfl,rfl⟩) ?_
   by_cases ac:i < s.length
   ·refine Qg<|Qp (fun _=>J15 (t:=true) rfl rfl (decide_eq_true (by omega)) ⟨rfl,rfl⟩)<|QT<|Qm<|Qg<|Qm<|Qg<|Qn<|Qg<|Qf Kt rfl<|Qg<|Qd d pl9 rfl rfl<|Qg<|Qm<|Qg<|Qn<|Qg<|Qf Zd rfl<|Qg<|Qd d pl3 rfl rfl<|Qz fun G l r=>?_
    refine OgD (J1p (j:=i) (c:=(s.getD i 0)) un9 rfl rfl rfl (Jf (by omega))<|OgD<|J1n<|J0t l cb48 rfl rfl (Jhj l.bd (n:=(s.getD i 0).toNat)) ?_);intro ag ah H Q R;replace d:=(d.spn r).spn Q;refine⟨_,R,fun z=>?_,fun z=>?_⟩
    ·refine OT (Nl<|J0w rfl<|J01<|W.block<|J0y<|Om<|Om<|Ol<|J03 rfl<|Ol<|J0s Zd rfl<|Ol<|J0x d pl3 rfl rfl<|Ol<|St.add rfl rfl (Jc (a:=i) (b:=1) (by omega))<|Ol<|J03 rfl<|Ol<|J0s Zd rfl<|On<|J0u (cs':=[(str s),(.int .i64 ((i+1:Nat):Int)),(.int .i64 (ecR<|blR s t)),(.int .i64 ((o:Nat):Int))]) H d io3 rfl rfl rfl rfl rfl rfl ?_);intro ai S aj T;refine Nl<|⟨_,(by omega),_,_,(i+1),S,rfl,rfl,rfl,T,(by omega),(by omega),(fun h=>(Jan (f:=digB) (by omega) z).trans (hR h)),(fun h=>absurd m h),rfl⟩
    refine OT<|Nl<|J0v rfl<|J1j<|⟨_,_,i,H,rfl,rfl,rfl,d,hi,hpi,(fun _=>Jap (f:=digB) z),hR,hn⟩
   refine Qg<|Qp (fun _=>J15 (t:=false) rfl rfl (decide_eq_false (by omega)) ⟨rfl,rfl⟩)<|QT<|Qm<|Qx<|Qx<|Qx<|Qx<|Qx<|Qx<|Qx<|Qx<|Qz fun G l r=>?_
   replace d:=d.spn r;refine Oz<|Oz<|OF<|Nl<|J0v rfl<|J1j<|⟨_,_,i,l,rfl,rfl,rfl,d,hi,hpi,(fun _=>Jcg (by omega)),hR,hn⟩
  refine Qp (fun _=>J1y (t:=false) rfl rfl (decide_eq_false m) ⟨rfl,rfl⟩)<|Qm<|Qx<|Qx<|Qx<|Qx<|Qx<|Qx<|Qx<|Qx<|Qx<|Qx<|QF<|Qm<|Qx<|Qx<|Qx<|Qx<|Qx<|Qx<|Qx<|Qx<|Qz fun G l r=>?_
  replace d:=d.spn r;refine Oz<|Oz<|OF<|Nl<|J0v rfl<|J1j<|⟨_,_,i,l,rfl,rfl,rfl,d,hi,hpi,(fun h=>absurd h m),hR,hn⟩
 rintro ak am ⟨an,ao,i,A,I,J,K,k,hi,hpi,B,hR,hn⟩;obtain⟨aq,rfl⟩:=rebK (aC I<|aC J<|aC K aN);clear I J K;refine Rh<|Om<|Ol<|J03 rfl<|Ol<|J0s Zd rfl<|Ol<|J0x k pl3 rfl rfl<|Om<|Ol<|J1a rfl rfl (fun M=>?_)<|fun M=>?_
 ·refine Nl (J0w rfl<|Rg<|Om<|Om<|Ol<|J08 A k cb33 rfl rfl (yr A.bd (s:=s) (p:=i) (e:=(ecR<|blR s t)) (o:=o) k.blk (A.yx _ k.mem) (q:=plR<|blR s t)) ?_);intro ar au U av V aw;refine Nl<|Rg<|Oa<|Nl<|J04<|Jo rfl (J35 rfl)<|RetM.intro ⟨?_,?_⟩ U.below
  ·exact congrArg (str)<|(Jlb ht B hR hn (by omega)).1.symm
  exact Blk.to4 V.blk (Jlb ht B hR hn (by omega)).2.1 (Jlb ht B hR hn (by omega)).2.2 rfl
 refine Nl<|J0v rfl<|J01<|J06<|J12 mixed 9 A<|Qm<|Qn<|Qf Kt rfl<|Qd k pl9 rfl rfl<|Qm<|Qm<|Qn<|Qf Zd rfl<|Qd k pl3 rfl rfl<|Qz fun ax Y Z=>?_
 replace k:=k.spn Z;refine Ol<|J2g (i:=(plR<|blR s t)) (j:=i) un9 rfl rfl rfl rfl rfl (by omega) (by omega)<|Oa<|Nl<|J04<|Jo rfl (J35 rfl)<|RetM.intro ⟨?_,?_⟩ Y.below
 ·exact congrArg (str)<|(Jdn ht B hR hn (by omega)).1
 exact Blk.to4 k.blk (Jdn ht B hR hn (by omega)).2.1 (Jdn ht B hR hn (by omega)).2.2 rfl
theorem x_Z{X:Nat→Prop}{w:World}(hX:XB X w){n:Int}(hlo: -4294967295≤n)(hhi:n≤4294967295):CRt 151 #[(.int .i64 n)] w fun v w'=>RV J1 X w' v (ofZ n):=by
 have C:=J07 hX
 have:maxLen=9223372036854775807:=rfl
 refine Cgo (args:=[(.int .i64 n)]) Tryz.func151 rfl rfl rfl (Rg<|Ol<|J05 C io26 rfl ?_);intro G w2 x3 y4 aS C6 s7 k;refine Nl<|Rg<|Om<|Ol<|J1b (z:=(n % 18446744073709551616)) us3 Z6 rfl (by rw [IntKind.wrap_u64])<|Oa<|Nl<|Rh<|Om<|Ol<|J1h rfl rfl (fun ao=>?_)<|fun ao=>?_
 ·refine Nl (J0w rfl<|J0y<|Om<|Ol<|St.neg (z:=((n.natAbs:Nat):Int)) rfl (by rw [IntKind.wrap_u64];omega)<|Oa<|Nl<|Rg<|Om<|Ol<|J15 rfl rfl rfl<|Ol<|J09 (cs:=[(.bool (decide<|n < 0)),(.slice none 0 0)]) rfl (by kernel_rfl)<|Ol<|J05 C6 io26 rfl ?_);intro H aT aU aV af aq ar au;have I:=af _ k.blk.lt;refine On (J0u (cs':=[(.bool (decide<|n < 0)),(.slice none 0 0)]) aq au io26 rfl rfl rfl rfl rfl rfl ?_);intro aW av aw ax;replace k:=(k.spn ar).spo aw I;refine Nl (J06<|W.block<|J1g (fun μ f v=>∃ (x y:Nat→Prop) (u:Nat) (m:List Nat) (ma:Option Addr) (mc:Nat),Cx X w x y v∧f 2=(.pointer (some ⟨G,0,none⟩))∧f 4=(.pointer (some ⟨H,0,none⟩))∧f 3=(.int .u64 ((u:Nat):Int))∧OS Jd 118 w x y v (.slice ma m.length mc) m∧Own w y v G [(.bool false),(.slice none 0 0)] 26∧Own w y v H [(.bool (decide<|n < 0)),(.slice ma m.length mc)] 26∧zM m u=digs n.natAbs∧u < 4294967296∧m.length+(if u=0 then 0 else 1)≤1∧μ=u) _ ⟨_,_,n.natAbs,[],none,0,av,rfl,rfl,rfl,OS.nil,k,ax,(Jfl (by omega)),(by omega),(by simp only [List.length_nil];split <;> omega),rfl⟩ ?_);rintro aX aY aZ ⟨a0,a1,u,m,ma,mc,J,K,L,M,hM,g,b,hz,hu,hml,aM⟩;obtain⟨a2,rfl⟩:=rebK (aC K<|aC L<|aC M aN);clear K L M;refine Rh<|Om<|Ol<|J10 rfl rfl (fun ag=>?_)<|fun ag=>?_
  ·refine Nl (J0w rfl<|J01<|W.block<|Rg<|Ol<|J0s J4 rfl<|Ol<|J0x b pl24 rfl rfl<|Om<|Ol<|J1b (z:=((u % 4294967296:Nat):Int)) Yj Yp rfl (Jk _)<|Ol<|J1k (T:=Jd) (css:=[[(.int .u32 ((u % 4294967296:Nat):Int))]]) (l:=[u % 4294967296]) J sl24 Jh (by decide) (by decide) rfl (by kernel_rfl) ⟨⟨rfl,(Nat.mod_lt _ (by decide))⟩,trivial⟩ ?_);intro a3 a4 N r ay;replace hM:=hM.sp r N<|fun _ h=>h
   replace g:=g.spn r;replace b:=b.spn r;refine Ol (J1o (T:=Jd) N sl24 Jh rfl rfl hM (Kb ay) (by simp only [List.length_cons,List.length_nil];omega) (by simp only [List.length_cons,List.length_nil];omega) rfl ?_);intro a5 a6 a7 az P a8 p;replace b:=b.ap P b.mem;obtain⟨Q,R,rfl,_,_⟩:=p.len;refine Ol (J0s J4 rfl<|On<|J0u (cs':=[(.bool (decide<|n < 0)),(.slice Q (m++[u % 4294967296]).length R)]) az b io24 rfl rfl rfl rfl rfl rfl ?_);intro a9 S U aA;replace p:=p.sp U S<|fun _ h=>h
   replace g:=(g.ap P g.mem).spo U I;refine Nl<|J0y<|Om<|Ol<|J19 rfl rfl (by decide) (Yf (d:=4294967296) _ (by decide))<|Oa<|Nl<|⟨_,(by omega),_,_,(u / 4294967296),(m++[u % 4294967296]),Q,R,S,rfl,rfl,rfl,p,g,aA,(Jja hz (by omega) hu),(by omega),(by have h:=hml;rw [if_neg (by omega)] at h;rw [List.length_append,List.length_singleton,if_pos (by omega)];omega),rfl⟩
  refine Nl (J0v rfl<|J1j<|Rg<|Ol<|J0z (vs:=[(.bool (decide<|n < 0)),(.slice ma m.length mc)]) b ag26 rfl rfl rfl<|On<|J0u (cs':=[(.bool (decide<|n < 0)),(.slice ma m.length mc)]) J g io26 rfl rfl rfl rfl rfl rfl ?_);intro ba s aB aD;replace hM:=hM.sp aB s<|fun _ h=>h
  exact Nl<|J04<|Jo rfl (resV.c aD rfl ag26 rfl)<|J02 (J36 (a:=(⟨(decide<|n < 0),m⟩:GInt)) (Jj<|hM.toRS s hX)<|congrArg (GInt.mk _)<|Jnz hz (by omega)) s.below
 refine Nl (J0v rfl<|J01<|J06 ?_);rw [show n % 18446744073709551616=((n.natAbs:Nat):Int) by omega];refine J0y (Om<|Ol<|J15 rfl rfl rfl<|Ol<|J09 (cs:=[(.bool (decide<|n < 0)),(.slice none 0 0)]) rfl (by kernel_rfl)<|Ol<|J05 C6 io26 rfl ?_);intro V bb bc bd ah aE aF aG;have Y:=ah _ k.blk.lt;refine On (J0u (cs':=[(.bool (decide<|n < 0)),(.slice none 0 0)]) aE aG io26 rfl rfl rfl rfl rfl rfl ?_);intro be aH aI aJ;replace k:=(k.spn aF).spo aI Y;refine Nl (J06<|W.block<|J1g (fun μ f v=>∃ (x y:Nat→Prop) (u:Nat) (m:List Nat) (ma:Option Addr) (mc:Nat),Cx X w x y v∧f 2=(.pointer (some ⟨G,0,none⟩))∧f 4=(.pointer (some ⟨V,0,none⟩))∧f 3=(.int .u64 ((u:Nat):Int))∧OS Jd 118 w x y v (.slice ma m.length mc) m∧Own w y v G [(.bool false),(.slice none 0 0)] 26∧Own w y v V [(.bool (decide<|n < 0)),(.slice ma m.length mc)] 26∧zM m u=digs n.natAbs∧u < 4294967296∧m.length+(if u=0 then 0 else 1)≤1∧μ=u) _ ⟨_,_,n.natAbs,[],none,0,aH,rfl,rfl,rfl,OS.nil,k,aJ,(Jfl (by omega)),(by omega),(by simp only [List.length_nil];split <;> omega),rfl⟩ ?_);rintro bf bg bh ⟨bi,bj,u,m,ma,mc,Z,aa,ab,ac,hM,i,e,hz,hu,hml,aO⟩;obtain⟨bk,rfl⟩:=rebK (aC aa<|aC ab<|aC ac aN);clear aa ab ac;refine Rh<|Om<|Ol<|J10 rfl rfl (fun ai=>?_)<|fun ai=>?_
 ·refine Nl (J0w rfl<|J01<|W.block<|Rg<|Ol<|J0s J4 rfl<|Ol<|J0x e pl24 rfl rfl<|Om<|Ol<|J1b (z:=((u % 4294967296:Nat):Int)) Yj Yp rfl (Jk _)<|Ol<|J1k (T:=Jd) (css:=[[(.int .u32 ((u % 4294967296:Nat):Int))]]) (l:=[u % 4294967296]) Z sl24 Jh (by decide) (by decide) rfl (by kernel_rfl) ⟨⟨rfl,(Nat.mod_lt _ (by decide))⟩,trivial⟩ ?_);intro bl bm ad A aK;replace hM:=hM.sp A ad<|fun _ h=>h
  replace i:=i.spn A;replace e:=e.spn A;refine Ol (J1o (T:=Jd) ad sl24 Jh rfl rfl hM (Kb aK) (by simp only [List.length_cons,List.length_nil];omega) (by simp only [List.length_cons,List.length_nil];omega) rfl ?_);intro bn bo bp aL ae aP j;replace e:=e.ap ae e.mem;obtain⟨B,D,rfl,_,_⟩:=j.len;refine Ol (J0s J4 rfl<|On<|J0u (cs':=[(.bool (decide<|n < 0)),(.slice B (m++[u % 4294967296]).length D)]) aL e io24 rfl rfl rfl rfl rfl rfl ?_);intro aQ E F aj;replace j:=j.sp F E<|fun _ h=>h
  replace i:=(i.ap ae i.mem).spo F Y;refine Nl<|J0y<|Om<|Ol<|J19 rfl rfl (by decide) (Yf (d:=4294967296) _ (by decide))<|Oa<|Nl<|⟨_,(by omega),_,_,(u / 4294967296),(m++[u % 4294967296]),B,D,E,rfl,rfl,rfl,j,i,aj,(Jja hz (by omega) hu),(by omega),(by have h:=hml;rw [if_neg (by omega)] at h;rw [List.length_append,List.length_singleton,if_pos (by omega)];omega),rfl⟩
 refine Nl (J0v rfl<|J1j<|Rg<|Ol<|J0z (vs:=[(.bool (decide<|n < 0)),(.slice ma m.length mc)]) e ag26 rfl rfl rfl<|On<|J0u (cs':=[(.bool (decide<|n < 0)),(.slice ma m.length mc)]) Z i io26 rfl rfl rfl rfl rfl rfl ?_);intro aR o ak am;replace hM:=hM.sp ak o<|fun _ h=>h
 exact Nl<|J04<|Jo rfl (resV.c am rfl ag26 rfl)<|J02 (J36 (a:=(⟨(decide<|n < 0),m⟩:GInt)) (Jj<|hM.toRS o hX)<|congrArg (GInt.mk _)<|Jnz hz (by omega)) o.below
theorem x_Q{X:Nat→Prop}{w:World}(hX:XB X w){n:Int}(hlo: -4294967295≤n)(hhi:n≤4294967295):CRt 103 #[(.int .i64 n)] w fun v w'=>RV Kf X w' v (ofQ (Rat.divInt n 1)):=by
 have C:=J07 hX;refine Cgo (args:=[(.int .i64 n)]) Tryz.func103 rfl rfl rfl (Rg<|Ol<|J05 C io28 rfl ?_);intro G H I J A p K o;refine Nl (Rg<|Om<|Ol<|J0t p Jhf rfl rfl (x_Z p.bd hlo hhi) ?_);intro L B e r s;obtain⟨g,h,rfl,b⟩:=RV.int s;refine Ol (J0t e Jhf rfl rfl (x_Z e.bd (by decide) (by decide)) ?_);intro D E x i y;replace o:=(o.spn r).spn i;obtain⟨j,k,rfl,d⟩:=RV.int y;refine Ol (J09 (cs:=[(.bool (ofZ n).neg),(.slice g (ofZ n).mag.length h),(.bool (ofZ 1).neg),(.slice j (ofZ 1).mag.length k)]) rfl (by kernel_rfl)<|On<|J0u (cs':=[(.bool (ofZ n).neg),(.slice g (ofZ n).mag.length h),(.bool (ofZ 1).neg),(.slice j (ofZ 1).mag.length k)]) x o io28 rfl rfl rfl rfl rfl rfl ?_);intro F l m z;replace b:=(b.sp i).sp m;replace d:=d.sp m;refine Nl (J04<|Jo rfl (resV.c z rfl ag28 rfl)<|J02 ?_ l.below);exact J36 (a:=(⟨⟨(ofZ n).neg,(ofZ n).mag⟩,⟨(ofZ 1).neg,(ofZ 1).mag⟩⟩:GRat)) ((Zz b d).tr (Tr.weak l.base))<|Qa rfl
theorem qf{X:Nat→Prop}{w:World}(hX:XB X w){y:Value}{a:GRat}(J:RV Kf X w y a)(hln:a.num.mag.length≤536870912)(hld:a.den.mag.length≤536870912):CRt 101 #[y] w fun v w'=>RV Jg X w' v (.mk 1 [] (ofQ a.q) [] []):=by
 obtain⟨z,A,B,D,rfl,s,x⟩:=J4a J;have C:=J07 hX;refine Cgo (args:=[(.agg #[(.bool a.num.neg),(.slice z a.num.mag.length A),(.bool a.den.neg),(.slice B a.den.mag.length D)])]) Tryz.func101 rfl rfl rfl (Rg<|Ol<|J1e C rfl ?_);intro V Y Z M K E i b;refine Ol (J05 E io31 rfl ?_);intro N P Q R L j d e;replace s:=(s.sp i).sp d;replace x:=(x.sp i).sp d;replace b:=b.spn d;refine Nl (Rg<|Ol<|J0z (vs:=[(.bool a.num.neg),(.slice z a.num.mag.length A),(.bool a.den.neg),(.slice B a.den.mag.length D)]) b ag28 rfl rfl rfl<|Ol<|J0t j cb42 rfl rfl (Jil j.bd (a:=a) (Zz s x) hln hld) ?_);intro S T F G H;replace e:=e.spn G;obtain⟨k,l,m,o,rfl,g,h⟩:=J4a H;refine Ol (J09 (cs:=[(.int .i64 1),(.slice none 0 0),(.bool (ofQ a.q).num.neg),(.slice k (ofQ a.q).num.mag.length l),(.bool (ofQ a.q).den.neg),(.slice m (ofQ a.q).den.mag.length o),(str []),(.slice none 0 0)]) rfl (by kernel_rfl)<|On<|J0u (cs':=[(.int .i64 1),(.slice none 0 0),(.bool (ofQ a.q).num.neg),(.slice k (ofQ a.q).num.mag.length l),(.bool (ofQ a.q).den.neg),(.slice m (ofQ a.q).den.mag.length o),(str []),(.slice none 0 0)]) F e io31 rfl rfl rfl rfl rfl rfl ?_);intro U p r I;replace g:=g.sp r;replace h:=h.sp r;refine Nl (J04<|Jo rfl (resV.c I rfl ag31 rfl)<|J02 ?_ p.below);exact J36 (a:=(.mk 1 [] ⟨⟨(ofQ a.q).num.neg,(ofQ a.q).num.mag⟩,⟨(ofQ a.q).den.neg,(ofQ a.q).den.mag⟩⟩ [] [])) ((Zs (by omega) (by omega) (by unfold maxLen;simp) RS.nil g h RS.nil).tr (Tr.weak p.base)) rfl
theorem Jet{X:Nat→Prop}{w:World}(hX:XB X w){d:List UInt8}(hd:∀ c ∈ d,digB c=true)(hl:d.length≤65536):CRt 201 #[(str d)] w fun v w'=>RV J1 X w' v (ofZ (Je d:Int)):=by
 have C:=J07 hX;refine Cgo (args:=[(str d)]) Tryz.func201 rfl rfl rfl (Rg<|Ol<|J05 C io26 rfl ?_);intro g1 w2 x3 y4 a9 C6 s7 r;refine Nl (Rg<|Ol<|J0t C6 Jhf rfl rfl (x_Z C6.bd (by omega) (by omega)) ?_);intro v9 ba am an ao;replace r:=r.spn an;obtain⟨K,L,rfl,s⟩:=RV.int ao;refine Ol (J05 am io26 rfl ?_);intro M bb bc be Z aq N ar;have P:=Z _ r.blk.lt;refine On (J0u (cs':=[(.bool (ofZ 0).neg),(.slice K (ofZ 0).mag.length L)]) aq ar io26 rfl rfl rfl rfl rfl rfl ?_);intro bf au Q av;replace s:=(s.sp N).sp Q;replace r:=(r.spn N).spo Q P;refine Nl (Rh<|Oa<|Nl<|W.block<|J1g (fun μ f v=>∃ (x y:Nat→Prop) (i:Nat) (va:Option Addr) (vc:Nat),Cx X w x y v∧f 0=(str d)∧f 2=(.pointer (some ⟨g1,0,none⟩))∧f 3=(.pointer (some ⟨M,0,none⟩))∧f 4=(.int .i64 ((i:Nat):Int))∧RS Jd x v (.slice va (ofZ (Je (d.take i):Int)).mag.length vc) (ofZ (Je (d.take i):Int)).mag∧Own w y v g1 [(.bool false),(.slice none 0 0)] 26∧Own w y v M [(.bool (ofZ (Je (d.take i):Int)).neg),(.slice va (ofZ (Je (d.take i):Int)).mag.length vc)] 26∧i≤d.length∧μ=(d.length - i)) _ ⟨_,_,0,K,L,au,rfl,rfl,rfl,rfl,s,r,av,(Nat.zero_le _),rfl⟩ ?_);rintro bg bh bi ⟨bj,bk,i,va,vc,R,S,T,U,V,hV,l,k,hi,aU⟩;obtain⟨bl,rfl⟩:=rebK (aC S<|aC T<|aC U<|aC V aN);clear S T U V;refine Rh<|Om<|Om<|Ol<|J1v un9 rfl<|Ol<|J1h rfl rfl (fun aa=>?_)<|fun aa=>?_
 ·refine Nl (J0w rfl<|J01<|J06<|W.block ?_);have hr:=ze (i:=i) (by omega) hd;refine J1q mixed 8 [[],[],[0,1],[],[],[3,4],[5],[6]] R [fx<|.agg #[(.bool (ofZ (Je (d.take i):Int)).neg),(.slice va (ofZ (Je (d.take i):Int)).mag.length vc)],fr J1<|ofZ 10,fr J1<|ofZ<|(Je (d.take i):Int) * 10,fx<|str d,fx<|.int .i64 ((i:Nat):Int),fx<|.int .u8 (((d.getD i 0).toNat:Nat):Int),fx<|.int .u8 ((((d.getD i 0).toNat) - 48:Nat):Int),fx<|.int .i64 ((((d.getD i 0).toNat) - 48:Nat):Int)] (by kernel_rfl) ⟨sx,sr,sr,sx,sx,sx,sx,sx,trivial⟩ fun aw h bm ⟨e,A⟩ g=>?_
  replace hV:=hV.sp A;replace k:=k.spn A;have g:Keep [12,13,14,15,16,17,18,19] _ aw:=g;refine⟨⟨fun _=>?_,fun _=>?_,fun⟨ax,ay,_⟩=>?_,fun _=>?_,fun _=>?_,fun⟨az,aA,_⟩=>?_,fun⟨aB,_⟩=>?_,fun⟨aD,_⟩=>?_,trivial⟩,fun⟨aE,aF,aG,aH,aI,aJ,aK,aL,_⟩=>?_⟩
  ·exact Ja g aN fun _=>OpSt.op<|J0z (vs:=[(.bool (ofZ (Je (d.take i):Int)).neg),(.slice va (ofZ (Je (d.take i):Int)).mag.length vc)]) k ag26 rfl rfl rfl ⟨h,RC.same e,rfl⟩
  ·refine Ja g aN fun _=>OpSt.op (J0t e Jhf rfl rfl (x_Z e.bd (by decide) (by decide)) ?_);intro bn bo aM aO aP;exact⟨h,⟨aM,aO⟩,aP⟩
  ·obtain⟨bp,bq,aQ,aR⟩:=RV.int ay;refine Ja g (aC ax<|aC aQ aN) fun _=>OpSt.op (J0t e cb175 rfl rfl (x_mul e.bd (a:=(ofZ (Je (d.take i):Int))) (Jj hV) (b:=(ofZ 10)) (Jj aR) (Nat.le_trans (Jsv hd hi) (by omega)) (by decide)) ?_);intro br bs aS aT Y;simp only [Jq,Yq] at Y;exact⟨h,⟨aS,aT⟩,Y⟩
  ·exact Ja g aN fun _=>OpSt.op<|J00 ⟨h,RC.same e,rfl⟩
  ·exact Ja g aN fun _=>OpSt.op<|J00 ⟨h,RC.same e,rfl⟩
  ·exact Ja g (aC az<|aC aA aN) fun _=>OpSt.op<|J1p (j:=i) (c:=(d.getD i 0)) un9 rfl rfl rfl (Jf (by omega)) ⟨h,RC.same e,rfl⟩
  ·exact Ja g (aC aB aN) fun _=>OpSt.op<|St.sub rfl rfl (V7 (a:=(d.getD i 0).toNat) (b:=48) (by omega) (by omega)) ⟨h,RC.same e,rfl⟩
  ·exact Ja g (aC aD aN) fun _=>OpSt.op<|J1b (z:=((((d.getD i 0).toNat) - 48:Nat):Int)) us5 un3 rfl (IntWalk.i64_in _ (by omega)) ⟨h,RC.same e,rfl⟩
  obtain⟨aV,aW,ab,aX⟩:=RV.int aF;obtain⟨aY,aZ,ac,o⟩:=RV.int aG;obtain⟨a0,rfl⟩:=mixK g (aC aE<|aC ab<|aC ac<|aC aH<|aC aI<|aC aJ<|aC aK<|aC aL aN);refine Ol (J0t e Jhf rfl rfl (x_Z e.bd (by omega) (by omega)) ?_);intro a1 a2 B p ad;replace o:=o.sp p;replace l:=(l.spn A).spn p;obtain⟨a3,a4,rfl,ae⟩:=RV.int ad;refine Ol (J0t B Ju9 rfl rfl (Juw B.bd (a:=(ofZ<|(Je (d.take i):Int) * 10)) (Jj o) (b:=(ofZ ((((d.getD i 0).toNat) - 48:Nat):Int))) (Jj ae) (Jpp hd hi hl)<|Jta (by omega)) ?_);intro a5 a6 af D E;replace k:=(k.spn p).spn D;simp only [Jq,Yq] at E;obtain⟨F,G,rfl,m⟩:=RV.int E;refine On (J0u (cs':=[(.bool (ofZ<|((Je (d.take i):Int) * 10)+((((d.getD i 0).toNat) - 48:Nat):Int)).neg),(.slice F (ofZ<|((Je (d.take i):Int) * 10)+((((d.getD i 0).toNat) - 48:Nat):Int)).mag.length G)]) af k io26 rfl rfl rfl rfl rfl rfl ?_);intro a7 ag H I;replace m:=m.sp H;replace l:=(l.spn D).spo H P;refine Nl (J0y<|Om<|Ol<|St.add rfl rfl (Jc (a:=i) (b:=1) (by omega))<|Oa<|Nl ?_);rw [Jnd (by omega)] at I m;refine⟨_,(by omega),_,_,(i+1),F,G,ag,rfl,rfl,rfl,rfl,m,l,I,(by omega),rfl⟩
 refine Nl (J0v rfl<|J1j<|Rg<|Ol<|J0z (vs:=[(.bool (ofZ (Je (d.take i):Int)).neg),(.slice va (ofZ (Je (d.take i):Int)).mag.length vc)]) k ag26 rfl rfl rfl<|On<|J0u (cs':=[(.bool (ofZ (Je (d.take i):Int)).neg),(.slice va (ofZ (Je (d.take i):Int)).mag.length vc)]) R l io26 rfl rfl rfl rfl rfl rfl ?_);intro a8 J ah ai;replace hV:=hV.sp ah;refine Nl (J04<|Jo rfl (resV.c ai rfl ag26 rfl)<|J02 ?_ J.below);exact J36 (a:=(ofZ (Je (d.take i):Int))) ((Jj hV).tr (Tr.weak J.base))<|Jp6 (by omega)
end Go.Wf
namespace Go.Wf
open Go Go.Proofs Go.RowKit
theorem Jsw{X:Nat→Prop}{w:World}(hX:XB X w){m:Value}{a:GInt}(r0:RV J1 X w m a)(hl:a.mag.length≤1099511627776)(i:0≤a.toZ):CRt 234 #[m] w fun v w'=>(∃ m U,v= .tuple #[m,U]∧(m=(.int .i64 (if a.toZ≤9223372036854775807 then a.toZ else 0)))∧(U=(.bool (decide (a.toZ≤9223372036854775807))))):=by
 obtain⟨D,E,rfl,g⟩:=RV.int r0;have C:=J07 hX;refine Cgo (args:=[(.agg #[(.bool a.neg),(.slice D a.mag.length E)])]) Tryz.func234 rfl rfl rfl (Rg<|Ol<|J1e C rfl ?_);intro g4 w5 x6 y7 aj V Y e;replace g:=g.sp Y;refine Oa (Oa<|Nl<|Rg<|Ol<|J0z (vs:=[(.bool a.neg),(.slice D a.mag.length E)]) e ag26 rfl rfl rfl<|Ol<|J0t V q6 rfl rfl (Vs V.bd (a:=a) (Jj g) hl) ?_);intro ak am Z F aa;replace g:=g.sp F;replace e:=e.spn F;obtain⟨o,p,rfl,h⟩:=RV.int aa;refine Ol (J05 Z io26 rfl ?_);intro G an ao aq P ab r ac;have ad:=P _ e.blk.lt;refine On (J0u (cs':=[(.bool (ofZ a.toZ).neg),(.slice o (ofZ a.toZ).mag.length p)]) ab ac io26 rfl rfl rfl rfl rfl rfl ?_);intro ar H s A;replace g:=(g.sp r).sp s;replace h:=(h.sp r).sp s;replace e:=(e.spn r).spo s ad;refine Nl<|Rh<|Ol<|J0s J4 rfl<|Ol<|J0x A pl24 rfl rfl<|Ol<|St.len sl24 rfl<|Ol<|J10 rfl rfl (fun Q=>?_)<|fun Q=>?_
 ·refine Nl (J0w rfl<|Rg<|Oa<|Oa<|Nl<|J04<|Zh rfl (J35 rfl) (J35 rfl)<|J02 ?_ H.below);refine⟨_,_,rfl,?_,?_⟩
  ·skip
   exact congrArg (Value.int _)<|(if_neg<|Jwb i (by omega)).symm
  ·skip
   exact congrArg (Value.bool)<|(decide_eq_false<|Jwb i (by omega)).symm
 refine Nl (J0v rfl<|J01<|Rg<|Oa<|Nl<|Rh<|Ol<|J0s J4 rfl<|Ol<|J0x A pl24 rfl rfl<|Ol<|St.len sl24 rfl<|Ol<|St.sub (z:=((((ofZ a.toZ).mag.length:Nat):Int) - 1)) rfl rfl (IntWalk.i64_in _ (by omega))<|Oa<|Nl<|W.block<|J1g (fun μ f v=>∃ (x y:Nat→Prop) (k:Nat),Cx X w x y v∧f 2=(.int .i64 0)∧f 3=(.bool false)∧f 4=(.pointer (some ⟨G,0,none⟩))∧f 6=(.int .i64 (((k:Nat):Int) - 1))∧f 5=(.int .u64 ((val ((ofZ a.toZ).mag.drop k):Nat):Int))∧RS Jd x v (.slice D a.mag.length E) a.mag∧RS Jd x v (.slice o (ofZ a.toZ).mag.length p) (ofZ a.toZ).mag∧Own w y v g4 [(.bool a.neg),(.slice D a.mag.length E)] 26∧Own w y v G [(.bool (ofZ a.toZ).neg),(.slice o (ofZ a.toZ).mag.length p)] 26∧k≤(ofZ a.toZ).mag.length∧μ=k) _ ⟨_,_,(ofZ a.toZ).mag.length,H,rfl,rfl,rfl,rfl,(by rw [List.drop_length];rfl),g,h,e,A,(Nat.le_refl _),rfl⟩ ?_);rintro au av aw ⟨ax,ay,k,B,I,J,K,L,M,g,h,ae,l,hk,af⟩;obtain⟨az,rfl⟩:=rebK (aC I<|aC J<|aC K<|aC L<|aC M aN);clear I J K L M;refine Rh<|Om<|Ol<|J13 rfl rfl (fun R=>?_)<|fun R=>?_
 ·refine Nl (J0w rfl<|J01<|J06<|W.block ?_);obtain⟨j,rfl⟩:∃ j,k=j+1:=⟨k - 1,by omega⟩;have aA:val ((ofZ a.toZ).mag.drop (j+1)) < 4294967296:=Jrp (by omega) (by omega);have aB:(ofZ a.toZ).mag.getD j 0 < 4294967296:=Ji (Zt _) j;refine J0y (Om<|Ol<|J2p rfl rfl (by decide) (Q5 (a:=val<|(ofZ a.toZ).mag.drop (j+1)) (d:=4294967296) (by decide) (by omega))<|Ol<|J0s J4 rfl<|Ol<|J0x l pl24 rfl rfl<|Om<|Ol<|J1l (j:=j) (u:=(((ofZ a.toZ).mag).getD j 0)) h sl24 Jh rfl rfl (by omega) (Jf (by omega)) ?_);intro aD aE S N;obtain⟨rfl,ai⟩:S=_∧_:=N.rd;refine Ol (J1d Zf rfl (N.cell 0 _ rfl)<|Ol<|J1b (z:=(((((ofZ a.toZ).mag).getD j 0):Nat):Int)) Yb Z6 rfl (IntWalk.u64_in _ (by omega))<|Ol<|St.add rfl rfl (J7 (a:=(val<|(ofZ a.toZ).mag.drop (j+1)) * 4294967296) (b:=(((ofZ a.toZ).mag).getD j 0)) (by omega))<|Oa<|Nl<|J0y<|Om<|Ol<|St.sub (z:=((((j+1:Nat):Int) - 1) - 1)) rfl rfl (IntWalk.i64_in _ (by omega)) ?_);refine Oa<|Nl<|⟨_,(by omega),_,_,j,B,rfl,rfl,rfl,(congrArg (Value.int .i64) (by omega)),(congrArg (Value.int .u64)<|congrArg Nat.cast<|Jm2 (by omega)),g,h,ae,l,(by omega),rfl⟩
 refine Nl (J0v rfl<|J1j<|J06<|J06 ?_);obtain rfl:k=0:=by omega
 rw [Jwp i] at l;refine J0y<|Ol<|J0s Zq rfl<|Ol<|J0x l pl4 rfl rfl<|Om<|Oz<|Oz<|OF<|Nl<|J0v rfl<|J01<|Rh<|Ol<|J0s Zq rfl<|Ol<|J0x l pl4 rfl rfl<|Ol<|J1s rfl<|Om<|OgD<|J00<|OgD<|J2e rfl rfl (fun T=>?_)<|fun T=>?_
 ·refine OT (Nl<|J0w rfl<|Rg<|Om<|Ol<|J1b (z:=((val ((ofZ a.toZ).mag.drop 0):Nat):Int)) Yj un3 rfl (IntWalk.i64_in _ (by omega))<|Oa<|Oa<|Nl<|J04<|Zh rfl (J35 rfl) (J35 rfl)<|J02 ?_ B.below);refine⟨_,_,rfl,?_,?_⟩
  ·skip
   exact congrArg (Value.int _)<|(by rw [if_pos (by have:=Jc1 i;omega)];exact Jc1 i)
  ·skip
   exact congrArg (Value.bool)<|(decide_eq_true (by have:=Jc1 i;omega)).symm
 refine OT (Nl<|J0v rfl<|J01<|Rg<|Oa<|Oa<|Nl<|J04<|Zh rfl (J35 rfl) (J35 rfl)<|J02 ?_ B.below);refine⟨_,_,rfl,?_,?_⟩
 ·skip
  exact congrArg (Value.int _)<|(if_neg (by have:=Jc1 i;omega)).symm
 ·skip
  exact congrArg (Value.bool)<|(decide_eq_false (by have:=Jc1 i;omega)).symm
theorem Jbv{X:Nat→Prop}{w:World}(hX:XB X w){g:Nat}{s:List UInt8}{t:Rr Unit}{o:Nat}(hB:Blk w g (rc4 s (plR t) (ecR t) o) 62)(hXg:X g){d:List UInt8}{q:Nat}{mi:Bool}(ht:t.fine s)(hs:s.length≤65536)(hd:∀ c ∈ d,digB c=true)(hl:d.length≤65536)(hq:q≤s.length):Calls Tryz.prog 204 #[(.pointer (some ⟨g,0,none⟩)),(str d),(.int .i64 ((q:Nat):Int)),(.bool mi)] w (RetM w g fun v w'=>v=(.int .i64 (wiV d mi))∧Blk w' g (rc4 s (plR (wiR d q t)) (ecR (wiR d q t)) o) 62):=by
 have C:=J1t g hX hXg;have j:=J38 hB;refine Cgo (args:=[(.pointer (some ⟨g,0,none⟩)),(str d),(.int .i64 ((q:Nat):Int)),(.bool mi)]) Tryz.func204 rfl rfl rfl (Rg<|Oa<|Nl<|Rg<|Om<|Ol<|J0t C Js9 rfl rfl (Jet C.bd hd hl) ?_);intro S T m D E;obtain⟨U,V,rfl,F⟩:=RV.int E;refine Ol (J0t m cb234 rfl rfl (Jsw m.bd (a:=(ofZ (Je d:Int))) (Jj F) (Nat.le_trans (Xl hd) (by omega)) (by rw [Jq];omega)) ?_);intro Y G i r l;replace j:=(j.spn D).spn r;simp only [Jq,Yq] at l;obtain⟨H,I,rfl,rfl,rfl⟩:=l;refine Om<|Ol<|St.extract rfl rfl<|Ol<|St.extract rfl rfl<|Oa<|Ol<|J1n<|J2h ⟨_,rfl,fun b=>?_,fun b=>?_⟩
 ·refine Nl<|Rh<|Om<|Ol<|J1s rfl<|Om<|OgD<|J00<|OgD<|J10 rfl rfl (fun h=>?_)<|fun h=>?_
  ·refine OF (Nl<|J0w rfl<|Rg<|Om<|Om<|Ol<|J08 i j cb33 rfl rfl (yr i.bd (s:=s) (p:=plR t) (e:=(ecR t)) (o:=o) j.blk (i.yx _ j.mem) (q:=q)) ?_);intro J K x L y M;refine Nl<|Rg<|Oa<|Nl<|J04<|Jo rfl (J35 rfl)<|RetM.intro ⟨?_,?_⟩ x.below
   ·exact congrArg (Value.int _)<|(by unfold wiV;rw [if_pos<|vx rfl<|.inr h])
   exact Blk.to4 y.blk (Jo3 ht<|vx rfl<|.inr h) (Jn5 ht<|vx rfl<|.inr h) rfl
  refine OF<|Nl<|J0v rfl<|J01<|Rh<|Ol<|J1n<|J00 ⟨_,rfl,fun k=>?_,fun k=>?_⟩
  ·refine Nl<|J0w rfl<|Rg<|Om<|Ol<|St.neg (z:=(-(if(Je d:Int)≤9223372036854775807 then(Je d:Int) else 0))) rfl (kx (by omega))<|Oa<|Nl<|J04<|Jo rfl (J35 rfl)<|RetM.intro ⟨?_,?_⟩ i.below
   ·exact congrArg (Value.int _)<|(Ju8 (of_decide_eq_true b) (Jhi (of_decide_eq_true b) h) k)
   exact Blk.to4 j.blk (congrArg plR<|wi_t<|Jhi (of_decide_eq_true b) h) (congrArg ecR<|wi_t<|Jhi (of_decide_eq_true b) h) rfl
  refine Nl<|J0v rfl<|J01<|Rg<|Om<|Oa<|Nl<|J04<|Jo rfl (J35 rfl)<|RetM.intro ⟨?_,?_⟩ i.below
  ·exact congrArg (Value.int _)<|(Jxc (of_decide_eq_true b) (Jhi (of_decide_eq_true b) h) k)
  exact Blk.to4 j.blk (congrArg plR<|wi_t<|Jhi (of_decide_eq_true b) h) (congrArg ecR<|wi_t<|Jhi (of_decide_eq_true b) h) rfl
 refine Nl (Rh<|Om<|Ol<|J1s rfl<|Om<|Oz<|Oz<|OT<|Nl<|J0w rfl<|Rg<|Om<|Om<|Ol<|J08 i j cb33 rfl rfl (yr i.bd (s:=s) (p:=plR t) (e:=(ecR t)) (o:=o) j.blk (i.yx _ j.mem) (q:=q)) ?_);intro N P A Q B R;refine Nl<|Rg<|Oa<|Nl<|J04<|Jo rfl (J35 rfl)<|RetM.intro ⟨?_,?_⟩ A.below
 ·exact congrArg (Value.int _)<|(by unfold wiV;rw [if_pos<|vx rfl<|.inl (of_decide_eq_false b)])
 exact Blk.to4 B.blk (Jo3 ht<|vx rfl<|.inl (of_decide_eq_false b)) (Jn5 ht<|vx rfl<|.inl (of_decide_eq_false b)) rfl
theorem Jkz{X:Nat→Prop}{w:World}(hX:XB X w){g:Nat}{s:List UInt8}{t:Rr Unit}{o:Nat}(hB:Blk w g (rc4 s (plR t) (ecR t) o) 62)(hXg:X g)(ht:t.fine s)(hs:s.length≤65536):Calls Tryz.prog 150 #[(.pointer (some ⟨g,0,none⟩))] w (RetM w g fun v w'=>v=(.int .i64 (inV s t))∧Blk w' g (rc4 s (plR (inR s t)) (ecR (inR s t)) o) 62):=by
 have C:=J1t g hX hXg;have r:=J38 hB;refine Cgo (args:=[(.pointer (some ⟨g,0,none⟩))]) Tryz.func150 rfl rfl rfl (Rg<|Oa<|Nl<|Rg<|Om<|Ol<|J08 C r cb71 rfl rfl (zr C.bd (s:=s) (t:=t) (o:=o) r.blk (C.yx _ r.mem) ht hs) ?_);intro v1 w2 x s4 p h6;refine Nl (Rg<|Om<|Ol<|J03 rfl<|Ol<|J0s Zd rfl<|Ol<|J0x p pl3 rfl rfl<|Oa<|Nl<|Rg<|Om<|Ol<|J08 x p cb32 rfl rfl (Xj x.bd (s:=s) (t:=blR s t) (o:=o) p.blk (x.yx _ p.mem) (Jn ht) hs) ?_);intro v7 w8 l J d z;subst z;refine Ol<|J1a rfl rfl (fun y=>?_)<|fun y=>?_
 ·refine Oa (Nl<|Rh<|Om<|Nl<|J0w rfl<|J0y<|Om<|Ol<|J08 l d cb69 rfl rfl (X9 l.bd (s:=s) (t:=blR s<|blR s t) (o:=o) d.blk (l.yx _ d.mem) (c:=45) (Jn<|Jn ht) hs) ?_);intro K L m M i N;refine Nl (J06 ?_);rw [(in1_t ht (by omega))] at i;refine J0y (Om<|Ol<|J08 m i Jm4 rfl rfl (qt m.bd (s:=s) (t:=in1 s t) (o:=o) i.blk (m.yx _ i.mem) (qj ht) hs) ?_);intro P Q j R e A;subst A;refine Oa<|Nl<|Rh<|Om<|Ol<|J03 rfl<|Ol<|J0s Kz rfl<|Ol<|J0x e pl3 rfl rfl<|Ol<|J11 rfl rfl (fun a=>?_)<|fun a=>?_
  ·refine Nl<|J0w rfl<|Rg<|Oa<|Nl<|J04<|Jo rfl (J35 rfl)<|RetM.intro ⟨?_,?_⟩ j.below
   ·exact congrArg (Value.int _)<|(in_e ht a).2
   exact Blk.to4 e.blk (congrArg plR (in_e ht a).1) (congrArg ecR (in_e ht a).1) rfl
  refine Nl (J0v rfl<|J01<|Rg<|Om<|Om<|Om<|Om<|Ol<|J08 j e Jrg rfl rfl (Jbv j.bd (s:=s) (t:=dgR s<|in1 s t) (o:=o) e.blk (j.yx _ e.mem) (q:=plR<|blR s t) (Xw<|qj ht) hs (fun c hc=>Jdj hc) (Nat.le_trans Jby hs)<|zh<|Jn ht) ?_);intro S T B U D E;subst E;refine Oa<|Nl<|J04<|Jo rfl (J35 rfl)<|RetM.intro ⟨?_,?_⟩ B.below
  ·exact congrArg (Value.int _)<|(in_o ht a<|decide_eq_true (by omega)).2
  exact Blk.to4 D.blk (congrArg plR (in_o ht a<|decide_eq_true (by omega)).1) (congrArg ecR (in_o ht a<|decide_eq_true (by omega)).1) rfl
 refine Oa (Nl<|Rh<|Om<|Nl<|J0v rfl<|J01<|J06 ?_);rw [(in1_f ht (by omega))] at d;refine J0y (Om<|Ol<|J08 l d Jm4 rfl rfl (qt l.bd (s:=s) (t:=in1 s t) (o:=o) d.blk (l.yx _ d.mem) (qj ht) hs) ?_);intro V Y k Z h F;subst F;refine Oa<|Nl<|Rh<|Om<|Ol<|J03 rfl<|Ol<|J0s Kz rfl<|Ol<|J0x h pl3 rfl rfl<|Ol<|J11 rfl rfl (fun b=>?_)<|fun b=>?_
 ·refine Nl<|J0w rfl<|Rg<|Oa<|Nl<|J04<|Jo rfl (J35 rfl)<|RetM.intro ⟨?_,?_⟩ k.below
  ·exact congrArg (Value.int _)<|(in_e ht b).2
  exact Blk.to4 h.blk (congrArg plR (in_e ht b).1) (congrArg ecR (in_e ht b).1) rfl
 refine Nl (J0v rfl<|J01<|Rg<|Om<|Om<|Om<|Om<|Ol<|J08 k h Jrg rfl rfl (Jbv k.bd (s:=s) (t:=dgR s<|in1 s t) (o:=o) h.blk (k.yx _ h.mem) (q:=plR<|blR s t) (Xw<|qj ht) hs (fun c hc=>Jdj hc) (Nat.le_trans Jby hs)<|zh<|Jn ht) ?_);intro aa ab G ac H I;subst I;refine Oa<|Nl<|J04<|Jo rfl (J35 rfl)<|RetM.intro ⟨?_,?_⟩ G.below
 ·exact congrArg (Value.int _)<|(in_o ht b<|decide_eq_false (by omega)).2
 exact Blk.to4 H.blk (congrArg plR (in_o ht b<|decide_eq_false (by omega)).1) (congrArg ecR (in_o ht b<|decide_eq_false (by omega)).1) rfl
end Go.Wf
namespace Go.Wf
open Go Go.Proofs Go.RowKit
theorem xu{X:Nat→Prop}{w:World}(hX:XB X w){g:Nat}{s:List UInt8}{t:Rr Unit}{o q:Nat}{c:Int}(hB:Blk w g (rc4 s (plR t) (ecR t) o) 62)(hXg:X g)(ht:t.fine s)(hs:s.length≤65536):
  Calls Tryz.prog 33 #[(.pointer (some ⟨g,0,none⟩)),(.int .i64 ((q:Nat):Int)),(.int .i64 c)] w (RetM w g fun v w'=>v= .tuple #[]∧Blk w' g (rc4 s (plR<|flR t q c) (ecR<|flR t q c) o) 62):=by
 have h:=yr hX hB hXg (q:=q) (c:=c);rw [fl_pl (e:=c) ht,fl_ec (q:=q) ht] at h;exact h
theorem Jcn{X:Nat→Prop}{w:World}(hX:XB X w){g:Nat}{s:List UInt8}{t:Rr Unit}{o:Nat}(hB:Blk w g (rc4 s (plR t) (ecR t) o) 62)(hXg:X g){c:Nat}(ht:t.fine s)(hs:s.length≤65536)(ho:o≤1099511627776):Calls Tryz.prog 199 #[(.pointer (some ⟨g,0,none⟩)),(.int .u8 ((c:Nat):Int))] w (RetM w g fun v w'=>v= .tuple #[]∧Blk w' g (rc4 s (plR (opR s o t c)) (ecR (opR s o t c)) (opB c o)) 62):=by
 have C:=J1t g hX hXg;have B:=J38 hB;refine Cgo (args:=[(.pointer (some ⟨g,0,none⟩)),(.int .u8 ((c:Nat):Int))]) Tryz.func199 rfl rfl rfl (Rg<|Om<|Ol<|J08 C B cb71 rfl rfl (zr C.bd (s:=s) (t:=t) (o:=o) B.blk (C.yx _ B.mem) ht hs) ?_);intro v1 w2 l s4 m h6;refine Nl<|Rh<|Om<|Ol<|J1a rfl rfl (fun J=>?_)<|fun J=>?_
 ·refine Om (OgD<|J00<|OgD<|J08 l m cb32 rfl rfl (Xj l.bd (s:=s) (t:=blR s t) (o:=o) m.blk (l.yx _ m.mem) (Jn ht) hs) ?_);intro v8 w9 e U d K;subst K;refine OgD<|J00<|OgD<|J1a rfl rfl (fun D=>?_)<|fun D=>?_
  ·refine OT<|Om<|OgD<|J00<|OgD<|J03 rfl<|OgD<|J0s Va rfl<|OgD<|J0x d pl3 rfl rfl<|OgD<|J1a rfl rfl (fun E=>?_)<|fun E=>?_
   ·refine OT (Nl<|J0w rfl<|J0y<|Om<|Om<|Ol<|J03 rfl<|Ol<|J0s Zd rfl<|Ol<|J0x d pl3 rfl rfl<|Ol<|J08 e d cb33 rfl rfl (xu e.bd (s:=s) (t:=blR s<|blR s t) (o:=o) d.blk (e.yx _ d.mem) (q:=plR<|blR s<|blR s t) (Jn<|Jn ht) hs) ?_);intro V Y p Z r aa;refine Nl (Rg<|Om<|Om<|Ol<|J08 p r cb69 rfl rfl (X9 p.bd (s:=s) (t:=flR (blR s<|blR s t) (plR<|blR s<|blR s t) 7) (o:=o) r.blk (p.yx _ r.mem) (c:=c) (Jdr (Jn<|Jn ht) (by decide)<|zh<|Jn<|Jn ht) hs) ?_);intro ab ac x ad h ae;refine Nl (J06 ?_);rw [(op_C (s:=s) (t:=t) (c:=c) (o:=o) (by omega) (by omega) (by omega))] at h;refine J0y<|Om<|Ol<|J1a rfl rfl (fun F=>?_)<|fun F=>?_
    ·refine Nl (J0w rfl<|J0y<|Om<|Om<|Ol<|J03 rfl<|Ol<|J0s Va rfl<|Ol<|J0x h pl3 rfl rfl<|Ol<|St.add rfl rfl (Jc (a:=o) (b:=1) (by omega))<|Ol<|J03 rfl<|Ol<|J0s Va rfl<|On<|J0u (cs':=[(str s),(.int .i64 ((plR (opR s o t c):Nat):Int)),(.int .i64 (ecR<|opR s o t c)),(.int .i64 ((o+1:Nat):Int))]) x h io3 rfl rfl rfl rfl rfl rfl ?_);intro af L ag M;refine Nl<|Zp rfl<|RetM.intro ⟨?_,?_⟩ L.below
     ·exact rfl
     exact Blk.to4 M.blk rfl rfl<|Jl4 (by omega)
    refine Nl<|J0v rfl<|J01<|Zp rfl<|RetM.intro ⟨?_,?_⟩ x.below
    ·exact rfl
    exact Blk.to4 h.blk rfl rfl<|Jm8 (by omega)
   refine OT (Nl<|J0v rfl<|J01<|Rg<|Om<|Om<|Ol<|J08 e d cb69 rfl rfl (X9 e.bd (s:=s) (t:=blR s<|blR s t) (o:=o) d.blk (e.yx _ d.mem) (c:=c) (Jn<|Jn ht) hs) ?_);intro ah ai y aj i ak;refine Nl (J06 ?_);rw [(op_B (s:=s) (t:=t) (c:=c) (o:=o) (by omega) (fun hk=>by omega))] at i;refine J0y<|Om<|Ol<|J1a rfl rfl (fun G=>?_)<|fun G=>?_
   ·refine Nl (J0w rfl<|J0y<|Om<|Om<|Ol<|J03 rfl<|Ol<|J0s Va rfl<|Ol<|J0x i pl3 rfl rfl<|Ol<|St.add rfl rfl (Jc (a:=o) (b:=1) (by omega))<|Ol<|J03 rfl<|Ol<|J0s Va rfl<|On<|J0u (cs':=[(str s),(.int .i64 ((plR (opR s o t c):Nat):Int)),(.int .i64 (ecR<|opR s o t c)),(.int .i64 ((o+1:Nat):Int))]) y i io3 rfl rfl rfl rfl rfl rfl ?_);intro am N an P;refine Nl<|Zp rfl<|RetM.intro ⟨?_,?_⟩ N.below
    ·exact rfl
    exact Blk.to4 P.blk rfl rfl<|Jl4 (by omega)
   refine Nl<|J0v rfl<|J01<|Zp rfl<|RetM.intro ⟨?_,?_⟩ y.below
   ·exact rfl
   exact Blk.to4 i.blk rfl rfl<|Jm8 (by omega)
  refine OT (Om<|Oz<|Oz<|Oz<|Oz<|Oz<|OF<|Nl<|J0v rfl<|J01<|Rg<|Om<|Om<|Ol<|J08 e d cb69 rfl rfl (X9 e.bd (s:=s) (t:=blR s<|blR s t) (o:=o) d.blk (e.yx _ d.mem) (c:=c) (Jn<|Jn ht) hs) ?_);intro ao aq z ar j au;refine Nl (J06 ?_);rw [(op_B (s:=s) (t:=t) (c:=c) (o:=o) (by omega) (fun hk=>by omega))] at j;refine J0y<|Om<|Ol<|J1a rfl rfl (fun H=>?_)<|fun H=>?_
  ·refine Nl (J0w rfl<|J0y<|Om<|Om<|Ol<|J03 rfl<|Ol<|J0s Va rfl<|Ol<|J0x j pl3 rfl rfl<|Ol<|St.add rfl rfl (Jc (a:=o) (b:=1) (by omega))<|Ol<|J03 rfl<|Ol<|J0s Va rfl<|On<|J0u (cs':=[(str s),(.int .i64 ((plR (opR s o t c):Nat):Int)),(.int .i64 (ecR<|opR s o t c)),(.int .i64 ((o+1:Nat):Int))]) z j io3 rfl rfl rfl rfl rfl rfl ?_);intro av Q aw R;refine Nl<|Zp rfl<|RetM.intro ⟨?_,?_⟩ Q.below
   ·exact rfl
   exact Blk.to4 R.blk rfl rfl<|Jl4 (by omega)
  refine Nl<|J0v rfl<|J01<|Zp rfl<|RetM.intro ⟨?_,?_⟩ z.below
  ·exact rfl
  exact Blk.to4 j.blk rfl rfl<|Jm8 (by omega)
 refine Om (Oz<|Oz<|Oz<|Oz<|OF<|Om<|Oz<|Oz<|Oz<|Oz<|Oz<|OF<|Nl<|J0v rfl<|J01<|Rg<|Om<|Om<|Ol<|J08 l m cb69 rfl rfl (X9 l.bd (s:=s) (t:=blR s t) (o:=o) m.blk (l.yx _ m.mem) (c:=c) (Jn ht) hs) ?_);intro ax ay A az k aA;refine Nl (J06 ?_);rw [(op_A (s:=s) (t:=t) (c:=c) (o:=o) (by omega))] at k;refine J0y<|Om<|Ol<|J1a rfl rfl (fun I=>?_)<|fun I=>?_
 ·refine Nl (J0w rfl<|J0y<|Om<|Om<|Ol<|J03 rfl<|Ol<|J0s Va rfl<|Ol<|J0x k pl3 rfl rfl<|Ol<|St.add rfl rfl (Jc (a:=o) (b:=1) (by omega))<|Ol<|J03 rfl<|Ol<|J0s Va rfl<|On<|J0u (cs':=[(str s),(.int .i64 ((plR (opR s o t c):Nat):Int)),(.int .i64 (ecR<|opR s o t c)),(.int .i64 ((o+1:Nat):Int))]) A k io3 rfl rfl rfl rfl rfl rfl ?_);intro aB S aD T;refine Nl<|Zp rfl<|RetM.intro ⟨?_,?_⟩ S.below
  ·exact rfl
  exact Blk.to4 T.blk rfl rfl<|Jl4 (by omega)
 refine Nl<|J0v rfl<|J01<|Zp rfl<|RetM.intro ⟨?_,?_⟩ A.below
 ·exact rfl
 exact Blk.to4 k.blk rfl rfl<|Jm8 (by omega)
theorem vm{X:Nat→Prop}{w:World}(hX:XB X w){g:Nat}{s:List UInt8}{t:Rr Unit}{o:Nat}(hB:Blk w g (rc4 s (plR t) (ecR t) o) 62)(hXg:X g){c:Nat}(ht:t.fine s)(hs:s.length≤65536)(hc:c=41→1≤o)(ho:o≤1099511627777):Calls Tryz.prog 200 #[(.pointer (some ⟨g,0,none⟩)),(.int .u8 ((c:Nat):Int))] w (RetM w g fun v w'=>v= .tuple #[]∧Blk w' g (rc4 s (plR (tkR s t c)) (ecR (tkR s t c)) (opC c o)) 62):=by
 have C:=J1t g hX hXg;have d:=J38 hB;refine Cgo (args:=[(.pointer (some ⟨g,0,none⟩)),(.int .u8 ((c:Nat):Int))]) Tryz.func200 rfl rfl rfl (Rg<|Om<|Om<|Ol<|J08 C d cb69 rfl rfl (X9 C.bd (s:=s) (t:=t) (o:=o) d.blk (C.yx _ d.mem) (c:=c) ht hs) ?_);intro m p h r e x;refine Nl<|Rg<|Om<|Ol<|J1a rfl rfl (fun i=>?_)<|fun i=>?_
 ·refine Nl (J0w rfl ?_);have y:=hc (by omega);refine J0y (Om<|Om<|Ol<|J03 rfl<|Ol<|J0s Va rfl<|Ol<|J0x e pl3 rfl rfl<|Ol<|St.sub rfl rfl (Zr (a:=o) (b:=1) (by omega) (by omega))<|Ol<|J03 rfl<|Ol<|J0s Va rfl<|On<|J0u (cs':=[(str s),(.int .i64 ((plR (tkR s t c):Nat):Int)),(.int .i64 (ecR<|tkR s t c)),(.int .i64 ((o - 1:Nat):Int))]) h e io3 rfl rfl rfl rfl rfl rfl ?_);intro z k l j;refine Nl<|Zp rfl<|RetM.intro ⟨?_,?_⟩ k.below
  ·exact rfl
  exact Blk.to4 j.blk rfl rfl<|opC_t (by omega)
 refine Nl<|J0v rfl<|J01<|Zp rfl<|RetM.intro ⟨?_,?_⟩ h.below
 ·exact rfl
 exact Blk.to4 e.blk rfl rfl<|opC_f (by omega)
theorem Jd2{X:Nat→Prop}{w:World}(hX:XB X w){g:Nat}{s:List UInt8}{t:Rr Unit}{o:Nat}(hB:Blk w g (rc4 s (plR t) (ecR t) o) 62)(hXg:X g){a:Nat}{b:Nat}(ht:t.fine s)(hs:s.length≤65536)(ho:o≤1099511627776)(hab:(a=40∧b=41)∨(a=91∧b=93)):Calls Tryz.prog 231 #[(.pointer (some ⟨g,0,none⟩)),(.int .u8 ((a:Nat):Int)),(.int .u8 ((b:Nat):Int))] w (RetM w g fun v w'=>(∃ l:List Int,RS Ye X w' v l∧Got (Rr.run t (isF s o a b)) l∧l.length≤s.length+3∧Rr.fine s (Rr.run t (isF s o a b)))∧Blk w' g (rc4 s (plR (isR s o t a b)) (ecR (isR s o t a b)) o) 62):=by
 have C:=J1t g hX hXg;have M:=J38 hB
 have:maxLen=9223372036854775807:=rfl
 refine Cgo (args:=[(.pointer (some ⟨g,0,none⟩)),(.int .u8 ((a:Nat):Int)),(.int .u8 ((b:Nat):Int))]) Tryz.func231 rfl rfl rfl (Rg<|Oa<|Nl<|Rg<|Om<|Om<|Ol<|J08 C M Jiw rfl rfl (Jcn C.bd (s:=s) (t:=t) (o:=o) M.blk (C.yx _ M.mem) (c:=a) ht hs ho) ?_);intro v1 w2 N s4 P h6;refine Nl (Rg<|Om<|Ol<|J08 N P Jh9 rfl rfl (Jkz N.bd (s:=s) (t:=opR s o t a) (o:=(opB a o)) P.blk (N.yx _ P.mem) (Qe ht) hs) ?_);intro v7 w8 C9 am m R;subst R;refine Ol (J2v (T:=Ye) (css:=[[(.int .i64 (inV s<|opR s o t a))]]) (l:=[(inV s<|opR s o t a)]) C9 sl23 io3 (by decide) (by decide) rfl (by kernel_rfl) ⟨⟨rfl,(by have:=Q1 (s:=s) (t:=opR s o t a);omega),(by have:=Q1 (s:=s) (t:=opR s o t a);omega)⟩,trivial⟩ ?_);intro S an ao U V aq Y;replace m:=m.spn V;refine Oa (Nl<|J06<|W.block<|J1g (fun μ f v=>∃ (x y:Nat→Prop) (τ:Rr Unit) (k:Nat) (l:List Int) (la:Option Addr) (lc:Nat),Cx X ⟨w,(· =g)⟩ x y v∧f 0=(.pointer (some ⟨g,0,none⟩))∧f 2=(.int .u8 ((b:Nat):Int))∧f 6=(.slice none 0 0)∧f 7=(.slice la l.length lc)∧OS Ye 3 ⟨w,(· =g)⟩ x y v (.slice la l.length lc) l∧Own ⟨w,(· =g)⟩ y v g [(str s),(.int .i64 ((plR τ:Nat):Int)),(.int .i64 (ecR τ)),(.int .i64 (((opB a o):Nat):Int))] 62∧τ.fine s∧(ecR τ=0→s.length < plR τ+k)∧((t.run<|isF s o a b)=τ.run fun q=>Xd s b k l q)∧l.length+msR s τ≤s.length+3∧μ=(msR s τ)) _ ⟨_,_,(inR s<|opR s o t a),(s.length+1),[(inV s<|opR s o t a)],(some ⟨S,0,none⟩),1,U,rfl,rfl,rfl,rfl,Y,m,(ye<|Qe ht),(fun _=>by omega),is_go,(by have:=Jru (s:=s) (t:=inR s<|opR s o t a);rw [List.length_singleton];omega),rfl⟩ ?_);rintro ar au av ⟨aw,ax,τ,k,l,la,lc,p,B,D,E,F,hL,r,hf,hk,hR,hl,aj⟩;obtain⟨ay,rfl⟩:=rebK (aC B<|aC D<|aC E<|aC F aN);clear B D E F;refine Rh (Om<|Ol<|J08 p r cb32 rfl rfl (Xj p.bd (s:=s) (t:=τ) (o:=(opB a o)) r.blk (p.yx _ r.mem) hf hs) ?_);intro az aA d G e Z;subst Z;refine Ol<|J1a rfl rfl (fun Q=>?_)<|fun Q=>?_
 ·refine Nl (J0w rfl<|J01<|W.block<|Rg<|Om<|Ol<|J08 d e cb69 rfl rfl (X9 d.bd (s:=s) (t:=blR s τ) (o:=(opB a o)) e.blk (d.yx _ e.mem) (c:=44) (Jn hf) hs) ?_);intro aB aD j aa z aE;replace hL:=(hL.sp G d<|fun _ h=>h).sp aa j (fun _ h=>h)
  refine Nl (J0y<|Om<|Om<|Ol<|J08 j z Jh9 rfl rfl (Jkz j.bd (s:=s) (t:=tkR s (blR s τ) 44) (o:=(opB a o)) z.blk (j.yx _ z.mem) (Yd<|Jn hf) hs) ?_);intro aF aG H ab i ac;subst ac;refine Ol (J1k (T:=Ye) (css:=[[(.int .i64 (inV s<|tkR s (blR s τ) 44))]]) (l:=[(inV s<|tkR s (blR s τ) 44)]) H sl23 io3 (by decide) (by decide) rfl (by kernel_rfl) ⟨⟨rfl,(by have:=Q1 (s:=s) (t:=tkR s (blR s τ) 44);omega),(by have:=Q1 (s:=s) (t:=tkR s (blR s τ) 44);omega)⟩,trivial⟩ ?_);intro aH aI I J ad;replace hL:=(hL.sp ab H<|fun _ h=>h).sp J I (fun _ h=>h)
  replace i:=i.spn J;refine Ol (J1o (T:=Ye) I sl23 io3 rfl rfl hL (Kb ad) (by simp only [List.length_cons,List.length_nil];omega) (by simp only [List.length_cons,List.length_nil];omega) rfl ?_);intro aJ aK aL ae af aM K;replace i:=i.ap af i.mem;obtain⟨ag,ah,rfl,_,_⟩:=K.len;refine Oa<|Nl<|⟨_,(by have:=(Jaw hR hk hf (by omega)).2.1;omega),_,_,(inR s<|tkR s (blR s τ) 44),(k - 1),(l++[(inV s<|tkR s (blR s τ) 44)]),ag,ah,ae,rfl,rfl,rfl,rfl,K,i,(ye<|Yd<|Jn hf),(Jaw hR hk hf (by omega)).2.2,(Jaw hR hk hf (by omega)).1,(by have:=(Jaw hR hk hf (by omega)).2.1;rw [List.length_append,List.length_singleton];omega),rfl⟩
 refine Nl (J0v rfl<|J1j<|Rg<|Om<|Om<|Ol<|J08 d e Jhq rfl rfl (vm d.bd (s:=s) (t:=blR s τ) (o:=(opB a o)) e.blk (d.yx _ e.mem) (c:=b) (Jn hf) hs (fun hb=>by rcases hab with h | h <;> first | omega | (rw [h.1];exact Nat.le_add_left 1 o)) (by unfold opB;split <;> omega)) ?_);intro aO aP A ai L aQ;replace hL:=(hL.sp G d<|fun _ h=>h).sp ai A (fun _ h=>h)
 refine Nl<|Rg<|Om<|Oa<|Nl<|J04<|Jo rfl (J35 rfl)<|RetM.intro ⟨?_,?_⟩ A.below
 ·exact⟨_,(hL.toRS A hX L.sees),(Jgn hR hk hf (by omega)).2,(by omega),(Yo (by rw [← (Jgn hR hk hf (by omega)).1];exact Yd<|Jn hf))⟩
 exact Blk.to4 L.blk (congrArg plR (Jgn hR hk hf (by omega)).1) (congrArg ecR (Jgn hR hk hf (by omega)).1)<|opBC hab
end Go.Wf
namespace Go.Wf
open Go Go.Proofs Go.RowKit
theorem Jfn{X:Nat→Prop}{w:World}(hX:XB X w){g:Nat}{s:List UInt8}{t:Rr Unit}{o:Nat}(hB:Blk w g (rc4 s (plR t) (ecR t) o) 62)(hXg:X g){op:Int}(ht:t.fine s)(hs:s.length≤65536)(ho:o≤1099511627776)(aT:0≤op)(aU:op≤100):Calls Tryz.prog 232 #[(.pointer (some ⟨g,0,none⟩)),(.int .i64 op)] w (RetM w g fun v w'=>(∃ m:GExpr,RV Jg X w' v m∧Got (Rr.run t (twoM s op o)) m∧Rr.fine s (Rr.run t (twoM s op o)))∧Blk w' g (rc4 s (plR (Rr.go t (twoM s op o))) (ecR (Rr.go t (twoM s op o))) o) 62):=by
 have C:=J1t g hX hXg;have y:=J38 hB
 have:maxLen=9223372036854775807:=rfl
 refine Cgo (args:=[(.pointer (some ⟨g,0,none⟩)),(.int .i64 op)]) Tryz.func232 rfl rfl rfl (Rg<|Ol<|J05 C io31 rfl ?_);intro g1 w2 x3 y4 av C6 s7 d;have P:=av _ y.blk.lt;replace y:=y.spn s7;refine Nl (Rg<|Om<|Ol<|J09 (cs:=[(.int .i64 op),(.slice none 0 0),(.bool false),(.slice none 0 0),(.bool false),(.slice none 0 0),(str []),(.slice none 0 0)]) rfl (by kernel_rfl)<|Ol<|J05 C6 io31 rfl ?_);intro aw a4 a5 a6 Q ax ah ay;have e:=Q _ y.blk.lt;have R:=Q _ d.blk.lt;refine On (J0u (cs':=[(.int .i64 op),(.slice none 0 0),(.bool false),(.slice none 0 0),(.bool false),(.slice none 0 0),(str []),(.slice none 0 0)]) ax ay io31 rfl rfl rfl rfl rfl rfl ?_);intro a7 S ai D;replace y:=(y.spn ah).spo ai e;replace d:=(d.spn ah).spo ai R;refine Nl (Rg<|Om<|Ol<|J08 S y Jiw rfl rfl (Jcn S.bd (s:=s) (t:=t) (o:=o) y.blk (S.yx _ y.mem) (c:=40) ht hs ho) ?_);intro a8 a9 U aj V ba;replace D:=D.spo aj (Ne.symm e);refine Nl (Rg<|Om<|Ol<|J08 U V Jh9 rfl rfl (Jkz U.bd (s:=s) (t:=opR s o t 40) (o:=(opB 40 o)) V.blk (U.yx _ V.mem) (Qe ht) hs) ?_);intro bb bc az ak E aA;replace d:=(d.spo aj<|Ne.symm P).spo ak (Ne.symm P);subst aA;refine Ol (J1k (T:=Ye) (css:=[[(.int .i64 (inV s<|opR s o t 40))]]) (l:=[(inV s<|opR s o t 40)]) az sl23 io3 (by decide) (by decide) rfl (by kernel_rfl) ⟨⟨rfl,(by have:=Q1 (s:=s) (t:=opR s o t 40);omega),(by have:=Q1 (s:=s) (t:=opR s o t 40);omega)⟩,trivial⟩ ?_);intro am be aB Y F;replace D:=(D.spo ak<|Ne.symm e).spn Y;refine Ol (J0s Ki rfl<|On<|J0u (cs':=[(.int .i64 op),(.slice (some ⟨am,0,none⟩) 1 1),(.bool false),(.slice none 0 0),(.bool false),(.slice none 0 0),(str []),(.slice none 0 0)]) aB D io23 rfl rfl rfl rfl rfl rfl ?_);intro bf Z aa x;replace F:=F.sp aa;replace E:=(E.spn Y).spo aa e;replace d:=(d.spn Y).spo aa R;refine Nl (Rg<|Om<|Ol<|J08 Z E Jhq rfl rfl (vm Z.bd (s:=s) (t:=inR s<|opR s o t 40) (o:=(opB 40 o)) E.blk (Z.yx _ E.mem) (c:=41) (ye<|Qe ht) hs (fun _=>Nat.le_add_left 1 o)<|Nat.succ_le_succ ho) ?_);intro bg bh aD ab aE bi;refine Nl<|J06<|J2f mixed 4 3 [[],[0],[],[2]] aD aE [fx<|.pointer (some ⟨aw,1,none⟩),fx<|.slice (some ⟨am,0,none⟩) 1 1,fx<|.pointer (some ⟨g,0,none⟩),fun(z:Gh) (v:Value) (w':World)=>(∃ l:List Int,RS Ye z.1 w' v l∧Got (Rr.run (tkR s (inR s<|opR s o t 40) 41)<|isF s (opC 41<|opB 40 o) 91 93) l∧l.length≤s.length+3∧Rr.fine s (Rr.run (tkR s (inR s<|opR s o t 40) 41)<|isF s (opC 41<|opB 40 o) 91 93))∧Own ⟨w,(· =g)⟩ z.2 w' g (rc4 s (plR<|isR s (opC 41<|opB 40 o) (tkR s (inR s<|opR s o t 40) 41) 91 93) (ecR<|isR s (opC 41<|opB 40 o) (tkR s (inR s<|opR s o t 40) 41) 91 93)<|opC 41<|opB 40 o) 62] (by kernel_rfl) ⟨sx,sx,sx,(fun _ _ _ _ _ ⟨h,o⟩ r=>⟨(Exists.imp (fun _ k=>⟨k.1.tr r.sp.tx,k.2⟩) h),o.spn r.sp⟩),trivial⟩ fun aF L bj an i=>?_
 have j:=an.cx;have ac:=an.sp;replace F:=(F.sp ab).sp ac;replace d:=(d.spo ab<|Ne.symm P).spo ac (Ne.symm P);replace x:=(x.spo ab<|Ne.symm e).spo ac (Ne.symm e);have i:Keep [16,17,18,19] _ aF:=i;refine⟨⟨fun _ _=>?_,fun⟨aG,_⟩ _=>?_,fun _ _=>?_,fun⟨aH,_⟩ p=>?_,trivial⟩,fun⟨aI,aJ,aK,aL,_⟩=>?_⟩
 ·exact Ja i aN fun _=>OpSt.op<|J0s Ki rfl ⟨L,RZ.same j,rfl⟩
 ·exact Ja i (aC aG aN) fun _=>OpSt.op<|J0x x pl23 rfl rfl ⟨L,RZ.same j,rfl⟩
 ·exact Ja i aN fun _=>OpSt.op<|J00 ⟨L,RZ.same j,rfl⟩
 ·replace p:=p rfl;refine Ja i (aC aH aN) fun _=>OpSt.op (J08 j p Jp3 rfl rfl (Jd2 j.bd (s:=s) (t:=tkR s (inR s<|opR s o t 40) 41) (o:=(opC 41<|opB 40 o)) p.blk (j.yx _ p.mem) (a:=91) (b:=93) (Yd<|ye<|Qe ht) hs ho (by decide)) ?_);intro bk bl aM aO aP aQ;exact⟨L,RT.step aM aO,aQ,aP⟩
 obtain⟨aR,G⟩:=aL;obtain⟨M,ad,A,N,ag⟩:=aR;obtain⟨aX,aY,aS,ad⟩:=RS.opn ad;obtain⟨aZ,rfl⟩:=mixK i (aC aI<|aC aJ<|aC aK<|aC aS aN);refine Ol (J2c (T:=Ye) j sl23 io3 rfl rfl F (Kb ad) (by have:=N;simp only [List.length_cons,List.length_nil];omega) (by have:=N;simp only [List.length_cons,List.length_nil];omega) rfl ?_);intro a0 a1 ao H B;replace x:=x.spn H;replace G:=G.spn H;obtain⟨I,J,rfl,_,_⟩:=B.len;refine Ol (J0s Ki rfl<|On<|J0u (cs':=[(.int .i64 op),(.slice I ([(inV s<|opR s o t 40)]++M).length J),(.bool false),(.slice none 0 0),(.bool false),(.slice none 0 0),(str []),(.slice none 0 0)]) ao x io23 rfl rfl rfl rfl rfl rfl ?_);intro a2 aq K ar;replace d:=(d.spn H).spo K R;refine Nl (Rg<|Ol<|J0z (vs:=[(.int .i64 op),(.slice I ([(inV s<|opR s o t 40)]++M).length J),(.bool false),(.slice none 0 0),(.bool false),(.slice none 0 0),(str []),(.slice none 0 0)]) ar ag31 rfl rfl rfl<|On<|J0u (cs':=[(.int .i64 op),(.slice I ([(inV s<|opR s o t 40)]++M).length J),(.bool false),(.slice none 0 0),(.bool false),(.slice none 0 0),(str []),(.slice none 0 0)]) aq d io31 rfl rfl rfl rfl rfl rfl ?_);intro a3 ae af au;replace B:=(B.sp K).sp af;replace G:=(G.spo K e).spo af P;refine Nl<|J04<|Jo rfl (resV.c au rfl ag31 rfl)<|RetM.intro ⟨?_,?_⟩ ae.below
 ·exact⟨(.mk op ([(inV s<|opR s o t 40)]++M) ⟨⟨false,[]⟩,⟨false,[]⟩⟩ [] []),(Zs (by omega) (by omega) (by unfold maxLen;simp) B RS.nil RS.nil RS.nil).tr (Tr.weak ae.base),(tw_R (op:=op) A).2,(Xa (tw_R (op:=op) A).1<|Z5 ag)⟩
 exact Blk.to4 G.blk (congrArg plR (tw_R (op:=op) A).1) (congrArg ecR (tw_R (op:=op) A).1) rfl
end Go.Wf
namespace Go.Wf
open Go Go.Proofs Go.RowKit
def SumX(s:List UInt8)(S:Nat→Nat→Rr GExpr)(lo B:Nat):Prop:=∀ {X:Nat→Prop} {w:World} (hX:XB X w) {g:Nat} {t:Rr Unit} {o:Nat} (hB:Blk w g (rc4 s (plR t) (ecR t) o) 62) (hXg:X g) (ht:t.fine s) (hs:s.length≤65536) (ho:o≤B) (hlo:Lo (lo+1) t),
 Calls Tryz.prog 31 #[(.pointer (some ⟨g,0,none⟩))] w<|RetM w g fun v w'=>(∃ m,RV Jg X w' v m∧Got (Rr.run t<|S o) m∧Rr.fine s (Rr.run t<|S o))∧Blk w' g (rc4 s (plR<|suR S o t) (ecR<|suR S o t) o) 62
theorem Jkd{X:Nat→Prop}{w:World}(hX:XB X w){g:Nat}{s:List UInt8}{t:Rr Unit}{o:Nat}(hB:Blk w g (rc4 s (plR t) (ecR t) o) 62)(hXg:X g){op:Int}{ar:Nat}{S:Nat→Nat→Rr GExpr}{lo B:Nat}(ht:t.fine s)(hs:s.length≤65536)(ho:o≤1099511627776)(bK:0≤op)(bL:op≤100)(har:ar=1∨ar=2)(hS:∀ o p,p≤s.length→(S o p).fw s p)(ih:SumX s S lo B)(hoB:o+1≤B)(hlo:Lo lo t):Calls Tryz.prog 233 #[(.pointer (some ⟨g,0,none⟩)),(.int .i64 op),(.int .i64 ((ar:Nat):Int))] w (RetM w g fun v w'=>(∃ m:GExpr,RV Jg X w' v m∧Got (Rr.run t (oneM s S op (decide (ar=2)) o)) m∧Rr.fine s (Rr.run t (oneM s S op (decide (ar=2)) o)))∧Blk w' g (rc4 s (plR (Rr.go t (oneM s S op (decide (ar=2)) o))) (ecR (Rr.go t (oneM s S op (decide (ar=2)) o))) o) 62):=by
 have C:=J1t g hX hXg;have L:=J38 hB
 have:maxLen=9223372036854775807:=rfl
 refine Cgo (args:=[(.pointer (some ⟨g,0,none⟩)),(.int .i64 op),(.int .i64 ((ar:Nat):Int))]) Tryz.func233 rfl rfl rfl (Rg<|Ol<|J05 C io31 rfl ?_);intro g1 w2 x3 y4 bw C6 s7 o8;have n9:=bw _ L.blk.lt;replace L:=L.spn s7;refine Nl (Rg<|Om<|Ol<|J09 (cs:=[(.int .i64 op),(.slice none 0 0),(.bool false),(.slice none 0 0),(.bool false),(.slice none 0 0),(str []),(.slice none 0 0)]) rfl (by kernel_rfl)<|Ol<|J05 C6 io31 rfl ?_);intro an ck cl cm ao bx aK bz;have G:=ao _ L.blk.lt;have aq:=ao _ o8.blk.lt;refine On (J0u (cs':=[(.int .i64 op),(.slice none 0 0),(.bool false),(.slice none 0 0),(.bool false),(.slice none 0 0),(str []),(.slice none 0 0)]) bx bz io31 rfl rfl rfl rfl rfl rfl ?_);intro cn au aL ae;replace L:=(L.spn aK).spo aL G;replace o8:=(o8.spn aK).spo aL aq;refine Nl (Rg<|Om<|Ol<|J08 au L Jiw rfl rfl (Jcn au.bd (s:=s) (t:=t) (o:=o) L.blk (au.yx _ L.mem) (c:=40) ht hs ho) ?_);intro co cp av aM aw cq;replace ae:=ae.spo aM (Ne.symm G);refine Nl (Rg<|Om<|Ol<|J08 av aw Jh9 rfl rfl (Jkz av.bd (s:=s) (t:=opR s o t 40) (o:=(opB 40 o)) aw.blk (av.yx _ aw.mem) (Qe ht) hs) ?_);intro cr ct bA aO ax bB;replace o8:=(o8.spo aM<|Ne.symm n9).spo aO (Ne.symm n9);subst bB;refine Ol (J1k (T:=Ye) (css:=[[(.int .i64 (inV s<|opR s o t 40))]]) (l:=[(inV s<|opR s o t 40)]) bA sl23 io3 (by decide) (by decide) rfl (by kernel_rfl) ⟨⟨rfl,(by have:=Q1 (s:=s) (t:=opR s o t 40);omega),(by have:=Q1 (s:=s) (t:=opR s o t 40);omega)⟩,trivial⟩ ?_);intro J cu bC ay d;replace ae:=(ae.spo aO<|Ne.symm G).spn ay;refine Ol (J0s Ki rfl<|On<|J0u (cs':=[(.int .i64 op),(.slice (some ⟨J,0,none⟩) 1 1),(.bool false),(.slice none 0 0),(.bool false),(.slice none 0 0),(str []),(.slice none 0 0)]) bC ae io23 rfl rfl rfl rfl rfl rfl ?_);intro cv bD az bE;replace d:=d.sp az;replace ax:=(ax.spn ay).spo az G;replace o8:=(o8.spn ay).spo az aq;refine Nl<|Rh<|Oa<|Nl<|W.block<|J1g (fun μ f v=>∃ (x y:Nat→Prop) (i:Nat) (τ:Rr Unit) (l:List GExpr) (la:Option Addr) (lc:Nat),Cx X ⟨w,(· =g)⟩ x y v∧f 0=(.pointer (some ⟨g,0,none⟩))∧f 2=(.int .i64 ((ar:Nat):Int))∧f 6=(.pointer (some ⟨g1,0,none⟩))∧f 7=(.pointer (some ⟨an,0,none⟩))∧f 8=(.int .i64 ((i:Nat):Int))∧RS Ye x v (.slice (some ⟨J,0,none⟩) 1 1) [(inV s<|opR s o t 40)]∧OS Jg 31 ⟨w,(· =g)⟩ x y v (.slice la l.length lc) l∧Own ⟨w,(· =g)⟩ y v g [(str s),(.int .i64 ((plR τ:Nat):Int)),(.int .i64 (ecR τ)),(.int .i64 (((opB 40 o):Nat):Int))] 62∧Own ⟨w,(· =g)⟩ y v g1 [(.int .i64 0),(.slice none 0 0),(.bool false),(.slice none 0 0),(.bool false),(.slice none 0 0),(str []),(.slice none 0 0)] 31∧Own ⟨w,(· =g)⟩ y v an [(.int .i64 op),(.slice (some ⟨J,0,none⟩) 1 1),(.bool false),(.slice none 0 0),(.bool false),(.slice none 0 0),(str []),(.slice la l.length lc)] 31∧i≤ar∧τ.fine s∧Lo (lo+1) τ∧t.run (oneM s S op (decide<|ar=2) o)=τ.run (oneT s S op (inV s<|opR s o t 40) o (ar - i) l)∧l.length=i∧μ=(ar - i)) _ ⟨_,_,0,(inR s<|opR s o t 40),[],none,0,bD,rfl,rfl,rfl,rfl,rfl,d,OS.nil,ax,o8,bE,(Nat.zero_le _),(ye<|Qe ht),(lo_in (Jpz hlo ht)<|Qe ht),(Jm7 har),rfl,rfl⟩ ?_
 rintro cw cy cz ⟨cE,cF,i,τ,l,la,lc,H,aP,aQ,aR,aS,aT,d,hL,E,A,e,hi,hf,hlq,hR,hl,bH⟩;obtain⟨cG,rfl⟩:=rebK (aC aP<|aC aQ<|aC aR<|aC aS<|aC aT aN);clear aP aQ aR aS aT;refine Rh<|Om<|Om<|Ol<|J1h rfl rfl (fun aV=>?_)<|fun aV=>?_
 ·refine Om<|OgD<|J00<|OgD<|J03 rfl<|OgD<|J0s Kz rfl<|OgD<|J0x E pl3 rfl rfl<|OgD<|J1a rfl rfl (fun K=>?_)<|fun K=>?_
  ·refine OT (Nl<|J0w rfl<|J01<|J06<|W.block<|Rg<|Om<|Ol<|J08 H E cb69 rfl rfl (X9 H.bd (s:=s) (t:=τ) (o:=(opB 40 o)) E.blk (H.yx _ E.mem) (c:=44) hf hs) ?_);intro cH cI aU am bF cJ;refine Nl<|J2f mixed 5 3 [[],[0],[],[2],[3]] aU bF [fx<|.pointer (some ⟨an,7,none⟩),fx<|.slice la l.length lc,fx<|.pointer (some ⟨g,0,none⟩),fun(z:Gh) (v:Value) (w':World)=>(∃ m:GExpr,RV Jg z.1 w' v m∧Got (Rr.run (tkR s τ 44)<|S<|opB 40 o) m∧Rr.fine s (Rr.run (tkR s τ 44)<|S<|opB 40 o))∧Own ⟨w,(· =g)⟩ z.2 w' g (rc4 s (plR<|suR S (opB 40 o)<|tkR s τ 44) (ecR<|suR S (opB 40 o)<|tkR s τ 44)<|opB 40 o) 62,fun(z:Gh) (v:Value) (w':World)=>∃ m,RS Jg z.1 w' v [m]∧Got (Rr.run (tkR s τ 44)<|S<|opB 40 o) m] (by kernel_rfl) ⟨sx,sx,sx,(fun _ _ _ _ _ ⟨h,o⟩ r=>⟨(Exists.imp (fun _ k=>⟨k.1.tr r.sp.tx,k.2⟩) h),o.spn r.sp⟩),(fun _ _ _ _ _ h r=>Exists.imp (fun _ k=>⟨k.1.tr r.sp.tx,k.2⟩) h),trivial⟩ fun bG af bO ag D=>?_
   have j:=ag.cx;have M:=ag.sp;replace d:=(d.sp am).sp M;replace hL:=(hL.sp am aU<|fun _ h=>h).sp M j (ag.up);replace A:=(A.spo am<|Ne.symm n9).spo M (Ne.symm n9);replace e:=(e.spo am<|Ne.symm G).spo M (Ne.symm G);have D:Keep [31,32,33,34,35] _ bG:=D;refine⟨⟨fun _ _=>?_,fun⟨aW,_⟩ _=>?_,fun _ _=>?_,fun⟨aX,_⟩ I=>?_,fun⟨aY,_⟩ _=>?_,trivial⟩,fun⟨aZ,a0,a1,a2,a3,_⟩=>?_⟩
   ·exact Ja D aN fun _=>OpSt.op<|J0s Ys rfl ⟨af,RZ.same j,rfl⟩
   ·exact Ja D (aC aW aN) fun _=>OpSt.op<|J0x e pl29 rfl rfl ⟨af,RZ.same j,rfl⟩
   ·exact Ja D aN fun _=>OpSt.op<|J00 ⟨af,RZ.same j,rfl⟩
   ·replace I:=I rfl;refine Ja D (aC aX aN) fun _=>OpSt.op (J08 j I cb31 rfl rfl (ih j.bd (t:=tkR s τ 44) (o:=(opB 40 o)) I.blk (j.yx _ I.mem) (Yd hf) hs hoB<|Jbr hlq hf) ?_);intro bP bQ a4 a5 a6 a7;exact⟨af,RT.step a4 a5,a7,a6⟩
   ·obtain⟨a8,bR⟩:=aY;obtain⟨ah,a9,aH,bI⟩:=a8;obtain⟨ba,bb,bc,be,bf,bg,bh,bi,bj,F⟩:=J37 a9;refine Ja D (aC bj aN) fun _=>OpSt.op (J1k (T:=Jg) (css:=[(ec ah ba bb bc be bf bg bh bi)]) (l:=[ah]) j sl29 io31 (by decide) (by decide) rfl (by kernel_rfl) ⟨(Z3 ah F.lo F.hi F.name F.n F.num F.den F.args),trivial⟩ ?_);intro bS bT bk bl bm;exact⟨af,RZ.go bk bl,⟨_,bm,aH⟩⟩
   obtain⟨bn,N⟩:=a2;obtain⟨bU,bo,bJ,aI⟩:=bn;obtain⟨bV,bW,bX,bY,bZ,b0,b1,b2,bp,b3⟩:=J37 bo;obtain⟨aA,ai,aJ⟩:=a3;obtain⟨b4,b5,bq,ai⟩:=RS.opn ai;obtain⟨b6,rfl⟩:=mixK D (aC aZ<|aC a0<|aC a1<|aC bp<|aC bq aN);refine Ol (J1o (T:=Jg) j sl29 io31 rfl rfl hL (Kb ai) (by simp only [List.length_cons,List.length_nil];omega) (by simp only [List.length_cons,List.length_nil];omega) rfl ?_);intro b7 b8 b9 br P ca Q;replace e:=e.ap P e.mem;obtain⟨aB,aD,rfl,_,_⟩:=Q.len;refine Ol (J0s Ys rfl<|On<|J0u (cs':=[(.int .i64 op),(.slice (some ⟨J,0,none⟩) 1 1),(.bool false),(.slice none 0 0),(.bool false),(.slice none 0 0),(str []),(.slice aB (l++[aA]).length aD)]) br e io29 rfl rfl rfl rfl rfl rfl ?_);intro cb aE R bs;replace d:=(d.tr P.tx).sp R;replace Q:=Q.sp R aE<|fun _ h=>h
   replace A:=(A.ap P A.mem).spo R aq;replace N:=(N.ap P N.mem).spo R G;refine Nl<|J0y<|Om<|Ol<|St.add rfl rfl (Jc (a:=i) (b:=1) (by omega))<|Oa<|Nl<|⟨_,(by omega),_,_,(i+1),(suR S (opB 40 o)<|tkR s τ 44),(l++[aA]),aB,aD,aE,rfl,rfl,rfl,rfl,rfl,d,Q,N,A,bs,(by omega),(Z5 aI),(lo_su hS (Jbr hlq hf)<|Yd hf),(Jsa (k:=ar - (i+1)) (by rw [show ar - (i+1)+1=ar - i by omega];exact hR) aJ),(by rw [List.length_append,List.length_singleton];omega),rfl⟩
  refine OT (Nl<|J0v rfl<|J1j<|Rg<|Om<|Ol<|J08 H E Jhq rfl rfl (vm H.bd (s:=s) (t:=τ) (o:=(opB 40 o)) E.blk (H.yx _ E.mem) (c:=41) hf hs (fun _=>Nat.le_add_left 1 o)<|Nat.succ_le_succ ho) ?_);intro cc cd aF U V ce;replace A:=A.spo U (Ne.symm n9);replace e:=e.spo U (Ne.symm G);refine Nl (Rg<|Ol<|J0z (vs:=[(.int .i64 op),(.slice (some ⟨J,0,none⟩) 1 1),(.bool false),(.slice none 0 0),(.bool false),(.slice none 0 0),(str []),(.slice la l.length lc)]) e ag31 rfl rfl rfl<|On<|J0u (cs':=[(.int .i64 op),(.slice (some ⟨J,0,none⟩) 1 1),(.bool false),(.slice none 0 0),(.bool false),(.slice none 0 0),(str []),(.slice la l.length lc)]) aF A io31 rfl rfl rfl rfl rfl rfl ?_);intro cf Y aj bt;replace d:=(d.sp U).sp aj;replace hL:=(hL.sp U aF<|fun _ h=>h).sp aj Y (fun _ h=>h)
  replace V:=V.spo aj n9;refine Nl<|J04<|Jo rfl (resV.c bt rfl ag31 rfl)<|RetM.intro ⟨?_,?_⟩ Y.below
  ·exact⟨(GExpr.mk op [(inV s<|opR s o t 40)] ⟨⟨false,[]⟩,⟨false,[]⟩⟩ [] l),Zs (by omega) (by omega) (by unfold maxLen;simp) ((d:RS _ _ _ _ _).tr (Tr.weak Y.base)) RS.nil RS.nil<|hL.toRS Y hX V.sees,(Jfj hf K hR).2,(Yo (by rw [← (Jfj (m:=default) hf K hR).1];exact Yd hf))⟩
  exact Blk.to4 V.blk (congrArg plR (Jfj (m:=default) hf K hR).1) (congrArg ecR (Jfj (m:=default) hf K hR).1) rfl
 refine Om (Oz<|Oz<|Oz<|Oz<|Oz<|OF<|Nl<|J0v rfl<|J1j<|Rg<|Om<|Ol<|J08 H E Jhq rfl rfl (vm H.bd (s:=s) (t:=τ) (o:=(opB 40 o)) E.blk (H.yx _ E.mem) (c:=41) hf hs (fun _=>Nat.le_add_left 1 o)<|Nat.succ_le_succ ho) ?_);intro cg ch aG Z aa ci;replace A:=A.spo Z (Ne.symm n9);replace e:=e.spo Z (Ne.symm G);refine Nl (Rg<|Ol<|J0z (vs:=[(.int .i64 op),(.slice (some ⟨J,0,none⟩) 1 1),(.bool false),(.slice none 0 0),(.bool false),(.slice none 0 0),(str []),(.slice la l.length lc)]) e ag31 rfl rfl rfl<|On<|J0u (cs':=[(.int .i64 op),(.slice (some ⟨J,0,none⟩) 1 1),(.bool false),(.slice none 0 0),(.bool false),(.slice none 0 0),(str []),(.slice la l.length lc)]) aG A io31 rfl rfl rfl rfl rfl rfl ?_);intro cj ab ak bu;replace d:=(d.sp Z).sp ak;replace hL:=(hL.sp Z aG<|fun _ h=>h).sp ak ab (fun _ h=>h)
 replace aa:=aa.spo ak n9;refine Nl<|J04<|Jo rfl (resV.c bu rfl ag31 rfl)<|RetM.intro ⟨?_,?_⟩ ab.below
 ·exact⟨(GExpr.mk op [(inV s<|opR s o t 40)] ⟨⟨false,[]⟩,⟨false,[]⟩⟩ [] l),Zs (by omega) (by omega) (by unfold maxLen;simp) ((d:RS _ _ _ _ _).tr (Tr.weak ab.base)) RS.nil RS.nil<|hL.toRS ab hX aa.sees,(Jgp (by rw [show ar - i=0 by omega] at hR;exact hR)).2,(Yo (by rw [← ((Jgp (by rw [show ar - i=0 by omega] at hR;exact hR))).1];exact Yd hf))⟩
 exact Blk.to4 aa.blk (congrArg plR (Jgp (by rw [show ar - i=0 by omega] at hR;exact hR)).1) (congrArg ecR (Jgp (by rw [show ar - i=0 by omega] at hR;exact hR)).1) rfl
end Go.Wf
