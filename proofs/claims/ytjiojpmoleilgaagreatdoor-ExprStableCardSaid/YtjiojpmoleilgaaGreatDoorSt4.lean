/- Part 4. -/
import Derived.Test.YtjiojpmoleilgaaGreatDoorSt3
set_option linter.unusedVariables false
set_option linter.unusedSimpArgs false
set_option maxRecDepth 100000
set_option maxHeartbeats 4000000
noncomputable section
namespace Go.Wf
open Go
variable{K i:Nat}{a x:GExpr}{l p:List GExpr}
theorem r4{out:List GExpr}(h:∀a∈l,NF a∧Lwe a)(ho:OutM l out){I:GPart→Prop}(d:∀g∈prM l,I (paM g))(e:∀p q,I p→I q→I (adM p q)):
  out.length≤(prM l).length∧∀z∈out,∃p b,I p∧p.rest=[b]∧(z=b∨∃n,z=pwE n [b]):=by
 obtain⟨ps,hp,hs,rfl⟩:=ho;have hI:∀p∈ps,od p∧I p:=fun p hp'=>by
  obtain⟨y,hy,rfl⟩:=UR.1 (hp.subset hp');have hy':=hy;unfold prM at hy;rw[UN] at hy;obtain⟨k1,k2,i⟩:=V7 h hy.1;exact⟨FI k1 k2 (by simpa using hy.2) i,d y hy'⟩
 have hJ:=qv (f:=cmpM) (ad:=adM) (I:=fun p=>od p∧I p) (fun p q hp hq he=>⟨EW hp.1 hq.1 he,e p q hp.2 hq.2⟩) ps.length ps hI;have hlen:=rT (f:=cmpM) (ad:=adM) ps.length ps;rw[show ps.length=(prM l).length by rw[hp.length_eq,UG]] at hlen hJ ⊢;generalize mrg cmpM adM (prM l).length ps=ms at hJ hlen;constructor
 ·refine Tj ?_ hlen;clear hJ hlen hI hp hs d
  induction ms with
  |nil=>exact Tu _
  |cons m ms ih=>
   rw[List.flatMap_cons,Tc,Td]
   have:(reM m).length≤1:=by unfold reM;split<;>(try split)<;>simp
   omega
 ·intro z hz;obtain⟨m,hm,hz⟩:=List.mem_flatMap.1 hz;obtain⟨⟨b,e1,_⟩,k2⟩:=hJ m hm;refine⟨m,b,k2,e1,?_⟩;unfold reM at hz;split at hz
  ·cases hz
  ·split at hz
   ·rw[e1] at hz;exact .inl (Z4 hz)
   ·rw[e1] at hz;exact .inr ⟨_,Z4 hz⟩
theorem Ez{g:GExpr}(h:NF g):dgL (paM g).rest≤dgE g:=by
 unfold paM;by_cases a:g.op=12
 ·rw[if_pos a,Xd g,if_neg o,if_neg o];exact Tu _
 ·rw[if_neg a];show dgL [g]≤_;rw[oW];exact Tu _
theorem BQ{T:Nat}(h:∀a∈l,NF a∧Lwe a)(hx:MulR l x)(hT:nnE l≤T)(hg:∀g∈prM l,nnE l+dgE g≤T):dgE x≤T+4:=by
 have hc:=DT l;have hout:∀ {out},OutM l out→(∀z∈out,nnE l+dgE z≤T)∧∀z∈out,z.op≠1:=fun ho=>by
  refine⟨fun z hz=>?_,fun z hz=>((mB h ho).1 z hz).2.2.1⟩;obtain⟨p,_,k1,k2,v⟩:=(r4 h ho (I:=fun p=>nnE l+dgL p.rest≤T) (fun g hg'=>by
   have b:=hg g hg';have hn:NF g:=by
    unfold prM at hg'
    exact(V7 h (UN.1 hg').1).1
   have:=Ez hn
   omega) fun p q hp _=>hp).2 z hz
  rw[k2,oW] at k1;rcases v with rfl|⟨_,rfl⟩
  ·exact k1
  ·rw[t7];exact k1
 have hul:∀ {out},OutM l out→out≠[]→nnE l+dgL out≤T:=fun {out} ho hne=>by
  have b:=(hout ho).1
  have:dgL out≤T-nnE l:=qC fun z hz=>by have:=b z hz;omega
  omega
 cases hx with
 |num ho j=>rw[xw];omega
 |one ho j b=>
  rw[wA δ (hout ho).2]
  have:=hul ho b;omega
 |prod ho j b hn hs=>
  rw[xZ,dgH,if_pos (show(nbE (cfM l)).op=1 from rfl),xw]
  have:=hul ho hn;omega
 |dist ho j b hs d hlen hx ha=>
  rename_i out s xs;have hm:s∈out:=by rw[hs];simp
  obtain⟨n1,n2,_⟩:=(mB h ho).1 s hm;have B:=(hout ho).1 s hm;obtain⟨e,hr⟩:=AD n1 n2 d j hlen hx ha;rw[e,uw δ δ];refine qC fun _ hy=>?_
  obtain⟨i,hi,rfl⟩:=J6 hy;rw[hlen] at hi;have ht:=Jp hi;have nt:=n1.arg _ ht;have k:=((n1.top.sum d).2.2.1 _ ht).1;have w:=(mN nt ((Ya.1 n2).2 _ ht) k).1;have y:=Fs (p:=⟨ofQ (cfM l*(paA (s.args.getD i Δ)).c.q),0,(paA (s.args.getD i Δ)).rest⟩) w (z:=xs.getD i Δ) (by rw[hr i hi];simp);have A:=GL nt;have C:dgE (s.args.getD i Δ)≤dgE s:=Vc Wv ht;have D:=E6 (cfM l) (paA (s.args.getD i Δ)).c.q;have m:wgA ⟨ofQ (cfM l*(paA (s.args.getD i Δ)).c.q),0,(paA (s.args.getD i Δ)).rest⟩=uq (cfM l*(paA (s.args.getD i Δ)).c.q)+1+dgL (paA (s.args.getD i Δ)).rest:=by unfold wgA;rw[J9]
  unfold wgA at A m y;omega
theorem EC{k:Nat}{t:GExpr}(hk:1≤k)(h:Wd k t):(paA t).rest.length≤k∧∀f∈(paA t).rest,Wd k f:=by
 unfold paA;split
 ·exact⟨Tv _,fun f hf=>by cases hf⟩
 ·split
  ·split
   ·exact⟨by have:=h.len;rw[Tn];omega,fun f hf=>h.arg f (List.mem_of_mem_drop hf)⟩
   ·exact⟨h.len,h.arg⟩
  ·exact⟨hk,fun f hf=>by rw[Z4 hf];exact h⟩
theorem Fv{k:Nat}{p:GPart}(b:p.rest.length≤k)(a:∀f∈p.rest,Wd k f){z:GExpr}(hz:z∈reA p):Wd (k+1) z:=by
 unfold reA at hz;split at hz
 ·cases hz
 ·split at hz
  ·rw[Z4 hz];exact vg
  ·split at hz
   ·rw[Z4 hz];exact zL o fun f hf=>(a f hf).up o
   ·rw[Z4 hz];refine Aw XA fun f hf=>?_
    rcases UL.1 hf with rfl|hf
    ·exact vg
    ·exact(a f hf).up o
theorem LF{k:Nat}(hk:1≤k)(h:∀y∈flE 10 l,Wd k y)(hl:(flE 10 l).length≤k)(hx:AddR l x):Wd (k+1) x:=by
 obtain⟨ps,hp,hs,rfl⟩:=hx;have hI:∀p∈ps,p.rest.length≤k∧∀f∈p.rest,Wd k f:=fun p hp'=>by
  obtain⟨y,hy,rfl⟩:=UR.1 (hp.subset hp');exact EC hk (h y hy)
 have hJ:=qv (f:=cmpA) (ad:=adA) (I:=fun p=>p.rest.length≤k∧∀f∈p.rest,Wd k f) (fun p _ hp _ _=>hp) ps.length ps hI;have hlen:=rT (f:=cmpA) (ad:=adA) ps.length ps;have e:ps.length=(flE 10 l).length:=by rw[hp.length_eq,UG]
 generalize mrg cmpA adA ps.length ps=ms at hJ hlen;have d:(ms.flatMap reA).length≤ms.length:=by
  clear hJ hlen hI hp hs
  induction ms with
  |nil=>exact Tu _
  |cons m ms ih=>
   rw[List.flatMap_cons,Tc,Td]
   have:(reA m).length≤1:=by unfold reA;split<;>(try split)<;>(try split)<;>simp
   omega
 have b:∀z∈ms.flatMap reA,Wd (k+1) z:=fun z hz=>by
  obtain⟨m,hm,hz⟩:=List.mem_flatMap.1 hz;exact Fv (hJ m hm).1 (hJ m hm).2 hz
 generalize ms.flatMap reA=o at d b
 match o,d,b with
 |[],_,_=>exact vg
 |a::r,d,b=>exact zL (op:=10) ω b
theorem xU{k:Nat}(hk:1≤k)(hn:∀a∈l,NF a∧Lwe a)(h:∀y∈flE 11 l,Wd k y)(hl:(flE 11 l).length≤k)(hx:MulR l x):Wd (k+1) x:=by
 have hpl:(prM l).length≤k:=by
  unfold prM
  have:=List.length_filter_le (fun a:GExpr=> !decide (a.op=1)) (flE 11 l)
  omega
 have hout:∀ {out},OutM l out→out.length≤k∧∀z∈out,Wd k z:=fun ho=>by
  obtain⟨j,m⟩:=r4 hn ho (I:=fun p=>∀f∈p.rest,Wd k f) (fun g hg=>by
   unfold prM at hg;have hw:=h g (UN.1 hg).1;unfold paM;split
   ·exact hw.arg
   ·intro f hf;rw[Z4 hf];exact hw) fun p q hp _=>hp
  refine⟨by omega,fun z hz=>?_⟩
  obtain⟨p,b,k1,k2,A⟩:=m z hz;have hb:=k1 b (by rw[k2];simp);rcases A with rfl|⟨_,rfl⟩
  ·exact hb
  ·exact HA hk hb
 cases hx with
 |num ho d=>exact vg
 |one ho d j=>
  obtain⟨m,v⟩:=hout ho;exact zL o fun z hz=>(v z hz).up o
 |prod ho d j hne hs=>
  obtain⟨m,v⟩:=hout ho;refine Aw XA fun z hz=>?_
  rcases UL.1 hz with rfl|hz
  ·exact vg
  ·exact(v z hz).up o
 |dist ho d j hs w hlen hx ha=>
  rename_i out s xs;have hm:s∈out:=by rw[hs];simp
  have hw:=(hout ho).2 s hm;obtain⟨n1,n2,_⟩:=(mB hn ho).1 s hm;obtain⟨e,hr⟩:=AD n1 n2 w d hlen hx ha;rw[e];refine Aw (by have:=hw.len;omega) fun y hy=>?_
  obtain⟨i,hi,rfl⟩:=J6 hy;rw[hlen] at hi;have ht:=Jp hi;obtain⟨B,C⟩:=EC hk (hw.arg _ ht);exact Fv (p:=⟨ofQ (cfM l*(paA (s.args.getD i Δ)).c.q),0,(paA (s.args.getD i Δ)).rest⟩) B C (by rw[hr i hi];simp)
theorem uz{b:GExpr}{n:Int}{k:Nat}(hr:RaiR b n (some x))(hk:1≤k)(g:b.op≠12)(d:b.op≠11)(a:b.op=1→b.c.q=0)(hw:Wd k b):
  x.op≠11∧Wd k x∧((x.op=1∧uq x.c.q=1)∨(x.op≠1∧dgE x≤dgE b)):=by
 cases hr with
 |zero=>exact⟨by simp[nbE,GExpr.op],vg,.inl ⟨rfl,by rw[nb_q];exact nI⟩⟩
 |one=>
  refine⟨d,hw,?_⟩;by_cases e:x.op=1
  ·exact .inl ⟨e,by rw[a e];exact rC⟩
  ·exact .inr ⟨e,Tu _⟩
 |pow i a h hr=>exact absurd h g
 |num q i j h hc hq hz=>exact⟨by simp[nbE,GExpr.op],vg,.inl ⟨rfl,by rw[nb_q,hz (a h)];exact rC⟩⟩
 |prod i a h hl hx hm=>exact absurd h d
 |other=>exact⟨by simp[pwE,GExpr.op],HA hk hw,.inr ⟨by simp[pwE,GExpr.op],by rw[t7];exact Tu _⟩⟩
theorem rY{f:GExpr}{n:Int}{k:Nat}(hr:RaiR f n (some x))(hn:NF f)(hk:1≤k)(l:n≠0)(i:n≠1)(j:f.op≠11)(hw:Wd k f):
  x.op≠11∧Wd k x∧((x.op=1∧uq x.c.q≤32770∧(f.op≠1→uq x.c.q=1))∨(x.op≠1∧dgE x≤dgE f)):=by
 by_cases g:f.op=12
 ·obtain⟨_,b,e,_,_,p,s,v⟩:=hn.top.pow g;subst e;cases hr with
  |zero=>exact absurd r l
  |one=>exact absurd r i
  |pow _ _ _ hr=>
   obtain⟨k1,k2,a⟩:=uz hr hk p s (fun h=>(v h).2) (hw.arg b W2);refine⟨k1,k2,?_⟩;rcases a with ⟨a,d⟩|⟨a,d⟩
   ·exact .inl ⟨a,o,fun _=>d⟩
   ·exact .inr ⟨a,by rw[t7];exact d⟩
  |num q _ _ h hc hq hz=>simp[pwE,GExpr.op] at h
  |prod _ _ h hl hx hm=>simp[pwE,GExpr.op] at h
  |other _ _ h=>exact absurd r h
 ·by_cases m:f.op=1
  ·cases hr with
   |zero=>exact absurd r l
   |one=>exact absurd r i
   |pow _ _ h hr=>exact absurd h g
   |num q _ _ h hc hq hz=>exact⟨by simp[nbE,GExpr.op],vg,.inl ⟨rfl,by rw[nb_q];exact hq,fun e=>absurd m e⟩⟩
   |prod _ _ h hl hx hm=>exact absurd h j
   |other=>exact⟨by simp[pwE,GExpr.op],HA hk hw,.inr ⟨by simp[pwE,GExpr.op],by rw[t7];exact Tu _⟩⟩
  ·obtain⟨k1,k2,a⟩:=uz hr hk g j (fun h=>absurd h m) hw;refine⟨k1,k2,?_⟩;rcases a with ⟨a,d⟩|⟨a,d⟩
   ·exact .inl ⟨a,o,fun _=>d⟩
   ·exact .inr ⟨a,d⟩
theorem LZ{n:Int}{k:Nat}(hr:RaiR a n (some x))(hn:NF a)(hlw:Lwe a)(hw:Wd k a)(hk:1≤k):dgE x≤dgE a+2*k+32780∧Wd (k+1) x:=by
 by_cases b:n=0
 ·subst b;cases hr with
  |zero=>exact⟨by rw[xw,nI];omega,vg⟩
  |pow b _ _ _=>exact absurd r b
  |num q b _ _ _ _ _=>exact absurd r b
  |prod b _ _ _ _ _=>exact absurd r b
  |other b _ _ _ _=>exact absurd r b
 by_cases d:n=1
 ·subst d;cases hr with
  |one=>exact⟨by omega,hw.up o⟩
  |pow _ d _ _=>exact absurd r d
  |num q _ d _ _ _ _=>exact absurd r d
  |prod _ d _ _ _ _=>exact absurd r d
  |other _ d _ _ _=>exact absurd r d
 by_cases l:a.op=11
 ·cases hr with
  |zero=>exact absurd r b
  |one=>exact absurd r d
  |pow _ _ h _=>omega
  |num q _ _ h _ _ _=>omega
  |other _ _ _ h _=>exact absurd l h
  |prod _ _ _ hl hx hm=>
   rename_i xs C D E;have hfa:∀i,i<a.args.length→(a.args.getD i Δ).op≠11∧((a.args.getD i Δ).op=1→i=0):=by
    obtain⟨_,hp⟩:=hn.top.prod l;intro i hi;rcases hp with ⟨w,_,_,_,p⟩|⟨p,_⟩
    ·cases i with
     |zero=>exact⟨by show(hdE a).op≠11;rw[w];decide,fun _=>rfl⟩
     |succ i=>
      have hm':a.args.getD (i+1) Δ∈a.args.drop 1:=by
       have e:(a.args.drop 1).getD i Δ=a.args.getD (i+1) Δ:=by
        rw[Tq,UB,Tq,Nat.add_comm 1 i]
       rw[←e];exact Jp Y'
      exact⟨(p.1 _ hm').2,fun h=>absurd h (p.1 _ hm').1⟩
    ·have hm':=Jp hi;exact⟨(p.1 _ hm').2,fun h=>absurd h (p.1 _ hm').1⟩
   have hF:∀i,i<a.args.length→_:=fun i hi=>rY (k:=k) (hx i hi) (hn.arg _ (Jp hi)) hk b d (hfa i hi).1 (hw.arg _ (Jp hi));have hnf:∀z∈xs,NF z∧Lwe z:=fun z hz=>by
    obtain⟨i,hi,rfl⟩:=J6 hz;have hm':=Jp (show i<a.args.length by omega);exact u9 (hx i o) (hn.arg _ hm') ((Ya.1 hlw).2 _ hm') _ r
   have hfl:flE 11 xs=xs:=yl fun z hz=>by
    obtain⟨i,hi,rfl⟩:=J6 hz
    exact(hF i o).1
   have hnn:∀(m:Nat) (ys:List GExpr),(∀j,j<ys.length→wN (ys.getD j Δ)≤2∨(m+j=0∧wN (ys.getD j Δ)≤32771))→sumN wN ys≤(if m=0 then 32771 else 0)+2*ys.length:=by
    intro m ys
    induction ys generalizing m with
    |nil=>intro _;rw[sumN];omega
    |cons y ys ih=>
     intro hy;have A:=hy 0 χ;have B:=ih (m+1) fun j hj=>by
      rcases hy (j+1) B' with h|h
      ·exact .inl h
      ·omega
     rw[if_neg o] at B;rw[sumN,Td];simp only[TK,U5] at A;split<;>omega
   have hN:nnE xs≤32771+2*k:=by
    unfold nnE;rw[hfl]
    have:=hnn 0 xs fun j hj=>by
     obtain⟨_,_,g⟩:=hF j o;rcases g with ⟨g,_,v⟩|⟨g,_⟩
     ·have e:wN (xs.getD j Δ)=uq (xs.getD j Δ).c.q+1:=if_pos g;by_cases e1:(a.args.getD j Δ).op=1
      ·exact .inr ⟨by have:=(hfa j o).2 e1;omega,o⟩
      ·exact .inl (by have:=v e1;omega)
     ·have e:wN (xs.getD j Δ)=0:=if_neg g;exact .inl o
    rw[if_pos rfl] at this
    have:=hw.len
    omega
   constructor
   ·have:=BQ (T:=32771+2*k+dgE a) hnf hm o fun _ hg=>by
     unfold prM at hg;rw[hfl,UN] at hg;obtain⟨i,hi,e⟩:=J6 hg.1;subst e;have v:¬(xs.getD i Δ).op=1:=by simpa using hg.2
     obtain⟨_,_,g⟩:=hF i o;rcases g with ⟨g,_⟩|⟨_,g⟩
     ·exact absurd g v
     ·have:dgE (a.args.getD i Δ)≤dgE a:=Vc o (Jp o)
      omega
    omega
   ·refine xU hk hnf (fun y hy=>?_) (by rw[hfl];have:=hw.len;omega) hm;rw[hfl] at hy;obtain⟨i,hi,rfl⟩:=J6 hy
    exact(hF i o).2.1
 ·obtain⟨_,k2,s⟩:=rY hr hn hk b d l hw;refine⟨?_,k2.up o⟩;rcases s with ⟨s,_,_⟩|⟨_,s⟩
  ·rw[Xd x,if_pos s];omega
  ·omega
theorem E4(h:NF a):sumN wN (tlE 11 a)≤dgE a∧∀g∈(tlE 11 a).filter (fun a=> !decide (a.op=1)),sumN wN (tlE 11 a)+dgE g≤dgE a:=by
 have hz:∀r:List GExpr,(∀f∈r,f.op≠1)→sumN wN r=0:=fun r=>by
  induction r with
  |nil=>intro _;rfl
  |cons f r ih=>
   intro hf;rw[sumN,ih fun x hx=>hf x R'];exact if_neg (hf f χ)
 unfold tlE;by_cases b:a.op=11
 ·rw[if_pos b];obtain⟨_,hp⟩:=h.top.prod b;have j:dgE a=dgH a.args:=by rw[Xd,if_neg o,if_pos b]
  rcases hp with ⟨d,_,_,l,k⟩|⟨k,_⟩
  ·have hn:a.args≠[]:=by intro j;rw[j] at l;exact l ϱ
   have e:=CY hn;have e1:dgE a=dgE (hdE a)+dgL (a.args.drop 1):=by
    rw[j];conv=>lhs;rw[←e];rw[dgH,if_pos d]
   have e2:sumN wN a.args=dgE (hdE a):=by
    conv=>lhs;rw[←e]
    rw[sumN,hz _ fun f hf=>(k.1 f hf).1,Xd,if_pos d];exact if_pos d
   refine⟨by omega,fun g hg=>?_⟩
   rw[←e,List.filter_cons_of_neg (by rw[decide_eq_true d];decide)] at hg
   have:=mD (UN.1 hg).1
   omega
  ·have hn:∀f∈a.args,f.op≠1:=fun f hf=>(k.1 f hf).1;rw[hz _ hn];refine⟨Tv _,fun g hg=>?_⟩
   have:=Vc (show a.op≠1 by omega) (UN.1 hg).1
   omega
 ·rw[if_neg b];by_cases i:a.op=1
  ·have e:sumN wN [a]=dgE a:=by rw[sumN,sumN,Xd,if_pos i];exact if_pos i
   refine⟨by omega,fun g hg=>?_⟩
   rw[List.filter_cons_of_neg WK] at hg;cases hg
  ·rw[hz [a] fun f hf=>by rw[Z4 hf];exact i];refine⟨Tv _,fun g hg=>?_⟩
   rw[Z4 (UN.1 hg).1];omega
theorem yR:∀ {l:List GExpr},(∀a∈l,NF a)→nnE l≤sumN dgE l∧∀g∈prM l,nnE l+dgE g≤sumN dgE l
 |[],_=>⟨Tu _,fun g hg=>by cases hg⟩
 |a::l,h=>by
  obtain⟨_,i2⟩:=yR (l:=l) fun x hx=>h x R';obtain⟨_,b⟩:=E4 (h a χ);have e:flE 11 (a::l)=tlE 11 a++flE 11 l:=by unfold flE;rw[List.flatMap_cons]
  have e2:nnE (a::l)=sumN wN (tlE 11 a)+nnE l:=by unfold nnE;rw[e,oL]
  rw[e2,sumN];refine⟨by omega,fun g hg=>?_⟩
  unfold prM at hg;rw[e,List.filter_append,List.mem_append] at hg;rcases hg with hg|hg
  ·have:=b g hg;omega
  ·have:=i2 g hg;omega
inductive Nu (K:Nat):GExpr→Prop
 |mk {a:GExpr} (t:a.op=1→uq a.c.q+1000≤K) (tn:a.n.length≤1000) (ts:a.name.length≤1000) (t1:12≤a.op→a.op≤16→0<a.n.length) (t12:a.op=12→ -200≤a.n.getD 0 0∧a.n.getD 0 0≤200) (t13:a.op=13→0<a.n.length∧1≤a.n.getD 0 0∧a.n.getD 0 0≤1000) (h:∀x∈a.args,Nu K x):Nu K a
theorem Nu.t1(h:Nu K a):12≤a.op→a.op≤16→0<a.n.length:=by cases h;assumption
theorem Nu.t12(h:Nu K a):a.op=12→ -200≤a.n.getD 0 0∧a.n.getD 0 0≤200:=by cases h;assumption
theorem Nu.t13(h:Nu K a):a.op=13→0<a.n.length∧1≤a.n.getD 0 0∧a.n.getD 0 0≤1000:=by cases h;assumption
theorem Nu.nm(h:Nu K a):a.name.length≤1000:=by cases h;assumption
theorem Nu.nl(h:Nu K a):a.n.length≤1000:=by cases h;assumption
theorem Nu.arg(h:Nu K a):∀x∈a.args,Nu K x:=by cases h;assumption
theorem Nu.num(h:Nu K a):a.op=1→uq a.c.q+1000≤K:=by cases h;assumption
section
variable {op:Int}
theorem Mz{k:Nat}(hk:1≤k)(h:Wd k a):(tlE op a).length≤k∧∀y∈tlE op a,Wd k y:=by
 unfold tlE;split
 ·exact⟨h.len,h.arg⟩
 ·exact⟨hk,fun y hy=>by rw[Z4 hy];exact h⟩
theorem Ak{K:Nat}:∀ {es xs:List GExpr},xs.length=es.length→(∀i,i<es.length→Wd (2*cntE (es.getD i Δ)) (xs.getD i Δ))→2*cntL es≤K→(flE op xs).length≤2*cntL es∧∀y∈flE op xs,Wd K y
 |[],[],_,_,_=>⟨Tv _,fun y hy=>by cases hy⟩
 |[],_::_,h,_,_=>by simp at h
 |_::_,[],h,_,_=>by simp at h
 |e::es,x::xs,h,hw,hK=>by
  rw[cntL] at hK;obtain⟨_,i2⟩:=Ak (K:=K) (es:=es) (xs:=xs) d' (fun i _=>hw (i+1) B') o;have a:Wd (2*cntE e) x:=hw 0 χ;have hc:=qh e;obtain⟨_,b⟩:=Mz (op:=op) o a;have ee:flE op (x::xs)=tlE op x++flE op xs:=by unfold flE;rw[List.flatMap_cons]
  rw[ee,Tc,cntL];refine⟨by omega,fun y hy=>?_⟩
  rcases List.mem_append.1 hy with hy|hy
  ·exact(b y hy).up o
  ·exact i2 y hy
end
theorem mL{K:Nat}:∀ {es xs:List GExpr},xs.length=es.length→(∀i,i<es.length→dgE (xs.getD i Δ)+10≤K*cntE (es.getD i Δ))→sumN (fun a=>dgE a+2) xs≤K*cntL es∧sumN dgE xs≤K*cntL es
 |[],[],_,_=>⟨Tv _,Tv _⟩
 |[],_::_,h,_=>by simp at h
 |_::_,[],h,_=>by simp at h
 |e::es,x::xs,h,hw=>by
  obtain⟨_,_⟩:=mL (es:=es) (xs:=xs) d' fun i _=>hw (i+1) B';have b:dgE x+10≤K*cntE e:=hw 0 χ;rw[cntL,sumN,sumN,TH];omega
theorem MM(hK:40000≤K){e:GExpr}{o:Option GExpr}(hr:NorR e o):Va e→Nu K e→cntE e≤1000→∀x,o=some x→dgE x+10≤K*cntE e∧Wd (2*cntE e) x:=by
 have b:∀ {e:GExpr} {i:Nat},i<e.args.length→cntE (e.args.getD i Δ)≤cntL e.args:=fun {e i} hi=>yb hi;have key:∀ {e:GExpr} {xs:List GExpr},xs.length=e.args.length→Va e→Nu K e→cntE e≤1000→(∀i,i<e.args.length→Va (e.args.getD i Δ)→Nu K (e.args.getD i Δ)→cntE (e.args.getD i Δ)≤1000→∀x,some (xs.getD i Δ)=some x→dgE x+10≤K*cntE (e.args.getD i Δ)∧Wd (2*cntE (e.args.getD i Δ)) x)→
   ∀i,i<e.args.length→dgE (xs.getD i Δ)+10≤K*cntE (e.args.getD i Δ)∧Wd (2*cntE (e.args.getD i Δ)) (xs.getD i Δ):=by
  intro e xs hl hv hn hc ih i hi;have hm:=Jp hi
  have:=b hi
  rw[Z7] at hc;exact ih i hi (hv.arg _ hm) (hn.arg _ hm) ω _ r
 have nfs:∀ {e:GExpr} {xs:List GExpr},xs.length=e.args.length→Va e→(∀i,i<e.args.length→NorR (e.args.getD i Δ) (some (xs.getD i Δ)))→∀a∈xs,NF a∧Lwe a:=by
  intro e xs hl hv hx a ha;obtain⟨i,hi,rfl⟩:=J6 ha;exact FC (hx i ω) (hv.arg _ (Jp ω)) _ r
 induction hr with
 |argE hi h ih=>intro _ _ _ x hx;cases hx
 |num h=>
  intro _ hn _ x hx;cases hx
  have:=hn.num h
  rw[xw,Z7,TH,VS];exact⟨by omega,vg⟩
 |sum h hl hx ha hb ih=>
  intro hv hn hc x hx';rename_i e xs y o;rw[hb.of hx'];have k:=key hl hv hn hc ih;have nf:=nfs hl hv hx;rw[Z7,TH,VS];obtain⟨p,_⟩:=mL hl fun i hi=>(k i hi).1;have g:=MS nf (fun s=>hv.t3 h (TD (by rw[←hl,s];rfl))) ha;obtain⟨l,j⟩:=Ak (op:=10) hl (fun i hi=>(k i hi).2) (Tu _);refine⟨by omega,?_⟩;have hpos:1≤2*cntL e.args:=by
   have C:=zd e.args
   have:0<e.args.length:=UH.2 (hv.t3 h)
   omega
  exact(LF hpos j l ha).up ω
 |prod h hl hx ha hb ih=>
  intro hv hn hc x hx';rename_i e xs y o;rw[hb.of hx'];have k:=key hl hv hn hc ih;have nf:=nfs hl hv hx;rw[Z7,TH,VS];obtain⟨_,p⟩:=mL hl fun i hi=>(k i hi).1;obtain⟨n1,n2⟩:=yR fun a ha=>(nf a ha).1;have g:=BQ nf ha n1 n2;obtain⟨l,j⟩:=Ak (op:=11) (K:=2*cntL e.args+1) hl (fun i hi=>(k i hi).2) ω;refine⟨by omega,?_⟩
  exact(xU ω nf j ω ha).up ω
 |powE h hl hx hr ih=>intro _ _ _ x hx;cases hx
 |pow h hl hx hr hb ih=>
  intro hv hn hc x hx';rw[hb.of hx'];have g:=hv.t1 ω ω;obtain⟨k1,k2⟩:=key hl hv hn hc ih 0 ω;obtain⟨f1,f2⟩:=nfs hl hv hx _ (Jp (i:=0) ω);rename_i e xs y o;have d:=b (e:=e) (i:=0) ω;rw[Z7] at hc ⊢;rw[TH,VS];have hcK:=TP K d;have hp:=qh (e.args.getD 0 Δ);obtain⟨_,v⟩:=LZ hr f1 f2 k2 ω;exact⟨by omega,v.up ω⟩
 |drop h hl hx ih=>
  intro hv hn hc x hx';cases hx';have g:=hv.t1 (by have:=h.1;omega) h.2.1;obtain⟨k1,k2⟩:=key hl hv hn hc ih 0 ω;rename_i e xs;have d:=b (e:=e) (i:=0) ω;have hcK:=TP K d;rw[Z7 e,TH,VS];exact⟨by omega,k2.up ω⟩
 |vv h hvv hl hx ih=>
  intro hv hn hc x hx';cases hx';have g:=hv.t1 (by have:=hvv.1;omega) (by have:=hvv.1;omega);obtain⟨k1,k2⟩:=key hl hv hn hc ih 0 ω;rename_i e xs;have d:=b (e:=e) (i:=0) ω;have hcK:=TP K d;rw[Z7 e,TH,VS];have e1:dgE (xs.getD 0 Δ)=dgL (xs.getD 0 Δ).args:=by rw[Xd,if_neg (by have:=hvv.2.1;omega),if_neg (by have:=hvv.2.1;omega)]
  constructor
  ·rw[Xd];show dgL (xs.getD 0 Δ).args+10≤_;omega
  ·exact .mk (by have:=k2.len;show(xs.getD 0 Δ).args.length≤_;omega) (by show 1≤1000;decide) (Tv _) (fun _=>⟨by show 0<1;decide,by have w:=(hn.t13 hvv.1).2.1;have z:=(k2.lv hvv.2.1).2.1;have:=Int.mul_le_mul w z δ ω;exact this,hvv.2.2⟩) fun y hy=>(k2.arg y hy).up ω
 |other h hvv g A m B hl hx ih=>
  intro hv hn hc x hx';cases hx';have k:=key hl hv hn hc ih;rename_i e xs;have hlc:=zd e.args;rw[Z7,TH,VS];constructor
  ·rw[Xd];refine Tj (Nat.add_le_add_right (Nat.le_of_eq ((if_neg g).trans (if_neg m))) _) ?_
   have:dgL xs≤K*cntL e.args:=qC fun y hy=>by
    obtain⟨i,hi,rfl⟩:=J6 hy
    have:=(k i ω).1
    have:=TP K (b (e:=e) (i:=i) ω)
    omega
   show dgL xs+10≤_;omega
  ·refine .mk (by show xs.length≤_;omega) hn.nl hn.nm hn.t13 fun y hy=>?_
   obtain⟨i,hi,rfl⟩:=J6 (show y∈xs from hy)
   have:=b (e:=e) (i:=i) ω
   exact(k i ω).2.up ω
def SzL(l:List GExpr):Prop:=l.length≤100000∧∀x∈l,Sz x
theorem SzL.at(h:SzL l)(hi:i<l.length):Sz (l.getD i Δ):=h.2 _ (Jp hi)
theorem Sz.args(h:Sz a):SzL a.args:=⟨(Qi.1 h).2.2.2.1,fun _ hx=>h.arg hx⟩
theorem I0{op:Int}(h:SzL l):Sz (opE op l):=⟨by simp[opE,GExpr.n],by simp[opE,GExpr.c,Y3],by simp[opE,GExpr.c,Y3],h.1,Tv _,h.2⟩
theorem Ff{op:Int}(h:SzL l):Sz (sevE op l):=by
 match l,h with
 |[],h=>exact I0 h
 |[a],h=>exact h.2 a χ
 |_::_::_,h=>exact I0 h
theorem Pf{op:Int}(h:l.length=1):l.getD 0 Δ=sevE op l:=by
 match l,h with
 |[a],_=>rfl
theorem OJ{op:Int}(h:¬l.length=1):opE op l=sevE op l:=by
 match l,h with
 |[],_=>rfl
 |[a],h=>exact absurd r h
 |_::_::_,_=>rfl
theorem AA{op:Int}(hp:p=flE op (l.take i))(hi:i<l.length):flE op (l.take (i+1))=p++if(l.getD i Δ).op=op then(l.getD i Δ).args else [l.getD i Δ]:=by
 rw[hp,UZ,Tq,Tt hi];unfold flE;rw[List.flatMap_append];simp
theorem Bc{op:Int}(hp:p=flE op (l.take i))(hi:i<l.length)(h:(l.getD i Δ).op=op):p++(l.getD i Δ).args=flE op (l.take (i+1)):=by rw[AA hp hi,if_pos h]
theorem H5{op:Int}(hp:p=flE op (l.take i))(hi:i<l.length)(h:¬(l.getD i Δ).op=op):p++[l.getD i Δ]=flE op (l.take (i+1)):=by rw[AA hp hi,if_neg h]
theorem tO{op:Int}(i:Nat):(flE op (l.take i)).length≤(flE op l).length:=by
 have e:flE op l=flE op (l.take i)++flE op (l.drop i):=by
  unfold flE;rw[←List.flatMap_append,U0]
 rw[e,Tc];omega
theorem La{op:Int}(hp:p=flE op (l.take i))(hi:l.length≤i):p=flE op l:=by rw[hp,TE hi]
theorem Hy{q:Rat}:decide (qcmp q (Rat.divInt 1 1)=0)=decide (q=1):=by
 have e:Rat.divInt 1 1=1:=d
 rw[e];refine decide_eq_decide.2 ⟨pM,fun h=>?_⟩
 rw[h];unfold qcmp Xr;rw[Rat.sub_self];rfl
structure PSz (p:GPart):Prop where
 num:p.c.num.mag.length≤268435456
 den:p.c.den.mag.length≤268435456
 rest:SzL p.rest
theorem tN{a b:GPart}(h:a.rest.length=0∨b.rest.length=0):(if((b.rest.length:Nat):Int)<1 then((b.rest.length:Nat):Int) else 1)-(if((a.rest.length:Nat):Int)<1 then((a.rest.length:Nat):Int) else 1)=cmpA a b:=by
 unfold cmpA;rw[if_pos (h.imp TD TD)];split<;>split<;>omega
theorem Cm{a b:GPart}(d:¬a.rest.length=0)(g:¬b.rest.length=0):cmpE (sevE 11 a.rest) (sevE 11 b.rest)=cmpA a b:=by
 unfold cmpA;rw[if_neg fun h=>h.elim (fun e=>d P') fun e=>g P']
end Go.Wf
namespace Go.Wf
open Go Go.Proofs Go.RowKit
theorem yZ(N:Nat):∀ {X:Nat→Prop} {w:World} (hX:XB X w) {F:Value} {a:GExpr} (G:RV Jc X w F a) {H:Value} {b:GExpr} (P:RV Jc X w H b) (pa:Sz a) (pb:Sz b) (hN:(SizeOf.sizeOf a)<N),CRt 54 #[F,H] w fun v _=>v=(.int .i64 (cmpE a b)):=by
 induction N with
 |zero=>intro X w hX F a G H b P pa pb hN;exact absurd hN<|TC _
 |succ N ih=>
  intro X w hX F a G H b P pa pb hN;obtain⟨a1,c2,Q,R,S,T,a7,c8,rfl,h⟩:=SR G;obtain⟨U,V,I,J,K,L,Y,Z,rfl,g⟩:=SR P;have C:=PV hX;have hal:=G.args_max;obtain⟨_,_,_,_,_⟩:=Qi.1 pa;obtain⟨_,_,_,_,_⟩:=Qi.1 pb;refine Cgo Tryz.func54 r r r (Rg<|Ol<|QA C r ?_);intro _ _ _ _ _ aa M d;refine Ol (QA aa r ?_);intro _ _ _ _ _ l x e;have h:=(h.sp M).sp x;have g:=(g.sp M).sp x;have d:=d.spn x;refine Ua<|Rh<|Ol<|PJ Jw rfl<|Ol<|PO d pl3 r rfl<|Ol<|PJ Jw rfl<|Ol<|PO e pl3 r rfl<|Ol<|QH r r (fun j=>?_)<|fun j=>?_
  ·refine Nl<|Ud<|Rh<|Ol<|PJ Jw rfl<|Ol<|PO d pl3 r rfl<|Ol<|PJ Jw rfl<|Ol<|PO e pl3 r rfl<|Ol<|P2 r r (fun k=>?_)<|fun k=>?_
   ·exact Nl<|Uf<|Ua<|PS<|Wq r r l<|YR<|Eq.trans (E1 k)<|E0 j
   exact Nl<|Uc<|Rg<|Ua<|PS<|Wq r r l<|YR<|Eq.trans (EH k o)<|E0 j
  refine Nl (Uc<|Rh<|Ol<|PJ Zi rfl<|Ol<|PO d pl23 r rfl<|Ol<|PJ Zi rfl<|Ol<|PO e pl23 r rfl<|Ol<|PK l cb84 r r (F6 l.bd h.n g.n) ?_);intro _ _ y m ab;have h:=h.sp m;have g:=g.sp m;have d:=d.spn m;have e:=e.spn m;subst ab;refine Ua<|Rg<|Ub<|QH r r (fun z=>?_)<|fun z=>?_
  ·exact Nl<|Uf<|Om<|Ua<|PS<|Wq r r y<|YR<|Oc o z
  refine Nl (Uc<|Rh<|Ol<|PJ Yv rfl<|Ol<|Uo (vs:=(qqC a.c Q R S T)) d ag28<|Ol<|PJ Yv rfl<|Ol<|Uo (vs:=(qqC b.c I J K L)) e ag28 ?_);refine Ol (PK y cb85 r r (qS y.bd (a:=a.c) (Jz h.num h.den) (b:=b.c) (Jz g.num g.den) o o o o) ?_);intro _ _ A p ac;have d:=d.spn p;have e:=e.spn p;subst ac;refine Ua<|Rg<|Ub<|QH r r (fun B=>?_)<|fun B=>?_
  ·exact Nl<|Uf<|Om<|Ua<|PS<|Wq r r A<|YR<|NQ o o B
  refine Nl (Uc<|Rh<|Ol<|PJ X5 rfl<|Ol<|PO d pl9 r rfl<|Ol<|PJ X5 rfl<|Ol<|PO e pl9 r rfl<|Ol<|PK A cb86 r r (Lj A.bd) ?_);intro _ _ D s ad;have h:=(h.sp p).sp s;have g:=(g.sp p).sp s;have d:=d.spn s;have e:=e.spn s;subst ad;refine Ua<|Rg<|Ub<|QH r r (fun E=>?_)<|fun E=>?_
  ·exact Nl<|Uf<|Om<|Ua<|PS<|Wq r r D<|YR<|Oi o o o E
  refine Nl (Uc<|Rg<|Ol<|PJ J8 rfl<|Ol<|PO d pl29 r rfl<|Ol<|PJ J8 rfl<|Ol<|PO e pl29 r rfl<|Ol<|PK D cb87 r r (IZ D.bd h.args g.args<|fun i h1 h2 {_ _} hX {_ _} q0 q1=>ih hX q0 q1 (nF pa h1) (nF pb h2)<|Ti (Kz h1)<|Nat.le_of_lt_succ hN) ?_);intro _ _ af _ ag;subst ag;exact Ua<|PS<|Wq r r af<|YR<|NZ o o o o
section
variable{X:Nat→Prop}{w:World}(hX:XB X w)
include hX
theorem sw{d:Value}{a:GExpr}(g:RV Jc X w d a){e:Value}{b:GExpr}(h:RV Jc X w e b)(pa:Sz a)(pb:Sz b):CRt 54 #[d,e] w fun v _=>v=(.int .i64 (cmpE a b)):=yZ ((SizeOf.sizeOf a)+1) hX g h pa pb (VM _)
theorem Ke{A:Value}{c:GRat}(K:RV Y6 X w A c)(hln:c.num.mag.length≤17179869184)(hld:c.den.mag.length≤17179869184):CRt 93 #[A] w fun v w'=>RV Jc X w' v (nbE c.q):=by
 obtain⟨a1,B,D,E,rfl,y,z⟩:=ST K;have C:=PV hX;refine Cgo Tryz.func93 r r r (Rg<|Ol<|QA C r ?_);intro _ _ _ _ _ F i b;refine Ol (PU F io31 r ?_);intro _ _ _ _ _ j d e;have y:=(y.sp i).sp d;have z:=(z.sp i).sp d;have b:=b.spn d;refine Nl (Rg<|Ol<|Uo (vs:=(qqC c a1 B D E)) b ag28<|Ol<|PK j cb92 r r (Qu j.bd (a:=c) (Jz y z) o o) ?_);intro _ _ G H I;have e:=e.spn H;obtain⟨k,l,m,p,rfl,g,h⟩:=ST I;refine Ol (PX (cs:=[(.int .i64 1),n11,(.bool (ofQ c.q).num.neg),(S12 k (ofQ c.q).num.mag l),(.bool (ofQ c.q).den.neg),(S12 m (ofQ c.q).den.mag p),(str []),n11]) r κ<|On<|Us (cs':=[(.int .i64 1),n11,(.bool (ofQ c.q).num.neg),(S12 k (ofQ c.q).num.mag l),(.bool (ofQ c.q).den.neg),(S12 m (ofQ c.q).den.mag p),(str []),n11]) G e io31 ?_);intro _ s x J;have g:=g.sp x;have h:=h.sp x;refine Nl (PS<|J1 r r J ag31 s ?_);exact SS (a:=(.mk 1 [] (ofQ c.q) [] [])) ((Zb o o ξ RS.nil g h RS.nil).tr s.wb) r
theorem BE{y:Value}{c:GRat}(L:RV Y6 X w y c)(hln:c.num.mag.length≤268435456)(hld:c.den.mag.length≤268435456):CRt 142 #[y] w fun v _=>v=(.bool (decide (c.q=1))):=by
 obtain⟨a1,l,m,p,rfl,s,x⟩:=ST L;have C:=PV hX;have M:YU.num.mag.length≤1:=δ
 have N:YU.den.mag.length≤1:=δ
 refine Cgo Tryz.func142 r r r (Rg<|Ol<|QA C r ?_);intro _ _ _ _ _ z i g;refine Ua<|PT<|QL mixed 2 [[],[]] z [fx<|.agg #[(.bool c.num.neg),(S12 a1 c.num.mag l),(.bool c.den.neg),(S12 m c.den.mag p)],fr Y6<|YU] κ ⟨sx,sr,trivial⟩ fun A j _ ⟨d,h⟩ e=>?_
 have s:=(s.sp i).sp h;have x:=(x.sp i).sp h;have g:=g.spn h;have e:Keep [3,4] _ A:=e;refine⟨⟨fun _=>?_,fun _=>?_,trivial⟩,fun⟨B,D,_⟩=>?_⟩
 ·exact Sd0 e fun _=>QC (vs:=(qqC c a1 l m p)) g ag28 r r r ⟨j,PQ d,rfl⟩
 ·refine Sd0 e fun _=>PK d oA r r (oK d.bd δ δ) ?_;intro _ _ E F G;exact⟨j,⟨E,F⟩,G⟩
 obtain⟨_,_,_,_,H,I,J⟩:=ST D;obtain⟨_,rfl⟩:=mixK e (aC B<|aC H aN);refine Ol (PK d cb85 r r (qS d.bd (a:=c) (Jz s x) (b:=YU) (Jz I J) o o o o) ?_);intro _ _ K _ k;simp only[Jo,J9] at k;subst k;exact Ol<|QZ r r rfl<|Ua<|PS<|Wq r r K<|YS<|Hy
theorem Vm{o:Int}{E:Value}{l:List GExpr}(b:RS Jc X w E l)(L: -9223372036854775808≤o)(M:o≤9223372036854775807):CRt 143 #[(.int .i64 o),E] w fun v w'=>RV Jc X w' v (sevE o l):=by
 obtain⟨a1,B,rfl,_,_⟩:=b.len;have C:=PV hX;refine Cgo Tryz.func143 r r r (Rg<|Ol<|PU C io31 r ?_);intro _ _ _ _ _ F K e;have b:=b.sp K;refine Nl<|Rh<|Ub<|St.len sl29 rfl<|Ol<|PW r r (fun D=>?_)<|fun D=>?_
 ·refine Nl (Uf<|Ub<|P4 (j:=0) (u:=(l.getD 0 Δ)) b sl29 io31 r r r (Je ω) ?_);intro _ _ _ g;obtain⟨h,i,k,m,p,s,x,y,rfl,d⟩:=Jb g.rd;refine Ol (QE (cs:=(ec (l.getD 0 Δ) h i k m p s x y)) ag31 r r g.cell<|On<|Us (cs':=(ec (l.getD 0 Δ) h i k m p s x y)) F e io31 ?_);intro _ z G H;have d:=d.sp G;refine Nl (PS<|J1 r r H ag31 z ?_);exact SS (a:=(l.getD 0 Δ)) ((Mx (l.getD 0 Δ) d).tr z.wb)<|Pf ω
 refine Nl (Uc<|Rg<|Om<|Ub<|PX (cs:=[(.int .i64 o),n11,b13,n11,b13,n11,(str []),(S12 a1 l B)]) r κ<|On<|Us (cs':=[(.int .i64 o),n11,b13,n11,b13,n11,(str []),(S12 a1 l B)]) F e io31 ?_);intro _ A I J;have b:=b.sp I;refine Nl (PS<|J1 r r J ag31 A ?_);exact SS (a:=(.mk o [] YT [] l)) ((Zb ω ω ξ RS.nil RS.nil RS.nil b).tr A.wb)<|OJ ω
end
section
variable{X:Nat→Prop}{w:World}(hX:XB X w)
include hX
theorem D0{o:Int}{Z:Value}{l:List GExpr}(g:RS Jc X w Z l)(ao: -9223372036854775808≤o)(aq:o≤9223372036854775807)(hfl:(flE o l).length≤100000)(hll:l.length≤100000):CRt 138 #[(.int .i64 o),Z] w fun v w'=>RS Jc X w' v (flE o l):=by
 obtain⟨a1,U,rfl,_,_⟩:=g.len;have C:=PV hX;refine Cgo Tryz.func138 r r r (Rg<|Ua<|Rg<|Ua<|Rh<|Ub<|St.len sl29 rfl<|Om<|Nl<|W.block<|P7 (fun μ f v=>∃(x y:Nat→Prop) (i:Nat) (p:List GExpr) (pa:Option Addr) (pc:Nat),Cx X w x y v∧f 0=(.int .i64 o)∧f 8=(S12 a1 l U)∧f 9=(.int .i64 l.length)∧f 10=(.int .i64 i)∧f 5=(S12 pa p pc)∧RS Jc x v (S12 a1 l U) l∧OS Jc 31 w x y v (S12 pa p pc) p∧i≤l.length∧p=flE o (l.take i)∧μ=(l.length-i)) _ ⟨_,_,0,[],none,0,C,rfl,rfl,rfl,rfl,rfl,g,OS.nil,(Tv _),rfl,rfl⟩ ?_);rintro _ _ _ ⟨_,_,i,p,pa,pc,V,e8,e9,J,K,L,g,hP,hi,hp,_⟩;obtain⟨_,rfl⟩:=rebK (aC e8<|aC e9<|aC J<|aC K<|aC L aN);clear e8 e9 J K L;refine Rg<|Ol<|P2 r r (fun Y=>?_)<|fun Y=>?_
 ·refine Nl (PT<|Ud<|PR<|PT<|W.block<|Rg<|Ol<|P4 (j:=i) (u:=(l.getD i Δ)) g sl29 io31 r r r (Je ω) ?_);intro _ _ _ M;obtain⟨k,m,s,z,A,B,D,E,rfl,d⟩:=Jb M.rd;refine Ol (QE (cs:=(ec (l.getD i Δ) k m s z A B D E)) ag31 r r M.cell<|Ol<|QU V io31 r ?_);intro _ _ _ _ _ N F ac ad;refine On (Us (cs':=(ec (l.getD i Δ) k m s z A B D E)) N ac io31 ?_);intro _ G H I;have g:=(g.sp F).sp H;have hP:=(hP.sp F N ad).sp H G (fun _ h=>h)
  have d:=(d.sp F).sp H;refine Nl<|Rh<|Ol<|PJ Jw rfl<|Ol<|PO I pl3 r rfl<|Ub<|PW r r (fun e=>?_)<|fun e=>?_
  ·refine Nl (Uf<|Ub<|PJ J8 rfl<|Ol<|PO I pl29 r rfl<|Ol<|P8 (T:=Jc) G sl29 io31 r r hP (Z5 d.args) (by have hq:=tO (op:=o) (l:=l) (i+1);rw[←Bc hp ω e,Tc] at hq;unfold maxLen;omega) (by have hq:=tO (op:=o) (l:=l) (i+1);rw[←Bc hp ω e,Tc] at hq;omega) r ?_);intro _ _ _ ae af _ P;have g:=g.tr af.tx;obtain⟨ag,ah,rfl,_,_⟩:=P.len;refine Ua<|QB<|PN<|Ol<|St.add r r (Ja (a:=i) (b:=1) ω)<|Om<|Nl<|⟨_,ω,_,_,(i+1),(p++(l.getD i Δ).args),ag,ah,ae,rfl,rfl,rfl,rfl,rfl,g,P,ω,(Bc hp ω e),rfl⟩
  refine Nl (Uc<|PN<|Ub<|Uo (vs:=(ec (l.getD i Δ) k m s z A B D E)) I ag31<|Ol<|P5 (T:=Jc) (css:=[(ec (l.getD i Δ) k m s z A B D E)]) (l:=[(l.getD i Δ)]) G sl29 io31 δ δ r κ ⟨(Ju (l.getD i Δ) d.lo d.hi d.name d.n d.num d.den d.args),trivial⟩ ?_);intro _ _ Q R ai;have hP:=hP.sp R Q<|fun _ h=>h
  refine Ol (P8 (T:=Jc) Q sl29 io31 r r hP (Z5 ai) (by have hq:=tO (op:=o) (l:=l) (i+1);rw[←H5 hp ω e,Tc] at hq;simp only[Td,Te] at hq ⊢;unfold maxLen;omega) (by have hq:=tO (op:=o) (l:=l) (i+1);rw[←H5 hp ω e,Tc] at hq;simp only[Td,Te] at hq ⊢;omega) r ?_);intro _ _ _ aj ak _ S;have g:=(g.sp R).tr ak.tx;obtain⟨am,an,rfl,_,_⟩:=S.len;refine Ua<|PN<|Ol<|St.add r r (Ja (a:=i) (b:=1) ω)<|Om<|Nl<|⟨_,ω,_,_,(i+1),(p++[(l.getD i Δ)]),am,an,aj,rfl,rfl,rfl,rfl,rfl,g,S,ω,(H5 hp ω e),rfl⟩
 exact Nl<|PT<|Ue<|QB<|Rg<|Om<|Ua<|PS<|Wq r r V<|SX (hP.toRS V hX)<|La hp ω
theorem D3{I:Value}{a:GPart}(r0:RV Ji X w I a){J:Value}{b:GPart}(r1:RV Ji X w J b)(hpa:PSz a)(hpb:PSz b):CRt 140 #[I,J] w fun v _=>v=(.int .i64 (cmpA a b)):=by
 obtain⟨a1,c2,a3,c4,K,L,rfl,_,_,_,_,i⟩:=SU r0;obtain⟨M,N,P,Q,x,y,rfl,_,_,_,_,j⟩:=SU r1;have C:=PV hX;have hla:=hpa.rest.1;have hlb:=hpb.rest.1;refine Cgo Tryz.func140 r r r ?_;refine Rg (Ol<|QA C r ?_);intro R _ _ _ _ S A d;have i:=i.sp A;have j:=j.sp A;refine Ol (QA S r ?_);intro T _ _ _ _ m p h;have d:=d.spn p;refine Ua<|PT<|W.block<|Rg<|Ol<|PJ Yf rfl<|Ol<|PO d pl29 r rfl<|Ol<|St.len sl29 rfl<|Ol<|PW r r (fun D=>?_)<|fun D=>?_
 ·refine Om (Oz<|Oz<|Oz<|Oz<|OT<|Ua<|Uf<|Ol<|PJ Yf rfl<|Ol<|PO h pl29 r rfl<|Ol<|St.len sl29 rfl<|Ol<|RF r r rfl<|Ol<|PJ Yf rfl<|Ol<|PO d pl29 r r ?_);refine Ol<|St.len sl29 rfl<|Ol<|RF r r rfl<|Ol<|St.sub (z:=(cmpA a b)) r r WV<|Ua<|PS<|Wq r r m ?_
  rfl
 refine Om<|OgD<|PJ Yf rfl<|OgD<|PO h pl29 r rfl<|OgD<|St.len sl29 rfl<|OgD<|PW r r (fun E=>?_)<|fun E=>?_
 ·refine OF (Ua<|Uf<|Ol<|PJ Yf rfl<|Ol<|PO h pl29 r rfl<|Ol<|St.len sl29 rfl<|Ol<|RF r r rfl<|Ol<|PJ Yf rfl<|Ol<|PO d pl29 r rfl<|Ol<|St.len sl29 rfl<|Ol<|RF r r rfl<|Ol<|St.sub (z:=(cmpA a b)) r r WV ?_);refine Ua<|PS<|Wq r r m ?_
  rfl
 refine OF<|Ua<|Uc<|PT<|QL mixed 5 [[],[0],[1],[],[3]] m [fx<|.pointer (some ⟨R,5,none⟩),fx<|.slice K a.rest.length L,fr Jc<|sevE 11 a.rest,fx<|.pointer (some ⟨T,5,none⟩),fx<|.slice x b.rest.length y] κ ⟨sx,sx,sr,sx,sx,trivial⟩ fun U k _ ⟨e,l⟩ g=>?_
 have i:=(i.sp p).sp l;have j:=(j.sp p).sp l;have d:=d.spn l;have h:=h.spn l;have g:Keep [25,26,27,28,29] _ U:=g;refine⟨⟨fun _=>?_,fun⟨V,_⟩=>?_,fun⟨Y,_⟩=>?_,fun _=>?_,fun⟨Z,_⟩=>?_,trivial⟩,fun⟨aa,ab,ac,ad,ae,_⟩=>?_⟩
 ·exact Sd0 g fun _=>PJ Yf r ⟨k,PQ e,rfl⟩
 ·exact Sd1 g V fun _=>PO d pl29 r r ⟨k,PQ e,rfl⟩
 ·refine Sd1 g Y fun _=>PK e vK r r (Vm e.bd i δ δ) ?_;intro _ _ af ag ah;exact⟨k,⟨af,ag⟩,ah⟩
 ·exact Sd0 g fun _=>PJ Yf r ⟨k,PQ e,rfl⟩
 ·exact Sd1 g Z fun _=>PO h pl29 r r ⟨k,PQ e,rfl⟩
 obtain⟨_,_,_,_,_,_,_,_,ai,s⟩:=SR ac;obtain⟨_,rfl⟩:=mixK g (aC aa<|aC ab<|aC ai<|aC ad<|aC ae aN);refine Ol (PK e vK r r (Vm e.bd j δ δ) ?_);intro _ _ B aj ak;have s:=s.sp aj;obtain⟨_,_,_,_,_,_,_,_,rfl,F⟩:=SR ak;refine Ol (PK B cb54 r r (sw B.bd (Mx (sevE 11 a.rest) s) (Mx (sevE 11 b.rest) F) (Ff hpa.rest)<|Ff hpb.rest) ?_);intro _ _ G _ H;subst H;exact Ua<|PS<|Wq r r G<|YR<|Cm o o
theorem Nj{v0:Value}{a:GPart}(r0:RV Ji X w v0 a){v1:Value}{b:GPart}(r1:RV Ji X w v1 b)(hpa:PSz a)(hpb:PSz b)(hna:0<a.rest.length)(hnb:0<b.rest.length):CRt 145 #[v0,v1] w fun v _=>v=(.int .i64 (cmpM a b)):=by
 obtain⟨a1,c2,a3,c4,a5,c6,rfl,_,_,_,_,h⟩:=SU r0;obtain⟨ar,au,av,aw,z,A,rfl,_,_,_,_,i⟩:=SU r1;have C:=PV hX;refine Cgo Tryz.func145 r r r ?_;refine Rg (Ol<|QA C r ?_);intro ax _ _ _ _ ay B l;have h:=h.sp B;have i:=i.sp B;refine Ol (QA ay r ?_);intro az _ _ _ _ aA m p;refine Ua<|PT<|QL mixed 8 [[],[0],[1],[2],[],[4],[5],[6]] aA [fx<|.pointer (some ⟨ax,5,none⟩),fx<|.slice a5 a.rest.length c6,fE Jc<|a.rest.getD 0 Δ,fr Jc<|a.rest.getD 0 Δ,fx<|.pointer (some ⟨az,5,none⟩),fx<|.slice z b.rest.length A,fE Jc<|b.rest.getD 0 Δ,fr Jc<|b.rest.getD 0 Δ] κ ⟨sx,sx,sE,sr,sx,sx,sE,sr,trivial⟩ fun aB g _ ⟨e,k⟩ d=>?_
 have h:=(h.sp m).sp k;have i:=(i.sp m).sp k;have l:=(l.spn m).spn k;have p:=p.spn k;have d:Keep [5,6,7,8,9,10,11,12] _ aB:=d;refine⟨⟨fun _=>?_,fun⟨aD,_⟩=>?_,fun⟨aE,_⟩=>?_,fun⟨aF,_⟩=>?_,fun _=>?_,fun⟨aG,_⟩=>?_,fun⟨aH,_⟩=>?_,fun⟨aI,_⟩=>?_,trivial⟩,fun⟨aJ,aK,aL,aM,aO,aP,aQ,aR,_⟩=>?_⟩
 ·exact Sd0 d fun _=>PJ Yf r ⟨g,PQ e,rfl⟩
 ·exact Sd1 d aD fun _=>PO l pl29 r r ⟨g,PQ e,rfl⟩
 ·refine Sd1 d aE fun _=>P4 (j:=0) (u:=(a.rest.getD 0 Δ)) h sl29 io31 r r r (Je hna) ?_;intro _ _ _ D;obtain⟨_,_,_,_,_,_,_,_,rfl,_⟩:=Jb D.rd;exact⟨g,PQ e,⟨_,_,_,rfl,D⟩⟩
 ·obtain⟨_,_,_,E,s⟩:=aF;obtain⟨F,G,H,I,J,K,L,M,rfl,N⟩:=Jb s.rd;exact Sd1 d E fun _=>QE (cs:=(ec (a.rest.getD 0 Δ) F G H I J K L M)) ag31 r r s.cell ⟨g,PQ e,(Mx (a.rest.getD 0 Δ) N)⟩
 ·exact Sd0 d fun _=>PJ Yf r ⟨g,PQ e,rfl⟩
 ·exact Sd1 d aG fun _=>PO p pl29 r r ⟨g,PQ e,rfl⟩
 ·refine Sd1 d aH fun _=>P4 (j:=0) (u:=(b.rest.getD 0 Δ)) i sl29 io31 r r r (Je hnb) ?_;intro _ _ _ x;obtain⟨_,_,_,_,_,_,_,_,rfl,_⟩:=Jb x.rd;exact⟨g,PQ e,⟨_,_,_,rfl,x⟩⟩
 ·obtain⟨_,_,_,P,y⟩:=aI;obtain⟨Q,R,S,T,U,V,Y,Z,rfl,aa⟩:=Jb y.rd;exact Sd1 d P fun _=>QE (cs:=(ec (b.rest.getD 0 Δ) Q R S T U V Y Z)) ag31 r r y.cell ⟨g,PQ e,(Mx (b.rest.getD 0 Δ) aa)⟩
 obtain⟨_,_,_,ab,ac⟩:=aL;obtain⟨_,_,_,_,_,_,_,_,rfl,_⟩:=Jb ac.rd;obtain⟨_,_,_,_,_,_,_,_,ad,ae⟩:=SR aM;obtain⟨_,_,_,af,ag⟩:=aQ;obtain⟨_,_,_,_,_,_,_,_,rfl,_⟩:=Jb ag.rd;obtain⟨_,_,_,_,_,_,_,_,ah,ai⟩:=SR aR;obtain⟨_,rfl⟩:=mixK d (aC aJ<|aC aK<|aC ab<|aC ad<|aC aO<|aC aP<|aC af<|aC ah aN);refine Ol (PK e cb54 r r (sw e.bd (Mx (a.rest.getD 0 Δ) ae) (Mx (b.rest.getD 0 Δ) ai) (hpa.rest.at hna)<|hpb.rest.at hnb) ?_);intro _ _ aj _ ak;subst ak;refine Ua<|PS<|Wq r r aj ?_
 rfl
end
theorem Lz(a b:GRat):Rat.divInt (a.num.toZ*b.num.toZ) (a.den.toZ*b.den.toZ)=a.q*b.q:=by
 unfold GRat.q;rw[Rat.divInt_mul_divInt]
section
variable{X:Nat→Prop}{w:World}(hX:XB X w)
include hX
theorem Lc{v0:Value}{a:GRat}(Q:RV Y6 X w v0 a){v1:Value}{b:GRat}(R:RV Y6 X w v1 b)(hln:a.num.mag.length≤34359738368)(hld:a.den.mag.length≤34359738368)(hlm:b.num.mag.length≤34359738368)(hle:b.den.mag.length≤34359738368):CRt 144 #[v0,v1] w fun v w'=>RV Y6 X w' v (ofQ (a.q*b.q)):=by
 obtain⟨a1,S,T,U,rfl,E,F⟩:=ST Q;obtain⟨V,Y,Z,G,rfl,l,m⟩:=ST R;have C:=PV hX;have sn:=Q.rat_small.1;have sd:=Q.rat_small.2;have sm:=R.rat_small.1;have se:=R.rat_small.2;have hN:=Z1 sn;have hD:=Z1 sd;have hM:=Z1 sm;have hE:=Z1 se;have m1:=Qk (x:=a.num.toZ) (y:=b.num.toZ);have m2:=Qk (x:=a.den.toZ) (y:=b.den.toZ);refine Cgo Tryz.func144 r r r (Rg<|Ol<|QA C r ?_);intro K _ _ _ _ af B j;refine Ol (QA af r ?_);intro L _ _ _ _ ag p D;have E:=(E.sp B).sp p;have F:=(F.sp B).sp p;have l:=(l.sp B).sp p;have m:=(m.sp B).sp p;have j:=j.spn p;refine Ol (PU ag io28 r ?_);intro _ _ _ _ _ ah k s;refine Nl<|PT<|QL mixed 9 [[],[0],[],[2],[1,3],[],[5],[],[7]] ah [fx<|.pointer (some ⟨K,0,none⟩),fx<|.agg #[(.bool a.num.neg),(S12 a1 a.num.mag S)],fx<|.pointer (some ⟨L,0,none⟩),fx<|.agg #[(.bool b.num.neg),(S12 V b.num.mag Y)],fr Z0<|ofZ<|a.num.toZ*b.num.toZ,fx<|.pointer (some ⟨K,2,none⟩),fx<|.agg #[(.bool a.den.neg),(S12 T a.den.mag U)],fx<|.pointer (some ⟨L,2,none⟩),fx<|.agg #[(.bool b.den.neg),(S12 Z b.den.mag G)]] κ ⟨sx,sx,sx,sx,sr,sx,sx,sx,sx,trivial⟩ fun ai h _ ⟨e,i⟩ g=>?_
 have E:=(E.sp k).sp i;have F:=(F.sp k).sp i;have l:=(l.sp k).sp i;have m:=(m.sp k).sp i;have j:=(j.spn k).spn i;have D:=(D.spn k).spn i;have s:=s.spn i;have g:Keep [5,6,7,8,9,10,11,12,13] _ ai:=g;refine⟨⟨fun _=>?_,fun⟨aj,_⟩=>?_,fun _=>?_,fun⟨ak,_⟩=>?_,fun⟨am,an,_⟩=>?_,fun _=>?_,fun⟨ao,_⟩=>?_,fun _=>?_,fun⟨aq,_⟩=>?_,trivial⟩,fun⟨ar,au,av,aw,ax,ay,az,aA,aB,_⟩=>?_⟩
 ·exact Sd0 g fun _=>PJ Y7 r ⟨h,PQ e,rfl⟩
 ·exact Sd1 g aj fun _=>QC (vs:=(zzC a.num a1 S)) j ag26 r r r ⟨h,PQ e,rfl⟩
 ·exact Sd0 g fun _=>PJ Y7 r ⟨h,PQ e,rfl⟩
 ·exact Sd1 g ak fun _=>QC (vs:=(zzC b.num V Y)) D ag26 r r r ⟨h,PQ e,rfl⟩
 ·refine Jf g (aC am<|aC an aN) fun _=>P1 (PK e ve r r (V4 e.bd (a:=a.num) (Jl E) (b:=b.num) (Jl l) o o) ?_);intro _ _ aD aE aF;exact⟨h,⟨aD,aE⟩,aF⟩
 ·exact Sd0 g fun _=>PJ Yy r ⟨h,PQ e,rfl⟩
 ·exact Sd1 g ao fun _=>QC (vs:=(zzC a.den T U)) j ag26 r r r ⟨h,PQ e,rfl⟩
 ·exact Sd0 g fun _=>PJ Yy r ⟨h,PQ e,rfl⟩
 ·exact Sd1 g aq fun _=>QC (vs:=(zzC b.den Z G)) D ag26 r r r ⟨h,PQ e,rfl⟩
 obtain⟨_,_,aG,H⟩:=RV.int ax;obtain⟨_,rfl⟩:=mixK g (aC ar<|aC au<|aC av<|aC aw<|aC aG<|aC ay<|aC az<|aC aA<|aC aB aN);refine Ol (PK e ve r r (V4 e.bd (a:=a.den) (Jl F) (b:=b.den) (Jl m) o o) ?_);intro _ _ M N aH;have H:=H.sp N;obtain⟨_,_,rfl,aI⟩:=RV.int aH;refine Ol (PK M ns r r (yc M.bd (n:=(ofZ<|a.num.toZ*b.num.toZ)) (Jl H) (d:=(ofZ<|a.den.toZ*b.den.toZ)) (Jl aI) o o) ?_);intro _ _ aJ aK P;have s:=(s.spn N).spn aK;simp only[Jo,J9] at P;obtain⟨aL,aM,aa,ab,rfl,z,A⟩:=ST P;refine On (Us (cs':=(qqC (ofQ<|Rat.divInt (a.num.toZ*b.num.toZ)<|a.den.toZ*b.den.toZ) aL aM aa ab)) aJ s io28 ?_);intro _ I J ac;have z:=z.sp J;have A:=A.sp J;refine Nl (PS<|J1 r r ac ag28 I ?_);exact SS (a:=(ofQ<|Rat.divInt (a.num.toZ*b.num.toZ)<|a.den.toZ*b.den.toZ)) ((Jz z A).tr I.wb)<|congrArg ofQ<|Lz a b
theorem vy{A:Value}{a:GInt}(B:RV Z0 X w A a)(hl:a.mag.length≤34359738368):CRt 190 #[A] w fun v w'=>RV Y6 X w' v (ofQ (Rat.divInt a.toZ 1)):=by
 obtain⟨a1,D,rfl,z⟩:=RV.int B;have C:=PV hX;have sa:=B.int_small;refine Cgo Tryz.func190 r r r (Rg<|Ol<|QA C r ?_);intro _ _ _ _ _ K E b;refine Ol (PU K io28 r ?_);intro _ _ _ _ _ h i d;have z:=(z.sp E).sp i;have b:=b.spn i;refine Nl (Rg<|Ol<|Uo (vs:=(zzC a a1 D)) b ag26<|Ol<|PK h IB r r (n7 h.bd (a:=a) (Jl z) o) ?_);intro _ _ j F G;obtain⟨k,l,rfl,e⟩:=RV.int G;refine Ol (PK j ox r r (oE j.bd δ δ) ?_);intro _ _ H m I;have d:=(d.spn F).spn m;obtain⟨p,s,rfl,g⟩:=RV.int I;refine Ol (PX (cs:=[(.bool (ofZ a.toZ).neg),(S12 k (ofZ a.toZ).mag l),(.bool (ofZ 1).neg),(S12 p (ofZ 1).mag s)]) r κ<|On<|Us (cs':=[(.bool (ofZ a.toZ).neg),(S12 k (ofZ a.toZ).mag l),(.bool (ofZ 1).neg),(S12 p (ofZ 1).mag s)]) H d io28 ?_);intro _ x y J;have e:=(e.sp m).sp y;have g:=g.sp y;refine Nl (PS<|J1 r r J ag28 x ?_);exact SS (a:=(⟨⟨(ofZ a.toZ).neg,(ofZ a.toZ).mag⟩,⟨(ofZ 1).neg,(ofZ 1).mag⟩⟩:GRat)) ((Jz e g).tr x.wb)<|Vy r
end
end Go.Wf
namespace Go.Wf
open Go
variable{a:GExpr}
theorem q11:Rat.divInt 1 1=1:=d
theorem q01:Rat.divInt 0 1=0:=d
theorem rK(q:Rat):(ofQ q).num.mag.length≤uq q∧(ofQ q).den.mag.length≤uq q:=by
 constructor
 ·exact Nat.le_max_left _ _
 ·exact Nat.le_max_right _ _
theorem lY:(ofQ 1).num.mag.length≤1∧(ofQ 1).den.mag.length≤1:=d
theorem uJ(h:NF a)(d:a.op=11):0<a.args.length:=by
 obtain⟨_,hp⟩:=h.top.prod d;rcases hp with ⟨_,_,_,g,k⟩|⟨k,_⟩
 ·rcases VE a.args.length with b|b
  ·rw[TD b] at g;exact absurd ϱ g
  ·exact b
 ·omega
theorem PG:∀n:Nat,∀a:GExpr,SizeOf.sizeOf a<n→∀ {T k:Nat},NF a→Lwe a→dgE a≤T→Wd k a→T≤268435456→k≤100000→Sz a:=by
 intro n
 induction n with
 |zero=>intro a h;exact absurd h (TC _)
 |succ n ih=>
  intro a hs T k hn hl hd hw hT hk;obtain⟨l1,l2⟩:=Ya.1 hl;have hc:a.c.num.mag.length≤268435456∧a.c.den.mag.length≤268435456:=by
   rw[←l1];unfold lowC;split
   ·rename_i b
    have:=rK a.c.q
    rw[Xd,if_pos b] at hd;omega
   ·exact⟨Tv _,Tv _⟩
  refine⟨hw.nl,hc.1,hc.2,Tj hw.len hk,hw.nm,fun x hx=>?_⟩
  have b:a.op≠1:=fun b=>by
   rw[hn.top.num b] at hx;simp[nbE,GExpr.args] at hx
  exact ih x (by
   have:=List.sizeOf_lt_of_mem hx
   cases a;simp[GExpr.args] at hs this;omega) (hn.arg x hx) (l2 x hx) (Tj (Vc b hx) hd) (hw.arg x hx) hT hk
theorem NF.sz{T k:Nat}(hn:NF a)(hl:Lwe a)(hd:dgE a≤T)(hw:Wd k a)(hT:T≤268435456)(hk:k≤100000):Sz a:=PG _ a (VM _) hn hl hd hw hT hk
theorem Gm{op:Int}{l:List GExpr}(h:SzL l){y:GExpr}(hy:y∈flE op l):Sz y:=by
 obtain⟨a,ha,hh⟩:=vB hy;rcases hh with ⟨_,b⟩|⟨_,rfl⟩
 ·exact(h.2 a ha).arg b
 ·exact h.2 _ ha
theorem Nd(h:NF a)(hs:Sz a):PSz (paA a):=by
 by_cases d:a.op=1
 ·rw[qy d];exact⟨(Qi.1 hs).2.1,(Qi.1 hs).2.2.1,Tv _,fun x hx=>by cases hx⟩
 ·by_cases b:a.op=11
  ·by_cases hh:(hdE a).op=1
   ·rw[nD b hh];have g:=nF hs (uJ h b);refine⟨(Qi.1 g).2.1,(Qi.1 g).2.2.1,?_,fun x hx=>hs.arg (List.mem_of_mem_drop hx)⟩
    have:=(Qi.1 hs).2.2.2.1
    show(a.args.drop 1).length≤_
    rw[Tn];omega
   ·rw[nO b hh];exact⟨Tj lY.1 δ,Tj lY.2 δ,hs.args⟩
  ·rw[qx d b];exact⟨Tj lY.1 δ,Tj lY.2 δ,by show 1≤100000;decide,fun x hx=>by rw[Z4 hx];exact hs⟩
structure AddP (l:List GExpr):Prop where
 nf:∀a∈l,NF a∧Lwe a
 sz:SzL l
 fl:(flE 10 l).length≤100000
 wt:∀q,sumN (wtA q) ((flE 10 l).map paA)≤210000000
theorem vz{α β:Type}[Inhabited α]{f:α→β}{F:List α}{p:List β}{i:Nat}{q:β}(hp:p=(F.take i).map f)(hi:i<F.length)(e:f (F.getD i Δ)=q):p++[q]=(F.take (i+1)).map f:=by
 rw[hp,←e,UZ,Tq,Tt hi,UK]
 rfl
theorem Au{α β:Type}{f:α→β}{F:List α}{p:List β}{i:Nat}(hp:p=(F.take i).map f)(hi:F.length≤i):p=F.map f:=by rw[hp,TE hi]
section
variable {α:Type} {f:α→α→Int} {ad:α→α→α} {re:α→List GExpr}
theorem uy:∀(n m:Nat) (l:List α),l.length≤n→l.length≤m→mrg f ad n l=mrg f ad m l
 |0,0,_,_,_=>rfl
 |0,m+1,[],_,_=>rfl
 |0,m+1,_::_,h,_=>by simp at h
 |n+1,0,[],_,_=>rfl
 |n+1,0,_::_,_,h=>by simp at h
 |n+1,m+1,[],_,_=>rfl
 |n+1,m+1,p::l,a,b=>by
  rw[mrg,mrg]
  have:=(Q5 (f:=f) (ad:=ad) l p).length_le
  simp at a b;rw[uy n m _ o o]
def mrO(f:α→α→Int)(ad:α→α→α)(re:α→List GExpr)(l:List α):List GExpr:=(mrg f ad l.length l).flatMap re
theorem HX:mrO f ad re []=[]:=rfl
theorem CX{p:α}{l:List α}:mrO f ad re (p::l)=re (absb f ad p l).1++mrO f ad re (absb f ad p l).2:=by
 unfold mrO;rw[Td,mrg,List.flatMap_cons,uy _ _ _ (Q5 (f:=f) (ad:=ad) l p).length_le (Tu _)]
variable {ps:List α} {out:List GExpr} {i j:Nat} {p0 q:α} {r:List α}
theorem rA(hO:mrO f ad re ps=out++mrO f ad re (ps.drop i))(hi:ps.length≤i):mrO f ad re ps=out:=by
 rw[hO,TI hi,HX,TT]
variable [Inhabited α]
theorem zc(h:j<ps.length):ps.drop j=ps.getD j Δ::ps.drop (j+1):=by
 rw[Tq,Tt h];exact Uu h
theorem qW(hA:absb f ad p0 r=absb f ad q (ps.drop j))(hj:j<ps.length)(h:f q (ps.getD j Δ)=0):absb f ad p0 r=absb f ad (ad q (ps.getD j Δ)) (ps.drop (j+1)):=by
 rw[hA,zc hj,absb,if_pos h]
theorem BK(h:ps.length≤j∨¬f q (ps.getD j Δ)=0):absb f ad q (ps.drop j)=(q,ps.drop j):=by
 by_cases hj:j<ps.length
 ·rw[zc hj,absb,if_neg (h.resolve_left o)]
 ·rw[TI o,absb]
theorem Xg(hO:mrO f ad re ps=out++mrO f ad re (ps.drop i))(hi:i<ps.length)(hA:absb f ad (ps.getD i Δ) (ps.drop (i+1))=absb f ad q (ps.drop j))(hx:ps.length≤j∨¬f q (ps.getD j Δ)=0){z:List GExpr}(hz:re q=z):
  mrO f ad re ps=(out++z)++mrO f ad re (ps.drop j):=by
 rw[hO,zc hi,CX,hA,BK hx,Tm,←hz]
theorem vo(hO:mrO f ad re ps=out++mrO f ad re (ps.drop i))(hi:i<ps.length)(hA:absb f ad (ps.getD i Δ) (ps.drop (i+1))=absb f ad q (ps.drop j))(hx:ps.length≤j∨¬f q (ps.getD j Δ)=0)(hz:re q=[]):
  mrO f ad re ps=out++mrO f ad re (ps.drop j):=by
 rw[Xg hO hi hA hx hz,TT]
end
section
variable {ps:List GPart} {T i j:Nat} {p0 q:GPart}
theorem HY:wtA p0 p0=wgA p0:=if_pos (by
 have:=Vb.anti p0 p0
 unfold Anti at this;omega)
theorem DE(h:∀p,sumN (wtA p) ps≤T)(hi:i<ps.length):wgA (ps.getD i Δ)+sumN (wtA (ps.getD i Δ)) (ps.drop (i+1))≤T:=by
 have b:=h (ps.getD i Δ);have a:=oe (wtA (ps.getD i Δ)) (List.drop_sublist i ps);rw[zc hi,sumN,HY] at a;omega
theorem wX(hw:wgA q+sumN (wtA p0) (ps.drop j)≤T)(hj:j<ps.length)(hr:q.rest=p0.rest)(h:cmpA q (ps.getD j Δ)=0):wgA (adA q (ps.getD j Δ))+sumN (wtA p0) (ps.drop (j+1))≤T:=by
 rw[zc hj,sumN] at hw;have a:wtA p0 (ps.getD j Δ)=wgA (ps.getD j Δ):=if_pos (by unfold cmpA at h ⊢;rw[←hr];exact h);have b:uq (adA q (ps.getD j Δ)).c.q≤uq q.c.q+uq (ps.getD j Δ).c.q+1:=by
  show uq (ofQ (q.c.q+(ps.getD j Δ).c.q)).q≤_;rw[J9];exact EY _ _
 have d:wgA (adA q (ps.getD j Δ))=uq (adA q (ps.getD j Δ)).c.q+1+dgL q.rest:=rfl;unfold wgA at *;omega
theorem I7{q:GPart}{c:Rat}{s:Nat}(h:wgA q+s≤T)(e:q.c.q=c):uq c≤T:=by
 unfold wgA at h;rw[e] at h;omega
theorem Iw{l:List GExpr}{p:List GPart}(hT:∀q,sumN (wtA q) ((flE 10 l).map paA)≤T)(hp:p=(flE 10 l).map paA)(h:ps.Perm p)(q:GPart):sumN (wtA q) ps≤T:=by
 rw[qJ _ h,hp];exact hT q
end
theorem mI{q:Rat}(h:Xr q=0):q=0:=by
 unfold Xr at h;exact Rat.num_eq_zero.1 (Uj.1 h)
theorem qk{q:Rat}(h:¬Xr q=0):¬q=0:=fun e=>h P'
theorem sF{l:List GExpr}(h:l.length=0):l=[]:=TD h
theorem nT{l:List GExpr}(h:¬l.length=0):¬l=[]:=fun e=>h P'
section
variable {c:GRat} {e:Int} {r:List GExpr}
theorem MB(h:c.q=0):reA ⟨c,e,r⟩=[]:=by unfold reA;rw[if_pos h]
theorem NE(h:¬c.q=0)(a:r=[]):reA ⟨c,e,r⟩=[nbE c.q]:=by unfold reA;rw[if_neg h,if_pos a]
theorem M9(h:¬c.q=0)(a:¬r=[])(b:c.q=1):reA ⟨c,e,r⟩=[sevE 11 r]:=by unfold reA;rw[if_neg h,if_neg a,if_pos b]
theorem M5(h:¬c.q=0)(a:¬r=[])(b:¬c.q=1):reA ⟨c,e,r⟩=[opE 11 (nbE c.q::r)]:=by unfold reA;rw[if_neg h,if_neg a,if_neg b]
end
section
variable {l out:List GExpr} {p ps:List GPart}
theorem Dr(hp:p=(flE 10 l).map paA)(h:ps.Perm p∧Srt cmpA ps)(hO:mrO cmpA adA reA ps=out)(a:out.length=0):AddR l (nbE (Rat.divInt 0 1)):=
 ⟨ps,hp▸h.1,h.2,by
  have e:(mrg cmpA adA ps.length ps).flatMap reA=out:=hO;rw[e,sF a,q01];rfl⟩
theorem Dn(hp:p=(flE 10 l).map paA)(h:ps.Perm p∧Srt cmpA ps)(hO:mrO cmpA adA reA ps=out)(b:¬out.length=0):AddR l (sevE 10 out):=
 ⟨ps,hp▸h.1,h.2,by
  have e:(mrg cmpA adA ps.length ps).flatMap reA=out:=hO;rw[e]
  match out,b with
  |a::o,_=>rfl⟩
end
theorem Xq{l:List GPart}{i:Nat}(h:i<l.length):l.getD i Δ∈l:=by
 rw[Tq,Tt h];exact List.getElem_mem h
theorem w6{F:List GExpr}{p:List GPart}(hp:p=F.map paA)(h:∀a∈F,NF a∧Sz a):∀q∈p,PSz q:=fun q hq=>by
 rw[hp] at hq;obtain⟨a,ha,rfl⟩:=UR.1 hq;exact Nd (h a ha).1 (h a ha).2
end Go.Wf
namespace Go.Wf
open Go Go.RowKit
structure RCu (X0:Nat→Prop) (w0:Bs) (s:Gh) (w:World) (s':Gh) (w':World):Prop where
 cx:Cx X0 w0 s'.1 s'.2 w'
 sp:Sp s.1 s.2 w s'.1 s'.2 w' Zl
 up:∀b,s.1 b→s'.1 b
section
variable {X0:Nat→Prop} {w0:Bs}
theorem RCu.trans:∀(s:Gh) (a:World) (t:Gh) (b:World) (u:Gh) (c:World),RCu X0 w0 s a t b→RCu X0 w0 t b u c→RCu X0 w0 s a u c:=
 fun _ _ _ _ _ _ h k=>⟨k.cx,h.sp.trans k.sp,fun b q=>k.up b (h.up b q)⟩
theorem RCu.draw{x y:Nat→Prop}{w:World}(C:Cx X0 w0 x y w):RCu X0 w0 (x,y) w (x,y) w.drew:=
 let h:=RB C;⟨h.cx,h.sp,fun _ q=>q⟩
theorem RCu.same{s:Gh}{w:World}(C:Cx X0 w0 s.1 s.2 w):RCu X0 w0 s w s w:=⟨C,Sp.refl,fun _ q=>q⟩
end
end Go.Wf
namespace Go.Wf
open Go Go.Proofs Go.RowKit
set_option maxHeartbeats 8000000 in
theorem I6{X:Nat→Prop}{w:World}(hX:XB X w){v0:Value}{l:List GExpr}(r0:RS Jc X w v0 l)(kH:AddP l):CRt 95 #[v0] w fun v w'=>(∃m':GExpr,RV Jc X w' v m'∧(AddR l m')):=by
 obtain⟨a1,c2,rfl,_,_⟩:=r0.len;have C:=PV hX;obtain⟨hN,hS,hfl,hdT⟩:=kH;have hll:=hS.1;have bU:∀a∈flE 10 l,NF a∧Lwe a:=fun a ha=>⟨(CF hN ha).1,(CF hN ha).2.1⟩;have hNS:∀a∈flE 10 l,NF a∧Sz a:=fun a ha=>⟨(bU a ha).1,Gm hS ha⟩;refine Cgo Tryz.func95 ϱ ϱ ϱ (Rg<|Ol<|PU C io31 ϱ ?_);intro g3 _ _ _ _ C8 s9 ci;have r0:=r0.sp s9;refine Nl (Rg<|Ua<|Rh<|Ub<|PK C8 KW ϱ ϱ (D0 C8.bd r0 δ δ hfl hll) ?_);intro _ _ kJ fH E;have r0:=r0.sp fH;have ci:=ci.spn fH;obtain⟨fI,fJ,rfl,_,_⟩:=E.len;refine Ol (St.len sl29 rfl<|Om<|Nl<|W.block<|P7 (fun μ f v=>∃(x y:Nat→Prop) (i:Nat) (p:List GPart) (pa:Option Addr) (pc:Nat),Cx X w x y v∧f 2=(P10 g3 0)∧f 11=(.slice fI (flE 10 l).length fJ)∧f 12=(.int .i64 (flE 10 l).length)∧f 13=(.int .i64 i)∧f 3=(S12 pa p pc)∧RS Jc x v (.slice fI (flE 10 l).length fJ) (flE 10 l)∧OS Ji 144 w x y v (S12 pa p pc) p∧Own w y v g3 zX 31∧i≤(flE 10 l).length∧p=((flE 10 l).take i).map paA∧μ=((flE 10 l).length-i)) _ ⟨_,_,0,[],none,0,kJ,rfl,rfl,rfl,rfl,rfl,E,OS.nil,ci,(Tv _),rfl,rfl⟩ ?_);rintro _ _ _ ⟨_,_,i,p,pa,pc,cj,fK,fL,fM,fN,fO,E,hP,D,hi,hp,_⟩;obtain⟨_,rfl⟩:=rebK (aC fK<|aC fL<|aC fM<|aC fN<|aC fO aN);clear fK fL fM fN fO;have hpl:p.length=i:=by rw[hp,UG,To];omega
 refine Rg<|Ol<|P2 ϱ ϱ (fun fS=>?_)<|fun fS=>?_
 ·refine Nl (PT<|Ud<|PR<|PT<|W.block<|Rg<|Ol<|P4 (j:=i) (u:=((flE 10 l).getD i Δ)) E sl29 io31 ϱ ϱ ϱ (Je ω) ?_);intro _ _ _ fP;obtain⟨bs,bt,aj,ak,am,an,ao,aq,rfl,F⟩:=Jb fP.rd;refine Ol (QE (cs:=(ec ((flE 10 l).getD i Δ) bs bt aj ak am an ao aq)) ag31 ϱ ϱ fP.cell<|Ol<|QU cj io31 ϱ ?_);intro ck _ kK kL fT fQ bV kM kN;have kO:=fT _ D.blk.lt;have F:=F.sp bV;refine On (Us (cs':=(ec ((flE 10 l).getD i Δ) bs bt aj ak am an ao aq)) fQ kM io31 ?_);intro kP fR bW Q;have E:=(E.sp bV).sp bW;have hP:=(hP.sp bV fQ kN).sp bW fR (fun _ h=>h)
  have D:=(D.spn bV).spo bW kO;refine Nl<|PT<|Sc mixed 5 [[],[],[1],[0,2],[]] (kK,kL) (RCu X w) [fr Y6<|YU,fx<|ea ((flE 10 l).getD i Δ) bs bt aj ak am an ao aq,fun(s:Gh) (v:Value) (w':World)=>∃g':Nat,v= .slice (some ⟨g',0,none⟩) 1 1∧RS Jc s.1 w' v [((flE 10 l).getD i Δ)],fr Ji (⟨YU,0,[((flE 10 l).getD i Δ)]⟩:GPart),fun(s:Gh) (v:Value) (w':World)=>∃g':Nat,v= .pointer (some ⟨g',0,none⟩)∧Own w s.2 w' g' [b13,n11,b13,n11,(.int .i64 0),n11] 144∧kP.heap.size≤g'] κ (RCu.draw fR) RCu.trans ⟨(fun _ _ _ _ _ h r=>RV.tr h r.sp.tx),sx,(fun _ _ _ _ _ ⟨g,e,h⟩ r=>⟨g,e,h.tr r.sp.tx⟩),(fun _ _ _ _ _ h r=>RV.tr h r.sp.tx),(fun _ _ _ _ _ ⟨g,e,o,l⟩ r=>⟨g,e,o.spn r.sp,l⟩),trivial⟩ fun kQ aX _ cm aY=>?_
  have aZ:=cm.cx;have a9:=cm.sp;have fU:=D.blk.lt;have fV:=Q.blk.lt;have cn:=a9.tx.size;have F:=(F.sp bW).sp a9;have Q:=Q.spn a9;have aY:Keep [17,18,19,20,6] _ kQ:=aY;refine⟨⟨fun _=>?_,fun _=>?_,fun⟨kR,_⟩=>?_,fun⟨fW,fX,_⟩=>?_,fun _=>?_,trivial⟩,fun⟨fY,fZ,f0,f1,f2,_⟩=>?_⟩
  ·refine Sd0 aY fun _=>PK aZ oA ϱ ϱ (oK aZ.bd δ δ) ?_;intro _ _ f3 f4 f5;exact⟨aX,⟨f3,f4,fun _ h=>h⟩,f5⟩
  ·exact Sd0 aY fun _=>QC (vs:=(ec ((flE 10 l).getD i Δ) bs bt aj ak am an ao aq)) Q ag31 ϱ ϱ ϱ ⟨aX,RCu.same aZ,rfl⟩
  ·refine Sd1 aY kR fun _=>P5 (T:=Jc) (css:=[(ec ((flE 10 l).getD i Δ) bs bt aj ak am an ao aq)]) (l:=[((flE 10 l).getD i Δ)]) aZ sl29 io31 δ δ ϱ κ ⟨(Ju ((flE 10 l).getD i Δ) F.lo F.hi F.name F.n F.num F.den F.args),trivial⟩ ?_;intro _ _ f6 f7 f8;exact⟨aX,⟨f6,f7,fun _ h=>h⟩,⟨_,rfl,f8⟩⟩
  ·obtain⟨f9,ga,gb,gc,gd,gf,gg⟩:=ST fW;obtain⟨gi,co,cp⟩:=fX;rw[co] at cp;exact Jf aY (aC gd<|aC co aN) fun _=>P1<|PX (cs:=[(.bool YU.num.neg),(S12 f9 YU.num.mag ga),(.bool YU.den.neg),(S12 gb YU.den.mag gc),(.int .i64 0),(.slice (some ⟨gi,0,none⟩) 1 1)]) ϱ κ ⟨aX,RCu.same aZ,(Z2 ω ω gf gg cp)⟩
  ·refine Sd0 aY fun _=>QU aZ Zw ϱ ?_;intro gj _ gk gl dH gm gn gp gq;exact⟨(gk,gl),⟨gm,gn,gq⟩,gj,rfl,gp,VJ fun hh=>dH _ (Ti hh cn) ϱ⟩
  obtain⟨_,_,_,_,gr,_,_⟩:=ST fY;obtain⟨_,cq,gs⟩:=f0;rw[cq] at gs;obtain⟨aH,aI,aJ,aK,bv,bw,gt,bX,bY,aL,aM,bx⟩:=SU f1;obtain⟨cr,gu,gv,ct⟩:=f2;have ba:g3≠cr:=VV (Ti fU ct);have gw:ck≠cr:=VV (Ti fV ct);obtain⟨_,rfl⟩:=mixK aY (aC gr<|aC fZ<|aC cq<|aC gt<|aC gu aN);refine On (Us (cs':=[(.bool YU.num.neg),(S12 aH YU.num.mag aI),(.bool YU.den.neg),(S12 aJ YU.den.mag aK),(.int .i64 (0:Int)),(.slice bv [((flE 10 l).getD i Δ)].length bw)]) aZ gv Zw ?_);intro _ a3 ai aO;have E:=(E.sp a9).sp ai;have hP:=(hP.sp a9 aZ<|cm.up).sp ai a3 (fun _ h=>h)
  have F:=F.sp ai;have aL:=aL.sp ai;have aM:=aM.sp ai;have bx:=bx.sp ai;have D:=(D.spn a9).spo ai ba;have Q:=Q.spo ai gw;refine Nl<|PT<|W.block<|Rg<|Ol<|PJ Jw rfl<|Ol<|PO Q pl3 ϱ rfl<|Ol<|PW ϱ ϱ (fun dI=>?_)<|fun dI=>?_
  ·refine Oa (Nl<|Uk<|Ol<|PJ Yv rfl<|Ol<|Uo (vs:=(qqC (((flE 10 l).getD i Δ).c) aj ak am an)) Q ag28<|Ol<|PX (cs:=[(.bool ((flE 10 l).getD i Δ).c.num.neg),(S12 aj ((flE 10 l).getD i Δ).c.num.mag ak),(.bool ((flE 10 l).getD i Δ).c.den.neg),(S12 am ((flE 10 l).getD i Δ).c.den.mag an),(.int .i64 0),n11]) ϱ κ ?_);refine On (Us (cs':=[(.bool ((flE 10 l).getD i Δ).c.num.neg),(S12 aj ((flE 10 l).getD i Δ).c.num.mag ak),(.bool ((flE 10 l).getD i Δ).c.den.neg),(S12 am ((flE 10 l).getD i Δ).c.den.mag an),(.int .i64 0),n11]) a3 aO Zw ?_);intro _ cu bb gx;have E:=E.sp bb;have F:=F.sp bb;refine Nl (PN<|Ub<|Uo (vs:=[(.bool ((flE 10 l).getD i Δ).c.num.neg),(S12 aj ((flE 10 l).getD i Δ).c.num.mag ak),(.bool ((flE 10 l).getD i Δ).c.den.neg),(S12 am ((flE 10 l).getD i Δ).c.den.mag an),(.int .i64 0),n11]) gx X8<|Ol<|P5 (T:=Ji) (css:=[[(.bool ((flE 10 l).getD i Δ).c.num.neg),(S12 aj ((flE 10 l).getD i Δ).c.num.mag ak),(.bool ((flE 10 l).getD i Δ).c.den.neg),(S12 am ((flE 10 l).getD i Δ).c.den.mag an),(.int .i64 0),n11]]) (l:=[(⟨((flE 10 l).getD i Δ).c,0,[]⟩:GPart)]) cu Yb Zw δ δ ϱ κ ⟨(⟨_,_,_,rfl,j',j',F.num,F.den,RS.nil⟩),trivial⟩ ?_);intro _ _ cv bz gy;have hP:=(hP.sp bb cu<|fun _ h=>h).sp bz cv (fun _ h=>h)
   have D:=(D.spo bb ba).spn bz;refine Ol (P8 (T:=Ji) cv Yb Zw ϱ ϱ hP (Z5 gy) ψ η ϱ ?_);intro _ _ _ gz cw _ cy;have E:=(E.sp bz).tr cw.tx;replace D:=D.ap cw D.mem;obtain⟨gA,gB,rfl,_,_⟩:=cy.len;refine Ua<|PN<|Ol<|St.add ϱ ϱ (Ja (a:=i) (b:=1) ω)<|Om<|Nl<|⟨_,ω,_,_,(i+1),(p++[(⟨((flE 10 l).getD i Δ).c,0,[]⟩:GPart)]),gA,gB,gz,rfl,rfl,rfl,rfl,rfl,E,cy,D,ω,(vz hp ω<|qy ω),rfl⟩
  refine Ua<|Ug<|Ol<|PJ Jw rfl<|Ol<|PO Q pl3 ϱ rfl<|Ol<|PW ϱ ϱ (fun dJ=>?_)<|fun dJ=>?_
  ·refine Om (OgD<|PJ J8 rfl<|OgD<|PO Q pl29 ϱ rfl<|OgD<|P4 (j:=0) (u:=((((flE 10 l).getD i Δ).args).getD 0 Δ)) F.args sl29 io31 ϱ ϱ ϱ (Je<|uJ (bU _<|Jp ω).1 ω) ?_);intro _ _ _ cz;obtain⟨_,_,_,_,_,_,_,_,rfl,_⟩:=Jb cz.rd;refine OgD<|PJ Jw rfl<|OgD<|P0 pl3 ϱ (cz.cell 0 _ ϱ)<|OgD<|PW ϱ ϱ (fun dK=>?_)<|fun dK=>?_
   ·refine OT<|Ua<|Ud<|Rb mixed 8 [[],[0],[1],[2],[3],[],[5],[6]] a3 [fx<|.pointer (some ⟨ck,7,none⟩),fx<|.slice ao ((flE 10 l).getD i Δ).args.length aq,uE aX.1 Jc<|(((flE 10 l).getD i Δ).args).getD 0 Δ,fun(s:Unit) (v:Value) (w':World)=>∃(b' o':Nat) (cs':List Value),v= .pointer (some ⟨b',o'+2,none⟩)∧ElAt Jc aX.1 w' b' o' cs' ((((flE 10 l).getD i Δ).args).getD 0 Δ),ur aX.1 Y6<|((((flE 10 l).getD i Δ).args).getD 0 Δ).c,fx<|.pointer (some ⟨ck,7,none⟩),fx<|.slice ao ((flE 10 l).getD i Δ).args.length aq,us aX.1 Jc<|((flE 10 l).getD i Δ).args.drop 1] κ ⟨sx,sx,tE,(fun _ _ _ _ _ ⟨b,o,cs,e,h⟩ r=>⟨b,o,cs,e,h.tr r.2.tx⟩),tr,sx,sx,ts,trivial⟩ fun gC _ U aP R=>?_
    have hP:=hP.sp aP U<|fun _ h=>h
    have F:=F.sp aP;have D:=D.spn aP;have Q:=Q.spn aP;have aO:=aO.spn aP;have R:Keep [40,41,42,43,44,45,46,47] _ gC:=R;refine⟨⟨fun _=>?_,fun⟨gD,_⟩=>?_,fun⟨gE,_⟩=>?_,fun⟨gF,_⟩=>?_,fun⟨gG,_⟩=>?_,fun _=>?_,fun⟨gH,_⟩=>?_,fun⟨gI,_⟩=>?_,trivial⟩,fun⟨gJ,gK,gL,gM,gN,gO,gP,a4,_⟩=>?_⟩
    ·exact Sd0 R fun _=>PJ J8 rfl<|⟨(),⟨U,Sp.refl⟩,rfl⟩
    ·exact Sd1 R gD fun _=>PO Q pl29 ϱ rfl<|⟨(),⟨U,Sp.refl⟩,rfl⟩
    ·refine Sd1 R gE fun _=>P4 (j:=0) (u:=((((flE 10 l).getD i Δ).args).getD 0 Δ)) F.args sl29 io31 ϱ ϱ ϱ (Je<|uJ (bU _<|Jp ω).1 ω) ?_;intro _ _ _ cE;obtain⟨_,_,_,_,_,_,_,_,rfl,_⟩:=Jb cE.rd;exact⟨(),⟨U,Sp.refl⟩,⟨_,_,_,rfl,cE⟩⟩
    ·obtain⟨_,_,_,gQ,cF⟩:=gF;obtain⟨_,_,_,_,_,_,_,_,rfl,_⟩:=Jb cF.rd;exact Sd1 R gQ fun _=>PJ Yv rfl<|⟨(),⟨U,Sp.refl⟩,⟨_,_,_,rfl,cF⟩⟩
    ·obtain⟨_,_,_,gR,cG⟩:=gG;obtain⟨_,_,gS,gT,gU,gV,_,_,rfl,cH⟩:=Jb cG.rd;exact Sd1 R gR fun _=>QE (cs:=(qqC (((((flE 10 l).getD i Δ).args).getD 0 Δ).c) gS gT gU gV)) ag28 ϱ ϱ (l9 cG.cell ϱ)<|⟨(),⟨U,Sp.refl⟩,(Jz cH.num cH.den)⟩
    ·exact Sd0 R fun _=>PJ J8 rfl<|⟨(),⟨U,Sp.refl⟩,rfl⟩
    ·exact Sd1 R gH fun _=>PO Q pl29 ϱ rfl<|⟨(),⟨U,Sp.refl⟩,rfl⟩
    ·refine Sd1 R gI fun _=>R2 (i:=1) F.args sl29 io31 ϱ ϱ ϱ (uJ (bU _<|Jp ω).1 ω) ?_;intro _ gW;exact⟨(),⟨U,Sp.refl⟩,gW⟩
    obtain⟨_,_,_,gX,gY⟩:=gL;obtain⟨_,_,_,_,_,_,_,_,rfl,_⟩:=Jb gY.rd;obtain⟨_,_,_,gZ,g0⟩:=gM;obtain⟨_,_,_,_,_,_,_,_,rfl,_⟩:=Jb g0.rd;obtain⟨bc,be,bf,bg,g1,bA,bB⟩:=ST gN;obtain⟨bh,bi,g2,a4⟩:=RS.opn a4;obtain⟨_,rfl⟩:=mixK R (aC gJ<|aC gK<|aC gX<|aC gZ<|aC g1<|aC gO<|aC gP<|aC g2 aN);refine Ol (PX (cs:=[(.bool (((((flE 10 l).getD i Δ).args).getD 0 Δ).c).num.neg),(.slice bc (((((flE 10 l).getD i Δ).args).getD 0 Δ).c).num.mag.length be),(.bool (((((flE 10 l).getD i Δ).args).getD 0 Δ).c).den.neg),(.slice bf (((((flE 10 l).getD i Δ).args).getD 0 Δ).c).den.mag.length bg),(.int .i64 0),(.slice bh (((flE 10 l).getD i Δ).args.drop 1).length bi)]) ϱ κ ?_);refine On (Us (cs':=[(.bool (((((flE 10 l).getD i Δ).args).getD 0 Δ).c).num.neg),(.slice bc (((((flE 10 l).getD i Δ).args).getD 0 Δ).c).num.mag.length be),(.bool (((((flE 10 l).getD i Δ).args).getD 0 Δ).c).den.neg),(.slice bf (((((flE 10 l).getD i Δ).args).getD 0 Δ).c).den.mag.length bg),(.int .i64 0),(.slice bh (((flE 10 l).getD i Δ).args.drop 1).length bi)]) U aO Zw ?_);intro _ cI aQ g4;have E:=(E.sp aP).sp aQ;have bA:=bA.sp aQ;have bB:=bB.sp aQ;have a4:=a4.sp aQ;refine Nl (PN<|Ub<|Uo (vs:=[(.bool (((((flE 10 l).getD i Δ).args).getD 0 Δ).c).num.neg),(.slice bc (((((flE 10 l).getD i Δ).args).getD 0 Δ).c).num.mag.length be),(.bool (((((flE 10 l).getD i Δ).args).getD 0 Δ).c).den.neg),(.slice bf (((((flE 10 l).getD i Δ).args).getD 0 Δ).c).den.mag.length bg),(.int .i64 0),(.slice bh (((flE 10 l).getD i Δ).args.drop 1).length bi)]) g4 X8 ?_);refine Ol (P5 (T:=Ji) (css:=[[(.bool (((((flE 10 l).getD i Δ).args).getD 0 Δ).c).num.neg),(.slice bc (((((flE 10 l).getD i Δ).args).getD 0 Δ).c).num.mag.length be),(.bool (((((flE 10 l).getD i Δ).args).getD 0 Δ).c).den.neg),(.slice bf (((((flE 10 l).getD i Δ).args).getD 0 Δ).c).den.mag.length bg),(.int .i64 0),(.slice bh (((flE 10 l).getD i Δ).args.drop 1).length bi)]]) (l:=[(⟨(((((flE 10 l).getD i Δ).args).getD 0 Δ).c),0,(((flE 10 l).getD i Δ).args.drop 1)⟩:GPart)]) cI Yb Zw δ δ ϱ κ ⟨(⟨_,_,_,rfl,j',j',bA,bB,a4⟩),trivial⟩ ?_);intro _ _ cJ bC g5;have hP:=(hP.sp aQ cI<|fun _ h=>h).sp bC cJ (fun _ h=>h)
    have D:=(D.spo aQ ba).spn bC;refine Ol (P8 (T:=Ji) cJ Yb Zw ϱ ϱ hP (Z5 g5) ψ η ϱ ?_);intro _ _ _ g6 cK _ cL;have E:=(E.sp bC).tr cK.tx;replace D:=D.ap cK D.mem;obtain⟨g7,g8,rfl,_,_⟩:=cL.len;refine Ua<|PN<|Ol<|St.add ϱ ϱ (Ja (a:=i) (b:=1) ω)<|Om<|Nl<|⟨_,ω,_,_,(i+1),(p++[(⟨(((((flE 10 l).getD i Δ).args).getD 0 Δ).c),0,(((flE 10 l).getD i Δ).args.drop 1)⟩:GPart)]),g7,g8,g6,rfl,rfl,rfl,rfl,rfl,E,cL,D,ω,(vz hp ω<|nD ω ω),rfl⟩
   refine OT (Ua<|Ug<|Ol<|PJ Jw rfl<|Ol<|PO Q pl3 ϱ rfl<|Ol<|QZ (t:=true) ϱ ϱ (decide_eq_true ω)<|Ua<|Uk<|Ol<|PJ J8 rfl<|Ol<|PO Q pl29 ϱ rfl<|Ol<|PJ Yf ϱ ?_);refine On (Us (cs':=[(.bool YU.num.neg),(S12 aH YU.num.mag aI),(.bool YU.den.neg),(S12 aJ YU.den.mag aK),(.int .i64 (0:Int)),(S12 ao ((flE 10 l).getD i Δ).args aq)]) a3 aO io29 ?_);intro _ cM aR g9;have E:=E.sp aR;have F:=F.sp aR;have aL:=aL.sp aR;have aM:=aM.sp aR;refine Nl (PN<|Ub<|Uo (vs:=[(.bool YU.num.neg),(S12 aH YU.num.mag aI),(.bool YU.den.neg),(S12 aJ YU.den.mag aK),(.int .i64 (0:Int)),(S12 ao ((flE 10 l).getD i Δ).args aq)]) g9 X8 ?_);refine Ol (P5 (T:=Ji) (css:=[[(.bool YU.num.neg),(S12 aH YU.num.mag aI),(.bool YU.den.neg),(S12 aJ YU.den.mag aK),(.int .i64 (0:Int)),(S12 ao ((flE 10 l).getD i Δ).args aq)]]) (l:=[(⟨⟨⟨YU.num.neg,YU.num.mag⟩,⟨YU.den.neg,YU.den.mag⟩⟩,(0:Int),((flE 10 l).getD i Δ).args⟩:GPart)]) cM Yb Zw δ δ ϱ κ ⟨(⟨_,_,_,rfl,bX,bY,aL,aM,F.args⟩),trivial⟩ ?_);intro _ _ cN bD hb;have hP:=(hP.sp aR cM<|fun _ h=>h).sp bD cN (fun _ h=>h)
   have D:=(D.spo aR ba).spn bD;refine Ol (P8 (T:=Ji) cN Yb Zw ϱ ϱ hP (Z5 hb) ψ η ϱ ?_);intro _ _ _ hc cO _ cP;have E:=(E.sp bD).tr cO.tx;replace D:=D.ap cO D.mem;obtain⟨he,hf,rfl,_,_⟩:=cP.len;refine Ua<|PN<|Ol<|St.add ϱ ϱ (Ja (a:=i) (b:=1) ω)<|Om<|Nl<|⟨_,ω,_,_,(i+1),(p++[(⟨⟨⟨YU.num.neg,YU.num.mag⟩,⟨YU.den.neg,YU.den.mag⟩⟩,(0:Int),((flE 10 l).getD i Δ).args⟩:GPart)]),he,hf,hc,rfl,rfl,rfl,rfl,rfl,E,cP,D,ω,(vz hp ω (by unfold YU;rw[q11];exact nO ω ω)),rfl⟩
  refine Om (Oz<|Oz<|Oz<|Oz<|Oz<|Oz<|OF<|Ua<|Ug<|Ol<|PJ Jw rfl<|Ol<|PO Q pl3 ϱ rfl<|Ol<|QZ (t:=false) ϱ ϱ (decide_eq_false ω)<|Oa ?_);refine Nl (Uc<|PN<|Ub<|Uo (vs:=[(.bool YU.num.neg),(S12 aH YU.num.mag aI),(.bool YU.den.neg),(S12 aJ YU.den.mag aK),(.int .i64 (0:Int)),(.slice bv [((flE 10 l).getD i Δ)].length bw)]) aO X8 ?_);refine Ol (P5 (T:=Ji) (css:=[[(.bool YU.num.neg),(S12 aH YU.num.mag aI),(.bool YU.den.neg),(S12 aJ YU.den.mag aK),(.int .i64 (0:Int)),(.slice bv [((flE 10 l).getD i Δ)].length bw)]]) (l:=[(⟨YU,0,[((flE 10 l).getD i Δ)]⟩:GPart)]) a3 Yb Zw δ δ ϱ κ ⟨(⟨_,_,_,rfl,bX,bY,aL,aM,bx⟩),trivial⟩ ?_);intro _ _ cQ bE hg;have hP:=hP.sp bE cQ<|fun _ h=>h
  have D:=D.spn bE;refine Ol (P8 (T:=Ji) cQ Yb Zw ϱ ϱ hP (Z5 hg) ψ η ϱ ?_);intro _ _ _ hj cR _ cS;have E:=(E.sp bE).tr cR.tx;replace D:=D.ap cR D.mem;obtain⟨hl,hm,rfl,_,_⟩:=cS.len;refine Ua<|PN<|Ol<|St.add ϱ ϱ (Ja (a:=i) (b:=1) ω)<|Om<|Nl<|⟨_,ω,_,_,(i+1),(p++[(⟨YU,0,[((flE 10 l).getD i Δ)]⟩:GPart)]),hl,hm,hj,rfl,rfl,rfl,rfl,rfl,E,cS,D,ω,(vz hp ω (by unfold YU;rw[q11];exact qx ω ω)),rfl⟩
 refine Nl (PT<|Ue<|QB<|Rg<|Ub<|Rf cj hP MC ϱ ϱ (zT cj.bd hP.ow (fun k hk=>(hP.mem k hk).1.1) ω Vb KJ (fun hX r0 r1 h0 h1=>D3 hX r0 r1 h0 h1)<|fun q hq=>w6 (Au hp ω) hNS q hq) ?_);intro _ _ d ho hr hs aG;replace D:=D.ap hr D.mem;refine Nl (PT ?_);have hpe:=Au hp ω;have htot:=Iw hdT hpe aG.1;have hpsl:=aG.1.length_eq;have hpsz:∀q∈d,PSz q:=fun q hq=>w6 hpe hNS q (aG.1.mem_iff.1 hq);obtain⟨_,ht,_,z⟩:=hs.freeze ho hX;refine PN (Ua<|Rh<|Ua<|W.block<|P7 (fun μ f v=>∃(x y:Nat→Prop) (i:Nat) (q:List GExpr) (qa:Option Addr) (qc:Nat),Cx X w x y v∧f 2=(P10 g3 0)∧f 3=(S12 pa p pc)∧f 8=(.int .i64 i)∧f 7=(S12 qa q qc)∧RS Ji x v (S12 pa p pc) d∧OS Jc 31 w x y v (S12 qa q qc) q∧Own w y v g3 zX 31∧i≤d.length∧q.length≤i∧mrO cmpA adA reA d=q++mrO cmpA adA reA (d.drop i)∧μ=(d.length-i)) _ ⟨_,_,0,[],none,0,ht,rfl,rfl,rfl,rfl,z,OS.nil,D,(Tv _),(Tv _),rfl,rfl⟩ ?_);rintro _ _ _ ⟨_,_,i,q,qa,qc,bj,cT,cU,cV,cW,z,hQ,V,hi,_,hO,_⟩;obtain⟨_,rfl⟩:=rebK (aC cT<|aC cU<|aC cV<|aC cW aN);clear cT cU cV cW;refine Rh<|Om<|Ub<|St.len Yb rfl<|Ol<|P2 ϱ ϱ (fun dL=>?_)<|fun dL=>?_
 ·refine Nl (Ud<|PR<|W.block<|Rg<|Om<|Ub<|P4 (j:=i) (u:=(d.getD i Δ)) z Yb Zw ϱ ϱ ϱ (Je ω) ?_);intro _ _ _ cX;obtain⟨bF,bG,bH,bI,ab,ac,rfl,dM,dN,bJ,bK,B⟩:=J3 cX.rd;refine Ol (QE (cs:=[(.bool (d.getD i Δ).c.num.neg),(S12 bF (d.getD i Δ).c.num.mag bG),(.bool (d.getD i Δ).c.den.neg),(S12 bH (d.getD i Δ).c.den.mag bI),(.int .i64 (d.getD i Δ).exp),(S12 ab (d.getD i Δ).rest ac)]) X8 ϱ ϱ cX.cell<|Ol<|QU bj Zw ϱ ?_);intro ar _ _ _ dO cY aS hu hv;have cZ:=dO _ V.blk.lt;refine On (Us (cs':=[(.bool (d.getD i Δ).c.num.neg),(S12 bF (d.getD i Δ).c.num.mag bG),(.bool (d.getD i Δ).c.den.neg),(S12 bH (d.getD i Δ).c.den.mag bI),(.int .i64 (d.getD i Δ).exp),(S12 ab (d.getD i Δ).rest ac)]) cY hu Zw ?_);intro _ c0 aT hw;have z:=(z.sp aS).sp aT;have hQ:=(hQ.sp aS cY hv).sp aT c0 (fun _ h=>h)
  have bJ:=(bJ.sp aS).sp aT;have bK:=(bK.sp aS).sp aT;have B:=(B.sp aS).sp aT;have V:=(V.spn aS).spo aT cZ;refine Nl (PT<|PT ?_);have hpi:=hpsz _ (Xq (l:=d) (i:=i) ω);have hprl:=hpi.rest.1;refine PN (Ub<|St.add ϱ ϱ (Ja (a:=i) (b:=1) ω)<|Ua<|W.block<|P7 (fun μ f v=>∃(x y:Nat→Prop) (j:Nat) (c:GRat) (na:Option Addr) (nc:Nat) (da:Option Addr) (dc:Nat),Cx X w x y v∧f 2=(P10 g3 0)∧f 3=(S12 pa p pc)∧f 7=(S12 qa q qc)∧f 9=(P10 ar 0)∧f 8=(.int .i64 j)∧RS Ji x v (S12 pa p pc) d∧OS Jc 31 w x y v (S12 qa q qc) q∧RS Jc x v (S12 ab (d.getD i Δ).rest ac) (d.getD i Δ).rest∧RS Jh x v (S12 na c.num.mag nc) c.num.mag∧RS Jh x v (S12 da c.den.mag dc) c.den.mag∧Own w y v g3 zX 31∧Own w y v ar [(.bool c.num.neg),(S12 na c.num.mag nc),(.bool c.den.neg),(S12 da c.den.mag dc),(.int .i64 (d.getD i Δ).exp),(S12 ab (d.getD i Δ).rest ac)] 144∧(i+1≤j∧j≤d.length)∧absb cmpA adA (d.getD i Δ) (d.drop<|i+1)=absb cmpA adA ⟨c,(d.getD i Δ).exp,(d.getD i Δ).rest⟩ (d.drop j)∧wgA ⟨c,(d.getD i Δ).exp,(d.getD i Δ).rest⟩+sumN (wtA<|d.getD i Δ) (d.drop j)≤210000000∧(c.num.mag.length≤268435456∧c.den.mag.length≤268435456)∧μ=(d.length-j)) _ ⟨_,_,(i+1),(d.getD i Δ).c,bF,bG,bH,bI,c0,rfl,rfl,rfl,rfl,rfl,z,hQ,B,bJ,bK,V,hw,⟨Tu _,ω⟩,rfl,(DE htot ω),⟨hpi.num,hpi.den⟩,rfl⟩ ?_);rintro _ _ _ ⟨I,_,j,c,na,nc,da,dc,c1,c3,c4,c5,c6,c8,z,hQ,B,hn,hd,m,A,_,hA,hW,hcl,_⟩;obtain⟨_,rfl⟩:=rebK (aC c3<|aC c4<|aC c5<|aC c6<|aC c8 aN);clear c3 c4 c5 c6 c8;refine PT (PT ?_);by_cases hja:j<d.length
  ·refine Rb mixed 10 [[],[],[1],[0,2],[3],[4],[4],[4],[4,6,7],[4,8]] c1 [fx<|.int .i64 (j:Int),fx<|.slice pa p.length pc,fx<|.int .i64 (p.length:Int),fx<|.bool true,fx<|.bool true,fx<|.agg #[(.bool c.num.neg),(S12 na c.num.mag nc),(.bool c.den.neg),(S12 da c.den.mag dc),(.int .i64 (d.getD i Δ).exp),(S12 ab (d.getD i Δ).rest ac)],fx<|.slice pa p.length pc,fx<|.int .i64 (j:Int),uE I Ji<|d.getD j Δ,ur I Ji<|d.getD j Δ] κ ⟨sx,sx,sx,sx,sx,sx,sx,sx,tE,tr,trivial⟩ fun hx _ J au K=>?_
   have z:=z.sp au;have hQ:=hQ.sp au J<|fun _ h=>h
   have B:=B.sp au;have hn:=hn.sp au;have hd:=hd.sp au;have m:=m.spn au;have A:=A.spn au;have K:Keep [73,74,75,76,77,78,79,80,81,82] _ hx:=K;refine⟨⟨fun _=>?_,fun _=>?_,fun⟨hy,_⟩=>?_,fun⟨hz,hB,_⟩=>?_,fun⟨hC,_⟩=>?_,fun⟨hD,_⟩=>?_,fun⟨hE,_⟩=>?_,fun⟨hF,_⟩=>?_,fun⟨hG,hH,hI,_⟩=>?_,fun⟨hJ,hK,_⟩=>?_,trivial⟩,fun⟨hL,hM,hR,hT,hU,hV,hY,hZ,h2,h3,_⟩=>?_⟩
   ·exact Sd0 K fun _=>PP<|⟨(),⟨J,Sp.refl⟩,rfl⟩
   ·exact Sd0 K fun _=>PP<|⟨(),⟨J,Sp.refl⟩,rfl⟩
   ·exact Sd1 K hy fun _=>St.len Yb rfl<|⟨(),⟨J,Sp.refl⟩,rfl⟩
   ·exact Jf K (aC hz<|aC hB aN) fun _=>P1<|Rn (t:=true) ϱ ϱ (decide_eq_true ω)<|⟨(),⟨J,Sp.refl⟩,rfl⟩
   ·exact Sd1 K hC fun _=>PP<|⟨(),⟨J,Sp.refl⟩,rfl⟩
   ·exact Jf K (aC hD aN) fun _=>PY rfl<|Uo (vs:=[(.bool c.num.neg),(S12 na c.num.mag nc),(.bool c.den.neg),(S12 da c.den.mag dc),(.int .i64 (d.getD i Δ).exp),(S12 ab (d.getD i Δ).rest ac)]) A X8<|⟨(),⟨J,Sp.refl⟩,rfl⟩
   ·exact Jf K (aC hE aN) fun _=>PY rfl<|PP<|⟨(),⟨J,Sp.refl⟩,rfl⟩
   ·exact Jf K (aC hF aN) fun _=>PY rfl<|PP<|⟨(),⟨J,Sp.refl⟩,rfl⟩
   ·refine Jf K (aC hG<|aC hH<|aC hI aN) fun _=>PY ϱ (P4 (j:=j) (u:=(d.getD j Δ)) z Yb Zw ϱ ϱ ϱ (Je ω) ?_);intro _ _ _ c9;obtain⟨_,_,_,_,_,_,rfl,_,_,_,_,_⟩:=J3 c9.rd;exact⟨(),⟨J,Sp.refl⟩,⟨_,_,_,rfl,c9⟩⟩
   ·obtain⟨_,_,_,h4,dd⟩:=hK;obtain⟨h5,h6,h8,h9,ia,ib,rfl,dP,dQ,ic,id,ie⟩:=J3 dd.rd;exact Jf K (aC hJ<|aC h4 aN) fun _=>PY rfl<|QE (cs:=[(.bool (d.getD j Δ).c.num.neg),(S12 h5 (d.getD j Δ).c.num.mag h6),(.bool (d.getD j Δ).c.den.neg),(S12 h8 (d.getD j Δ).c.den.mag h9),(.int .i64 (d.getD j Δ).exp),(S12 ia (d.getD j Δ).rest ib)]) X8 ϱ ϱ dd.cell<|⟨(),⟨J,Sp.refl⟩,(Z2 dP dQ ic id ie)⟩
   obtain⟨_,_,_,ig,ih⟩:=h2;obtain⟨_,_,_,_,_,_,rfl,_,_,_,_,_⟩:=J3 ih.rd;obtain⟨_,_,_,_,_,_,ii,dR,dS,ij,ik,im⟩:=SU h3;obtain⟨_,rfl⟩:=mixK K (aC hL<|aC hM<|aC hR<|aC hT<|aC hU<|aC hV<|aC hY<|aC hZ<|aC ig<|aC ii aN);refine OgD (PK J KJ ϱ ϱ (D3 J.bd (a:=(⟨c,(d.getD i Δ).exp,(d.getD i Δ).rest⟩:GPart)) (Z2 dM dN hn hd B) (b:=(d.getD j Δ)) (Z2 dR dS ij ik im) ⟨hcl.1,hcl.2,hpi.rest⟩<|hpsz _<|Xq ω) ?_);intro _ _ a5 Y io;have B:=B.sp Y;have hn:=hn.sp Y;have hd:=hd.sp Y;have A:=A.spn Y;subst io;refine OgD<|PW ϱ ϱ (fun S=>?_)<|fun S=>?_
   ·refine OT (Nl<|Ud<|PR<|PT<|W.block ?_);have hpj:=hpsz _ (Xq (l:=d) (i:=j) ω);refine Rb mixed 7 [[],[0],[],[],[2,3],[4],[5]] a5 [fx<|.pointer (some ⟨ar,0,none⟩),fx<|.agg #[(.bool c.num.neg),(S12 na c.num.mag nc),(.bool c.den.neg),(S12 da c.den.mag dc)],fx<|.slice pa p.length pc,fx<|.int .i64 (j:Int),uE I Ji<|d.getD j Δ,uE I Ji<|d.getD j Δ,ur I Y6<|(d.getD j Δ).c] κ ⟨sx,sx,sx,sx,tE,tE,tr,trivial⟩ fun ip _ Z av aa=>?_
    have z:=(z.sp Y).sp av;have hQ:=(hQ.sp Y a5<|fun _ h=>h).sp av Z (fun _ h=>h)
    have B:=B.sp av;have hn:=hn.sp av;have hd:=hd.sp av;have m:=(m.spn Y).spn av;have A:=A.spn av;have aa:Keep [88,89,90,91,92,93,94] _ ip:=aa;refine⟨⟨fun _=>?_,fun⟨iq,_⟩=>?_,fun _=>?_,fun _=>?_,fun⟨ir,it,_⟩=>?_,fun⟨iu,_⟩=>?_,fun⟨iv,_⟩=>?_,trivial⟩,fun⟨iw,ix,iy,iz,iA,iB,iC,_⟩=>?_⟩
    ·exact Sd0 aa fun _=>PJ Qe rfl<|⟨(),⟨Z,Sp.refl⟩,rfl⟩
    ·exact Sd1 aa iq fun _=>Uo (vs:=(qqC c na nc da dc)) A ag28<|⟨(),⟨Z,Sp.refl⟩,rfl⟩
    ·exact Sd0 aa fun _=>PP<|⟨(),⟨Z,Sp.refl⟩,rfl⟩
    ·exact Sd0 aa fun _=>PP<|⟨(),⟨Z,Sp.refl⟩,rfl⟩
    ·refine Jf aa (aC ir<|aC it aN) fun _=>P1 (P4 (j:=j) (u:=(d.getD j Δ)) z Yb Zw ϱ ϱ ϱ (Je ω) ?_);intro _ _ _ de;obtain⟨_,_,_,_,_,_,rfl,_,_,_,_,_⟩:=J3 de.rd;exact⟨(),⟨Z,Sp.refl⟩,⟨_,_,_,rfl,de⟩⟩
    ·obtain⟨_,_,_,iD,df⟩:=iu;obtain⟨_,_,_,_,_,_,rfl,_,_,_,_,_⟩:=J3 df.rd;exact Sd1 aa iD fun _=>PJ Qe rfl<|⟨(),⟨Z,Sp.refl⟩,⟨_,_,_,rfl,df⟩⟩
    ·obtain⟨_,_,_,iE,dg⟩:=iv;obtain⟨iF,iG,iH,iI,_,_,rfl,_,_,iJ,iK,_⟩:=J3 dg.rd;exact Sd1 aa iE fun _=>QE (cs:=(qqC ((d.getD j Δ).c) iF iG iH iI)) ag28 ϱ ϱ (l9 (k:=0) dg.cell ϱ)<|⟨(),⟨Z,Sp.refl⟩,(Jz iJ iK)⟩
    obtain⟨_,_,_,iL,iM⟩:=iA;obtain⟨_,_,_,_,_,_,rfl,_,_,_,_,_⟩:=J3 iM.rd;obtain⟨_,_,_,iN,iO⟩:=iB;obtain⟨_,_,_,_,_,_,rfl,_,_,_,_,_⟩:=J3 iO.rd;obtain⟨_,_,_,_,iP,iQ,iR⟩:=ST iC;obtain⟨_,rfl⟩:=mixK aa (aC iw<|aC ix<|aC iy<|aC iz<|aC iL<|aC iN<|aC iP aN);refine Ol (PK Z I9 ϱ ϱ (D8 Z.bd (a:=c) (Jz hn hd) (b:=((d.getD j Δ).c)) (Jz iQ iR) ω ω (by have:=hpj.num;omega) (by have:=hpj.den;omega)) ?_);intro _ _ dh a6 iS;have A:=A.spn a6;obtain⟨di,dj,dk,dl,rfl,bL,bM⟩:=ST iS;refine Ol (PJ Qe rfl<|On<|Us (cs':=[(.bool (ofQ<|c.q+((d.getD j Δ).c).q).num.neg),(S12 di (ofQ<|c.q+((d.getD j Δ).c).q).num.mag dj),(.bool (ofQ<|c.q+((d.getD j Δ).c).q).den.neg),(S12 dk (ofQ<|c.q+((d.getD j Δ).c).q).den.mag dl),(.int .i64 (d.getD i Δ).exp),(S12 ab (d.getD i Δ).rest ac)]) dh A io28 ?_);intro _ dm aU iT;have z:=(z.sp a6).sp aU;have hQ:=(hQ.sp a6 dh<|fun _ h=>h).sp aU dm (fun _ h=>h)
    have B:=(B.sp a6).sp aU;have bL:=bL.sp aU;have bM:=bM.sp aU;have m:=(m.spn a6).spo aU cZ;refine Nl<|PN<|Ub<|St.add ϱ ϱ (Ja (a:=j) (b:=1) ω)<|Ua<|⟨_,ω,_,_,(j+1),(ofQ<|c.q+(d.getD j Δ).c.q),di,dj,dk,dl,dm,rfl,rfl,rfl,rfl,rfl,z,hQ,B,bL,bM,m,iT,ω,(qW (ad:=adA) (q:=(⟨c,(d.getD i Δ).exp,(d.getD i Δ).rest⟩:GPart)) hA ω S),(wX (q:=(⟨c,(d.getD i Δ).exp,(d.getD i Δ).rest⟩:GPart)) hW ω ϱ S),(by have:=rK (c.q+(d.getD j Δ).c.q);have:=I7 (wX (q:=(⟨c,(d.getD i Δ).exp,(d.getD i Δ).rest⟩:GPart)) hW ω ϱ S) (J9<|c.q+(d.getD j Δ).c.q);omega),rfl⟩
   refine OT (Nl<|Ue<|QB<|W.block<|Rg<|Ol<|PJ Qe rfl<|Ol<|Uo (vs:=(qqC c na nc da dc)) A ag28<|Ol<|PK a5 nh ϱ ϱ (Q8 a5.bd (a:=c) (Jz hn hd) ω ω) ?_);intro _ _ aV aw iU;have z:=(z.sp Y).sp aw;have hQ:=(hQ.sp Y a5<|fun _ h=>h).sp aw aV (fun _ h=>h)
   have hn:=hn.sp aw;have hd:=hd.sp aw;have m:=(m.spn Y).spn aw;have A:=A.spn aw;subst iU;refine Ol<|PW ϱ ϱ (fun dT=>?_)<|fun dT=>?_
   ·refine Ua<|Ud<|PR<|⟨_,ω,_,_,j,q,qa,qc,aV,rfl,rfl,rfl,rfl,z,hQ,m,ω,ω,(vo hO ω hA (.inr S)<|MB<|mI ω),rfl⟩
   refine Ua<|Ug<|Ol<|PJ Yf rfl<|Ol<|PO A pl29 ϱ rfl<|Ol<|St.len sl29 rfl<|Ol<|PW ϱ ϱ (fun dU=>?_)<|fun dU=>?_
   ·refine Oa (Nl<|Uk<|Ub<|PJ Qe rfl<|Ol<|Uo (vs:=(qqC c na nc da dc)) A ag28<|Ol<|PK aV cb93 ϱ ϱ (Ke aV.bd (c:=c) (Jz hn hd) ω ω) ?_);intro _ _ dn bN iV;have z:=z.sp bN;obtain⟨iW,iX,iY,iZ,i0,i1,i2,i3,rfl,ax⟩:=SR iV;refine Ol (P5 (T:=Jc) (css:=[(ec (nbE c.q) iW iX iY iZ i0 i1 i2 i3)]) (l:=[(nbE c.q)]) dn sl29 io31 δ δ ϱ κ ⟨(Ju (nbE c.q) ax.lo ax.hi ax.name ax.n ax.num ax.den ax.args),trivial⟩ ?_);intro _ _ dp bO i4;have hQ:=(hQ.sp bN dn<|fun _ h=>h).sp bO dp (fun _ h=>h)
    have m:=(m.spn bN).spn bO;refine Ol (P8 (T:=Jc) dp sl29 io31 ϱ ϱ hQ (Z5 i4) ψ η ϱ ?_);intro _ _ _ i5 dq _ dr;have z:=(z.sp bO).tr dq.tx;replace m:=m.ap dq m.mem;obtain⟨i6,i7,rfl,_,_⟩:=dr.len;refine Ua<|⟨_,ω,_,_,j,(q++[(nbE c.q)]),i6,i7,i5,rfl,rfl,rfl,rfl,z,dr,m,ω,η,(Xg hO ω hA (.inr S)<|NE (qk ω)<|sF ω),rfl⟩
   refine Oa (Nl<|Ug<|Ol<|PJ Qe rfl<|Ol<|Uo (vs:=(qqC c na nc da dc)) A ag28<|Ol<|QF<|PK aV Ib ϱ ϱ (BE aV.bd (c:=c) (Jz hn hd) hcl.1 hcl.2) ?_);intro _ _ bk ay i8;have z:=z.sp ay;have hQ:=hQ.sp ay bk<|fun _ h=>h
   have B:=(B.sp aw).sp ay;have m:=m.spn ay;have A:=A.spn ay;refine⟨_,i8,fun bl=>?_,fun bl=>?_⟩
   ·refine Oa (Nl<|Uk<|Ub<|PJ Yf rfl<|Ol<|PO A pl29 ϱ rfl<|Ol<|PK bk vK ϱ ϱ (Vm bk.bd B δ δ) ?_);intro _ _ ds bP i9;have z:=z.sp bP;obtain⟨ja,jb,jc,jd,je,jf,jg,jh,rfl,az⟩:=SR i9;refine Ol (P5 (T:=Jc) (css:=[(ec (sevE 11 (d.getD i Δ).rest) ja jb jc jd je jf jg jh)]) (l:=[(sevE 11 (d.getD i Δ).rest)]) ds sl29 io31 δ δ ϱ κ ⟨(Ju (sevE 11 (d.getD i Δ).rest) az.lo az.hi az.name az.n az.num az.den az.args),trivial⟩ ?_);intro _ _ dt bQ ji;have hQ:=(hQ.sp bP ds<|fun _ h=>h).sp bQ dt (fun _ h=>h)
    have m:=(m.spn bP).spn bQ;refine Ol (P8 (T:=Jc) dt sl29 io31 ϱ ϱ hQ (Z5 ji) ψ η ϱ ?_);intro _ _ _ jj du _ dv;have z:=(z.sp bQ).tr du.tx;replace m:=m.ap du m.mem;obtain⟨jk,jl,rfl,_,_⟩:=dv.len;refine Ua<|⟨_,ω,_,_,j,(q++[(sevE 11 (d.getD i Δ).rest)]),jk,jl,jj,rfl,rfl,rfl,rfl,z,dv,m,ω,η,(Xg hO ω hA (.inr S)<|M9 (qk ω) (nT ω)<|of_decide_eq_true bl),rfl⟩
   refine Ua<|Ue<|Rb mixed 10 [[],[],[1],[2],[3],[],[5],[4,6],[7],[8]] bk [fx<|.slice qa q.length qc,fx<|.pointer (some ⟨ar,0,none⟩),fx<|.agg #[(.bool c.num.neg),(S12 na c.num.mag nc),(.bool c.den.neg),(S12 da c.den.mag dc)],ur I Jc<|nbE c.q,fun(s:Unit) (v:Value) (w':World)=>∃g':Nat,v= .slice (some ⟨g',0,none⟩) 1 1∧RS Jc I w' v [(nbE c.q)],fx<|.pointer (some ⟨ar,5,none⟩),fx<|.slice ab (d.getD i Δ).rest.length ac,us I Jc<|[(nbE c.q)]++(d.getD i Δ).rest,fun(s:Unit) (v:Value) (w':World)=>∃(a7':Option Addr) (c7':Nat),v= .agg #[(.int .i64 11),n11,b13,n11,b13,n11,(str []),(.slice a7' ([(nbE c.q)]++(d.getD i Δ).rest).length c7')]∧RS Jc I w' (.slice a7' ([(nbE c.q)]++(d.getD i Δ).rest).length c7') ([(nbE c.q)]++(d.getD i Δ).rest),fun(s:Unit) (v:Value) (w':World)=>∃g':Nat,v= .slice (some ⟨g',0,none⟩) 1 1∧RS Jc I w' v [(.mk 11 [] YT [] ([(nbE c.q)]++(d.getD i Δ).rest))]] κ ⟨sx,sx,sx,tr,(fun _ _ _ _ _ ⟨g,e,h⟩ r=>⟨g,e,h.tr r.2.tx⟩),sx,sx,ts,(fun _ _ _ _ _ ⟨a7,c7,e,h7⟩ r=>⟨a7,c7,e,h7.tr r.2.tx⟩),(fun _ _ _ _ _ ⟨g,e,h⟩ r=>⟨g,e,h.tr r.2.tx⟩),trivial⟩ fun jp _ L aA M=>?_
   have hQ:=hQ.sp aA L<|fun _ h=>h
   have B:=B.sp aA;have hn:=(hn.sp ay).sp aA;have hd:=(hd.sp ay).sp aA;have m:=m.spn aA;have A:=A.spn aA;have M:Keep [97,98,99,100,101,102,103,104,105,106] _ jp:=M;refine⟨⟨fun _=>?_,fun _=>?_,fun⟨jq,_⟩=>?_,fun⟨jr,_⟩=>?_,fun⟨js,_⟩=>?_,fun _=>?_,fun⟨jt,_⟩=>?_,fun⟨ju,jv,_⟩=>?_,fun⟨bR,_⟩=>?_,fun⟨jw,_⟩=>?_,trivial⟩,fun⟨jx,jy,jz,jA,jB,jC,jD,dw,jE,jF,_⟩=>?_⟩
   ·exact Sd0 M fun _=>PP<|⟨(),⟨L,Sp.refl⟩,rfl⟩
   ·exact Sd0 M fun _=>PJ Qe rfl<|⟨(),⟨L,Sp.refl⟩,rfl⟩
   ·exact Sd1 M jq fun _=>Uo (vs:=(qqC c na nc da dc)) A ag28<|⟨(),⟨L,Sp.refl⟩,rfl⟩
   ·refine Sd1 M jr fun _=>PK L cb93 ϱ ϱ (Ke L.bd (c:=c) (Jz hn hd) ω ω) ?_;intro _ _ jG jH jI;exact⟨(),⟨jG,jH⟩,jI⟩
   ·obtain⟨jJ,jK,jL,jM,jN,jO,jP,jQ,jR,aB⟩:=SR js;refine Sd1 M jR fun _=>P5 (T:=Jc) (css:=[(ec (nbE c.q) jJ jK jL jM jN jO jP jQ)]) (l:=[(nbE c.q)]) L sl29 io31 δ δ ϱ κ ⟨(Ju (nbE c.q) aB.lo aB.hi aB.name aB.n aB.num aB.den aB.args),trivial⟩ ?_;intro _ _ jS jT jU;exact⟨(),⟨jS,jT⟩,⟨_,rfl,jU⟩⟩
   ·exact Sd0 M fun _=>PJ Yf rfl<|⟨(),⟨L,Sp.refl⟩,rfl⟩
   ·exact Sd1 M jt fun _=>PO A pl29 ϱ rfl<|⟨(),⟨L,Sp.refl⟩,rfl⟩
   ·obtain⟨_,dx,dy⟩:=ju;rw[dx] at dy;refine Jf M (aC dx<|aC jv aN) fun _=>P1 (Ri (T:=Jc) L sl29 io31 ϱ ϱ dy (Z5 B) ψ η ϱ ?_);intro _ _ jV jW jX;exact⟨(),⟨jV,jW⟩,jX⟩
   ·obtain⟨jY,jZ,j0,bR⟩:=RS.opn bR;exact Sd1 M j0 fun _=>PX (cs:=[(.int .i64 11),n11,b13,n11,b13,n11,(str []),(.slice jY ([(nbE c.q)]++(d.getD i Δ).rest).length jZ)]) ϱ κ<|⟨(),⟨L,Sp.refl⟩,⟨_,_,rfl,bR⟩⟩
   ·obtain⟨j1,j2,j3,j4⟩:=jw;refine Sd1 M j3 fun _=>P5 (T:=Jc) (css:=[[(.int .i64 11),n11,b13,n11,b13,n11,(str []),(.slice j1 ([(nbE c.q)]++(d.getD i Δ).rest).length j2)]]) (l:=[(.mk 11 [] YT [] ([(nbE c.q)]++(d.getD i Δ).rest))]) L sl29 io31 δ δ ϱ κ ⟨(Vg ω ω ξ RS.nil RS.nil RS.nil j4),trivial⟩ ?_;intro _ _ j5 j6 j7;exact⟨(),⟨j5,j6⟩,⟨_,rfl,j7⟩⟩
   obtain⟨_,_,_,_,_,_,_,_,j8,_⟩:=SR jA;obtain⟨_,dz,j9⟩:=jB;rw[dz] at j9;obtain⟨_,_,ka,dw⟩:=RS.opn dw;obtain⟨_,_,kb,_⟩:=jE;obtain⟨kc,dA,dB⟩:=jF;rw[dA] at dB;obtain⟨_,rfl⟩:=mixK M (aC jx<|aC jy<|aC jz<|aC j8<|aC dz<|aC jC<|aC jD<|aC ka<|aC kb<|aC dA aN);refine Ol (P8 (T:=Jc) (v:=(S12 qa q qc)) (u:=(.slice (some ⟨kc,0,none⟩) 1 1)) L sl29 io31 ϱ ϱ hQ (Z5 dB) ψ η ϱ ?_);intro _ _ _ kd dC _ dD;have z:=(z.sp aA).tr dC.tx;replace m:=m.ap dC m.mem;obtain⟨ke,kf,rfl,_,_⟩:=dD.len;refine Ua<|⟨_,ω,_,_,j,(q++[(.mk 11 [] YT [] ([(nbE c.q)]++(d.getD i Δ).rest))]),ke,kf,kd,rfl,rfl,rfl,rfl,z,dD,m,ω,η,(Xg hO ω hA (.inr S)<|M5 (qk ω) (nT ω)<|of_decide_eq_false bl),rfl⟩
  refine Rb mixed 10 [[],[],[1],[0,2],[3],[4],[4],[4],[4,6,7],[4,8]] c1 [fx<|.int .i64 (j:Int),fx<|.slice pa p.length pc,fx<|.int .i64 (p.length:Int),fx<|.bool false,fx<|.bool false,noG,noG,noG,noG,noG] κ ⟨sx,sx,sx,sx,sx,YV,YV,YV,YV,YV,trivial⟩ fun kg _ N aD P=>?_
  have B:=B.sp aD;have hn:=hn.sp aD;have hd:=hd.sp aD;have A:=A.spn aD;have P:Keep [73,74,75,76,77,78,79,80,81,82] _ kg:=P;refine⟨⟨fun _=>?_,fun _=>?_,fun⟨kh,_⟩=>?_,fun⟨ki,kj,_⟩=>?_,fun⟨kk,_⟩=>?_,fun⟨kl,_⟩=>?_,fun⟨km,_⟩=>?_,fun⟨kn,_⟩=>?_,fun⟨ko,_,_,_⟩=>?_,fun⟨kp,_,_⟩=>?_,trivial⟩,fun⟨kq,kr,ks,kt,ku,_,_,_,_,_,_⟩=>?_⟩
  ·exact Sd0 P fun _=>PP<|⟨(),⟨N,Sp.refl⟩,rfl⟩
  ·exact Sd0 P fun _=>PP<|⟨(),⟨N,Sp.refl⟩,rfl⟩
  ·exact Sd1 P kh fun _=>St.len Yb rfl<|⟨(),⟨N,Sp.refl⟩,rfl⟩
  ·exact Jf P (aC ki<|aC kj aN) fun _=>P1<|Rn (t:=false) ϱ ϱ (decide_eq_false ω)<|⟨(),⟨N,Sp.refl⟩,rfl⟩
  ·exact Sd1 P kk fun _=>PP<|⟨(),⟨N,Sp.refl⟩,rfl⟩
  ·exact Jf P (aC kl aN) fun _=>OpSt.opn ϱ ϱ ⟨(),⟨N,Sp.refl⟩,trivial⟩
  ·exact Jf P (aC km aN) fun _=>OpSt.opn ϱ ϱ ⟨(),⟨N,Sp.refl⟩,trivial⟩
  ·exact Jf P (aC kn aN) fun _=>OpSt.opn ϱ ϱ ⟨(),⟨N,Sp.refl⟩,trivial⟩
  ·exact Jf P (aC ko aN) fun _=>OpSt.opn ϱ ϱ ⟨(),⟨N,Sp.refl⟩,trivial⟩
  ·exact Jf P (aC kp aN) fun _=>OpSt.opn ϱ ϱ ⟨(),⟨N,Sp.refl⟩,trivial⟩
  obtain⟨_,rfl⟩:=mixK P (aC kq<|aC kr<|aC ks<|aC kt<|aC ku aN);refine Oz (Oz<|OF<|Nl<|Ue<|QB<|W.block<|Rg<|Ol<|PJ Qe rfl<|Ol<|Uo (vs:=(qqC c na nc da dc)) A ag28<|Ol<|PK N nh ϱ ϱ (Q8 N.bd (a:=c) (Jz hn hd) ω ω) ?_);intro _ _ aW aE kv;have z:=(z.sp aD).sp aE;have hQ:=(hQ.sp aD N<|fun _ h=>h).sp aE aW (fun _ h=>h)
  have hn:=hn.sp aE;have hd:=hd.sp aE;have m:=(m.spn aD).spn aE;have A:=A.spn aE;subst kv;refine Ol<|PW ϱ ϱ (fun dV=>?_)<|fun dV=>?_
  ·refine Ua<|Ud<|PR<|⟨_,ω,_,_,j,q,qa,qc,aW,rfl,rfl,rfl,rfl,z,hQ,m,ω,ω,(vo hO ω hA (.inl ω)<|MB<|mI ω),rfl⟩
  refine Ua<|Ug<|Ol<|PJ Yf rfl<|Ol<|PO A pl29 ϱ rfl<|Ol<|St.len sl29 rfl<|Ol<|PW ϱ ϱ (fun dW=>?_)<|fun dW=>?_
  ·refine Oa (Nl<|Uk<|Ub<|PJ Qe rfl<|Ol<|Uo (vs:=(qqC c na nc da dc)) A ag28<|Ol<|PK aW cb93 ϱ ϱ (Ke aW.bd (c:=c) (Jz hn hd) ω ω) ?_);intro _ _ dE bS kw;have z:=z.sp bS;obtain⟨kx,ky,kz,kA,kB,kC,kD,kE,rfl,aF⟩:=SR kw;refine Ol (P5 (T:=Jc) (css:=[(ec (nbE c.q) kx ky kz kA kB kC kD kE)]) (l:=[(nbE c.q)]) dE sl29 io31 δ δ ϱ κ ⟨(Ju (nbE c.q) aF.lo aF.hi aF.name aF.n aF.num aF.den aF.args),trivial⟩ ?_);intro _ _ dF bT kF;have hQ:=(hQ.sp bS dE<|fun _ h=>h).sp bT dF (fun _ h=>h)
   have m:=(m.spn bS).spn bT;refine Ol (P8 (T:=Jc) dF sl29 io31 ϱ ϱ hQ (Z5 kF) ψ η ϱ ?_);intro _ _ _ dX bZ _ b0;have z:=(z.sp bT).tr bZ.tx;replace m:=m.ap bZ m.mem;obtain⟨dY,dZ,rfl,_,_⟩:=b0.len;refine Ua<|⟨_,ω,_,_,j,(q++[(nbE c.q)]),dY,dZ,dX,rfl,rfl,rfl,rfl,z,b0,m,ω,η,(Xg hO ω hA (.inl ω)<|NE (qk ω)<|sF ω),rfl⟩
  refine Oa (Nl<|Ug<|Ol<|PJ Qe rfl<|Ol<|Uo (vs:=(qqC c na nc da dc)) A ag28<|Ol<|QF<|PK aW Ib ϱ ϱ (BE aW.bd (c:=c) (Jz hn hd) hcl.1 hcl.2) ?_);intro _ _ a0 ae d0;have z:=z.sp ae;have hQ:=hQ.sp ae a0<|fun _ h=>h
  have B:=(B.sp aE).sp ae;have m:=m.spn ae;have A:=A.spn ae;refine⟨_,d0,fun a8=>?_,fun a8=>?_⟩
  ·refine Oa (Nl<|Uk<|Ub<|PJ Yf rfl<|Ol<|PO A pl29 ϱ rfl<|Ol<|PK a0 vK ϱ ϱ (Vm a0.bd B δ δ) ?_);intro _ _ b1 bm d1;have z:=z.sp bm;obtain⟨d2,d3,d4,d5,d6,d7,d8,d9,rfl,af⟩:=SR d1;refine Ol (P5 (T:=Jc) (css:=[(ec (sevE 11 (d.getD i Δ).rest) d2 d3 d4 d5 d6 d7 d8 d9)]) (l:=[(sevE 11 (d.getD i Δ).rest)]) b1 sl29 io31 δ δ ϱ κ ⟨(Ju (sevE 11 (d.getD i Δ).rest) af.lo af.hi af.name af.n af.num af.den af.args),trivial⟩ ?_);intro _ _ b2 bn eb;have hQ:=(hQ.sp bm b1<|fun _ h=>h).sp bn b2 (fun _ h=>h)
   have m:=(m.spn bm).spn bn;refine Ol (P8 (T:=Jc) b2 sl29 io31 ϱ ϱ hQ (Z5 eb) ψ η ϱ ?_);intro _ _ _ ed b3 _ b4;have z:=(z.sp bn).tr b3.tx;replace m:=m.ap b3 m.mem;obtain⟨ee,ef,rfl,_,_⟩:=b4.len;refine Ua<|⟨_,ω,_,_,j,(q++[(sevE 11 (d.getD i Δ).rest)]),ee,ef,ed,rfl,rfl,rfl,rfl,z,b4,m,ω,η,(Xg hO ω hA (.inl ω)<|M9 (qk ω) (nT ω)<|of_decide_eq_true a8),rfl⟩
  refine Ua<|Ue<|Rb mixed 10 [[],[],[1],[2],[3],[],[5],[4,6],[7],[8]] a0 [fx<|.slice qa q.length qc,fx<|.pointer (some ⟨ar,0,none⟩),fx<|.agg #[(.bool c.num.neg),(S12 na c.num.mag nc),(.bool c.den.neg),(S12 da c.den.mag dc)],ur I Jc<|nbE c.q,fun(s:Unit) (v:Value) (w':World)=>∃g':Nat,v= .slice (some ⟨g',0,none⟩) 1 1∧RS Jc I w' v [(nbE c.q)],fx<|.pointer (some ⟨ar,5,none⟩),fx<|.slice ab (d.getD i Δ).rest.length ac,us I Jc<|[(nbE c.q)]++(d.getD i Δ).rest,fun(s:Unit) (v:Value) (w':World)=>∃(a7':Option Addr) (c7':Nat),v= .agg #[(.int .i64 11),n11,b13,n11,b13,n11,(str []),(.slice a7' ([(nbE c.q)]++(d.getD i Δ).rest).length c7')]∧RS Jc I w' (.slice a7' ([(nbE c.q)]++(d.getD i Δ).rest).length c7') ([(nbE c.q)]++(d.getD i Δ).rest),fun(s:Unit) (v:Value) (w':World)=>∃g':Nat,v= .slice (some ⟨g',0,none⟩) 1 1∧RS Jc I w' v [(.mk 11 [] YT [] ([(nbE c.q)]++(d.getD i Δ).rest))]] κ ⟨sx,sx,sx,tr,(fun _ _ _ _ _ ⟨g,e,h⟩ r=>⟨g,e,h.tr r.2.tx⟩),sx,sx,ts,(fun _ _ _ _ _ ⟨a7,c7,e,h7⟩ r=>⟨a7,c7,e,h7.tr r.2.tx⟩),(fun _ _ _ _ _ ⟨g,e,h⟩ r=>⟨g,e,h.tr r.2.tx⟩),trivial⟩ fun eg _ G ag H=>?_
  have hQ:=hQ.sp ag G<|fun _ h=>h
  have B:=B.sp ag;have hn:=(hn.sp ae).sp ag;have hd:=(hd.sp ae).sp ag;have m:=m.spn ag;have A:=A.spn ag;have H:Keep [97,98,99,100,101,102,103,104,105,106] _ eg:=H;refine⟨⟨fun _=>?_,fun _=>?_,fun⟨eh,_⟩=>?_,fun⟨ei,_⟩=>?_,fun⟨ej,_⟩=>?_,fun _=>?_,fun⟨ek,_⟩=>?_,fun⟨el,em,_⟩=>?_,fun⟨bo,_⟩=>?_,fun⟨en,_⟩=>?_,trivial⟩,fun⟨eo,ep,eq,er,es,et,eu,b5,ev,ew,_⟩=>?_⟩
  ·exact Sd0 H fun _=>PP<|⟨(),⟨G,Sp.refl⟩,rfl⟩
  ·exact Sd0 H fun _=>PJ Qe rfl<|⟨(),⟨G,Sp.refl⟩,rfl⟩
  ·exact Sd1 H eh fun _=>Uo (vs:=(qqC c na nc da dc)) A ag28<|⟨(),⟨G,Sp.refl⟩,rfl⟩
  ·refine Sd1 H ei fun _=>PK G cb93 ϱ ϱ (Ke G.bd (c:=c) (Jz hn hd) ω ω) ?_;intro _ _ ex ey ez;exact⟨(),⟨ex,ey⟩,ez⟩
  ·obtain⟨eA,eB,eC,eD,eE,eF,eG,eH,eI,ah⟩:=SR ej;refine Sd1 H eI fun _=>P5 (T:=Jc) (css:=[(ec (nbE c.q) eA eB eC eD eE eF eG eH)]) (l:=[(nbE c.q)]) G sl29 io31 δ δ ϱ κ ⟨(Ju (nbE c.q) ah.lo ah.hi ah.name ah.n ah.num ah.den ah.args),trivial⟩ ?_;intro _ _ eJ eK eL;exact⟨(),⟨eJ,eK⟩,⟨_,rfl,eL⟩⟩
  ·exact Sd0 H fun _=>PJ Yf rfl<|⟨(),⟨G,Sp.refl⟩,rfl⟩
  ·exact Sd1 H ek fun _=>PO A pl29 ϱ rfl<|⟨(),⟨G,Sp.refl⟩,rfl⟩
  ·obtain⟨_,b6,b7⟩:=el;rw[b6] at b7;refine Jf H (aC b6<|aC em aN) fun _=>P1 (Ri (T:=Jc) G sl29 io31 ϱ ϱ b7 (Z5 B) ψ η ϱ ?_);intro _ _ eM eN eO;exact⟨(),⟨eM,eN⟩,eO⟩
  ·obtain⟨eP,eQ,eR,bo⟩:=RS.opn bo;exact Sd1 H eR fun _=>PX (cs:=[(.int .i64 11),n11,b13,n11,b13,n11,(str []),(.slice eP ([(nbE c.q)]++(d.getD i Δ).rest).length eQ)]) ϱ κ<|⟨(),⟨G,Sp.refl⟩,⟨_,_,rfl,bo⟩⟩
  ·obtain⟨eS,eT,eU,eV⟩:=en;refine Sd1 H eU fun _=>P5 (T:=Jc) (css:=[[(.int .i64 11),n11,b13,n11,b13,n11,(str []),(.slice eS ([(nbE c.q)]++(d.getD i Δ).rest).length eT)]]) (l:=[(.mk 11 [] YT [] ([(nbE c.q)]++(d.getD i Δ).rest))]) G sl29 io31 δ δ ϱ κ ⟨(Vg ω ω ξ RS.nil RS.nil RS.nil eV),trivial⟩ ?_;intro _ _ eW eX eY;exact⟨(),⟨eW,eX⟩,⟨_,rfl,eY⟩⟩
  obtain⟨_,_,_,_,_,_,_,_,eZ,_⟩:=SR er;obtain⟨_,b8,e0⟩:=es;rw[b8] at e0;obtain⟨_,_,e1,b5⟩:=RS.opn b5;obtain⟨_,_,e2,_⟩:=ev;obtain⟨e3,b9,ca⟩:=ew;rw[b9] at ca;obtain⟨_,rfl⟩:=mixK H (aC eo<|aC ep<|aC eq<|aC eZ<|aC b8<|aC et<|aC eu<|aC e1<|aC e2<|aC b9 aN);refine Ol (P8 (T:=Jc) (v:=(S12 qa q qc)) (u:=(.slice (some ⟨e3,0,none⟩) 1 1)) G sl29 io31 ϱ ϱ hQ (Z5 ca) ψ η ϱ ?_);intro _ _ _ e4 cb _ cc;have z:=(z.sp ag).tr cb.tx;replace m:=m.ap cb m.mem;obtain⟨e5,e6,rfl,_,_⟩:=cc.len;refine Ua<|⟨_,ω,_,_,j,(q++[(.mk 11 [] YT [] ([(nbE c.q)]++(d.getD i Δ).rest))]),e5,e6,e4,rfl,rfl,rfl,rfl,z,cc,m,ω,η,(Xg hO ω hA (.inl ω)<|M5 (qk ω) (nT ω)<|of_decide_eq_false a8),rfl⟩
 refine Nl<|Ue<|QB<|Rh<|Ub<|St.len sl29 rfl<|Ol<|PW ϱ ϱ (fun dG=>?_)<|fun dG=>?_
 ·refine Nl (Uf<|Ol<|PK bj oA ϱ ϱ (oK bj.bd δ δ) ?_);intro _ _ cd e7 e8;obtain⟨_,_,_,_,rfl,e9,fa⟩:=ST e8;refine Ol (PK cd cb93 ϱ ϱ (Ke cd.bd (c:=(ofQ<|Rat.divInt 0 1)) (Jz e9 fa) δ δ) ?_);intro _ _ fb fc ce;have V:=(V.spn e7).spn fc;simp only[Jo,J9] at ce;obtain⟨fd,ff,fg,fh,fi,fj,fk,fl,rfl,bp⟩:=SR ce;refine On (Us (cs':=(ec (nbE<|Rat.divInt 0 1) fd ff fg fh fi fj fk fl)) fb V io31 ?_);intro _ cf fm fn;have bp:=bp.sp fm;exact Nl<|PS<|J1 ϱ ϱ fn ag31 cf ⟨(nbE<|Rat.divInt 0 1),(Mx (nbE<|Rat.divInt 0 1) bp).tr cf.wb,(Dr hpe aG (rA hO ω) ω)⟩
 refine Nl (Uc<|Rg<|Om ?_);obtain⟨_,cg,_,fo⟩:=hQ.freeze bj hX;refine Ol (PK cg vK ϱ ϱ (Vm cg.bd fo δ δ) ?_);intro _ _ fp fq ft;have V:=V.spn fq;obtain⟨fu,fv,fy,fz,fA,fB,fC,fD,rfl,bq⟩:=SR ft;refine On (Us (cs':=(ec (sevE 10 q) fu fv fy fz fA fB fC fD)) fp V io31 ?_);intro _ ch fF fG;have bq:=bq.sp fF;exact Nl<|PS<|J1 ϱ ϱ fG ag31 ch ⟨(sevE 10 q),(Mx (sevE 10 q) bq).tr ch.wb,(Dn hpe aG (rA hO ω) ω)⟩
end Go.Wf
namespace Go.Wf
open Go
variable{a:GExpr}
structure MulP (d:Nat) (l:List GExpr):Prop where
 nf:∀a∈l,NF a∧Lwe a
 sz:SzL l
 fl:(flE 11 l).length≤60000
 n1:nnE l+2*d≤200000002
 n2:∀g∈prM l,nnE l+dgE g+2*d≤200000002
 wd:∀g∈prM l,Wd 50000 g
 ex:∀g∈prM l,(-1000000≤(paM g).exp∧(paM g).exp≤1000000)∧∀b∈(paM g).rest,Bd b
 nd:d=0→∀out,OutM l out→¬ ∃s,out=[s]∧s.op=10
theorem wm{g:GExpr}(hb:Bd g):(-1000000≤(paM g).exp∧(paM g).exp≤1000000)∧∀b∈(paM g).rest,Bd b:=by
 unfold paM;by_cases h:g.op=12
 ·rw[if_pos h];have a: -200≤g.n.getD 0 0∧g.n.getD 0 0≤200:=by cases hb with|mk t k=>exact t h
  exact⟨⟨by show -1000000≤g.n.getD 0 0;omega,by show g.n.getD 0 0≤1000000;omega⟩,hb.arg⟩
 ·rw[if_neg h];exact⟨⟨by show(-1000000:Int)≤1;decide,by show(1:Int)≤1000000;decide⟩,fun b hb'=>by rw[Z4 hb'];exact hb⟩
def cfo(l:List GExpr):Rat:=l.foldl (fun c a=>if a.op=1 then c*a.c.q else c) 1
def pro(l:List GExpr):List GExpr:=l.filter fun a=> !decide (a.op=1)
section
variable {F:List GExpr} {i:Nat} {c:Rat} {p:List GPart} {q:GPart}
theorem me(hi:i<F.length):F.take (i+1)=F.take i++[F.getD i Δ]:=by
 rw[UZ,Tq,Tt hi];rfl
theorem ER(hc:c=cfo (F.take i))(hi:i<F.length)(h:(F.getD i Δ).op=1):c*(F.getD i Δ).c.q=cfo (F.take (i+1)):=by
 rw[hc,me hi];unfold cfo;rw[List.foldl_append,List.foldl_cons,List.foldl_nil,if_pos h]
theorem KH(hc:c=cfo (F.take i))(hi:i<F.length)(h:¬(F.getD i Δ).op=1):c=cfo (F.take (i+1)):=by
 rw[hc,me hi];unfold cfo;rw[List.foldl_append,List.foldl_cons,List.foldl_nil,if_neg h]
theorem MI(hp:p=(pro (F.take i)).map paM)(hi:i<F.length)(h:(F.getD i Δ).op=1):p=(pro (F.take (i+1))).map paM:=by
 rw[hp,me hi];unfold pro;rw[List.filter_append,List.filter_cons_of_neg (by rw[decide_eq_true h];decide),List.filter_nil,TT]
theorem MX(hp:p=(pro (F.take i)).map paM)(hi:i<F.length)(h:¬(F.getD i Δ).op=1)(e:paM (F.getD i Δ)=q):p++[q]=(pro (F.take (i+1))).map paM:=by
 rw[hp,me hi,←e];unfold pro;rw[List.filter_append,List.filter_cons_of_pos (by rw[decide_eq_false h];decide),List.filter_nil,UK];rfl
theorem ID(hp:p=(pro (F.take i)).map paM)(hi:i≤F.length):p.length≤i:=by
 rw[hp,UG]
 have:=List.length_filter_le (fun a:GExpr=> !decide (a.op=1)) (F.take i)
 rw[To] at this;unfold pro;omega
theorem HV:uq (cfo (F.take i))≤1+sumN wN F:=by
 have a:=Cb (F.take i) 1;have b:=oe wN (List.take_sublist i F);rw[nI] at a;exact Tj a o
end
theorem CA(h:a.op=12):paM a=⟨Y3,a.n.getD 0 0,a.args⟩:=by unfold paM;rw[if_pos h]
theorem Me(h:¬a.op=12):paM a=⟨Y3,1,[a]⟩:=by unfold paM;rw[if_neg h]
theorem rU(h:NF a)(b:a.op=12):0<a.n.length∧a.args.length=1:=by
 obtain⟨n,_,e,_⟩:=h.top.pow b;rw[e];exact⟨by show 0<1;decide,rfl⟩
def GM(p:GPart):Prop:=PSz p∧0<p.rest.length
structure GE (p:GPart):Prop where
 gm:GM p
 e1: -1000000≤p.exp
 e2:p.exp≤1000000
theorem OA(h:NF a)(hs:Sz a):GM (paM a):=by
 by_cases b:a.op=12
 ·rw[CA b];exact⟨⟨Tv _,Tv _,hs.args⟩,by show 0<a.args.length;rw[(rU h b).2];decide⟩
 ·rw[Me b];exact⟨⟨Tv _,Tv _,by show 1≤100000;decide,fun _ hx=>by rw[Z4 hx];exact hs⟩,by show 0<1;decide⟩
theorem rq{l:List GExpr}{g:GExpr}(h:g∈prM l):g∈flE 11 l∧¬g.op=1:=by
 unfold prM at h;rw[UN] at h;exact⟨h.1,by simpa using h.2⟩
theorem EL{d:Nat}{l:List GExpr}{p:List GPart}(hM:MulP d l)(hp:p=(prM l).map paM):∀q∈p,GE q:=fun q hq=>by
 rw[hp] at hq;obtain⟨g,hg,rfl⟩:=UR.1 hq;obtain⟨a,_⟩:=rq hg;exact⟨OA (V7 hM.nf a).1 (Gm hM.sz a),(hM.ex g hg).1.1,(hM.ex g hg).1.2⟩
section
variable {c:GRat} {e:Int} {r:List GExpr}
theorem MT(h:e=0):reM ⟨c,e,r⟩=[]:=by unfold reM;rw[if_pos h]
theorem Ni(h:e=1):reM ⟨c,e,r⟩=[r.getD 0 Δ]:=by unfold reM;rw[if_neg (by show ¬e=0;omega),if_pos h]
theorem KA(h:¬e=0)(a:¬e=1):reM ⟨c,e,r⟩=[pwE e r]:=by unfold reM;rw[if_neg h,if_neg a]
end
section
variable {d:Nat} {l out:List GExpr} {p ps:List GPart} {c:Rat}
theorem Lg(hp:p=(prM l).map paM)(h:ps.Perm p∧Srt cmpM ps)(hO:mrO cmpM adM reM ps=out):OutM l out:=⟨ps,hp▸h.1,h.2,hO.symm⟩
theorem zJ(ho:OutM l out)(hc:c=cfM l)(h:c=0∨out.length=0):MulR l (nbE c):=by
 subst hc;exact .num ho (h.imp_right TD)
theorem B7(ho:OutM l out)(hc:c=cfM l)(h:c=1)(a:¬out.length=0):MulR l (sevE 11 out):= .one ho (hc▸h) (nT a)
theorem uj(ho:OutM l out)(hc:c=cfM l)(h:¬c=0)(a:¬c=1)(b:¬out.length=0)(hs:¬(out.length=1∧(out.getD 0 Δ).op=10)):MulR l (opE 11 (nbE c::out)):=by
 subst hc;exact .prod ho h a (nT b) fun⟨_,e,k⟩=>hs (by subst e;exact⟨rfl,k⟩)
structure DisS (d:Nat) (l:List GExpr) (s:GExpr):Prop where
 nf:NF s
 lw:Lwe s
 bd:Bd s
 wd:Wd 50000 s
 dg:nnE l+dgE s+2*d≤200000002
 ds:0<d
theorem OO(hM:MulP d l)(ho:OutM l out)(j:out.length=1)(a:(out.getD 0 Δ).op=10):DisS d l (out.getD 0 Δ):=by
 match out,j with
 |[s],_=>
  have a:s.op=10:=a;show DisS d l s;obtain⟨k1,k2,_⟩:=(mB hM.nf ho).1 s χ;obtain⟨p,b,i1,i2,i3⟩:=(r4 hM.nf ho (I:=fun p=>∀b∈p.rest,Bd b∧Wd 50000 b∧nnE l+dgE b+2*d≤200000002) (fun g hg b hb=>by
   have hn:=(V7 hM.nf (rq hg).1).1;refine⟨(hM.ex g hg).2 b hb,?_,?_⟩
   ·unfold paM at hb;split at hb
    ·exact(hM.wd g hg).arg b hb
    ·rw[Z4 hb];exact hM.wd g hg
   ·have:=Ez hn
    have:=mD hb
    have:=hM.n2 g hg
    omega) fun p _ hp _=>hp).2 s χ
  obtain⟨k,m,v⟩:=i1 b (by rw[i2];simp);rcases i3 with rfl|⟨_,rfl⟩
  ·refine⟨k1,k2,k,m,v,?_⟩;rcases VE d with h|h
   ·exact absurd ⟨_,rfl,a⟩ (hM.nd h _ ho)
   ·exact h
  ·simp[pwE,GExpr.op] at a
variable {s:GExpr}
theorem E5{c:Rat}{t:GExpr}:nnE [nbE c,t]=uq c+1+sumN wN (tlE 11 t):=by
 have e1:flE 11 [nbE c,t]=nbE c::tlE 11 t:=by
  unfold flE;rw[List.flatMap_cons,List.flatMap_cons,List.flatMap_nil,TT];rfl
 unfold nnE;rw[e1,sumN]
 have:wN (nbE c)=uq c+1:=by unfold wN;rw[if_pos (show(nbE c).op=1 from rfl),nb_q]
 omega
theorem tk(D:DisS d l s)(b:s.op=10)(hc:c=cfM l){t:GExpr}(ht:t∈s.args):MulP 0 [nbE c,t]:=by
 have nt:=D.nf.arg t ht;have lt:=(Ya.1 D.lw).2 t ht;have j:=((D.nf.top.sum b).2.2.1 t ht).1;have x:dgE t≤dgE s:=Vc o ht;have y:uq c≤1+nnE l:=by rw[hc];exact DT l
 have z:=D.dg;have A:=D.ds;obtain⟨_,m2⟩:=E4 nt;have wt:=D.wd.arg t ht;have bt:=D.bd.arg t ht;have e1:flE 11 [nbE c,t]=nbE c::tlE 11 t:=by
  unfold flE;rw[List.flatMap_cons,List.flatMap_cons,List.flatMap_nil,TT];rfl
 have m:prM [nbE c,t]=(tlE 11 t).filter fun a=> !decide (a.op=1):=by
  unfold prM;rw[e1,List.filter_cons_of_neg (by simp[nbE,GExpr.op])]
 have htl:∀g∈prM [nbE c,t],g=t∨g∈t.args:=fun g hg=>by
  rw[m] at hg;have hg:=(UN.1 hg).1;unfold tlE at hg;split at hg
  ·exact .inr hg
  ·exact .inl (Z4 hg)
 have hl:=(Mz (op:=11) δ wt).1;constructor
 ·intro a ha;rcases UL.1 ha with rfl|ha
  ·exact⟨nr _,nb _⟩
  ·rw[Z4 ha];exact⟨nt,lt⟩
 ·refine⟨by show 2≤100000;decide,fun a ha=>?_⟩
  rcases UL.1 ha with rfl|ha
  ·exact(nr c).sz (T:=200000010) (k:=1) (nb c) (by rw[xw];omega) vg δ δ
  ·rw[Z4 ha];exact nt.sz (T:=200000010) lt o wt δ δ
 ·rw[e1,Td];omega
 ·rw[E5];omega
 ·intro g hg;rw[E5];rw[m] at hg
  have:=m2 g hg
  omega
 ·intro g hg;rcases htl g hg with rfl|h
  ·exact wt
  ·exact wt.arg g h
 ·intro g hg;rcases htl g hg with rfl|h
  ·exact wm bt
  ·exact wm (bt.arg g h)
 ·intro _ _ ho';obtain⟨_,e2⟩:=uu (c:=c) nt lt;obtain⟨v,w⟩:=mN nt lt j;rw[vu e2 v (fun f hf=>(w f hf).1) ho'];exact v.2.2
theorem Cw{xs:List GExpr}(D:DisS d l s)(h:s.op=10)(hc:c=cfM l)(k:¬c=0)(hlen:xs.length=s.args.length)(hx:∀i,i<s.args.length→MulR [nbE c,s.args.getD i Δ] (xs.getD i Δ)):AddP xs:=by
 obtain⟨e,_,b,B⟩:=D.nf.top.sum h;have hk:∀i,i<s.args.length→NF (xs.getD i Δ)∧Lwe (xs.getD i Δ)∧(xs.getD i Δ).op≠10∧(paA (xs.getD i Δ)).rest=(paA (s.args.getD i Δ)).rest:=fun i hi=>by
  have hm:=Jp hi;have hr:=EU (D.nf.arg _ hm) ((Ya.1 D.lw).2 _ hm) (b _ hm).1 k (b _ hm).2 (hx i hi);obtain⟨C,E⟩:=mN (D.nf.arg _ hm) ((Ya.1 D.lw).2 _ hm) (b _ hm).1;have hcc:c*(paA (s.args.getD i Δ)).c.q≠0:=fun e=>by
   rcases Rat.mul_eq_zero.1 e with e|e
   ·exact k e
   ·exact(b _ hm).2 e
  obtain⟨z,e1,k1,k2,m,_,G⟩:=nG (p:=⟨ofQ (c*(paA (s.args.getD i Δ)).c.q),0,(paA (s.args.getD i Δ)).rest⟩) C E (by rw[J9];exact hcc);rw[hr] at e1;obtain rfl:xs.getD i Δ=z:=by simpa using e1
  exact⟨k1,k2,m,G⟩
 have hst:Stc cmpA (xs.map paA):=by
  refine List.pairwise_iff_getElem.2 fun i j hi hj hij=>?_
  rw[UG] at hi hj;have v:=List.pairwise_iff_getElem.1 B i j W9 W9 hij;rw[List.getElem_map,List.getElem_map] at v ⊢;have w:=(hk i o).2.2.2;have x:=(hk j o).2.2.2;have ge:∀ {l:List GExpr} {i:Nat} (hi:i<l.length),l.getD i Δ=l[i]:=fun {l i} hi=>by rw[Tq,Tt hi];rfl
  rw[ge hi,ge o] at w;rw[ge hj,ge o] at x;unfold cmpA at v ⊢;rw[w,x];exact v
 have hmem:∀y∈xs,NF y∧Lwe y∧y.op≠10∧dgE y≤200000010∧Wd 60001 y:=fun y hy=>by
  obtain⟨i,hi,rfl⟩:=J6 hy;rw[hlen] at hi;obtain⟨k1,k2,m,_⟩:=hk i hi;have hM:=tk D h hc (Jp hi);refine⟨k1,k2,m,?_,?_⟩
  ·have:=BQ (T:=200000002) hM.nf (hx i hi) (by have:=hM.n1;omega) fun g hg=>by have:=hM.n2 g hg;omega
   omega
  ·refine xU δ hM.nf (fun y hy=>?_) hM.fl (hx i hi);by_cases A:y.op=1
   ·obtain⟨n1,_⟩:=V7 hM.nf hy;rw[n1.top.num A];exact vg
   ·exact(hM.wd y (by unfold prM;rw[UN];exact⟨hy,by simpa using A⟩)).up δ
 have hfl:flE 10 xs=xs:=yl fun y hy=>(hmem y hy).2.2.1;have hwl:=D.wd.len;constructor
 ·exact fun a ha=>⟨(hmem a ha).1,(hmem a ha).2.1⟩
 ·exact⟨by omega,fun a ha=>(hmem a ha).1.sz (T:=200000010) (hmem a ha).2.1 (hmem a ha).2.2.2.1 (hmem a ha).2.2.2.2 δ δ⟩
 ·rw[hfl];omega
 ·intro q;rw[hfl];refine Bb hst fun p hp=>?_
  obtain⟨y,hy,rfl⟩:=UR.1 hp
  have:=GL (hmem y hy).1
  have:=(hmem y hy).2.2.2.1
  omega
theorem DL {xs:List GExpr} {x:GExpr} (ho:OutM l out) (hc:c=cfM l) (h:¬c=0) (b:¬c=1) (hs:out.length=1) (a:(out.getD 0 Δ).op=10) (hl:xs.length=(out.getD 0 Δ).args.length)
  (hx:∀i,i<(out.getD 0 Δ).args.length→MulR [nbE c,(out.getD 0 Δ).args.getD i Δ] (xs.getD i Δ)) (ha:AddR xs x):MulR l x:=by
 subst hc
 match out,hs with
 |[s],_=>exact .dist ho h b ϱ a hl hx ha
end
end Go.Wf
namespace Go.Wf
open Go Go.Proofs Go.RowKit
variable{a:GExpr}{b:Value}
theorem oa{R:Nat→GExpr→Prop}{xs:List GExpr}{m:GExpr}(h:∀k,k<xs.length→R k (xs.getD k Δ))(hm:R xs.length m):∀k,k<(xs++[m]).length→R k ((xs++[m]).getD k Δ):=by
 intro k hk;rw[Tc] at hk;by_cases e:k<xs.length
 ·have:=h k e
  rw[Tq,Uz e,←Tq];exact this
 ·obtain rfl:k=xs.length:=by simp at hk;omega
  rw[Tq,UA<|Tu _,Wa];exact hm
set_option maxHeartbeats 8000000 in
theorem IK(N:Nat):∀ {X:Nat→Prop} {w:World} (hX:XB X w) {v0:Value} {l:List GExpr} (r0:RS Jc X w v0 l) {d:Nat} (hM:MulP d l) (hN:d<N),CRt 96 #[v0] w fun v w'=>(∃m':GExpr,RV Jc X w' v m'∧(MulR l m')):=by
 induction N with
 |zero=>intro X w hX v0 l r0 d hM hN;exact absurd hN<|TC _
 |succ N ih=>
  intro X w hX v0 l r0 d hM hN;obtain⟨a1,c2,rfl,_,_⟩:=r0.len;have C:=PV hX;have hN:=hM.nf;have hS:=hM.sz;have hll:=hS.1;have hfl:=hM.fl;have kH:=hM.n1;have kI:sumN wN (flE 11 l)+2*d≤200000002:=hM.n1;have kJ:=hM.n2;have kK:YU.num.mag.length≤1:=δ
  have kL:YU.den.mag.length≤1:=δ
  have kp:∀a∈flE 11 l,NF a∧Lwe a:=fun a ha=>⟨(V7 hN ha).1,(V7 hN ha).2.1⟩;refine Cgo Tryz.func96 ϱ ϱ ϱ (Rg<|Ol<|PU C io31 ϱ ?_);intro g3 _ _ _ _ C8 s9 a5;refine Nl (Rg<|Ol<|PK C8 oA ϱ ϱ (oK C8.bd δ δ) ?_);intro _ _ kr fQ ks;have r0:=(r0.sp s9).sp fQ;have a5:=a5.spn fQ;obtain⟨fR,fS,fT,fU,rfl,bN,bO⟩:=ST ks;refine Ol (PU kr io28 ϱ ?_);intro a6 _ _ _ gf kt b1 ku;have fV:=gf _ a5.blk.lt;have bN:=bN.sp b1;have bO:=bO.sp b1;have a5:=a5.spn b1;refine On (Us (cs':=(qqC YU fR fS fT fU)) kt ku io28 ?_);intro _ fW b2 cp;have r0:=(r0.sp b1).sp b2;refine Nl (Rg<|Ua<|Rh<|Ub<|PK fW KW ϱ ϱ (D0 fW.bd r0 δ δ ω hll) ?_);intro _ _ kv bP Y;have r0:=r0.sp bP;have bN:=(bN.sp b2).sp bP;have bO:=(bO.sp b2).sp bP;have a5:=(a5.spo b2 fV).spn bP;have cp:=cp.spn bP;obtain⟨fX,fY,rfl,_,_⟩:=Y.len;refine Ol (St.len sl29 rfl<|Om<|Nl<|W.block<|P7 (fun μ f v=>∃(x y:Nat→Prop) (i:Nat) (c:GRat) (na:Option Addr) (nc:Nat) (da:Option Addr) (dc:Nat) (p:List GPart) (pa:Option Addr) (pc:Nat),Cx X w x y v∧f 2=(P10 g3 0)∧f 3=(P10 a6 0)∧f 15=(.slice fX (flE 11 l).length fY)∧f 16=(.int .i64 (flE 11 l).length)∧f 17=(.int .i64 i)∧f 4=(S12 pa p pc)∧RS Jc x v (.slice fX (flE 11 l).length fY) (flE 11 l)∧RS Jh x v (S12 na c.num.mag nc) c.num.mag∧RS Jh x v (S12 da c.den.mag dc) c.den.mag∧OS Ji 144 w x y v (S12 pa p pc) p∧Own w y v g3 zX 31∧Own w y v a6 (qqC c na nc da dc) 28∧i≤(flE 11 l).length∧c.q=cfo ((flE 11 l).take i)∧p=(pro<|(flE 11 l).take i).map paM∧(c.num.mag.length≤268435456∧c.den.mag.length≤268435456)∧μ=((flE 11 l).length-i)) _ ⟨_,_,0,YU,fR,fS,fT,fU,[],none,0,kv,rfl,rfl,rfl,rfl,rfl,rfl,Y,bN,bO,OS.nil,a5,cp,(Tv _),(by rw[J9];exact q11),rfl,⟨by omega,ω⟩,rfl⟩ ?_);rintro _ _ _ ⟨_,_,i,c,na,nc,da,dc,p,pa,pc,cq,fZ,f0,f1,f2,f3,f4,Y,hn,hd,hP,Q,P,hi,hc,hp,hcl,_⟩;obtain⟨_,rfl⟩:=rebK (aC fZ<|aC f0<|aC f1<|aC f2<|aC f3<|aC f4 aN);clear fZ f0 f1 f2 f3 f4;have hpl:=ID hp hi;refine Rg<|Ol<|P2 ϱ ϱ (fun gg=>?_)<|fun gg=>?_
  ·refine Nl (PT<|Ud<|PR<|PT<|W.block<|Rg<|Ol<|P4 (j:=i) (u:=((flE 11 l).getD i Δ)) Y sl29 io31 ϱ ϱ ϱ (Je ω) ?_);intro _ _ _ f5;obtain⟨bQ,bR,bS,bT,bU,bV,a7,a8,rfl,ab⟩:=Jb f5.rd;refine Ol (QE (cs:=(ec ((flE 11 l).getD i Δ) bQ bR bS bT bU bV a7 a8)) ag31 ϱ ϱ f5.cell<|Ol<|QU cq io31 ϱ ?_);intro f6 _ f7 _ cr f8 bf kw kx;have ky:=cr _ Q.blk.lt;have kz:=cr _ P.blk.lt;refine On (Us (cs':=(ec ((flE 11 l).getD i Δ) bQ bR bS bT bU bV a7 a8)) f8 kw io31 ?_);intro _ bW bg bh;have Y:=(Y.sp bf).sp bg;have hn:=(hn.sp bf).sp bg;have hd:=(hd.sp bf).sp bg;have hP:=(hP.sp bf f8 kx).sp bg bW (fun _ h=>h)
   have ab:=(ab.sp bf).sp bg;have Q:=(Q.spn bf).spo bg ky;have P:=(P.spn bf).spo bg kz;refine Nl<|Rg<|Ol<|PJ Jw rfl<|Ol<|PO bh pl3 ϱ rfl<|Nl<|W.block<|Rg<|Ol<|PW ϱ ϱ (fun gi=>?_)<|fun gi=>?_
   ·refine Oa (Nl<|PM ϱ ?_);have hsa:=Qi.1 (Gm hS<|Jp (l:=(flE 11 l)) (i:=i) ω);refine PN (Ol<|Uo (vs:=(qqC c na nc da dc)) P ag28<|Ol<|PJ Yv rfl<|Ol<|Uo (vs:=(qqC (((flE 11 l).getD i Δ).c) bS bT bU bV)) bh ag28 ?_);refine Ol (PK bW OZ ϱ ϱ (Lc bW.bd (a:=c) (Jz hn hd) (b:=((flE 11 l).getD i Δ).c) (Jz ab.num ab.den) ω ω ω ω) ?_);intro _ _ f9 b3 kA;have P:=P.spn b3;obtain⟨ga,gb,gc,gd,rfl,ct,cu⟩:=ST kA;refine On (Us (cs':=(qqC (ofQ<|c.q*((flE 11 l).getD i Δ).c.q) ga gb gc gd)) f9 P io28 ?_);intro _ cv bi gj;have Y:=(Y.sp b3).sp bi;have hP:=(hP.sp b3 f9<|fun _ h=>h).sp bi cv (fun _ h=>h)
    have ct:=ct.sp bi;have cu:=cu.sp bi;have Q:=(Q.spn b3).spo bi fV;refine Nl<|PN<|Ol<|St.add ϱ ϱ (Ja (a:=i) (b:=1) ω)<|Om<|Nl<|⟨_,ω,_,_,(i+1),(ofQ<|c.q*((flE 11 l).getD i Δ).c.q),ga,gb,gc,gd,p,pa,pc,cv,rfl,rfl,rfl,rfl,rfl,rfl,Y,ct,cu,hP,Q,gj,ω,(by rw[J9];exact ER hc ω ω),(MI hp ω ω),(by have h5:=rK (c.q*((flE 11 l).getD i Δ).c.q);have h6:=HV (F:=(flE 11 l)) (i:=i+1);rw[←ER hc ω ω] at h6;omega),rfl⟩
   refine Ua<|Ug<|Ol<|PW ϱ ϱ (fun d8=>?_)<|fun d8=>?_
   ·refine Oa (Nl<|PM ϱ ?_);have hea:=hM.ex ((flE 11 l).getD i Δ) (by unfold prM;rw[UN];exact⟨Jp ω,by simp only[T3,decide_eq_false_iff_not];omega⟩);rw[CA ω] at hea;obtain⟨⟨gk,gl⟩,_⟩:=hea;simp only[] at gk gl;refine Rb mixed 9 [[],[],[1],[2],[3],[],[5],[4,6],[7]] bW [fx<|.slice pa p.length pc,fx<|.pointer (some ⟨f6,1,none⟩),fx<|.slice bQ ((flE 11 l).getD i Δ).n.length bR,uE f7 Zg<|(((flE 11 l).getD i Δ).n).getD 0 0,fx<|.int .i64 ((((flE 11 l).getD i Δ).n).getD 0 0),fx<|.pointer (some ⟨f6,7,none⟩),fx<|.slice a7 ((flE 11 l).getD i Δ).args.length a8,fx<|.agg #[b13,n11,b13,n11,(.int .i64 ((((flE 11 l).getD i Δ).n).getD 0 0)),(S12 a7 ((flE 11 l).getD i Δ).args a8)],fun(s:Unit) (v:Value) (w':World)=>∃g':Nat,v= .slice (some ⟨g',0,none⟩) 1 1∧RS Ji f7 w' v [(⟨YT,((((flE 11 l).getD i Δ).n).getD 0 0),((flE 11 l).getD i Δ).args⟩:GPart)]] κ ⟨sx,sx,sx,tE,sx,sx,sx,sx,(fun _ _ _ _ _ ⟨g,e,h⟩ r=>⟨g,e,h.tr r.2.tx⟩),trivial⟩ fun gn _ ac aG Z=>?_
    have hP:=hP.sp aG ac<|fun _ h=>h
    have ab:=ab.sp aG;have Q:=Q.spn aG;have P:=P.spn aG;have bh:=bh.spn aG;have Z:Keep [37,38,39,40,41,42,43,44,45] _ gn:=Z;refine⟨⟨fun _=>?_,fun _=>?_,fun⟨gp,_⟩=>?_,fun⟨gq,_⟩=>?_,fun⟨gr,_⟩=>?_,fun _=>?_,fun⟨gs,_⟩=>?_,fun⟨gt,gu,_⟩=>?_,fun⟨gv,_⟩=>?_,trivial⟩,fun⟨gw,gx,gy,gz,gA,gB,gC,gD,gE,_⟩=>?_⟩
    ·exact Sd0 Z fun _=>PP<|⟨(),⟨ac,Sp.refl⟩,rfl⟩
    ·exact Sd0 Z fun _=>PJ Zi rfl<|⟨(),⟨ac,Sp.refl⟩,rfl⟩
    ·exact Sd1 Z gp fun _=>PO bh pl23 ϱ rfl<|⟨(),⟨ac,Sp.refl⟩,rfl⟩
    ·refine Sd1 Z gq fun _=>P4 (j:=0) (u:=((((flE 11 l).getD i Δ).n).getD 0 0)) ab.n sl23 io3 ϱ ϱ ϱ (Je (rU (kp _<|Jp ω).1 ω).1) ?_;intro _ _ d9 cw;obtain⟨rfl,_⟩:d9=_∧_:=cw.rd;exact⟨(),⟨ac,Sp.refl⟩,⟨_,_,_,rfl,cw⟩⟩
    ·obtain⟨_,_,eb,gF,cy⟩:=gr;obtain⟨rfl,_⟩:eb=_∧_:=cy.rd;exact Sd1 Z gF fun _=>P0 pl3 ϱ (cy.cell 0 _ ϱ)<|⟨(),⟨ac,Sp.refl⟩,rfl⟩
    ·exact Sd0 Z fun _=>PJ J8 rfl<|⟨(),⟨ac,Sp.refl⟩,rfl⟩
    ·exact Sd1 Z gs fun _=>PO bh pl29 ϱ rfl<|⟨(),⟨ac,Sp.refl⟩,rfl⟩
    ·exact Jf Z (aC gt<|aC gu aN) fun _=>P1<|PX (cs:=[b13,n11,b13,n11,(.int .i64 ((((flE 11 l).getD i Δ).n).getD 0 0)),(S12 a7 ((flE 11 l).getD i Δ).args a8)]) ϱ κ<|⟨(),⟨ac,Sp.refl⟩,rfl⟩
    ·refine Sd1 Z gv fun _=>P5 (T:=Ji) (css:=[[b13,n11,b13,n11,(.int .i64 ((((flE 11 l).getD i Δ).n).getD 0 0)),(S12 a7 ((flE 11 l).getD i Δ).args a8)]]) (l:=[(⟨YT,((((flE 11 l).getD i Δ).n).getD 0 0),((flE 11 l).getD i Δ).args⟩:GPart)]) ac Yb Zw δ δ ϱ κ ⟨(⟨_,_,_,rfl,j',j',RS.nil,RS.nil,ab.args⟩),trivial⟩ ?_;intro _ _ gG gH gI;exact⟨(),⟨gG,gH⟩,⟨_,rfl,gI⟩⟩
    obtain⟨_,_,ed,gJ,gK⟩:=gz;obtain⟨rfl,_⟩:ed=_∧_:=gK.rd;obtain⟨gL,cz,cE⟩:=gE;rw[cz] at cE;obtain⟨_,rfl⟩:=mixK Z (aC gw<|aC gx<|aC gy<|aC gJ<|aC gA<|aC gB<|aC gC<|aC gD<|aC cz aN);refine Ol (P8 (T:=Ji) (v:=(S12 pa p pc)) (u:=(.slice (some ⟨gL,0,none⟩) 1 1)) ac Yb Zw ϱ ϱ hP (Z5 cE) ψ η ϱ ?_);intro _ _ _ gM bj _ cF;have Y:=(Y.sp aG).tr bj.tx;have hn:=(hn.sp aG).tr bj.tx;have hd:=(hd.sp aG).tr bj.tx;replace Q:=Q.ap bj Q.mem;replace P:=P.ap bj P.mem;obtain⟨gN,gO,rfl,_,_⟩:=cF.len;refine Ua<|PN<|Ol<|St.add ϱ ϱ (Ja (a:=i) (b:=1) ω)<|Om<|Nl<|⟨_,ω,_,_,(i+1),c,na,nc,da,dc,(p++[(⟨YT,((((flE 11 l).getD i Δ).n).getD 0 0),((flE 11 l).getD i Δ).args⟩:GPart)]),gN,gO,gM,rfl,rfl,rfl,rfl,rfl,rfl,Y,hn,hd,cF,Q,P,ω,(KH hc ω ω),(MX hp ω ω<|CA ω),hcl,rfl⟩
   refine Oa (Nl<|Ue<|PN<|Ub<|Uo (vs:=(ec ((flE 11 l).getD i Δ) bQ bR bS bT bU bV a7 a8)) bh ag31<|Ol<|P5 (T:=Jc) (css:=[(ec ((flE 11 l).getD i Δ) bQ bR bS bT bU bV a7 a8)]) (l:=[((flE 11 l).getD i Δ)]) bW sl29 io31 δ δ ϱ κ ⟨(Ju ((flE 11 l).getD i Δ) ab.lo ab.hi ab.name ab.n ab.num ab.den ab.args),trivial⟩ ?_);intro cG _ cH aW gP;have Y:=Y.sp aW;have hn:=hn.sp aW;have hd:=hd.sp aW;refine Ol (PX (cs:=[b13,n11,b13,n11,(.int .i64 1),(.slice (some ⟨cG,0,none⟩) 1 1)]) ϱ κ<|Ol<|P5 (T:=Ji) (css:=[[b13,n11,b13,n11,(.int .i64 1),(.slice (some ⟨cG,0,none⟩) 1 1)]]) (l:=[(⟨YT,1,[((flE 11 l).getD i Δ)]⟩:GPart)]) cH Yb Zw δ δ ϱ κ ⟨(⟨_,_,_,rfl,j',j',RS.nil,RS.nil,gP⟩),trivial⟩ ?_);intro _ _ cI aX gQ;have hP:=(hP.sp aW cH<|fun _ h=>h).sp aX cI (fun _ h=>h)
   have Q:=(Q.spn aW).spn aX;have P:=(P.spn aW).spn aX;refine Ol (P8 (T:=Ji) cI Yb Zw ϱ ϱ hP (Z5 gQ) ψ η ϱ ?_);intro _ _ _ gR bk _ cJ;have Y:=(Y.sp aX).tr bk.tx;have hn:=(hn.sp aX).tr bk.tx;have hd:=(hd.sp aX).tr bk.tx;replace Q:=Q.ap bk Q.mem;replace P:=P.ap bk P.mem;obtain⟨gS,gT,rfl,_,_⟩:=cJ.len;refine Ua<|PN<|Ol<|St.add ϱ ϱ (Ja (a:=i) (b:=1) ω)<|Om<|Nl<|⟨_,ω,_,_,(i+1),c,na,nc,da,dc,(p++[(⟨YT,1,[((flE 11 l).getD i Δ)]⟩:GPart)]),gS,gT,gR,rfl,rfl,rfl,rfl,rfl,rfl,Y,hn,hd,cJ,Q,P,ω,(KH hc ω ω),(MX hp ω ω<|Me ω),hcl,rfl⟩
  refine Nl (PT<|Ue<|QB<|PT ?_);have hcq:c.q=cfM l:=by rw[hc,TE ω];rfl
  have hpe:p=(prM l).map paM:=by rw[hp,TE ω];rfl
  refine PN (Ub<|Rf cq hP MC ϱ ϱ (zT cq.bd hP.ow (fun k hk=>(hP.mem k hk).1.1) (G:=GM) ω sR N4 (fun hX r0 r1 h0 h1=>Nj hX r0 r1 h0.1 h1.1 h0.2 h1.2)<|fun q hq=>(EL hM hpe q hq).gm) ?_);intro _ _ m gU bE gV bF;replace Q:=Q.ap bE Q.mem;replace P:=P.ap bE P.mem;refine Nl (PT ?_);have hpsl:=bF.1.length_eq;have hps:∀q∈m,GE q:=fun q hq=>EL hM hpe q (bF.1.mem_iff.1 hq);obtain⟨_,gW,b4,A⟩:=gV.freeze gU hX;have hn:=(hn.tr bE.tx).tr (Tr.weak b4);have hd:=(hd.tr bE.tx).tr (Tr.weak b4);refine PN (Ua<|Rh<|Ua<|W.block<|P7 (fun μ f v=>∃(x y:Nat→Prop) (i:Nat) (q:List GExpr) (qa:Option Addr) (qc:Nat),Cx X w x y v∧f 2=(P10 g3 0)∧f 3=(P10 a6 0)∧f 4=(S12 pa p pc)∧f 8=(.int .i64 i)∧f 7=(S12 qa q qc)∧RS Jh x v (S12 na c.num.mag nc) c.num.mag∧RS Jh x v (S12 da c.den.mag dc) c.den.mag∧RS Ji x v (S12 pa p pc) m∧OS Jc 31 w x y v (S12 qa q qc) q∧Own w y v g3 zX 31∧Own w y v a6 (qqC c na nc da dc) 28∧i≤m.length∧q.length≤i∧mrO cmpM adM reM m=q++mrO cmpM adM reM (m.drop i)∧μ=(m.length-i)) _ ⟨_,_,0,[],none,0,gW,rfl,rfl,rfl,rfl,rfl,hn,hd,A,OS.nil,Q,P,(Tv _),(Tv _),rfl,rfl⟩ ?_);rintro _ _ _ ⟨_,_,i,q,qa,qc,cK,cL,cM,cN,cO,cP,hn,hd,A,hQ,E,S,hi,_,hO,_⟩;obtain⟨_,rfl⟩:=rebK (aC cL<|aC cM<|aC cN<|aC cO<|aC cP aN);clear cL cM cN cO cP;refine Rh<|Om<|Ub<|St.len Yb rfl<|Ol<|P2 ϱ ϱ (fun ee=>?_)<|fun ee=>?_
  ·refine Nl (Ud<|PR<|W.block<|Rg<|Om<|Ub<|P4 (j:=i) (u:=(m.getD i Δ)) A Yb Zw ϱ ϱ ϱ (Je ω) ?_);intro _ _ _ cQ;obtain⟨bl,bm,bn,bo,ah,ai,rfl,_,_,ao,aq,I⟩:=J3 cQ.rd;refine Ol (QE (cs:=[(.bool (m.getD i Δ).c.num.neg),(S12 bl (m.getD i Δ).c.num.mag bm),(.bool (m.getD i Δ).c.den.neg),(S12 bn (m.getD i Δ).c.den.mag bo),(.int .i64 (m.getD i Δ).exp),(S12 ah (m.getD i Δ).rest ai)]) X8 ϱ ϱ cQ.cell<|Ol<|QU cK Zw ϱ ?_);intro bG _ _ _ b5 cR ar gX gY;have cS:=b5 _ E.blk.lt;have cT:=b5 _ S.blk.lt;refine On (Us (cs':=[(.bool (m.getD i Δ).c.num.neg),(S12 bl (m.getD i Δ).c.num.mag bm),(.bool (m.getD i Δ).c.den.neg),(S12 bn (m.getD i Δ).c.den.mag bo),(.int .i64 (m.getD i Δ).exp),(S12 ah (m.getD i Δ).rest ai)]) cR gX Zw ?_);intro _ cU au gZ;have hn:=(hn.sp ar).sp au;have hd:=(hd.sp ar).sp au;have A:=(A.sp ar).sp au;have hQ:=(hQ.sp ar cR gY).sp au cU (fun _ h=>h)
   have ao:=(ao.sp ar).sp au;have aq:=(aq.sp ar).sp au;have I:=(I.sp ar).sp au;have E:=(E.spn ar).spo au cS;have S:=(S.spn ar).spo au cT;refine Nl (PT<|PT ?_);have hpi:=hps _ (Xq (l:=m) (i:=i) ω);refine PN (Ub<|St.add ϱ ϱ (Ja (a:=i) (b:=1) ω)<|Ua<|W.block<|P7 (fun μ f v=>∃(x y:Nat→Prop) (j:Nat) (e:Int),Cx X w x y v∧f 2=(P10 g3 0)∧f 3=(P10 a6 0)∧f 4=(S12 pa p pc)∧f 7=(S12 qa q qc)∧f 9=(P10 bG 0)∧f 8=(.int .i64 j)∧RS Jh x v (S12 na c.num.mag nc) c.num.mag∧RS Jh x v (S12 da c.den.mag dc) c.den.mag∧RS Ji x v (S12 pa p pc) m∧OS Jc 31 w x y v (S12 qa q qc) q∧RS Jh x v (S12 bl (m.getD i Δ).c.num.mag bm) (m.getD i Δ).c.num.mag∧RS Jh x v (S12 bn (m.getD i Δ).c.den.mag bo) (m.getD i Δ).c.den.mag∧RS Jc x v (S12 ah (m.getD i Δ).rest ai) (m.getD i Δ).rest∧Own w y v g3 zX 31∧Own w y v a6 (qqC c na nc da dc) 28∧Own w y v bG [(.bool (m.getD i Δ).c.num.neg),(S12 bl (m.getD i Δ).c.num.mag bm),(.bool (m.getD i Δ).c.den.neg),(S12 bn (m.getD i Δ).c.den.mag bo),(.int .i64 e),(S12 ah (m.getD i Δ).rest ai)] 144∧(i+1≤j∧j≤m.length)∧absb cmpM adM (m.getD i Δ) (m.drop<|i+1)=absb cmpM adM (⟨(m.getD i Δ).c,e,(m.getD i Δ).rest⟩:GPart) (m.drop j)∧(-(1000000*((j:Int)-(i:Int)))≤e∧e≤1000000*((j:Int)-(i:Int)))∧μ=(m.length-j)) _ ⟨_,_,(i+1),(m.getD i Δ).exp,cU,rfl,rfl,rfl,rfl,rfl,rfl,hn,hd,A,hQ,ao,aq,I,E,S,gZ,⟨Tu _,ω⟩,rfl,⟨by have:=hpi.e1;omega,by have:=hpi.e2;omega⟩,rfl⟩ ?_);rintro _ _ _ ⟨av,_,j,e,cV,cW,cX,cY,cZ,c0,c1,hn,hd,A,hQ,ao,aq,I,B,D,H,_,hA,_,_⟩;obtain⟨_,rfl⟩:=rebK (aC cW<|aC cX<|aC cY<|aC cZ<|aC c0<|aC c1 aN);clear cW cX cY cZ c0 c1;refine PT (PT ?_);by_cases hja:j<m.length
   ·refine Rb mixed 16 [[],[],[1],[0,2],[3],[4],[4,5],[4,6],[4,7],[4],[4],[4,9,10],[4,11],[4,12],[4,13],[4,14]] cV [fx<|.int .i64 (j:Int),fx<|.slice pa p.length pc,fx<|.int .i64 (p.length:Int),fx<|.bool true,fx<|.bool true,fx<|.pointer (some ⟨bG,5,none⟩),fx<|.slice ah (m.getD i Δ).rest.length ai,uE av Jc<|((m.getD i Δ).rest).getD 0 Δ,ur av Jc<|((m.getD i Δ).rest).getD 0 Δ,fx<|.slice pa p.length pc,fx<|.int .i64 (j:Int),uE av Ji<|m.getD j Δ,fun(s:Unit) (v:Value) (w':World)=>∃(b' o':Nat) (cs':List Value),v= .pointer (some ⟨b',o'+5,none⟩)∧ElAt Ji av w' b' o' cs' (m.getD j Δ),us av Jc<|(m.getD j Δ).rest,uE av Jc<|((m.getD j Δ).rest).getD 0 Δ,ur av Jc<|((m.getD j Δ).rest).getD 0 Δ] κ ⟨sx,sx,sx,sx,sx,sx,sx,tE,tr,sx,sx,tE,(fun _ _ _ _ _ ⟨b,o,cs,e,h⟩ r=>⟨b,o,cs,e,h.tr r.2.tx⟩),ts,tE,tr,trivial⟩ fun g0 _ K aj L=>?_
    have A:=A.sp aj;have I:=I.sp aj;have H:=H.spn aj;have L:Keep [60,61,62,63,64,65,66,67,68,69,70,71,72,73,74,75] _ g0:=L;refine⟨⟨fun _=>?_,fun _=>?_,fun⟨g1,_⟩=>?_,fun⟨g2,g4,_⟩=>?_,fun⟨g5,_⟩=>?_,fun⟨g6,_⟩=>?_,fun⟨g7,g8,_⟩=>?_,fun⟨g9,hb,_⟩=>?_,fun⟨he,hf,_⟩=>?_,fun⟨hg,_⟩=>?_,fun⟨hh,_⟩=>?_,fun⟨hj,hl,hm,_⟩=>?_,fun⟨ho,hr,_⟩=>?_,fun⟨hs,ht,_⟩=>?_,fun⟨hu,bX,_⟩=>?_,fun⟨hv,hw,_⟩=>?_,trivial⟩,fun⟨hx,hy,hz,hB,hC,hE,hF,hG,hH,hI,hJ,hK,hL,c3,hR,hT,_⟩=>?_⟩
    ·exact Sd0 L fun _=>PP<|⟨(),⟨K,Sp.refl⟩,rfl⟩
    ·exact Sd0 L fun _=>PP<|⟨(),⟨K,Sp.refl⟩,rfl⟩
    ·exact Sd1 L g1 fun _=>St.len Yb rfl<|⟨(),⟨K,Sp.refl⟩,rfl⟩
    ·exact Jf L (aC g2<|aC g4 aN) fun _=>P1<|Rn (t:=true) ϱ ϱ (decide_eq_true ω)<|⟨(),⟨K,Sp.refl⟩,rfl⟩
    ·exact Sd1 L g5 fun _=>PP<|⟨(),⟨K,Sp.refl⟩,rfl⟩
    ·exact Jf L (aC g6 aN) fun _=>PY rfl<|PJ Yf rfl<|⟨(),⟨K,Sp.refl⟩,rfl⟩
    ·exact Jf L (aC g7<|aC g8 aN) fun _=>PY rfl<|PO H pl29 ϱ rfl<|⟨(),⟨K,Sp.refl⟩,rfl⟩
    ·refine Jf L (aC g9<|aC hb aN) fun _=>PY ϱ (P4 (j:=0) (u:=(((m.getD i Δ).rest).getD 0 Δ)) I sl29 io31 ϱ ϱ ϱ (Je hpi.gm.2) ?_);intro _ _ _ c4;obtain⟨_,_,_,_,_,_,_,_,rfl,_⟩:=Jb c4.rd;exact⟨(),⟨K,Sp.refl⟩,⟨_,_,_,rfl,c4⟩⟩
    ·obtain⟨_,_,_,hU,c5⟩:=hf;obtain⟨hV,hW,hY,hZ,h2,h3,h4,h7,rfl,h8⟩:=Jb c5.rd;exact Jf L (aC he<|aC hU aN) fun _=>PY rfl<|QE (cs:=(ec (((m.getD i Δ).rest).getD 0 Δ) hV hW hY hZ h2 h3 h4 h7)) ag31 ϱ ϱ c5.cell<|⟨(),⟨K,Sp.refl⟩,(Mx (((m.getD i Δ).rest).getD 0 Δ) h8)⟩
    ·exact Jf L (aC hg aN) fun _=>PY rfl<|PP<|⟨(),⟨K,Sp.refl⟩,rfl⟩
    ·exact Jf L (aC hh aN) fun _=>PY rfl<|PP<|⟨(),⟨K,Sp.refl⟩,rfl⟩
    ·refine Jf L (aC hj<|aC hl<|aC hm aN) fun _=>PY ϱ (P4 (j:=j) (u:=(m.getD j Δ)) A Yb Zw ϱ ϱ ϱ (Je ω) ?_);intro _ _ _ c6;obtain⟨_,_,_,_,_,_,rfl,_,_,_,_,_⟩:=J3 c6.rd;exact⟨(),⟨K,Sp.refl⟩,⟨_,_,_,rfl,c6⟩⟩
    ·obtain⟨_,_,_,h9,c7⟩:=hr;obtain⟨_,_,_,_,_,_,rfl,_,_,_,_,_⟩:=J3 c7.rd;exact Jf L (aC ho<|aC h9 aN) fun _=>PY rfl<|PJ Yf rfl<|⟨(),⟨K,Sp.refl⟩,⟨_,_,_,rfl,c7⟩⟩
    ·obtain⟨_,_,_,ia,c8⟩:=ht;obtain⟨_,_,_,_,_,_,rfl,_,_,_,_,ib⟩:=J3 c8.rd;exact Jf L (aC hs<|aC ia aN) fun _=>PY rfl<|P0 pl29 ϱ (c8.cell 5 _ ϱ)<|⟨(),⟨K,Sp.refl⟩,ib⟩
    ·obtain⟨_,_,ic,bX⟩:=RS.opn bX;refine Jf L (aC hu<|aC ic aN) fun _=>PY ϱ (P4 (j:=0) (u:=(((m.getD j Δ).rest).getD 0 Δ)) bX sl29 io31 ϱ ϱ ϱ (Je (hps _<|Xq ω).gm.2) ?_);intro _ _ _ c9;obtain⟨_,_,_,_,_,_,_,_,rfl,_⟩:=Jb c9.rd;exact⟨(),⟨K,Sp.refl⟩,⟨_,_,_,rfl,c9⟩⟩
    ·obtain⟨_,_,_,id,dd⟩:=hw;obtain⟨ie,ig,ii,ij,ik,im,io,ip,rfl,iq⟩:=Jb dd.rd;exact Jf L (aC hv<|aC id aN) fun _=>PY rfl<|QE (cs:=(ec (((m.getD j Δ).rest).getD 0 Δ) ie ig ii ij ik im io ip)) ag31 ϱ ϱ dd.cell<|⟨(),⟨K,Sp.refl⟩,(Mx (((m.getD j Δ).rest).getD 0 Δ) iq)⟩
    obtain⟨_,_,_,ir,it⟩:=hG;obtain⟨_,_,_,_,_,_,_,_,rfl,_⟩:=Jb it.rd;obtain⟨_,_,_,_,_,_,_,_,iu,iv⟩:=SR hH;obtain⟨_,_,_,iw,ix⟩:=hK;obtain⟨_,_,_,_,_,_,rfl,_,_,_,_,_⟩:=J3 ix.rd;obtain⟨_,_,_,iy,iz⟩:=hL;obtain⟨_,_,_,_,_,_,rfl,_,_,_,_,_⟩:=J3 iz.rd;obtain⟨_,_,iA,c3⟩:=RS.opn c3;obtain⟨_,_,_,iB,iC⟩:=hR;obtain⟨_,_,_,_,_,_,_,_,rfl,_⟩:=Jb iC.rd;obtain⟨_,_,_,_,_,_,_,_,iD,iE⟩:=SR hT;obtain⟨_,rfl⟩:=mixK L (aC hx<|aC hy<|aC hz<|aC hB<|aC hC<|aC hE<|aC hF<|aC ir<|aC iu<|aC hI<|aC hJ<|aC iw<|aC iy<|aC iA<|aC iB<|aC iD aN);refine OgD (PK K cb54 ϱ ϱ (sw K.bd (Mx (((m.getD i Δ).rest).getD 0 Δ) iv) (Mx (((m.getD j Δ).rest).getD 0 Δ) iE) (hpi.gm.1.rest.at hpi.gm.2)<|(hps _<|Xq ω).gm.1.rest.at (hps _<|Xq ω).gm.2) ?_);intro _ _ bp ak iF;have hn:=(hn.sp aj).sp ak;have hd:=(hd.sp aj).sp ak;have A:=A.sp ak;have hQ:=(hQ.sp aj K<|fun _ h=>h).sp ak bp (fun _ h=>h)
    have ao:=(ao.sp aj).sp ak;have aq:=(aq.sp aj).sp ak;have I:=I.sp ak;have B:=(B.spn aj).spn ak;have D:=(D.spn aj).spn ak;have H:=H.spn ak;subst iF;refine OgD<|PW ϱ ϱ (fun aT=>?_)<|fun aT=>?_
    ·refine OT (Nl<|Ud<|PR<|PT<|W.block ?_);have hpj:=hps _ (Xq (l:=m) (i:=j) ω);have kM:=hpj.e1;have kN:=hpj.e2;refine Rb mixed 7 [[],[0],[],[],[2,3],[4],[5]] bp [fx<|.pointer (some ⟨bG,4,none⟩),fx<|.int .i64 e,fx<|.slice pa p.length pc,fx<|.int .i64 (j:Int),uE av Ji<|m.getD j Δ,fun(s:Unit) (v:Value) (w':World)=>∃(b' o':Nat) (cs':List Value),v= .pointer (some ⟨b',o'+4,none⟩)∧ElAt Ji av w' b' o' cs' (m.getD j Δ),fx<|.int .i64 (m.getD j Δ).exp] κ ⟨sx,sx,sx,sx,tE,(fun _ _ _ _ _ ⟨b,o,cs,e,h⟩ r=>⟨b,o,cs,e,h.tr r.2.tx⟩),sx,trivial⟩ fun iG _ aw am an=>?_
     have A:=A.sp am;have H:=H.spn am;have an:Keep [81,82,83,84,85,86,87] _ iG:=an;refine⟨⟨fun _=>?_,fun⟨iH,_⟩=>?_,fun _=>?_,fun _=>?_,fun⟨iI,iJ,_⟩=>?_,fun⟨iK,_⟩=>?_,fun⟨iL,_⟩=>?_,trivial⟩,fun⟨iM,iN,iO,iP,iQ,iR,iS,_⟩=>?_⟩
     ·exact Sd0 an fun _=>PJ yr rfl<|⟨(),⟨aw,Sp.refl⟩,rfl⟩
     ·exact Sd1 an iH fun _=>PO H pl3 ϱ rfl<|⟨(),⟨aw,Sp.refl⟩,rfl⟩
     ·exact Sd0 an fun _=>PP<|⟨(),⟨aw,Sp.refl⟩,rfl⟩
     ·exact Sd0 an fun _=>PP<|⟨(),⟨aw,Sp.refl⟩,rfl⟩
     ·refine Jf an (aC iI<|aC iJ aN) fun _=>P1 (P4 (j:=j) (u:=(m.getD j Δ)) A Yb Zw ϱ ϱ ϱ (Je ω) ?_);intro _ _ _ de;obtain⟨_,_,_,_,_,_,rfl,_,_,_,_,_⟩:=J3 de.rd;exact⟨(),⟨aw,Sp.refl⟩,⟨_,_,_,rfl,de⟩⟩
     ·obtain⟨_,_,_,iT,df⟩:=iK;obtain⟨_,_,_,_,_,_,rfl,_,_,_,_,_⟩:=J3 df.rd;exact Sd1 an iT fun _=>PJ yr rfl<|⟨(),⟨aw,Sp.refl⟩,⟨_,_,_,rfl,df⟩⟩
     ·obtain⟨_,_,_,iU,dg⟩:=iL;obtain⟨_,_,_,_,_,_,rfl,_,_,_,_,_⟩:=J3 dg.rd;exact Sd1 an iU fun _=>P0 pl3 ϱ (dg.cell 4 _ ϱ)<|⟨(),⟨aw,Sp.refl⟩,rfl⟩
     obtain⟨_,_,_,iV,iW⟩:=iQ;obtain⟨_,_,_,_,_,_,rfl,_,_,_,_,_⟩:=J3 iW.rd;obtain⟨_,_,_,iX,iY⟩:=iR;obtain⟨_,_,_,_,_,_,rfl,_,_,_,_,_⟩:=J3 iY.rd;obtain⟨_,rfl⟩:=mixK an (aC iM<|aC iN<|aC iO<|aC iP<|aC iV<|aC iX<|aC iS aN);refine Ol (St.add (z:=(e+(m.getD j Δ).exp)) ϱ ϱ (Tz _ ω)<|Ol<|PJ yr rfl<|On<|QM (cs':=[(.bool (m.getD i Δ).c.num.neg),(S12 bl (m.getD i Δ).c.num.mag bm),(.bool (m.getD i Δ).c.den.neg),(S12 bn (m.getD i Δ).c.den.mag bo),(.int .i64 (e+(m.getD j Δ).exp)),(S12 ah (m.getD i Δ).rest ai)]) aw H io3 ϱ ϱ ϱ ϱ ϱ ϱ ?_);intro _ dh ax iZ;have hn:=(hn.sp am).sp ax;have hd:=(hd.sp am).sp ax;have A:=A.sp ax;have hQ:=(hQ.sp am aw<|fun _ h=>h).sp ax dh (fun _ h=>h)
     have ao:=(ao.sp am).sp ax;have aq:=(aq.sp am).sp ax;have I:=(I.sp am).sp ax;have B:=(B.spn am).spo ax cS;have D:=(D.spn am).spo ax cT;refine Nl<|PN<|Ub<|St.add ϱ ϱ (Ja (a:=j) (b:=1) ω)<|Ua<|⟨_,ω,_,_,(j+1),(e+(m.getD j Δ).exp),dh,rfl,rfl,rfl,rfl,rfl,rfl,hn,hd,A,hQ,ao,aq,I,B,D,iZ,ω,(qW (ad:=adM) (q:=(⟨(m.getD i Δ).c,e,(m.getD i Δ).rest⟩:GPart)) hA ω aT),⟨by omega,ω⟩,rfl⟩
    refine OT<|Nl<|Ue<|QB<|Rg<|Ol<|PJ yr rfl<|Ol<|PO H pl3 ϱ rfl<|Nl<|W.block<|Rg<|Ol<|PW ϱ ϱ (fun ef=>?_)<|fun ef=>?_
    ·refine Ua<|Ud<|PR<|⟨_,ω,_,_,j,q,qa,qc,bp,rfl,rfl,rfl,rfl,rfl,hn,hd,A,hQ,B,D,ω,ω,(vo hO ω hA (.inr aT)<|MT ω),rfl⟩
    refine Ua<|Ug<|Ol<|PW ϱ ϱ (fun eg=>?_)<|fun eg=>?_
    ·refine Oa (Nl<|Uk<|Ub<|PJ Yf rfl<|Ol<|PO H pl29 ϱ rfl<|Ol<|P4 (j:=0) (u:=(((m.getD i Δ).rest).getD 0 Δ)) I sl29 io31 ϱ ϱ ϱ (Je hpi.gm.2) ?_);intro _ _ _ di;obtain⟨dj,dk,dl,dm,dn,dp,dq,dr,rfl,aO⟩:=Jb di.rd;refine Ol (QE (cs:=(ec (((m.getD i Δ).rest).getD 0 Δ) dj dk dl dm dn dp dq dr)) ag31 ϱ ϱ di.cell<|Ol<|P5 (T:=Jc) (css:=[(ec (((m.getD i Δ).rest).getD 0 Δ) dj dk dl dm dn dp dq dr)]) (l:=[(((m.getD i Δ).rest).getD 0 Δ)]) bp sl29 io31 δ δ ϱ κ ⟨(Ju (((m.getD i Δ).rest).getD 0 Δ) aO.lo aO.hi aO.name aO.n aO.num aO.den aO.args),trivial⟩ ?_);intro _ _ dt aY i0;have hQ:=hQ.sp aY dt<|fun _ h=>h
     have B:=B.spn aY;have D:=D.spn aY;refine Ol (P8 (T:=Jc) dt sl29 io31 ϱ ϱ hQ (Z5 i0) ψ η ϱ ?_);intro _ _ _ i1 bq _ du;have hn:=(hn.sp aY).tr bq.tx;have hd:=(hd.sp aY).tr bq.tx;have A:=(A.sp aY).tr bq.tx;replace B:=B.ap bq B.mem;replace D:=D.ap bq D.mem;obtain⟨i2,i3,rfl,_,_⟩:=du.len;refine Ua<|⟨_,ω,_,_,j,(q++[(((m.getD i Δ).rest).getD 0 Δ)]),i2,i3,i1,rfl,rfl,rfl,rfl,rfl,hn,hd,A,du,B,D,ω,η,(Xg hO ω hA (.inr aT)<|Ni ω),rfl⟩
    refine Oa (Nl<|Ue<|PN<|Ub<|PJ yr rfl<|Ol<|PO H pl3 ϱ rfl<|Ol<|P5 (T:=Zg) (css:=[[(.int .i64 e)]]) (l:=[e]) bp sl23 io3 δ δ ϱ κ ⟨⟨rfl,ω,ω⟩,trivial⟩ ?_);intro dv _ dw aH i4;have hn:=hn.sp aH;have hd:=hd.sp aH;have A:=A.sp aH;have I:=I.sp aH;have H:=H.spn aH;refine Ol (PJ Yf rfl<|Ol<|PO H pl29 ϱ rfl<|Ol<|PX (cs:=[(.int .i64 12),(.slice (some ⟨dv,0,none⟩) 1 1),b13,n11,b13,n11,(str []),(S12 ah (m.getD i Δ).rest ai)]) ϱ κ<|Ol<|P5 (T:=Jc) (css:=[[(.int .i64 12),(.slice (some ⟨dv,0,none⟩) 1 1),b13,n11,b13,n11,(str []),(S12 ah (m.getD i Δ).rest ai)]]) (l:=[(.mk 12 [e] YT [] (m.getD i Δ).rest)]) dw sl29 io31 δ δ ϱ κ ⟨(Vg ω ω ξ i4 RS.nil RS.nil I),trivial⟩ ?_);intro _ _ dx aZ i5;have hQ:=(hQ.sp aH dw<|fun _ h=>h).sp aZ dx (fun _ h=>h)
    have B:=(B.spn aH).spn aZ;have D:=(D.spn aH).spn aZ;refine Ol (P8 (T:=Jc) dx sl29 io31 ϱ ϱ hQ (Z5 i5) ψ η ϱ ?_);intro _ _ _ i6 br _ dy;have hn:=(hn.sp aZ).tr br.tx;have hd:=(hd.sp aZ).tr br.tx;have A:=(A.sp aZ).tr br.tx;replace B:=B.ap br B.mem;replace D:=D.ap br D.mem;obtain⟨i7,i8,rfl,_,_⟩:=dy.len;refine Ua<|⟨_,ω,_,_,j,(q++[(.mk 12 [e] YT [] (m.getD i Δ).rest)]),i7,i8,i6,rfl,rfl,rfl,rfl,rfl,hn,hd,A,dy,B,D,ω,η,(Xg hO ω hA (.inr aT)<|KA ω ω),rfl⟩
   refine Rb mixed 16 [[],[],[1],[0,2],[3],[4],[4,5],[4,6],[4,7],[4],[4],[4,9,10],[4,11],[4,12],[4,13],[4,14]] cV [fx<|.int .i64 (j:Int),fx<|.slice pa p.length pc,fx<|.int .i64 (p.length:Int),fx<|.bool false,fx<|.bool false,noG,noG,noG,noG,noG,noG,noG,noG,noG,noG,noG] κ ⟨sx,sx,sx,sx,sx,YV,YV,YV,YV,YV,YV,YV,YV,YV,YV,YV,trivial⟩ fun i9 _ J aI M=>?_
   have hn:=hn.sp aI;have hd:=hd.sp aI;have A:=A.sp aI;have hQ:=hQ.sp aI J<|fun _ h=>h
   have I:=I.sp aI;have B:=B.spn aI;have D:=D.spn aI;have H:=H.spn aI;have M:Keep [60,61,62,63,64,65,66,67,68,69,70,71,72,73,74,75] _ i9:=M;refine⟨⟨fun _=>?_,fun _=>?_,fun⟨ja,_⟩=>?_,fun⟨jb,jc,_⟩=>?_,fun⟨jd,_⟩=>?_,fun⟨je,_⟩=>?_,fun⟨jf,_,_⟩=>?_,fun⟨jg,_,_⟩=>?_,fun⟨jh,_,_⟩=>?_,fun⟨ji,_⟩=>?_,fun⟨jj,_⟩=>?_,fun⟨jk,_,_,_⟩=>?_,fun⟨jl,_,_⟩=>?_,fun⟨jm,_,_⟩=>?_,fun⟨jn,_,_⟩=>?_,fun⟨jo,_,_⟩=>?_,trivial⟩,fun⟨jp,jq,jr,js,jt,_,_,_,_,_,_,_,_,_,_,_,_⟩=>?_⟩
   ·exact Sd0 M fun _=>PP<|⟨(),⟨J,Sp.refl⟩,rfl⟩
   ·exact Sd0 M fun _=>PP<|⟨(),⟨J,Sp.refl⟩,rfl⟩
   ·exact Sd1 M ja fun _=>St.len Yb rfl<|⟨(),⟨J,Sp.refl⟩,rfl⟩
   ·exact Jf M (aC jb<|aC jc aN) fun _=>P1<|Rn (t:=false) ϱ ϱ (decide_eq_false ω)<|⟨(),⟨J,Sp.refl⟩,rfl⟩
   ·exact Sd1 M jd fun _=>PP<|⟨(),⟨J,Sp.refl⟩,rfl⟩
   ·exact Jf M (aC je aN) fun _=>OpSt.opn ϱ ϱ ⟨(),⟨J,Sp.refl⟩,trivial⟩
   ·exact Jf M (aC jf aN) fun _=>OpSt.opn ϱ ϱ ⟨(),⟨J,Sp.refl⟩,trivial⟩
   ·exact Jf M (aC jg aN) fun _=>OpSt.opn ϱ ϱ ⟨(),⟨J,Sp.refl⟩,trivial⟩
   ·exact Jf M (aC jh aN) fun _=>OpSt.opn ϱ ϱ ⟨(),⟨J,Sp.refl⟩,trivial⟩
   ·exact Jf M (aC ji aN) fun _=>OpSt.opn ϱ ϱ ⟨(),⟨J,Sp.refl⟩,trivial⟩
   ·exact Jf M (aC jj aN) fun _=>OpSt.opn ϱ ϱ ⟨(),⟨J,Sp.refl⟩,trivial⟩
   ·exact Jf M (aC jk aN) fun _=>OpSt.opn ϱ ϱ ⟨(),⟨J,Sp.refl⟩,trivial⟩
   ·exact Jf M (aC jl aN) fun _=>OpSt.opn ϱ ϱ ⟨(),⟨J,Sp.refl⟩,trivial⟩
   ·exact Jf M (aC jm aN) fun _=>OpSt.opn ϱ ϱ ⟨(),⟨J,Sp.refl⟩,trivial⟩
   ·exact Jf M (aC jn aN) fun _=>OpSt.opn ϱ ϱ ⟨(),⟨J,Sp.refl⟩,trivial⟩
   ·exact Jf M (aC jo aN) fun _=>OpSt.opn ϱ ϱ ⟨(),⟨J,Sp.refl⟩,trivial⟩
   obtain⟨_,rfl⟩:=mixK M (aC jp<|aC jq<|aC jr<|aC js<|aC jt aN);refine Oz<|Oz<|OF<|Nl<|Ue<|QB<|Rg<|Ol<|PJ yr rfl<|Ol<|PO H pl3 ϱ rfl<|Nl<|W.block<|Rg<|Ol<|PW ϱ ϱ (fun eh=>?_)<|fun eh=>?_
   ·refine Ua<|Ud<|PR<|⟨_,ω,_,_,j,q,qa,qc,J,rfl,rfl,rfl,rfl,rfl,hn,hd,A,hQ,B,D,ω,ω,(vo hO ω hA (.inl ω)<|MT ω),rfl⟩
   refine Ua<|Ug<|Ol<|PW ϱ ϱ (fun ei=>?_)<|fun ei=>?_
   ·refine Oa (Nl<|Uk<|Ub<|PJ Yf rfl<|Ol<|PO H pl29 ϱ rfl<|Ol<|P4 (j:=0) (u:=(((m.getD i Δ).rest).getD 0 Δ)) I sl29 io31 ϱ ϱ ϱ (Je hpi.gm.2) ?_);intro _ _ _ dz;obtain⟨dA,dB,dC,dD,dE,dF,dG,dH,rfl,aP⟩:=Jb dz.rd;refine Ol (QE (cs:=(ec (((m.getD i Δ).rest).getD 0 Δ) dA dB dC dD dE dF dG dH)) ag31 ϱ ϱ dz.cell<|Ol<|P5 (T:=Jc) (css:=[(ec (((m.getD i Δ).rest).getD 0 Δ) dA dB dC dD dE dF dG dH)]) (l:=[(((m.getD i Δ).rest).getD 0 Δ)]) J sl29 io31 δ δ ϱ κ ⟨(Ju (((m.getD i Δ).rest).getD 0 Δ) aP.lo aP.hi aP.name aP.n aP.num aP.den aP.args),trivial⟩ ?_);intro _ _ dI a0 ju;have hQ:=hQ.sp a0 dI<|fun _ h=>h
    have B:=B.spn a0;have D:=D.spn a0;refine Ol (P8 (T:=Jc) dI sl29 io31 ϱ ϱ hQ (Z5 ju) ψ η ϱ ?_);intro _ _ _ jv bs _ dJ;have hn:=(hn.sp a0).tr bs.tx;have hd:=(hd.sp a0).tr bs.tx;have A:=(A.sp a0).tr bs.tx;replace B:=B.ap bs B.mem;replace D:=D.ap bs D.mem;obtain⟨jw,jx,rfl,_,_⟩:=dJ.len;refine Ua<|⟨_,ω,_,_,j,(q++[(((m.getD i Δ).rest).getD 0 Δ)]),jw,jx,jv,rfl,rfl,rfl,rfl,rfl,hn,hd,A,dJ,B,D,ω,η,(Xg hO ω hA (.inl ω)<|Ni ω),rfl⟩
   refine Oa (Nl<|Ue<|PN<|Ub<|PJ yr rfl<|Ol<|PO H pl3 ϱ rfl<|Ol<|P5 (T:=Zg) (css:=[[(.int .i64 e)]]) (l:=[e]) J sl23 io3 δ δ ϱ κ ⟨⟨rfl,ω,ω⟩,trivial⟩ ?_);intro dK _ dL aJ jy;have hn:=hn.sp aJ;have hd:=hd.sp aJ;have A:=A.sp aJ;have I:=I.sp aJ;have H:=H.spn aJ;refine Ol (PJ Yf rfl<|Ol<|PO H pl29 ϱ rfl<|Ol<|PX (cs:=[(.int .i64 12),(.slice (some ⟨dK,0,none⟩) 1 1),b13,n11,b13,n11,(str []),(S12 ah (m.getD i Δ).rest ai)]) ϱ κ<|Ol<|P5 (T:=Jc) (css:=[[(.int .i64 12),(.slice (some ⟨dK,0,none⟩) 1 1),b13,n11,b13,n11,(str []),(S12 ah (m.getD i Δ).rest ai)]]) (l:=[(.mk 12 [e] YT [] (m.getD i Δ).rest)]) dL sl29 io31 δ δ ϱ κ ⟨(Vg ω ω ξ jy RS.nil RS.nil I),trivial⟩ ?_);intro _ _ dM a3 jz;have hQ:=(hQ.sp aJ dL<|fun _ h=>h).sp a3 dM (fun _ h=>h)
   have B:=(B.spn aJ).spn a3;have D:=(D.spn aJ).spn a3;refine Ol (P8 (T:=Jc) dM sl29 io31 ϱ ϱ hQ (Z5 jz) ψ η ϱ ?_);intro _ _ _ jA bt _ dN;have hn:=(hn.sp a3).tr bt.tx;have hd:=(hd.sp a3).tr bt.tx;have A:=(A.sp a3).tr bt.tx;replace B:=B.ap bt B.mem;replace D:=D.ap bt D.mem;obtain⟨jB,jC,rfl,_,_⟩:=dN.len;refine Ua<|⟨_,ω,_,_,j,(q++[(.mk 12 [e] YT [] (m.getD i Δ).rest)]),jB,jC,jA,rfl,rfl,rfl,rfl,rfl,hn,hd,A,dN,B,D,ω,η,(Xg hO ω hA (.inl ω)<|KA ω ω),rfl⟩
  refine Nl (Ue<|QB<|PT<|W.block<|PT ?_);have hOM:=Lg hpe bF (rA hO ω);obtain⟨_,dO,b6,ae⟩:=hQ.freeze cK hX;have hn:=hn.tr (Tr.weak b6);have hd:=hd.tr (Tr.weak b6);refine PN (Ol<|Uo (vs:=(qqC c na nc da dc)) S ag28<|Ol<|PK dO nh ϱ ϱ (Q8 dO.bd (a:=c) (Jz hn hd) ω ω) ?_);intro _ _ a4 aQ jD;have hn:=hn.sp aQ;have hd:=hd.sp aQ;have S:=S.spn aQ;subst jD;refine Ol<|PW ϱ ϱ (fun ej=>?_)<|fun ej=>?_
  ·refine Om (Oz<|Oz<|Oz<|OT<|Ua<|Uf<|Ol<|Uo (vs:=(qqC c na nc da dc)) S ag28<|Ol<|PK a4 cb93 ϱ ϱ (Ke a4.bd (c:=c) (Jz hn hd) ω ω) ?_);intro _ _ jE jF jG;have E:=(E.spn aQ).spn jF;obtain⟨jH,jI,jJ,jK,jL,jM,jN,jO,rfl,bY⟩:=SR jG;refine On (Us (cs':=(ec (nbE c.q) jH jI jJ jK jL jM jN jO)) jE E io31 ?_);intro _ dP jP jQ;have bY:=bY.sp jP;exact Nl<|PS<|J1 ϱ ϱ jQ ag31 dP ⟨(nbE c.q),(Mx (nbE c.q) bY).tr dP.wb,(zJ hOM hcq<|.inl (mI ω))⟩
  refine Om<|OgD<|PP<|OgD<|St.len sl29 rfl<|OgD<|PW ϱ ϱ (fun ek=>?_)<|fun ek=>?_
  ·refine OF (Ua<|Uf<|Ol<|Uo (vs:=(qqC c na nc da dc)) S ag28<|Ol<|PK a4 cb93 ϱ ϱ (Ke a4.bd (c:=c) (Jz hn hd) ω ω) ?_);intro _ _ jR jS jT;have E:=(E.spn aQ).spn jS;obtain⟨jU,jV,jW,jX,jY,jZ,j0,j1,rfl,bZ⟩:=SR jT;refine On (Us (cs':=(ec (nbE c.q) jU jV jW jX jY jZ j0 j1)) jR E io31 ?_);intro _ dQ j2 j3;have bZ:=bZ.sp j2;exact Nl<|PS<|J1 ϱ ϱ j3 ag31 dQ ⟨(nbE c.q),(Mx (nbE c.q) bZ).tr dQ.wb,(zJ hOM hcq<|.inr ω)⟩
  refine OF (Ua<|Ug<|Ol<|Uo (vs:=(qqC c na nc da dc)) S ag28<|Ol<|QF<|PK a4 Ib ϱ ϱ (BE a4.bd (c:=c) (Jz hn hd) hcl.1 hcl.2) ?_);intro _ _ aR bu j4;have hn:=hn.sp bu;have hd:=hd.sp bu;have ae:=(ae.sp aQ).sp bu;have E:=(E.spn aQ).spn bu;have S:=S.spn bu;refine⟨_,j4,fun aU=>?_,fun aU=>?_⟩
  ·refine Oa (Nl<|Uf<|Ub<|PK aR vK ϱ ϱ (Vm aR.bd ae δ δ) ?_);intro _ _ j5 j6 j7;have E:=E.spn j6;obtain⟨j8,j9,ka,kb,kc,kd,ke,kf,rfl,b0⟩:=SR j7;refine On (Us (cs':=(ec (sevE 11 q) j8 j9 ka kb kc kd ke kf)) j5 E io31 ?_);intro _ dR kg kh;have b0:=b0.sp kg;exact Nl<|PS<|J1 ϱ ϱ kh ag31 dR ⟨(sevE 11 q),(Mx (sevE 11 q) b0).tr dR.wb,(B7 hOM hcq (of_decide_eq_true aU) ω)⟩
  refine Ua<|Ug<|Ub<|St.len sl29 rfl<|Ol<|PW ϱ ϱ (fun el=>?_)<|fun el=>?_
  ·refine Om (OgD<|PP<|OgD<|P4 (j:=0) (u:=(q.getD 0 Δ)) ae sl29 io31 ϱ ϱ ϱ (Je ω) ?_);intro _ _ _ dS;obtain⟨_,_,_,_,_,_,_,_,rfl,_⟩:=Jb dS.rd;refine OgD<|PJ Jw rfl<|OgD<|P0 pl3 ϱ (dS.cell 0 _ ϱ)<|OgD<|PW ϱ ϱ (fun em=>?_)<|fun em=>?_
   ·refine OT (Ua<|Ud<|PT ?_);have hD:=OO hM hOM ω ω;have hsl:=hD.wd.len;refine PN (Ua<|Rh<|Ub<|P4 (j:=0) (u:=(q.getD 0 Δ)) ae sl29 io31 ϱ ϱ ϱ (Je ω) ?_);intro _ _ _ dT;obtain⟨_,_,_,_,_,_,dU,dV,rfl,ki⟩:=Jb dT.rd;refine Ol (PJ J8 rfl<|Ol<|P0 pl29 ϱ (dT.cell 7 _ ϱ)<|Ol<|St.len sl29 rfl<|Om<|Nl<|W.block ?_);have aa:=ki.args;refine P7 (fun μ f v=>∃(x y:Nat→Prop) (i:Nat) (xs:List GExpr) (xa:Option Addr) (xc:Nat),Cx X w x y v∧f 2=(P10 g3 0)∧f 3=(P10 a6 0)∧f 142=(S12 dU (q.getD 0 Δ).args dV)∧f 143=(.int .i64 (q.getD 0 Δ).args.length)∧f 144=(.int .i64 i)∧f 10=(S12 xa xs xc)∧RS Jh x v (S12 na c.num.mag nc) c.num.mag∧RS Jh x v (S12 da c.den.mag dc) c.den.mag∧RS Jc x v (S12 dU (q.getD 0 Δ).args dV) (q.getD 0 Δ).args∧OS Jc 31 w x y v (S12 xa xs xc) xs∧Own w y v g3 zX 31∧Own w y v a6 (qqC c na nc da dc) 28∧i≤(q.getD 0 Δ).args.length∧xs.length=i∧(∀k,k<xs.length→MulR [nbE c.q,(q.getD 0 Δ).args.getD k Δ] (xs.getD k Δ))∧μ=((q.getD 0 Δ).args.length-i)) _ ⟨_,_,0,[],none,0,aR,rfl,rfl,rfl,rfl,rfl,rfl,hn,hd,aa,OS.nil,E,S,(Tv _),rfl,(fun k h=>absurd h<|TC k),rfl⟩ ?_;rintro _ _ _ ⟨_,_,i,xs,xa,xc,dW,dX,dY,dZ,d0,d1,d2,hn,hd,aa,hXs,U,V,hi,hxl,hxs,_⟩;obtain⟨_,rfl⟩:=rebK (aC dX<|aC dY<|aC dZ<|aC d0<|aC d1<|aC d2 aN);clear dX dY dZ d0 d1 d2;refine Rg<|Ol<|P2 ϱ ϱ (fun en=>?_)<|fun en=>?_
    ·refine Nl (PT<|Ud<|PR<|PT<|W.block<|Rg<|Ol<|P4 (j:=i) (u:=(((q.getD 0 Δ).args).getD i Δ)) aa sl29 io31 ϱ ϱ ϱ (Je ω) ?_);intro _ _ _ d3;obtain⟨bv,bw,bx,bz,bA,bB,bC,bD,rfl,af⟩:=Jb d3.rd;refine Ol (QE (cs:=(ec (((q.getD 0 Δ).args).getD i Δ) bv bw bx bz bA bB bC bD)) ag31 ϱ ϱ d3.cell<|Ol<|QU dW io31 ϱ ?_);intro _ _ kj kk b7 d4 aS kl km;have kn:=b7 _ U.blk.lt;have ko:=b7 _ V.blk.lt;have hn:=hn.sp aS;have hd:=hd.sp aS;have aa:=aa.sp aS;have af:=af.sp aS;have V:=V.spn aS;refine On (Us (cs':=(ec (((q.getD 0 Δ).args).getD i Δ) bv bw bx bz bA bB bC bD)) d4 kl io31 ?_);intro _ b8 ay bH;have hXs:=(hXs.sp aS d4 km).sp ay b8 (fun _ h=>h)
     have U:=(U.spn aS).spo ay kn;refine Nl<|SF [(4,0)] ϱ κ (fun _ _ _ _ h=>h) mixed 4 [[],[],[1],[]] (kj,kk) (RCu X w) [fx<|.slice xa xs.length xc,fx<|.agg #[(.bool c.num.neg),(S12 na c.num.mag nc),(.bool c.den.neg),(S12 da c.den.mag dc)],fr Jc<|nbE c.q,fx<|ea (((q.getD 0 Δ).args).getD i Δ) bv bw bx bz bA bB bC bD] κ (RCu.draw b8) RCu.trans ⟨sx,sx,(fun _ _ _ _ _ h r=>RV.tr h r.sp.tx),sx,trivial⟩ fun eo ba _ bI az=>?_
     have aA:=bI.cx;have ag:=bI.sp;have hn:=(hn.sp ay).sp ag;have hd:=(hd.sp ay).sp ag;have aa:=(aa.sp ay).sp ag;have af:=(af.sp ay).sp ag;have V:=(V.spo ay ko).spn ag;have bH:=bH.spn ag;have az:Keep [148,149,150,151] _ eo:=az;refine⟨⟨fun _=>?_,fun _=>?_,fun⟨ep,_⟩=>?_,fun _=>?_,trivial⟩,fun⟨eq,er,es,et,_⟩=>?_⟩
     ·exact Sd0 az fun _=>PP ⟨ba,RCu.same aA,rfl⟩
     ·exact Sd0 az fun _=>QC (vs:=(qqC c na nc da dc)) V ag28 ϱ ϱ ϱ ⟨ba,RCu.same aA,rfl⟩
     ·refine Sd1 az ep fun _=>PK aA cb93 ϱ ϱ (Ke aA.bd (c:=c) (Jz hn hd) ω ω) ?_;intro _ _ eu ev ew;exact⟨ba,⟨eu,ev,fun _ h=>h⟩,ew⟩
     ·exact Sd0 az fun _=>QC (vs:=(ec (((q.getD 0 Δ).args).getD i Δ) bv bw bx bz bA bB bC bD)) bH ag31 ϱ ϱ ϱ ⟨ba,RCu.same aA,rfl⟩
     obtain⟨ey,ez,eA,eB,eC,eD,eE,eF,eG,aB⟩:=SR es;obtain⟨_,rfl⟩:=mixK az (aC eq<|aC er<|aC eG<|aC et aN);refine Ol (P5 (T:=Jc) (css:=[(ec (nbE c.q) ey ez eA eB eC eD eE eF),(ec (((q.getD 0 Δ).args).getD i Δ) bv bw bx bz bA bB bC bD)]) (l:=[(nbE c.q),(((q.getD 0 Δ).args).getD i Δ)]) aA sl29 io31 δ δ ϱ κ ⟨(Ju (nbE c.q) aB.lo aB.hi aB.name aB.n aB.num aB.den aB.args),(Ju (((q.getD 0 Δ).args).getD i Δ) af.lo af.hi af.name af.n af.num af.den af.args),trivial⟩ ?_);intro _ _ bJ aK eH;have hXs:=(hXs.sp ag aA<|bI.up).sp aK bJ (fun _ h=>h)
     have U:=(U.spn ag).spn aK;have V:=V.spn aK;refine Ol (PK bJ cb96 ϱ ϱ (ih bJ.bd eH (tk hD ω hcq<|Jp ω) (by have:=hD.ds;omega)) ?_);intro _ _ b9 aL eI;have hn:=(hn.sp aK).sp aL;have hd:=(hd.sp aK).sp aL;have aa:=(aa.sp aK).sp aL;obtain⟨bb,eJ,d5⟩:=eI;obtain⟨eK,eL,eM,eN,eO,eP,eQ,eR,rfl,aD⟩:=SR eJ;refine Ol (P5 (T:=Jc) (css:=[(ec bb eK eL eM eN eO eP eQ eR)]) (l:=[bb]) b9 sl29 io31 δ δ ϱ κ ⟨(Ju bb aD.lo aD.hi aD.name aD.n aD.num aD.den aD.args),trivial⟩ ?_);intro _ _ ca aM eS;have hXs:=(hXs.sp aL b9<|fun _ h=>h).sp aM ca (fun _ h=>h)
     have U:=(U.spn aL).spn aM;have V:=(V.spn aL).spn aM;refine Ol (P8 (T:=Jc) ca sl29 io31 ϱ ϱ hXs (Z5 eS) ψ η ϱ ?_);intro _ _ _ eT aV _ cb;have hn:=(hn.sp aM).tr aV.tx;have hd:=(hd.sp aM).tr aV.tx;have aa:=(aa.sp aM).tr aV.tx;replace U:=U.ap aV U.mem;replace V:=V.ap aV V.mem;obtain⟨eU,eV,rfl,_,_⟩:=cb.len;refine Ua<|PN<|Ol<|St.add ϱ ϱ (Ja (a:=i) (b:=1) ω)<|Om<|Nl<|⟨_,ω,_,_,(i+1),(xs++[bb]),eU,eV,eT,rfl,rfl,rfl,rfl,rfl,rfl,hn,hd,aa,cb,U,V,ω,η,(oa (R:=fun k y=>MulR [nbE c.q,(q.getD 0 Δ).args.getD k Δ] y) hxs<|hxl▸d5),rfl⟩
    refine Nl (PT<|Ue<|QB<|Rg<|Om ?_);obtain⟨_,cc,_,eW⟩:=hXs.freeze dW hX;refine Ol (PK cc cb95 ϱ ϱ (I6 cc.bd eW<|Cw hD ω hcq (qk ω) ω<|fun k hk=>hxs k ω) ?_);intro _ _ eX eY eZ;have U:=U.spn eY;obtain⟨bK,e0,d6⟩:=eZ;obtain⟨e3,e4,e5,e6,e7,e8,e9,fa,rfl,bL⟩:=SR e0;refine On (Us (cs':=(ec bK e3 e4 e5 e6 e7 e8 e9 fa)) eX U io31 ?_);intro _ cd fb fc;have bL:=bL.sp fb;exact Nl<|PS<|J1 ϱ ϱ fc ag31 cd ⟨bK,(Mx bK bL).tr cd.wb,(DL hOM hcq (qk ω) (of_decide_eq_false aU) ω ω ω (fun k hk=>hxs k ω) d6)⟩
   refine OT (Ua<|Uc<|Rg<|Ol<|Uo (vs:=(qqC c na nc da dc)) S ag28<|Ol<|PK aR cb93 ϱ ϱ (Ke aR.bd (c:=c) (Jz hn hd) ω ω) ?_);intro _ _ fd ce ff;have E:=E.spn ce;obtain⟨fg,fh,fi,fj,fk,fm,fn,fo,rfl,aE⟩:=SR ff;refine Ol (P5 (T:=Jc) (css:=[(ec (nbE c.q) fg fh fi fj fk fm fn fo)]) (l:=[(nbE c.q)]) fd sl29 io31 δ δ ϱ κ ⟨(Ju (nbE c.q) aE.lo aE.hi aE.name aE.n aE.num aE.den aE.args),trivial⟩ ?_);intro _ _ fp cf fq;have ae:=(ae.sp ce).sp cf;refine Om (Ol<|Ri (T:=Jc) fp sl29 io31 ϱ ϱ fq (Z5 ae) ψ η ϱ ?_);intro _ _ ft fu bc;have E:=(E.spn cf).spn fu;obtain⟨cg,ch,rfl,_,_⟩:=bc.len;refine Ol (PX (cs:=[(.int .i64 11),n11,b13,n11,b13,n11,(str []),(.slice cg ([(nbE c.q)]++q).length ch)]) ϱ κ<|On<|Us (cs':=[(.int .i64 11),n11,b13,n11,b13,n11,(str []),(.slice cg ([(nbE c.q)]++q).length ch)]) ft E io31 ?_);intro _ ci fv fy;have bc:=bc.sp fv;exact Nl<|PS<|J1 ϱ ϱ fy ag31 ci<|⟨(.mk 11 [] YT [] ([(nbE c.q)]++q)),(Zb ω ω ξ RS.nil RS.nil RS.nil bc).tr ci.wb,(uj (out:=q) (c:=c.q) hOM hcq (qk ω) (of_decide_eq_false aU) ω ω)⟩
  refine Om (Oz<|Oz<|Oz<|Oz<|Oz<|OF<|Ua<|Uc<|Rg<|Ol<|Uo (vs:=(qqC c na nc da dc)) S ag28<|Ol<|PK aR cb93 ϱ ϱ (Ke aR.bd (c:=c) (Jz hn hd) ω ω) ?_);intro _ _ fz cj fA;have E:=E.spn cj;obtain⟨fB,fC,fD,fF,fG,fH,fI,fJ,rfl,aF⟩:=SR fA;refine Ol (P5 (T:=Jc) (css:=[(ec (nbE c.q) fB fC fD fF fG fH fI fJ)]) (l:=[(nbE c.q)]) fz sl29 io31 δ δ ϱ κ ⟨(Ju (nbE c.q) aF.lo aF.hi aF.name aF.n aF.num aF.den aF.args),trivial⟩ ?_);intro _ _ fK ck fL;have ae:=(ae.sp cj).sp ck;refine Om (Ol<|Ri (T:=Jc) fK sl29 io31 ϱ ϱ fL (Z5 ae) ψ η ϱ ?_);intro _ _ fM fN be;have E:=(E.spn ck).spn fN;obtain⟨cm,cn,rfl,_,_⟩:=be.len;refine Ol (PX (cs:=[(.int .i64 11),n11,b13,n11,b13,n11,(str []),(.slice cm ([(nbE c.q)]++q).length cn)]) ϱ κ<|On<|Us (cs':=[(.int .i64 11),n11,b13,n11,b13,n11,(str []),(.slice cm ([(nbE c.q)]++q).length cn)]) fM E io31 ?_);intro _ co fO fP;have be:=be.sp fO;exact Nl<|PS<|J1 ϱ ϱ fP ag31 co<|⟨(.mk 11 [] YT [] ([(nbE c.q)]++q)),(Zb ω ω ξ RS.nil RS.nil RS.nil be).tr co.wb,(uj (out:=q) (c:=c.q) hOM hcq (qk ω) (of_decide_eq_false aU) ω ω)⟩
theorem He{X:Nat→Prop}{w:World}(hX:XB X w){a:Value}{l:List GExpr}(b:RS Jc X w a l){d:Nat}(hM:MulP d l):CRt 96 #[a] w fun v w'=>(∃m':GExpr,RV Jc X w' v m'∧(MulR l m')):=IK (d+1) hX b hM (VM _)
theorem AW(N:Nat):∀ {X:Nat→Prop} {w:World} (hX:XB X w) {B:Value} {a:GExpr} (D:RV Jc X w B a)  (hN:(SizeOf.sizeOf a)<N),CRt 37 #[B] w fun v _=>v=(.bool (Yi a)):=by
 induction N with
 |zero=>intro X w hX B a D hN;exact absurd hN<|TC _
 |succ N ih=>
  intro X w hX B a D hN;obtain⟨a1,K,L,M,P,Q,R,S,rfl,d⟩:=SR D;have C:=PV hX;have hal:=D.args_max;refine Cgo Tryz.func37 r r r (Rg<|Ol<|QA C r ?_);intro E _ _ _ _ e U g;have d:=d.sp U;refine Ua<|Rh<|Ol<|PJ Zi rfl<|Ol<|PO g pl23 r rfl<|Ol<|St.len sl23 rfl<|Ol<|QN r r (fun m=>?_)<|fun m=>?_
  ·refine Om (Oz<|Oz<|Oz<|Oz<|Oz<|Oz<|OT<|Om<|Oz<|Oz<|Oz<|Oz<|Oz<|Oz<|OT<|Om<|Oz<|Oz<|Ox r r r ?_);exact Oz<|OT<|Nl<|Uf<|Ua<|PS<|Wq r r e<|YS<|l4 o
  refine Om<|OgD<|PJ Yv rfl<|OgD<|PJ Y7 rfl<|OgD<|PJ Yu rfl<|OgD<|PO g pl24 r rfl<|OgD<|St.len sl24 rfl<|OgD<|QN r r (fun p=>?_)<|fun p=>?_
  ·refine OF (Om<|Oz<|Oz<|Oz<|Oz<|Oz<|Oz<|OT<|Om<|Oz<|Oz<|Oz<|Oz<|OT<|Nl<|Uf<|Oa<|Nl ?_);exact PS<|Wq r r e<|YS<|l4 o
  refine OF<|Om<|OgD<|PJ Yv rfl<|OgD<|PJ Yy rfl<|OgD<|PJ Yu rfl<|OgD<|PO g pl24 r rfl<|OgD<|St.len sl24 rfl<|OgD<|QN r r (fun s=>?_)<|fun s=>?_
  ·exact OF<|Om<|Oz<|Oz<|Oz<|Oz<|OT<|Nl<|Uf<|Ua<|PS<|Wq r r e<|YS<|l4 o
  refine OF<|Om<|OgD<|PJ X5 rfl<|OgD<|PO g pl9 r rfl<|OgD<|QW un9 rfl<|OgD<|QN r r (fun z=>?_)<|fun z=>?_
  ·exact OF<|Nl<|Uf<|Ua<|PS<|Wq r r e<|YS<|l4 o
  refine OF (Nl<|Uc<|Rh<|Ua<|W.block<|P7 (fun μ f v=>∃(x y:Nat→Prop) (i:Nat),Cx X w x y v∧f 1=(P10 E 0)∧f 3=(.int .i64 i)∧ExprParts x v a a1 K L M P Q R S∧Own w y v E (ec a a1 K L M P Q R S) 31∧i≤a.args.length∧(∀j,j<i→Yi (Ar a j)=true)∧μ=(a.args.length-i)) _ ⟨_,_,0,e,rfl,rfl,d,g,(Tv _),(fun _ h=>absurd h<|TC _),rfl⟩ ?_);rintro _ _ _ ⟨_,_,i,A,F,G,d,k,_,hall,_⟩;obtain⟨_,rfl⟩:=rebK (aC F<|aC G aN);clear F G;refine Rh<|Ub<|PJ J8 rfl<|Ol<|PO k pl29 r rfl<|Ol<|St.len sl29 rfl<|Ol<|P2 r r (fun T=>?_)<|fun T=>?_
  ·refine Nl (Ud<|PR<|PT<|W.block<|Rg<|Ol<|PJ J8 rfl<|Ol<|PO k pl29 r rfl<|Ub<|P4 (j:=i) (u:=(Ar a i)) d.args sl29 io31 r r r (Je o) ?_);intro _ _ _ H;obtain⟨V,Y,Z,aa,ab,ac,ad,ae,rfl,af⟩:=Jb H.rd;refine Ol (QE (cs:=(ec (Ar a i) V Y Z aa ab ac ad ae)) ag31 r r H.cell<|Ol<|QF<|PK A cb37 r r (ih A.bd (Mx (Ar a i) af)<|Ti (Kz o)<|Nat.le_of_lt_succ hN) ?_);intro _ _ I J ag;have d:=d.sp J;have k:=k.spn J;refine⟨_,ag,fun l=>?_,fun l=>?_⟩
   ·refine Ol<|QI rfl<|Nl<|Uc<|PN<|Ub<|St.add r r (Ja (a:=i) (b:=1) o)<|Ua<|⟨_,o,_,_,(i+1),I,rfl,rfl,d,k,o,(qp hall l),rfl⟩
   exact Ol<|QI rfl<|Nl<|Uf<|Ua<|PS<|Wq r r I<|YS<|si (i:=i) o l
  exact Nl<|Ue<|QB<|Rg<|Ua<|PS<|Wq r r A<|YS<|A5 m p s z o hall
theorem Ik{X:Nat→Prop}{w:World}(hX:XB X w)(d:RV Jc X w b a)  :CRt 37 #[b] w fun v _=>v=(.bool (Yi a)):=AW ((SizeOf.sizeOf a)+1) hX d (VM _)
theorem yP(N:Nat):∀ {X:Nat→Prop} {w:World} (hX:XB X w) {Z:Value} {a:GExpr} (r0:RV Jc X w Z a) {m:Int} (pa:Yi a=true) (hN:(SizeOf.sizeOf a)<N),CRt 38 #[Z,(.int .i64 m)] w fun v _=>∃n:Int,v= .int .i64 n:=by
 induction N with
 |zero=>intro X w hX Z a r0 m pa hN;exact absurd hN<|TC _
 |succ N ih=>
  intro X w hX Z a r0 m pa hN;obtain⟨a1,s,B,D,E,F,G,H,rfl,h⟩:=SR r0;have C:=PV hX;have hal:=r0.args_max;obtain⟨_,_,_,_,_⟩:=K9.1 pa;refine Cgo Tryz.func38 r r r (Rg<|Ol<|QA C r ?_);intro l _ _ _ _ ae aQ A;have h:=h.sp aQ;refine Ua<|Rg<|Ua<|PT<|Rm (fun f v=>∃(x y:Nat→Prop) (z:Int),Cx X w x y v∧f 1=(.int .i64 m)∧f 2=(P10 l 0)∧f 5=(.int .i64 z)∧ExprParts x v a a1 s B D E F G H∧Own w y v l (ec a a1 s B D E F G H) 31) ?_ ?_
  ·refine Rg<|Ol<|PJ Jw rfl<|Ol<|PO A pl3 r rfl<|Ol<|PW r r (fun ao=>?_)<|fun ao=>?_
   ·refine Nl (Uk<|Ol<|PJ Yv rfl<|Ol<|PJ Y7 rfl<|Ol<|PJ Yu rfl<|Ol<|PO A pl24 r rfl<|Ol<|St.len sl24 rfl<|Ol<|PJ Yv rfl<|Ol<|PJ Yy rfl<|Ol<|PJ Yu rfl<|Ol<|PO A pl24 r rfl<|Ol<|St.len sl24 rfl<|Ol<|St.add r r (Ja (a:=a.c.num.mag.length) (b:=a.c.den.mag.length) o) ?_);refine Ol<|Rq r r (K3 (a:=32) (b:=a.c.num.mag.length+a.c.den.mag.length) o)<|Ub<|Rq (z:=(IntKind.i64.wrap<|((32*(a.c.num.mag.length+a.c.den.mag.length):Nat):Int)*m)) r r rfl<|Ol<|Ry r r δ rfl<|Ua<|⟨_,_,(IntKind.i64.wrap<|Int.tdiv (IntKind.i64.wrap<|((32*(a.c.num.mag.length+a.c.den.mag.length):Nat):Int)*m) 4),ae,rfl,rfl,rfl,h,A⟩
   refine Nl<|Uc<|⟨_,_,0,ae,rfl,rfl,rfl,h,A⟩
  rintro _ _ ⟨_,_,z,K,af,ag,ah,h,k⟩;obtain⟨_,rfl⟩:=rebK (aC af<|aC ag<|aC ah aN);clear af ag ah;refine PT<|Rm (fun f v=>∃(x y:Nat→Prop) (t:Int),Cx X w x y v∧f 2=(P10 l 0)∧f 5=(.int .i64 z)∧f 1=(.int .i64 t)∧ExprParts x v a a1 s B D E F G H∧Own w y v l (ec a a1 s B D E F G H) 31) ?_ ?_
  ·refine Rg<|Ol<|PJ Jw rfl<|Ol<|PO k pl3 r rfl<|Ol<|PW r r (fun aq=>?_)<|fun aq=>?_
   ·refine Om<|OgD<|PJ Zi rfl<|OgD<|PO k pl23 r rfl<|OgD<|St.len sl23 rfl<|OgD<|QN r r (fun ar=>?_)<|fun ar=>?_
    ·refine OT<|Nl<|Ud<|QL mixed 14 [[],[],[1],[2],[3],[4],[],[6],[7],[8],[9],[10],[11],[5,12]] K [fx<|.int .i64 m,fx<|.pointer (some ⟨l,1,none⟩),fx<|.slice a1 a.n.length s,fE Zg<|a.n.getD 0 0,fx<|.int .i64 (a.n.getD 0 0),fx<|.int .i64 (if 1000<(a.n.getD 0 0) then 1000 else(a.n.getD 0 0)),fx<|.pointer (some ⟨l,1,none⟩),fx<|.slice a1 a.n.length s,fE Zg<|a.n.getD 0 0,fx<|.int .i64 (a.n.getD 0 0),fx<|.int .i64 (if(-1000)>(a.n.getD 0 0) then(-1000) else(a.n.getD 0 0)),fx<|.int .i64 (IntKind.i64.wrap<|0-(if(-1000)>(a.n.getD 0 0) then(-1000) else(a.n.getD 0 0))),fx<|.int .i64 (if 1000<(IntKind.i64.wrap<|0-(if(-1000)>(a.n.getD 0 0) then(-1000) else(a.n.getD 0 0))) then 1000 else(IntKind.i64.wrap<|0-(if(-1000)>(a.n.getD 0 0) then(-1000) else(a.n.getD 0 0)))),fx<|.int .i64 (if(if 1000<(IntKind.i64.wrap<|0-(if(-1000)>(a.n.getD 0 0) then(-1000) else(a.n.getD 0 0))) then 1000 else(IntKind.i64.wrap<|0-(if(-1000)>(a.n.getD 0 0) then(-1000) else(a.n.getD 0 0))))>(if(if 1000<(a.n.getD 0 0) then 1000 else(a.n.getD 0 0))>1 then(if 1000<(a.n.getD 0 0) then 1000 else(a.n.getD 0 0)) else 1) then(if 1000<(IntKind.i64.wrap<|0-(if(-1000)>(a.n.getD 0 0) then(-1000) else(a.n.getD 0 0))) then 1000 else(IntKind.i64.wrap<|0-(if(-1000)>(a.n.getD 0 0) then(-1000) else(a.n.getD 0 0)))) else(if(if 1000<(a.n.getD 0 0) then 1000 else(a.n.getD 0 0))>1 then(if 1000<(a.n.getD 0 0) then 1000 else(a.n.getD 0 0)) else 1))] κ ⟨sx,sx,sx,sE,sx,sx,sx,sx,sE,sx,sx,sx,sx,sx,trivial⟩ fun aR g _ ⟨e,ai⟩ d=>?_
     have h:=h.sp ai;have k:=k.spn ai;have d:Keep [34,35,36,37,38,39,40,41,42,43,44,45,46,47] _ aR:=d;refine⟨⟨fun _=>?_,fun _=>?_,fun⟨aS,_⟩=>?_,fun⟨aT,_⟩=>?_,fun⟨aU,_⟩=>?_,fun⟨aV,_⟩=>?_,fun _=>?_,fun⟨aW,_⟩=>?_,fun⟨aX,_⟩=>?_,fun⟨aY,_⟩=>?_,fun⟨aZ,_⟩=>?_,fun⟨a0,_⟩=>?_,fun⟨a4,_⟩=>?_,fun⟨a6,a8,_⟩=>?_,trivial⟩,fun⟨a9,ba,bb,bc,be,bf,bg,bh,bi,bj,bk,bl,bm,bn,_⟩=>?_⟩
     ·exact Sd0 d fun _=>PP ⟨g,PQ e,rfl⟩
     ·exact Sd0 d fun _=>PJ Zi r ⟨g,PQ e,rfl⟩
     ·exact Sd1 d aS fun _=>PO k pl23 r r ⟨g,PQ e,rfl⟩
     ·refine Sd1 d aT fun _=>P4 (j:=0) (u:=(a.n.getD 0 0)) h.n sl23 io3 r r r (Je o) ?_;intro _ _ au aj;obtain⟨rfl,_⟩:au=_∧_:=aj.rd;exact⟨g,PQ e,⟨_,_,_,rfl,aj⟩⟩
     ·obtain⟨_,_,av,bo,ak⟩:=aU;obtain⟨rfl,_⟩:av=_∧_:=ak.rd;exact Sd1 d bo fun _=>P0 pl3 r (ak.cell 0 _ r) ⟨g,PQ e,rfl⟩
     ·exact Sd1 d aV fun _=>RF r r r ⟨g,PQ e,rfl⟩
     ·exact Sd0 d fun _=>PJ Zi r ⟨g,PQ e,rfl⟩
     ·exact Sd1 d aW fun _=>PO k pl23 r r ⟨g,PQ e,rfl⟩
     ·refine Sd1 d aX fun _=>P4 (j:=0) (u:=(a.n.getD 0 0)) h.n sl23 io3 r r r (Je o) ?_;intro _ _ aw am;obtain⟨rfl,_⟩:aw=_∧_:=am.rd;exact⟨g,PQ e,⟨_,_,_,rfl,am⟩⟩
     ·obtain⟨_,_,ax,bp,an⟩:=aY;obtain⟨rfl,_⟩:ax=_∧_:=an.rd;exact Sd1 d bp fun _=>P0 pl3 r (an.cell 0 _ r) ⟨g,PQ e,rfl⟩
     ·exact Sd1 d aZ fun _=>St.max r r r ⟨g,PQ e,rfl⟩
     ·exact Sd1 d a0 fun _=>St.neg (z:=(IntKind.i64.wrap<|0-(if(-1000)>(a.n.getD 0 0) then(-1000) else(a.n.getD 0 0)))) r r ⟨g,PQ e,rfl⟩
     ·exact Sd1 d a4 fun _=>RF r r r ⟨g,PQ e,rfl⟩
     ·exact Jf d (aC a6<|aC a8 aN) fun _=>P1<|S3 r r r r ⟨g,PQ e,rfl⟩
     obtain⟨_,_,ab,bq,ay⟩:=bc;obtain⟨rfl,_⟩:ab=_∧_:=ay.rd;obtain⟨_,_,ac,az,aA⟩:=bi;obtain⟨rfl,_⟩:ac=_∧_:=aA.rd;obtain⟨_,rfl⟩:=mixK d (aC a9<|aC ba<|aC bb<|aC bq<|aC be<|aC bf<|aC bg<|aC bh<|aC az<|aC bj<|aC bk<|aC bl<|aC bm<|aC bn aN);refine Ol (Rq (z:=(IntKind.i64.wrap<|m*(if(if 1000<(IntKind.i64.wrap<|0-(if(-1000)>(a.n.getD 0 0) then(-1000) else(a.n.getD 0 0))) then 1000 else(IntKind.i64.wrap<|0-(if(-1000)>(a.n.getD 0 0) then(-1000) else(a.n.getD 0 0))))>(if(if 1000<(a.n.getD 0 0) then 1000 else(a.n.getD 0 0))>1 then(if 1000<(a.n.getD 0 0) then 1000 else(a.n.getD 0 0)) else 1) then(if 1000<(IntKind.i64.wrap<|0-(if(-1000)>(a.n.getD 0 0) then(-1000) else(a.n.getD 0 0))) then 1000 else(IntKind.i64.wrap<|0-(if(-1000)>(a.n.getD 0 0) then(-1000) else(a.n.getD 0 0)))) else(if(if 1000<(a.n.getD 0 0) then 1000 else(a.n.getD 0 0))>1 then(if 1000<(a.n.getD 0 0) then 1000 else(a.n.getD 0 0)) else 1)))) r r r ?_);refine Ol<|RF r r rfl<|Ua<|⟨_,_,(if 100000<(IntKind.i64.wrap<|m*(if(if 1000<(IntKind.i64.wrap<|0-(if(-1000)>(a.n.getD 0 0) then(-1000) else(a.n.getD 0 0))) then 1000 else(IntKind.i64.wrap<|0-(if(-1000)>(a.n.getD 0 0) then(-1000) else(a.n.getD 0 0))))>(if(if 1000<(a.n.getD 0 0) then 1000 else(a.n.getD 0 0))>1 then(if 1000<(a.n.getD 0 0) then 1000 else(a.n.getD 0 0)) else 1) then(if 1000<(IntKind.i64.wrap<|0-(if(-1000)>(a.n.getD 0 0) then(-1000) else(a.n.getD 0 0))) then 1000 else(IntKind.i64.wrap<|0-(if(-1000)>(a.n.getD 0 0) then(-1000) else(a.n.getD 0 0)))) else(if(if 1000<(a.n.getD 0 0) then 1000 else(a.n.getD 0 0))>1 then(if 1000<(a.n.getD 0 0) then 1000 else(a.n.getD 0 0)) else 1))) then 100000 else(IntKind.i64.wrap<|m*(if(if 1000<(IntKind.i64.wrap<|0-(if(-1000)>(a.n.getD 0 0) then(-1000) else(a.n.getD 0 0))) then 1000 else(IntKind.i64.wrap<|0-(if(-1000)>(a.n.getD 0 0) then(-1000) else(a.n.getD 0 0))))>(if(if 1000<(a.n.getD 0 0) then 1000 else(a.n.getD 0 0))>1 then(if 1000<(a.n.getD 0 0) then 1000 else(a.n.getD 0 0)) else 1) then(if 1000<(IntKind.i64.wrap<|0-(if(-1000)>(a.n.getD 0 0) then(-1000) else(a.n.getD 0 0))) then 1000 else(IntKind.i64.wrap<|0-(if(-1000)>(a.n.getD 0 0) then(-1000) else(a.n.getD 0 0)))) else(if(if 1000<(a.n.getD 0 0) then 1000 else(a.n.getD 0 0))>1 then(if 1000<(a.n.getD 0 0) then 1000 else(a.n.getD 0 0)) else 1)))),e,rfl,rfl,rfl,h,k⟩
    refine OT<|Nl<|Uc<|⟨_,_,m,K,rfl,rfl,rfl,h,k⟩
   refine Om<|Oz<|Oz<|Oz<|Oz<|OF<|Nl<|Uc<|⟨_,_,m,K,rfl,rfl,rfl,h,k⟩
  rintro _ _ ⟨_,_,t,aB,L,M,P,h,aD⟩;obtain⟨_,rfl⟩:=rebK (aC L<|aC M<|aC P aN);clear L M P;refine Rh (Ua<|W.block<|P7 (fun μ f v=>∃(x y:Nat→Prop) (i:Nat) (Q:Int),Cx X w x y v∧f 1=(.int .i64 t)∧f 2=(P10 l 0)∧f 6=(.int .i64 i)∧f 5=(.int .i64 Q)∧ExprParts x v a a1 s B D E F G H∧Own w y v l (ec a a1 s B D E F G H) 31∧i≤a.args.length∧μ=(a.args.length-i)) _ ⟨_,_,0,z,aB,rfl,rfl,rfl,rfl,h,aD,(Tv _),rfl⟩ ?_);rintro _ _ _ ⟨_,_,i,Q,I,R,S,T,U,h,p,_,_⟩;obtain⟨_,rfl⟩:=rebK (aC R<|aC S<|aC T<|aC U aN);clear R S T U;refine Rh<|Ub<|PJ J8 rfl<|Ol<|PO p pl29 r rfl<|Ol<|St.len sl29 rfl<|Ol<|P2 r r (fun ad=>?_)<|fun ad=>?_
  ·refine Nl (Ud<|PR<|PT<|W.block<|PN<|Ub<|PJ J8 rfl<|Ol<|PO p pl29 r rfl<|Ub<|P4 (j:=i) (u:=(Ar a i)) h.args sl29 io31 r r r (Je o) ?_);intro _ _ _ V;obtain⟨aE,aF,aG,aH,aI,aJ,aK,aL,rfl,aM⟩:=Jb V.rd;refine Ol (QE (cs:=(ec (Ar a i) aE aF aG aH aI aJ aK aL)) ag31 r r V.cell<|Ub<|PK I cb38 r r (ih I.bd (Mx (Ar a i) aM) (pR pa o)<|Ti (Kz o)<|Nat.le_of_lt_succ hN) ?_);intro _ _ aO Y aP;have h:=h.sp Y;have p:=p.spn Y;obtain⟨J,rfl⟩:=aP;refine Ol<|St.add (z:=(IntKind.i64.wrap<|Q+J)) r r rfl<|Ol<|RF r r rfl<|Ua<|PN<|Ub<|St.add r r (Ja (a:=i) (b:=1) o)<|Ua<|⟨_,o,_,_,(i+1),(if 100000<(IntKind.i64.wrap<|Q+J) then 100000 else(IntKind.i64.wrap<|Q+J)),aO,rfl,rfl,rfl,rfl,h,p,o,rfl⟩
  exact Nl<|Ue<|QB<|Rg<|Om<|Ua<|PS<|Wq r r I ⟨_,rfl⟩
theorem Gy{X:Nat→Prop}{w:World}(hX:XB X w)(d:RV Jc X w b a){m:Int}(pa:Yi a=true):CRt 38 #[b,(.int .i64 m)] w fun v _=>∃n:Int,v= .int .i64 n:=yP ((SizeOf.sizeOf a)+1) hX d pa (VM _)
section
variable{X:Nat→Prop}{w:World}(hX:XB X w)
include hX
theorem D5{n:Nat}  :CRt 43 #[(.int .i32 n)] w fun v _=>v=(.bool (Ky n)):=by
 have C:=PV hX;refine Cgo Tryz.func43 r r rfl<|Rg<|Ua<|Rg<|Ub<|Ra r r (fun a=>?_)<|fun a=>?_
 ·refine Om<|OgD<|PP<|OgD<|Rt r r (fun b=>?_)<|fun b=>?_
  ·exact OT<|Om<|Oz<|Oz<|Oz<|OyD<|OyD<|Oz<|OT<|Ua<|PS<|Wq r r C<|YS<|zW o
  refine OT<|Om<|OgD<|PP<|OgD<|Ra r r (fun d=>?_)<|fun d=>?_
  ·exact OgD<|PP<|OgD<|PP<|OgD<|Rx r r rfl<|OgD<|QD (t:=true) rfl<|OF<|Ua<|PS<|Wq r r C<|YS<|oi o
  exact OgD<|PP<|Oz<|Oz<|OgD<|QD (t:=false) rfl<|OF<|Ua<|PS<|Wq r r C<|YS<|pt o
 refine Om<|Oz<|Oz<|OF<|Om<|OgD<|PP<|OgD<|Ra r r (fun e=>?_)<|fun e=>?_
 ·exact OgD<|PP<|OgD<|PP<|OgD<|Rx r r rfl<|OgD<|QD (t:=true) rfl<|OF<|Ua<|PS<|Wq r r C<|YS<|oi o
 exact OgD<|PP<|Oz<|Oz<|OgD<|QD (t:=false) rfl<|OF<|Ua<|PS<|Wq r r C<|YS<|pt o
theorem tP{n:Nat}  :CRt 44 #[(.int .i32 n)] w fun v _=>v=(.bool (Ko n)):=by
 have C:=PV hX;refine Cgo Tryz.func44 r r rfl<|Rg<|Ua<|Rg<|Ub<|Ra r r (fun a=>?_)<|fun a=>?_
 ·exact Om<|OgD<|PP<|OgD<|Rx r r rfl<|OT<|Ua<|PS<|Wq r r C<|YS<|Ay o
 exact Om<|Oz<|Oz<|OF<|Ua<|PS<|Wq r r C<|YS<|xY o
theorem uX{s:List UInt8}  :CRt 45 #[(str s)] w fun v _=>v=(.bool (s.all digB&&decide (¬s=[]))):=by
 have C:=PV hX;refine Cgo Tryz.func45 r r r (Rg<|Ua<|Rh<|Ub<|R6 C un9 r ?_);intro E _ _ _ _ N _ P;refine Nl (W.block<|P7 (fun μ f v=>∃(x y:Nat→Prop) (i:Nat),Cx X w x y v∧f 0=(str s)∧f 6=(P10 E 0)∧Itr w y v E s i∧i≤s.length∧(∀j,j<i→Ko (s.getD j 0).toNat=true)∧μ=(s.length-i)) _ ⟨_,_,0,N,rfl,rfl,P,(Tv _),(fun _ h=>absurd h<|TC _),rfl⟩ ?_);rintro _ _ _ ⟨_,_,i,d,l,m,F,_,hall,_⟩;obtain⟨_,rfl⟩:=rebK (aC l<|aC m aN);clear l m;refine Rg<|Ol<|Se d F r (fun e=>?_) (fun _ B _ p _ g=>?_)<|fun _ G _ D H I z _ _=>?_
 ·refine Ol<|St.extract r rfl<|Nl<|PT<|Ue<|QB<|Rg<|Ub<|RX r r (fun a=>?_)<|fun a=>?_
  ·exact Ua<|PS<|Wq r r d<|YS<|DV hall e (by simp[a])
  exact Ua<|PS<|Wq r r d<|YS<|DV hall e (by simp[a])
 ·refine Ol (St.extract r rfl<|Nl<|PT<|Ud<|PR<|W.block<|Rg<|Ol<|St.extract r rfl<|Ua<|Rg<|Ub<|QF<|PK p cb44 r r (tP p.bd (n:=((s).getD i 0).toNat)) ?_);intro _ _ A J K;have g:=g.spn J;refine⟨_,K,fun b=>?_,fun b=>?_⟩
  ·refine Ol<|QI rfl<|Nl<|Uc<|⟨_,o,_,_,(i+1),A,rfl,rfl,g,o,(qp hall b),rfl⟩
  exact Ol<|QI rfl<|Nl<|Uf<|Ua<|PS<|Wq r r A<|YS<|Na B b
 refine Ol (St.extract r rfl<|Nl<|PT<|Ud<|PR<|W.block<|Rg<|Ol<|St.extract r rfl<|Ua<|Rg<|Ub<|QF<|PK z cb44 r r (tP z.bd (n:=G)) ?_);intro _ _ L _ M;refine⟨_,M,fun k=>?_,fun k=>?_⟩
 ·exact Ol<|QI rfl<|Nl<|Uc<|Ex I k
 exact Ol<|QI rfl<|Nl<|Uf<|Ua<|PS<|Wq r r L<|YS<|OB D H
theorem oy{s:List UInt8}  :CRt 18 #[(str s)] w fun v _=>v=(.bool (Km s)):=by
 have C:=PV hX;refine Cgo Tryz.func18 r r rfl<|Rg<|Ua<|Rh<|Ub<|QW un9 rfl<|Ol<|QN r r (fun K=>?_)<|fun K=>?_
 ·exact Nl<|Uf<|Ua<|PS<|Wq r r C<|YS<|Hq K
 refine Nl (Uc<|Rh<|Ub<|R6 C un9 r ?_);intro g2 _ _ _ _ C7 _ o9;refine Nl (W.block<|P7 (fun μ f v=>∃(x y:Nat→Prop) (i:Nat),Cx X w x y v∧f 0=(str s)∧f 9=(P10 g2 0)∧Itr w y v g2 s i∧i≤s.length∧(0<i→Ky (s.getD 0 0).toNat=true)∧(∀j,j<i→okB (s.getD j 0)=true)∧μ=(s.length-i)) _ ⟨_,_,0,C7,rfl,rfl,o9,(Tv _),(fun h=>absurd h<|TC _),(fun _ h=>absurd h<|TC _),rfl⟩ ?_);rintro _ _ _ ⟨_,_,i,a,S,T,af,_,hfst,hall,_⟩;obtain⟨_,rfl⟩:=rebK (aC S<|aC T aN);clear S T;refine Rg<|Ol<|Se a af r (fun _=>?_) (fun _ ac _ U _ g=>?_)<|fun _ V _ M Y Z aa _ _=>?_
 ·refine Ol<|St.extract r rfl<|Nl<|PT<|Ue<|QB<|Rh<|Om<|Nl<|W.block<|Rh<|Ol<|QK r r (fun b=>?_)<|fun b=>?_
  ·exact Ua<|Ud<|PR<|Uf<|Ua<|PS<|Wq r r a<|YS<|Ms b
  refine Ua<|Ug<|Ol<|QK r r (fun k=>?_)<|fun k=>?_
  ·exact Ua<|Ud<|PR<|Uf<|Ua<|PS<|Wq r r a<|YS<|X4 (by rw[k];decide)
  refine Ua<|Ug<|Ol<|QK r r (fun l=>?_)<|fun l=>?_
  ·exact Ua<|Ud<|PR<|Uf<|Ua<|PS<|Wq r r a<|YS<|X4 (by rw[l];decide)
  refine Ua<|Ug<|Ol<|QK r r (fun m=>?_)<|fun m=>?_
  ·exact Ua<|Ud<|PR<|Uf<|Ua<|PS<|Wq r r a<|YS<|X4 (by rw[m];decide)
  refine Ua<|Ug<|Ol<|QK r r (fun p=>?_)<|fun p=>?_
  ·exact Ua<|Ud<|PR<|Uf<|Ua<|PS<|Wq r r a<|YS<|X4 (by rw[p];decide)
  refine Ua<|Ug<|Ol<|QK r r (fun z=>?_)<|fun z=>?_
  ·exact Ua<|Ud<|PR<|Uf<|Ua<|PS<|Wq r r a<|YS<|X4 (by rw[z];decide)
  refine Ua<|Ug<|Ol<|QK r r (fun A=>?_)<|fun A=>?_
  ·exact Ua<|Ud<|PR<|Uf<|Ua<|PS<|Wq r r a<|YS<|X4 (by rw[A];decide)
  refine Ua<|Ug<|Ol<|QK r r (fun B=>?_)<|fun B=>?_
  ·exact Ua<|Ud<|PR<|Uf<|Ua<|PS<|Wq r r a<|YS<|X4 (by rw[B];decide)
  refine Ua<|Ug<|Ol<|QK r r (fun D=>?_)<|fun D=>?_
  ·exact Ua<|Ud<|PR<|Uf<|Ua<|PS<|Wq r r a<|YS<|X4 (by rw[D];decide)
  refine Ua<|Ug<|Ol<|QK r r (fun E=>?_)<|fun E=>?_
  ·exact Ua<|Ud<|PR<|Uf<|Ua<|PS<|Wq r r a<|YS<|X4 (by rw[E];decide)
  refine Ua<|Ug<|Ol<|QK r r (fun F=>?_)<|fun F=>?_
  ·exact Ua<|Ud<|PR<|Uf<|Ua<|PS<|Wq r r a<|YS<|X4 (by rw[F];decide)
  refine Ua<|Ug<|Ol<|QK r r (fun G=>?_)<|fun G=>?_
  ·exact Ua<|Ud<|PR<|Uf<|Ua<|PS<|Wq r r a<|YS<|X4 (by rw[G];decide)
  refine Ua<|Ue<|PN<|Ol<|QK r r (fun H=>?_)<|fun H=>?_
  ·exact Ua<|Uf<|Ua<|PS<|Wq r r a<|YS<|X4 (by rw[H];decide)
  refine Ua<|Uc<|Rg<|Ub<|QO (j:=0) (c:=(s.getD 0 0)) un9 r r r (Je<|UH.2 b)<|Ol<|QH r r (fun I=>?_)<|fun I=>?_
  ·exact Om<|Oz<|Oz<|Oz<|Oz<|OT<|Ua<|PS<|Wq r r a<|YS<|nm_E b Wp K (hfst (by have:=UH.2 b;omega)) (fun j hj=>hall j o) I
  refine Om (OgD<|PP<|OgD<|RH (i:=1) un9 r r r (UH.2 b)<|OgD<|PK a cb45 r r (uX a.bd) ?_);intro _ _ ag _ ah;subst ah;exact OgD<|QI rfl<|OF<|Ua<|PS<|Wq r r ag<|YS<|nm_D b Wp K (hfst (by have:=UH.2 b;omega)) (fun j hj=>hall j o) I
 ·refine Ol (St.extract r rfl<|Nl<|PT<|Ud<|PR<|W.block<|Rg<|Ol<|St.extract r rfl<|Ol<|St.extract r rfl<|Oa<|Ua<|Rg<|Ub<|QF<|PK U cb43 r r (D5 U.bd (n:=((s).getD i 0).toNat)) ?_);intro _ _ L ai aj;have g:=g.spn ai;refine⟨_,aj,fun d=>?_,fun d=>?_⟩
  ·refine Ol<|QI rfl<|Om<|Oz<|Oz<|Oz<|OyD<|OyD<|OyD<|Oz<|OF<|Nl<|Uc<|⟨_,o,_,_,(i+1),L,rfl,rfl,g,o,(fun _=>(VE i).elim (fun e=>by rw[e] at d;exact d) hfst),(qp hall<|Ll d),rfl⟩
  refine Ol<|QI rfl<|Om<|OgD<|PP<|OgD<|PW r r (fun N=>?_)<|fun N=>?_
  ·exact OgD<|PP<|Oz<|Oz<|Oz<|OgD<|QD (t:=true) rfl<|OT<|Nl<|Uf<|Ua<|PS<|Wq r r L<|YS<|Aj d N
  refine OgD (PP<|OgD<|PP<|OgD<|QF<|PK L cb44 r r (tP L.bd (n:=((s).getD i 0).toNat)) ?_);intro _ _ ab ak am;have g:=g.spn ak;refine⟨_,am,fun J=>?_,fun J=>?_⟩
  ·refine OgD<|QI rfl<|OgD<|QD (t:=false) rfl<|OT<|Nl<|Uc<|⟨_,o,_,_,(i+1),ab,rfl,rfl,g,o,(fun _=>hfst o),(qp hall<|Ey J),rfl⟩
  exact OgD<|QI rfl<|OgD<|QD (t:=false) rfl<|OT<|Nl<|Uf<|Ua<|PS<|Wq r r ab<|YS<|w8 ac<|Hs d J
 refine Ol (St.extract r rfl<|Nl<|PT<|Ud<|PR<|W.block<|Rg<|Ol<|St.extract r rfl<|Ol<|St.extract r rfl<|Oa<|Ua<|Rg<|Ub<|QF<|PK aa cb43 r r (D5 aa.bd (n:=V)) ?_);intro _ _ P _ an;refine⟨_,an,fun Q=>?_,fun Q=>?_⟩
 ·exact Ol<|QI rfl<|Om<|Oz<|Oz<|Oz<|OyD<|OyD<|OyD<|Oz<|OF<|Nl<|Uc<|Ls Z Q
 refine Ol<|QI rfl<|Om<|OgD<|PP<|OgD<|PW r r (fun ad=>?_)<|fun ad=>?_
 ·exact OgD<|PP<|Oz<|Oz<|Oz<|OgD<|QD (t:=true) rfl<|OT<|Nl<|Uf<|Ua<|PS<|Wq r r P<|YS<|w8 M<|Nm Y
 refine OgD (PP<|OgD<|PP<|OgD<|QF<|PK P cb44 r r (tP P.bd (n:=V)) ?_);intro _ _ ao _ aq;refine⟨_,aq,fun R=>?_,fun R=>?_⟩
 ·exact OgD<|QI rfl<|OgD<|QD (t:=false) rfl<|OT<|Nl<|Uc<|Ex Z R
 exact OgD<|QI rfl<|OgD<|QD (t:=false) rfl<|OT<|Nl<|Uf<|Ua<|PS<|Wq r r ao<|YS<|w8 M<|Nm Y
end
theorem Bu(N:Nat):∀ {X:Nat→Prop} {w:World} (hX:XB X w) {h:Value} {a:GExpr} (k:RV Jc X w h a) {m:Nat} (hm:m≤1000) (hN:(SizeOf.sizeOf a)<N),CRt 51 #[h,(.int .i64 m)] w fun v _=>v=(.int .i64 (((min (cntE a) (m+1)):Nat):Int)):=by
 induction N with
 |zero=>intro X w hX h a k m hm hN;exact absurd hN<|TC _
 |succ N ih=>
  intro X w hX h a k m hm hN;obtain⟨a1,F,G,H,I,J,K,L,rfl,d⟩:=SR k;have C:=PV hX;have hal:=k.args_max;refine Cgo Tryz.func51 r r r (Rg<|Ol<|QA C r ?_);intro l _ _ _ _ Q R S;have d:=d.sp R;refine Oa (Nl<|Rg<|Ua<|Rh<|Ua<|W.block<|P7 (fun μ f v=>∃(x y:Nat→Prop) (i:Nat) (z:Nat),Cx X w x y v∧f 1=(.int .i64 m)∧f 2=(P10 l 0)∧f 6=(.int .i64 i)∧f 5=(.int .i64 z)∧ExprParts x v a a1 F G H I J K L∧Own w y v l (ec a a1 F G H I J K L) 31∧i≤a.args.length∧z=min (1+cntL (a.args.take i)) (m+1)∧μ=(a.args.length-i)) _ ⟨_,_,0,1,Q,rfl,rfl,rfl,rfl,d,S,(Tv _),(by rw[List.take_zero,cntL];omega),rfl⟩ ?_);rintro _ _ _ ⟨_,_,i,z,g,p,s,A,B,d,e,_,hz,_⟩;obtain⟨_,rfl⟩:=rebK (aC p<|aC s<|aC A<|aC B aN);clear p s A B;refine Rh<|Ub<|PJ J8 rfl<|Ol<|PO e pl29 r rfl<|Ol<|St.len sl29 rfl<|Ol<|P2 r r (fun M=>?_)<|fun M=>?_
  ·refine Om<|OgD<|PP<|OgD<|PP<|OgD<|Rt r r (fun P=>?_)<|fun P=>?_
   ·refine OT (Nl<|Ud<|PR<|PT<|W.block<|PN<|Ub<|PJ J8 rfl<|Ol<|PO e pl29 r rfl<|Ub<|P4 (j:=i) (u:=(Ar a i)) d.args sl29 io31 r r r (Je o) ?_);intro _ _ _ D;obtain⟨T,U,V,Y,Z,aa,ab,ac,rfl,ad⟩:=Jb D.rd;refine Ol (QE (cs:=(ec (Ar a i) T U V Y Z aa ab ac)) ag31 r r D.cell<|Om<|Ub<|St.sub r r (Zy (a:=m) (b:=z) o o)<|Ol<|PK g cb51 r r (ih g.bd (Mx (Ar a i) ad) (m:=m-z) o<|Ti (Kz o)<|Nat.le_of_lt_succ hN) ?_);intro _ _ ae E af;have d:=d.sp E;have e:=e.spn E;subst af;refine Ol<|St.add r r (Ja (a:=z) (b:=(min (cntE<|Ar a i)<|(m-z)+1)) o)<|Ua<|PN<|Ub<|St.add r r (Ja (a:=i) (b:=1) o)<|Ua<|⟨_,o,_,_,(i+1),z+(min (cntE<|Ar a i)<|(m-z)+1),ae,rfl,rfl,rfl,rfl,d,e,o,(Gk o hz o),rfl⟩
   exact OT<|Nl<|Ue<|QB<|Rg<|Om<|Ua<|PS<|Wq r r g<|YR<|congrArg _<|GP o hz
  exact Om<|Oz<|Oz<|Oz<|OF<|Nl<|Ue<|QB<|Rg<|Om<|Ua<|PS<|Wq r r g<|YR<|congrArg _<|HK o hz
section
variable{X:Nat→Prop}{w:World}(hX:XB X w)
include hX
theorem FV(d:RV Jc X w b a){m:Nat}(hm:m≤1000):CRt 51 #[b,(.int .i64 m)] w fun v _=>v=(.int .i64 (((min (cntE a) (m+1)):Nat):Int)):=Bu ((SizeOf.sizeOf a)+1) hX d hm (VM _)
theorem I8{e:Value}(A:RV Jc X w e a){m:Nat}(hm:m≤1000):CRt 36 #[e,(.int .i64 m)] w fun v _=>v=(.bool (decide (cntE a≤m))):=by
 obtain⟨a1,g,h,i,j,k,l,p,rfl,d⟩:=SR A;have C:=PV hX;refine Cgo Tryz.func36 r r r (Rg<|Ol<|QA C r ?_);intro _ _ _ _ _ b s x;have d:=d.sp s;refine Oa (Nl<|Rg<|Ol<|Uo (vs:=(ec a a1 g h i j k l p)) x ag31<|Ub<|PK b cb51 r r (FV b.bd (Mx a d) (m:=m) hm) ?_);intro _ _ y _ z;subst z;exact Ub<|Rx r r rfl<|Ua<|PS<|Wq r r y<|YS<|decide_eq_decide.2 o
theorem tV{F:Value}(L:RV Jc X w F a)  :CRt 13 #[F] w fun v _=>∃b:Bool,v= .bool b∧(b=true→(Yi a=true∧cntE a≤80)):=by
 obtain⟨a1,l,p,s,x,y,z,A,rfl,g⟩:=SR L;have C:=PV hX;refine Cgo Tryz.func13 r r r (Rg<|Ol<|QA C r ?_);intro _ _ _ _ _ B G d;have g:=g.sp G;refine Oa (Nl<|Rg<|Ol<|Uo (vs:=(ec a a1 l p s x y z A)) d ag31<|Ol<|QF<|PK B cb36 r r (I8 B.bd (Mx a g) (m:=80) o) ?_);intro _ _ i D H;have g:=g.sp D;have d:=d.spn D;refine⟨_,H,fun j=>?_,fun j=>?_⟩
 ·refine Om (OgD<|Uo (vs:=(ec a a1 l p s x y z A)) d ag31<|OgD<|QF<|PK i cb37 r r (Ik i.bd<|Mx a g) ?_);intro _ _ k E I;have g:=g.sp E;have d:=d.spn E;refine⟨_,I,fun h=>?_,fun h=>?_⟩
  ·refine OT (Om<|OgD<|Uo (vs:=(ec a a1 l p s x y z A)) d ag31<|OgD<|PK k cb38 r r (Gy k.bd (Mx a g) h) ?_);intro _ _ J _ K;obtain⟨_,rfl⟩:=K;exact OgD<|Rx r r rfl<|OT<|Ua<|PS<|Wq r r J<|⟨_,rfl,fun _=>⟨h,of_decide_eq_true j⟩⟩
  exact OT<|Om<|Oz<|Oz<|Oz<|OF<|Ua<|PS<|Wq r r k ⟨_,rfl,fun e=>by cases e⟩
 exact Om<|Oz<|Oz<|OF<|Om<|Oz<|Oz<|Oz<|OF<|Ua<|PS<|Wq r r i ⟨_,rfl,fun e=>by cases e⟩
omit hX
theorem F4(N:Nat):∀ {X:Nat→Prop} {w:World} (hX:XB X w) {Q:Value} {a:GExpr} (R:RV Jc X w Q a) {g k:Nat} (hB:Blk w g [.int .i64 (k:Int)] 3) (hXg:X g) {lv:Nat} (hk:k≤60) (hv:lv≤13) (hN:(SizeOf.sizeOf a)<N),Calls Tryz.prog 79 #[Q,(P10 g 0),(.int .i64 lv)] w (RetM w g fun v w'=>v=(.bool ((pszE a k lv).2))∧Blk w' g [.int .i64 (((pszE a k lv).1:Nat):Int)] 3):=by
 induction N with
 |zero=>intro X w hX Q a R g k hB hXg lv hk hv hN;exact absurd hN<|TC _
 |succ N ih=>
  intro X w hX Q a R g k hB hXg lv hk hv hN;obtain⟨a1,c2,a3,c4,a5,c6,S,T,rfl,h⟩:=SR R;have C:=Rd g hX hXg;have A:=SW hB;have hal:=R.args_max;refine Cgo Tryz.func79 r r r (Rg<|Ol<|QA C r ?_);intro aw _ _ _ aq ax U m;have V:=aq _ A.blk.lt;have A:=A.spn U;refine Oa (Nl<|Rg<|Ub<|PZ rfl<|Ol<|PO A pl3 r rfl<|Ol<|St.add r r (Ja (a:=k) (b:=1) o)<|Ol<|PZ rfl<|On<|QM (cs':=[(.int .i64 ((k+1:Nat):Int))]) ax A io3 r r r r r r ?_);intro _ B Y p;have h:=(h.sp U).sp Y;have m:=m.spo Y (TA V);refine Nl<|Rh<|Ub<|PZ rfl<|Ol<|PO p pl3 r rfl<|Ol<|QN r r (fun ar=>?_)<|fun ar=>?_
  ·refine Om<|Oz<|Oz<|OT<|Nl<|Uf<|Ua<|PS<|Kd r (SV r)<|RetM.intro ⟨?_,?_⟩ B.below
   ·exact YS<|congrArg Prod.snd<|tX (a:=a) o
   have hh:=p.blk;rw[show k+1=(pszE a k lv).1 from congrArg Prod.fst (tX (a:=a) o)] at hh;exact hh
  refine Om<|OgD<|PP<|OgD<|QN r r (fun au=>?_)<|fun au=>?_
  ·refine OF<|Nl<|Uf<|Ua<|PS<|Kd r (SV r)<|RetM.intro ⟨?_,?_⟩ B.below
   ·exact YS<|congrArg Prod.snd<|tX (a:=a) o
   have hh:=p.blk;rw[show k+1=(pszE a k lv).1 from congrArg Prod.fst (tX (a:=a) o)] at hh;exact hh
  refine OF (Nl<|Uc<|Rh<|Ol<|PJ J8 rfl<|Ol<|PO m pl29 r rfl<|Ol<|St.len sl29 rfl<|Om<|Nl<|W.block<|P7 (fun μ f v=>∃(x y:Nat→Prop) (i:Nat) (kk:Nat),Cx X ⟨w,(· =g)⟩ x y v∧f 1=(P10 g 0)∧f 2=(.int .i64 lv)∧f 23=(S12 S a.args T)∧f 24=(.int .i64 a.args.length)∧f 25=(.int .i64 i)∧ExprParts x v a a1 c2 a3 c4 a5 c6 S T∧Own ⟨w,(· =g)⟩ y v g [(.int .i64 kk)] 3∧Own ⟨w,(· =g)⟩ y v aw (ec a a1 c2 a3 c4 a5 c6 S T) 31∧i≤a.args.length∧pszL (a.args.drop i) kk (lv+1)=pszL a.args (k+1) (lv+1)∧kk≤60∧μ=(a.args.length-i)) _ ⟨_,_,0,(k+1),B,rfl,rfl,rfl,rfl,rfl,h,p,m,(Tv _),rfl,o,rfl⟩ ?_);rintro _ _ _ ⟨_,_,i,kk,Z,aa,ab,ac,ad,ae,h,e,l,_,hR,hkk,_⟩;obtain⟨_,rfl⟩:=rebK (aC aa<|aC ab<|aC ac<|aC ad<|aC ae aN);clear aa ab ac ad ae;refine Rg<|Ol<|P2 r r (fun av=>?_)<|fun av=>?_
  ·refine Nl (PT<|Ud<|PR<|PT<|W.block<|Rg<|Ol<|P4 (j:=i) (u:=(Ar a i)) h.args sl29 io31 r r r (Je o) ?_);intro _ _ _ af;obtain⟨D,E,F,G,H,I,J,K,rfl,L⟩:=Jb af.rd;refine Ol (QE (cs:=(ec (Ar a i) D E F G H I J K)) ag31 r r af.cell<|Ol<|PU Z io31 r ?_);intro _ _ _ _ M ay s az;have aA:=M _ e.blk.lt;have aB:=M _ l.blk.lt;have h:=h.sp s;have l:=l.spn s;refine On (Us (cs':=(ec (Ar a i) D E F G H I J K)) ay az io31 ?_);intro _ P z aD;have L:=(L.sp s).sp z;have e:=(e.spn s).spo z aA;refine Nl (Rg<|Ol<|Uo (vs:=(ec (Ar a i) D E F G H I J K)) aD ag31<|Om<|Ub<|St.add r r (Ja (a:=lv) (b:=1) o)<|Ol<|QF<|QT P e cb79 r r (ih P.bd (Mx (Ar a i) L) (k:=kk) e.blk (P.yx _ e.mem) (lv:=lv+1) hkk o<|Ti (Kz o)<|Nat.le_of_lt_succ hN) ?_);intro _ _ ag ah ai aE;have h:=(h.sp z).sp ah;have l:=(l.spo z aB).spo ah (TA V);refine⟨_,aE,fun d=>?_,fun d=>?_⟩
   ·refine Ol<|QI rfl<|Nl<|Uc<|PN<|Ol<|St.add r r (Ja (a:=i) (b:=1) o)<|Om<|Nl<|⟨_,o,_,_,(i+1),(pszE (Ar a i) kk<|lv+1).1,ag,rfl,rfl,rfl,rfl,rfl,h,ai,l,o,(Ch o hR d),(OI hkk d),rfl⟩
   refine Ol<|QI rfl<|Nl<|Uf<|Ua<|PS<|Kd r (SV r)<|RetM.intro ⟨?_,?_⟩ ag.below
   ·exact YS<|(by rw[←(AP o o hR d)];exact d.symm)
   have hh:=ai.blk;rw[show(pszE (Ar a i) kk<|lv+1).1=(pszE a k lv).1 from congrArg Prod.fst (AP o o hR d)] at hh;exact hh
  refine Nl<|PT<|Ue<|QB<|Rg<|Ua<|PS<|Kd r (SV r)<|RetM.intro ⟨?_,?_⟩ Z.below
  ·exact YS<|congrArg Prod.snd<|EP (a:=a) (k:=k) (v:=lv) o o hR
  have hh:=e.blk;rw[show kk=(pszE a k lv).1 from congrArg Prod.fst (EP (a:=a) (k:=k) (v:=lv) o o hR)] at hh;exact hh
include hX
theorem PH(d:RV Jc X w b a){g k:Nat}(hB:Blk w g [.int .i64 (k:Int)] 3)(hXg:X g){lv:Nat}(hk:k≤60)(hv:lv≤13):Calls Tryz.prog 79 #[b,(P10 g 0),(.int .i64 lv)] w (RetM w g fun v w'=>v=(.bool ((pszE a k lv).2))∧Blk w' g [.int .i64 (((pszE a k lv).1:Nat):Int)] 3):=F4 ((SizeOf.sizeOf a)+1) hX d hB hXg hk hv (VM _)
theorem Bl{l:Value}(J:RV Jc X w l a)  :CRt 49 #[l] w fun v _=>v=(.bool (decide (cntE a≤60∧lvlE a≤12))):=by
 obtain⟨a1,m,p,s,x,y,z,A,rfl,d⟩:=SR J;have C:=PV hX;refine Cgo Tryz.func49 r r r (Rg<|Ol<|QA C r ?_);intro _ _ _ _ _ B D b;have d:=d.sp D;refine Oa (Nl<|Rg<|Ol<|PU B io3 r ?_);intro _ _ _ _ j E h F;have G:=j _ b.blk.lt;refine On (QM (cs':=[(.int .i64 0)]) E F io3 r r r r r r ?_);intro _ e i g;have d:=(d.sp h).sp i;have b:=(b.spn h).spo i G;refine Nl (Rg<|Ol<|Uo (vs:=(ec a a1 m p s x y z A)) b ag31<|Ol<|QT e g cb79 r r (PH e.bd (Mx a d) (k:=0) g.blk (e.yx _ g.mem) (lv:=1) o o) ?_);intro _ _ H _ _ I;subst I;exact Ua<|PS<|Wq r r H<|YS<|wj a
end
end Go.Wf
namespace Go.Wf
open Go
variable{a j m:Nat}{x z:Int}
theorem vA{k:Nat}(a:0<j)(hj:j≤64):((k:Nat):Int)/2^min (((j:Nat):Int)-1).toNat IntKind.i64.bits=((k/2^(j-1):Nat):Int):=by
 have e:(((j:Nat):Int)-1).toNat=j-1:=o
 rw[e,show min (j-1) IntKind.i64.bits=j-1 from VN (by show j-1≤64;omega)];rw[Int.natCast_ediv,Int.natCast_pow];rfl
theorem I2(h:a<9223372036854775808):(BitVec.ofInt IntKind.i64.bits (a:Int)).toNat=a:=by
 show(BitVec.ofInt 64 (a:Int)).toNat=a
 rw[T1]
 have:((a:Int)%((2^64:Nat):Int))=(a:Int):=o
 rw[this];rfl
theorem uF(h:m<9223372036854775808):IntKind.i64.wrap (BitVec.ofInt IntKind.i64.bits (m:Int) &&& BitVec.ofInt IntKind.i64.bits 1).toNat=((m%2:Nat):Int):=by
 have e:=I2 (a:=1) d;rw[BitVec.toNat_and,I2 h,show BitVec.ofInt IntKind.i64.bits 1=BitVec.ofInt IntKind.i64.bits ((1:Nat):Int) from rfl,e,Nat.and_one_is_mod,Tz _ o]
theorem ui{k:Nat}(h:0<j):k/2^(j-1)/2=k/2^j:=by
 obtain⟨i,rfl⟩:∃i,j=i+1:=⟨j-1,o⟩;rw[U3,U8,TF]
theorem yW{k:Nat}(hx:x=z^(k/2^j))(hj:0<j)(hb:¬k/2^(j-1)%2=1):x*x=z^(k/2^(j-1)):=by
 have e:=ui (k:=k) hj;have e2:k/2^(j-1)=k/2^j+k/2^j:=o
 rw[e2,Int.pow_add,hx]
theorem Eb{k:Nat}(hx:x=z^(k/2^j))(hj:0<j)(hb:k/2^(j-1)%2=1):x*x*z=z^(k/2^(j-1)):=by
 have e:=ui (k:=k) hj;have e2:k/2^(j-1)=k/2^j+k/2^j+1:=o
 rw[e2,Int.pow_succ,Int.pow_add,hx]
theorem Fh{k:Nat}:(1:Int)=z^(k/2^blen k):=by
 rw[U9 (yf k),Int.pow_zero]
theorem EM{k:Nat}(hx:x=z^(k/2^0)):x=z^k:=by rw[hx,Nat.pow_zero,Nat.div_one]
theorem wU(h:z.natAbs≤1):(z^m).natAbs≤1:=by
 rw[Int.natAbs_pow]
 calc z.natAbs^m≤1^m:=Nat.pow_le_pow_left h m
  _=1:=Nat.one_pow m
theorem DF{x:Nat}(h:blen x≤1):x≤1:=by
 have a:=yf x;have b:2^blen x≤2^1:=TM d h;omega
def PwOk(z:Int)(n:Nat):Prop:=blen z.natAbs≤1∨n≤1048576/blen z.natAbs
theorem PwOk.le{n:Nat}(h:PwOk z n)(hm:m≤n):PwOk z m:=h.imp_right fun h=>o
theorem Mv(m:Nat):(2:Nat)^(32*m)=4294967296^m:=by
 rw[show(4294967296:Nat)=2^32 from rfl,←Nat.pow_mul]
theorem PwOk.len{n:Nat}(h:PwOk z n):(ofZ (z^n)).mag.length≤32768:=by
 show(digs (z^n).natAbs).length≤32768
 rcases h with h|h
 ·have:=K0 (wU (m:=n) (DF h))
  have e:(digs 1).length=1:=rfl;omega
 ·rcases VE (blen z.natAbs) with a|a
  ·have:=K0 (wU (m:=n) (DF (show blen z.natAbs≤1 by omega)))
   have e:(digs 1).length=1:=rfl;omega
  ·have d:n*blen z.natAbs≤1048576:=(VG a).1 h;obtain⟨m,hm⟩:∃m:Nat,m=32768:=⟨_,rfl⟩;rw[←hm];have b:blen z.natAbs*n≤32*m:=by rw[TR];omega
   refine Za ?_;rw[←Mv,Int.natAbs_pow];rcases VE n with hn|hn
   ·rw[hn,Nat.pow_zero];exact Nat.one_lt_two_pow o
   ·calc z.natAbs^n<(2^blen z.natAbs)^n:=Nat.pow_lt_pow_left (yf _) o
     _=2^(blen z.natAbs*n):=(Nat.pow_mul ..).symm
     _≤2^(32*m):=TM δ b
theorem pf{k:Nat}:k/2^j≤k:=VA _ _
theorem Eu{n:Nat}(h:z.natAbs≤1):z^(min n (2+n%2))=z^n:=by
 by_cases hn:n≤2+n%2
 ·rw[VN hn]
 ·rw[Nat.min_eq_right o];have e:n=2*(n/2)+n%2:=o
  conv=>rhs;rw[e]
  rw[Int.pow_add,Int.pow_add,Int.pow_mul];have a:z=0∨z^2=1:=by
   have:z=0∨z=1∨z= -1:=o
   rcases this with rfl|rfl|rfl
   ·exact .inl r
   ·exact .inr r
   ·exact .inr r
  rcases a with rfl|a
  ·rw[show(0:Int)^2=0 from rfl,Int.zero_pow (n:=n/2) o]
  ·rw[a,Int.one_pow]
def PowR(q:Rat)(n:Int)(c:GRat)(e:Int):Prop:=(e=0∧uq c.q≤32770∧c.num.mag.length≤32770∧c.den.mag.length≤32770∧(q=0→0<n→c.q=0))∨¬e=0
theorem LG(q:Rat)(a:(ofQ q).num.mag.length≤32770)(b:(ofQ q).den.mag.length≤32770):uq q≤32770:=Nat.max_le.2 ⟨a,b⟩
theorem ze{q:Rat}{n:Int}{y:Int}(hx:(ofZ x).mag.length≤32768)(hy:(ofZ y).mag.length≤32768)(h:q=0→0<n→x=0):PowR q n (ofQ (Rat.divInt x y)) 0:=by
 have a:=Qv x y;have b:=Ql x y;refine .inl ⟨rfl,?_,o,o,fun e1 e2=>?_⟩
 ·rw[J9];exact LG _ o o
 ·rw[J9,h e1 e2,Rat.zero_divInt]
theorem uS{q:Rat}(h:q=0):(ofQ q).num.toZ=0:=by
 rw[h];show(ofZ (0:Rat).num).toZ=0;rw[Jo];rfl
theorem tm2{n:Int}(h: -1000000≤n∧n≤1000000):(2+n.tmod 2).toNat≤3∧1≤(2+n.tmod 2).toNat∧(((2+n.tmod 2).toNat:Nat):Int)=2+n.tmod 2∧ -1≤n.tmod 2∧n.tmod 2≤1:=by
 have a:=Int.tmod_lt_of_pos n (show(0:Int)<2 by decide);have b: -2<n.tmod 2:=by
  have:=Int.lt_tmod_of_pos n (show(0:Int)<2 by decide)
  omega
 omega
theorem pw0(h:z=0)(hm:0<m):z^m=0:=by rw[h,Int.zero_pow o]
theorem vr:(ofZ 1).mag.length≤32768:=by
 have e:(ofZ 1).mag.length=1:=d
 omega
theorem MQ{b S:Nat}(hS:max a b=S):a≤S∧b≤S:=o
theorem uU{S n:Nat}(h:a≤S)(hn:n≤1048576/S):a≤1∨n≤1048576/a:=by
 rcases VE a with b|b
 ·exact .inl o
 ·exact .inr (Tj hn (Nat.div_le_div_left h b))
end Go.Wf
namespace Go.Wf
open Go Go.Proofs Go.RowKit
section
variable{X:Nat→Prop}{w:World}(hX:XB X w)
include hX
theorem F5{x:Nat}(hx:x<4294967296):CRt 136 #[(.int .u64 x)] w fun v _=>v=(.int .i64 (((blen x):Nat):Int)):=by
 have C:=PV hX;refine Cgo Tryz.func136 r r rfl<|Rg<|Ua<|Rh<|Ub<|R1 (t:=false) r r (decide_eq_false o)<|Nl<|Uc<|Rh<|Ub<|Ra r r (fun g=>?_)<|fun g=>?_
 ·refine Nl<|Uf<|Ub<|Rl r r δ (Ka (d:=65536) _ δ)<|Ua<|PN<|Ub<|St.add (z:=(0+16)) r r (Tz _ o)<|Ua<|Rh<|Ub<|Ra r r (fun h=>?_)<|fun h=>?_
  ·refine Nl (Uf<|Ub<|Rl r r δ (Ka (d:=256) _ δ)<|Ua<|PN<|Ub<|St.add (z:=((0+16)+8)) r r (Tz _ o)<|Ua<|PT ?_);have e:=UInt8.toNat_lt (UInt8.ofNat<|blen<|(x/65536)/256%256);refine PN (Om<|Ub<|P6 (z:=((((x/65536)/256)%256:Nat):Int)) X3 un5 r (Y0 _)<|Ol<|QO (j:=(((x/65536)/256)%256)) (c:=(UInt8.ofNat<|blen<|((x/65536)/256)%256)) un9 r r r (K8<|Tp _ δ)<|Ol<|P6 (z:=((UInt8.ofNat<|blen<|((x/65536)/256)%256).toNat:Int)) us5 un3 r (Tz _ o) ?_);exact Ol<|St.add (z:=(((0+16)+8)+((UInt8.ofNat<|blen<|((x/65536)/256)%256).toNat:Int))) r r (Tz _ o)<|Ua<|PS<|Wq r r C<|YR<|W7
  refine Nl (Uc<|PT ?_);have e:=UInt8.toNat_lt (UInt8.ofNat<|blen<|x/65536%256);refine PN (Om<|Ub<|P6 (z:=(((x/65536)%256:Nat):Int)) X3 un5 r (Y0 _)<|Ol<|QO (j:=((x/65536)%256)) (c:=(UInt8.ofNat<|blen<|(x/65536)%256)) un9 r r r (K8<|Tp _ δ)<|Ol<|P6 (z:=((UInt8.ofNat<|blen<|(x/65536)%256).toNat:Int)) us5 un3 r (Tz _ o) ?_);exact Ol<|St.add (z:=((0+16)+((UInt8.ofNat<|blen<|(x/65536)%256).toNat:Int))) r r (Tz _ o)<|Ua<|PS<|Wq r r C<|YR<|XH
 refine Nl<|Uc<|Rh<|Ub<|Ra r r (fun i=>?_)<|fun i=>?_
 ·refine Nl (Uf<|Ub<|Rl r r δ (Ka (d:=256) _ δ)<|Ua<|PN<|Ub<|St.add (z:=(0+8)) r r (Tz _ o)<|Ua<|PT ?_);have e:=UInt8.toNat_lt (UInt8.ofNat<|blen<|x/256%256);refine PN (Om<|Ub<|P6 (z:=(((x/256)%256:Nat):Int)) X3 un5 r (Y0 _)<|Ol<|QO (j:=((x/256)%256)) (c:=(UInt8.ofNat<|blen<|(x/256)%256)) un9 r r r (K8<|Tp _ δ)<|Ol<|P6 (z:=((UInt8.ofNat<|blen<|(x/256)%256).toNat:Int)) us5 un3 r (Tz _ o) ?_);exact Ol<|St.add (z:=((0+8)+((UInt8.ofNat<|blen<|(x/256)%256).toNat:Int))) r r (Tz _ o)<|Ua<|PS<|Wq r r C<|YR<|XI
 refine Nl (Uc<|PT ?_);have e:=UInt8.toNat_lt (UInt8.ofNat<|blen<|x%256);refine PN (Om<|Ub<|P6 (z:=((x%256:Nat):Int)) X3 un5 r (Y0 _)<|Ol<|QO (j:=(x%256)) (c:=(UInt8.ofNat<|blen<|x%256)) un9 r r r (K8<|Tp _ δ)<|Ol<|P6 (z:=((UInt8.ofNat<|blen<|x%256).toNat:Int)) us5 un3 r (Tz _ o) ?_);exact Ol<|St.add r r (Ja (a:=0) (b:=(UInt8.ofNat<|blen<|x%256).toNat) o)<|Ua<|PS<|Wq r r C<|YR<|XK
theorem JW{x:Nat}(hx:x<4294967296):CRt 90 #[(.int .u64 x)] w fun v _=>v=(.int .i64 (((blen x):Nat):Int)):=by
 have C:=PV hX;refine Cgo Tryz.func90 r r r (Rg<|Ua<|PT<|Uc<|Rg<|Ub<|PK C N6 r r (F5 C.bd (x:=x) hx) ?_);intro _ _ a _ b;subst b;refine Ua<|PS<|Wq r r a ?_
 rfl
theorem td{m:Value}{a:GInt}(p:RV Z0 X w m a)(hl:a.mag.length≤1073741824):CRt 227 #[m] w fun v _=>v=(.int .i64 (((blen (val a.mag)):Nat):Int)):=by
 obtain⟨a1,D,rfl,i⟩:=RV.int p;have C:=PV hX;have sa:=p.int_small;refine Cgo Tryz.func227 r r r (Rg<|Ol<|QA C r ?_);intro _ _ _ _ _ s y z;have i:=i.sp y;refine Oa (Nl<|Rg<|Ol<|PJ Yu rfl<|Ol<|PO z pl24 r rfl<|Ol<|PK s Vq r r (Zq s.bd i o) ?_);intro _ _ e _ g;obtain⟨_,_,rfl,_,_⟩:=g.len;refine Oa (Nl<|PT<|PT ?_);have hds:=Zo sa;have hdt:=Qr sa;have hdv:=Kt a.mag;have hdl:=Jx a.mag;generalize trim a.mag=d at *;refine PN<|Ub<|St.len sl24 rfl<|Ol<|PW r r (fun k=>?_)<|fun k=>?_
 ·exact Nl<|Uf<|Ua<|PS<|Wq r r e<|YR<|(by rw[←hdv,TD (show d.length=0 by omega)];rfl)
 refine Nl (Uc<|PT ?_);have E:=rD (Jk hds<|d.length-1);refine PN (Ub<|St.len sl24 rfl<|Ol<|St.sub r r (Zy (a:=d.length) (b:=1) o o)<|Ol<|Rq r r (K3 (a:=32) (b:=d.length-1) o)<|Om<|Ub<|St.len sl24 rfl<|Ol<|St.sub r r (Zy (a:=d.length) (b:=1) o o)<|Ol<|P4 (j:=(d.length-1)) (u:=(d.getD (d.length-1) 0)) g sl24 Js r r r (Je o) ?_);intro _ _ l h;obtain⟨rfl,_⟩:l=_∧_:=h.rd;refine Ol (P0 Yj r (h.cell 0 _ r)<|Ol<|PK e Nn r r (wC e.bd (x:=(d.getD (d.length-1) 0))<|Jk hds _) ?_);intro _ _ A _ B;subst B;exact Ol<|St.add r r (Ja (a:=32*(d.length-1)) (b:=(blen<|d.getD (d.length-1) 0)) o)<|Ua<|PS<|Wq r r A<|YR<|(by rw[←hdv,Dl hdt hds o])
theorem x6{v0:Value}{a:GInt}(r0:RV Z0 X w v0 a){n:Nat}(hl:a.mag.length≤536870912)(hn:n≤2000000000)(Z:PwOk a.toZ n):CRt 189 #[v0,(.int .i64 n)] w fun v w'=>(∃v0 v1,v= .tuple #[v0,v1]∧(RV Z0 X w' v0 (ofZ (a.toZ^n)))∧(v1=(.int .i64 0))):=by
 obtain⟨a1,B,rfl,d⟩:=RV.int r0;have C:=PV hX;have sa:=r0.int_small;have hbb:=pj sa;have bZ:blen (val a.mag)≤1∨n≤1048576/blen (val a.mag):=by have:=Z;unfold PwOk at this;rw[Jq] at this;exact this
 refine Cgo Tryz.func189 r r r (Rg<|Ol<|QA C r ?_);intro T _ _ _ _ C9 bP l;refine Ol (PU C9 io26 r ?_);intro p _ _ _ _ bb bc I;have d:=(d.sp bP).sp bc;have l:=l.spn bc;refine Oa (Nl<|Rh<|Ub<|Rn (t:=false) r r (decide_eq_false o)<|Nl<|Uc<|Rg<|Ol<|Uo (vs:=(zzC a a1 B)) l ag26<|Ol<|PK bb G6 r r (td bb.bd (a:=a) (Jl d) o) ?_);intro _ _ am ay bQ;have d:=d.sp ay;have l:=l.spn ay;have I:=I.spn ay;subst bQ;refine Ua<|Rh<|Ub<|QN r r (fun bs=>?_)<|fun bs=>?_
 ·refine Om<|OgD<|PP<|OgD<|PP<|OgD<|Ry r r o (K7 (a:=1048576) (b:=(blen<|val a.mag)) o)<|OgD<|Rw (t:=false) r r (decide_eq_false o)<|OT<|Nl<|Uc<|PT<|Rm (fun f v=>∃(x y:Nat→Prop) (k:Nat),Cx X w x y v∧f 2=(P10 T 0)∧f 4=(P10 p 0)∧f 1=(.int .i64 k)∧RS Jh x v (S12 a1 a.mag B) a.mag∧Own w y v T (zzC a a1 B) 26∧Own w y v p [b13,n11] 26∧k≤2000000000∧PwOk a.toZ k∧a.toZ^k=a.toZ^n) ?_ ?_
  ·refine Rg<|Ub<|Rt r r (fun bt=>?_)<|fun bt=>?_
   ·refine Nl<|Uk<|Om<|Ub<|RI r r δ (yu n 2)<|Ol<|St.add r r (Ja (a:=2) (b:=n%2) o)<|Ol<|RF (z:=((min n (2+n%2):Nat):Int)) r r D'<|Ua<|⟨_,_,min n<|2+n%2,am,rfl,rfl,rfl,d,l,I,o,(.inl XC),(Eu<|DF XC)⟩
   refine Nl<|Uc<|⟨_,_,n,am,rfl,rfl,rfl,d,l,I,hn,Z,rfl⟩
  rintro _ _ ⟨_,_,k,be,bf,bg,bh,d,s,A,hk,hok,hkn⟩;obtain⟨_,rfl⟩:=rebK (aC bf<|aC bg<|aC bh aN);clear bf bg bh;refine Rg (Ol<|PK be ox r r (oE be.bd δ δ) ?_);intro _ _ bR az bS;have s:=s.spn az;have A:=A.spn az;obtain⟨bi,bj,rfl,U⟩:=RV.int bS;refine Ol (PU bR io26 r ?_);intro bk _ _ _ aA bT an bU;have aB:=aA _ s.blk.lt;have aD:=aA _ A.blk.lt;have d:=(d.sp az).sp an;have U:=U.sp an;have s:=s.spn an;have A:=A.spn an;refine On (Us (cs':=(zzC (ofZ 1) bi bj)) bT bU io26 ?_);intro _ bl ao aE;refine Nl (PT<|PT ?_);have aa:blen k≤32:=xf o;refine PN (Ub<|P6 (z:=(k:Int)) us3 r7 r (Tw _ o)<|Ol<|PK bl cb90 r r (JW bl.bd (x:=k) o) ?_);intro _ _ bV V bW;have d:=(d.sp ao).sp V;have U:=(U.sp ao).sp V;have s:=(s.spo ao aB).spn V;have A:=(A.spo ao aD).spn V;have aE:=aE.spn V;subst bW;refine Ol (St.sub (z:=((((blen k):Nat):Int)-1)) r r (Tz _ o)<|Ua<|W.block<|P7 (fun μ f v=>∃(x y:Nat→Prop) (j:Nat) (xx:Int) (va:Option Addr) (vc:Nat),Cx X w x y v∧f 1=(.int .i64 k)∧f 2=(P10 T 0)∧f 4=(P10 p 0)∧f 7=(P10 bk 0)∧f 8=(.int .i64 ((j:Int)-1))∧RS Jh x v (S12 a1 a.mag B) a.mag∧RS Jh x v (S12 va (ofZ xx).mag vc) (ofZ xx).mag∧Own w y v T (zzC a a1 B) 26∧Own w y v p [b13,n11] 26∧Own w y v bk (zzC (ofZ xx) va vc) 26∧j≤32∧xx=a.toZ^(k/2^j)∧μ=j) _ ⟨_,_,(blen k),1,bi,bj,bV,rfl,rfl,rfl,rfl,rfl,d,U,s,A,aE,aa,Fh,rfl⟩ ?_);rintro _ _ _ ⟨_,_,j,xx,va,vc,aF,bm,bn,bo,bp,bq,d,hV,D,E,J,hj,hxx,_⟩;obtain⟨_,rfl⟩:=rebK (aC bm<|aC bn<|aC bo<|aC bp<|aC bq aN);clear bm bn bo bp bq;have hxl:(ofZ xx).mag.length≤32768:=by rw[hxx];exact(hok.le pf).len
  refine Rh<|Ub<|Ra r r (fun bu=>?_)<|fun bu=>?_
  ·refine Nl (Ud<|PR<|PT<|W.block<|Rg<|Ol<|Uo (vs:=(zzC (ofZ xx) va vc)) J ag26<|Ol<|Uo (vs:=(zzC (ofZ xx) va vc)) J ag26<|Ol<|PK aF ve r r (V4 aF.bd (a:=(ofZ xx)) (Jl hV) (b:=(ofZ xx)) (Jl hV) o o) ?_);intro _ _ bX aq br;have J:=J.spn aq;simp only[Jo,J9] at br;obtain⟨aG,aH,rfl,ar⟩:=RV.int br;refine On (Us (cs':=(zzC (ofZ<|xx*xx) aG aH)) bX J io26 ?_);intro _ aI au Y;have d:=(d.sp aq).sp au;have ar:=ar.sp au;have D:=(D.spn aq).spo au aB;have E:=(E.spn aq).spo au aD;refine Nl<|Rg<|Om<|Ub<|Rl (z:=((k/2^(j-1):Nat):Int)) r r o (vA o o)<|Ol<|Sf (z:=((k/2^(j-1)%2:Nat):Int)) r r (uF (by have:=pf (k:=k) (j:=j-1);omega))<|Ol<|PW r r (fun bv=>?_)<|fun bv=>?_
   ·refine Nl (Uk<|Ol<|Uo (vs:=(zzC (ofZ<|xx*xx) aG aH)) Y ag26<|Ol<|Uo (vs:=(zzC a a1 B)) D ag26<|Ol<|PK aI ve r r (V4 aI.bd (a:=(ofZ<|xx*xx)) (Jl ar) (b:=a) (Jl d) (by have:=Qk (x:=xx) (y:=xx);omega) o) ?_);intro _ _ bY av aJ;have Y:=Y.spn av;simp only[Jo,J9] at aJ;obtain⟨aK,aL,rfl,ab⟩:=RV.int aJ;refine On (Us (cs':=(zzC (ofZ<|(xx*xx)*a.toZ) aK aL)) bY Y io26 ?_);intro _ bw K bx;have d:=(d.sp av).sp K;have ab:=ab.sp K;have D:=(D.spn av).spo K aB;have E:=(E.spn av).spo K aD;refine Nl<|PN<|Ub<|St.sub (z:=(((j:Int)-1)-1)) r r (Tz _ o)<|Ua<|⟨_,o,_,_,(j-1),((xx*xx)*a.toZ),aK,aL,bw,rfl,rfl,rfl,rfl,(congrArg (Value.int .i64) o),d,ab,D,E,bx,o,(Eb hxx o o),rfl⟩
   refine Nl<|Uc<|PN<|Ub<|St.sub (z:=(((j:Int)-1)-1)) r r (Tz _ o)<|Ua<|⟨_,o,_,_,(j-1),(xx*xx),aG,aH,aI,rfl,rfl,rfl,rfl,(congrArg (Value.int .i64) o),d,ar,D,E,Y,o,(yW hxx o o),rfl⟩
  refine Nl (Ue<|QB<|Rg<|Ol<|Uo (vs:=(zzC (ofZ xx) va vc)) J ag26<|On<|Us (cs':=(zzC (ofZ xx) va vc)) aF E io26 ?_);intro _ aM bz bA;have hV:=hV.sp bz;refine Oa (Nl<|PS<|Jg r r r bA ag26 aM ?_);refine⟨_,_,rfl,?_,?_⟩
  ·exact SS (a:=(ofZ xx)) ((Jl hV).tr aM.wb)<|congrArg ofZ XR
  ·skip
   rfl
 refine Om<|Oz<|Oz<|Oz<|Oz<|OF<|Nl<|Uc<|PT<|Rm (fun f v=>∃(x y:Nat→Prop) (k:Nat),Cx X w x y v∧f 2=(P10 T 0)∧f 4=(P10 p 0)∧f 1=(.int .i64 k)∧RS Jh x v (S12 a1 a.mag B) a.mag∧Own w y v T (zzC a a1 B) 26∧Own w y v p [b13,n11] 26∧k≤2000000000∧PwOk a.toZ k∧a.toZ^k=a.toZ^n) ?_ ?_
 ·refine Rg<|Ub<|Rt r r (fun a8=>?_)<|fun a8=>?_
  ·refine Nl<|Uk<|Om<|Ub<|RI r r δ (yu n 2)<|Ol<|St.add r r (Ja (a:=2) (b:=n%2) o)<|Ol<|RF (z:=((min n (2+n%2):Nat):Int)) r r D'<|Ua<|⟨_,_,min n<|2+n%2,am,rfl,rfl,rfl,d,l,I,o,(.inl XC),(Eu<|DF XC)⟩
  refine Nl<|Uc<|⟨_,_,n,am,rfl,rfl,rfl,d,l,I,hn,Z,rfl⟩
 rintro _ _ ⟨_,_,k,aO,aP,aQ,aR,d,e,g,hk,hok,hkn⟩;obtain⟨_,rfl⟩:=rebK (aC aP<|aC aQ<|aC aR aN);clear aP aQ aR;refine Rg (Ol<|PK aO ox r r (oE aO.bd δ δ) ?_);intro _ _ bB ac bC;have e:=e.spn ac;have g:=g.spn ac;obtain⟨aS,aT,rfl,F⟩:=RV.int bC;refine Ol (PU bB io26 r ?_);intro aU _ _ _ aw bD L bE;have ad:=aw _ e.blk.lt;have ae:=aw _ g.blk.lt;have d:=(d.sp ac).sp L;have F:=F.sp L;have e:=e.spn L;have g:=g.spn L;refine On (Us (cs':=(zzC (ofZ 1) aS aT)) bD bE io26 ?_);intro _ aV M af;refine Nl (PT<|PT ?_);have aa:blen k≤32:=xf o;refine PN (Ub<|P6 (z:=(k:Int)) us3 r7 r (Tw _ o)<|Ol<|PK aV cb90 r r (JW aV.bd (x:=k) o) ?_);intro _ _ bF G bG;have d:=(d.sp M).sp G;have F:=(F.sp M).sp G;have e:=(e.spo M ad).spn G;have g:=(g.spo M ae).spn G;have af:=af.spn G;subst bG;refine Ol (St.sub (z:=((((blen k):Nat):Int)-1)) r r (Tz _ o)<|Ua<|W.block<|P7 (fun μ f v=>∃(x y:Nat→Prop) (j:Nat) (xx:Int) (va:Option Addr) (vc:Nat),Cx X w x y v∧f 1=(.int .i64 k)∧f 2=(P10 T 0)∧f 4=(P10 p 0)∧f 7=(P10 aU 0)∧f 8=(.int .i64 ((j:Int)-1))∧RS Jh x v (S12 a1 a.mag B) a.mag∧RS Jh x v (S12 va (ofZ xx).mag vc) (ofZ xx).mag∧Own w y v T (zzC a a1 B) 26∧Own w y v p [b13,n11] 26∧Own w y v aU (zzC (ofZ xx) va vc) 26∧j≤32∧xx=a.toZ^(k/2^j)∧μ=j) _ ⟨_,_,(blen k),1,aS,aT,bF,rfl,rfl,rfl,rfl,rfl,d,F,e,g,af,aa,Fh,rfl⟩ ?_);rintro _ _ _ ⟨_,_,j,xx,va,vc,ag,aW,aX,aY,aZ,a0,d,hV,h,i,m,hj,hxx,_⟩;obtain⟨_,rfl⟩:=rebK (aC aW<|aC aX<|aC aY<|aC aZ<|aC a0 aN);clear aW aX aY aZ a0;have hxl:(ofZ xx).mag.length≤32768:=by rw[hxx];exact(hok.le pf).len
 refine Rh<|Ub<|Ra r r (fun a9=>?_)<|fun a9=>?_
 ·refine Nl (Ud<|PR<|PT<|W.block<|Rg<|Ol<|Uo (vs:=(zzC (ofZ xx) va vc)) m ag26<|Ol<|Uo (vs:=(zzC (ofZ xx) va vc)) m ag26<|Ol<|PK ag ve r r (V4 ag.bd (a:=(ofZ xx)) (Jl hV) (b:=(ofZ xx)) (Jl hV) o o) ?_);intro _ _ bH N a3;have m:=m.spn N;simp only[Jo,J9] at a3;obtain⟨ah,ai,rfl,P⟩:=RV.int a3;refine On (Us (cs':=(zzC (ofZ<|xx*xx) ah ai)) bH m io26 ?_);intro _ aj Q H;have d:=(d.sp N).sp Q;have P:=P.sp Q;have h:=(h.spn N).spo Q ad;have i:=(i.spn N).spo Q ae;refine Nl<|Rg<|Om<|Ub<|Rl (z:=((k/2^(j-1):Nat):Int)) r r o (vA o o)<|Ol<|Sf (z:=((k/2^(j-1)%2:Nat):Int)) r r (uF (by have:=pf (k:=k) (j:=j-1);omega))<|Ol<|PW r r (fun ba=>?_)<|fun ba=>?_
  ·refine Nl (Uk<|Ol<|Uo (vs:=(zzC (ofZ<|xx*xx) ah ai)) H ag26<|Ol<|Uo (vs:=(zzC a a1 B)) h ag26<|Ol<|PK aj ve r r (V4 aj.bd (a:=(ofZ<|xx*xx)) (Jl P) (b:=a) (Jl d) (by have:=Qk (x:=xx) (y:=xx);omega) o) ?_);intro _ _ bI R a4;have H:=H.spn R;simp only[Jo,J9] at a4;obtain⟨a5,a6,rfl,ak⟩:=RV.int a4;refine On (Us (cs':=(zzC (ofZ<|(xx*xx)*a.toZ) a5 a6)) bI H io26 ?_);intro _ bJ S bK;have d:=(d.sp R).sp S;have ak:=ak.sp S;have h:=(h.spn R).spo S ad;have i:=(i.spn R).spo S ae;refine Nl<|PN<|Ub<|St.sub (z:=(((j:Int)-1)-1)) r r (Tz _ o)<|Ua<|⟨_,o,_,_,(j-1),((xx*xx)*a.toZ),a5,a6,bJ,rfl,rfl,rfl,rfl,(congrArg (Value.int .i64) o),d,ak,h,i,bK,o,(Eb hxx o o),rfl⟩
  refine Nl<|Uc<|PN<|Ub<|St.sub (z:=(((j:Int)-1)-1)) r r (Tz _ o)<|Ua<|⟨_,o,_,_,(j-1),(xx*xx),ah,ai,aj,rfl,rfl,rfl,rfl,(congrArg (Value.int .i64) o),d,P,h,i,H,o,(yW hxx o o),rfl⟩
 refine Nl (Ue<|QB<|Rg<|Ol<|Uo (vs:=(zzC (ofZ xx) va vc)) m ag26<|On<|Us (cs':=(zzC (ofZ xx) va vc)) ag i io26 ?_);intro _ a7 bL bM;have hV:=hV.sp bL;refine Oa (Nl<|PS<|Jg r r r bM ag26 a7 ?_);refine⟨_,_,rfl,?_,?_⟩
 ·exact SS (a:=(ofZ xx)) ((Jl hV).tr a7.wb)<|congrArg ofZ XR
 ·skip
  rfl
theorem Aa{E:Value}{a:GRat}(A:RV Y6 X w E a)(hln:a.num.mag.length≤536870912)(hld:a.den.mag.length≤536870912):CRt 188 #[E] w fun v _=>v=(.int .i64 (((max (blen (val (ofQ a.q).num.mag)) (blen (val (ofQ a.q).den.mag))):Nat):Int)):=by
 obtain⟨a1,F,G,H,rfl,B,D⟩:=ST A;have C:=PV hX;have sn:=A.rat_small.1;have sd:=A.rat_small.2;have Q:=Xp sn;have R:=Xs sd;refine Cgo Tryz.func188 r r r (Rg<|Ol<|QA C r ?_);intro _ _ _ _ _ g i b;have B:=B.sp i;have D:=D.sp i;refine Oa (Nl<|Rg<|Ol<|Uo (vs:=(qqC a a1 F G H)) b ag28<|Ol<|PK g cb92 r r (Qu g.bd (a:=a) (Jz B D) o o) ?_);intro _ _ I J K;have b:=b.spn J;obtain⟨j,k,l,m,rfl,d,e⟩:=ST K;refine On (Us (cs':=(qqC (ofQ a.q) j k l m)) I b io28 ?_);intro _ L p x;have d:=d.sp p;refine Nl (PT<|QY mixed 5 L<|Qf Y7 rfl<|Qw (fun w c=>QC (vs:=(zzC ((ofQ a.q).num) j k)) (x.spn c.2) ag26 r r r ⟨rfl,c⟩)<|Qw (fun w c=>PK c.1 G6 r r (td c.1.bd (a:=(ofQ a.q).num) (Jl<|d.sp c.2) o) fun _ _ C s h=>⟨h,C,c.2.trans s⟩)<|Qf Yy rfl<|Qw (fun w c=>QC (vs:=(zzC ((ofQ a.q).den) l m)) (x.spn c.2) ag26 r r r ⟨rfl,c⟩) ?_);refine Qz fun _ y M=>?_
 have e:=(e.sp p).sp M;refine Ol (PK y G6 r r (td y.bd (a:=(ofQ a.q).den) (Jl e) o) ?_);intro _ _ N _ P;subst P;refine Ol<|St.max (z:=((max (blen<|val (ofQ a.q).num.mag) (blen<|val (ofQ a.q).den.mag):Nat):Int)) r r D'<|Ua<|PS<|Wq r r N ?_
 rfl
end
set_option maxHeartbeats 20000000 in
theorem Fc{X:Nat→Prop}{w:World}(hX:XB X w){v0:Value}{a:GRat}(r0:RV Y6 X w v0 a){n:Int}(hln:a.num.mag.length≤268435456)(hld:a.den.mag.length≤268435456)(ei: -1000000≤n)(ej:n≤1000000):CRt 146 #[v0,(.int .i64 n)] w fun v w'=>(∃(v0:Value) (m':GRat) (e':Int),v= .tuple #[v0,.int .i64 e']∧RV Y6 X w' v0 m'∧(PowR a.q n m' e')):=by
 obtain⟨a1,c2,a3,c4,rfl,h5,h6⟩:=ST r0;have C:=PV hX;have sn:=r0.rat_small.1;have sd:=r0.rat_small.2;have eL:=Xp sn;have eM:=Xs sd;obtain⟨_,tm2,b7,_,_⟩:=tm2 ⟨ei,ej⟩;refine Cgo Tryz.func146 r r r (Rg<|Ol<|QA C r ?_);intro _ _ _ _ _ en b8 G;refine Ol (PU en io28 r ?_);intro _ _ _ _ cp b9 a4 e;have eo:=cp _ G.blk.lt;have h5:=(h5.sp b8).sp a4;have h6:=(h6.sp b8).sp a4;have G:=G.spn a4;refine Oa (Nl<|Rg<|Ol<|Uo (vs:=(qqC a a1 c2 a3 c4)) G ag28<|Ol<|PK b9 cb92 r r (Qu b9.bd (a:=a) (Jz h5 h6) o o) ?_);intro _ _ ep ca eq;have G:=G.spn ca;obtain⟨A,B,aj,ak,rfl,i,j⟩:=ST eq;refine On (Us (cs':=(qqC (ofQ a.q) A B aj ak)) ep G io28 ?_);intro _ am a5 g;have i:=i.sp a5;have j:=j.sp a5;have e:=(e.spn ca).spo a5 (TA eo);refine Nl<|Rh<|Ub<|P2 r r (fun cq=>?_)<|fun cq=>?_
 ·refine Om<|OgD<|PJ Y7 rfl<|OgD<|PJ Yu rfl<|OgD<|PO g pl24 r rfl<|OgD<|St.len sl24 rfl<|OgD<|PW r r (fun cr=>?_)<|fun cr=>?_
  ·refine OT (Nl<|Uf<|Ol<|PX (cs:=[b13,n11,b13,n11]) r κ<|On<|Us (cs':=[b13,n11,b13,n11]) am e io28 ?_);intro _ cb _ er;exact Ua<|PS<|Jg r r r er ag28 cb<|⟨_,(YT:GRat),5,rfl,(Jz RS.nil RS.nil).tr cb.wb,(.inr δ)⟩
  refine OT (Nl<|Uc<|Rg<|Ol<|Uo (vs:=(qqC (ofQ a.q) A B aj ak)) g ag28<|Ol<|PK am LE r r (Aa am.bd (a:=(ofQ a.q)) (Jz i j) o o) ?_);intro _ _ F aV cc;have i:=i.sp aV;have g:=g.spn aV;have e:=e.spn aV;simp only[Jo,J9] at cc;subst cc;refine Oa (Nl<|PT<|PT ?_);have hbs:=MQ (S:=max (blen<|val (ofQ a.q).num.mag)<|blen<|val (ofQ a.q).den.mag) r;have es:=pj (Yd (a.q).num.natAbs);generalize max (blen<|val (ofQ a.q).num.mag) (blen<|val (ofQ a.q).den.mag)=S at *;refine PN<|Ub<|Rt r r (fun ct=>?_)<|fun ct=>?_
  ·refine Nl<|Uf<|Ua<|Rh<|Ub<|QH r r (fun cu=>?_)<|fun cu=>?_
   ·refine Nl (Uk<|Ub<|RI r r δ rfl<|Ol<|St.add (z:=((2+n.tmod 2).toNat:Int)) r r (by rw[b7];exact Tz _ o)<|Ua<|Rg<|Ol<|PJ Y7 rfl<|Ol<|Uo (vs:=(zzC ((ofQ a.q).num) A B)) g ag26 ?_);refine Om (Ol<|PK F pQ r r (x6 F.bd (a:=(ofQ a.q).num) (Jl i) (n:=(2+n.tmod 2).toNat) o o (show PwOk ((ofQ a.q).num.toZ) _ from by unfold PwOk;rw[Jq];exact(.inl o))) ?_);intro _ _ et eu ev;have e:=e.spn eu;obtain⟨_,_,rfl,ew,rfl⟩:=ev;obtain⟨cd,ce,rfl,a6⟩:=RV.int ew;refine Om (Ol<|St.extract r rfl<|Ol<|St.extract r rfl<|Ol<|PU et io26 r ?_);intro _ _ _ _ cv ex cf ey;have ez:=cv _ e.blk.lt;have e:=e.spn cf;refine On (Us (cs':=(zzC (ofZ<|(ofQ a.q).num.toZ^((2+n.tmod 2).toNat)) cd ce)) ex ey io26 ?_);intro _ cg ch eA;have a6:=(a6.sp cf).sp ch;refine Oa (Nl<|Rg<|Ol<|Uo (vs:=(zzC (ofZ<|(ofQ a.q).num.toZ^((2+n.tmod 2).toNat)) cd ce)) eA ag26<|Ol<|PK cg DP r r (vy cg.bd (a:=(ofZ<|(ofQ a.q).num.toZ^((2+n.tmod 2).toNat))) (Jl a6)<|Tj (PwOk.len (show PwOk ((ofQ a.q).num.toZ) _ from by unfold PwOk;rw[Jq];exact(.inl o))) δ) ?_);intro _ _ eB eC ci;have e:=(e.spo ch ez).spn eC;simp only[Jo,J9] at ci;obtain⟨eD,eE,eF,eG,rfl,a7,a8⟩:=ST ci;refine On (Us (cs':=(qqC (ofQ<|Rat.divInt ((ofQ a.q).num.toZ^((2+n.tmod 2).toNat)) 1) eD eE eF eG)) eB e io28 ?_);intro _ cj ck eH;have a7:=a7.sp ck;have a8:=a8.sp ck;exact Ua<|PS<|Jg r r r eH ag28 cj ⟨_,(ofQ<|Rat.divInt ((ofQ a.q).num.toZ^((2+n.tmod 2).toNat)) 1),0,rfl,(Jz a7 a8).tr cj.wb,(ze (PwOk.len (show PwOk ((ofQ a.q).num.toZ) _ from by unfold PwOk;rw[Jq];exact(.inl o))) vr<|fun h H=>pw0 (uS h) o)⟩
   refine Nl (Uc<|Rg<|Ol<|PJ Y7 rfl<|Ol<|Uo (vs:=(zzC ((ofQ a.q).num) A B)) g ag26<|Ub<|PK F pQ r r (x6 F.bd (a:=(ofQ a.q).num) (Jl i) (n:=0) o o (show PwOk ((ofQ a.q).num.toZ) _ from by unfold PwOk;rw[Jq];exact(.inl o))) ?_);intro _ _ eI eJ eK;have e:=e.spn eJ;obtain⟨_,_,rfl,cw,rfl⟩:=eK;obtain⟨a9,ba,rfl,an⟩:=RV.int cw;refine Om (Ol<|St.extract r rfl<|Ol<|St.extract r rfl<|Ol<|PU eI io26 r ?_);intro _ _ _ _ bW cx bb cy;have cz:=bW _ e.blk.lt;have e:=e.spn bb;refine On (Us (cs':=(zzC (ofZ<|(ofQ a.q).num.toZ^0) a9 ba)) cx cy io26 ?_);intro _ bc be cE;have an:=(an.sp bb).sp be;refine Oa (Nl<|Rg<|Ol<|Uo (vs:=(zzC (ofZ<|(ofQ a.q).num.toZ^0) a9 ba)) cE ag26<|Ol<|PK bc DP r r (vy bc.bd (a:=(ofZ<|(ofQ a.q).num.toZ^0)) (Jl an)<|Tj (PwOk.len (show PwOk ((ofQ a.q).num.toZ) _ from by unfold PwOk;rw[Jq];exact(.inl o))) δ) ?_);intro _ _ cF cG bf;have e:=(e.spo be cz).spn cG;simp only[Jo,J9] at bf;obtain⟨cH,cI,cJ,cK,rfl,ao,aq⟩:=ST bf;refine On (Us (cs':=(qqC (ofQ<|Rat.divInt ((ofQ a.q).num.toZ^0) 1) cH cI cJ cK)) cF e io28 ?_);intro _ bg bh cL;have ao:=ao.sp bh;have aq:=aq.sp bh;exact Ua<|PS<|Jg r r r cL ag28 bg ⟨_,(ofQ<|Rat.divInt ((ofQ a.q).num.toZ^0) 1),0,rfl,(Jz ao aq).tr bg.wb,(ze (PwOk.len (show PwOk ((ofQ a.q).num.toZ) _ from by unfold PwOk;rw[Jq];exact(.inl o))) vr<|fun h H=>absurd H o)⟩
  refine Nl (Uc<|PT<|PT ?_);have hqs:=VA 1048576 S;refine PN<|Om<|Ub<|Ry r r o (K7 (a:=1048576) (b:=S) o)<|Ol<|QN r r (fun bX=>?_)<|fun bX=>?_
  ·refine Om (Oz<|Oz<|Oz<|Oz<|Oz<|OT<|Nl<|Uf<|Ol<|PX (cs:=[b13,n11,b13,n11]) r κ<|On<|Us (cs':=[b13,n11,b13,n11]) F e io28 ?_);intro _ bi _ cM;exact Ua<|PS<|Jg r r r cM ag28 bi<|⟨_,(YT:GRat),7,rfl,(Jz RS.nil RS.nil).tr bi.wb,(.inr δ)⟩
  refine Om<|OgD<|PP<|OgD<|PP<|OgD<|Ry r r o (K7 (a:=1048576) (b:=S) o)<|OgD<|St.neg (z:=(-((1048576/S:Nat):Int))) r (K4 o)<|OgD<|P2 r r (fun bY=>?_)<|fun bY=>?_
  ·refine OF (Nl<|Uf<|Ol<|PX (cs:=[b13,n11,b13,n11]) r κ<|On<|Us (cs':=[b13,n11,b13,n11]) F e io28 ?_);intro _ bj _ cN;exact Ua<|PS<|Jg r r r cN ag28 bj<|⟨_,(YT:GRat),7,rfl,(Jz RS.nil RS.nil).tr bj.wb,(.inr δ)⟩
  refine OF (Nl<|Uc<|PT ?_);have hokn:=uU (n:=n.natAbs) hbs.1 o;have hokd:=uU (n:=n.natAbs) hbs.2 o;refine PN (Ol<|PJ Y7 rfl<|Ol<|Uo (vs:=(zzC ((ofQ a.q).num) A B)) g ag26<|Om<|Ub<|St.neg (z:=(-n)) r (K4 o)<|Ol<|St.max (z:=(n.natAbs:Int)) r r D'<|Ol<|PK F pQ r r (x6 F.bd (a:=(ofQ a.q).num) (Jl i) (n:=n.natAbs) o o (show PwOk ((ofQ a.q).num.toZ) _ from by unfold PwOk;rw[Jq];exact hokn)) ?_);intro _ _ cO ar cP;have j:=(j.sp aV).sp ar;have g:=g.spn ar;have e:=e.spn ar;obtain⟨_,_,rfl,cQ,rfl⟩:=cP;obtain⟨I,J,rfl,k⟩:=RV.int cQ;refine Om (Ol<|St.extract r rfl<|Ol<|St.extract r rfl<|Ol<|PU cO io26 r ?_);intro _ _ _ _ aW cR Y cS;have cT:=aW _ g.blk.lt;have bk:=aW _ e.blk.lt;have k:=k.sp Y;have e:=e.spn Y;refine On (Us (cs':=(zzC (ofZ<|(ofQ a.q).num.toZ^n.natAbs) I J)) cR cS io26 ?_);intro _ bl Z m;have j:=(j.sp Y).sp Z;have g:=(g.spn Y).spo Z cT;refine Oa (Nl<|Rg<|Ol<|PJ Yy rfl<|Ol<|Uo (vs:=(zzC ((ofQ a.q).den) aj ak)) g ag26<|Om<|Ub<|St.neg (z:=(-n)) r (K4 o)<|Ol<|St.max (z:=(n.natAbs:Int)) r r D' ?_);refine Ol (PK bl pQ r r (x6 bl.bd (a:=(ofQ a.q).den) (Jl j) (n:=n.natAbs) o o (show PwOk ((ofQ a.q).den.toZ) _ from by unfold PwOk;rw[Jq];exact hokd)) ?_);intro _ _ cU au cV;have k:=(k.sp Z).sp au;have e:=(e.spo Z bk).spn au;have m:=m.spn au;obtain⟨_,_,rfl,cW,rfl⟩:=cV;obtain⟨K,L,rfl,D⟩:=RV.int cW;refine Om (Ol<|St.extract r rfl<|Ol<|St.extract r rfl<|Ol<|PU cU io26 r ?_);intro _ _ _ _ aX cX aa cY;have av:=aX _ e.blk.lt;have aw:=aX _ m.blk.lt;have e:=e.spn aa;refine On (Us (cs':=(zzC (ofZ<|(ofQ a.q).den.toZ^n.natAbs) K L)) cX cY io26 ?_);intro _ ax M N;have k:=(k.sp aa).sp M;have D:=(D.sp aa).sp M;have m:=(m.spn aa).spo M aw;refine Ua<|Rh<|Ub<|P2 r r (fun bZ=>?_)<|fun bZ=>?_
  ·refine Nl (Uk<|Ol<|Uo (vs:=(zzC (ofZ<|(ofQ a.q).den.toZ^n.natAbs) K L)) N ag26<|Ol<|Uo (vs:=(zzC (ofZ<|(ofQ a.q).num.toZ^n.natAbs) I J)) m ag26<|On<|Us (cs':=(zzC (ofZ<|(ofQ a.q).den.toZ^n.natAbs) K L)) ax m io26 ?_);intro _ cZ ab ay;have e:=(e.spo M av).spo ab bk;have N:=N.spo ab (TA aw);refine On (Us (cs':=(zzC (ofZ<|(ofQ a.q).num.toZ^n.natAbs) I J)) cZ N io26 ?_);intro _ bm ac c0;have k:=(k.sp ab).sp ac;have D:=(D.sp ab).sp ac;have ay:=ay.spo ac aw;refine Nl (PT ?_);have x:(ofZ<|((ofQ a.q).num.toZ)^n.natAbs).mag.length≤32768:=PwOk.len (show PwOk ((ofQ a.q).num.toZ) _ from by unfold PwOk;rw[Jq];exact hokn);have y:(ofZ<|((ofQ a.q).den.toZ)^n.natAbs).mag.length≤32768:=PwOk.len (show PwOk ((ofQ a.q).den.toZ) _ from by unfold PwOk;rw[Jq];exact hokd);refine PN (Ol<|Uo (vs:=(zzC (ofZ<|(ofQ a.q).den.toZ^n.natAbs) K L)) ay ag26<|Ol<|Uo (vs:=(zzC (ofZ<|(ofQ a.q).num.toZ^n.natAbs) I J)) c0 ag26<|Ol<|PK bm ns r r (yc bm.bd (n:=(ofZ<|(ofQ a.q).den.toZ^n.natAbs)) (Jl D) (d:=(ofZ<|(ofQ a.q).num.toZ^n.natAbs)) (Jl k) o o) ?_);intro _ _ c1 c3 bn;have e:=(e.spo ac av).spn c3;simp only[Jo,J9] at bn;obtain⟨c5,c6,c7,c8,rfl,az,aA⟩:=ST bn;refine On (Us (cs':=(qqC (ofQ<|Rat.divInt ((ofQ a.q).den.toZ^n.natAbs)<|(ofQ a.q).num.toZ^n.natAbs) c5 c6 c7 c8)) c1 e io28 ?_);intro _ bo bp c9;have az:=az.sp bp;have aA:=aA.sp bp;exact Ua<|PS<|Jg r r r c9 ag28 bo ⟨_,(ofQ<|Rat.divInt ((ofQ a.q).den.toZ^n.natAbs)<|(ofQ a.q).num.toZ^n.natAbs),0,rfl,(Jz az aA).tr bo.wb,(ze y x<|fun h H=>absurd H o)⟩
  refine Nl (Uc<|PT ?_);have x:(ofZ<|((ofQ a.q).num.toZ)^n.natAbs).mag.length≤32768:=PwOk.len (show PwOk ((ofQ a.q).num.toZ) _ from by unfold PwOk;rw[Jq];exact hokn);have y:(ofZ<|((ofQ a.q).den.toZ)^n.natAbs).mag.length≤32768:=PwOk.len (show PwOk ((ofQ a.q).den.toZ) _ from by unfold PwOk;rw[Jq];exact hokd);refine PN (Ol<|Uo (vs:=(zzC (ofZ<|(ofQ a.q).num.toZ^n.natAbs) I J)) m ag26<|Ol<|Uo (vs:=(zzC (ofZ<|(ofQ a.q).den.toZ^n.natAbs) K L)) N ag26<|Ol<|PK ax ns r r (yc ax.bd (n:=(ofZ<|(ofQ a.q).num.toZ^n.natAbs)) (Jl k) (d:=(ofZ<|(ofQ a.q).den.toZ^n.natAbs)) (Jl D) o o) ?_);intro _ _ da dc bq;have e:=(e.spo M av).spn dc;simp only[Jo,J9] at bq;obtain⟨dd,de,df,dg,rfl,aB,aD⟩:=ST bq;refine On (Us (cs':=(qqC (ofQ<|Rat.divInt ((ofQ a.q).num.toZ^n.natAbs)<|(ofQ a.q).den.toZ^n.natAbs) dd de df dg)) da e io28 ?_);intro _ br bs dh;have aB:=aB.sp bs;have aD:=aD.sp bs;exact Ua<|PS<|Jg r r r dh ag28 br ⟨_,(ofQ<|Rat.divInt ((ofQ a.q).num.toZ^n.natAbs)<|(ofQ a.q).den.toZ^n.natAbs),0,rfl,(Jz aB aD).tr br.wb,(ze x y<|fun h H=>pw0 (uS h) o)⟩
 refine Om (Oz<|Oz<|Oz<|Oz<|Oz<|OF<|Nl<|Uc<|Rg<|Ol<|Uo (vs:=(qqC (ofQ a.q) A B aj ak)) g ag28 ?_);refine Ol (PK am LE r r (Aa am.bd (a:=(ofQ a.q)) (Jz i j) o o) ?_);intro _ _ p ad bt;have i:=i.sp ad;have g:=g.spn ad;have e:=e.spn ad;simp only[Jo,J9] at bt;subst bt;refine Oa (Nl<|PT<|PT ?_);have hbs:=MQ (S:=max (blen<|val (ofQ a.q).num.mag)<|blen<|val (ofQ a.q).den.mag) r;have es:=pj (Yd (a.q).num.natAbs);generalize max (blen<|val (ofQ a.q).num.mag) (blen<|val (ofQ a.q).den.mag)=S at *;refine PN<|Ub<|Rt r r (fun b0=>?_)<|fun b0=>?_
 ·refine Nl<|Uf<|Ua<|Rh<|Ub<|QH r r (fun b1=>?_)<|fun b1=>?_
  ·refine Nl (Uk<|Ub<|RI r r δ rfl<|Ol<|St.add (z:=((2+n.tmod 2).toNat:Int)) r r (by rw[b7];exact Tz _ o)<|Ua<|Rg<|Ol<|PJ Y7 rfl<|Ol<|Uo (vs:=(zzC ((ofQ a.q).num) A B)) g ag26 ?_);refine Om (Ol<|PK p pQ r r (x6 p.bd (a:=(ofQ a.q).num) (Jl i) (n:=(2+n.tmod 2).toNat) o o (show PwOk ((ofQ a.q).num.toZ) _ from by unfold PwOk;rw[Jq];exact(.inl o))) ?_);intro _ _ di dj dk;have e:=e.spn dj;obtain⟨_,_,rfl,dl,rfl⟩:=dk;obtain⟨bu,bv,rfl,aE⟩:=RV.int dl;refine Om (Ol<|St.extract r rfl<|Ol<|St.extract r rfl<|Ol<|PU di io26 r ?_);intro _ _ _ _ b2 dm bw dn;have dp:=b2 _ e.blk.lt;have e:=e.spn bw;refine On (Us (cs':=(zzC (ofZ<|(ofQ a.q).num.toZ^((2+n.tmod 2).toNat)) bu bv)) dm dn io26 ?_);intro _ bx bz dq;have aE:=(aE.sp bw).sp bz;refine Oa (Nl<|Rg<|Ol<|Uo (vs:=(zzC (ofZ<|(ofQ a.q).num.toZ^((2+n.tmod 2).toNat)) bu bv)) dq ag26<|Ol<|PK bx DP r r (vy bx.bd (a:=(ofZ<|(ofQ a.q).num.toZ^((2+n.tmod 2).toNat))) (Jl aE)<|Tj (PwOk.len (show PwOk ((ofQ a.q).num.toZ) _ from by unfold PwOk;rw[Jq];exact(.inl o))) δ) ?_);intro _ _ dr ds bA;have e:=(e.spo bz dp).spn ds;simp only[Jo,J9] at bA;obtain⟨dt,du,dv,dw,rfl,aF,aG⟩:=ST bA;refine On (Us (cs':=(qqC (ofQ<|Rat.divInt ((ofQ a.q).num.toZ^((2+n.tmod 2).toNat)) 1) dt du dv dw)) dr e io28 ?_);intro _ bB bC dx;have aF:=aF.sp bC;have aG:=aG.sp bC;exact Ua<|PS<|Jg r r r dx ag28 bB ⟨_,(ofQ<|Rat.divInt ((ofQ a.q).num.toZ^((2+n.tmod 2).toNat)) 1),0,rfl,(Jz aF aG).tr bB.wb,(ze (PwOk.len (show PwOk ((ofQ a.q).num.toZ) _ from by unfold PwOk;rw[Jq];exact(.inl o))) vr<|fun h H=>pw0 (uS h) o)⟩
  refine Nl (Uc<|Rg<|Ol<|PJ Y7 rfl<|Ol<|Uo (vs:=(zzC ((ofQ a.q).num) A B)) g ag26<|Ub<|PK p pQ r r (x6 p.bd (a:=(ofQ a.q).num) (Jl i) (n:=0) o o (show PwOk ((ofQ a.q).num.toZ) _ from by unfold PwOk;rw[Jq];exact(.inl o))) ?_);intro _ _ dy dz dA;have e:=e.spn dz;obtain⟨_,_,rfl,dB,rfl⟩:=dA;obtain⟨bD,bE,rfl,aH⟩:=RV.int dB;refine Om (Ol<|St.extract r rfl<|Ol<|St.extract r rfl<|Ol<|PU dy io26 r ?_);intro _ _ _ _ b3 dC bF dD;have dE:=b3 _ e.blk.lt;have e:=e.spn bF;refine On (Us (cs':=(zzC (ofZ<|(ofQ a.q).num.toZ^0) bD bE)) dC dD io26 ?_);intro _ bG bH dF;have aH:=(aH.sp bF).sp bH;refine Oa (Nl<|Rg<|Ol<|Uo (vs:=(zzC (ofZ<|(ofQ a.q).num.toZ^0) bD bE)) dF ag26<|Ol<|PK bG DP r r (vy bG.bd (a:=(ofZ<|(ofQ a.q).num.toZ^0)) (Jl aH)<|Tj (PwOk.len (show PwOk ((ofQ a.q).num.toZ) _ from by unfold PwOk;rw[Jq];exact(.inl o))) δ) ?_);intro _ _ dG dH bI;have e:=(e.spo bH dE).spn dH;simp only[Jo,J9] at bI;obtain⟨dI,dJ,dK,dL,rfl,aI,aJ⟩:=ST bI;refine On (Us (cs':=(qqC (ofQ<|Rat.divInt ((ofQ a.q).num.toZ^0) 1) dI dJ dK dL)) dG e io28 ?_);intro _ bJ bK dM;have aI:=aI.sp bK;have aJ:=aJ.sp bK;exact Ua<|PS<|Jg r r r dM ag28 bJ ⟨_,(ofQ<|Rat.divInt ((ofQ a.q).num.toZ^0) 1),0,rfl,(Jz aI aJ).tr bJ.wb,(ze (PwOk.len (show PwOk ((ofQ a.q).num.toZ) _ from by unfold PwOk;rw[Jq];exact(.inl o))) vr<|fun h H=>absurd H o)⟩
 refine Nl (Uc<|PT<|PT ?_);have hqs:=VA 1048576 S;refine PN<|Om<|Ub<|Ry r r o (K7 (a:=1048576) (b:=S) o)<|Ol<|QN r r (fun b4=>?_)<|fun b4=>?_
 ·refine Om (Oz<|Oz<|Oz<|Oz<|Oz<|OT<|Nl<|Uf<|Ol<|PX (cs:=[b13,n11,b13,n11]) r κ<|On<|Us (cs':=[b13,n11,b13,n11]) p e io28 ?_);intro _ bL _ dN;exact Ua<|PS<|Jg r r r dN ag28 bL<|⟨_,(YT:GRat),7,rfl,(Jz RS.nil RS.nil).tr bL.wb,(.inr δ)⟩
 refine Om<|OgD<|PP<|OgD<|PP<|OgD<|Ry r r o (K7 (a:=1048576) (b:=S) o)<|OgD<|St.neg (z:=(-((1048576/S:Nat):Int))) r (K4 o)<|OgD<|P2 r r (fun b5=>?_)<|fun b5=>?_
 ·refine OF (Nl<|Uf<|Ol<|PX (cs:=[b13,n11,b13,n11]) r κ<|On<|Us (cs':=[b13,n11,b13,n11]) p e io28 ?_);intro _ bM _ dO;exact Ua<|PS<|Jg r r r dO ag28 bM<|⟨_,(YT:GRat),7,rfl,(Jz RS.nil RS.nil).tr bM.wb,(.inr δ)⟩
 refine OF (Nl<|Uc<|PT ?_);have hokn:=uU (n:=n.natAbs) hbs.1 o;have hokd:=uU (n:=n.natAbs) hbs.2 o;refine PN (Ol<|PJ Y7 rfl<|Ol<|Uo (vs:=(zzC ((ofQ a.q).num) A B)) g ag26<|Om<|Ub<|St.neg (z:=(-n)) r (K4 o)<|Ol<|St.max (z:=(n.natAbs:Int)) r r D'<|Ol<|PK p pQ r r (x6 p.bd (a:=(ofQ a.q).num) (Jl i) (n:=n.natAbs) o o (show PwOk ((ofQ a.q).num.toZ) _ from by unfold PwOk;rw[Jq];exact hokn)) ?_);intro _ _ dP aK dQ;have j:=(j.sp ad).sp aK;have g:=g.spn aK;have e:=e.spn aK;obtain⟨_,_,rfl,dR,rfl⟩:=dQ;obtain⟨P,Q,rfl,l⟩:=RV.int dR;refine Om (Ol<|St.extract r rfl<|Ol<|St.extract r rfl<|Ol<|PU dP io26 r ?_);intro _ _ _ _ aY dS ae dT;have dU:=aY _ g.blk.lt;have bN:=aY _ e.blk.lt;have l:=l.sp ae;have e:=e.spn ae;refine On (Us (cs':=(zzC (ofZ<|(ofQ a.q).num.toZ^n.natAbs) P Q)) dS dT io26 ?_);intro _ bO af s;have j:=(j.sp ae).sp af;have g:=(g.spn ae).spo af dU;refine Oa (Nl<|Rg<|Ol<|PJ Yy rfl<|Ol<|Uo (vs:=(zzC ((ofQ a.q).den) aj ak)) g ag26<|Om<|Ub<|St.neg (z:=(-n)) r (K4 o)<|Ol<|St.max (z:=(n.natAbs:Int)) r r D' ?_);refine Ol (PK bO pQ r r (x6 bO.bd (a:=(ofQ a.q).den) (Jl j) (n:=n.natAbs) o o (show PwOk ((ofQ a.q).den.toZ) _ from by unfold PwOk;rw[Jq];exact hokd)) ?_);intro _ _ dV aL dW;have l:=(l.sp af).sp aL;have e:=(e.spo af bN).spn aL;have s:=s.spn aL;obtain⟨_,_,rfl,dX,rfl⟩:=dW;obtain⟨R,T,rfl,E⟩:=RV.int dX;refine Om (Ol<|St.extract r rfl<|Ol<|St.extract r rfl<|Ol<|PU dV io26 r ?_);intro _ _ _ _ aZ dY ag dZ;have aM:=aZ _ e.blk.lt;have aO:=aZ _ s.blk.lt;have e:=e.spn ag;refine On (Us (cs':=(zzC (ofZ<|(ofQ a.q).den.toZ^n.natAbs) R T)) dY dZ io26 ?_);intro _ aP U V;have l:=(l.sp ag).sp U;have E:=(E.sp ag).sp U;have s:=(s.spn ag).spo U aO;refine Ua<|Rh<|Ub<|P2 r r (fun b6=>?_)<|fun b6=>?_
 ·refine Nl (Uk<|Ol<|Uo (vs:=(zzC (ofZ<|(ofQ a.q).den.toZ^n.natAbs) R T)) V ag26<|Ol<|Uo (vs:=(zzC (ofZ<|(ofQ a.q).num.toZ^n.natAbs) P Q)) s ag26<|On<|Us (cs':=(zzC (ofZ<|(ofQ a.q).den.toZ^n.natAbs) R T)) aP s io26 ?_);intro _ d0 ah aQ;have e:=(e.spo U aM).spo ah bN;have V:=V.spo ah (TA aO);refine On (Us (cs':=(zzC (ofZ<|(ofQ a.q).num.toZ^n.natAbs) P Q)) d0 V io26 ?_);intro _ bP ai d1;have l:=(l.sp ah).sp ai;have E:=(E.sp ah).sp ai;have aQ:=aQ.spo ai aO;refine Nl (PT ?_);have x:(ofZ<|((ofQ a.q).num.toZ)^n.natAbs).mag.length≤32768:=PwOk.len (show PwOk ((ofQ a.q).num.toZ) _ from by unfold PwOk;rw[Jq];exact hokn);have y:(ofZ<|((ofQ a.q).den.toZ)^n.natAbs).mag.length≤32768:=PwOk.len (show PwOk ((ofQ a.q).den.toZ) _ from by unfold PwOk;rw[Jq];exact hokd);refine PN (Ol<|Uo (vs:=(zzC (ofZ<|(ofQ a.q).den.toZ^n.natAbs) R T)) aQ ag26<|Ol<|Uo (vs:=(zzC (ofZ<|(ofQ a.q).num.toZ^n.natAbs) P Q)) d1 ag26<|Ol<|PK bP ns r r (yc bP.bd (n:=(ofZ<|(ofQ a.q).den.toZ^n.natAbs)) (Jl E) (d:=(ofZ<|(ofQ a.q).num.toZ^n.natAbs)) (Jl l) o o) ?_);intro _ _ d2 d3 bQ;have e:=(e.spo ai aM).spn d3;simp only[Jo,J9] at bQ;obtain⟨d4,d5,d6,d7,rfl,aR,aS⟩:=ST bQ;refine On (Us (cs':=(qqC (ofQ<|Rat.divInt ((ofQ a.q).den.toZ^n.natAbs)<|(ofQ a.q).num.toZ^n.natAbs) d4 d5 d6 d7)) d2 e io28 ?_);intro _ bR bS d8;have aR:=aR.sp bS;have aS:=aS.sp bS;exact Ua<|PS<|Jg r r r d8 ag28 bR ⟨_,(ofQ<|Rat.divInt ((ofQ a.q).den.toZ^n.natAbs)<|(ofQ a.q).num.toZ^n.natAbs),0,rfl,(Jz aR aS).tr bR.wb,(ze y x<|fun h H=>absurd H o)⟩
 refine Nl (Uc<|PT ?_);have x:(ofZ<|((ofQ a.q).num.toZ)^n.natAbs).mag.length≤32768:=PwOk.len (show PwOk ((ofQ a.q).num.toZ) _ from by unfold PwOk;rw[Jq];exact hokn);have y:(ofZ<|((ofQ a.q).den.toZ)^n.natAbs).mag.length≤32768:=PwOk.len (show PwOk ((ofQ a.q).den.toZ) _ from by unfold PwOk;rw[Jq];exact hokd);refine PN (Ol<|Uo (vs:=(zzC (ofZ<|(ofQ a.q).num.toZ^n.natAbs) P Q)) s ag26<|Ol<|Uo (vs:=(zzC (ofZ<|(ofQ a.q).den.toZ^n.natAbs) R T)) V ag26<|Ol<|PK aP ns r r (yc aP.bd (n:=(ofZ<|(ofQ a.q).num.toZ^n.natAbs)) (Jl l) (d:=(ofZ<|(ofQ a.q).den.toZ^n.natAbs)) (Jl E) o o) ?_);intro _ _ d9 eb bT;have e:=(e.spo U aM).spn eb;simp only[Jo,J9] at bT;obtain⟨ed,ee,ef,eg,rfl,aT,aU⟩:=ST bT;refine On (Us (cs':=(qqC (ofQ<|Rat.divInt ((ofQ a.q).num.toZ^n.natAbs)<|(ofQ a.q).den.toZ^n.natAbs) ed ee ef eg)) d9 e io28 ?_);intro _ bU bV eh;have aT:=aT.sp bV;have aU:=aU.sp bV;exact Ua<|PS<|Jg r r r eh ag28 bU ⟨_,(ofQ<|Rat.divInt ((ofQ a.q).num.toZ^n.natAbs)<|(ofQ a.q).den.toZ^n.natAbs),0,rfl,(Jz aT aU).tr bU.wb,(ze x y<|fun h H=>pw0 (uS h) o)⟩
end Go.Wf
namespace Go.Wf
open Go
variable{R:Option GExpr→Prop}{a:GExpr}{i:Nat}
theorem Bd.top(h:Bd a):a.op=12→ -200≤a.n.getD 0 0∧a.n.getD 0 0≤200:=by cases h;assumption
theorem OX(q:Rat):Bd (nbE q):= .mk (fun h=>by simp[nbE,GExpr.op] at h) fun _ hx=>by simp[nbE,GExpr.args] at hx
def Ans(R:Option GExpr→Prop)(m:GExpr)(e:Int):Prop:=(e=0∧R (some m))∨(¬e=0∧R none)
theorem Ans.ok{m:GExpr}{e:Int}(h:Ans R m e)(a:e=0):R (some m):=h.elim (·.2) fun h=>absurd a h.1
theorem Ans.no{m:GExpr}{e:Int}(h:Ans R m e)(a:¬e=0):R none:=h.elim (fun h=>absurd h.1 a) (·.2)
theorem Ans.imp{S:Option GExpr→Prop}{m:GExpr}{e:Int}(h:Ans R m e)(k:∀o,R o→S o):Ans S m e:=Or.imp (fun h=>⟨h.1,k _ h.2⟩) (fun h=>⟨h.1,k _ h.2⟩) h
theorem Kg{m:GExpr}(h:R (some m)):Ans R m 0:= .inl ⟨rfl,h⟩
theorem zt{m:GExpr}{e:Int}(a:¬e=0)(h:R none):Ans R m e:= .inr ⟨a,h⟩
structure RaiP (a:GExpr) (n:Int):Prop where
 nf:NF a
 lw:Lwe a
 bd:Bd a
 wd:Wd 40000 a
 dg:dgE a≤199000000
 nn:(-200≤n∧n≤200)∨(a.op≠12∧a.op≠11∧ -100000≤n∧n≤100000)
theorem RaiP.sz{n:Int}(h:RaiP a n):Sz a:=h.nf.sz h.lw h.dg h.wd d d
theorem RaiP.n1{n:Int}(h:RaiP a n): -100000≤n∧n≤100000:=by rcases h.nn with h|h<;>omega
theorem RaiP.n2{n:Int}(h:RaiP a n)(hop:a.op=12∨a.op=11): -200≤n∧n≤200:=by
 rcases h.nn with h|h
 ·exact h
 ·omega
theorem Fu{x y:Int}(a: -200≤x∧x≤200)(b: -200≤y∧y≤200): -40000≤x*y∧x*y≤40000:=by
 have e:(x*y).natAbs=x.natAbs*y.natAbs:=T8 x y;have d:x.natAbs*y.natAbs≤200*200:=VP ω ω;omega
theorem vV{n:Int}(h:RaiP a n)(d:a.op=12):RaiP (a.args.getD 0 Δ) (a.n.getD 0 0*n)∧ -40000≤a.n.getD 0 0*n∧a.n.getD 0 0*n≤40000:=by
 obtain⟨_,b,e,_,_,g,i,_⟩:=h.nf.top.pow d;have hm:b∈a.args:=by rw[e];simp[pwE,GExpr.args]
 have hb:a.args.getD 0 Δ=b:=by rw[e];rfl
 have:=Fu (h.bd.top d) (h.n2 (.inl d))
 rw[hb];exact⟨⟨h.nf.arg b hm,(Ya.1 h.lw).2 b hm,h.bd.arg b hm,h.wd.arg b hm,Tj (Vc ω hm) h.dg,.inr ⟨g,i,ω,ω⟩⟩,this⟩
theorem qG{f:GExpr}{n:Int}(h:RaiP a n)(b:a.op=11)(hf:f∈a.args):RaiP f n:=
 ⟨h.nf.arg f hf,(Ya.1 h.lw).2 f hf,h.bd.arg f hf,h.wd.arg f hf,Tj (Vc ω hf) h.dg,.inl (h.n2 (.inr b))⟩
theorem yK(hn:NF a)(d:a.op=11)(hi:i<a.args.length):(a.args.getD i Δ).op≠11∧((a.args.getD i Δ).op=1→i=0):=by
 obtain⟨_,hp⟩:=hn.top.prod d;rcases hp with ⟨g,_,_,_,b⟩|⟨b,_⟩
 ·cases i with
  |zero=>exact⟨by show(hdE a).op≠11;rw[g];decide,fun _=>rfl⟩
  |succ i=>
   have hm':a.args.getD (i+1) Δ∈a.args.drop 1:=by
    have e:(a.args.drop 1).getD i Δ=a.args.getD (i+1) Δ:=by
     rw[Tq,UB,Tq,Nat.add_comm 1 i]
    rw[←e];exact Jp Y'
   exact⟨(b.1 _ hm').2,fun h=>absurd h (b.1 _ hm').1⟩
 ·have hm':=Jp hi;exact⟨(b.1 _ hm').2,fun h=>absurd h (b.1 _ hm').1⟩
theorem xW{b x:GExpr}{n:Int}(hr:RaiR b n (some x))(a:b.op≠12)(d:b.op≠11)(hb:Bd b)(hn: -1000000≤n∧n≤1000000)(hx:¬x.op=1):(-1000000≤(paM x).exp∧(paM x).exp≤1000000)∧∀y∈(paM x).rest,Bd y:=by
 cases hr with
 |zero=>exact absurd r hx
 |one=>exact wm hb
 |pow g i h hr=>exact absurd h a
 |num q g i h hc hq hz=>exact absurd r hx
 |prod g i h hl hx hm=>exact absurd h d
 |other=>
  rw[CA (show(pwE n [b]).op=12 from rfl)];exact⟨⟨hn.1,hn.2⟩,fun y hy=>by rw[Z4 hy];exact hb⟩
theorem KT{f x:GExpr}{n:Int}(hr:RaiR f n (some x))(hn:NF f)(hb:Bd f)(d:f.op≠11)(hnn: -200≤n∧n≤200)(hx:¬x.op=1):(-1000000≤(paM x).exp∧(paM x).exp≤1000000)∧∀y∈(paM x).rest,Bd y:=by
 by_cases a:f.op=12
 ·obtain⟨_,b,e,_,_,j,k,_⟩:=hn.top.pow a;cases hr with
  |zero=>exact absurd r hx
  |one=>exact wm hb
  |pow g i h hr=>
   have l:=Fu (hb.top a) hnn;have hm:b∈f.args:=by rw[e];simp[pwE,GExpr.args]
   have he:hdE f=b:=by rw[e];rfl
   rw[he] at hr;exact xW hr j k (hb.arg b hm) ω hx
  |num q g i h hc hq hz=>exact absurd r hx
  |prod g i h hl hx hm=>exact absurd h d
  |other g i h=>exact absurd a h
 ·exact xW hr a d hb ω hx
theorem u5{n:Int}{xs:List GExpr}(h:RaiP a n)(d:a.op=11)(p:n≠0)(s:n≠1)(hl:xs.length=a.args.length)(hx:∀i,i<xs.length→RaiR (a.args.getD i Δ) n (some (xs.getD i Δ))):MulP 1 xs:=by
 have hw:=h.wd.len;have hF:∀i,i<xs.length→_:=fun i hi=>rY (k:=40000) (hx i hi) (h.nf.arg _ (Jp ω)) δ p s (yK h.nf d ω).1 (h.wd.arg _ (Jp ω));have hnf:∀z∈xs,NF z∧Lwe z:=fun z hz=>by
  obtain⟨i,hi,rfl⟩:=J6 hz;have hm':=Jp (show i<a.args.length by omega);exact u9 (hx i ω) (h.nf.arg _ hm') ((Ya.1 h.lw).2 _ hm') _ r
 have hfl:flE 11 xs=xs:=yl fun z hz=>by
  obtain⟨i,hi,rfl⟩:=J6 hz
  exact(hF i ω).1
 have hnn:∀(m:Nat) (ys:List GExpr),(∀j,j<ys.length→wN (ys.getD j Δ)≤2∨(m+j=0∧wN (ys.getD j Δ)≤32771))→sumN wN ys≤(if m=0 then 32771 else 0)+2*ys.length:=by
  intro m ys
  induction ys generalizing m with
  |nil=>intro _;rw[sumN];omega
  |cons y ys ih=>
   intro hy;have v:=hy 0 χ;have w:=ih (m+1) fun j hj=>by
    rcases hy (j+1) B' with h|h
    ·exact .inl h
    ·omega
   rw[if_neg ω] at w;rw[sumN,Td];simp only[TK,U5] at v;split<;>omega
 have hN:nnE xs≤32771+2*40000:=by
  unfold nnE;rw[hfl]
  have:=hnn 0 xs fun j hj=>by
   obtain⟨_,_,b⟩:=hF j ω;rcases b with ⟨b,A,B⟩|⟨b,_⟩
   ·have e:wN (xs.getD j Δ)=uq (xs.getD j Δ).c.q+1:=if_pos b;by_cases e1:(a.args.getD j Δ).op=1
    ·exact .inr ⟨by have:=(yK h.nf d (show j<a.args.length by omega)).2 e1;omega,ω⟩
    ·exact .inl (by have:=B e1;omega)
   ·have e:wN (xs.getD j Δ)=0:=if_neg b;exact .inl ω
  rw[if_pos rfl] at this;omega
 have hdg:=h.dg;have hdx:∀i,i<xs.length→dgE (xs.getD i Δ)≤199000000+32780:=fun i hi=>by
  obtain⟨_,_,b⟩:=hF i ω
  have:dgE (a.args.getD i Δ)≤dgE a:=Vc ω (Jp ω)
  rcases b with ⟨b,A,_⟩|⟨_,b⟩
  ·rw[Xd,if_pos b];omega
  ·omega
 have hpr:∀g∈prM xs,∃i,i<xs.length∧g=xs.getD i Δ∧¬g.op=1:=fun g hg=>by
  obtain⟨l,C⟩:=rq hg;rw[hfl] at l;obtain⟨i,hi,e⟩:=J6 l;exact⟨i,hi,e,C⟩
 constructor
 ·exact hnf
 ·refine⟨by omega,fun z hz=>?_⟩
  obtain⟨i,hi,rfl⟩:=J6 hz
  exact(hnf _ hz).1.sz (T:=199032780) (k:=40000) (hnf _ hz).2 (hdx i hi) (hF i hi).2.1 δ δ
 ·rw[hfl];omega
 ·omega
 ·intro g hg;obtain⟨i,hi,rfl,_⟩:=hpr g hg
  have:=hdx i hi
  omega
 ·intro g hg;obtain⟨i,hi,rfl,_⟩:=hpr g hg
  exact(hF i hi).2.1.up δ
 ·intro g hg;obtain⟨i,hi,rfl,l⟩:=hpr g hg;have hm:=Jp (show i<a.args.length by omega);exact KT (hx i hi) (h.nf.arg _ hm) (h.bd.arg _ hm) (yK h.nf d ω).1 (h.n2 (.inr d)) l
 ·intro h;exact absurd h δ
theorem Cv{n:Int}(h:n=0):Ans (RaiR a n) (nbE (Rat.divInt 1 1)) 0:=by subst h;rw[q11];exact Kg .zero
theorem Hg{n:Int}(h:n=1):Ans (RaiR a n) a 0:=by subst h;exact Kg .one
theorem F1{x:GExpr}(h:Bd x):BdR x (some x):=⟨fun _=>rfl,fun k=>absurd h k⟩
theorem Lr{x:GExpr}(h:¬Bd x):BdR x none:=⟨fun k=>absurd k h,fun _=>rfl⟩
def BdA(a m:GExpr)(e:Int):Prop:=(e=0∧m=a∧Bd a)∨(¬e=0∧¬Bd a)
theorem BdA.r{m:GExpr}{e:Int}(h:BdA a m e):Ans (BdR a) m e:=by
 rcases h with ⟨b,rfl,d⟩|⟨b,g⟩
 ·exact .inl ⟨b,F1 d⟩
 ·exact .inr ⟨b,Lr g⟩
theorem wZ{m:GExpr}(h:a.op=12)(b:a.n.getD 0 0 < -200∨200<a.n.getD 0 0){e:Int}(he:¬e=0):BdA a m e:= .inr ⟨he,fun k=>by have:=k.top h;omega⟩
theorem AJ{b m m2:GExpr}{e:Int}(h:BdA b m2 e)(hb:b∈a.args)(he:¬e=0):BdA a m e:= .inr ⟨he,fun k=>by
 rcases h with h|h
 ·exact he h.1
 ·exact h.2 (k.arg b hb)⟩
theorem zN(h:a.op=12→ -200≤a.n.getD 0 0∧a.n.getD 0 0≤200)(hi:a.args.length≤i)(hx:∀k,k<i→Bd (a.args.getD k Δ)):BdA a a 0:=
 .inl ⟨rfl,rfl,.mk h fun _ hx'=>by obtain⟨k,_,rfl⟩:=J6 hx';exact hx k ω⟩
theorem BdA.bd{m:GExpr}{e:Int}(h:BdA a m e)(b:e=0):Bd a:=h.elim (·.2.2) fun h=>absurd b h.1
structure NorP (K:Nat) (a:GExpr):Prop where
 va:Va a
 nu:Nu K a
 ct:cntE a≤60
 k1:40000≤K
 k2:K≤3300000
 sz:Sz a
theorem JF{e:GExpr}{o:Option GExpr}(hr:NorR e o):∀x,o=some x→Bd x:=by
 have bd:∀ {x y:GExpr} {o:Option GExpr},BdR x o→o=some y→Bd y:=fun {x y o} h e=>by
  by_cases hb:Bd x
  ·rw[h.of e];exact hb
  ·rw[h.2 hb] at e;cases e
 have key:∀ {e:GExpr} {xs:List GExpr},xs.length=e.args.length→(∀i,i<e.args.length→∀x,some (xs.getD i Δ)=some x→Bd x)→∀y∈xs,Bd y:=fun {e xs} hl ih y hy=>by
  obtain⟨i,hi,rfl⟩:=J6 hy;exact ih i ω _ r
 induction hr with
 |argE hi h ih=>intro x hx;cases hx
 |num h=>intro x hx;cases hx;exact OX _
 |sum h hl hx ha hb ih=>intro x hx;exact bd hb hx
 |prod h hl hx ha hb ih=>intro x hx;exact bd hb hx
 |powE h hl hx hr ih=>intro x hx;cases hx
 |pow h hl hx hr hb ih=>intro x hx;exact bd hb hx
 |drop h hl hx ih=>
  intro x hx;cases hx;rename_i e xs;rcases VE xs.length with a|a
  ·rw[TD a];exact .mk (fun h=>absurd h δ) fun x hx=>by cases hx
  ·exact key hl ih _ (Jp a)
 |vv h hvv hl hx ih=>
  intro x hx;cases hx;rename_i e xs;refine .mk (fun h=>by simp[GExpr.op] at h) fun y hy=>?_
  rcases VE xs.length with a|a
  ·rw[TD a] at hy;cases hy
  ·exact(key hl ih _ (Jp a)).arg y hy
 |other h hvv j d g b hl hx ih=>
  intro x hx;cases hx;exact .mk (fun h=>absurd h b) (key hl ih)
structure NorX (K:Nat) (e x:GExpr):Prop where
 nf:NF x
 lw:Lwe x
 bd:Bd x
 dg:dgE x+10≤K*cntE e
 wd:Wd (2*cntE e) x
theorem GC{K:Nat}{e x:GExpr}(h:NorP K e)(hr:NorR e (some x)):NorX K e x:=by
 obtain⟨n1,n2⟩:=FC hr h.va _ r;obtain⟨a,b⟩:=MM h.k1 hr h.va h.nu (by have:=h.ct;omega) _ r;exact⟨n1,n2,JF hr _ r,a,b⟩
theorem NorP.arg{K:Nat}{e:GExpr}(h:NorP K e)(hi:i<e.args.length):NorP K (e.args.getD i Δ):=by
 have:=yb hi
 have a:=h.ct;rw[Z7] at a;exact⟨h.va.arg _ (Jp hi),h.nu.arg _ (Jp hi),ω,h.k1,h.k2,nF h.sz hi⟩
section
variable {K:Nat} {e:GExpr} {xs:List GExpr}
theorem NorP.cl(h:NorP K e):cntL e.args≤59∧K*cntL e.args≤3300000*59:=by
 have a:=h.ct;rw[Z7] at a;exact⟨by omega,VP h.k2 ω⟩
theorem oT(h:NorP K e)(hl:xs.length=e.args.length)(hx:∀i,i<xs.length→NorR (e.args.getD i Δ) (some (xs.getD i Δ))):∀i,i<xs.length→NorX K (e.args.getD i Δ) (xs.getD i Δ):=
 fun i hi=>GC (h.arg ω) (hx i hi)
theorem vC(h:NorP K e)(hl:xs.length=e.args.length)(hx:∀i,i<xs.length→NorR (e.args.getD i Δ) (some (xs.getD i Δ))):AddP xs:=by
 have ha:=oT h hl hx;have hc:=h.cl;have nf:∀a∈xs,NF a∧Lwe a:=fun a hm=>by obtain⟨i,hi,rfl⟩:=J6 hm;exact⟨(ha i hi).nf,(ha i hi).lw⟩
 obtain⟨_,_⟩:=mL hl fun i hi=>(ha i ω).dg;obtain⟨_,_⟩:=Ak (op:=10) hl (fun i hi=>(ha i ω).wd) (Tu _);have hlc:=zd e.args;constructor
 ·exact nf
 ·refine⟨by omega,fun a hm=>?_⟩
  obtain⟨i,hi,rfl⟩:=J6 hm
  have:=yb (l:=e.args) (i:=i) ω
  have hk:=TP K this
  exact(ha i hi).nf.sz (T:=200000000) (k:=200) (ha i hi).lw (by have:=(ha i hi).dg;omega) ((ha i hi).wd.up ω) d d
 ·omega
 ·intro q
  have:=xC (p:=q) fun a hm=>(nf a hm).1
  omega
theorem tG(h:NorP K e)(hl:xs.length=e.args.length)(hx:∀i,i<xs.length→NorR (e.args.getD i Δ) (some (xs.getD i Δ))):MulP 1 xs:=by
 have ha:=oT h hl hx;have hc:=h.cl;have nf:∀a∈xs,NF a∧Lwe a:=fun a hm=>by obtain⟨i,hi,rfl⟩:=J6 hm;exact⟨(ha i hi).nf,(ha i hi).lw⟩
 obtain⟨_,_⟩:=mL hl fun i hi=>(ha i ω).dg;obtain⟨_,b⟩:=Ak (op:=11) hl (fun i hi=>(ha i ω).wd) (Tu _);obtain⟨_,n2⟩:=yR fun a hm=>(nf a hm).1;have hlc:=zd e.args;constructor
 ·exact nf
 ·refine⟨by omega,fun a hm=>?_⟩
  obtain⟨i,hi,rfl⟩:=J6 hm
  have:=yb (l:=e.args) (i:=i) ω
  have hk:=TP K this
  exact(ha i hi).nf.sz (T:=200000000) (k:=200) (ha i hi).lw (by have:=(ha i hi).dg;omega) ((ha i hi).wd.up ω) δ δ
 ·omega
 ·omega
 ·intro g hg
  have:=n2 g hg
  omega
 ·intro g hg;exact(b g (rq hg).1).up ω
 ·intro g hg;obtain⟨a,hm,hh⟩:=vB (rq hg).1;obtain⟨i,hi,rfl⟩:=J6 hm;rcases hh with ⟨_,d⟩|⟨_,rfl⟩
  ·exact wm ((ha i hi).bd.arg g d)
  ·exact wm (ha i hi).bd
 ·intro h;exact absurd h δ
theorem uD(h:NorP K e)(a:e.op=12)(hl:xs.length=e.args.length)(hx:∀i,i<xs.length→NorR (e.args.getD i Δ) (some (xs.getD i Δ))):RaiP (xs.getD 0 Δ) (e.n.getD 0 0):=by
 have b:=h.va.t1 ω ω;have ha:=oT h hl hx 0 ω;have hc:=h.cl
 have:=yb (l:=e.args) (i:=0) ω
 have hk:=TP K this;exact⟨ha.nf,ha.lw,ha.bd,ha.wd.up ω,by have:=ha.dg;omega,.inl (h.nu.t12 a)⟩
variable {x m:GExpr} {o:Option GExpr} {er:Int}
theorem Ho(h:e.op=10)(hl:xs.length=e.args.length)(hx:∀i,i<xs.length→NorR (e.args.getD i Δ) (some (xs.getD i Δ)))(ha:AddR xs x)(hb:BdA x m er):Ans (NorR e) m er:=
 hb.r.imp fun _ hb=> .sum h hl (fun i _=>hx i ω) ha hb
theorem CW(h:e.op=11)(hl:xs.length=e.args.length)(hx:∀i,i<xs.length→NorR (e.args.getD i Δ) (some (xs.getD i Δ)))(ha:MulR xs x)(hb:BdA x m er):Ans (NorR e) m er:=
 hb.r.imp fun _ hb=> .prod h hl (fun i _=>hx i ω) ha hb
theorem HL(h:e.op=12)(hl:xs.length=e.args.length)(hx:∀i,i<xs.length→NorR (e.args.getD i Δ) (some (xs.getD i Δ)))(ha:RaiR (xs.getD 0 Δ) (e.n.getD 0 0) (some x))(hb:BdA x m er):Ans (NorR e) m er:=
 hb.r.imp fun _ hb=> .pow h hl (fun i _=>hx i ω) ha hb
theorem Ct(h:e.op=12)(hl:xs.length=e.args.length)(hx:∀i,i<xs.length→NorR (e.args.getD i Δ) (some (xs.getD i Δ)))(ha:RaiR (xs.getD 0 Δ) (e.n.getD 0 0) none)(a:¬er=0):Ans (NorR e) m er:=
 zt a (.powE h hl (fun i _=>hx i ω) ha)
theorem Py(h:AddP xs)(hx:AddR xs x):NF x:=(yM h.nf hx).1
theorem Pr{d:Nat}(h:MulP d xs)(hx:MulR xs x):NF x:=(Ao hx h.nf).1
theorem O7{n:Int}(h:RaiP a n)(hx:RaiR a n (some x)):NF x:=(u9 hx h.nf h.lw _ r).1
theorem sH{k:Nat}{y:GExpr}(d:Nu K e)(g:Wd k y)(e1:e.op=13)(e2:y.op=13):(1≤e.n.getD 0 0∧e.n.getD 0 0≤1000∧1≤y.n.getD 0 0∧y.n.getD 0 0≤1000∧0<y.n.length)∧0≤e.n.getD 0 0*y.n.getD 0 0∧e.n.getD 0 0*y.n.getD 0 0≤1000000:=by
 obtain⟨_,a2,a⟩:=d.t13 e1;obtain⟨h,i,b⟩:=g.lv e2;refine⟨⟨a2,a,i,b,h⟩,Int.mul_nonneg ω ω,?_⟩
 have:=Int.mul_le_mul a b ω δ
 omega
end
theorem oP{P:Nat→Prop}(h:∀k,k<i→P k)(hp:P i):∀k,k<i+1→P k:=fun k hk=>by
 rcases Nat.lt_or_eq_of_le (Nat.le_of_lt_succ hk) with e|e
 ·exact h k e
 ·rw[e];exact hp
theorem vt{q:Rat}{n:Int}{c:GRat}{e:Int}(h:PowR q n c e)(a:e=0):c.num.mag.length≤32770∧c.den.mag.length≤32770:=h.elim (fun h=>⟨h.2.2.1,h.2.2.2.1⟩) fun h=>absurd a h
theorem yI{n:Int}{c:GRat}{e:Int}(h:PowR a.c.q n c e)(b:e=0)(d:n≠0)(n1:n≠1)(hop:a.op=1)(hc:0<n∨a.c.q≠0):Ans (RaiR a n) (nbE c.q) 0:=by
 rcases h with ⟨_,g,_,_,i⟩|h
 ·refine Kg (.num _ d n1 hop hc g fun hz=>i hz ?_);rcases hc with hc|hc
  ·exact hc
  ·exact absurd hz hc
 ·exact absurd b h
end Go.Wf
