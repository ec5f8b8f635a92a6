/- Part 6. -/
import Derived.Test.YtjiojpmoleilgaaGreatDoorSt5
set_option linter.unusedVariables false
set_option linter.unusedSimpArgs false
set_option maxRecDepth 100000
set_option maxHeartbeats 4000000
noncomputable section
namespace Go.Wf
open Go Go.Lib
variable{α:Type}
def En(r:By):Prop:=r=[]∨hd0 r=41∨hd0 r=44
theorem En.db{r:By}(h:En r):db r=r:=by
 rcases h with rfl|h|h
 ·rfl
 ·exact Kr ω
 ·exact Kr ω
structure Fe (r:By):Prop where
 nk:nok okB r
 n47:hd0 (db r)≠47
theorem sj{r:By}(h:nok okB r):nok digB r:=fun b t e=>by
 have:=h b t e
 unfold okB at this;unfold digB;rw[T4] at this;exact this.2
def gh(t:By):Prop:=∃c r,t=c::r∧(Ko c.toNat=true∨Ky c.toNat=true∨c.toNat=40)
theorem gh.ne{t:By}(h:gh t)(r:By):hd0 (t++r)≠32∧hd0 (t++r)≠45∧t≠[]:=by
 obtain⟨c,u,rfl,h⟩:=h;have b:hd0 (c::u++r)=c.toNat:=rfl;rw[b];refine⟨?_,?_,by simp⟩<;>rcases h with h|h|h
 ·have:=of_decide_eq_true h;omega
 ·have:=of_decide_eq_true h;omega
 ·omega
 ·have:=of_decide_eq_true h;omega
 ·have:=of_decide_eq_true h;omega
 ·omega
theorem BZ{t r:By}(h:gh t):gh (t++r):=by
 obtain⟨c,u,rfl,h⟩:=h;exact⟨c,u++r,rfl,h⟩
theorem L3(n:Nat):gh (decDigits n):=by
 obtain⟨c,r,e,b,d⟩:=wi n;exact⟨c,r,e,.inl (decide_eq_true ⟨b,d⟩)⟩
theorem gh_c{c:UInt8}{r:By}(h:(Ko c.toNat||Ky c.toNat||decide (c.toNat=40))=true):gh (c::r):=by
 refine⟨c,r,rfl,?_⟩;rw[T5,T5,decide_eq_true_eq] at h;rcases h with (h|h)|h
 ·exact .inl h
 ·exact .inr (.inl h)
 ·exact .inr (.inr h)
theorem MO{q:Rat}(h:0≤q):itoa q.num=decDigits q.num.toNat:=by
 unfold itoa;rw[if_neg (by have:=Rat.num_nonneg.2 h;omega)]
theorem gh_q{q:Rat}(h:0≤q):gh (qTxt q):=by
 unfold qTxt;rw[MO h];split
 ·exact L3 _
 ·rw[Tm];exact BZ (L3 _)
theorem nJ{a:GExpr}(h:negB a.op a.c.q=true):a.op=1∧0≤ -a.c.q:=by
 unfold negB at h;rw[T2,decide_eq_true_eq,decide_eq_true_eq] at h;refine⟨h.1,?_⟩;have b:a.c.q≤0:=y5.1 ω
 have:=Rat.neg_le_neg b
 rwa [Rat.neg_zero] at this
theorem FH{a:GExpr}(h:negB a.op a.c.q=false)(g:a.op=1):0≤a.c.q:=by
 unfold negB at h;rw[decide_eq_true g,Bool.true_and] at h;have k:=of_decide_eq_false h;rcases Rat.le_total (a:=0) (b:=a.c.q) with d|d
 ·exact d
 ·have m:=y5.2 d;have e:Xr a.c.q=0:=ω
  have i:a.c.q.num=0:=by unfold Xr at e;exact Uj.1 e
  have j:a.c.q=0:=by rw[←Wo a.c.q,i,Rat.zero_divInt]
  rw[j];exact Rat.le_refl
theorem Mp{a:GExpr}(h:Km a.name=true):gh a.name∧(∀c∈a.name,okB c=true)∧Kn a.name=false:=by
 unfold Km at h;simp only[T2,T3,decide_eq_true_eq] at h;obtain⟨⟨⟨⟨b,_⟩,d⟩,e⟩,g⟩:=h;refine⟨?_,Um.1 g,e⟩;cases hn:a.name with
 |nil=>rw[hn] at b;simp at b
 |cons c r=>
  rw[hn] at d;exact⟨c,r,rfl,.inr (.inl d)⟩
theorem oz{a:GExpr}(h:Gd a)(b:a.op=8):Km a.name=true:=by
 have:=h.parts.2.1.e
 rw[decide_eq_true b] at this;exact this.symm
section
variable {a:GExpr}
theorem r9{x:By}{l:List By}(h:gh x)(s:By):gh (join (x::l) s):=by rw[join_cons];exact BZ h
theorem x0:∀a:GExpr,Gd a→(¬a.op=10→¬a.op=11→negB a.op a.c.q=false→gh (plE a))∧gh (sgE a):=Vo fun a ih=>by
 intro hg;have hp:¬a.op=10→¬a.op=11→negB a.op a.c.q=false→gh (plE a):=by
  intro d b hn;have o1:=hg.parts.1.o1;have o2:=hg.parts.1.o2;rw[xA];unfold mz;by_cases D:a.op=1
  ·rw[if_pos D];exact gh_q (FH hn D)
  rw[if_neg D];by_cases F:a.op=2
  ·rw[if_pos F];exact gh_c ϱ
  rw[if_neg F];by_cases G:a.op=3
  ·rw[if_pos G];exact gh_c ϱ
  rw[if_neg G];by_cases H:a.op=4
  ·rw[if_pos H];exact gh_c ϱ
  rw[if_neg H];by_cases I:a.op=5
  ·rw[if_pos I];exact gh_c ϱ
  rw[if_neg I];by_cases J:a.op=6
  ·rw[if_pos J];exact gh_c ϱ
  rw[if_neg J];by_cases K:a.op=7
  ·rw[if_pos K];exact gh_c ϱ
  rw[if_neg K];by_cases E:a.op=8
  ·rw[if_pos E];exact(Mp (oz hg E)).1
  rw[if_neg E];by_cases L:a.op=9
  ·rw[if_pos L];exact gh_c ϱ
  rw[if_neg L];by_cases j:a.op=13
  ·rw[if_pos j];exact gh_c ϱ
  rw[if_neg j];by_cases m:a.op=14
  ·rw[if_pos m];exact gh_c ϱ
  rw[if_neg m];by_cases v:a.op=15
  ·rw[if_pos v];exact gh_c ϱ
  rw[if_neg v];by_cases w:a.op=16
  ·rw[if_pos w];exact gh_c ϱ
  rw[if_neg w];by_cases z:a.op=17
  ·rw[if_pos z];exact gh_c ϱ
  rw[if_neg z];by_cases A:a.op=18
  ·rw[if_pos A];exact gh_c ϱ
  rw[if_neg A];have hl:0<a.args.length:=hg.a1 ω;rw[qP hl,Tm];refine BZ ?_;unfold xe;rw[vf];split
  ·exact gh_c ϱ
  ·rename_i hb;have B:negB (a.args.getD 0 Δ).op (a.args.getD 0 Δ).c.q=false:=by
    unfold negB;rw[decide_eq_false (fun e=>hb (.inr (.inr (.inr e))))];rfl
   have h:¬(a.args.getD 0 Δ).op=10:=fun e=>hb (.inl e);have C:¬(a.args.getD 0 Δ).op=11:=fun e=>hb (.inr (.inl e));have hs:=rf h B C;show gh (wrE (a.args.getD 0 Δ));rw[pA h,hs.2,hs.1]
   exact(ih 0 hl (hg.arg hl)).1 h C B
 refine⟨hp,?_⟩;have hf:∀i,i<a.args.length→gh (txE (a.args.getD i Δ)).f:=by
  intro i hi;unfold Tx.f;rw[vf,nN];split
  ·exact gh_c ϱ
  ·rename_i hb
   exact(ih i hi (hg.arg hi)).1 (fun e=>hb (.inl e)) (fun e=>hb (.inr (.inl e))) (by
    cases hn:negB (a.args.getD i Δ).op (a.args.getD i Δ).c.q with
    |true=>exact absurd (.inr (.inr hn)) hb
    |false=>rfl)
 have hfl:∀i,i<a.args.length→∃r,facT (txL (a.args.drop i))=(txE (a.args.getD i Δ)).f::r:=by
  intro i hi;rw[Zv hi,txL,facT,TU];exact⟨_,rfl⟩
 by_cases d:a.op=10
 ·rw[(mR d).1];exact gh_c ϱ
 by_cases hn:negB a.op a.c.q=true
 ·rw[(mq hn).1];exact gh_q (nJ hn).2
 by_cases b:a.op=11
 ·have hl:=hg.a2 b;cases g:negB (a.args.getD 0 Δ).op (a.args.getD 0 Δ).c.q with
  |false=>
   rw[sg_p b hl g,TJ];obtain⟨r,e⟩:=hfl 0 ω;rw[Uv] at e;rw[e];exact r9 (hf 0 ω) _
  |true=>
   by_cases hc:¬(-(a.args.getD 0 Δ).c.q=1)∨(a.args.getD 1 Δ).op=1
   ·rw[wo b hl g hc];exact r9 (gh_q (nJ g).2) _
   ·rw[Dx b hl g (Decidable.not_not.1 fun k=>hc (.inl k)) (fun k=>hc (.inr k)),TJ];obtain⟨r,e⟩:=hfl 1 ω;rw[e];exact r9 (hf 1 ω) _
 ·rw[(rf d YN b).1];exact hp d b YN
theorem sP(h:Gd a)(r:By):hd0 (wrE a++r)≠32:=by
 by_cases b:a.op=10
 ·have hl:=ca2 h.parts.1 (.inl b);rw[mK b];cases d:a.args with
  |nil=>rw[d] at hl;simp at hl
  |cons x l=>
   have hx:Gd x:=by have:=h.arg (i:=0) ω;rw[d] at this;exact this
   rw[txL,sumT];show hd0 (((if(txE x).mi=true then [45] else [])++sgE x++sumR (txL l))++r)≠32;split
   ·exact(by decide:(45:UInt8).toNat≠32)
   ·rw[TJ,Tm];exact((x0 x hx).2.ne _).1
 ·rw[pA b];split
  ·exact(by decide:(45:UInt8).toNat≠32)
  ·rw[TJ];exact((x0 a h).2.ne _).1
end
section
variable {a:GExpr}
theorem uW(h:Gd a)(b:¬a.op=1)(d:¬a.op=8):lowE a=eOp a.op a.n (lowL a.args):=by
 have:=h.parts.2.1.s.resolve_left d
 rw[zb,lowC,if_neg b,this];rfl
theorem len0{l:List α}(h:((l.length:Nat):Int)≤0):l=[]:=TD ω
theorem tc(h:Gd a)(b:a.op=1):lowE a= .mk 1 [] (ofQ a.c.q) [] []:=by
 have hc:=h.parts.1;have e1:a.n=[]:=len0 (by have:=hc.n2;rw[b] at this;exact this);have e2:a.args=[]:=len0 (by have:=hc.a2;rw[b] at this;exact this);have d:=h.parts.2.1.s.resolve_left ω;rw[zb,lowC,if_pos b,b,e1,e2,d,lowL]
theorem Ci(h:Gd a)(b:a.op=8):lowE a=Bo a.name:=by
 have hc:=h.parts.1;have e1:a.n=[]:=len0 (by have:=hc.n2;rw[b] at this;exact this);have e2:a.args=[]:=len0 (by have:=hc.a2;rw[b] at this;exact this);rw[zb,lowC,if_neg ω,b,e1,e2,lowL];rfl
theorem nrg(h:Gd a):∀n∈a.n,-1000000≤n∧n≤1000000:=by
 intro n hn;obtain⟨i,hi,rfl⟩:=UP.1 hn
 have:=h.parts.2.2 i hi
 rw[Tq,Tt hi] at this;exact⟨Int.le_trans (LV _) this.1,Int.le_trans this.2 (KN _)⟩
end
theorem Vt(n:Int)(l:List Int):zp (n::l)=itoa n++vb l:=by
 have e:∀l:List Int,joinTail [44,32] (yi l)=vb l:=by
  intro l
  induction l with
  |nil=>rfl
  |cons x l ih=>
   unfold joinTail yi at *;rw[TU,TU,Uy,ih];rfl
 unfold zp yi;rw[TU,join_cons];exact congrArg _ (e l)
section
variable {s t u:By} {p q o:Nat} {S:Nat→Nat→Rr GExpr} {op:Int} {n:Int} {l:List Int} {x y:GExpr}
theorem Aq{b:UInt8}(hb:digB b=false)(e:b.toNat≠44)(d:b.toNat≠32)(g:0<b.toNat)(h:Yt s p (zp (n::l)++b::t))(hr:∀m∈n::l,-1000000≤m∧m≤1000000):Rds s (Vf s b.toNat p) (n::l) (db t):=by
 rw[Vt,Tm] at h;have hlen:=h.le;unfold Vf
 refine(nA h (tU hb) (hr n χ).1 (hr n χ).2).th fun q hq=>?_
 rw[Kr (by cases l with
  |nil=>exact d
  |cons m l=>show(44:UInt8).toNat≠32;decide)] at hq
 have hml:∀l:List Int,l.length≤(vb l).length:=by
  intro l
  induction l with
  |nil=>exact Tu _
  |cons m l ih=>rw[vb,Tc,Tc,Td];simp only[Td,Te];omega
 have i:=hml l;rw[Tc,Tc] at hlen;exact tH hb e d g l [n] (s.length+1) q ω hq fun m hm=>hr m (by simp[hm])
theorem yV(h:Yt s p (40::(zp (n::l)++41::t)))(ho:o<64)(hr:∀m∈n::l,-1000000≤m∧m≤1000000):Rds s (V5 s op o p) (eOp op (n::l) []) (db t):=by
 unfold V5
 refine(n6 h ho).th fun q hq=>?_
 obtain⟨_,_,ec,hc⟩:=rz n;rw[Kr (by rw[Vt,ec];exact hc)] at hq
 exact(Aq (b:=41) d d d d hq hr).th fun q hq=>Rds.ok hq
theorem Fz{m:Int}(h:Yt s p (40::(itoa n++41::91::(zp (m::l)++93::t))))(ho:o<64)(hr:∀k∈n::m::l,-1000000≤k∧k≤1000000):Rds s (twoM s op o p) (eOp op (n::m::l) []) (db t):=by
 unfold twoM
 refine(n6 h ho).th fun q hq=>?_
 obtain⟨c,_,ec,hc⟩:=rz n;obtain⟨_,_,ec',hc'⟩:=rz m;rw[Kr Wz] at hq
 refine(nA hq (mY d) (hr n χ).1 (hr n χ).2).th fun q hq=>?_
 rw[Kr (by show(41:UInt8).toNat≠32;decide)] at hq
 refine(ng hq (c:=41) r d).th fun q hq=>?_
 rw[Kr (by show(91:UInt8).toNat≠32;decide)] at hq
 refine(ng hq (c:=91) r d).th fun q hq=>?_
 rw[Kr (by rw[Vt,ec'];exact hc')] at hq
 exact(Aq (b:=93) d d d d hq fun k hk=>hr k (by simp[UL.1 hk])).th fun q hq=>Rds.ok hq
def HW(s:By)(S:Nat→Nat→Rr GExpr)(x:GExpr):Prop:=∀o p r,o+lvlE x≤64→Yt s p (wrE x++r)→En r→Rds s (S o p) (lowE x) r
theorem ut(h:Yt s p (40::(itoa n++44::32::(wrE x++41::t))))(ho:o+1+lvlE x≤64)(hn: -1000000≤n∧n≤1000000)(hg:Gd x)(hx:HW s S x):Rds s (oneM s S op false o p) (eOp op [n] [lowE x]) (db t):=by
 unfold oneM
 refine(n6 h ω).th fun q hq=>?_
 obtain⟨c,_,ec,hc⟩:=rz n;rw[Kr Wz] at hq
 refine(nA hq (mY d) hn.1 hn.2).th fun q hq=>?_
 rw[Kr XO] at hq
 refine(ng hq (c:=44) r d).th fun q hq=>?_
 rw[vU,Kr (sP hg _)] at hq
 refine(hx (o+1) q _ ho hq (.inr (.inl r))).th fun q hq=>?_
 rw[if_neg d]
 exact(ng hq (c:=41) r d).th fun q hq=>Rds.ok hq
theorem NS(h:Yt s p (40::(itoa n++44::32::(wrE x++44::32::(wrE y++41::t)))))(ho:o+1+lvlE x≤64)(b:o+1+lvlE y≤64)(hn: -1000000≤n∧n≤1000000)(hg:Gd x)(d:Gd y)(hx:HW s S x)(hy:HW s S y):
  Rds s (oneM s S op true o p) (eOp op [n] [lowE x,lowE y]) (db t):=by
 unfold oneM
 refine(n6 h ω).th fun q hq=>?_
 obtain⟨c,_,ec,hc⟩:=rz n;rw[Kr Wz] at hq
 refine(nA hq (mY δ) hn.1 hn.2).th fun q hq=>?_
 rw[Kr XO] at hq
 refine(ng hq (c:=44) r δ).th fun q hq=>?_
 rw[vU,Kr (sP hg _)] at hq
 refine(hx (o+1) q _ ho hq (.inr (.inr r))).th fun q hq=>?_
 rw[if_pos rfl]
 refine(ng hq (c:=44) r δ).th fun q hq=>?_
 rw[vU,Kr (sP d _)] at hq
 refine(hy (o+1) q _ b hq (.inr (.inl r))).th fun q hq=>?_
 exact(ng hq (c:=41) r δ).th fun q hq=>Rds.ok hq
theorem MZ(h:Yt s p (40::(wrE x++41::t)))(ho:o+1+lvlE x≤64)(hg:Gd x)(hx:HW s S x):Rds s (serM s S o p) (eOp 17 [] [lowE x]) (db t):=by
 unfold serM
 refine(n6 h ω).th fun q hq=>?_
 rw[Kr (sP hg _)] at hq
 refine(hx (o+1) q _ ho hq (.inr (.inl r))).th fun q hq=>?_
 exact(ng hq (c:=41) r d).th fun q hq=>Rds.ok hq
theorem GW(h:Yt s p (40::(wrE x++41::t)))(ho:o+1+lvlE x≤64)(hg:Gd x)(hx:HW s S x):Rds s (Yg s S o p) (lowE x,false) (db t):=by
 unfold Yg;have hh:hdM s p=40:=h.hd;rw[hh,if_neg d,if_pos rfl]
 refine(n6 h.sp ω).th fun q hq=>?_
 rw[Kr (sP hg _)] at hq
 refine(hx (o+1) q _ ho hq (.inr (.inl r))).th fun q hq=>?_
 exact(ng hq (c:=41) r d).th fun q hq=>Rds.ok hq
theorem GT{v:Rat}(h:Yt s p (qTxt v++t))(hv:0≤v)(hf:Fe t):Rds s (Yg s S o p) (.mk 1 [] (ofQ v) [] [],true) (db t):=by
 obtain⟨c,_,ec,b,d⟩:=wi v.num.toNat;have i:qTxt v++t=decDigits v.num.toNat++((if v.den=1 then [] else 47::decDigits v.den)++t):=by
  unfold qTxt;rw[MO hv];split
  ·rfl
  ·rw[itoa_nonneg];simp
 rw[i] at h;have hh:hdM s p=c.toNat:=by rw[h.hd,ec];rfl
 unfold Yg;rw[hh,if_pos (show Ko c.toNat=true from decide_eq_true ⟨b,d⟩)];have hnum:((v.num.toNat:Nat):Int)=v.num:=by have:=Rat.num_nonneg.2 hv;omega
 have key:Rds s (numM s (spM s p)) (.mk 1 [] (ofQ v) [] []) (db t):=by
  unfold numM;by_cases hd:v.den=1
  ·rw[if_pos hd,TJ] at h
   refine(qM h.sp (rM _) xy (sj hf.nk)).th fun q hq=>?_
   rw[hq.fol δ,decide_eq_false hf.n47,if_neg δ,nH];have e:eNum ((v.num.toNat:Nat):Int) 1= .mk 1 [] (ofQ v) [] []:=by
    unfold eNum;rw[hnum]
    have:=Wo v
    rw[hd] at this;exact congrArg (fun z=>GExpr.mk 1 [] (ofQ z) [] []) this
   rw[e];exact Rds.ok hq.sp
  ·rw[if_neg hd,Un] at h
   refine(qM h.sp (rM _) xy (mY δ)).th fun q hq=>?_
   rw[Kr (by show(47:UInt8).toNat≠32;decide)] at hq;rw[hq.fol δ,decide_eq_true (show hd0 (47::_)=47 from rfl),if_pos rfl];have g:=hq.next;obtain⟨c',_,ec',_,_⟩:=wi v.den;rw[Kr (by rw[ec'];show c'.toNat≠32;omega)] at g
   refine(qM g (rM _) xy (sj hf.nk)).th fun q hq=>?_
   rw[nH,nH,if_neg v.den_nz];have e:eNum ((v.num.toNat:Nat):Int) ((v.den:Nat):Int)= .mk 1 [] (ofQ v) [] []:=by
    unfold eNum;rw[hnum,Wo]
   rw[e];exact Rds.ok hq
 exact key.th fun q hq=>Rds.ok hq
theorem Ei{w:By}(h:Yt s p (w++t))(hw:∀c∈w,okB c=true)(ht:nok okB t)(hl:Ky (hd0 w)=true)(hne:w≠[]):
  ∃q,s.drop q=t∧Yg s S o p=if Zj w then(if 1000000<Jm (w.drop 1) then .er 2 (spM s p+1) else .ok (eOp 2 [(Jm (w.drop 1):Int)] [],false) q) else(Zx s S w (spM s p) o q).th fun a q=> .ok (a,false) q:=by
 have e:=N3 h hw ht;refine⟨spM s p+w.length,h.mv,?_⟩;have hh:hdM s p=hd0 w:=by
  rw[h.hd];cases w with
  |nil=>exact absurd ϱ hne
  |cons c r=>rfl
 have b:=of_decide_eq_true hl;unfold Yg;rw[hh,if_neg (by unfold Ko;rw[decide_eq_true_eq];omega),if_neg ω,if_pos hl];simp only[e]
end
section
variable {s t u w:By} {p q o q0:Nat} {S:Nat→Nat→Rr GExpr} {a:GExpr} {e:GExpr}
theorem wt_E(n:Nat):Zj (69::decDigits n)=true:=by
 unfold Zj;have b:1<(69::decDigits n).length:=by
  rw[Td];have:=UH.2 (rM n);omega
 have d:((69::decDigits n).drop 1).all digB=true:=by
  rw[List.drop_succ_cons,Uv,Um];exact fun c hc=>xy c hc
 rw[decide_eq_true b,d];rfl
theorem q6(h:Yt s p (w++u))(hw:(w.all okB&&Ky (hd0 w))=true)(hu:nok okB u)(hwt:Zj w=false)(hne:w≠[])(b:db u=u∨True)(hr:∀q,s.drop q=u→Rds s (Zx s S w (spM s p) o q) e t):Rds s (Yg s S o p) (e,false) t:=by
 rw[T2] at hw;obtain⟨q,hq,he⟩:=Ei (S:=S) (o:=o) h (Um.1 hw.1) hu hw.2 hne;rw[he,hwt,if_neg d]
 exact(hr q hq).th fun q hq=>Rds.ok hq
theorem y40(h:s.drop q=40::u):Yt s q (40::u):=by
 have:=Yt.of h
 rwa [Kr (by show ¬_;intro h;cases h)] at this
theorem m9:nok okB (40::u):=mY d
section
variable (S)
theorem rs6:Zx s S [68,101,108,116,97] q0 o q= .ok (eOp 6 [] []) q:=by unfold Zx;rw[if_pos rfl]
theorem rs7:Zx s S [106] q0 o q= .ok (eOp 7 [] []) q:=by unfold Zx;rw[if_neg d,if_pos rfl]
theorem rs3:Zx s S [71] q0 o q=V5 s 3 o q:=by unfold Zx;rw[if_neg d,if_neg d,if_pos rfl]
theorem rs9:Zx s S [110,101,119,102,111,114,109] q0 o q=V5 s 9 o q:=by unfold Zx;rw[if_neg d,if_neg d,if_neg d,if_pos rfl]
theorem rs4:Zx s S [101,116,97] q0 o q=twoM s 4 o q:=by unfold Zx;rw[if_neg d,if_neg d,if_neg d,if_neg d,if_pos rfl]
theorem rs5:Zx s S [116,104,101,116,97] q0 o q=twoM s 5 o q:=by unfold Zx;rw[if_neg d,if_neg d,if_neg d,if_neg d,if_neg d,if_pos rfl]
theorem rs13:Zx s S [86] q0 o q=oneM s S 13 false o q:=by
                                  unfold Zx;iterate 6 rw[if_neg d]
                                  rw[if_pos rfl]
theorem rs14:Zx s S [85] q0 o q=oneM s S 14 false o q:=by
                                  unfold Zx;iterate 7 rw[if_neg d]
                                  rw[if_pos rfl]
theorem rs15:Zx s S [84] q0 o q=oneM s S 15 false o q:=by
                                  unfold Zx;iterate 8 rw[if_neg d]
                                  rw[if_pos rfl]
theorem rs16:Zx s S [116,119,105,115,116] q0 o q=oneM s S 16 false o q:=by
                                            unfold Zx;iterate 9 rw[if_neg d]
                                            rw[if_pos rfl]
theorem rs18:Zx s S [98,114,97,99,107,101,116] q0 o q=oneM s S 18 true o q:=by
                                               unfold Zx;iterate 10 rw[if_neg d]
                                               rw[if_pos rfl]
theorem rs17:Zx s S [115,101,114,114,101] q0 o q=serM s S o q:=by
                                        unfold Zx;iterate 11 rw[if_neg d]
                                        rw[if_pos rfl]
theorem rs8(h:Kn w=false)(hn:Km w=true):Zx s S w q0 o q= .ok (Bo w) q:=by
 unfold Kn at h;rw[T4] at h;have hm:=of_decide_eq_false h.1;unfold mC at hm;simp only[UL,List.not_mem_nil,or_false,not_or] at hm;obtain⟨i,j,k,l,m,v,x,y,z,b,d,g⟩:=hm;unfold Zx;rw[if_neg l,if_neg m,if_neg i,if_neg v,if_neg j,if_neg k,if_neg x,if_neg y,if_neg z,if_neg b,if_neg g,if_neg d,if_pos hn]
end
theorem JG{l:List Int}{n:Int}:Zr w (n::l) (txL [])++t=w++40::(zp (n::l)++41::t):=by
 unfold Zr;rw[if_neg χ,txL,Vr];simp
theorem Dm{n:Int}{x:GExpr}:Zr w [n] (txL [x])++t=w++40::(itoa n++44::32::(wrE x++41::t)):=by
 unfold Zr;rw[if_neg χ,Vt,vb,txL,txL,Vr,Vr];simp;rfl
theorem Ps{n:Int}{x y:GExpr}:Zr w [n] (txL [x,y])++t=w++40::(itoa n++44::32::(wrE x++44::32::(wrE y++41::t))):=by
 unfold Zr;rw[if_neg χ,Vt,vb,txL,txL,txL,Vr,Vr,Vr];simp;rfl
theorem O8{x:GExpr}:Zr w [] (txL [x])++t=w++40::(wrE x++41::t):=by
 unfold Zr;rw[if_pos r,txL,txL,Vr,Vr];simp;rfl
theorem et_a{n m:Int}{l:List Int}:etaT (w++[40]) (n::m::l)++t=w++40::(itoa n++41::91::(zp (m::l)++93::t)):=by
 unfold etaT;simp
theorem l1{l:List α}(h:l.length=1):∃x,l=[x]:=by
 match l,h with
 |[x],_=>exact⟨x,rfl⟩
theorem l2{l:List α}(h:l.length=2):∃x y,l=[x,y]:=by
 match l,h with
 |[x,y],_=>exact⟨x,y,rfl⟩
theorem lc1{l:List α}(h:1≤l.length):∃x r,l=x::r:=by
 match l,h with
 |x::r,_=>exact⟨x,r,rfl⟩
theorem lc2{l:List α}(h:2≤l.length):∃x y r,l=x::y::r:=by
 match l,h with
 |x::y::r,_=>exact⟨x,y,r,rfl⟩
theorem yp{i:Nat}(h:i<a.args.length):lvlE (a.args.getD i Δ)+1≤lvlE a:=by
 rw[K6 a]
 have:∀(l:List GExpr) (i:Nat),i<l.length→lvlE (l.getD i Δ)≤lvlL l:=by
  intro l
  induction l with
  |nil=>intro i h;exact absurd h (TC _)
  |cons x l ih=>
   intro i h;rw[lvlL];cases i with
   |zero=>rw[TK];omega
   |succ i=>rw[List.getD_cons_succ];have:=ih i d';omega
 have:=this a.args i h
 omega
theorem tw(hg:Gd a)(Q:¬a.op=10)(R:¬a.op=11)(T:¬a.op=12)(hn:negB a.op a.c.q=false)(hW:∀i,i<a.args.length→HW s S (a.args.getD i Δ))(ho:o+lvlE a≤64)(h:Yt s p (plE a++t))(hf:Fe t):
  Rds s (Yg s S o p) (lowE a,decide (a.op=1)) (db t):=by
 have hc:=hg.parts.1;have hr:=nrg hg;have o1:=hc.o1;have o2:=hc.o2;have n1:=hc.n1;have n2:=hc.n2;have a1:=hc.a1;have a2:=hc.a2;have U:1≤lvlE a:=by rw[K6];omega
 by_cases y:a.op=1
 ·rw[←pl_1 y] at h;rw[tc hg y,decide_eq_true y];exact GT h (FH hn y) hf
 rw[decide_eq_false y];by_cases z:a.op=8
 ·rw[←pl_8 z] at h;obtain⟨P,_,C⟩:=Mp (oz hg z);obtain⟨c,_,ec,_⟩:=P;have hw:(a.name.all okB&&Ky (hd0 a.name))=true:=by
   have:=oz hg z
   unfold Km at this;simp only[T2] at this;rw[T2];exact⟨this.2,this.1.1.2⟩
  have hwt:Zj a.name=false:=by unfold Kn at C;rw[T4] at C;exact C.2
  refine q6 h hw hf.nk hwt (by rw[ec];simp) (.inr trivial) fun q hq=>?_
  rw[rs8 S C (oz hg z),Ci hg z];exact Rds.ok (Yt.of hq)
 rw[uW hg y z];by_cases A:a.op=2
 ·rw[←pl_2 A] at h;obtain⟨n,en⟩:=l1 (l:=a.n) (by rw[A] at n1 n2;have:cA 2=1:=rfl;have:cB 2=1:=rfl;omega);have ea:a.args=[]:=len0 (by rw[A] at a2;exact a2);have V:0≤n:=by
   have:=(hg.parts.2.2 0 WP).1
   rw[A,en] at this;exact this
  have X:=hr n WP;have eit:itoa (a.n.getD 0 0)=decDigits n.toNat:=by rw[en];show itoa n=_;unfold itoa;rw[if_neg ω]
  rw[eit] at h;obtain⟨q,hq,he⟩:=Ei (w:=69::decDigits n.toNat) (S:=S) (o:=o) h (fun c hc=>by
   rcases UL.1 hc with rfl|hc
   ·decide
   ·exact Ey (xy c hc)) hf.nk r χ
  rw[he,wt_E,if_pos r,List.drop_succ_cons,Uv,nH,if_neg ω,ea,A,en,lowL]
  have:((n.toNat:Nat):Int)=n:=ω
  rw[this];exact Rds.ok (Yt.of hq)
 by_cases D:a.op=6
 ·rw[←pl_6 D] at h;have en:a.n=[]:=len0 (by rw[D] at n2;exact n2);have ea:a.args=[]:=len0 (by rw[D] at a2;exact a2);rw[D,en,ea,lowL];exact q6 h δ hf.nk δ χ (.inr trivial) fun q hq=>by rw[rs6];exact Rds.ok (Yt.of hq)
 by_cases E:a.op=7
 ·rw[←pl_7 E] at h;have en:a.n=[]:=len0 (by rw[E] at n2;exact n2);have ea:a.args=[]:=len0 (by rw[E] at a2;exact a2);rw[E,en,ea,lowL];exact q6 h δ hf.nk δ χ (.inr trivial) fun q hq=>by rw[rs7];exact Rds.ok (Yt.of hq)
 by_cases F:a.op=3
 ·rw[←pl_3 F] at h;obtain⟨n,l,en⟩:=lc1 (l:=a.n) (by rw[F] at n1;have:cA 3=4:=rfl;omega);have ea:a.args=[]:=len0 (by rw[F] at a2;exact a2);rw[en] at hr;rw[en,ea,JG] at h;rw[F,en,ea,lowL];exact q6 h δ m9 δ χ (.inr trivial) fun q hq=>by rw[rs3];exact yV (y40 hq) ω hr
 by_cases G:a.op=9
 ·rw[←pl_9 G] at h;obtain⟨n,l,en⟩:=lc1 (l:=a.n) (by rw[G] at n1;have:cA 9=4:=rfl;omega);have ea:a.args=[]:=len0 (by rw[G] at a2;exact a2);rw[en] at hr;rw[en,ea,JG] at h;rw[G,en,ea,lowL];exact q6 h δ m9 δ χ (.inr trivial) fun q hq=>by rw[rs9];exact yV (y40 hq) ω hr
 by_cases H:a.op=4
 ·rw[←pl_4 H] at h;obtain⟨n,m,l,en⟩:=lc2 (l:=a.n) (by rw[H] at n1;have:cA 4=2:=rfl;omega);have ea:a.args=[]:=len0 (by rw[H] at a2;exact a2);rw[en] at hr;rw[en,show([101,116,97,40]:By)=[101,116,97]++[40] from rfl,et_a] at h;rw[H,en,ea,lowL];exact q6 h δ m9 δ χ (.inr trivial) fun q hq=>by rw[rs4];exact Fz (y40 hq) ω hr
 by_cases I:a.op=5
 ·rw[←pl_5 I] at h;obtain⟨n,m,l,en⟩:=lc2 (l:=a.n) (by rw[I] at n1;have:cA 5=2:=rfl;omega);have ea:a.args=[]:=len0 (by rw[I] at a2;exact a2);rw[en] at hr;rw[en,show([116,104,101,116,97,40]:By)=[116,104,101,116,97]++[40] from rfl,et_a] at h;rw[I,en,ea,lowL];exact q6 h δ m9 δ χ (.inr trivial) fun q hq=>by rw[rs5];exact Fz (y40 hq) ω hr
 have B:0<a.args.length:=by have:=ca1 hc ω;omega
 have b:=hg.arg B;have d:=hW 0 B;have g:=yp B;by_cases k:a.op=17
 ·rw[←GF k] at h;have en:a.n=[]:=len0 (by rw[k] at n2;exact n2);obtain⟨x,ea⟩:=l1 (l:=a.args) (by rw[k] at a1 a2;have:cC 17=1:=rfl;have:cD 17=1:=rfl;omega);rw[ea] at b d g;rw[en,ea,O8] at h;rw[k,en,ea,lowL,lowL];exact q6 h δ m9 δ χ (.inr trivial) fun q hq=>by rw[rs17];exact MZ (y40 hq) (by simp only[TK] at g;omega) b d
 by_cases v:a.op=18
 ·rw[←Gg v] at h;obtain⟨n,en⟩:=l1 (l:=a.n) (by rw[v] at n1 n2;have:cA 18=1:=rfl;have:cB 18=1:=rfl;omega);obtain⟨x,_,ea⟩:=l2 (l:=a.args) (by rw[v] at a1 a2;have:cC 18=2:=rfl;have:cD 18=2:=rfl;omega);have J:=hg.arg (i:=1) (by rw[ea];simp);have K:=hW 1 (by rw[ea];simp);have hl1':=yp (a:=a) (i:=1) (by rw[ea];simp);rw[ea] at b d g J K hl1';rw[en,ea,Ps] at h;rw[v,en,ea,lowL,lowL,lowL];exact q6 h δ m9 δ χ (.inr trivial) fun q hq=>by
   rw[rs18];exact NS (y40 hq) (by simp only[TK] at g;omega) (by simp only[List.getD_cons_succ,TK] at hl1';omega) (hr n WP) b J d K
 obtain⟨n,en⟩:=l1 (l:=a.n) (by
  have j:a.op=13∨a.op=14∨a.op=15∨a.op=16:=ω
  rcases j with h|h|h|h<;>rw[h] at n1 n2
  ·have:cA 13=1:=rfl;have:cB 13=1:=rfl;omega
  ·have:cA 14=1:=rfl;have:cB 14=1:=rfl;omega
  ·have:cA 15=1:=rfl;have:cB 15=1:=rfl;omega
  ·have:cA 16=1:=rfl;have:cB 16=1:=rfl;omega)
 obtain⟨x,ea⟩:=l1 (l:=a.args) (by
  have j:a.op=13∨a.op=14∨a.op=15∨a.op=16:=ω
  rcases j with h|h|h|h<;>rw[h] at a1 a2
  ·have:cC 13=1:=rfl;have:cD 13=1:=rfl;omega
  ·have:cC 14=1:=rfl;have:cD 14=1:=rfl;omega
  ·have:cC 15=1:=rfl;have:cD 15=1:=rfl;omega
  ·have:cC 16=1:=rfl;have:cD 16=1:=rfl;omega)
 have hrn:=hr n WP;rw[ea] at b d g;have hl0':o+1+lvlE x≤64:=by simp only[TK] at g;omega
 by_cases j:a.op=13
 ·rw[←G5 j,en,ea,Dm] at h;rw[j,en,ea,lowL,lowL];exact q6 h δ m9 δ χ (.inr trivial) fun q hq=>by rw[rs13];exact ut (y40 hq) hl0' hrn b d
 by_cases L:a.op=14
 ·rw[←Hw L,en,ea,Dm] at h;rw[L,en,ea,lowL,lowL];exact q6 h δ m9 δ χ (.inr trivial) fun q hq=>by rw[rs14];exact ut (y40 hq) hl0' hrn b d
 by_cases M:a.op=15
 ·rw[←F7 M,en,ea,Dm] at h;rw[M,en,ea,lowL,lowL];exact q6 h δ m9 δ χ (.inr trivial) fun q hq=>by rw[rs15];exact ut (y40 hq) hl0' hrn b d
 have N:a.op=16:=ω
 rw[←Ir N,en,ea,Dm] at h;rw[N,en,ea,lowL,lowL];exact q6 h δ m9 δ χ (.inr trivial) fun q hq=>by rw[rs16];exact ut (y40 hq) hl0' hrn b d
end
structure Pe (r:By):Prop where
 nk:nok okB r
 hd:hd0 (db r)=0∨hd0 (db r)=41∨hd0 (db r)=43∨hd0 (db r)=44∨hd0 (db r)=45
theorem En.pe{r:By}(h:En r):Pe r:=by
 refine⟨?_,?_⟩
 ·intro b _ e;subst e;rcases h with h|h|h
  ·cases h
  ·have h:b.toNat=41:=h;unfold okB Ky Ko;simp[h]
  ·have h:b.toNat=44:=h;unfold okB Ky Ko;simp[h]
 ·rw[h.db];rcases h with rfl|h|h
  ·exact .inl ϱ
  ·omega
  ·omega
def mulT:List GExpr→By
 |[]=>[]
 |a::l=>42::((txE a).f++mulT l)
theorem pG:∀l:List GExpr,l.length≤(mulT l).length
 |[]=>Tu _
 |a::l=>by have:=pG l;rw[mulT,Td,Td,Tc];omega
theorem zy:∀l:List GExpr,joinTail [42] (facT (txL l))=mulT l
 |[]=>rfl
 |a::l=>by
  have:=zy l
  unfold joinTail facT at *;rw[txL,mulT,TU,TU,Uy,this];rfl
theorem ul:∀l:List GExpr,l.length≤(sumR (txL l)).length
 |[]=>Tu _
 |a::l=>by
  have:=ul l
  rw[txL,sumR,Tc,Tc,Td]
  have:(if(txE a).mi=true then([32,45,32]:By) else [32,43,32]).length=3:=by split<;>rfl
  omega
section
variable {s t u r:By} {p q o:Nat} {S:Nat→Nat→Rr GExpr} {a x:GExpr} {l:List GExpr}
theorem Pe.fe{l:List GExpr}(h:Pe t):Fe (mulT l++t):=by
 cases l with
 |nil=>
  refine⟨h.nk,?_⟩
  have:=h.hd
  show hd0 (db t)≠47;omega
 |cons a l=>
  refine⟨mY d,?_⟩;rw[Kr Wy]
  show(42:UInt8).toNat≠47
  decide
theorem Pe.n94{l:List GExpr}(h:Pe t):hd0 (db (mulT l++t))≠94:=by
 cases l with
 |nil=>have:=h.hd;show hd0 (db t)≠94;omega
 |cons a l=>
  rw[Kr Wy]
  show(42:UInt8).toNat≠94
  decide
def Lw(s:By)(S:Nat→Nat→Rr GExpr)(n:Nat):Prop:=∀x,Gd x→lvlE x<n→HW s S x
theorem zV{b:Bool}(h:Rds s (Yg s S o p) (x,b) t)(d:hd0 t≠94):Rds s (powM s S o p) (x,b) t:=by
 unfold powM;refine h.th fun _ hq=>?_
 rw[hq.fol δ,decide_eq_false d,if_neg δ];exact Rds.ok hq.sp
theorem Lt(hg:Gd a)(v:¬a.op=10)(w:¬a.op=11)(hn:negB a.op a.c.q=false)(hW:Lw s S (lvlE a))(ho:o+lvlE a≤64)(h:Yt s p (plE a++t))(hf:Fe t)(y:hd0 (db t)≠94):
  Rds s (powM s S o p) (lowE a,decide (a.op=1)) (db t):=by
 by_cases b:a.op=12
 ·have hc:=hg.parts.1;have n1:=hc.n1;have n2:=hc.n2;have a1:=hc.a1;have a2:=hc.a2;obtain⟨n,en⟩:=l1 (l:=a.n) (by rw[b] at n1 n2;have:cA 12=1:=rfl;have:cB 12=1:=rfl;omega);obtain⟨x,ea⟩:=l1 (l:=a.args) (by rw[b] at a1 a2;have:cC 12=1:=rfl;have:cD 12=1:=rfl;omega);have hr:=nrg hg;have hl:0<a.args.length:=by rw[ea];simp
  have hgx:=hg.arg hl;have hlx:=yp hl;rw[ea] at hgx hlx;simp only[TK] at hgx hlx;rw[←Hv b hl ϱ,ea,en,TK] at h;have A:xe (txE x)++[94]++itoa ([n].getD 0 0)++t=xe (txE x)++94::(itoa n++t):=by simp
  rw[A] at h;have key:Rds s (Yg s S o p) (lowE x,false) (94::(itoa n++t)):=by
   have g:db (94::(itoa n++t))=94::(itoa n++t):=Kr (by show(94:UInt8).toNat≠32;decide);by_cases hb:x.op=10∨x.op=11∨x.op=12∨x.op=1
   ·rw[←bs_t hb] at h
    have:=GW (S:=S) (o:=o) (t:=94::(itoa n++t)) d' ω hgx (hW x hgx ω)
    rwa [g] at this
   ·rw[←bs_f hb] at h;have k:¬x.op=1:=fun e=>hb (.inr (.inr (.inr e)));have hxn:negB x.op x.c.q=false:=by unfold negB;rw[decide_eq_false k];rfl
    have d:¬x.op=10:=fun e=>hb (.inl e);have j:¬x.op=11:=fun e=>hb (.inr (.inl e));have m:¬x.op=12:=fun e=>hb (.inr (.inr (.inl e)));have hs:=rf d hxn j;rw[pA d,hs.2,hs.1] at h
    have:=tw hgx d j m hxn (fun i hi=>hW _ (hgx.arg hi) (by have:=yp hi;omega)) ω (o:=o) h ⟨mY δ,by rw[g];show(94:UInt8).toNat≠47;decide⟩
    rwa [g,decide_eq_false k] at this
  unfold powM;refine key.th fun q hq=>?_
  rw[hq.fol δ,decide_eq_true (show hd0 (94::_)=94 from rfl),if_pos rfl];have z:=hq.next;obtain⟨c,_,ec,hc⟩:=rz n;rw[Kr Wz] at z;rw[decide_eq_false (show ¬a.op=1 by omega),uW hg ω ω,b,en,ea,lowL,lowL];have hrn:=hr n WP
  exact(nA z (sj hf.nk) hrn.1 hrn.2).th fun q hq=>Rds.ok hq
 ·exact zV (tw hg v w b hn (fun i hi=>hW _ (hg.arg hi) (by have:=yp hi;omega)) ho h hf) y
theorem pw_f(hg:Gd a)(hx:HW s S a)(hW:Lw s S (lvlE a))(ho:o+1+lvlE a≤64)(h:Yt s p ((txE a).f++t))(hf:Fe t)(b:hd0 (db t)≠94):
  Rds s (powM s S o p) (lowE a,decide (a.op=1) && !negB a.op a.c.q) (db t):=by
 by_cases hb:a.op=10∨a.op=11∨negB a.op a.c.q=true
 ·rw[←fa_1 hb] at h;have e:(decide (a.op=1) && !negB a.op a.c.q)=false:=by
   rcases hb with h|h|h
   ·rw[decide_eq_false ω];rfl
   ·rw[decide_eq_false ω];rfl
   ·rw[h];simp
  rw[e];exact zV (GW d' ho hg hx) b
 ·have d:¬a.op=10:=fun e=>hb (.inl e);have g:¬a.op=11:=fun e=>hb (.inr (.inl e));have hn:negB a.op a.c.q=false:=by
   cases hn:negB a.op a.c.q with
   |true=>exact absurd (.inr (.inr hn)) hb
   |false=>rfl
  rw[←fa_0 d g hn] at h
  have:=Lt (o:=o) hg d g hn hW ω h hf b
  rwa [hn,Bool.not_false,Bool.and_true]
theorem pH(ht:Pe t):∀(l acc:List GExpr) (k p:Nat),l.length<k→Yt s p (db (mulT l++t))→(∀x∈l,Gd x∧HW s S x∧Lw s S (lvlE x)∧o+1+lvlE x≤64)→Rds s (yj s S o k acc p) (acc++lowL l) (db t)
 |l,acc,0,p,hk,_,_=>absurd hk (TC _)
 |[],acc,k+1,p,_,h,_=>by
  have h:Yt s p (db t):=h;unfold yj;rw[h.fol δ,decide_eq_false (by have:=ht.hd;omega),if_neg δ,lowL,TT];exact Rds.ok h.sp
 |x::l,acc,k+1,p,hk,h,hl=>by
  rw[mulT,Un,Kr Wy,Tm] at h;unfold yj;rw[h.fol δ,decide_eq_true (show hd0 (42::_)=42 from rfl),if_pos rfl];obtain⟨b,d,g,i⟩:=hl x χ;have hn:=h.next;have hh:hd0 ((txE x).f++(mulT l++t))≠32:=by
   unfold Tx.f;rw[vf,nN];split
   ·exact(by decide:(40:UInt8).toNat≠32)
   ·rename_i hb
    exact(((x0 x b).1 (fun e=>hb (.inl e)) (fun e=>hb (.inr (.inl e))) (by
     cases hn:negB x.op x.c.q with
     |true=>exact absurd (.inr (.inr hn)) hb
     |false=>rfl)).ne _).1
  rw[Kr hh] at hn
  refine(pw_f b d g i hn ht.fe ht.n94).th fun q hq=>?_
  have:=pH ht l (acc++[lowE x]) k q WT hq fun y hy=>hl y XE
  rwa [Tm] at this
theorem IU{op:Int}(h:2≤l.length):Ki op l=eOp op [] l:=by
 match l,h with
 |_::_::_,_=>rfl
theorem uI:(lowL l).length=l.length:=by rw[Kx,UG]
theorem Bv(hg:Gd a)(b:a.op=1):negE (.mk 1 [] (ofQ (-a.c.q)) [] [])=lowE a:=by
 rw[tc hg b];unfold negE;show GExpr.mk 1 [] (ofQ (-(ofQ (-a.c.q)).q)) [] []=_;rw[J9,Rat.neg_neg]
theorem Gu(hg:Gd a)(b:a.op=1)(h: -a.c.q=1):eNum (-1) 1=lowE a:=by
 rw[tc hg b]
 have:a.c.q=Rat.divInt (-1) 1:=by
  have d:a.c.q= -1:=by rw[←h,Rat.neg_neg]
  rw[d];rfl
 rw[this];rfl
theorem Eo{P:GExpr→Prop}(h:∀i,i<l.length→P (l.getD i Δ)):∀x∈l,P x:=by
 intro x hx;obtain⟨i,hi,rfl⟩:=UP.1 hx
 have:=h i hi
 rwa [Tq,Tt hi] at this
theorem ry(hg:Gd a)(hW:Lw s S (lvlE a))(B:a.op=10→HW s S a∧o+1+lvlE a≤64)(ho:o+lvlE a≤64)(h:Yt s p (sgE a++t))(ht:Pe t):Rds s (Kw s S (miE a) o p) (lowE a) (db t):=by
 have hf:Fe t:=ht.fe (l:=[]);have w:hd0 (db t)≠94:=ht.n94 (l:=[]);have one:∀ {x:GExpr} {b:Bool} {m:Bool} {y:GExpr},Rds s (powM s S o p) (x,b) (db t)→Ki 11 (negL m b [x])=y→Rds s (Kw s S m o p) y (db t):=by
  intro x b m y hp hy;unfold Kw;refine hp.th fun q hq=>?_
  have hq':Yt s q (db (mulT []++t)):=hq
  refine(pH ht [] [x] (s.length+1) q χ hq' χ).th fun q hq=>?_
  rw[lowL,TT];show Rds s (Rr.ok (Ki 11 (negL m b [x])) q) y (db t);rw[hy];exact Rds.ok hq
 by_cases v:a.op=10
 ·rw[(mR v).1] at h;rw[(mR v).2];exact one (zV (GW d' (B v).2 hg (B v).1) w) ϱ
 by_cases hn:negB a.op a.c.q=true
 ·rw[(mq hn).1] at h;rw[(mq hn).2];obtain⟨o1,hq⟩:=nJ hn;exact one (zV (GT h hq hf) w) (Bv hg o1)
 have hn:negB a.op a.c.q=false:=by simpa using hn
 by_cases d:¬a.op=11
 ·have hs:=rf v hn d;rw[hs.1] at h;rw[hs.2];exact one (Lt hg v d hn hW ho h hf w) ϱ
 have d:a.op=11:=Decidable.not_not.1 d;have hl:=hg.a2 d;have hc:=hg.parts.1;have en:a.n=[]:=len0 (by have:=hc.n2;rw[d] at this;exact this);have elow:lowE a=Ki 11 (lowL a.args):=by rw[uW hg ω ω,d,en,IU (by rw[uI];exact hl)]
 have hgi:∀i,i<a.args.length→Gd (a.args.getD i Δ)∧HW s S (a.args.getD i Δ)∧Lw s S (lvlE (a.args.getD i Δ))∧o+1+lvlE (a.args.getD i Δ)≤64:=by
  intro i hi;have E:=yp hi;exact⟨hg.arg hi,hW _ (hg.arg hi) ω,fun x hx _=>hW x hx ω,ω⟩
 have hmi:=CN d hl;obtain⟨x,y,l,ea⟩:=lc2 hl;rw[ea] at hgi hmi hl elow;have g:=hgi 0 χ;have A:=hgi 1 χ;simp only[TK,List.getD_cons_succ] at g A hmi;have gy:∀z∈y::l,Gd z∧HW s S z∧Lw s S (lvlE z)∧o+1+lvlE z≤64:=fun z hz=>Eo (P:=fun z=>Gd z∧HW s S z∧Lw s S (lvlE z)∧o+1+lvlE z≤64) hgi z (UM _ hz);have gl:∀z∈l,Gd z∧HW s S z∧Lw s S (lvlE z)∧o+1+lvlE z≤64:=fun z hz=>gy z (UM _ hz);have hlen:=h.le;rw[Tc] at hlen;rw[←hmi,elow];cases j:negB x.op x.c.q with
 |false=>
  have e:=sg_p d XP YQ;rw[ea,TJ,txL,facT,TU,join_cons] at e;have e2:joinTail [42] (List.map Tx.f (txL (y::l)))=mulT (y::l):=zy _;rw[e2] at e;rw[e,Tm] at h;rw[e,Tc] at hlen;have hml:=pG (y::l);unfold Kw
  refine(pw_f g.1 g.2.1 g.2.2.1 g.2.2.2 h ht.fe ht.n94).th fun q hq=>?_
  refine(pH ht (y::l) [lowE x] (s.length+1) q ω hq gy).th fun q hq=>?_
  show Rds s (Rr.ok (Ki 11 (lowL (x::y::l))) q) _ _;exact Rds.ok hq
 |true=>
  obtain⟨o1,hq⟩:=nJ j;by_cases hc:¬(-x.c.q=1)∨y.op=1
  ·have e:=wo d XP YQ (by rw[ea];exact hc);rw[ea,List.drop_succ_cons,Uv,TK,List.singleton_append,join_cons,zy] at e;rw[e,Tm] at h;rw[e,Tc] at hlen;have hml:=pG (y::l);unfold Kw
   refine(zV (GT h hq ht.fe) ht.n94).th fun q hq=>?_
   refine(pH ht (y::l) _ (s.length+1) q ω hq gy).th fun q hq=>?_
   show Rds s (Rr.ok (Ki 11 (negE (.mk 1 [] (ofQ (-x.c.q)) [] [])::lowL (y::l))) q) _ _;rw[Bv g.1 o1];exact Rds.ok hq
  ·have C: -x.c.q=1:=Decidable.not_not.1 fun k=>hc (.inl k);have D:¬y.op=1:=fun k=>hc (.inr k);have e:=Dx d XP YQ (by rw[ea];exact C) (by rw[ea];exact D);rw[ea,List.drop_succ_cons,Uv,TJ,txL,facT,TU,join_cons] at e;have e2:joinTail [42] (List.map Tx.f (txL l))=mulT l:=zy _;rw[e2] at e;rw[e,Tm] at h;rw[e,Tc] at hlen;have hml:=pG l;unfold Kw
   refine(pw_f A.1 A.2.1 A.2.2.1 A.2.2.2 h ht.fe ht.n94).th fun q hq=>?_
   refine(pH ht l [lowE y] (s.length+1) q ω hq gl).th fun q hq=>?_
   rw[decide_eq_false D,Bool.false_and];show Rds s (Rr.ok (Ki 11 (eNum (-1) 1::lowL (y::l))) q) _ _;rw[Gu g.1 o1 C];exact Rds.ok hq
theorem Fp{l:List GExpr}(hr:En r):Pe (sumR (txL l)++r):=by
 cases l with
 |nil=>exact hr.pe
 |cons x l=>
  rw[txL,sumR];split
  ·exact⟨mY d,.inr (.inr (.inr (.inr ϱ)))⟩
  ·exact⟨mY d,.inr (.inr (.inl ϱ))⟩
theorem rV(hr:En r):∀(l acc:List GExpr) (k p:Nat),l.length<k→Yt s p (db (sumR (txL l)++r))→(∀x∈l,Gd x∧HW s S x∧Lw s S (lvlE x)∧o+1+lvlE x≤64)→Rds s (sumL s S o k acc p) (acc++lowL l) r
 |l,acc,0,p,hk,_,_=>absurd hk (TC _)
 |[],acc,k+1,p,_,h,_=>by
  have h:Yt s p (db r):=h;rw[hr.db] at h;have hh:¬hd0 r=43∧¬hd0 r=45:=by
   rcases hr with rfl|h|h
   ·exact⟨by decide,δ⟩
   ·omega
   ·omega
  unfold sumL;rw[h.fol δ,decide_eq_false hh.1,if_neg δ,h.fol δ,decide_eq_false hh.2,if_neg δ,lowL,TT];exact Rds.ok h.sp
 |x::l,acc,k+1,p,hk,h,hl=>by
  obtain⟨b,d,g,i⟩:=hl x χ;have hg:=(x0 x b).2;have go:∀q m,miE x=m→Yt s q (sgE x++(sumR (txL l)++r))→Rds s ((Kw s S m o q).th fun a q=>sumL s S o k (acc++[a]) q) (acc++lowL (x::l)) r:=by
   intro q m hm hq;subst hm
   refine(ry b g (fun _=>⟨d,i⟩) ω hq (Fp hr)).th fun q hq=>?_
   have:=rV hr l (acc++[lowE x]) k q WT hq fun y hy=>hl y XE
   rwa [Tm] at this
  rw[txL,sumR] at h;unfold sumL;cases hm:miE x with
  |true=>
   unfold miE at hm;rw[hm,if_pos rfl] at h;have h:Yt s p (45::32::(sgE x++(sumR (txL l)++r))):=by
    have e:db ([32,45,32]++(txE x).sg++sumR (txL l)++r)=45::32::(sgE x++(sumR (txL l)++r)):=by
     simp only[Tm];rfl
    rwa [e] at h
   rw[h.fol δ,decide_eq_false (show ¬hd0 (45::_)=43 by show ¬(45:UInt8).toNat=43;decide),if_neg δ,h.fol δ,decide_eq_true (show hd0 (45::_)=45 from rfl),if_pos rfl];have hq:=h.next;rw[vU,Kr (hg.ne _).1] at hq;exact go _ _ hm hq
  |false=>
   unfold miE at hm;rw[hm,if_neg δ] at h;have h:Yt s p (43::32::(sgE x++(sumR (txL l)++r))):=by
    have e:db ([32,43,32]++(txE x).sg++sumR (txL l)++r)=43::32::(sgE x++(sumR (txL l)++r)):=by
     simp only[Tm];rfl
    rwa [e] at h
   rw[h.fol δ,decide_eq_true (show hd0 (43::_)=43 from rfl),if_pos rfl];have hq:=h.next;rw[vU,Kr (hg.ne _).1] at hq;exact go _ _ hm hq
theorem HJ(hg:Gd a)(hW:Lw s S (lvlE a))(ho:o+lvlE a≤64)(h:Yt s p (wrE a++r))(hr:En r):Rds s (sumF s S o p) (lowE a) r:=by
 have start:∀ {x:GExpr} {u:By},Gd x→Yt s p ((if miE x=true then [45] else [])++(sgE x++u))→folB s p 45=miE x∧Yt s (fpM s p 45) (sgE x++u):=by
  intro x u hx h;have hgx:=(x0 x hx).2;cases hm:miE x with
  |true=>
   rw[hm,if_pos rfl] at h;have h:Yt s p (45::(sgE x++u)):=h;have e:folB s p 45=true:=by rw[h.fol δ];rfl
   refine⟨e,?_⟩;unfold fpM;rw[if_pos e]
   have:=h.next
   rwa [Kr (hgx.ne _).1] at this
  |false=>
   rw[hm,if_neg δ,TJ] at h;have e:folB s p 45=false:=by rw[h.fol δ];exact decide_eq_false (hgx.ne _).2.1
   refine⟨e,?_⟩;unfold fpM;rw[if_neg (by rw[e];decide)];exact h.sp
 have hlen:=h.le;rw[Tc] at hlen;by_cases b:a.op=10
 ·have hl:=ca2 hg.parts.1 (.inl b);have hc:=hg.parts.1;have en:a.n=[]:=len0 (by have:=hc.n2;rw[b] at this;exact this);have elow:lowE a=Ki 10 (lowL a.args):=by rw[uW hg ω ω,b,en,IU (by rw[uI];exact hl)]
  have hgi:∀i,i<a.args.length→Gd (a.args.getD i Δ)∧HW s S (a.args.getD i Δ)∧Lw s S (lvlE (a.args.getD i Δ))∧o+1+lvlE (a.args.getD i Δ)≤64:=by
   intro i hi;have g:=yp hi;exact⟨hg.arg hi,hW _ (hg.arg hi) ω,fun x hx _=>hW x hx ω,ω⟩
  obtain⟨x,y,l,ea⟩:=lc2 hl;rw[mK b] at h hlen;rw[ea] at hgi elow h hlen;have d:=hgi 0 χ;simp only[TK] at d;have gy:∀z∈y::l,Gd z∧HW s S z∧Lw s S (lvlE z)∧o+1+lvlE z≤64:=fun z hz=>Eo (P:=fun z=>Gd z∧HW s S z∧Lw s S (lvlE z)∧o+1+lvlE z≤64) hgi z (UM _ hz);have hml:=ul (y::l);rw[txL,sumT] at h hlen;rw[Tc] at hlen;have h:Yt s p ((if miE x=true then [45] else [])++(sgE x++(sumR (txL (y::l))++r))):=by
   simp only[Tm] at h;exact h
  obtain⟨e1,e2⟩:=start d.1 h;unfold sumF;rw[e1,elow]
  refine(ry d.1 d.2.2.1 (fun _=>⟨d.2.1,d.2.2.2⟩) ω e2 (Fp hr)).th fun q hq=>?_
  refine(rV hr (y::l) [lowE x] (s.length+1) q ω hq gy).th fun q hq=>?_
  show Rds s (Rr.ok (Ki 10 (lowL (x::y::l))) q) _ _;exact Rds.ok hq
 ·rw[pA b,Tm] at h;obtain⟨e1,e2⟩:=start hg h;unfold sumF;rw[e1]
  refine(ry hg hW (fun e=>absurd e b) ho e2 hr.pe).th fun q hq=>?_
  have hq':Yt s q (db (sumR (txL [])++r)):=hq
  refine(rV hr [] [lowE a] (s.length+1) q χ hq' χ).th fun q hq=>?_
  rw[lowL,TT];exact Rds.ok hq
theorem AF(s:By):∀(k:Nat) (a:GExpr),Gd a→lvlE a≤k→HW s (sumM s k) a
 |0,a,_,h=>by rw[K6] at h;omega
 |k+1,a,hg,h=>fun o p _ ho hp hr=>by
  show Rds s (sumF s (sumM s k) o p) _ _;exact HJ hg (fun x hx _=>AF s k x hx ω) ho hp hr
end
theorem wY{t:By}(h:gh t):1≤t.length:=by obtain⟨_,_,rfl,_⟩:=h;simp
theorem xb{l:List GExpr}{k:Nat}(h:∀i,i<l.length→lvlE (l.getD i Δ)≤k):lvlL l≤k:=by
 induction l with
 |nil=>exact Tv _
 |cons x l ih=>
  rw[lvlL];have a:=h 0 χ;have b:=ih fun i hi=>by have:=h (i+1) ς;simpa only[List.getD_cons_succ] using this
  simp only[TK] at a;omega
theorem tI(b:Bool):∀ {l:List GExpr} {i:Nat},i<l.length→(wrE (l.getD i Δ)).length≤(Vr b (txL l)).length
 |[],i,h=>absurd h (TC _)
 |a::l,0,h=>by
  rw[txL,Vr,Tc,Tc,TK];unfold wrE;omega
 |a::l,i+1,h=>by
  have:=tI true (l:=l) (i:=i) d'
  rw[txL,Vr,Tc,Tc,List.getD_cons_succ];omega
theorem A3:∀ {l:List GExpr} {i:Nat},i<l.length→(txE (l.getD i Δ)).f.length+l.length≤(join (facT (txL l)) [42]).length+1∨(∃j,j<l.length∧¬gh (txE (l.getD j Δ)).f)
 |[],i,h=>absurd h (TC _)
 |a::l,0,h=>by
  left
  have:=pG l
  rw[txL,facT,TU,join_cons];have e2:joinTail [42] (List.map Tx.f (txL l))=mulT l:=zy _;rw[e2,Tc,TK,Td];omega
 |a::l,i+1,h=>by
  have hi:i<l.length:=by simpa using h
  rcases Classical.em (gh (txE a).f) with hg|hg
  ·rcases A3 hi with b|⟨j,hj,b⟩
   ·left;have e:=wY hg;cases l with
    |nil=>simp at hi
    |cons y l=>
     rw[txL,facT,TU,join_cons] at b ⊢;rw[txL,TU];have e2:joinTail [42] (List.map Tx.f (txL l))=mulT l:=zy _;have d:joinTail [42] ((txE y).f::List.map Tx.f (txL l))=42::((txE y).f++mulT l):=by
      unfold joinTail at *;rw[TU,Uy,e2];rfl
     rw[e2,Tc] at b;rw[d,List.getD_cons_succ];simp only[Td,Tc] at b ⊢;omega
   ·exact .inr ⟨j+1,by simpa using hj,by simpa only[List.getD_cons_succ] using b⟩
  ·exact .inr ⟨0,by simp,by simpa only[TK] using hg⟩
theorem sS:∀ {l:List GExpr} {i:Nat},i<l.length→(sgE (l.getD i Δ)).length+3≤(sumR (txL l)).length
 |[],i,h=>absurd h (TC _)
 |a::l,0,h=>by
  rw[txL,sumR,Tc,Tc,TK]
  have:(if(txE a).mi=true then([32,45,32]:By) else [32,43,32]).length=3:=by split<;>rfl
  unfold sgE;omega
 |a::l,i+1,h=>by
  have:=sS (l:=l) (i:=i) d'
  rw[txL,sumR,Tc,Tc,List.getD_cons_succ];omega
theorem zR{l:List GExpr}{i:Nat}(h:i<l.length)(a:2≤l.length):(sgE (l.getD i Δ)).length+3≤(sumT (txL l)).length:=by
 match l,h,a with
 |x::y::l,h,_=>
  have b:=sS (l:=y::l) (i:=0) χ;rw[txL,sumT,Tc,Tc];cases i with
  |zero=>rw[TK];unfold sgE;omega
  |succ i=>
   have:=sS (l:=y::l) (i:=i) d'
   rw[List.getD_cons_succ];omega
theorem f_gh{a:GExpr}(hg:Gd a):gh (txE a).f:=by
 unfold Tx.f;rw[vf,nN];split
 ·exact gh_c r
 ·rename_i hb
  exact(x0 a hg).1 (fun e=>hb (.inl e)) (fun e=>hb (.inr (.inl e))) (by
   cases hn:negB a.op a.c.q with
   |true=>exact absurd (.inr (.inr hn)) hb
   |false=>rfl)
theorem BJ:∀a:GExpr,Gd a→(¬a.op=10→¬a.op=11→negB a.op a.c.q=false→lvlE a≤(plE a).length)∧lvlE a≤(sgE a).length+1∧lvlE a≤(wrE a).length:=Vo fun a ih=>by
 intro hg;have p:a.args=[]→lvlE a=1:=fun e=>by rw[K6,e,lvlL]
 have hgi:∀i,i<a.args.length→Gd (a.args.getD i Δ):=fun i hi=>hg.arg hi;have hc:=hg.parts.1;have key:¬a.op=10→¬a.op=11→negB a.op a.c.q=false→lvlE a≤(plE a).length:=by
  intro d b hn;cases hl:a.args with
  |nil=>rw[p hl];exact wY ((x0 a hg).1 d b hn)
  |cons x l=>
   have m:0<a.args.length:=by rw[hl];simp
   have ho:12≤a.op:=by
    have z:=hc.a2;have o1:=hc.o1;rcases Classical.em (12≤a.op) with h|h
    ·exact h
    ·exfalso
     have:cD a.op=0:=by unfold cD;(repeat' split)<;>omega
     omega
   have o2:=hc.o2;rw[K6];by_cases s:a.op=12
   ·have a2:=hc.a2;have hlen:a.args.length=1:=by rw[s] at a2;have:cD 12=1:=rfl;omega
    rw[←Hv s m r,Tc,Tc];have hw:=(ih 0 m (hgi 0 m)).2.2;have hb:(wrE (a.args.getD 0 Δ)).length≤(xe (txE (a.args.getD 0 Δ))).length:=by
     unfold xe;split
     ·rw[Tc,Tc];unfold wrE;omega
     ·exact Tu _
    have:lvlL a.args≤(wrE (a.args.getD 0 Δ)).length:=xb fun i hi=>by
     obtain rfl:i=0:=o
     exact hw
    simp only[Tf];omega
   ·have hcall:∃nm:By,plE a=Zr nm a.n (txL a.args):=by
     have:a.op=13∨a.op=14∨a.op=15∨a.op=16∨a.op=17∨a.op=18:=o
     rcases this with h|h|h|h|h|h
     ·exact⟨_,(G5 h).symm⟩
     ·exact⟨_,(Hw h).symm⟩
     ·exact⟨_,(F7 h).symm⟩
     ·exact⟨_,(Ir h).symm⟩
     ·exact⟨_,(GF h).symm⟩
     ·exact⟨_,(Gg h).symm⟩
    obtain⟨nm,e⟩:=hcall;rw[e];unfold Zr
    have:lvlL a.args≤(Vr (decide (¬a.n=[])) (txL a.args)).length:=xb fun i hi=>Tj (ih i hi (hgi i hi)).2.2 (tI _ hi)
    simp only[Tc,Td,Te];omega
 by_cases d:a.op=10
 ·have hl:=ca2 hc (.inl d);have hs:lvlE a≤(wrE a).length:=by
   rw[K6,mK d]
   have:lvlL a.args+1≤(sumT (txL a.args)).length:=by
    have v:=zR (l:=a.args) (i:=0) o hl
    have:lvlL a.args≤(sumT (txL a.args)).length-1:=xb fun i hi=>by
     have z:=(ih i hi (hgi i hi)).2.1;have w:=zR hi hl;omega
    omega
   exact this
  refine⟨key,?_,hs⟩;rw[(mR d).1];simp only[Tc,Td,Te];omega
 by_cases hn:negB a.op a.c.q=true
 ·have ea:a.args=[]:=len0 (by have:=hc.a2;rw[(nJ hn).1] at this;exact this);rw[pA d,(mq hn).2,if_pos r,p ea];refine⟨fun _ _ h=>(by rw[hn] at h;cases h),o,?_⟩;rw[Tc,Tf];omega
 have hn:negB a.op a.c.q=false:=by simpa using hn
 by_cases b:¬a.op=11
 ·have hs:=rf d hn b;rw[pA d,hs.2,hs.1,if_neg δ,TJ];exact⟨key,VK (key d b hn),key d b hn⟩
 have b:a.op=11:=Decidable.not_not.1 b;have hl:=hg.a2 b;refine⟨fun _ h=>absurd b h,?_⟩;have hfl:∀i,i<a.args.length→lvlE (a.args.getD i Δ)≤(txE (a.args.getD i Δ)).f.length:=by
  intro i hi;have hI:=ih i hi (hgi i hi);by_cases hb:(a.args.getD i Δ).op=10∨(a.args.getD i Δ).op=11∨negB (a.args.getD i Δ).op (a.args.getD i Δ).c.q=true
  ·rw[←fa_1 hb,Tc,Tc];have:=hI.2.2;omega
  ·have hh:negB (a.args.getD i Δ).op (a.args.getD i Δ).c.q=false:=by
    cases hn:negB (a.args.getD i Δ).op (a.args.getD i Δ).c.q with
    |true=>exact absurd (.inr (.inr hn)) hb
    |false=>rfl
   rw[←fa_0 (fun e=>hb (.inl e)) (fun e=>hb (.inr (.inl e))) hh];exact hI.1 (fun e=>hb (.inl e)) (fun e=>hb (.inr (.inl e))) hh
 have hfac:∀ {l:List GExpr},(∀i,i<l.length→Gd (l.getD i Δ)∧lvlE (l.getD i Δ)≤(txE (l.getD i Δ)).f.length)→0<l.length→lvlL l+l.length≤(join (facT (txL l)) [42]).length+1:=by
  intro l v m
  have:∀i,i<l.length→lvlE (l.getD i Δ)+l.length≤(join (facT (txL l)) [42]).length+1:=fun i hi=>by
   rcases A3 hi with p|⟨j,hj,p⟩
   ·have:=(v i hi).2;omega
   ·exact absurd (f_gh (v j hj).1) p
  have p:lvlL l≤(join (facT (txL l)) [42]).length+1-l.length:=xb fun i hi=>by have:=this i hi;omega
  have z:=this 0 m;omega
 rw[pA d];cases g:negB (a.args.getD 0 Δ).op (a.args.getD 0 Δ).c.q with
 |false=>
  rw[(CN b hl).symm,g,if_neg δ,TJ,sg_p b hl g,TJ,K6]
  have:=hfac (l:=a.args) (fun i hi=>⟨hgi i hi,hfl i hi⟩) o
  omega
 |true=>
  rw[(CN b hl).symm,g,if_pos r,Tc,Tf,K6];have w:=hfac (l:=a.args.drop 1) (vj (a:=a) (P:=fun x=>Gd x∧lvlE x≤(txE x).f.length) fun i hi=>⟨hgi i hi,hfl i hi⟩) Y';rw[Tn] at w;have C:lvlL a.args=max 1 (lvlL (a.args.drop 1)):=by
   cases hh:a.args with
   |nil=>rw[hh] at hl;simp at hl
   |cons x l=>
    have hx:lvlE x=1:=by
     have hi:=hgi 0 (by rw[hh];simp);rw[hh,TK] at hi g;have ea:x.args=[]:=len0 (by have:=hi.parts.1.a2;rw[(nJ g).1] at this;exact this);rw[K6,ea,lvlL]
    rw[lvlL,hx,List.drop_succ_cons,Uv]
  have D:=wY (x0 a hg).2;by_cases hc:¬(-(a.args.getD 0 Δ).c.q=1)∨(a.args.getD 1 Δ).op=1
  ·have e:=wo b hl g hc;have E:(sgE a).length=(qTxt (-(a.args.getD 0 Δ).c.q)).length+((join (facT (txL (a.args.drop 1))) [42]).length+1):=by
    rw[e,List.singleton_append,join_cons,Tc]
    congr 1
    cases hh:a.args.drop 1 with
    |nil=>have:=congrArg List.length hh;rw[Tn] at this;simp at this;omega
    |cons y l=>
     rw[txL,facT,TU,join_cons];unfold joinTail;rw[TU,Uy];simp only[Tc,Td,Te];omega
   omega
  ·have A: -(a.args.getD 0 Δ).c.q=1:=Decidable.not_not.1 fun k=>hc (.inl k);have B:¬(a.args.getD 1 Δ).op=1:=fun k=>hc (.inr k);have e:=Dx b hl g A B;rw[TJ] at e;rw[←e] at w;omega
theorem GG:∀a:GExpr,lvlE (lowE a)≤lvlE a:=Vo fun a ih=>by
 rw[K6 (lowE a),K6 a,zb]
 have:lvlL (lowL a.args)≤lvlL a.args:=xb fun i hi=>by
  have hi':i<a.args.length:=by simpa[Kx] using hi
  rw[Kx,Bk hi']
  have:=ih i hi';have:=Fj hi';omega
 show lvlL (lowL a.args)+1≤_;omega
theorem HC{a:GExpr}(h:Jn a=0):Jn (lowE a)=0:=by
 unfold Jn at h ⊢;split at h
 ·rename_i hc;have b:=xV a;rw[if_pos ⟨by omega,by have:=GG a;omega⟩];exact rL a h
 ·simp at h
theorem IJ{a:GExpr}(h:Jn a=0)(hg:Gd a)(hl:(wrE a).length≤4000):Jj (wrE a)=(lowE a,0,0):=by
 have hlv:lvlE a≤12:=by
  unfold Jn at h;split at h
  ·rename_i hc;exact hc.2
  ·simp at h
 have d:Yt (wrE a) 0 (wrE a++[]):=by
  have b:Yt (wrE a) 0 (db (wrE a)):=Yt.of (Uv ..);rw[Kr (by have:=sP hg [];rwa [TT] at this)] at b;rw[TT];exact b
 obtain⟨q,hq,hy⟩:=AF (wrE a) ((wrE a).length+1) a hg (VK (BJ a hg).2.2) 0 0 [] o d (.inl r);have b:(wrE a).length≤spM (wrE a) q:=List.drop_eq_nil_iff.1 hy;unfold Jj;rw[if_neg o];unfold Ve;rw[hq,Rr.th_ok,if_neg o]
 show(if Jn (lowE a)=0 then(lowE a,0,0) else(Xu,0,Jn (lowE a)))=_
 rw[if_pos (HC h)]
def numE(q:Rat):GExpr:= .mk 1 [] (ofQ q) [] []
section
variable {a:GExpr}
section
variable (hg:Gd a)
include hg
omit hg in
end
section
variable {l:List GExpr} {s:By} {i:Nat} {T:By}
end
end
section
variable {l:List GExpr} {s T:By} {i:Nat} {a:GExpr}
theorem H9(h:(prE a).2=0):Jn a=0∧(prE a).1=wrE a∧(wrE a).length≤4000:=by
 unfold prE at h ⊢;by_cases hc:Jn a=0
 ·rw[if_pos hc] at h ⊢;by_cases hl:4000<(wrE a).length
  ·rw[if_pos hl] at h;cases h
  ·rw[if_neg hl];exact⟨hc,rfl,o⟩
 ·rw[if_neg hc] at h;exact absurd h hc
theorem CO(h:(prE a).2=0)(ho:okE a)(hs:smE a):Jj (prE a).1=(lowE a,0,0):=by
 obtain⟨hc,e,hl⟩:=H9 h;rw[e];exact IJ hc (rG hc ho hs) hl
end
theorem Co{a:GExpr}(h:Jn a=0)(hg:Gd a):Ve (wrE a)= .ok (lowE a) 0:=by
 have hlv:lvlE a≤12:=by
  unfold Jn at h;split at h
  ·rename_i hc;exact hc.2
  ·simp at h
 have d:Yt (wrE a) 0 (wrE a++[]):=by
  have b:Yt (wrE a) 0 (db (wrE a)):=Yt.of (Uv ..);rw[Kr (by have:=sP hg [];rwa [TT] at this)] at b;rw[TT];exact b
 obtain⟨q,hq,hy⟩:=AF (wrE a) ((wrE a).length+1) a hg (VK (BJ a hg).2.2) 0 0 [] o d (.inl r);have b:(wrE a).length≤spM (wrE a) q:=List.drop_eq_nil_iff.1 hy;unfold Ve;rw[hq,Rr.th_ok,if_neg o]
section
variable {a:GExpr} (h:(prE a).2=0) (hp:Yi a=true) (hs:smE a)
include h
theorem M8:(prE a).1.length≤4000:=by obtain⟨_,e,hl⟩:=H9 h;rw[e];exact hl
include hp hs
end
end Go.Wf
namespace Go.Wf
open Go
section
variable {a:GExpr}
theorem mM(h:cntOk a)(b:12≤a.op)(d:a.op≤16):0<a.n.length∧a.args.length=1:=by
 have e1:cA a.op=1:=by unfold cA;rw[if_neg o,if_neg o,if_neg o,if_neg o,if_neg o,if_neg o,if_pos o]
 have e2:cC a.op=1:=by unfold cC;rw[if_neg o,if_neg o,if_pos o]
 have e:cD a.op=1:=by unfold cD;rw[if_neg o,if_neg o,if_pos o]
 have:=h.n1
 have:=h.a1
 have:=h.a2
 omega
theorem N9(h:cntOk a)(b:a.op=10):a.args≠[]:=by
 have e2:cC a.op=2:=by unfold cC;rw[if_neg o,if_pos o]
 have:=h.a1
 intro e;rw[e] at this;simp at this;omega
theorem LR(h:cntOk a)(hr:mH a)(b:a.op=12): -200≤a.n.getD 0 0∧a.n.getD 0 0≤200:=by
 have:=hr 0 (mM h o o).1
 rw[b] at this;exact this
theorem KR(h:cntOk a)(hr:mH a)(b:a.op=13):1≤a.n.getD 0 0∧a.n.getD 0 0≤1000:=by
 have:=hr 0 (mM h o o).1
 rw[b] at this;exact this
theorem c_n(h:cntOk a):a.n.length≤1000:=by
 have:=h.n2
 have b:cB a.op≤65:=by unfold cB;(repeat' split)<;>omega
 omega
theorem I3(h:nameOk a):a.name.length≤1000:=by
 rcases h.s with d|d
 ·have b:=h.e.symm;rw[decide_eq_true d] at b;unfold Km at b;simp only[T2] at b
  have:=of_decide_eq_true b.1.1.1.2
  omega
 ·rw[d];exact Tv _
end
theorem wu{a:GExpr}(h:errE a=0){i:Nat}(hi:i<a.args.length):errE (a.args.getD i Δ)=0:=mX (Q1 h).2 hi
theorem LP:∀a:GExpr,errE a=0→Va a:=Vo fun a ih h=>by
 obtain⟨hc,_,hr⟩:=zz (Q1 h).1;refine .mk (fun b d=>(mM hc b d).2) (fun b=>(KR hc hr b).1) (N9 hc) fun _ hx=>?_
 obtain⟨i,hi,rfl⟩:=J6 hx;exact ih i hi (wu h hi)
inductive Uq (u:Nat):GExpr→Prop
 |mk {a:GExpr} (t:a.op=1→uq a.c.q≤u) (h:∀x∈a.args,Uq u x):Uq u a
theorem Uq.top{u:Nat}{a:GExpr}(h:Uq u a):a.op=1→uq a.c.q≤u:=by cases h;assumption
theorem Uq.arg{u:Nat}{a:GExpr}(h:Uq u a):∀x∈a.args,Uq u x:=by cases h;assumption
theorem Mu{u K:Nat}(hK:u+1000≤K):∀a:GExpr,errE a=0→Uq u a→Nu K a:=Vo fun a ih h hu=>by
 obtain⟨hc,hn,hr⟩:=zz (Q1 h).1;refine .mk (fun b=>by have:=hu.top b;omega) (c_n hc) (I3 hn) (fun b d=>(mM hc b d).1) (LR hc hr) (fun b=>⟨(mM hc o o).1,KR hc hr b⟩) fun _ hx=>?_
 obtain⟨i,hi,rfl⟩:=J6 hx;exact ih i hi (wu h hi) (hu.arg _ hx)
theorem OY:∀a:GExpr,errE a=0→Bd a:=Vo fun a ih h=>by
 obtain⟨hc,_,hr⟩:=zz (Q1 h).1;refine .mk (LR hc hr) fun _ hx=>?_
 obtain⟨i,hi,rfl⟩:=J6 hx;exact ih i hi (wu h hi)
theorem CB:∀a:GExpr,Yi a=true→Lwe a→Uq 8 a:=Vo fun a ih hp hl=>by
 obtain⟨_,b,d,_,e⟩:=K9.1 hp;obtain⟨l1,l2⟩:=Ya.1 hl;refine .mk (fun g=>?_) fun _ hx=>?_
 ·unfold lowC at l1;rw[if_pos g] at l1;rw[←l1] at b d;exact Nat.max_le.2 ⟨b,d⟩
 ·obtain⟨i,hi,rfl⟩:=J6 hx;exact ih i hi (e i hi) (l2 _ hx)
theorem PI{T:Nat}:∀a:GExpr,NF a→dgE a≤T→Uq T a:=Vo fun a ih hn hd=>by
 refine .mk (fun b=>by rw[Xd,if_pos b] at hd;omega) fun _ hx=>?_
 have b:a.op≠1:=fun b=>by
  rw[hn.top.num b] at hx;simp[nbE,GExpr.args] at hx
 have d:=Vc b hx;obtain⟨i,hi,rfl⟩:=J6 hx;exact ih i hi (hn.arg _ hx) (Tj d hd)
theorem tM:∀a:GExpr,Yi a=true→cntE a≤80→Sz a:=Vo fun a ih hp hc=>by
 obtain⟨_,_,_,_,b⟩:=K9.1 hp;have d:=zd a.args;rw[Z7] at hc;refine .mk o o o o o fun _ hx=>?_
 obtain⟨i,hi,rfl⟩:=J6 hx;exact ih i hi (b i hi) (by have:=yb hi;omega)
structure NmP (K:Nat) (a:GExpr):Prop where
 sz:Sz a
 lw:Lwe a
 nor:Jn a=0→NorP K a
def NmA(a m:GExpr)(e:Int):Prop:=(e=0∧∃x,NorR a (some x)∧Jn x=0∧m=lowE x)∨(¬e=0∧(¬Jn a=0∨NorR a none∨∃x,NorR a (some x)∧¬Jn x=0))
theorem pK{a:GExpr}(hp:Yi a=true)(hl:Lwe a)(hc:cntE a≤80):NmP 40000 a:=
 ⟨tM a hp hc,hl,fun h=>⟨LP a (Ku h).2,Mu d a (Ku h).2 (CB a hp hl),(Ku h).1.1,d,d,tM a hp hc⟩⟩
theorem pz{K:Nat}{a x:GExpr}(hP:NorP K a)(hr:NorR a (some x)):Sz x∧NF x∧Lwe x:=by
 have h:=GC hP hr;have hct:=hP.ct
 have:=VP hP.k2 hct
 exact⟨h.nf.sz (T:=200000000) (k:=200) h.lw (by have:=h.dg;omega) (h.wd.up o) d d,h.nf,h.lw⟩
theorem At{a x:GExpr}(hP:NorP 40000 a)(hr:NorR a (some x)):NmP 3300000 x:=by
 have h:=GC hP hr;have hct:=hP.ct;obtain⟨b,d,e⟩:=pz hP hr;exact⟨b,e,fun hc=>⟨LP x (Ku hc).2,Mu (u:=2400000) δ x (Ku hc).2 (PI x d (by have:=h.dg;omega)),(Ku hc).1.1,δ,δ,b⟩⟩
theorem Fy{a m:GExpr}{e:Int}(h:NmA a m e)(b:e=0):∃x,NorR a (some x)∧Jn x=0∧m=lowE x:=h.elim (·.2) fun h=>absurd b h.1
theorem ua{a m:GExpr}(hP:NorP 40000 a)(h:∃x,NorR a (some x)∧Jn x=0∧m=lowE x):NmP 3300000 m∧Jn m=0∧∀m2 e2,NmA m m2 e2→e2=0∧m=m2:=by
 obtain⟨x,g,d,i⟩:=h;obtain⟨_,p,j⟩:=pz hP g;have e:lowE x=x:=j;rw[e] at i;subst i;refine⟨At hP g,d,fun m2 e2 s=>?_⟩
 have fix:=HZ _ m (VM _) p j (OY m (Ku d).2);rcases s with ⟨k,y,b,l,v⟩|⟨k,b⟩
 ·have:=fix _ b
  cases this;exact⟨k,by rw[v,e]⟩
 ·rcases b with b|b|⟨y,b,l⟩
  ·exact absurd d b
  ·exact absurd (fix _ b) χ
  ·have:=fix _ b
   cases this;exact absurd d l
theorem M4{nm:List UInt8}{y:GExpr}:∀a:GExpr,¬nm∈Yx a→repE nm y a=a:=Vo fun a ih h=>by
 have e:Yx a=(if a.op=8 then [a.name] else [])++Xb a.args:=by cases a;rw[Yx];rfl
 rw[e,List.mem_append] at h;rw[q9,if_neg fun hh=>h (.inl (by rw[if_pos hh.1,hh.2];simp))];have hl:∀l:List GExpr,¬nm∈Xb l→(∀i,i<l.length→¬nm∈Yx (l.getD i Δ)→repE nm y (l.getD i Δ)=l.getD i Δ)→repL nm y l=l:=by
  intro l
  induction l with
  |nil=>intro _ _;rfl
  |cons b l ihl=>
   intro g d;rw[Xb,List.mem_append] at g;rw[repL,ihl (fun h=>g (.inr h)) fun i _=>d (i+1) B']
   have:=d 0 χ (fun h=>g (.inl h))
   exact congrArg (· ::l) this
 rw[hl a.args (fun d=>h (.inr d)) ih];cases a;rfl
theorem Cn{nm:List UInt8}{y:GExpr}(hy:lvlE y=1):∀a:GExpr,lvlE (repE nm y a)≤lvlE a:=Vo fun a ih=>by
 rw[q9];split
 ·rw[hy,K6];omega
 ·rw[K6 a,K6];show lvlL (repL nm y a.args)+1≤_;rw[Xo]
  have:lvlL (a.args.map (repE nm y))≤lvlL a.args:=xb fun i hi=>by
   rw[UG] at hi;have e:(a.args.map (repE nm y)).getD i Δ=repE nm y (a.args.getD i Δ):=by
    rw[Tq,TV,Tq,Tt hi];rfl
   rw[e];exact Tj (ih i hi) (Fj hi)
  omega
def Qj:GExpr:= .mk 6 [] ⟨⟨false,[]⟩,⟨false,[]⟩⟩ [] []
def zzN:List UInt8:=[122,122,122,122,122,122,122,122,122,122,122,122,122,122,122,122,122,122,122,122]
theorem ub:Yi Qj=true:=d
theorem v7:cntE Qj=1∧lvlE Qj=1:=⟨rfl,rfl⟩
theorem yD:lowE Qj=Qj:=by
 rw[zb];show GExpr.mk 6 [] (lowC 6 _) [] (lowL [])=_;unfold lowC;rw[if_neg d,lowL];rfl
theorem qA:Jn Qj=0:=by
 unfold Jn;rw[if_pos ⟨by rw[v7.1];decide,by rw[v7.2];decide⟩];refine za.2 ⟨z6.2 ⟨⟨⟨by decide,d,d,d,d,d⟩,⟨by decide,.inr r,.inr ?_⟩⟩,fun i hi=>by cases hi⟩,fun i hi=>by cases hi⟩;show Xr Qj.c.q=0
 have:Qj.c.q=0:=by unfold GRat.q Qj;decide
 rw[this];rfl
theorem uG{a:GExpr}(h:Jn a=0)(hl:Lwe a):(subE a zzN Qj).2=0∧(¬zzN∈nmR a→(subE a zzN Qj).1=a):=by
 have e:lowE a=a:=hl;have b:Jn (repE zzN (lowE Qj) (lowE a))=0:=by
  rw[e];have hy:Jn Qj=0:=qA;rw[yD];obtain⟨⟨_,_⟩,d⟩:=Ku h;have k1:=Ii zzN Qj a;rw[v7.1] at k1;have k2:=Cn (nm:=zzN) v7.2 a;unfold Jn;rw[if_pos ⟨by omega,o⟩];exact xS (Ku hy).2 a d
 have e2:=sub5 h (nm:=zzN) δ qA b;rw[←e2];refine⟨rfl,fun hn=>?_⟩
 show repE zzN (lowE Qj) (lowE a)=a;rw[e];refine M4 a fun hm=>hn ?_;rw[←EN h]
 exact((pE a []).1 zzN).2 (.inl hm)
section
variable {a:GExpr} (h:(prE a).2=0) (ho:okE a) (hs:smE a) (hl:Lwe a)
include h ho hs hl
theorem Ah:Ve (prE a).1= .ok a 0:=by
 obtain⟨hc,e,_⟩:=H9 h;have e2:lowE a=a:=hl;rw[e,Co hc (rG hc ho hs),e2]
theorem LN:RdF (prE a).1:=by
 unfold RdF;rw[Ah h ho hs hl];exact Tv _
theorem M6:okE (rdT (prE a).1).1:=by
 unfold rdT;rw[Ah h ho hs hl];exact ho
theorem Pg:Jj (prE a).1=(a,0,0):=by
 rw[CO h ho hs];have e2:lowE a=a:=hl;rw[e2]
end
theorem Lv{a:GExpr}(h:Jn a=0):(prE a).2=0∨(prE a).2=7:=by
 unfold prE;rw[if_pos h];split
 ·exact .inr r
 ·exact .inl r
end Go.Wf
namespace Go.Wf
open Go Go.Proofs Go.RowKit
section
variable{X:Nat→Prop}{w:World}(hX:XB X w)
include hX
theorem l7{b:Value}{a:GExpr}(d:RV Jc X w b a)(hok:Sz a):CRt 20 #[b] w fun v _=>v=(.int .i64 (Jn a)):=uH hX d hok.o
theorem vl{s:Value}{a:GExpr}(r0:RV Jc X w s a){K:Nat}(hM:NmP K a):CRt 29 #[s] w fun v w'=>(∃(s:Value) (m':GExpr) (e':Int),v= .tuple #[s,.int .i64 e']∧RV Jc X w' s m'∧(NmA a m' e')):=by
 obtain⟨a1,Y,Z,c4,a5,c6,a7,c8,rfl,p⟩:=SR r0;have C:=PV hX;refine Cgo Tryz.func29 r r r (Rg<|Ol<|QA C r ?_);intro _ _ _ _ _ ax ay i;refine Ol (PU ax io31 r ?_);intro _ _ _ _ _ N P b;have p:=(p.sp ay).sp P;have i:=i.spn P;refine Oa (Nl<|Rh<|Ol<|Uo (vs:=(ec a a1 Y Z c4 a5 c6 a7 c8)) i ag31<|Ol<|PK N cb20 r r (l7 N.bd (Mx a p) hM.sz) ?_);intro _ _ x y az;have p:=p.sp y;have i:=i.spn y;have b:=b.spn y;subst az;refine Ua<|Rg<|Ub<|QH r r (fun d=>?_)<|fun d=>?_
 ·refine Nl (Uf<|Ol<|PX (cs:=zX) r κ<|Om<|On<|Us (cs':=zX) x b io31 ?_);intro _ Q _ aA;exact Ua<|PS<|Jg r r r aA ag31 Q<|⟨_,(.mk 0 [] YT [] []),(Jn a),rfl,(Zb o o ξ RS.nil RS.nil RS.nil RS.nil).tr Q.wb,(.inr ⟨d,.inl d⟩)⟩
 refine Nl (Uc<|Rg<|Ol<|Uo (vs:=(ec a a1 Y Z c4 a5 c6 a7 c8)) i ag31<|Ol<|PK x cb63 r r (ru x.bd (Mx a p) hM.sz (by have:=(Ku d).1.1;omega)) ?_);intro _ _ R aB aD;obtain⟨_,_,_,_,_,_,_,_,rfl,aE⟩:=SR aD;refine Ol (PK R cb65 r r (Oq R.bd (Mx (lowE a) aE)<|(show lowE a=a from hM.lw).symm▸hM.nor d) ?_);intro _ _ aF aG aH;have b:=(b.spn aB).spn aG;obtain⟨_,h,_,rfl,aI,e⟩:=aH;obtain⟨z,A,B,D,E,F,G,H,rfl,j⟩:=SR aI;refine Om (Ol<|St.extract r rfl<|Ol<|St.extract r rfl<|Ol<|PU aF io31 r ?_);intro _ _ _ _ af aJ S aK;have aL:=af _ b.blk.lt;refine On (Us (cs':=(ec h z A B D E F G H)) aJ aK io31 ?_);intro _ I T m;have j:=(j.sp S).sp T;have b:=(b.spn S).spo T aL;refine Oa (Nl<|PT<|PT ?_);rw[show lowE a=a from hM.lw] at e;refine PN<|Ub<|QH r r (fun g=>?_)<|fun g=>?_
 ·refine Om (Oz<|Oz<|Oz<|OT<|Nl<|Uf<|Ol<|PX (cs:=zX) r κ<|On<|Us (cs':=zX) I b io31 ?_);intro _ U _ aM;exact Ua<|PS<|Jg r r r aM ag31 U<|⟨_,(.mk 0 [] YT [] []),7,rfl,(Zb o o ξ RS.nil RS.nil RS.nil RS.nil).tr U.wb,(.inr ⟨by decide,.inr (.inl (Ans.no e g))⟩)⟩
 refine Om (OgD<|Uo (vs:=(ec h z A B D E F G H)) m ag31<|OgD<|PK I cb20 r r (l7 I.bd (Mx h j) (pz (hM.nor d)<|Ans.ok e g).1) ?_);intro _ _ J L aO;have j:=j.sp L;have b:=b.spn L;have m:=m.spn L;subst aO;refine OgD<|QH r r (fun k=>?_)<|fun k=>?_
 ·refine OF (Nl<|Uf<|Ol<|PX (cs:=zX) r κ<|On<|Us (cs':=zX) J b io31 ?_);intro _ V _ aP;exact Ua<|PS<|Jg r r r aP ag31 V<|⟨_,(.mk 0 [] YT [] []),7,rfl,(Zb o o ξ RS.nil RS.nil RS.nil RS.nil).tr V.wb,(.inr ⟨by decide,.inr (.inr ⟨_,Ans.ok e g,k⟩)⟩)⟩
 refine OF (Nl<|Uc<|Rg<|Ol<|Uo (vs:=(ec h z A B D E F G H)) m ag31<|Ol<|PK J cb63 r r (ru J.bd (Mx h j) (pz (hM.nor d)<|Ans.ok e g).1 (by have:=(Ku k).1.1;omega)) ?_);intro _ _ ag ah ai;have b:=b.spn ah;obtain⟨aj,ak,am,an,ao,aq,ar,au,rfl,l⟩:=SR ai;refine On (Us (cs':=(ec (lowE h) aj ak am an ao aq ar au)) ag b io31 ?_);intro _ M av aw;have l:=l.sp av;exact Ua<|PS<|Jg r r r aw ag31 M<|⟨_,(lowE h),0,rfl,(Mx (lowE h) l).tr M.wb,(.inl ⟨rfl,_,Ans.ok e g,k,rfl⟩)⟩
end
section
variable{X:Nat→Prop}{w:World}(hX:XB X w)
include hX
theorem Q4{g:Nat}{s:List UInt8}{p o:Nat}(hB:Blk w g (rc s p o) 88)(hXg:X g)(hp:p≤s.length)(hs:s.length≤65536):Calls Tryz.prog 68 #[(P10 g 0)] w (RetM w g fun v w'=>v=(.int .u8 (((hdM s p):Nat):Int))∧Blk w' g (rc s (spM s p) o) 88):=by
 have C:=Rd g hX hXg;have L:=SW hB;refine Cgo Tryz.func68 r r r (Rg<|Ua<|PT<|W.block<|P7 (fun μ f v=>∃(x y:Nat→Prop) (i:Nat),Cx X ⟨w,(· =g)⟩ x y v∧f 0=(P10 g 0)∧Own ⟨w,(· =g)⟩ y v g [(str s),(.int .i64 i),(.int .i64 o)] 88∧i≤s.length∧spM s i=spM s p∧μ=(s.length-i)) _ ⟨_,_,p,C,rfl,L,hp,rfl,rfl⟩ ?_);rintro _ _ _ ⟨_,_,i,e,h,d,_,hR,_⟩;obtain⟨_,rfl⟩:=rebK (aC h aN);clear h;refine PT (PT ?_);by_cases hin:i<s.length
 ·by_cases hbl:(s.getD i 0).toNat=32
  ·refine QY mixed 19 e (Qm<|Qn<|Qf J7 rfl<|Qd d pl3 r rfl<|Qm<|Qn<|Qf Ys rfl<|Qd d pl9 r rfl<|Qp (fun _=>QW un9 r ⟨rfl,rfl⟩)<|Qp (fun _=>Rn (t:=true) r r (decide_eq_true ω) ⟨rfl,rfl⟩)<|Qm<|Qg<|Qm<|Qg<|Qn<|Qg<|Qf Ys rfl<|Qg<|Qd d pl9 r rfl<|Qg<|Qm<|Qg<|Qn<|Qg<|Qf J7 rfl<|Qg<|Qd d pl3 r r ?_);refine Qz fun _ k l=>?_
   have d:=d.spn l;refine OgD (QO (j:=i) (c:=(s.getD i 0)) un9 r r r (Je ω)<|OgD<|QZ (t:=true) r r (decide_eq_true ω)<|OT<|Nl<|Ud<|PR<|W.block<|PN<|Ub<|PZ rfl<|Ol<|PJ J7 rfl<|Ol<|PO d pl3 r rfl<|Ol<|St.add r r (Ja (a:=i) (b:=1) ω) ?_);refine Ol (PZ rfl<|Ol<|PJ J7 rfl<|On<|QM (cs':=[(str s),(.int .i64 ((i+1:Nat):Int)),(.int .i64 o)]) k d io3 r r r r r r ?_);intro _ m _ z;refine Nl<|⟨_,ω,_,_,(i+1),m,rfl,z,ω,((wT ω ω).trans hR),rfl⟩
  refine QY mixed 19 e (Qm<|Qn<|Qf J7 rfl<|Qd d pl3 r rfl<|Qm<|Qn<|Qf Ys rfl<|Qd d pl9 r rfl<|Qp (fun _=>QW un9 r ⟨rfl,rfl⟩)<|Qp (fun _=>Rn (t:=true) r r (decide_eq_true ω) ⟨rfl,rfl⟩)<|Qm<|Qg<|Qm<|Qg<|Qn<|Qg<|Qf Ys rfl<|Qg<|Qd d pl9 r rfl<|Qg<|Qm<|Qg<|Qn<|Qg<|Qf J7 rfl<|Qg<|Qd d pl3 r r ?_);refine Qz fun _ A B=>?_
  have d:=d.spn B;refine OgD (QO (j:=i) (c:=(s.getD i 0)) un9 r r r (Je ω)<|OgD<|QZ (t:=false) r r (decide_eq_false ω)<|OT<|Nl<|Ue<|QB<|PT<|PT<|QY mixed 9 A<|Qm<|Qn<|Qf J7 rfl<|Qd d pl3 r rfl<|Qm<|Qn<|Qf Ys rfl<|Qd d pl9 r rfl<|Qp (fun _=>QW un9 r ⟨rfl,rfl⟩) ?_);refine Qz fun _ D E=>?_
  have d:=d.spn E;refine Ol<|QZ (t:=false) r r (decide_eq_false ω)<|Nl<|Uc<|PT<|QY mixed 8 D<|Qm<|Qn<|Qf Ys rfl<|Qd d pl9 r rfl<|Qm<|Qn<|Qf J7 rfl<|Qd d pl3 r rfl<|Qz fun _ F G=>?_
  have d:=d.spn G;refine Ol<|QO (j:=i) (c:=(s.getD i 0)) un9 r r r (Je ω)<|Ua<|PS<|Kd r (SV r)<|RetM.intro ⟨?_,?_⟩ F.below
  ·exact YR<|Oj hR hbl
  have hh:=d.blk;rw[show i=(spM s p) from E9 hR hbl] at hh;exact hh
 refine QY mixed 19 e<|Qm<|Qn<|Qf J7 rfl<|Qd d pl3 r rfl<|Qm<|Qn<|Qf Ys rfl<|Qd d pl9 r rfl<|Qp (fun _=>QW un9 r ⟨rfl,rfl⟩)<|Qp (fun _=>Rn (t:=false) r r (decide_eq_false ω) ⟨rfl,rfl⟩)<|Qm<|Qx<|Qx<|Qx<|Qx<|Qx<|Qx<|Qx<|Qx<|Qz fun _ H I=>?_
 have d:=d.spn I;refine Oz<|Oz<|OF<|Nl<|Ue<|QB<|PT<|PT<|QY mixed 9 H<|Qm<|Qn<|Qf J7 rfl<|Qd d pl3 r rfl<|Qm<|Qn<|Qf Ys rfl<|Qd d pl9 r rfl<|Qp (fun _=>QW un9 r ⟨rfl,rfl⟩)<|Qz fun _ J K=>?_
 have d:=d.spn K;refine Ol<|QZ (t:=true) r r (decide_eq_true ω)<|Nl<|Uf<|Ua<|PS<|Kd r (SV r)<|RetM.intro ⟨?_,?_⟩ J.below
 ·exact YR<|Lf hR ω
 have hh:=d.blk;rw[show i=(spM s p) from zD hR ω] at hh;exact hh
theorem tD{n:Nat}  :CRt 194 #[(.int .u8 n)] w fun v _=>v=(.bool (Ky n)):=by
 have C:=PV hX;refine Cgo Tryz.func194 r r rfl<|Rg<|Ua<|Rg<|Ub<|Ra r r (fun a=>?_)<|fun a=>?_
 ·refine Om<|OgD<|PP<|OgD<|Rt r r (fun b=>?_)<|fun b=>?_
  ·exact OT<|Om<|Oz<|Oz<|Oz<|OyD<|OyD<|Oz<|OT<|Ua<|PS<|Wq r r C<|YS<|zW o
  refine OT<|Om<|OgD<|PP<|OgD<|Ra r r (fun d=>?_)<|fun d=>?_
  ·exact OgD<|PP<|OgD<|PP<|OgD<|Rx r r rfl<|OgD<|QD (t:=true) rfl<|OF<|Ua<|PS<|Wq r r C<|YS<|oi o
  exact OgD<|PP<|Oz<|Oz<|OgD<|QD (t:=false) rfl<|OF<|Ua<|PS<|Wq r r C<|YS<|pt o
 refine Om<|Oz<|Oz<|OF<|Om<|OgD<|PP<|OgD<|Ra r r (fun e=>?_)<|fun e=>?_
 ·exact OgD<|PP<|OgD<|PP<|OgD<|Rx r r rfl<|OgD<|QD (t:=true) rfl<|OF<|Ua<|PS<|Wq r r C<|YS<|oi o
 exact OgD<|PP<|Oz<|Oz<|OgD<|QD (t:=false) rfl<|OF<|Ua<|PS<|Wq r r C<|YS<|pt o
theorem pX{n:Nat}  :CRt 191 #[(.int .u8 n)] w fun v _=>v=(.bool (Ko n)):=by
 have C:=PV hX;refine Cgo Tryz.func191 r r rfl<|Rg<|Ua<|Rg<|Ub<|Ra r r (fun a=>?_)<|fun a=>?_
 ·exact Om<|OgD<|PP<|OgD<|Rx r r rfl<|OT<|Ua<|PS<|Wq r r C<|YS<|Ay o
 exact Om<|Oz<|Oz<|OF<|Ua<|PS<|Wq r r C<|YS<|xY o
theorem DD{g:Nat}{s:List UInt8}{p o:Nat}(hB:Blk w g (rc s p o) 88)(hXg:X g)(hp:p≤s.length)(hs:s.length≤65536):Calls Tryz.prog 195 #[(P10 g 0)] w (RetM w g fun v w'=>v=(str (Zt s p))∧Blk w' g (rc s (p+(Zt s p).length) o) 88):=by
 have C:=Rd g hX hXg;have A:=SW hB;refine Cgo Tryz.func195 r r r (Rg<|Ua<|Rg<|Ub<|PZ rfl<|Ol<|PJ J7 rfl<|Ol<|PO A pl3 r rfl<|Ua<|PT<|W.block<|P7 (fun μ f v=>∃(x y:Nat→Prop) (i:Nat),Cx X ⟨w,(· =g)⟩ x y v∧f 0=(P10 g 0)∧f 3=(.int .i64 p)∧Own ⟨w,(· =g)⟩ y v g [(str s),(.int .i64 i),(.int .i64 o)] 88∧i≤s.length∧p≤i∧i+(Zt s i).length=p+(Zt s p).length∧μ=(s.length-i)) _ ⟨_,_,p,C,rfl,rfl,A,hp,(Tu _),rfl,rfl⟩ ?_);rintro _ _ _ ⟨_,_,i,e,B,D,d,_,_,hR,_⟩;obtain⟨_,rfl⟩:=rebK (aC B<|aC D aN);clear B D;refine PT (PT ?_);by_cases hin:i<s.length
 ·by_cases hle:Ky (s.getD i 0).toNat=true
  ·refine QY mixed 30 e (Qm<|Qn<|Qf J7 rfl<|Qd d pl3 r rfl<|Qm<|Qn<|Qf Ys rfl<|Qd d pl9 r rfl<|Qp (fun _=>QW un9 r ⟨rfl,rfl⟩)<|Qp (fun _=>Rn (t:=true) r r (decide_eq_true ω) ⟨rfl,rfl⟩)<|Qm<|Qg<|Qm<|Qg<|Qn<|Qg<|Qf Ys rfl<|Qg<|Qd d pl9 r rfl<|Qg<|Qm<|Qg<|Qn<|Qg<|Qf J7 rfl<|Qg<|Qd d pl3 r r ?_);refine Qg<|Qp (fun _=>QO (j:=i) (c:=(s.getD i 0)) un9 r r r (Je ω) ⟨rfl,rfl⟩)<|Qg<|Qw (fun w c=>PK c.1 Ck r r (tD c.1.bd (n:=(s.getD i 0).toNat)) fun _ _ C s h=>⟨h.trans<|YS hle,C,c.2.trans s⟩)<|Qg<|Qm<|Qx<|Qx<|Qx<|Qx<|Qx<|Qx<|Qx<|Qx<|Qz fun _ E F=>?_
   have d:=d.spn F;refine Oz (Oz<|OgD<|QD (t:=true) rfl<|OT<|Nl<|Ud<|PR<|W.block<|PN<|Ub<|PZ rfl<|Ol<|PJ J7 rfl<|Ol<|PO d pl3 r rfl<|Ol<|St.add r r (Ja (a:=i) (b:=1) ω)<|Ol<|PZ rfl<|Ol<|PJ J7 r ?_);refine On (QM (cs':=[(str s),(.int .i64 ((i+1:Nat):Int)),(.int .i64 o)]) E d io3 r r r r r r ?_);intro _ G _ H;refine Nl<|⟨_,ω,_,_,(i+1),G,rfl,rfl,H,ω,ω,((yU ω<|.inl hle).trans hR),rfl⟩
  by_cases hdi:Ko (s.getD i 0).toNat=true
  ·refine QY mixed 30 e (Qm<|Qn<|Qf J7 rfl<|Qd d pl3 r rfl<|Qm<|Qn<|Qf Ys rfl<|Qd d pl9 r rfl<|Qp (fun _=>QW un9 r ⟨rfl,rfl⟩)<|Qp (fun _=>Rn (t:=true) r r (decide_eq_true ω) ⟨rfl,rfl⟩)<|Qm<|Qg<|Qm<|Qg<|Qn<|Qg<|Qf Ys rfl<|Qg<|Qd d pl9 r rfl<|Qg<|Qm<|Qg<|Qn<|Qg<|Qf J7 rfl<|Qg<|Qd d pl3 r r ?_);refine Qg (Qp (fun _=>QO (j:=i) (c:=(s.getD i 0)) un9 r r r (Je ω) ⟨rfl,rfl⟩)<|Qg<|Qw (fun w c=>PK c.1 Ck r r (tD c.1.bd (n:=(s.getD i 0).toNat)) fun _ _ C s h=>⟨h.trans<|YS<|Bool.eq_false_iff.2 hle,C,c.2.trans s⟩)<|Qg<|Qm<|Qg<|Qm<|Qg<|Qn<|Qg<|Qf Ys rfl<|Qg<|Qd d pl9 r rfl<|Qg<|Qm ?_);refine Qg<|Qn<|Qg<|Qf J7 rfl<|Qg<|Qd d pl3 r rfl<|Qz fun _ k I=>?_
   refine OgD (QO (j:=i) (c:=(s.getD i 0)) un9 r r r (Je ω)<|OgD<|PK k yO r r (pX k.bd (n:=(s.getD i 0).toNat)) ?_);intro _ _ J K l;have d:=(d.spn I).spn K;rw[hdi] at l;subst l;refine OgD (QD (t:=false) rfl<|OT<|Nl<|Ud<|PR<|W.block<|PN<|Ub<|PZ rfl<|Ol<|PJ J7 rfl<|Ol<|PO d pl3 r rfl<|Ol<|St.add r r (Ja (a:=i) (b:=1) ω)<|Ol<|PZ rfl<|Ol<|PJ J7 rfl<|On<|QM (cs':=[(str s),(.int .i64 ((i+1:Nat):Int)),(.int .i64 o)]) J d io3 r r r r r r ?_);intro _ L _ M;refine Nl<|⟨_,ω,_,_,(i+1),L,rfl,rfl,M,ω,ω,((yU ω<|.inr hdi).trans hR),rfl⟩
  refine QY mixed 30 e (Qm<|Qn<|Qf J7 rfl<|Qd d pl3 r rfl<|Qm<|Qn<|Qf Ys rfl<|Qd d pl9 r rfl<|Qp (fun _=>QW un9 r ⟨rfl,rfl⟩)<|Qp (fun _=>Rn (t:=true) r r (decide_eq_true ω) ⟨rfl,rfl⟩)<|Qm<|Qg<|Qm<|Qg<|Qn<|Qg<|Qf Ys rfl<|Qg<|Qd d pl9 r rfl<|Qg<|Qm<|Qg<|Qn<|Qg<|Qf J7 rfl<|Qg<|Qd d pl3 r r ?_);refine Qg (Qp (fun _=>QO (j:=i) (c:=(s.getD i 0)) un9 r r r (Je ω) ⟨rfl,rfl⟩)<|Qg<|Qw (fun w c=>PK c.1 Ck r r (tD c.1.bd (n:=(s.getD i 0).toNat)) fun _ _ C s h=>⟨h.trans<|YS<|Bool.eq_false_iff.2 hle,C,c.2.trans s⟩)<|Qg<|Qm<|Qg<|Qm<|Qg<|Qn<|Qg<|Qf Ys rfl<|Qg<|Qd d pl9 r rfl<|Qg<|Qm ?_);refine Qg<|Qn<|Qg<|Qf J7 rfl<|Qg<|Qd d pl3 r rfl<|Qz fun _ m N=>?_
  refine OgD (QO (j:=i) (c:=(s.getD i 0)) un9 r r r (Je ω)<|OgD<|PK m yO r r (pX m.bd (n:=(s.getD i 0).toNat)) ?_);intro _ _ P Q z;have d:=(d.spn N).spn Q;rw[(Bool.eq_false_iff.2 hdi)] at z;subst z;refine OgD<|QD (t:=false) rfl<|OT<|Nl<|Ue<|QB<|PT<|QY mixed 9 P<|Qm<|Qn<|Qf Ys rfl<|Qd d pl9 r rfl<|Qm<|Qm<|Qn<|Qf J7 rfl<|Qd d pl3 r rfl<|Qz fun _ R S=>?_
  have d:=d.spn S;refine Ol<|RJ (i:=p) (j:=i) un9 r r r r r ω ω<|Ua<|PS<|Kd r (SV r)<|RetM.intro ⟨?_,?_⟩ R.below
  ·exact congrArg (str)<|EK (zF hle hdi) hR
  have hh:=d.blk;rw[show i=(p+(Zt s p).length) from BF (zF hle hdi) hR] at hh;exact hh
 refine QY mixed 30 e<|Qm<|Qn<|Qf J7 rfl<|Qd d pl3 r rfl<|Qm<|Qn<|Qf Ys rfl<|Qd d pl9 r rfl<|Qp (fun _=>QW un9 r ⟨rfl,rfl⟩)<|Qp (fun _=>Rn (t:=false) r r (decide_eq_false ω) ⟨rfl,rfl⟩)<|Qm<|Qx<|Qx<|Qx<|Qx<|Qx<|Qx<|Qx<|Qx<|Qx<|Qx<|Qx<|Qx<|Qx<|Qx<|Qx<|Qx<|Qx<|Qx<|Qx<|Qz fun _ T U=>?_
 have d:=d.spn U;refine OyD<|OyD<|Oz<|OF<|Nl<|Ue<|QB<|PT<|QY mixed 9 T<|Qm<|Qn<|Qf Ys rfl<|Qd d pl9 r rfl<|Qm<|Qm<|Qn<|Qf J7 rfl<|Qd d pl3 r rfl<|Qz fun _ V Y=>?_
 have d:=d.spn Y;refine Ol<|RJ (i:=p) (j:=i) un9 r r r r r ω ω<|Ua<|PS<|Kd r (SV r)<|RetM.intro ⟨?_,?_⟩ V.below
 ·exact congrArg (str)<|EK (Fq ω) hR
 have hh:=d.blk;rw[show i=(p+(Zt s p).length) from BF (Fq ω) hR] at hh;exact hh
theorem zv{g:Nat}{s:List UInt8}{p o:Nat}(hB:Blk w g (rc s p o) 88)(hXg:X g)(hp:p≤s.length)(hs:s.length≤65536):Calls Tryz.prog 198 #[(P10 g 0)] w (RetP w g (dgsM s p) fun a q v w'=>v=(str a)∧Blk w' g (rc s q o) 88):=by
 have C:=Rd g hX hXg;have E:=SW hB;have hsp:=K2 hp;refine Cgo Tryz.func198 r r r (Rg<|Ua<|Rg<|Ub<|QT C E cb68 r r (Q4 C.bd (s:=s) (p:=p) (o:=o) E.blk (C.yx _ E.mem) hp hs) ?_);intro _ _ V _ H Y;subst Y;refine Nl (Rg<|Ub<|PZ rfl<|Ol<|PJ J7 rfl<|Ol<|PO H pl3 r rfl<|Ua<|PT<|W.block<|P7 (fun μ f v=>∃(x y:Nat→Prop) (i:Nat),Cx X ⟨w,(· =g)⟩ x y v∧f 0=(P10 g 0)∧f 3=(.int .i64 (((spM s p):Nat):Int))∧Own ⟨w,(· =g)⟩ y v g [(str s),(.int .i64 i),(.int .i64 o)] 88∧i≤s.length∧spM s p≤i∧i+(digL s i).length=spM s p+(digL s<|spM s p).length∧μ=(s.length-i)) _ ⟨_,_,(spM s p),V,rfl,rfl,H,hsp,(Tu _),rfl,rfl⟩ ?_);rintro _ _ _ ⟨_,_,i,e,h,k,d,_,_,hR,_⟩;obtain⟨_,rfl⟩:=rebK (aC h<|aC k aN);clear h k;refine PT (PT ?_);by_cases hin:i<s.length
 ·by_cases hdg:Ko (s.getD i 0).toNat=true
  ·refine QY mixed 19 e (Qm<|Qn<|Qf J7 rfl<|Qd d pl3 r rfl<|Qm<|Qn<|Qf Ys rfl<|Qd d pl9 r rfl<|Qp (fun _=>QW un9 r ⟨rfl,rfl⟩)<|Qp (fun _=>Rn (t:=true) r r (decide_eq_true ω) ⟨rfl,rfl⟩)<|Qm<|Qg<|Qm<|Qg<|Qn<|Qg<|Qf Ys rfl<|Qg<|Qd d pl9 r rfl<|Qg<|Qm<|Qg<|Qn<|Qg<|Qf J7 rfl<|Qg<|Qd d pl3 r r ?_);refine Qz fun _ l I=>?_
   refine OgD (QO (j:=i) (c:=(s.getD i 0)) un9 r r r (Je ω)<|OgD<|PK l yO r r (pX l.bd (n:=(s.getD i 0).toNat)) ?_);intro _ _ J K m;have d:=(d.spn I).spn K;rw[hdg] at m;subst m;refine OT (Nl<|Ud<|PR<|W.block<|PN<|Ub<|PZ rfl<|Ol<|PJ J7 rfl<|Ol<|PO d pl3 r rfl<|Ol<|St.add r r (Ja (a:=i) (b:=1) ω)<|Ol<|PZ rfl<|Ol<|PJ J7 rfl<|On<|QM (cs':=[(str s),(.int .i64 ((i+1:Nat):Int)),(.int .i64 o)]) J d io3 r r r r r r ?_);intro _ L _ M;refine Nl<|⟨_,ω,_,_,(i+1),L,rfl,rfl,M,ω,ω,((yT (f:=digB) ω hdg).trans hR),rfl⟩
  refine QY mixed 19 e (Qm<|Qn<|Qf J7 rfl<|Qd d pl3 r rfl<|Qm<|Qn<|Qf Ys rfl<|Qd d pl9 r rfl<|Qp (fun _=>QW un9 r ⟨rfl,rfl⟩)<|Qp (fun _=>Rn (t:=true) r r (decide_eq_true ω) ⟨rfl,rfl⟩)<|Qm<|Qg<|Qm<|Qg<|Qn<|Qg<|Qf Ys rfl<|Qg<|Qd d pl9 r rfl<|Qg<|Qm<|Qg<|Qn<|Qg<|Qf J7 rfl<|Qg<|Qd d pl3 r r ?_);refine Qz fun _ z N=>?_
  refine OgD (QO (j:=i) (c:=(s.getD i 0)) un9 r r r (Je ω)<|OgD<|PK z yO r r (pX z.bd (n:=(s.getD i 0).toNat)) ?_);intro _ _ A P B;have d:=(d.spn N).spn P;rw[(Bool.eq_false_iff.2 hdg)] at B;subst B;refine OT<|Nl<|Ue<|QB<|Rh<|Om<|Ub<|PZ rfl<|Ol<|PJ J7 rfl<|Ol<|PO d pl3 r rfl<|Ol<|PW r r (fun F=>?_)<|fun F=>?_
  ·exact Nl<|Uk<|Ub<|PZ rfl<|Ol<|PJ J7 rfl<|Ol<|PO d pl3 r rfl<|Ol<|PX (cs:=[(.int .i64 19),(.int .i64 i)]) r κ<|Ol<|QP κ<|On<|Rz rfl<|Ze (KQ (rF (f:=digB)<|Bool.eq_false_iff.2 hdg) hR ω) A.below
  refine Nl<|Uc<|PT<|QY mixed 9 A<|Qm<|Qn<|Qf Ys rfl<|Qd d pl9 r rfl<|Qm<|Qm<|Qn<|Qf J7 rfl<|Qd d pl3 r rfl<|Qz fun _ Q R=>?_
  have d:=d.spn R;refine Ol<|RJ (i:=(spM s p)) (j:=i) un9 r r r r r ω ω<|Ua<|PS<|Kd r (SV r)<|RetP.ok (a:=((s.take i).drop (spM s p))) (q:=i) (Mg (rF (f:=digB)<|Bool.eq_false_iff.2 hdg) hR ω) ⟨?_,?_⟩ Q.below
  ·rfl
  exact d.blk
 refine QY mixed 19 e<|Qm<|Qn<|Qf J7 rfl<|Qd d pl3 r rfl<|Qm<|Qn<|Qf Ys rfl<|Qd d pl9 r rfl<|Qp (fun _=>QW un9 r ⟨rfl,rfl⟩)<|Qp (fun _=>Rn (t:=false) r r (decide_eq_false ω) ⟨rfl,rfl⟩)<|Qm<|Qx<|Qx<|Qx<|Qx<|Qx<|Qx<|Qx<|Qx<|Qz fun _ D S=>?_
 have d:=d.spn S;refine Oz<|Oz<|OF<|Nl<|Ue<|QB<|Rh<|Om<|Ub<|PZ rfl<|Ol<|PJ J7 rfl<|Ol<|PO d pl3 r rfl<|Ol<|PW r r (fun G=>?_)<|fun G=>?_
 ·exact Nl<|Uk<|Ub<|PZ rfl<|Ol<|PJ J7 rfl<|Ol<|PO d pl3 r rfl<|Ol<|PX (cs:=[(.int .i64 19),(.int .i64 i)]) r κ<|Ol<|QP κ<|On<|Rz rfl<|Ze (KQ (uh ω) hR ω) D.below
 refine Nl<|Uc<|PT<|QY mixed 9 D<|Qm<|Qn<|Qf Ys rfl<|Qd d pl9 r rfl<|Qm<|Qm<|Qn<|Qf J7 rfl<|Qd d pl3 r rfl<|Qz fun _ T U=>?_
 have d:=d.spn U;refine Ol<|RJ (i:=(spM s p)) (j:=i) un9 r r r r r ω ω<|Ua<|PS<|Kd r (SV r)<|RetP.ok (a:=((s.take i).drop (spM s p))) (q:=i) (Mg (uh ω) hR ω) ⟨?_,?_⟩ T.below
 ·rfl
 exact d.blk
end
section
variable{X:Nat→Prop}{w:World}(hX:XB X w)
include hX
theorem Xz{g:Nat}{s:List UInt8}{p o:Nat}(hB:Blk w g (rc s p o) 88)(hXg:X g){c:Nat}(hp:p≤s.length)(hs:s.length≤65536):Calls Tryz.prog 99 #[(P10 g 0),(.int .u8 c)] w (RetM w g fun v w'=>v=(.bool (folB s p c))∧Blk w' g (rc s (fpM s p c) o) 88):=by
 have C:=Rd g hX hXg;have F:=SW hB;have hsp:=K2 hp;refine Cgo Tryz.func99 ϱ ϱ ϱ (Rg<|Ua<|PT<|PT ?_);by_cases hpc:hdM s p=c
 ·by_cases hpl:spM s p=s.length
  ·refine RK mixed 14 1 [[],[0],[],[1,2],[3],[4],[4,5],[4,6],[1,4,7],[4],[4,9],[4,10],[1,4,11],[1,4,12]] C F [fx<|.pointer (some ⟨g,0,none⟩),fun(z:Gh) (v:Value) (w':World)=>(v=(.int .u8 (((hdM s p):Nat):Int)))∧Own ⟨w,(· =g)⟩ z.2 w' g (rc s (spM s p) o) 88,fx<|.int .u8 (c:Int),fx<|.bool false,fx<|.bool false,fx<|.pointer (some ⟨g,0,none⟩),fx<|.pointer (some ⟨g,0,none⟩),fx<|.pointer (some ⟨g,1,none⟩),fx<|.int .i64 (((spM s p):Nat):Int),fx<|.pointer (some ⟨g,0,none⟩),fx<|.pointer (some ⟨g,0,none⟩),fx<|.pointer (some ⟨g,0,none⟩),fx<|str s,fx<|.int .i64 (s.length:Int)] κ ⟨sx,(fun _ _ _ _ _ ⟨h,o⟩ r=>⟨h,o.spn r.sp⟩),sx,sx,sx,sx,sx,sx,sx,sx,sx,sx,sx,sx,trivial⟩ fun f8 y _ bk j=>?_
   have k:=bk.cx;have j:Keep [5,6,7,8,9,10,11,12,13,14,15,16,17,18] _ f8:=j;refine⟨⟨fun _ _=>?_,fun⟨bl,_⟩ B=>?_,fun _ _=>?_,fun⟨bm,bn,_⟩ _=>?_,fun⟨bo,_⟩ _=>?_,fun⟨bp,_⟩ _=>?_,fun⟨bq,br,_⟩ _=>?_,fun⟨bs,bt,_⟩ _=>?_,fun⟨bu,bv,bw,_⟩ _=>?_,fun⟨bx,_⟩ _=>?_,fun⟨bz,bA,_⟩ _=>?_,fun⟨bB,bC,_⟩ _=>?_,fun⟨bD,bE,bF,_⟩ _=>?_,fun⟨bG,bH,bI,_⟩ _=>?_,trivial⟩,fun⟨bJ,bK,bL,bM,bN,bO,bP,bQ,bR,bS,bT,bU,bV,bW,_⟩=>?_⟩
   ·exact Sd0 j fun _=>PP ⟨y,RZ.same k,rfl⟩
   ·replace B:=B ϱ;refine Sd1 j bl fun _=>QT k B cb68 ϱ ϱ (Q4 k.bd (s:=s) (p:=p) (o:=o) B.blk (k.yx _ B.mem) hp hs) ?_;intro _ _ bX bY bZ b0;exact⟨y,RT.step bX bY,b0,bZ⟩
   ·exact Sd0 j fun _=>PP ⟨y,RZ.same k,rfl⟩
   ·obtain⟨b1,_⟩:=bm;exact Jf j (aC b1<|aC bn aN) fun _=>P1<|Rj (t:=false) ϱ ϱ (by rw[decide_eq_true ω];rfl) ⟨y,RZ.same k,rfl⟩
   ·exact Sd1 j bo fun _=>PP ⟨y,RZ.same k,rfl⟩
   ·exact Jf j (aC bp aN) fun _=>PY rfl<|PP ⟨y,RZ.same k,rfl⟩
   ·exact Jf j (aC bq<|aC br aN) fun _=>PY rfl<|PZ ϱ ⟨y,RZ.same k,rfl⟩
   ·exact Jf j (aC bs<|aC bt aN) fun _=>PY rfl<|PJ J7 ϱ ⟨y,RZ.same k,rfl⟩
   ·obtain⟨b2,b3⟩:=bu;exact Jf j (aC b2<|aC bv<|aC bw aN) fun _=>PY rfl<|PO b3 pl3 ϱ ϱ ⟨y,RZ.same k,rfl⟩
   ·exact Jf j (aC bx aN) fun _=>PY rfl<|PP ⟨y,RZ.same k,rfl⟩
   ·exact Jf j (aC bz<|aC bA aN) fun _=>PY rfl<|PZ ϱ ⟨y,RZ.same k,rfl⟩
   ·exact Jf j (aC bB<|aC bC aN) fun _=>PY rfl<|PJ Ys ϱ ⟨y,RZ.same k,rfl⟩
   ·obtain⟨b4,b5⟩:=bD;exact Jf j (aC b4<|aC bE<|aC bF aN) fun _=>PY rfl<|PO b5 pl9 ϱ ϱ ⟨y,RZ.same k,rfl⟩
   ·obtain⟨b6,_⟩:=bG;exact Jf j (aC b6<|aC bH<|aC bI aN) fun _=>PY rfl<|QW un9 ϱ ⟨y,RZ.same k,rfl⟩
   obtain⟨b7,b8⟩:=bK;obtain⟨_,rfl⟩:=mixK j (aC bJ<|aC b7<|aC bL<|aC bM<|aC bN<|aC bO<|aC bP<|aC bQ<|aC bR<|aC bS<|aC bT<|aC bU<|aC bV<|aC bW aN);refine OgD<|QZ (t:=true) ϱ ϱ (decide_eq_true ω)<|OF<|Nl<|Uf<|Ua<|PS<|Kd ϱ (SV ϱ)<|RetM.intro ⟨?_,?_⟩ k.below
   ·exact YS<|(Am hpl).symm
   have hh:=b8.blk;rw[show(spM s p)=(fpM s p c) from(fp_f<|Am hpl)] at hh;exact hh
  refine RK mixed 14 1 [[],[0],[],[1,2],[3],[4],[4,5],[4,6],[1,4,7],[4],[4,9],[4,10],[1,4,11],[1,4,12]] C F [fx<|.pointer (some ⟨g,0,none⟩),fun(z:Gh) (v:Value) (w':World)=>(v=(.int .u8 (((hdM s p):Nat):Int)))∧Own ⟨w,(· =g)⟩ z.2 w' g (rc s (spM s p) o) 88,fx<|.int .u8 (c:Int),fx<|.bool false,fx<|.bool false,fx<|.pointer (some ⟨g,0,none⟩),fx<|.pointer (some ⟨g,0,none⟩),fx<|.pointer (some ⟨g,1,none⟩),fx<|.int .i64 (((spM s p):Nat):Int),fx<|.pointer (some ⟨g,0,none⟩),fx<|.pointer (some ⟨g,0,none⟩),fx<|.pointer (some ⟨g,0,none⟩),fx<|str s,fx<|.int .i64 (s.length:Int)] κ ⟨sx,(fun _ _ _ _ _ ⟨h,o⟩ r=>⟨h,o.spn r.sp⟩),sx,sx,sx,sx,sx,sx,sx,sx,sx,sx,sx,sx,trivial⟩ fun b9 x _ ca l=>?_
  have m:=ca.cx;have l:Keep [5,6,7,8,9,10,11,12,13,14,15,16,17,18] _ b9:=l;refine⟨⟨fun _ _=>?_,fun⟨cb,_⟩ D=>?_,fun _ _=>?_,fun⟨cc,cd,_⟩ _=>?_,fun⟨G,_⟩ _=>?_,fun⟨H,_⟩ _=>?_,fun⟨I,J,_⟩ _=>?_,fun⟨K,L,_⟩ _=>?_,fun⟨M,N,P,_⟩ _=>?_,fun⟨Q,_⟩ _=>?_,fun⟨R,S,_⟩ _=>?_,fun⟨T,U,_⟩ _=>?_,fun⟨V,Y,Z,_⟩ _=>?_,fun⟨aa,ab,ac,_⟩ _=>?_,trivial⟩,fun⟨ad,ae,af,ag,ah,ai,aj,ak,am,an,ao,aq,ar,au,_⟩=>?_⟩
  ·exact Sd0 l fun _=>PP ⟨x,RZ.same m,rfl⟩
  ·replace D:=D ϱ;refine Sd1 l cb fun _=>QT m D cb68 ϱ ϱ (Q4 m.bd (s:=s) (p:=p) (o:=o) D.blk (m.yx _ D.mem) hp hs) ?_;intro _ _ av aw ax ay;exact⟨x,RT.step av aw,ay,ax⟩
  ·exact Sd0 l fun _=>PP ⟨x,RZ.same m,rfl⟩
  ·obtain⟨az,_⟩:=cc;exact Jf l (aC az<|aC cd aN) fun _=>P1<|Rj (t:=false) ϱ ϱ (by rw[decide_eq_true ω];rfl) ⟨x,RZ.same m,rfl⟩
  ·exact Sd1 l G fun _=>PP ⟨x,RZ.same m,rfl⟩
  ·exact Jf l (aC H aN) fun _=>PY rfl<|PP ⟨x,RZ.same m,rfl⟩
  ·exact Jf l (aC I<|aC J aN) fun _=>PY rfl<|PZ ϱ ⟨x,RZ.same m,rfl⟩
  ·exact Jf l (aC K<|aC L aN) fun _=>PY rfl<|PJ J7 ϱ ⟨x,RZ.same m,rfl⟩
  ·obtain⟨aA,aB⟩:=M;exact Jf l (aC aA<|aC N<|aC P aN) fun _=>PY rfl<|PO aB pl3 ϱ ϱ ⟨x,RZ.same m,rfl⟩
  ·exact Jf l (aC Q aN) fun _=>PY rfl<|PP ⟨x,RZ.same m,rfl⟩
  ·exact Jf l (aC R<|aC S aN) fun _=>PY rfl<|PZ ϱ ⟨x,RZ.same m,rfl⟩
  ·exact Jf l (aC T<|aC U aN) fun _=>PY rfl<|PJ Ys ϱ ⟨x,RZ.same m,rfl⟩
  ·obtain⟨aD,aE⟩:=V;exact Jf l (aC aD<|aC Y<|aC Z aN) fun _=>PY rfl<|PO aE pl9 ϱ ϱ ⟨x,RZ.same m,rfl⟩
  ·obtain⟨aF,_⟩:=aa;exact Jf l (aC aF<|aC ab<|aC ac aN) fun _=>PY rfl<|QW un9 ϱ ⟨x,RZ.same m,rfl⟩
  obtain⟨aG,E⟩:=ae;obtain⟨_,rfl⟩:=mixK l (aC ad<|aC aG<|aC af<|aC ag<|aC ah<|aC ai<|aC aj<|aC ak<|aC am<|aC an<|aC ao<|aC aq<|aC ar<|aC au aN);refine OgD (QZ (t:=false) ϱ ϱ (decide_eq_false ω)<|OF<|Nl<|Uc<|Rg<|Ub<|PZ rfl<|Ol<|PJ J7 rfl<|Ol<|PO E pl3 ϱ rfl<|Ol<|St.add ϱ ϱ (Ja (a:=(spM s p)) (b:=1) ω)<|Ol<|PZ ϱ ?_);refine Ol (PJ J7 rfl<|On<|QM (cs':=[(str s),(.int .i64 (((spM s p)+1:Nat):Int)),(.int .i64 o)]) m E io3 ϱ ϱ ϱ ϱ ϱ ϱ ?_);intro _ aH _ aI;refine Nl<|Rg<|Ua<|PS<|Kd ϱ (SV ϱ)<|RetM.intro ⟨?_,?_⟩ aH.below
  ·exact YS<|(EA hpc hpl hp).symm
  have hh:=aI.blk;rw[show(spM s p)+1=(fpM s p c) from(fp_t<|EA hpc hpl hp)] at hh;exact hh
 refine RK mixed 14 1 [[],[0],[],[1,2],[3],[4],[4,5],[4,6],[1,4,7],[4],[4,9],[4,10],[1,4,11],[1,4,12]] C F [fx<|.pointer (some ⟨g,0,none⟩),fun(z:Gh) (v:Value) (w':World)=>(v=(.int .u8 (((hdM s p):Nat):Int)))∧Own ⟨w,(· =g)⟩ z.2 w' g (rc s (spM s p) o) 88,fx<|.int .u8 (c:Int),fx<|.bool true,fx<|.bool true,noG,noG,noG,noG,noG,noG,noG,noG,noG] κ ⟨sx,(fun _ _ _ _ _ ⟨h,o⟩ r=>⟨h,o.spn r.sp⟩),sx,sx,sx,YV,YV,YV,YV,YV,YV,YV,YV,YV,trivial⟩ fun aJ i _ aK d=>?_
 have e:=aK.cx;have d:Keep [5,6,7,8,9,10,11,12,13,14,15,16,17,18] _ aJ:=d;refine⟨⟨fun _ _=>?_,fun⟨aL,_⟩ A=>?_,fun _ _=>?_,fun⟨aM,aO,_⟩ _=>?_,fun⟨aP,_⟩ _=>?_,fun⟨aQ,_⟩ _=>?_,fun⟨aR,_,_⟩ _=>?_,fun⟨aS,_,_⟩ _=>?_,fun⟨aT,aU,_,_⟩ _=>?_,fun⟨aV,_⟩ _=>?_,fun⟨aW,_,_⟩ _=>?_,fun⟨aX,_,_⟩ _=>?_,fun⟨aY,aZ,_,_⟩ _=>?_,fun⟨a0,a3,_,_⟩ _=>?_,trivial⟩,fun⟨a4,a5,a6,a7,a8,_,_,_,_,_,_,_,_,_,_⟩=>?_⟩
 ·exact Sd0 d fun _=>PP ⟨i,RZ.same e,rfl⟩
 ·replace A:=A ϱ;refine Sd1 d aL fun _=>QT e A cb68 ϱ ϱ (Q4 e.bd (s:=s) (p:=p) (o:=o) A.blk (e.yx _ A.mem) hp hs) ?_;intro _ _ a9 ba bb bc;exact⟨i,RT.step a9 ba,bc,bb⟩
 ·exact Sd0 d fun _=>PP ⟨i,RZ.same e,rfl⟩
 ·obtain⟨be,_⟩:=aM;exact Jf d (aC be<|aC aO aN) fun _=>P1<|Rj (t:=true) ϱ ϱ (by rw[decide_eq_false ω];rfl) ⟨i,RZ.same e,rfl⟩
 ·exact Sd1 d aP fun _=>PP ⟨i,RZ.same e,rfl⟩
 ·exact Jf d (aC aQ aN) fun _=>OpSt.opn ϱ ϱ ⟨i,RZ.same e,trivial⟩
 ·exact Jf d (aC aR aN) fun _=>OpSt.opn ϱ ϱ ⟨i,RZ.same e,trivial⟩
 ·exact Jf d (aC aS aN) fun _=>OpSt.opn ϱ ϱ ⟨i,RZ.same e,trivial⟩
 ·obtain⟨bf,_⟩:=aT;exact Jf d (aC bf<|aC aU aN) fun _=>OpSt.opn ϱ ϱ ⟨i,RZ.same e,trivial⟩
 ·exact Jf d (aC aV aN) fun _=>OpSt.opn ϱ ϱ ⟨i,RZ.same e,trivial⟩
 ·exact Jf d (aC aW aN) fun _=>OpSt.opn ϱ ϱ ⟨i,RZ.same e,trivial⟩
 ·exact Jf d (aC aX aN) fun _=>OpSt.opn ϱ ϱ ⟨i,RZ.same e,trivial⟩
 ·obtain⟨bg,_⟩:=aY;exact Jf d (aC bg<|aC aZ aN) fun _=>OpSt.opn ϱ ϱ ⟨i,RZ.same e,trivial⟩
 ·obtain⟨bh,_⟩:=a0;exact Jf d (aC bh<|aC a3 aN) fun _=>OpSt.opn ϱ ϱ ⟨i,RZ.same e,trivial⟩
 obtain⟨bi,bj⟩:=a5;obtain⟨_,rfl⟩:=mixK d (aC a4<|aC bi<|aC a6<|aC a7<|aC a8 aN);refine Oz<|OT<|Nl<|Uf<|Ua<|PS<|Kd ϱ (SV ϱ)<|RetM.intro ⟨?_,?_⟩ e.below
 ·exact YS<|(Et hpc).symm
 have hh:=bj.blk;rw[show(spM s p)=(fpM s p c) from(fp_f<|Et hpc)] at hh;exact hh
theorem vp{g:Nat}{s:List UInt8}{p o:Nat}(hB:Blk w g (rc s p o) 88)(hXg:X g){c:Nat}(hp:p≤s.length)(hs:s.length≤65536)(hc:c=41→1≤o)(ho:o≤64):Calls Tryz.prog 193 #[(P10 g 0),(.int .u8 c)] w (RetP w g (vh s o p c) fun a q v w'=>v= .tuple #[]∧Blk w' g (rc s q (opA c o)) 88):=by
 have C:=Rd g hX hXg;have i:=SW hB;refine Cgo Tryz.func193 r r r (Rh<|Ub<|PZ rfl<|Ol<|PJ Yn rfl<|Ub<|QF<|QT C i cb99 r r (Xz C.bd (s:=s) (p:=p) (o:=o) i.blk (C.yx _ i.mem) (c:=c) hp hs) ?_);intro _ _ h _ e A;refine⟨_,A,fun d=>?_,fun d=>?_⟩
 ·refine Ol<|QI rfl<|Nl<|Uc<|Rg<|Om<|Nl<|W.block<|Rg<|Ol<|PW r r (fun k=>?_)<|fun k=>?_
  ·refine Ua<|Ud<|Rh<|Ub<|PZ rfl<|Ol<|PJ qZ rfl<|Ol<|PO e pl3 r rfl<|Ol<|PW r r (fun l=>?_)<|fun l=>?_
   ·refine Nl<|PM r ?_
    have:=fp_t d
    have:=Y2 (c:=c) hp
    refine PN (Ub<|PZ rfl<|Ol<|PJ Yn rfl<|Ol<|PJ J7 rfl<|Ol<|PO e pl3 r rfl<|Ol<|St.sub r r (Zy (a:=(fpM s p c)) (b:=1) ω ω)<|Ol<|PX (cs:=[(.int .i64 7),(.int .i64 (((fpM s p c)-1:Nat):Int))]) r κ<|Ol<|QP κ ?_);exact On<|Rz rfl<|Ze (GV d ω ω) h.below
   refine Nl (Uc<|PN<|Ub<|PZ rfl<|Ol<|PJ qZ rfl<|Ol<|PO e pl3 r rfl<|Ol<|St.add r r (Ja (a:=o) (b:=1) ω)<|Ol<|PZ rfl<|Ol<|PJ qZ rfl<|On<|QM (cs':=[(str s),(.int .i64 (((fpM s p c):Nat):Int)),(.int .i64 ((o+1:Nat):Int))]) h e io3 r r r r r r ?_);intro _ m _ x;refine Nl<|Kl rfl<|RetP.ok (a:=()) (q:=(fpM s p c)) (G7 d ω ω) ⟨?_,?_⟩ m.below
   ·exact rfl
   have hh:=x.blk;rw[show o+1=(opA c o) from(JC ω)] at hh;exact hh
  refine Ua<|Ug<|Ol<|PW r r (fun j=>?_)<|fun j=>?_
  ·refine Ua<|PM r ?_
   have:=hc ω
   refine PN (Ub<|PZ rfl<|Ol<|PJ qZ rfl<|Ol<|PO e pl3 r rfl<|Ol<|St.sub r r (Zy (a:=o) (b:=1) ω ω)<|Ol<|PZ rfl<|Ol<|PJ qZ rfl<|On<|QM (cs':=[(str s),(.int .i64 (((fpM s p c):Nat):Int)),(.int .i64 ((o-1:Nat):Int))]) h e io3 r r r r r r ?_);intro _ y _ z;refine Nl<|Kl rfl<|RetP.ok (a:=()) (q:=(fpM s p c)) (AL d ω) ⟨?_,?_⟩ y.below
   ·exact rfl
   have hh:=z.blk;rw[show o-1=(opA c o) from(Mt ω ω)] at hh;exact hh
  refine Ua<|Uc<|Kl rfl<|RetP.ok (a:=()) (q:=(fpM s p c)) (AL d ω) ⟨?_,?_⟩ h.below
  ·exact rfl
  have hh:=e.blk;rw[show o=(opA c o) from(EI ω ω)] at hh;exact hh
 exact Ol<|QI rfl<|Nl<|Uk<|Ub<|PZ rfl<|Ol<|PJ Yn rfl<|Ol<|PJ J7 rfl<|Ol<|PO e pl3 r rfl<|Ol<|PX (cs:=[(.int .i64 19),(.int .i64 (((fpM s p c):Nat):Int))]) r κ<|Ol<|QP κ<|On<|Rz rfl<|Ze (Hd d) h.below
theorem sZ{d:List UInt8}(hd:∀c∈d,digB c=true)(hl:d.length≤65536):CRt 196 #[(str d)] w fun v _=>v=(.int .i64 (((valM d):Nat):Int)):=by
 have C:=PV hX;refine Cgo Tryz.func196 r r r (Rg<|Ua<|Rg<|Ua<|Rh<|Ub<|QW un9 rfl<|Om<|Nl<|W.block<|P7 (fun μ f v=>∃(x y:Nat→Prop) (i:Nat),Cx X w x y v∧f 0=(str d)∧f 6=(.int .i64 d.length)∧f 7=(.int .i64 i)∧f 3=(.int .i64 ((valM (d.take i):Nat):Int))∧i≤d.length∧μ=(d.length-i)) _ ⟨_,_,0,C,rfl,rfl,rfl,rfl,(Tv _),rfl⟩ ?_);rintro _ _ _ ⟨_,_,i,g,h,k,l,m,_,_⟩;obtain⟨_,rfl⟩:=rebK (aC h<|aC k<|aC l<|aC m aN);clear h k l m;refine Rg<|Ol<|P2 r r (fun e=>?_)<|fun e=>?_
 ·refine Nl (PT<|Ud<|PR<|PT<|W.block<|Rg<|Om<|Oa<|Nl ?_);have hr:=qz (i:=i) o hd;have hv:=xO (d.take i);refine PN (Ub<|Rq r r (K3 (a:=valM<|d.take i) (b:=10) o)<|Om<|Ub<|QO (j:=i) (c:=(d.getD i 0)) un9 r r r (Je o)<|Ol<|St.sub r r (xi (a:=(d.getD i 0).toNat) (b:=48) o o)<|Ol<|P6 (z:=((((d.getD i 0).toNat)-48:Nat):Int)) us5 un3 r (Tz _ o) ?_);refine Ol<|St.add r r (Ja (a:=(valM<|d.take i)*10) (b:=((d.getD i 0).toNat)-48) o)<|Ol<|RF (z:=((valM (d.take<|i+1):Nat):Int)) r r (CK o hd).symm<|Ua<|PN<|Ol<|St.add r r (Ja (a:=i) (b:=1) o)<|Om<|Nl<|⟨_,o,_,_,(i+1),g,rfl,rfl,rfl,rfl,o,rfl⟩
 exact Nl<|PT<|Ue<|QB<|Rg<|Om<|Ua<|PS<|Wq r r g<|YR<|congrArg Nat.cast<|Gz o
theorem mJ{g:Nat}{s:List UInt8}{p o:Nat}(hB:Blk w g (rc s p o) 88)(hXg:X g)(hp:p≤s.length)(hs:s.length≤65536):Calls Tryz.prog 148 #[(P10 g 0)] w (RetP w g (intM s p) fun a q v w'=>v=(.int .i64 a)∧Blk w' g (rc s q o) 88):=by
 have C:=Rd g hX hXg;have F:=SW hB;refine Cgo Tryz.func148 r r r (Rg<|Ua<|Rg<|Ub<|PZ rfl<|Ol<|PJ Yn rfl<|Ol<|QT C F cb68 r r (Q4 C.bd (s:=s) (p:=p) (o:=o) F.blk (C.yx _ F.mem) hp hs) ?_);intro _ _ G _ y U;subst U;refine Nl (Rg<|Ub<|PZ rfl<|Ol<|PJ Yn rfl<|Ol<|PJ J7 rfl<|Ol<|PO y pl3 r rfl<|Ua<|Rg<|Ub<|PZ rfl<|Ol<|PJ Yn rfl<|Ol<|QF<|QT G y cb99 r r (Xz G.bd (s:=s) (p:=(spM s p)) (o:=o) y.blk (G.yx _ y.mem) (c:=45) (K2 hp) hs) ?_);intro _ _ k _ e H;refine⟨_,H,fun h=>?_,fun h=>?_⟩
 ·refine Ua<|Rg<|Ub<|PZ rfl<|Ol<|PJ Yn rfl<|Ol<|QJ (cs':=fun a q=>rc s q o) k e Dv r r (zv k.bd (s:=s) (p:=(fpM s (spM s p) 45)) (o:=o) e.blk (k.yx _ e.mem) (Y2<|K2 hp) hs) ?_ ?_
  ·intro _ _ _ b I;exact Ze (El b) I
  intro _ _ l J b A _ m K;subst K;refine Ol (PK A GU r r (sZ A.bd (Qt b)<|Tj (Xy b) hs) ?_);intro _ _ B L M;have m:=m.spn L;subst M;refine Ua<|Rh<|Ub<|QN r r (fun i=>?_)<|fun i=>?_
  ·exact Nl<|Uk<|Ub<|PX (cs:=[(.int .i64 2),(.int .i64 (((spM s p):Nat):Int))]) r κ<|Ol<|QP κ<|On<|Rz rfl<|Ze (Ad b i) B.below
  refine Nl<|Uc<|Rh<|Om<|Nl<|PM r ?_
  have:=xO l
  refine PN<|Ub<|St.neg (z:=(-(((valM l):Nat):Int))) r (K4 ω)<|Ua<|Rg<|Om<|Ua<|PS<|Kd r (SV r)<|RetP.ok (a:=(-(((valM l):Nat):Int))) (q:=J) (F3 b i h) ⟨?_,?_⟩ B.below
  ·rfl
  exact m.blk
 refine Ua<|Rg<|Ub<|PZ rfl<|Ol<|PJ Yn rfl<|Ol<|QJ (cs':=fun a q=>rc s q o) k e Dv r r (zv k.bd (s:=s) (p:=(fpM s (spM s p) 45)) (o:=o) e.blk (k.yx _ e.mem) (Y2<|K2 hp) hs) ?_ ?_
 ·intro _ _ _ d N;exact Ze (El d) N
 intro _ _ P Q d D _ x R;subst R;refine Ol (PK D GU r r (sZ D.bd (Qt d)<|Tj (Xy d) hs) ?_);intro _ _ E S T;have x:=x.spn S;subst T;refine Ua<|Rh<|Ub<|QN r r (fun j=>?_)<|fun j=>?_
 ·exact Nl<|Uk<|Ub<|PX (cs:=[(.int .i64 2),(.int .i64 (((spM s p):Nat):Int))]) r κ<|Ol<|QP κ<|On<|Rz rfl<|Ze (Ad d j) E.below
 refine Nl<|Uc<|Rh<|Om<|Nl<|Uc<|Rg<|Om<|Ua<|PS<|Kd r (SV r)<|RetP.ok (a:=(((valM P):Nat):Int)) (q:=Q) (GH d j h) ⟨?_,?_⟩ E.below
 ·rfl
 exact x.blk
theorem tK{g:Nat}{s:List UInt8}{p o:Nat}(hB:Blk w g (rc s p o) 88)(hXg:X g){c:Nat}(hp:p≤s.length)(hs:s.length≤65536)(hc:c=41→1≤o)(ho:o≤64)(hn:¬c=40):Calls Tryz.prog 230 #[(P10 g 0),(.int .u8 c)] w (RetP w g (Vf s c p) fun a q v w'=>RS Zg X w' v a∧Blk w' g (rc s q (opA c o)) 88):=by
 have C:=Rd g hX hXg;have P:=SW hB
 have:maxLen=9223372036854775807:=rfl
 refine Cgo Tryz.func230 r r rfl<|Rg<|Ua<|Rg<|Ub<|QJ (cs':=fun a q=>rc s q o) C P wS r r (mJ C.bd (s:=s) (p:=p) (o:=o) P.blk (C.yx _ P.mem) hp hs) ?_ ?_
 ·intro _ _ _ i b3;exact Ze (Cl i) b3
 intro _ _ Q q8 i R _ A S;subst S;refine Ol (Sj (T:=Zg) (css:=[[(.int .i64 Q)]]) (l:=[Q]) R sl23 io3 δ δ r κ ⟨⟨rfl,(by have:=Vd i;omega),(by have:=Vd i;omega)⟩,trivial⟩ ?_);intro U _ _ V Y _ Z;have A:=A.spn Y;refine Oa (Nl<|PT<|W.block<|P7 (fun μ f v=>∃(x y:Nat→Prop) (q:Nat) (k:Nat) (l:List Int) (la:Option Addr) (lc:Nat),Cx X ⟨w,(· =g)⟩ x y v∧f 0=(P10 g 0)∧f 1=(.int .u8 c)∧f 5=(S12 la l lc)∧OS Zg 3 ⟨w,(· =g)⟩ x y v (S12 la l lc) l∧Own ⟨w,(· =g)⟩ y v g [(str s),(.int .i64 q),(.int .i64 o)] 88∧q≤s.length∧s.length<q+k∧l.length≤q+1∧Vf s c p=Vj s c k l q∧μ=(s.length+1-q)) _ ⟨_,_,q8,(s.length+1),[Q],(some ⟨U,0,none⟩),1,V,rfl,rfl,rfl,Z,A,(Rr.le (Z9 hp) i),ω,Z',(H2 i),rfl⟩ ?_);rintro _ _ _ ⟨_,_,q,k,l,la,lc,B,G,H,I,hL,D,hq,hk,_,hM,_⟩;obtain⟨_,rfl⟩:=rebK (aC G<|aC H<|aC I aN);clear G H I;refine Rh (Ub<|PZ rfl<|Ol<|PJ Yn rfl<|Ol<|QF<|QT B D cb99 r r (Xz B.bd (s:=s) (p:=q) (o:=o) D.blk (B.yx _ D.mem) (c:=44) hq hs) ?_);intro _ _ e aa j ab;have hL:=hL.sp aa e<|fun _ h=>h
 refine⟨_,ab,fun b=>?_,fun b=>?_⟩
 ·refine Nl<|Ud<|PR<|W.block<|PN<|Om<|Ub<|QJ (cs':=fun a q=>rc s q o) e j wS r r (mJ e.bd (s:=s) (p:=(fpM s q 44)) (o:=o) j.blk (e.yx _ j.mem) (Y2 hq) hs) ?_ ?_
  ·intro _ _ _ d ac;exact Ze (IG hM hk hq b d) ac
  intro _ _ E ad d J ae m af;subst af;refine Ol (P5 (T:=Zg) (css:=[[(.int .i64 E)]]) (l:=[E]) J sl23 io3 δ δ r κ ⟨⟨rfl,(by have:=Vd d;omega),(by have:=Vd d;omega)⟩,trivial⟩ ?_);intro _ _ K L ag;have hL:=(hL.sp ae J<|fun _ h=>h).sp L K (fun _ h=>h)
  have m:=m.spn L;refine Ol (P8 (T:=Zg) K sl23 io3 r r hL (Z5 ag) ι ι r ?_);intro _ _ _ ah ai _ M;replace m:=m.ap ai m.mem;obtain⟨aj,ak,rfl,_,_⟩:=M.len;refine Ua<|⟨_,(by have:=(mh b hq d);omega),_,_,ad,(k-1),(l++[E]),aj,ak,ah,rfl,rfl,rfl,M,m,(mh b hq d).2,(by have:=(mh b hq d);omega),(by have:=(mh b hq d);rw[Tc,Tf];omega),(AH hM hk hq b d),rfl⟩
 refine Nl<|Ue<|QB<|Rg<|Om<|Ub<|QJ (cs':=fun a q=>rc s q<|opA c o) e j xp r r (vp e.bd (s:=s) (p:=(fpM s q 44)) (o:=o) j.blk (e.yx _ j.mem) (c:=c) (Y2 hq) hs hc ho) ?_ ?_
 ·intro _ _ _ z am;exact Ze (uf hM hk hq b hn z) am
 intro _ _ _ an z F ao N _;have hL:=hL.sp ao F<|fun _ h=>h
 refine Nl<|Rg<|Om<|Ua<|PS<|Kd r (SV r)<|RetP.ok (a:=l) (q:=an) (uf hM hk hq b hn z) ⟨?_,?_⟩ F.below
 ·exact SX (hL.toRS F hX N.sees)<|rfl
 have hh:=N.blk;rw[show(opA c o)=(opA c o) from rfl] at hh;exact hh
end
section
variable {X:Nat→Prop} {w:World} (hX:XB X w) {g:Nat} {s:List UInt8} {p o:Nat}
include hX
theorem c_tk{c:Nat}(hB:Blk w g (rc s p o) 88)(hXg:X g)(hp:p≤s.length)(hs:s.length≤65536)(ho:o≤64)(a:¬c=40)(b:¬c=41):
  Calls Tryz.prog 193 #[(P10 g 0),(.int .u8 c)] w (RetP w g (tkM s p c) fun _ q v w'=>v= .tuple #[]∧Blk w' g (rc s q o) 88):=by
 have h:=vp hX hB hXg hp hs (c:=c) (fun e=>absurd e b) ho;rw[←EI a b,show vh s o p c=tkM s p c from if_neg a] at h;exact h
theorem Az(hB:Blk w g (rc s p o) 88)(hXg:X g)(hp:p≤s.length)(hs:s.length≤65536)(ho:o≤64):
  Calls Tryz.prog 193 #[(P10 g 0),(.int .u8 40)] w (RetP w g (opnM s o p) fun _ q v w'=>v= .tuple #[]∧Blk w' g (rc s q<|o+1) 88):=
 vp hX hB hXg hp hs (c:=40) (fun e=>by cases e) ho
theorem Cd(hB:Blk w g (rc s p (o+1)) 88)(hXg:X g)(hp:p≤s.length)(hs:s.length≤65536)(ho:o+1≤64):
  Calls Tryz.prog 193 #[(P10 g 0),(.int .u8 41)] w (RetP w g (tkM s p 41) fun _ q v w'=>v= .tuple #[]∧Blk w' g (rc s q o) 88):=
 vp hX hB hXg hp hs (c:=41) (fun _=>VF 1 o) ho
theorem FW(hB:Blk w g (rc s p (o+1)) 88)(hXg:X g)(hp:p≤s.length)(hs:s.length≤65536)(ho:o+1≤64):
  Calls Tryz.prog 230 #[(P10 g 0),(.int .u8 41)] w (RetP w g (Vf s 41 p) fun a q v w'=>RS Zg X w' v a∧Blk w' g (rc s q o) 88):=
 tK hX hB hXg hp hs (c:=41) (fun _=>VF 1 o) ho d
theorem FL(hB:Blk w g (rc s p o) 88)(hXg:X g)(hp:p≤s.length)(hs:s.length≤65536)(ho:o≤64):
  Calls Tryz.prog 230 #[(P10 g 0),(.int .u8 93)] w (RetP w g (Vf s 93 p) fun a q v w'=>RS Zg X w' v a∧Blk w' g (rc s q o) 88):=
 tK hX hB hXg hp hs (c:=93) (fun e=>by cases e) ho d
end
def SumC(s:List UInt8)(S:Nat→Nat→Rr GExpr)(lo:Nat):Prop:=∀ {X:Nat→Prop} {w:World} (hX:XB X w) {g p o:Nat} (hB:Blk w g (rc s p o) 88) (hXg:X g) (hp:p≤s.length) (hs:s.length≤65536) (ho:o≤64) (hlo:lo<p),
 Calls Tryz.prog 67 #[(P10 g 0)] w<|RetP w g (S o p) fun a q v w'=>RV Jc X w' v a∧Blk w' g (rc s q o) 88
theorem tu{X:Nat→Prop}{w:World}(hX:XB X w){g:Nat}{s:List UInt8}{p o:Nat}(hB:Blk w g (rc s p o) 88)(hXg:X g){H:List UInt8}{q0:Nat}{S:Nat→Nat→Rr GExpr}{lo:Nat}(hp:p≤s.length)(hs:s.length≤65536)(ho:o≤64)(hS:∀o p,p≤s.length→(S o p).fw s p)(ih:SumC s S lo)(hlo:lo≤p)(hwl:H.length≤65536):Calls Tryz.prog 197 #[(P10 g 0),(str H),(.int .i64 q0)] w (RetP w g (Zx s S H q0 o p) fun a q v w'=>RV Jc X w' v a∧Blk w' g (rc s q o) 88):=by
 have C:=Rd g hX hXg;have o0:=SW hB
 have:maxLen=9223372036854775807:=rfl
 refine Cgo Tryz.func197 ϱ ϱ ϱ (Rg<|Ol<|PU C io31 ϱ ?_);intro g1 _ _ _ gw C6 s7 o8;have M:=gw _ o0.blk.lt;have o0:=o0.spn s7;refine Nl (Rg<|Ol<|PX (cs:=zX) ϱ κ<|Ol<|PU C6 io31 ϱ ?_);intro L _ _ _ cJ gx dS gy;have i:=cJ _ o0.blk.lt;have G:=cJ _ o8.blk.lt;refine On (Us (cs':=zX) gx gy io31 ?_);intro _ bx dT cK;have o0:=(o0.spn dS).spo dT i;have o8:=(o8.spn dS).spo dT G;refine Nl<|Rh<|Om<|Nl<|W.block<|Rg<|Ol<|QK ϱ ϱ (fun aW=>?_)<|fun aW=>?_
 ·refine Oa (Nl<|Uf<|Ol<|PX (cs:=[(.int .i64 6),n11,b13,n11,b13,n11,(str []),n11]) ϱ κ<|On<|Us (cs':=[(.int .i64 6),n11,b13,n11,b13,n11,(str []),n11]) bx o8 io31 ?_);intro _ dU gz gA;have o0:=o0.spo gz M;refine Nl<|PS<|Kd ϱ (resV.c gA ϱ ag31 ϱ)<|RetP.ok (a:=(.mk 6 [] YT [] [])) (q:=p) (B6 aW) ⟨?_,?_⟩ dU.below
  ·exact SS (a:=(.mk 6 [] YT [] [])) ((Zb ω ω ξ RS.nil RS.nil RS.nil RS.nil).tr dU.wb) ϱ
  exact o0.blk
 refine Ua<|Ug<|Ol<|QK ϱ ϱ (fun aX=>?_)<|fun aX=>?_
 ·refine Oa (Nl<|Uf<|Ol<|PX (cs:=[(.int .i64 7),n11,b13,n11,b13,n11,(str []),n11]) ϱ κ<|On<|Us (cs':=[(.int .i64 7),n11,b13,n11,b13,n11,(str []),n11]) bx o8 io31 ?_);intro _ dV gB gC;have o0:=o0.spo gB M;refine Nl<|PS<|Kd ϱ (resV.c gC ϱ ag31 ϱ)<|RetP.ok (a:=(.mk 7 [] YT [] [])) (q:=p) (rs_j aX) ⟨?_,?_⟩ dV.below
  ·exact SS (a:=(.mk 7 [] YT [] [])) ((Zb ω ω ξ RS.nil RS.nil RS.nil RS.nil).tr dV.wb) ϱ
  exact o0.blk
 refine Ua<|Ue<|PT<|Rm (fun f v=>∃(x y:Nat→Prop) (cz:Bool),Cx X ⟨w,(· =g)⟩ x y v∧f 0=(P10 g 0)∧f 1=(str H)∧f 2=(.int .i64 q0)∧f 6=(P10 g1 0)∧f 7=(P10 L 0)∧f 9=(str H)∧f 16=(.bool cz)∧Own ⟨w,(· =g)⟩ y v g [(str s),(.int .i64 p),(.int .i64 o)] 88∧Own ⟨w,(· =g)⟩ y v g1 zX 31∧Own ⟨w,(· =g)⟩ y v L zX 31∧(cz=true→H=wG∨H=wNew)∧(cz=false→tj H)) ?_ ?_
 ·refine Rg<|Ol<|QK ϱ ϱ (fun bB=>?_)<|fun bB=>?_
  ·refine Ua<|Ud<|PR<|⟨_,_,true,bx,rfl,rfl,rfl,rfl,rfl,rfl,rfl,o0,o8,cK,(fun _=> .inl bB),(fun h=>by cases h)⟩
  refine Ua<|Ue<|PN<|Ol<|QK ϱ ϱ (fun bC=>?_)<|fun bC=>?_
  ·refine Ua<|⟨_,_,true,bx,rfl,rfl,rfl,rfl,rfl,rfl,rfl,o0,o8,cK,(fun _=> .inr bC),(fun h=>by cases h)⟩
  refine Ua<|⟨_,_,false,bx,rfl,rfl,rfl,rfl,rfl,rfl,rfl,o0,o8,cK,(fun h=>by cases h),(fun _=>⟨bB,bC⟩)⟩
 rintro _ _ ⟨_,_,cz,cE,dW,dX,dY,dZ,d0,d1,d2,aq,ar,cF,gD,d3⟩;obtain⟨_,rfl⟩:=rebK (aC dW<|aC dX<|aC dY<|aC dZ<|aC d0<|aC d1<|aC d2 aN);clear dW dX dY dZ d0 d1 d2;refine R7 ϱ (fun aY=>?_)<|fun aY=>?_
 ·refine Rg (Ol<|PJ Jw rfl<|On<|QM (cs':=[(.int .i64 3),n11,b13,n11,b13,n11,(str []),n11]) cE cF io3 ϱ ϱ ϱ ϱ ϱ ϱ ?_);intro _ d4 d5 d6;have aq:=aq.spo d5 i;have ar:=ar.spo d5 G;refine Nl<|PT<|Rm (fun f v=>∃(x y:Nat→Prop) (op:Int),Cx X ⟨w,(· =g)⟩ x y v∧f 0=(P10 g 0)∧f 6=(P10 g1 0)∧f 7=(P10 L 0)∧Own ⟨w,(· =g)⟩ y v g [(str s),(.int .i64 p),(.int .i64 o)] 88∧Own ⟨w,(· =g)⟩ y v g1 zX 31∧Own ⟨w,(· =g)⟩ y v L [(.int .i64 op),n11,b13,n11,b13,n11,(str []),n11] 31∧Zx s S H q0 o p=V5 s op o p∧0≤op∧op≤100) ?_ ?_
  ·refine Rg<|Ub<|QK ϱ ϱ (fun bD=>?_)<|fun bD=>?_
   ·refine Nl (Uk<|Ol<|PJ Jw rfl<|On<|QM (cs':=[(.int .i64 9),n11,b13,n11,b13,n11,(str []),n11]) d4 d6 io3 ϱ ϱ ϱ ϱ ϱ ϱ ?_);intro _ gE d7 gF;have aq:=aq.spo d7 i;have ar:=ar.spo d7 G;refine Nl<|⟨_,_,9,gE,rfl,rfl,rfl,aq,ar,gF,(AM<|.inr ⟨bD,rfl⟩),ω⟩
   refine Nl<|Uc<|⟨_,_,3,d4,rfl,rfl,rfl,aq,ar,d6,(AM<|.inl ⟨(gD aY).resolve_right bD,rfl⟩),ω⟩
  rintro _ _ ⟨_,_,op,cL,d8,d9,eb,cM,bz,cN,hM,hop⟩;obtain⟨_,rfl⟩:=rebK (aC d8<|aC d9<|aC eb aN);clear d8 d9 eb;refine Rg<|Ub<|QJ (cs':=fun a q=>rc s q<|o+1) cL cM xp ϱ ϱ (Az cL.bd (s:=s) (p:=p) (o:=o) cM.blk (cL.yx _ cM.mem) hp hs ho) ?_ ?_
  ·intro _ _ _ az gG;exact Ze (ls1 hM az) gG
  intro _ _ _ gH az cO ed cP _;have bz:=bz.spo ed (TA M);refine Nl<|Rg<|Ub<|QJ (cs':=fun a q=>rc s q o) cO cP KG ϱ ϱ (FW cO.bd (s:=s) (p:=gH) (o:=o) cP.blk (cO.yx _ cP.mem) (Rr.le (Zp hp) az) hs<|tk_o az ho) ?_ ?_
  ·intro _ _ _ bE gI;exact Ze (ls2 hM az bE) gI
  intro _ _ bA gJ bE gK ee cQ cG;have cN:=(cN.spo ed<|TA i).spo ee (TA i);obtain⟨bF,bG,rfl,_,_⟩:=cG.len;refine Ol (PJ Zi rfl<|On<|Us (cs':=[(.int .i64 op),(S12 bF bA bG),b13,n11,b13,n11,(str []),n11]) gK cN io23 ?_);intro _ eh bH ei;have bz:=(bz.spo ee<|TA M).spo bH G;refine Nl (Rg<|Ol<|Uo (vs:=[(.int .i64 op),(S12 bF bA bG),b13,n11,b13,n11,(str []),n11]) ei ag31<|On<|Us (cs':=[(.int .i64 op),(S12 bF bA bG),b13,n11,b13,n11,(str []),n11]) eh bz io31 ?_);intro _ cR cS ej;have cG:=(cG.sp bH).sp cS;have cQ:=(cQ.spo bH i).spo cS M;refine Nl<|PS<|Kd ϱ (resV.c ej ϱ ag31 ϱ)<|RetP.ok (a:=(.mk op bA YT [] [])) (q:=gJ) (ls3 hM az bE) ⟨?_,?_⟩ cR.below
  ·exact SS (a:=(.mk op bA YT [] [])) ((Zb ω ω ξ cG RS.nil RS.nil RS.nil).tr cR.wb) ϱ
  exact cQ.blk
 refine PT<|Rm (fun f v=>∃(x y:Nat→Prop) (cH:Bool),Cx X ⟨w,(· =g)⟩ x y v∧f 0=(P10 g 0)∧f 1=(str H)∧f 2=(.int .i64 q0)∧f 6=(P10 g1 0)∧f 7=(P10 L 0)∧f 9=(str H)∧f 29=(.bool cH)∧Own ⟨w,(· =g)⟩ y v g [(str s),(.int .i64 p),(.int .i64 o)] 88∧Own ⟨w,(· =g)⟩ y v g1 zX 31∧Own ⟨w,(· =g)⟩ y v L zX 31∧(cH=true→H=wEta∨H=Bh)∧(cH=false→CV H)) ?_ ?_
 ·refine Rg<|Ol<|QK ϱ ϱ (fun aZ=>?_)<|fun aZ=>?_
  ·refine Ua<|Ud<|PR<|⟨_,_,true,cE,rfl,rfl,rfl,rfl,rfl,rfl,rfl,aq,ar,cF,(fun _=> .inl aZ),(fun h=>by cases h)⟩
  refine Ua<|Ue<|PN<|Ol<|QK ϱ ϱ (fun a0=>?_)<|fun a0=>?_
  ·refine Ua<|⟨_,_,true,cE,rfl,rfl,rfl,rfl,rfl,rfl,rfl,aq,ar,cF,(fun _=> .inr a0),(fun h=>by cases h)⟩
  refine Ua<|⟨_,_,false,cE,rfl,rfl,rfl,rfl,rfl,rfl,rfl,aq,ar,cF,(fun h=>by cases h),(fun _=>⟨aZ,a0⟩)⟩
 rintro _ _ ⟨_,_,cH,ad,cT,cU,cV,cW,cX,cY,cZ,J,K,ae,gL,ef⟩;obtain⟨_,rfl⟩:=rebK (aC cT<|aC cU<|aC cV<|aC cW<|aC cX<|aC cY<|aC cZ aN);clear cT cU cV cW cX cY cZ;refine R7 ϱ (fun aG=>?_)<|fun aG=>?_
 ·refine Rg (Ol<|PJ Jw rfl<|On<|QM (cs':=[(.int .i64 4),n11,b13,n11,b13,n11,(str []),n11]) ad ae io3 ϱ ϱ ϱ ϱ ϱ ϱ ?_);intro _ c0 c1 c2;have J:=J.spo c1 i;have K:=K.spo c1 G;refine Nl<|PT<|Rm (fun f v=>∃(x y:Nat→Prop) (op:Int),Cx X ⟨w,(· =g)⟩ x y v∧f 0=(P10 g 0)∧f 6=(P10 g1 0)∧f 7=(P10 L 0)∧Own ⟨w,(· =g)⟩ y v g [(str s),(.int .i64 p),(.int .i64 o)] 88∧Own ⟨w,(· =g)⟩ y v g1 zX 31∧Own ⟨w,(· =g)⟩ y v L [(.int .i64 op),n11,b13,n11,b13,n11,(str []),n11] 31∧Zx s S H q0 o p=twoM s op o p∧0≤op∧op≤100) ?_ ?_
  ·refine Rg<|Ub<|QK ϱ ϱ (fun a3=>?_)<|fun a3=>?_
   ·refine Nl (Uk<|Ol<|PJ Jw rfl<|On<|QM (cs':=[(.int .i64 5),n11,b13,n11,b13,n11,(str []),n11]) c0 c2 io3 ϱ ϱ ϱ ϱ ϱ ϱ ?_);intro _ ek c3 el;have J:=J.spo c3 i;have K:=K.spo c3 G;refine Nl<|⟨_,_,5,ek,rfl,rfl,rfl,J,K,el,(Ek<|.inr ⟨a3,rfl⟩),ω⟩
   refine Nl<|Uc<|⟨_,_,4,c0,rfl,rfl,rfl,J,K,c2,(Ek<|.inl ⟨(gL aG).resolve_right a3,rfl⟩),ω⟩
  rintro _ _ ⟨_,_,op,bI,c4,c5,c6,bJ,N,aI,hM,hop⟩;obtain⟨_,rfl⟩:=rebK (aC c4<|aC c5<|aC c6 aN);clear c4 c5 c6;refine Rg<|Ub<|QJ (cs':=fun a q=>rc s q<|o+1) bI bJ xp ϱ ϱ (Az bI.bd (s:=s) (p:=p) (o:=o) bJ.blk (bI.yx _ bJ.mem) hp hs ho) ?_ ?_
  ·intro _ _ _ B em;exact Ze (tw1 hM B) em
  intro _ _ _ en B bK c7 bL _;have N:=N.spo c7 (TA M);have aI:=aI.spo c7 (TA i);refine Nl<|Rg<|Ub<|QJ (cs':=fun a q=>rc s q<|o+1) bK bL wS ϱ ϱ (mJ bK.bd (s:=s) (p:=en) (o:=o+1) bL.blk (bK.yx _ bL.mem) (Rr.le (Zp hp) B) hs) ?_ ?_
  ·intro _ _ _ E eo;exact Ze (tw2 hM B E) eo
  intro _ _ af ep E eq c8 aJ er;subst er;refine Ol (P5 (T:=Zg) (css:=[[(.int .i64 af)]]) (l:=[af]) eq sl23 io3 δ δ ϱ κ ⟨⟨rfl,(by have:=Vd E;omega),(by have:=Vd E;omega)⟩,trivial⟩ ?_);intro c9 _ es bM aK;have N:=(N.spo c8<|TA M).spn bM;have aI:=(aI.spo c8<|TA i).spn bM;refine Ol (PJ Zi rfl<|On<|Us (cs':=[(.int .i64 op),(.slice (some ⟨c9,0,none⟩) 1 1),b13,n11,b13,n11,(str []),n11]) es aI io23 ?_);intro _ bN bO U;have aJ:=(aJ.spn bM).spo bO i;refine Nl<|Rg<|Ub<|QJ (cs':=fun a q=>rc s q o) bN aJ xp ϱ ϱ (Cd bN.bd (s:=s) (p:=ep) (o:=o) aJ.blk (bN.yx _ aJ.mem) (Rr.le (Z9<|Rr.le (Zp hp) B) E) hs<|tk_o B ho) ?_ ?_
  ·intro _ _ _ P et;exact Ze (tw3 hM B E P) et
  intro _ _ _ eu P bP bQ bR _;have aK:=(aK.sp bO).sp bQ;have N:=(N.spo bO G).spo bQ (TA M);have U:=U.spo bQ (TA i);refine Nl<|Rg<|Ub<|QJ (cs':=fun a q=>rc s q o) bP bR xp ϱ ϱ (c_tk bP.bd (s:=s) (p:=eu) (o:=o) bR.blk (bP.yx _ bR.mem) (c:=91) (Rr.le (Kh<|Rr.le (Z9<|Rr.le (Zp hp) B) E) P) hs ho δ δ) ?_ ?_
  ·intro _ _ _ au ev;exact Ze (tw4 hM B E P au) ev
  intro _ _ _ da au ew bS ex _;refine Nl<|PT<|RK mixed 4 3 [[],[0],[],[2]] ew ex [fx<|.pointer (some ⟨L,1,none⟩),fx<|.slice (some ⟨c9,0,none⟩) 1 1,fx<|.pointer (some ⟨g,0,none⟩),fun(z:Gh) (v:Value) (w':World)=>∃a q,(Vf s 93 da)= .ok a q∧(RS Zg z.1 w' v a)∧Own ⟨w,(· =g)⟩ z.2 w' g (rc s q o) 88] κ ⟨sx,sx,sx,(fun _ _ _ _ _ ⟨a,q,e,h,o⟩ r=>⟨a,q,e,h.tr r.sp.tx,o.spn r.sp⟩),trivial⟩ fun ey a4 _ dc ag=>?_
  have ah:=dc.cx;have bT:=dc.sp;have aK:=(aK.sp bS).sp bT;have N:=(N.spo bS<|TA M).spo bT (TA M);have U:=(U.spo bS<|TA i).spo bT (TA i);have ag:Keep [46,47,48,49] _ ey:=ag;refine⟨⟨fun _ _=>?_,fun⟨ez,_⟩ _=>?_,fun _ _=>?_,fun⟨eA,_⟩ av=>?_,trivial⟩,fun⟨eB,eC,eD,eE,_⟩=>?_⟩
  ·exact Sd0 ag fun _=>PJ Zi ϱ ⟨a4,RZ.same ah,rfl⟩
  ·exact Sd1 ag ez fun _=>PO U pl23 ϱ ϱ ⟨a4,RZ.same ah,rfl⟩
  ·exact Sd0 ag fun _=>PP ⟨a4,RZ.same ah,rfl⟩
  ·replace av:=av ϱ;refine Sd1 ag eA fun _=>QJ (cs':=fun a q=>rc s q o) ah av KG ϱ ϱ (FL ah.bd (s:=s) (p:=da) (o:=o) av.blk (ah.yx _ av.mem) (Rr.le (Kh<|Rr.le (Kh<|Rr.le (Z9<|Rr.le (Zp hp) B) E) P) au) hs ho) ?_ ?_
   ·intro _ _ dd a5 eF _;exact Ze (tw5 hM B E P au a5) eF
   intro _ _ eG dd a5 eH eI eJ eK;exact⟨a4,RT.step eH eI,eG,dd,a5,eK,eJ⟩
  obtain⟨aL,eL,a6,bU,aM⟩:=eE;obtain⟨_,_,eM,bU⟩:=RS.opn bU;obtain⟨_,rfl⟩:=mixK ag (aC eB<|aC eC<|aC eD<|aC eM aN);refine Ol (Ri (T:=Zg) ah sl23 io3 ϱ ϱ aK (Z5 bU) (by have:=tF a6;simp only[Td,Te];omega) (by have:=tF a6;simp only[Td,Te];omega) ϱ ?_);intro _ _ eN bV a7;have U:=U.spn bV;have aM:=aM.spn bV;obtain⟨bW,bX,rfl,_,_⟩:=a7.len;refine Ol (PJ Zi rfl<|On<|Us (cs':=[(.int .i64 op),(.slice bW ([af]++aL).length bX),b13,n11,b13,n11,(str []),n11]) eN U io23 ?_);intro _ eO bY eP;have N:=(N.spn bV).spo bY G;refine Nl (Rg<|Ol<|Uo (vs:=[(.int .i64 op),(.slice bW ([af]++aL).length bX),b13,n11,b13,n11,(str []),n11]) eP ag31<|On<|Us (cs':=[(.int .i64 op),(.slice bW ([af]++aL).length bX),b13,n11,b13,n11,(str []),n11]) eO N io31 ?_);intro _ de df eQ;have a7:=(a7.sp bY).sp df;have aM:=(aM.spo bY i).spo df M;refine Nl<|PS<|Kd ϱ (resV.c eQ ϱ ag31 ϱ)<|RetP.ok (a:=(.mk op ([af]++aL) YT [] [])) (q:=eL) (tw6 hM B E P au a6) ⟨?_,?_⟩ de.below
  ·exact SS (a:=(.mk op ([af]++aL) YT [] [])) ((Zb ω ω ξ a7 RS.nil RS.nil RS.nil).tr de.wb) ϱ
  exact aM.blk
 refine PT<|Rm (fun f v=>∃(x y:Nat→Prop) (cI:Bool),Cx X ⟨w,(· =g)⟩ x y v∧f 0=(P10 g 0)∧f 1=(str H)∧f 2=(.int .i64 q0)∧f 6=(P10 g1 0)∧f 7=(P10 L 0)∧f 9=(str H)∧f 53=(.bool cI)∧Own ⟨w,(· =g)⟩ y v g [(str s),(.int .i64 p),(.int .i64 o)] 88∧Own ⟨w,(· =g)⟩ y v g1 zX 31∧Own ⟨w,(· =g)⟩ y v L zX 31∧(cI=true→∃op,wc H op)∧(cI=false→CS H)) ?_ ?_
 ·refine Rg<|Ol<|QK ϱ ϱ (fun a8=>?_)<|fun a8=>?_
  ·refine Ua<|Ud<|PR<|⟨_,_,true,ad,rfl,rfl,rfl,rfl,rfl,rfl,rfl,J,K,ae,(fun _=>⟨13,(.inl ⟨a8,rfl⟩)⟩),(fun h=>by cases h)⟩
  refine Ua<|Ug<|Ol<|QK ϱ ϱ (fun a9=>?_)<|fun a9=>?_
  ·refine Ua<|Ud<|PR<|⟨_,_,true,ad,rfl,rfl,rfl,rfl,rfl,rfl,rfl,J,K,ae,(fun _=>⟨14,(.inr (.inl ⟨a9,rfl⟩))⟩),(fun h=>by cases h)⟩
  refine Ua<|Ug<|Ol<|QK ϱ ϱ (fun ba=>?_)<|fun ba=>?_
  ·refine Ua<|Ud<|PR<|⟨_,_,true,ad,rfl,rfl,rfl,rfl,rfl,rfl,rfl,J,K,ae,(fun _=>⟨15,(.inr (.inr (.inl ⟨ba,rfl⟩)))⟩),(fun h=>by cases h)⟩
  refine Ua<|Ug<|Ol<|QK ϱ ϱ (fun bb=>?_)<|fun bb=>?_
  ·refine Ua<|Ud<|PR<|⟨_,_,true,ad,rfl,rfl,rfl,rfl,rfl,rfl,rfl,J,K,ae,(fun _=>⟨16,(.inr (.inr (.inr (.inl ⟨bb,rfl⟩))))⟩),(fun h=>by cases h)⟩
  refine Ua<|Ue<|PN<|Ol<|QK ϱ ϱ (fun bc=>?_)<|fun bc=>?_
  ·refine Ua<|⟨_,_,true,ad,rfl,rfl,rfl,rfl,rfl,rfl,rfl,J,K,ae,(fun _=>⟨18,(.inr (.inr (.inr (.inr ⟨bc,rfl⟩))))⟩),(fun h=>by cases h)⟩
  refine Ua<|⟨_,_,false,ad,rfl,rfl,rfl,rfl,rfl,rfl,rfl,J,K,ae,(fun h=>by cases h),(fun _=>⟨a8,a9,ba,bb,bc⟩)⟩
 rintro _ _ ⟨_,_,cI,V,dg,dh,di,dj,dk,dl,dm,k,j,aA,gM,eg⟩;obtain⟨_,rfl⟩:=rebK (aC dg<|aC dh<|aC di<|aC dj<|aC dk<|aC dl<|aC dm aN);clear dg dh di dj dk dl dm;refine R7 ϱ (fun aH=>?_)<|fun aH=>?_
 ·refine PT<|Rm (fun f v=>∃(x y:Nat→Prop) (op:Int),Cx X ⟨w,(· =g)⟩ x y v∧f 0=(P10 g 0)∧f 1=(str H)∧f 6=(P10 g1 0)∧f 7=(P10 L 0)∧Own ⟨w,(· =g)⟩ y v g [(str s),(.int .i64 p),(.int .i64 o)] 88∧Own ⟨w,(· =g)⟩ y v g1 zX 31∧Own ⟨w,(· =g)⟩ y v L [(.int .i64 op),n11,b13,n11,b13,n11,(str []),n11] 31∧wc H op) ?_ ?_
  ·refine Rg<|Om<|Nl<|W.block<|Rg<|Ol<|QK ϱ ϱ (fun be=>?_)<|fun be=>?_
   ·refine Oa (Nl<|Uk<|Ol<|PJ Jw rfl<|On<|QM (cs':=[(.int .i64 13),n11,b13,n11,b13,n11,(str []),n11]) V aA io3 ϱ ϱ ϱ ϱ ϱ ϱ ?_);intro _ eR dn eS;have k:=k.spo dn i;have j:=j.spo dn G;refine Nl<|⟨_,_,13,eR,rfl,rfl,rfl,rfl,k,j,eS,(.inl ⟨be,rfl⟩)⟩
   refine Ua<|Ug<|Ol<|QK ϱ ϱ (fun bf=>?_)<|fun bf=>?_
   ·refine Oa (Nl<|Uk<|Ol<|PJ Jw rfl<|On<|QM (cs':=[(.int .i64 14),n11,b13,n11,b13,n11,(str []),n11]) V aA io3 ϱ ϱ ϱ ϱ ϱ ϱ ?_);intro _ eT dp eU;have k:=k.spo dp i;have j:=j.spo dp G;refine Nl<|⟨_,_,14,eT,rfl,rfl,rfl,rfl,k,j,eU,(.inr (.inl ⟨bf,rfl⟩))⟩
   refine Ua<|Ug<|Ol<|QK ϱ ϱ (fun bg=>?_)<|fun bg=>?_
   ·refine Oa (Nl<|Uk<|Ol<|PJ Jw rfl<|On<|QM (cs':=[(.int .i64 15),n11,b13,n11,b13,n11,(str []),n11]) V aA io3 ϱ ϱ ϱ ϱ ϱ ϱ ?_);intro _ eV dq eW;have k:=k.spo dq i;have j:=j.spo dq G;refine Nl<|⟨_,_,15,eV,rfl,rfl,rfl,rfl,k,j,eW,(.inr (.inr (.inl ⟨bg,rfl⟩)))⟩
   refine Ua<|Ug<|Ol<|QK ϱ ϱ (fun bh=>?_)<|fun bh=>?_
   ·refine Oa (Nl<|Uk<|Ol<|PJ Jw rfl<|On<|QM (cs':=[(.int .i64 16),n11,b13,n11,b13,n11,(str []),n11]) V aA io3 ϱ ϱ ϱ ϱ ϱ ϱ ?_);intro _ eX dr eY;have k:=k.spo dr i;have j:=j.spo dr G;refine Nl<|⟨_,_,16,eX,rfl,rfl,rfl,rfl,k,j,eY,(.inr (.inr (.inr (.inl ⟨bh,rfl⟩))))⟩
   refine Oa (Nl<|Ue<|PN<|Ol<|PJ Jw rfl<|On<|QM (cs':=[(.int .i64 18),n11,b13,n11,b13,n11,(str []),n11]) V aA io3 ϱ ϱ ϱ ϱ ϱ ϱ ?_);intro _ eZ ds e0;have k:=k.spo ds i;have j:=j.spo ds G;refine Nl<|⟨_,_,18,eZ,rfl,rfl,rfl,rfl,k,j,e0,(KO (gM aH) be bf bg bh)⟩
  rintro _ _ ⟨_,_,op,bZ,dt,du,dv,dw,b0,F,aO,hone⟩;obtain⟨_,rfl⟩:=rebK (aC dt<|aC du<|aC dv<|aC dw aN);clear dt du dv dw;have hop:=Hk hone;have hM:=L0 (s:=s) (S:=S) (o:=o) (p:=p) (q0:=q0) hone;refine Rg<|Ub<|QJ (cs':=fun a q=>rc s q<|o+1) bZ b0 xp ϱ ϱ (Az bZ.bd (s:=s) (p:=p) (o:=o) b0.blk (bZ.yx _ b0.mem) hp hs ho) ?_ ?_
  ·intro _ _ _ b e1;exact Ze (on1 hM b) e1
  intro _ _ _ e2 b b1 dx b2 _;have aO:=aO.spo dx (TA i);refine Nl<|Rg<|Ub<|QJ (cs':=fun a q=>rc s q<|o+1) b1 b2 wS ϱ ϱ (mJ b1.bd (s:=s) (p:=e2) (o:=o+1) b2.blk (b1.yx _ b2.mem) (Rr.le (Zp hp) b) hs) ?_ ?_
  ·intro _ _ _ d e3;exact Ze (on2 hM b d) e3
  intro _ _ aB e4 d e5 dy aP e6;have F:=(F.spo dx<|TA M).spo dy (TA M);subst e6;refine Ol (P5 (T:=Zg) (css:=[[(.int .i64 aB)]]) (l:=[aB]) e5 sl23 io3 δ δ ϱ κ ⟨⟨rfl,(by have:=Vd d;omega),(by have:=Vd d;omega)⟩,trivial⟩ ?_);intro ai _ e7 b3 A;have aO:=(aO.spo dy<|TA i).spn b3;refine Ol (PJ Zi rfl<|On<|Us (cs':=[(.int .i64 op),(.slice (some ⟨ai,0,none⟩) 1 1),b13,n11,b13,n11,(str []),n11]) e7 aO io23 ?_);intro _ b4 b5 aQ;have A:=A.sp b5;have aP:=(aP.spn b3).spo b5 i;have F:=(F.spn b3).spo b5 G;refine Nl<|Rg<|Ub<|QJ (cs':=fun a q=>rc s q<|o+1) b4 aP xp ϱ ϱ (c_tk b4.bd (s:=s) (p:=e4) (o:=o+1) aP.blk (b4.yx _ aP.mem) (c:=44) (Rr.le (Z9<|Rr.le (Zp hp) b) d) hs (tk_o b ho) δ δ) ?_ ?_
  ·intro _ _ _ m e8;exact Ze (on3 hM b d m) e8
  intro _ _ _ e9 m b6 b7 b8 _;have aQ:=aQ.spo b7 (TA i);refine Nl<|Rg<|Ub<|QJ (cs':=fun a q=>rc s q<|o+1) b6 b8 cb67 ϱ ϱ (ih b6.bd (p:=e9) (o:=o+1) b8.blk (b6.yx _ b8.mem) (Rr.le (Kh<|Rr.le (Z9<|Rr.le (Zp hp) b) d) m) hs (tk_o b ho) (by have h0:=Rr.ge (Zp hp) b;have h1:=Rr.ge (Z9<|Rr.le (Zp hp) b) d;have h2:=Rr.ge (Kh<|Rr.le (Z9<|Rr.le (Zp hp) b) d) m;omega)) ?_ ?_
  ·intro _ _ _ D fa;exact Ze (on4 hM b d m D) fa
  intro _ _ aD dz D fb b9 aE fc;have A:=(A.sp b7).sp b9;have F:=(F.spo b7<|TA M).spo b9 (TA M);obtain⟨fd,ff,fg,fh,fi,fj,fk,fl,rfl,aj⟩:=SR fc;refine Ol (P5 (T:=Jc) (css:=[(ec aD fd ff fg fh fi fj fk fl)]) (l:=[aD]) fb sl29 io31 δ δ ϱ κ ⟨(Ju aD aj.lo aj.hi aj.name aj.n aj.num aj.den aj.args),trivial⟩ ?_);intro ca _ fm bi aF;have aQ:=(aQ.spo b9<|TA i).spn bi;refine Ol (PJ J8 rfl<|On<|Us (cs':=[(.int .i64 op),(.slice (some ⟨ai,0,none⟩) 1 1),b13,n11,b13,n11,(str []),(.slice (some ⟨ca,0,none⟩) 1 1)]) fm aQ io29 ?_);intro _ bj bk ak;have A:=(A.sp bi).sp bk;have aF:=aF.sp bk;have aE:=(aE.spn bi).spo bk i;have F:=(F.spn bi).spo bk G;refine Nl<|PT<|Rm (fun f v=>∃(x y:Nat→Prop) (r:Nat) (al:List GExpr) (aa:Option Addr) (ac:Nat),Cx X ⟨w,(· =g)⟩ x y v∧f 0=(P10 g 0)∧f 6=(P10 g1 0)∧f 7=(P10 L 0)∧RS Zg x v (.slice (some ⟨ai,0,none⟩) 1 1) [aB]∧RS Jc x v (S12 aa al ac) al∧Own ⟨w,(· =g)⟩ y v g [(str s),(.int .i64 r),(.int .i64 ((o+1:Nat):Int))] 88∧Own ⟨w,(· =g)⟩ y v g1 zX 31∧Own ⟨w,(· =g)⟩ y v L [(.int .i64 op),(.slice (some ⟨ai,0,none⟩) 1 1),b13,n11,b13,n11,(str []),(S12 aa al ac)] 31∧r≤s.length∧(Zx s S H q0 o p=(tkM s r 41).th fun _ q=> .ok (eOp op [aB] al) q)) ?_ ?_
  ·refine Rg<|Ub<|QK ϱ ϱ (fun aw=>?_)<|fun aw=>?_
   ·refine Nl<|Uf<|Ub<|QJ (cs':=fun a q=>rc s q<|o+1) bj aE xp ϱ ϱ (c_tk bj.bd (s:=s) (p:=dz) (o:=o+1) aE.blk (bj.yx _ aE.mem) (c:=44) (Rr.le (hS _ _<|Rr.le (Kh<|Rr.le (Z9<|Rr.le (Zp hp) b) d) m) D) hs (tk_o b ho) δ δ) ?_ ?_
    ·intro _ _ _ Q fn;exact Ze (ob1 (on5 hM b d m D) (decide_eq_true aw) Q) fn
    intro _ _ _ cb Q fo bl fp _;refine Nl<|RK mixed 5 3 [[],[0],[],[2],[3]] fo fp [fx<|.pointer (some ⟨L,7,none⟩),fx<|.slice (some ⟨ca,0,none⟩) 1 1,fx<|.pointer (some ⟨g,0,none⟩),fun(z:Gh) (v:Value) (w':World)=>∃a q,(S (o+1) cb)= .ok a q∧(RV Jc z.1 w' v a)∧Own ⟨w,(· =g)⟩ z.2 w' g (rc s q<|o+1) 88,fun(z:Gh) (v:Value) (w':World)=>∀a q,(S (o+1) cb)= .ok a q→RS Jc z.1 w' v [a]] κ ⟨sx,sx,sx,(fun _ _ _ _ _ ⟨a,q,e,h,o⟩ r=>⟨a,q,e,h.tr r.sp.tx,o.spn r.sp⟩),(fun _ _ _ _ _ h r a q e=>(h a q e).tr r.sp.tx),trivial⟩ fun fq aR _ dA Y=>?_
    have Z:=dA.cx;have bm:=dA.sp;have A:=(A.sp bl).sp bm;have aF:=(aF.sp bl).sp bm;have F:=(F.spo bl<|TA M).spo bm (TA M);have ak:=(ak.spo bl<|TA i).spo bm (TA i);have Y:Keep [89,90,91,92,93] _ fq:=Y;refine⟨⟨fun _ _=>?_,fun⟨ft,_⟩ _=>?_,fun _ _=>?_,fun⟨fu,_⟩ ax=>?_,fun⟨fv,_⟩ _=>?_,trivial⟩,fun⟨fy,fz,fA,fB,fC,_⟩=>?_⟩
    ·exact Sd0 Y fun _=>PJ J8 ϱ ⟨aR,RZ.same Z,rfl⟩
    ·exact Sd1 Y ft fun _=>PO ak pl29 ϱ ϱ ⟨aR,RZ.same Z,rfl⟩
    ·exact Sd0 Y fun _=>PP ⟨aR,RZ.same Z,rfl⟩
    ·replace ax:=ax ϱ;refine Sd1 Y fu fun _=>QJ (cs':=fun a q=>rc s q<|o+1) Z ax cb67 ϱ ϱ (ih Z.bd (p:=cb) (o:=o+1) ax.blk (Z.yx _ ax.mem) (Rr.le (Kh<|Rr.le (hS _ _<|Rr.le (Kh<|Rr.le (Z9<|Rr.le (Zp hp) b) d) m) D) Q) hs (tk_o b ho) (by have h0:=Rr.ge (Zp hp) b;have h1:=Rr.ge (Z9<|Rr.le (Zp hp) b) d;have h2:=Rr.ge (Kh<|Rr.le (Z9<|Rr.le (Zp hp) b) d) m;have h3:=Rr.ge (hS _ _<|Rr.le (Kh<|Rr.le (Z9<|Rr.le (Zp hp) b) d) m) D;have h4:=Rr.ge (Kh<|Rr.le (hS _ _<|Rr.le (Kh<|Rr.le (Z9<|Rr.le (Zp hp) b) d) m) D) Q;omega)) ?_ ?_
     ·intro _ _ dB bn fD _;exact Ze (ob2 (on5 hM b d m D) (decide_eq_true aw) Q bn) fD
     intro _ _ fF dB bn fG fH fI fJ;exact⟨aR,RT.step fG fH,fF,dB,bn,fJ,fI⟩
    ·obtain⟨cc,_,dR,fK,_⟩:=fv;obtain⟨fL,fM,fN,fO,fP,fQ,fR,fS,fT,am⟩:=SR fK;refine Sd1 Y fT fun _=>P5 (T:=Jc) (css:=[(ec cc fL fM fN fO fP fQ fR fS)]) (l:=[cc]) Z sl29 io31 δ δ ϱ κ ⟨(Ju cc am.lo am.hi am.name am.n am.num am.den am.args),trivial⟩ ?_;intro _ _ fU fV fW;exact⟨aR,RZ.go fU fV,(fun a q e=>by cases dR.symm.trans e;exact fW)⟩
    obtain⟨cd,dC,bo,fX,ce⟩:=fB;obtain⟨_,_,_,_,_,_,_,_,fY,_⟩:=SR fX;have cf:=fC cd dC bo;obtain⟨_,_,fZ,cf⟩:=RS.opn cf;obtain⟨_,rfl⟩:=mixK Y (aC fy<|aC fz<|aC fA<|aC fY<|aC fZ aN);refine Ol (Ri (T:=Jc) Z sl29 io31 ϱ ϱ aF (Z5 cf) ι ι ϱ ?_);intro _ _ f0 bp bq;have ak:=ak.spn bp;obtain⟨dD,dE,rfl,_,_⟩:=bq.len;refine Ol (PJ J8 rfl<|On<|Us (cs':=[(.int .i64 op),(.slice (some ⟨ai,0,none⟩) 1 1),b13,n11,b13,n11,(str []),(.slice dD ([aD]++[cd]).length dE)]) f0 ak io29 ?_);intro _ f1 br f2;have A:=(A.sp bp).sp br;have bq:=bq.sp br;have F:=(F.spn bp).spo br G;have ce:=(ce.spn bp).spo br i;refine Nl<|⟨_,_,dC,([aD]++[cd]),dD,dE,f1,rfl,rfl,rfl,A,bq,ce,F,f2,(Rr.le (hS _ _<|Rr.le (Kh<|Rr.le (hS _ _<|Rr.le (Kh<|Rr.le (Z9<|Rr.le (Zp hp) b) d) m) D) Q) bo),(ob3 (on5 hM b d m D) (decide_eq_true aw) Q bo)⟩
   refine Nl<|Uc<|⟨_,_,dz,[aD],(some ⟨ca,0,none⟩),1,bj,rfl,rfl,rfl,A,aF,aE,F,ak,(Rr.le (hS _ _<|Rr.le (Kh<|Rr.le (Z9<|Rr.le (Zp hp) b) d) m) D),(ob4 (on5 hM b d m D)<|decide_eq_false aw)⟩
  rintro _ _ ⟨_,_,r,al,aa,ac,cg,dF,dG,dH,A,hA,ch,ci,cj,hr,hZ⟩;obtain⟨_,rfl⟩:=rebK (aC dF<|aC dG<|aC dH aN);clear dF dG dH;refine Rg<|Ub<|QJ (cs':=fun a q=>rc s q o) cg ch xp ϱ ϱ (Cd cg.bd (s:=s) (p:=r) (o:=o) ch.blk (cg.yx _ ch.mem) hr hs<|tk_o b ho) ?_ ?_
  ·intro _ _ _ bs f3;exact Ze (oz1 hZ bs) f3
  intro _ _ _ f4 bs f5 bt ck _;have ci:=ci.spo bt (TA M);have cj:=cj.spo bt (TA i);refine Nl (Rg<|Ol<|Uo (vs:=[(.int .i64 op),(.slice (some ⟨ai,0,none⟩) 1 1),b13,n11,b13,n11,(str []),(S12 aa al ac)]) cj ag31<|On<|Us (cs':=[(.int .i64 op),(.slice (some ⟨ai,0,none⟩) 1 1),b13,n11,b13,n11,(str []),(S12 aa al ac)]) f5 ci io31 ?_);intro _ dI cm f6;have A:=(A.sp bt).sp cm;have hA:=(hA.sp bt).sp cm;have ck:=ck.spo cm M;refine Nl<|PS<|Kd ϱ (resV.c f6 ϱ ag31 ϱ)<|RetP.ok (a:=(.mk op [aB] YT [] al)) (q:=f4) (oz2 hZ bs) ⟨?_,?_⟩ dI.below
  ·exact SS (a:=(.mk op [aB] YT [] al)) ((Zb ω ω ξ A RS.nil RS.nil hA).tr dI.wb) ϱ
  exact ck.blk
 refine Rg<|Ol<|QK ϱ ϱ (fun R=>?_)<|fun R=>?_
 ·refine Oa (Nl<|Uf<|Ol<|PJ Jw rfl<|On<|QM (cs':=[(.int .i64 17),n11,b13,n11,b13,n11,(str []),n11]) V aA io3 ϱ ϱ ϱ ϱ ϱ ϱ ?_);intro _ cn dJ aS;have k:=k.spo dJ i;refine Nl<|Rg<|Ub<|QJ (cs':=fun a q=>rc s q<|o+1) cn k xp ϱ ϱ (Az cn.bd (s:=s) (p:=p) (o:=o) k.blk (cn.yx _ k.mem) hp hs ho) ?_ ?_
  ·intro _ _ _ I f7;exact Ze (sr1 (uo R) I) f7
  intro _ _ _ f8 I co dK cp _;have j:=(j.spo dJ G).spo dK (TA M);have aS:=aS.spo dK (TA i);refine Nl<|Rg<|Ub<|QJ (cs':=fun a q=>rc s q<|o+1) co cp cb67 ϱ ϱ (ih co.bd (p:=f8) (o:=o+1) cp.blk (co.yx _ cp.mem) (Rr.le (Zp hp) I) hs (tk_o I ho) (by have h0:=Rr.ge (Zp hp) I;omega)) ?_ ?_
  ·intro _ _ _ ay f9;exact Ze (sr2 (uo R) I ay) f9
  intro _ _ aT ga ay gb dL aU gc;obtain⟨gd,gf,gg,gi,gj,gk,gl,gm,rfl,an⟩:=SR gc;refine Ol (P5 (T:=Jc) (css:=[(ec aT gd gf gg gi gj gk gl gm)]) (l:=[aT]) gb sl29 io31 δ δ ϱ κ ⟨(Ju aT an.lo an.hi an.name an.n an.num an.den an.args),trivial⟩ ?_);intro cq _ gn cr aV;have j:=(j.spo dL<|TA M).spn cr;have aS:=(aS.spo dL<|TA i).spn cr;refine Ol (PJ J8 rfl<|On<|Us (cs':=[(.int .i64 17),n11,b13,n11,b13,n11,(str []),(.slice (some ⟨cq,0,none⟩) 1 1)]) gn aS io29 ?_);intro _ ct cu cv;have aV:=aV.sp cu;have aU:=(aU.spn cr).spo cu i;refine Nl<|Rg<|Ub<|QJ (cs':=fun a q=>rc s q o) ct aU xp ϱ ϱ (Cd ct.bd (s:=s) (p:=ga) (o:=o) aU.blk (ct.yx _ aU.mem) (Rr.le (hS _ _<|Rr.le (Zp hp) I) ay) hs<|tk_o I ho) ?_ ?_
  ·intro _ _ _ bu gp;exact Ze (sr3 (uo R) I ay bu) gp
  intro _ _ _ gq bu gr cw cy _;have j:=(j.spo cu G).spo cw (TA M);have cv:=cv.spo cw (TA i);refine Nl (Rg<|Ol<|Uo (vs:=[(.int .i64 17),n11,b13,n11,b13,n11,(str []),(.slice (some ⟨cq,0,none⟩) 1 1)]) cv ag31<|On<|Us (cs':=[(.int .i64 17),n11,b13,n11,b13,n11,(str []),(.slice (some ⟨cq,0,none⟩) 1 1)]) gr j io31 ?_);intro _ dM dN gs;have aV:=(aV.sp cw).sp dN;have cy:=cy.spo dN M;refine Nl<|PS<|Kd ϱ (resV.c gs ϱ ag31 ϱ)<|RetP.ok (a:=(.mk 17 [] YT [] [aT])) (q:=gq) (sr4 (uo R) I ay bu) ⟨?_,?_⟩ dM.below
  ·exact SS (a:=(.mk 17 [] YT [] [aT])) ((Zb ω ω ξ RS.nil RS.nil RS.nil aV).tr dM.wb) ϱ
  exact cy.blk
 refine Oa (Nl<|Uc<|Rh<|Ub<|QF<|PK V cb18 ϱ ϱ (oy V.bd) ?_);intro _ _ dO dP gt;have j:=j.spn dP;refine⟨_,gt,fun bv=>?_,fun bv=>?_⟩
 ·refine Ol (QI rfl<|Nl<|Uc<|Rg<|Ub<|PX (cs:=[(.int .i64 8),n11,b13,n11,b13,n11,(str H),n11]) ϱ κ<|On<|Us (cs':=[(.int .i64 8),n11,b13,n11,b13,n11,(str H),n11]) dO j io31 ?_);intro _ dQ gu gv;have k:=(k.spn dP).spo gu M;refine Nl<|PS<|Kd ϱ (resV.c gv ϱ ag31 ϱ)<|RetP.ok (a:=(.mk 8 [] YT H [])) (q:=p) (Hx aW aX (d3 aY) (ef aG) (eg aH) R bv) ⟨?_,?_⟩ dQ.below
  ·exact SS (a:=(.mk 8 [] YT H [])) ((Zb ω ω (by unfold maxLen;omega) RS.nil RS.nil RS.nil RS.nil).tr dQ.wb) ϱ
  exact k.blk
 exact Ol<|QI rfl<|Nl<|Uk<|Ub<|PX (cs:=[(.int .i64 19),(.int .i64 q0)]) ϱ κ<|Ol<|QP κ<|On<|Rz rfl<|Ze (JJ aW aX (d3 aY) (ef aG) (eg aH) R bv) dO.below
section
variable{X:Nat→Prop}{w:World}(hX:XB X w)
include hX
theorem CC{d:List UInt8}(hd:∀c∈d,digB c=true)(b:1≤d.length):CRt 278 #[(str d),(str [45])] w fun v _=>v=b13:=by
 have C:=PV hX;refine Cgo Tryz.func278 r r r (Rg<|Ua<|Rg<|Ub<|QW un9 rfl<|Ub<|QW un9 rfl<|Ol<|R1 (t:=true) r r (decide_eq_true ι)<|Om ?_);refine OgD<|PP<|OgD<|PP<|OgD<|QW un9 rfl<|OgD<|Sm (j:=1) un9 r r r o<|OgD<|PP<|OgD<|QK r r (fun a=>absurd a<|Le hd)<|fun a=>(OT<|Ua<|PS<|Wq r r C ?_)
 rfl
theorem CL{d:List UInt8}(hd:∀c∈d,digB c=true)(e:1≤d.length):CRt 273 #[(str d),(str [45])] w fun v _=>(∃b a,v= .tuple #[b,a]∧(b=(str d))∧(a=b13)):=by
 have C:=PV hX;refine Cgo Tryz.func273 r r r (Rg<|Oa<|Ua<|Rh<|Om<|Ub<|PK C O5 r r (CC C.bd hd e) ?_);intro a _ g _ h;subst h;refine Ol (QI rfl<|Nl<|Uf<|Om<|Oa<|Ua<|PS<|Xi r r r g ?_);refine⟨_,_,rfl,?_,?_⟩
 ·skip
  rfl
 ·skip
  rfl
theorem JT{d:List UInt8}(hd:∀c∈d,digB c=true)(e:1≤d.length):CRt 265 #[(str d),(str [45])] w fun v _=>(∃b a,v= .tuple #[b,a]∧(b=(str d))∧(a=b13)):=by
 have C:=PV hX;refine Cgo Tryz.func265 r r r (Rg<|Oa<|Ua<|Rg<|Om<|Ub<|PK C PD r r (CL C.bd hd e) ?_);intro a _ g _ h;obtain⟨_,_,rfl,rfl,rfl⟩:=h;refine Ol (St.extract r rfl<|Ol<|St.extract r rfl<|Oa<|Ua<|PS<|Xi r r r g ?_);refine⟨_,_,rfl,?_,?_⟩
 ·skip
  rfl
 ·skip
  rfl
theorem Id{d:List UInt8}{c:Nat}  :CRt 261 #[(str d),(.int .u8 c)] w fun v _=>v=(str (d.dropWhile (zB c))):=by
 have C:=PV hX;refine Cgo Tryz.func261 r r r (Rg<|Ua<|PT<|W.block<|P7 (fun μ f v=>∃(x y:Nat→Prop) (t:List UInt8),Cx X w x y v∧f 1=(.int .u8 c)∧f 0=(str t)∧t.dropWhile (zB c)=d.dropWhile (zB c)∧μ=t.length) _ ⟨_,_,d,C,rfl,rfl,rfl,rfl⟩ ?_);rintro _ _ _ ⟨_,_,t,a,g,h,ht,_⟩;obtain⟨_,rfl⟩:=rebK (aC g<|aC h aN);clear g h;refine Rh<|Ub<|QW un9 rfl<|Ol<|QN r r (fun b=>?_)<|fun b=>?_
 ·refine Om<|OgD<|PP<|OgD<|QO (j:=0) (c:=(t.getD 0 0)) un9 r r r (Je o)<|OgD<|PP<|OgD<|PW r r (fun e=>?_)<|fun e=>?_
  ·refine OT<|Nl<|Ud<|PR<|W.block<|PN<|Ub<|RH (i:=1) un9 r r r o<|Ua<|⟨_,Y',_,_,(t.drop 1),a,rfl,rfl,((FO o o).symm.trans ht),rfl⟩
  exact OT<|Nl<|Ue<|QB<|Rg<|Om<|Ua<|PS<|Wq r r a<|congrArg (str)<|((HB o).symm.trans ht)
 exact Om<|Oz<|Oz<|Oz<|Oz<|OF<|Nl<|Ue<|QB<|Rg<|Om<|Ua<|PS<|Wq r r a<|congrArg (str)<|((JK o).symm.trans ht)
theorem H1{d:List UInt8}  :CRt 247 #[(str d),(str [48])] w fun v _=>v=(str (d.dropWhile (zB 48))):=by
 have C:=PV hX;refine Cgo Tryz.func247 r r rfl<|Rg<|Ua<|Rh<|Ub<|QK r r (fun a=>?_)<|fun a=>?_
 ·exact Om<|Oz<|Oz<|OT<|Nl<|Uf<|Om<|Ua<|PS<|Wq r r C<|congrArg (str)<|(by rw[a];rfl)
 refine Om (OgD<|PP<|OgD<|QK r r (fun b=>absurd b δ)<|fun b=>(OF<|Nl<|Uc<|Rh<|Ub<|QW un9 rfl<|Ol<|QZ (t:=true) r r (decide_eq_true r)<|Om<|OgD<|PP<|OgD<|QO (j:=0) (c:=(48:UInt8)) un9 r r r r ?_));refine OgD (Rn (t:=true) r r (decide_eq_true δ)<|OT<|Nl<|Uf<|Om<|Ub<|QO (j:=0) (c:=(48:UInt8)) un9 r r r rfl<|Ol<|PK C O2 r r (Id C.bd (c:=(48:UInt8).toNat)) ?_);intro _ _ e _ g;subst g;refine Ua<|PS<|Wq r r e ?_
 rfl
theorem uZ{d:List UInt8}(hd:∀c∈d,digB c=true)(h1:1≤d.length)(hl:d.length≤65536)(hz:(d.getD 0 0).toNat=48→d=[48]):CRt 248 #[(str d)] w fun v w'=>(∃v0 v1,v= .tuple #[v0,v1]∧(RV Z0 X w' v0 (ofZ (Jm d:Int)))∧(v1=(.int .i64 0))):=by
 have C:=PV hX
 have:maxLen=9223372036854775807:=rfl
 refine Cgo Tryz.func248 r r r (Rg<|Ol<|PU C io26 r ?_);intro G _ _ _ _ C6 _ H;refine Oa (Nl<|Rg<|Ub<|PK C6 Pt r r (JT C6.bd hd h1) ?_);intro _ _ aL bS bT;have H:=H.spn bS;obtain⟨_,_,rfl,rfl,rfl⟩:=bT;refine Om (Ol<|St.extract r rfl<|Ol<|St.extract r rfl<|Oa<|Ua<|Rh<|Ub<|QK r r (fun R=>absurd R (fun e=>by rw[e] at h1;cases h1))<|fun R=>(Om<|OgD<|PP<|OgD<|QO (j:=0) (c:=(d.getD 0 0)) un9 rfl rfl rfl (Je o) ?_));refine OgD<|PW r r (fun bk=>?_)<|fun bk=>?_
 ·refine OgD (PP<|OgD<|PP<|OgD<|RX r r (fun S=>absurd (hz o) S)<|fun S=>(OgD<|QD (t:=true) rfl<|OF<|Nl<|Uc<|Rg<|Ub<|QW un9 rfl<|Ol<|Ry r r δ (K7 (a:=d.length) (b:=9) o) ?_));refine Ol (St.add r r (Ja (a:=d.length/9) (b:=1) o)<|Ol<|Sh (n:=d.length/9+1) aL sl24 r r r o Js δ ?_);intro bU _ _ bV bW U;refine Oa (Nl<|Rh<|Ub<|Sd bV un9 z7 un5 o r ?_);intro N P _ aM aO A;have U:=U.sp aO aM<|fun _ h=>h
  have H:=(H.spn bW).spn aO;refine Ol (St.len z7 rfl<|Om<|Nl<|W.block<|P7 (fun μ f v=>∃(x y:Nat→Prop) (i:Nat) (p:List Nat) (pn:Nat) (pa:Option Addr) (pc:Nat),Cx X w x y v∧f 2=(P10 G 0)∧f 5=b13∧f 26=b13∧f 36=(S12 (some ⟨N,0,none⟩) d P)∧f 37=(.int .i64 d.length)∧f 38=(.int .i64 i)∧f 6=(.slice pa pn pc)∧RS u8Ty x v (S12 (some ⟨N,0,none⟩) d P) d∧OS Jh 118 w x y v (.slice pa pn pc) p∧Own w y v G [b13,n11] 26∧i≤d.length∧val p=Jm (d.take i)∧Jr p∧p.length=pn∧p.length≤i∧μ=(d.length-i)) _ ⟨_,_,0,[],0,(some ⟨bU,0,none⟩),(d.length/9+1),aM,rfl,rfl,rfl,rfl,rfl,rfl,rfl,A,U,H,(Tv _),rfl,Zh,rfl,(Tv _),rfl⟩ ?_);rintro _ _ _ ⟨_,_,i,p,pn,pa,pc,aP,aQ,aR,aS,aT,aU,aV,aW,A,hP,Q,hi,hv,hsp,hpn,hpi,_⟩;obtain⟨_,rfl⟩:=rebK (aC aQ<|aC aR<|aC aS<|aC aT<|aC aU<|aC aV<|aC aW aN);clear aQ aR aS aT aU aV aW;refine Rg<|Ol<|P2 r r (fun bl=>?_)<|fun bl=>?_
  ·refine Nl (PT<|Ud<|PR<|PT<|W.block<|Rg<|Ol<|P4 (j:=i) (u:=(d.getD i 0)) A z7 io5 r r r (Je o) ?_);intro _ _ bm aX;obtain rfl:bm=_:=aX.rd;refine Ol (P0 pl5 r (aX.cell 0 _ r)<|Ua<|PT<|PT ?_);have hr:=qz (i:=i) o hd;refine PN (Ub<|Rn (t:=false) r r (decide_eq_false o)<|Om<|OgD<|PP<|OgD<|Rw (t:=false) r r (decide_eq_false o)<|OF<|Nl<|Uc<|PT ?_);have hr:=qz (i:=i) o hd;refine PN (Ub<|St.sub r r (xi (a:=(d.getD i 0).toNat) (b:=48) o o)<|Ol<|P6 (z:=((((d.getD i 0).toNat)-48:Nat):Int)) us5 Kq r (Tw _ o)<|Ua<|Rh<|Ub<|St.len sl24 rfl<|Om<|Nl<|W.block ?_);refine P7 (fun μ f v=>∃(x y:Nat→Prop) (k:Nat) (cy:Nat) (m:List Nat),Cx X w x y v∧f 2=(P10 G 0)∧f 5=b13∧f 26=b13∧f 36=(S12 (some ⟨N,0,none⟩) d P)∧f 37=(.int .i64 d.length)∧f 38=(.int .i64 i)∧f 45=(.int .u8 (d.getD i 0).toNat)∧f 46=b13∧f 53=(.int .i64 pn)∧f 54=(.int .i64 k)∧f 9=(.int .u64 cy)∧f 6=(.slice pa pn pc)∧f 52=(.slice pa pn pc)∧RS u8Ty x v (S12 (some ⟨N,0,none⟩) d P) d∧OS Jh 118 w x y v (.slice pa pn pc) m∧Own w y v G [b13,n11] 26∧k≤pn∧m.length=pn∧Jr m∧cy<10∧val m+4294967296^k*cy+9*(4294967296^k*val (m.drop k))=Jm (d.take<|i+1)∧μ=(pn-k)) _ ⟨_,_,0,((d.getD i 0).toNat)-48,p,aP,rfl,rfl,rfl,rfl,rfl,rfl,rfl,rfl,rfl,rfl,rfl,rfl,rfl,A,hP,Q,(Tv _),hpn,hsp,o,(uC (by rw[hv,y9 o])),rfl⟩ ?_;rintro _ _ _ ⟨_,_,k,cy,m,V,aY,aZ,a0,a3,a4,a5,a6,a7,a8,a9,ba,bb,bc,A,hM,B,hk,hml,hsm,hcy,hT,_⟩;obtain⟨_,rfl⟩:=rebK (aC aY<|aC aZ<|aC a0<|aC a3<|aC a4<|aC a5<|aC a6<|aC a7<|aC a8<|aC a9<|aC ba<|aC bb<|aC bc aN);clear aY aZ a0 a3 a4 a5 a6 a7 a8 a9 ba bb bc;refine Rg<|Ol<|P2 r r (fun bn=>?_)<|fun bn=>?_
   ·refine Nl (PT<|Ud<|PR<|PT<|W.block<|Rg<|Ub<|QQ (j:=k) hM sl24 Js r r r o<|Ol<|RR (j:=k) hM Yj r o<|Oa<|Ua<|PT ?_);have hxk:=Jk hsm k;refine PN (Ub<|P6 (z:=(((m.getD k 0):Nat):Int)) Kj Kq r (Tw _ o)<|Ol<|Rq r r (Xj (a:=(m.getD k 0)) (b:=10) o)<|Ub<|St.add r r (Yz (a:=(m.getD k 0)*10) (b:=cy) o)<|Ua<|PN<|Om<|Om ?_);refine Om (Ol<|P6 (z:=(((((m.getD k 0)*10)+cy)%4294967296:Nat):Int)) X3 Vh r (J5 _)<|Ub<|Rl r r δ (Ka (d:=4294967296) _ δ)<|Ol<|QQ (j:=k) hM sl24 Js r r r o<|On<|R3 (j:=k) (u:=(((m.getD k 0)*10)+cy)%4294967296) V hM Js r r o (Tp _ δ) ?_);intro _ bX be bY;have A:=A.tr be.tx;replace B:=B.ap be B.mem;refine Ua<|PN<|Ol<|St.add r r (Ja (a:=k) (b:=1) o)<|Om<|Nl<|⟨_,o,_,_,(k+1),(((m.getD k 0)*10)+cy)/4294967296,(m.set k<|(((m.getD k 0)*10)+cy)%4294967296),bX,rfl,rfl,rfl,rfl,rfl,rfl,rfl,rfl,rfl,rfl,rfl,rfl,rfl,A,bY,B,o,(by rw[UI];exact hml),(qe hsm (Tp _ δ) k),(NI hxk hcy),(AK hT o),rfl⟩
   refine Nl<|PT<|Ue<|QB<|Rg<|Ub<|QN r r (fun bo=>?_)<|fun bo=>?_
   ·refine Nl (Uk<|Om<|Ub<|P6 (z:=((cy%4294967296:Nat):Int)) X3 Vh r (J5 _)<|Ol<|P5 (T:=Jh) (css:=[[(.int .u32 ((cy%4294967296:Nat):Int))]]) (l:=[cy%4294967296]) V sl24 Js δ δ r κ ⟨⟨rfl,(Tp _ δ)⟩,trivial⟩ ?_);intro _ _ bf Y bZ;have hM:=hM.sp Y bf<|fun _ h=>h
    have B:=B.spn Y;refine Ol (P8 (T:=Jh) bf sl24 Js r r hM (Z5 bZ) ι ι r ?_);intro _ _ _ b0 bg _ bh;have A:=(A.sp Y).tr bg.tx;replace B:=B.ap bg B.mem;obtain⟨b1,b2,rfl,_,_⟩:=bh.len;refine Ua<|PN<|Ol<|St.add r r (Ja (a:=i) (b:=1) o)<|Om<|Nl<|⟨_,o,_,_,(i+1),(m++[cy%4294967296]),(m++[cy%4294967296]).length,b1,b2,b0,rfl,rfl,rfl,rfl,rfl,rfl,rfl,A,bh,B,o,(wv hT o hml hk hcy),(Yo hsm<|Yl (Tp _ δ) Zh),rfl,i',rfl⟩
   refine Nl<|Uc<|PN<|Ol<|St.add r r (Ja (a:=i) (b:=1) o)<|Om<|Nl<|⟨_,o,_,_,(i+1),m,pn,pa,pc,V,rfl,rfl,rfl,rfl,rfl,rfl,rfl,A,hM,B,o,(BM hT o hml hk o),hsm,hml,o,rfl⟩
  refine Nl (PT<|Ue<|QB<|Rg<|Om<|Om ?_);obtain⟨_,bi,_,bp⟩:=hP.freeze aP hX;refine Ol (PK bi zm r r (Yr bi.bd bp o) ?_);intro _ _ bq br bs;have Q:=Q.spn br;obtain⟨bt,bu,rfl,I⟩:=RV.int bs;refine On (Us (cs':=(zzC (mkSg false p) bt bu)) bq Q io26 ?_);intro _ Z bv bw;have I:=I.sp bv;refine Oa (Nl<|PS<|Jg r r r bw ag26 Z ?_);refine⟨_,_,rfl,?_,?_⟩
  ·exact SS (a:=(mkSg false p)) ((Jl I).tr Z.wb)<|(Eg hsp hv o)
  ·skip
   rfl
 refine OgD (PP<|Oz<|Oz<|OgD<|QD (t:=false) rfl<|OF<|Nl<|Uc<|Rg<|Ub<|QW un9 rfl<|Ol<|Ry r r δ (K7 (a:=d.length) (b:=9) o)<|Ol<|St.add r r (Ja (a:=d.length/9) (b:=1) o) ?_);refine Ol (Sh (n:=d.length/9+1) aL sl24 r r r o Js δ ?_);intro bx _ _ bz bA J;refine Oa (Nl<|Rh<|Ub<|Sd bz un9 z7 un5 o r ?_);intro D E _ aa ab g;have J:=J.sp ab aa<|fun _ h=>h
 have H:=(H.spn bA).spn ab;refine Ol (St.len z7 rfl<|Om<|Nl<|W.block<|P7 (fun μ f v=>∃(x y:Nat→Prop) (i:Nat) (p:List Nat) (pn:Nat) (pa:Option Addr) (pc:Nat),Cx X w x y v∧f 2=(P10 G 0)∧f 5=b13∧f 36=(S12 (some ⟨D,0,none⟩) d E)∧f 37=(.int .i64 d.length)∧f 38=(.int .i64 i)∧f 6=(.slice pa pn pc)∧RS u8Ty x v (S12 (some ⟨D,0,none⟩) d E) d∧OS Jh 118 w x y v (.slice pa pn pc) p∧Own w y v G [b13,n11] 26∧i≤d.length∧val p=Jm (d.take i)∧Jr p∧p.length=pn∧p.length≤i∧μ=(d.length-i)) _ ⟨_,_,0,[],0,(some ⟨bx,0,none⟩),(d.length/9+1),aa,rfl,rfl,rfl,rfl,rfl,rfl,g,J,H,(Tv _),rfl,Zh,rfl,(Tv _),rfl⟩ ?_);rintro _ _ _ ⟨_,_,i,p,pn,pa,pc,ac,ad,ae,af,ag,ah,ai,g,hP,F,hi,hv,hsp,hpn,hpi,_⟩;obtain⟨_,rfl⟩:=rebK (aC ad<|aC ae<|aC af<|aC ag<|aC ah<|aC ai aN);clear ad ae af ag ah ai;refine Rg<|Ol<|P2 r r (fun aH=>?_)<|fun aH=>?_
 ·refine Nl (PT<|Ud<|PR<|PT<|W.block<|Rg<|Ol<|P4 (j:=i) (u:=(d.getD i 0)) g z7 io5 r r r (Je o) ?_);intro _ _ aI aj;obtain rfl:aI=_:=aj.rd;refine Ol (P0 pl5 r (aj.cell 0 _ r)<|Ua<|PT<|PT ?_);have hr:=qz (i:=i) o hd;refine PN (Ub<|Rn (t:=false) r r (decide_eq_false o)<|Om<|OgD<|PP<|OgD<|Rw (t:=false) r r (decide_eq_false o)<|OF<|Nl<|Uc<|PT ?_);have hr:=qz (i:=i) o hd;refine PN (Ub<|St.sub r r (xi (a:=(d.getD i 0).toNat) (b:=48) o o)<|Ol<|P6 (z:=((((d.getD i 0).toNat)-48:Nat):Int)) us5 Kq r (Tw _ o)<|Ua<|Rh<|Ub<|St.len sl24 rfl<|Om<|Nl<|W.block ?_);refine P7 (fun μ f v=>∃(x y:Nat→Prop) (k:Nat) (cy:Nat) (m:List Nat),Cx X w x y v∧f 2=(P10 G 0)∧f 5=b13∧f 36=(S12 (some ⟨D,0,none⟩) d E)∧f 37=(.int .i64 d.length)∧f 38=(.int .i64 i)∧f 45=(.int .u8 (d.getD i 0).toNat)∧f 46=b13∧f 53=(.int .i64 pn)∧f 54=(.int .i64 k)∧f 9=(.int .u64 cy)∧f 6=(.slice pa pn pc)∧f 52=(.slice pa pn pc)∧RS u8Ty x v (S12 (some ⟨D,0,none⟩) d E) d∧OS Jh 118 w x y v (.slice pa pn pc) m∧Own w y v G [b13,n11] 26∧k≤pn∧m.length=pn∧Jr m∧cy<10∧val m+4294967296^k*cy+9*(4294967296^k*val (m.drop k))=Jm (d.take<|i+1)∧μ=(pn-k)) _ ⟨_,_,0,((d.getD i 0).toNat)-48,p,ac,rfl,rfl,rfl,rfl,rfl,rfl,rfl,rfl,rfl,rfl,rfl,rfl,g,hP,F,(Tv _),hpn,hsp,o,(uC (by rw[hv,y9 o])),rfl⟩ ?_;rintro _ _ _ ⟨_,_,k,cy,m,K,ak,am,an,ao,aq,ar,au,av,aw,ax,ay,az,g,hM,s,hk,hml,hsm,hcy,hT,_⟩;obtain⟨_,rfl⟩:=rebK (aC ak<|aC am<|aC an<|aC ao<|aC aq<|aC ar<|aC au<|aC av<|aC aw<|aC ax<|aC ay<|aC az aN);clear ak am an ao aq ar au av aw ax ay az;refine Rg<|Ol<|P2 r r (fun aJ=>?_)<|fun aJ=>?_
  ·refine Nl (PT<|Ud<|PR<|PT<|W.block<|Rg<|Ub<|QQ (j:=k) hM sl24 Js r r r o<|Ol<|RR (j:=k) hM Yj r o<|Oa<|Ua<|PT ?_);have hxk:=Jk hsm k;refine PN (Ub<|P6 (z:=(((m.getD k 0):Nat):Int)) Kj Kq r (Tw _ o)<|Ol<|Rq r r (Xj (a:=(m.getD k 0)) (b:=10) o)<|Ub<|St.add r r (Yz (a:=(m.getD k 0)*10) (b:=cy) o)<|Ua<|PN<|Om<|Om ?_);refine Om (Ol<|P6 (z:=(((((m.getD k 0)*10)+cy)%4294967296:Nat):Int)) X3 Vh r (J5 _)<|Ub<|Rl r r δ (Ka (d:=4294967296) _ δ)<|Ol<|QQ (j:=k) hM sl24 Js r r r o<|On<|R3 (j:=k) (u:=(((m.getD k 0)*10)+cy)%4294967296) K hM Js r r o (Tp _ δ) ?_);intro _ bB aA bC;have g:=g.tr aA.tx;replace s:=s.ap aA s.mem;refine Ua<|PN<|Ol<|St.add r r (Ja (a:=k) (b:=1) o)<|Om<|Nl<|⟨_,o,_,_,(k+1),(((m.getD k 0)*10)+cy)/4294967296,(m.set k<|(((m.getD k 0)*10)+cy)%4294967296),bB,rfl,rfl,rfl,rfl,rfl,rfl,rfl,rfl,rfl,rfl,rfl,rfl,g,bC,s,o,(by rw[UI];exact hml),(qe hsm (Tp _ δ) k),(NI hxk hcy),(AK hT o),rfl⟩
  refine Nl<|PT<|Ue<|QB<|Rg<|Ub<|QN r r (fun aK=>?_)<|fun aK=>?_
  ·refine Nl (Uk<|Om<|Ub<|P6 (z:=((cy%4294967296:Nat):Int)) X3 Vh r (J5 _)<|Ol<|P5 (T:=Jh) (css:=[[(.int .u32 ((cy%4294967296:Nat):Int))]]) (l:=[cy%4294967296]) K sl24 Js δ δ r κ ⟨⟨rfl,(Tp _ δ)⟩,trivial⟩ ?_);intro _ _ aB L bD;have hM:=hM.sp L aB<|fun _ h=>h
   have s:=s.spn L;refine Ol (P8 (T:=Jh) aB sl24 Js r r hM (Z5 bD) ι ι r ?_);intro _ _ _ bE aD _ aE;have g:=(g.sp L).tr aD.tx;replace s:=s.ap aD s.mem;obtain⟨bF,bG,rfl,_,_⟩:=aE.len;refine Ua<|PN<|Ol<|St.add r r (Ja (a:=i) (b:=1) o)<|Om<|Nl<|⟨_,o,_,_,(i+1),(m++[cy%4294967296]),(m++[cy%4294967296]).length,bF,bG,bE,rfl,rfl,rfl,rfl,rfl,rfl,g,aE,s,o,(wv hT o hml hk hcy),(Yo hsm<|Yl (Tp _ δ) Zh),rfl,i',rfl⟩
  refine Nl<|Uc<|PN<|Ol<|St.add r r (Ja (a:=i) (b:=1) o)<|Om<|Nl<|⟨_,o,_,_,(i+1),m,pn,pa,pc,K,rfl,rfl,rfl,rfl,rfl,rfl,g,hM,s,o,(BM hT o hml hk o),hsm,hml,o,rfl⟩
 refine Nl (PT<|Ue<|QB<|Rg<|Om<|Om ?_);obtain⟨_,aF,_,bH⟩:=hP.freeze ac hX;refine Ol (PK aF zm r r (Yr aF.bd bH o) ?_);intro _ _ bI bJ bK;have F:=F.spn bJ;obtain⟨bL,bM,rfl,M⟩:=RV.int bK;refine On (Us (cs':=(zzC (mkSg false p) bL bM)) bI F io26 ?_);intro _ aG bN bO;have M:=M.sp bN;refine Oa (Nl<|PS<|Jg r r r bO ag26 aG ?_);refine⟨_,_,rfl,?_,?_⟩
 ·exact SS (a:=(mkSg false p)) ((Jl M).tr aG.wb)<|(Eg hsp hv o)
 ·skip
  rfl
theorem Fg{d:List UInt8}(hd:∀c∈d,digB c=true)(hl:d.length≤65536):CRt 228 #[(str d)] w fun v w'=>RV Z0 X w' v (ofZ (Jm d:Int)):=by
 have C:=PV hX;refine Cgo Tryz.func228 r r r (Rg<|Ol<|PU C io26 r ?_);intro _ _ _ _ _ F _ b;refine Nl (Rg<|Ub<|PK F Pi r r (H1 F.bd) ?_);intro _ _ j s G;subst G;refine Ua<|Rh<|Ub<|QK r r (fun g=>?_)<|fun g=>?_
 ·refine Nl (Uk<|Ua<|Rg<|Ub<|PK j MG r r (uZ j.bd (CR hd) δ δ<|fun _=>rfl) ?_);intro _ _ H I J;have b:=(b.spn s).spn I;obtain⟨_,_,rfl,K,rfl⟩:=J;obtain⟨k,l,rfl,h⟩:=RV.int K;refine Om (Ol<|St.extract r rfl<|Ol<|St.extract r rfl<|Ol<|PU H io26 r ?_);intro _ _ _ _ lt31 L x M;have N:=lt31 _ b.blk.lt;have h:=h.sp x;refine On (Us (cs':=(zzC (ofZ (Jm [48]:Int)) k l)) L M io26 ?_);intro _ P y Q;have b:=(b.spn x).spo y N;refine Oa (Nl<|Rg<|Ol<|Uo (vs:=(zzC (ofZ (Jm [48]:Int)) k l)) Q ag26<|On<|Us (cs':=(zzC (ofZ (Jm [48]:Int)) k l)) P b io26 ?_);intro _ z R S;have h:=(h.sp y).sp R;refine Nl (PS<|J1 r r S ag26 z ?_);exact SS (a:=(ofZ (Jm [48]:Int))) ((Jl h).tr z.wb)<|(Mm g)
 refine Nl (Uc<|Rg<|Ub<|PK j MG r r (uZ j.bd (Mb hd) (Nat.pos_of_ne_zero fun e=>g<|TD e) (Tj Lp hl)<|fun e=>absurd e<|Bj g) ?_);intro _ _ T U V;have b:=(b.spn s).spn U;obtain⟨_,_,rfl,Y,rfl⟩:=V;obtain⟨m,p,rfl,i⟩:=RV.int Y;refine Om (Ol<|St.extract r rfl<|Ol<|St.extract r rfl<|Ol<|PU T io26 r ?_);intro _ _ _ _ E Z A aa;have ab:=E _ b.blk.lt;have i:=i.sp A;refine On (Us (cs':=(zzC (ofZ (Jm (d.dropWhile<|zB 48):Int)) m p)) Z aa io26 ?_);intro _ ac B ad;have b:=(b.spn A).spo B ab;refine Oa (Nl<|Rg<|Ol<|Uo (vs:=(zzC (ofZ (Jm (d.dropWhile<|zB 48):Int)) m p)) ad ag26<|On<|Us (cs':=(zzC (ofZ (Jm (d.dropWhile<|zB 48):Int)) m p)) ac b io26 ?_);intro _ D ae af;have i:=(i.sp B).sp ae;refine Nl (PS<|J1 r r af ag26 D ?_);exact SS (a:=(ofZ (Jm (d.dropWhile<|zB 48):Int))) ((Jl i).tr D.wb) Ns
theorem wE{j:Value}{n:GInt}(T:RV Z0 X w j n){k:Value}{d:GInt}(U:RV Z0 X w k d)(hln:n.mag.length≤274877906944)(hld:d.mag.length≤274877906944)(hz:¬d.toZ.sign=0):CRt 229 #[j,k] w fun v w'=>(∃j k,v= .tuple #[j,k]∧(RV Y6 X w' j (ofQ (Rat.divInt n.toZ d.toZ)))∧(k=(.int .i64 0))):=by
 obtain⟨a1,G,rfl,l⟩:=RV.int T;obtain⟨E,F,rfl,e⟩:=RV.int U;have C:=PV hX;refine Cgo Tryz.func229 r r r (Rg<|Ol<|QA C r ?_);intro _ _ _ _ _ H y g;have e:=e.sp y;refine Ol (QA H r ?_);intro _ _ _ _ _ I m b;have l:=(l.sp y).sp m;have g:=g.spn m;refine Ol (PU I io28 r ?_);intro _ _ _ _ _ z i p;have e:=(e.sp m).sp i;have b:=b.spn i;refine Oa (Nl<|Rh<|Ol<|Uo (vs:=(zzC d E F)) b ag26<|Ol<|PK z vS r r (xn z.bd (a:=d) (Jl e) o) ?_);intro _ _ A h J;have l:=(l.sp i).sp h;have e:=e.sp h;have g:=(g.spn i).spn h;have b:=b.spn h;subst J;refine Ol (QZ (t:=false) r r (decide_eq_false hz)<|Nl<|Uc<|Rg<|Ol<|Uo (vs:=(zzC n a1 G)) g ag26<|Ol<|Uo (vs:=(zzC d E F)) b ag26<|Ol<|PK A ns r r (yc A.bd (n:=n) (Jl l) (d:=d) (Jl e) o o) ?_);intro _ _ K L M;have p:=(p.spn h).spn L;obtain⟨N,P,Q,R,rfl,s,x⟩:=ST M;refine On (Us (cs':=(qqC (ofQ<|Rat.divInt n.toZ d.toZ) N P Q R)) K p io28 ?_);intro _ B D S;have s:=s.sp D;have x:=x.sp D;refine Oa (Nl<|PS<|Jg r r r S ag28 B ?_);refine⟨_,_,rfl,?_,?_⟩
 ·exact SS (a:=(ofQ<|Rat.divInt n.toZ d.toZ)) ((Jz s x).tr B.wb) r
 ·skip
  rfl
theorem Gb{g:Nat}{s:List UInt8}{p o:Nat}(hB:Blk w g (rc s p o) 88)(hXg:X g)(hp:p≤s.length)(hs:s.length≤65536):Calls Tryz.prog 192 #[(P10 g 0)] w (RetP w g (numM s p) fun a q v w'=>RV Jc X w' v a∧Blk w' g (rc s q o) 88):=by
 have C:=Rd g hX hXg;have o0:=SW hB;refine Cgo Tryz.func192 r r r (Rg<|Ol<|PU C io31 r ?_);intro _ _ _ _ bo C6 s7 i;have n9:=bo _ o0.blk.lt;have o0:=o0.spn s7;refine Nl<|Rg<|Ub<|PZ rfl<|Ol<|PJ Yn rfl<|Ol<|QJ (cs':=fun a q=>rc s q o) C6 o0 Dv r r (zv C6.bd (s:=s) (p:=p) (o:=o) o0.blk (C6.yx _ o0.mem) hp hs) ?_ ?_
 ·intro _ _ _ h bp;exact Ze (PE h) bp
 intro _ _ b ab h aV bq l br;have i:=i.spo bq (TA n9);subst br;refine Ol (PK aV NG r r (Fg aV.bd (Qt h)<|Tj (Xy h) hs) ?_);intro _ _ aW aX bs;obtain⟨aD,aE,rfl,j⟩:=RV.int bs;refine Ol (PK aW ox r r (oE aW.bd ω ω) ?_);intro _ _ bt aF bu;have l:=(l.spn aX).spn aF;have i:=(i.spn aX).spn aF;obtain⟨aY,aZ,rfl,E⟩:=RV.int bu;refine Ol (PU bt io26 r ?_);intro _ _ _ _ aG bv aq ar;have au:=aG _ l.blk.lt;have bw:=aG _ i.blk.lt;have j:=(j.sp aF).sp aq;have E:=E.sp aq;have l:=l.spn aq;have i:=i.spn aq;refine Ol (PU bv io26 r ?_);intro _ _ _ _ aj bx ac aH;have ad:=aj _ l.blk.lt;have a0:=aj _ i.blk.lt;have aI:=aj _ ar.blk.lt;have l:=l.spn ac;have ar:=ar.spn ac;refine On (Us (cs':=(zzC (ofZ (Jm b:Int)) aD aE)) bx ar io26 ?_);intro _ bz ae x;have j:=(j.sp ac).sp ae;have E:=(E.sp ac).sp ae;have i:=(i.spn ac).spo ae bw;have aH:=aH.spo ae (TA aI);refine On (Us (cs':=(zzC (ofZ 1) aY aZ)) bz aH io26 ?_);intro _ aJ af B;have l:=(l.spo ae au).spo af ad;refine Nl (Rh<|Ub<|PZ rfl<|Ol<|PJ Yn rfl<|Ol<|QF<|QT aJ l cb99 r r (Xz aJ.bd (s:=s) (p:=ab) (o:=o) l.blk (aJ.yx _ l.mem) (c:=47) (Rr.le (x1 hp) h) hs) ?_);intro _ _ ag ah m bA;have j:=(j.sp af).sp ah;have E:=(E.sp af).sp ah;have i:=(i.spo af a0).spo ah (TA n9);have x:=(x.spo af aI).spo ah (TA au);have B:=B.spo ah (TA ad);refine⟨_,bA,fun F=>?_,fun F=>?_⟩
 ·refine Nl (Uf<|Ub<|PZ rfl<|Ol<|PJ Yn rfl<|Ol<|QT ag m cb68 r r (Q4 ag.bd (s:=s) (p:=(fpM s ab 47)) (o:=o) m.blk (ag.yx _ m.mem) (Y2<|Rr.le (x1 hp) h) hs) ?_);intro _ _ aK av aw bB;have j:=j.sp av;have x:=x.spo av (TA au);have B:=B.spo av (TA ad);subst bB;refine Nl<|Rg<|Ub<|PZ rfl<|Ol<|PJ Yn rfl<|Ol<|PJ J7 rfl<|Ol<|PO aw pl3 r rfl<|Ua<|Rg<|Ub<|PZ rfl<|Ol<|PJ Yn rfl<|Ol<|QJ (cs':=fun a q=>rc s q o) aK aw Dv r r (zv aK.bd (s:=s) (p:=(spM s<|fpM s ab 47)) (o:=o) aw.blk (aK.yx _ aw.mem) (K2<|Y2<|Rr.le (x1 hp) h) hs) ?_ ?_
  ·intro _ _ _ k bC;exact Ze (Li h F k) bC
  intro _ _ e bD k a3 ax y bE;have i:=(i.spo av<|TA n9).spo ax (TA n9);subst bE;refine Ol (PK a3 NG r r (Fg a3.bd (Qt k)<|Tj (Xy k) hs) ?_);intro _ _ bF ai bG;have j:=(j.sp ax).sp ai;have x:=(x.spo ax<|TA au).spn ai;have B:=(B.spo ax<|TA ad).spn ai;obtain⟨aL,ak,rfl,z⟩:=RV.int bG;refine On (Us (cs':=(zzC (ofZ (Jm e:Int)) aL ak)) bF B io26 ?_);intro _ aM G L;have z:=z.sp G;have y:=(y.spn ai).spo G ad;have i:=(i.spn ai).spo G a0;refine Nl (Rg<|Ol<|Uo (vs:=(zzC (ofZ (Jm e:Int)) aL ak)) L ag26<|Ol<|PK aM vS r r (xn aM.bd (a:=(ofZ (Jm e:Int))) (Jl z)<|Tj (V3<|Qt k)<|Tj (Tj (Xy k) hs) δ) ?_);intro _ _ am A aO;have j:=(j.sp G).sp A;have z:=z.sp A;have x:=(x.spo G aI).spn A;have L:=L.spn A;simp only[Jo,J9] at aO;subst aO;refine Ol<|PW r r (fun D=>?_)<|fun D=>?_
  ·exact Nl<|Uk<|Ub<|PX (cs:=[(.int .i64 19),(.int .i64 (((spM s<|fpM s ab 47):Nat):Int))]) r κ<|Ol<|QP κ<|On<|Rz rfl<|Ze (G0 h F k D) am.below
  refine Nl (Uc<|Rg<|Ol<|Uo (vs:=(zzC (ofZ (Jm b:Int)) aD aE)) x ag26<|Ol<|Uo (vs:=(zzC (ofZ (Jm e:Int)) aL ak)) L ag26<|Ol<|PK am M7 r r (wE am.bd (n:=(ofZ (Jm b:Int))) (Jl j) (d:=(ofZ (Jm e:Int))) (Jl z) (Tj (V3<|Qt h)<|Tj (Tj (Xy h) hs) δ) (Tj (V3<|Qt k)<|Tj (Tj (Xy k) hs) δ) (by rw[Jo];exact D)) ?_);intro _ _ a5 aP aQ;have y:=(y.spn A).spn aP;have i:=(i.spn A).spn aP;simp only[Jo,J9] at aQ;obtain⟨_,_,rfl,a6,rfl⟩:=aQ;obtain⟨M,N,P,Q,rfl,H,I⟩:=ST a6;refine Om (Ol<|St.extract r rfl<|Ol<|St.extract r rfl<|Ol<|PU a5 io28 r ?_);intro _ _ _ _ ay a7 R a8;have a9:=ay _ y.blk.lt;have ba:=ay _ i.blk.lt;have H:=H.sp R;have I:=I.sp R;have y:=y.spn R;refine On (Us (cs':=(qqC (ofQ<|Rat.divInt (Jm b:Int) (Jm e:Int)) M N P Q)) a7 a8 io28 ?_);intro _ bb S bc;have i:=(i.spn R).spo S ba;refine Oa (Nl<|Rg<|Ol<|Uo (vs:=(qqC (ofQ<|Rat.divInt (Jm b:Int) (Jm e:Int)) M N P Q)) bc ag28 ?_);refine Ol (PX (cs:=[(.int .i64 1),n11,(.bool (ofQ<|Rat.divInt (Jm b:Int) (Jm e:Int)).num.neg),(S12 M (ofQ<|Rat.divInt (Jm b:Int) (Jm e:Int)).num.mag N),(.bool (ofQ<|Rat.divInt (Jm b:Int) (Jm e:Int)).den.neg),(S12 P (ofQ<|Rat.divInt (Jm b:Int) (Jm e:Int)).den.mag Q),(str []),n11]) r κ ?_);refine On (Us (cs':=[(.int .i64 1),n11,(.bool (ofQ<|Rat.divInt (Jm b:Int) (Jm e:Int)).num.neg),(S12 M (ofQ<|Rat.divInt (Jm b:Int) (Jm e:Int)).num.mag N),(.bool (ofQ<|Rat.divInt (Jm b:Int) (Jm e:Int)).den.neg),(S12 P (ofQ<|Rat.divInt (Jm b:Int) (Jm e:Int)).den.mag Q),(str []),n11]) bb i io31 ?_);intro _ aR an be;have H:=(H.sp S).sp an;have I:=(I.sp S).sp an;have y:=(y.spo S a9).spo an n9;refine Nl<|PS<|Kd r (resV.c be r ag31 r)<|RetP.ok (a:=(.mk 1 [] (ofQ<|Rat.divInt (Jm b:Int) (Jm e:Int)) [] [])) (q:=bD) (NB h F k D) ⟨?_,?_⟩ aR.below
  ·exact SS (a:=(.mk 1 [] (ofQ<|Rat.divInt (Jm b:Int) (Jm e:Int)) [] [])) ((Zb ω ω ξ RS.nil H I RS.nil).tr aR.wb) r
  exact y.blk
 refine Nl (Uc<|Rg<|Ol<|Uo (vs:=(zzC (ofZ (Jm b:Int)) aD aE)) x ag26<|Ol<|Uo (vs:=(zzC (ofZ 1) aY aZ)) B ag26<|Ol<|PK ag M7 r r (wE ag.bd (n:=(ofZ (Jm b:Int))) (Jl j) (d:=(ofZ 1)) (Jl E) (Tj (V3<|Qt h)<|Tj (Tj (Xy h) hs) δ) δ δ) ?_);intro _ _ bf aS aT;have m:=m.spn aS;have i:=i.spn aS;simp only[Jo,J9] at aT;obtain⟨_,_,rfl,bg,rfl⟩:=aT;obtain⟨T,U,V,Y,rfl,J,K⟩:=ST bg;refine Om (Ol<|St.extract r rfl<|Ol<|St.extract r rfl<|Ol<|PU bf io28 r ?_);intro _ _ _ _ az bh Z bi;have bj:=az _ m.blk.lt;have bk:=az _ i.blk.lt;have J:=J.sp Z;have K:=K.sp Z;have m:=m.spn Z;refine On (Us (cs':=(qqC (ofQ<|Rat.divInt (Jm b:Int) 1) T U V Y)) bh bi io28 ?_);intro _ bl aa bm;have i:=(i.spn Z).spo aa bk;refine Oa (Nl<|Rg<|Ol<|Uo (vs:=(qqC (ofQ<|Rat.divInt (Jm b:Int) 1) T U V Y)) bm ag28<|Ol<|PX (cs:=[(.int .i64 1),n11,(.bool (ofQ<|Rat.divInt (Jm b:Int) 1).num.neg),(S12 T (ofQ<|Rat.divInt (Jm b:Int) 1).num.mag U),(.bool (ofQ<|Rat.divInt (Jm b:Int) 1).den.neg),(S12 V (ofQ<|Rat.divInt (Jm b:Int) 1).den.mag Y),(str []),n11]) r κ ?_);refine On (Us (cs':=[(.int .i64 1),n11,(.bool (ofQ<|Rat.divInt (Jm b:Int) 1).num.neg),(S12 T (ofQ<|Rat.divInt (Jm b:Int) 1).num.mag U),(.bool (ofQ<|Rat.divInt (Jm b:Int) 1).den.neg),(S12 V (ofQ<|Rat.divInt (Jm b:Int) 1).den.mag Y),(str []),n11]) bl i io31 ?_);intro _ aU ao bn;have J:=(J.sp aa).sp ao;have K:=(K.sp aa).sp ao;have m:=(m.spo aa bj).spo ao n9;refine Nl<|PS<|Kd r (resV.c bn r ag31 r)<|RetP.ok (a:=(.mk 1 [] (ofQ<|Rat.divInt (Jm b:Int) 1) [] [])) (q:=(fpM s ab 47)) (KX h F) ⟨?_,?_⟩ aU.below
 ·exact SS (a:=(.mk 1 [] (ofQ<|Rat.divInt (Jm b:Int) 1) [] [])) ((Zb ω ω ξ RS.nil J K RS.nil).tr aU.wb) r
 exact m.blk
end
theorem CI{X:Nat→Prop}{w:World}(hX:XB X w){g:Nat}{s:List UInt8}{p o:Nat}(hB:Blk w g (rc s p o) 88)(hXg:X g){S:Nat→Nat→Rr GExpr}{lo:Nat}(hp:p≤s.length)(hs:s.length≤65536)(ho:o≤64)(hS:∀o p,p≤s.length→(S o p).fw s p)(ih:SumC s S lo)(hlo:lo≤p):Calls Tryz.prog 147 #[(P10 g 0)] w (RetP w g (Yg s S o p) fun a q v w'=>(∃v0 v1,v= .tuple #[v0,v1]∧(RV Jc X w' v0 a.1)∧(v1=(.bool a.2)))∧Blk w' g (rc s q o) 88):=by
 have C:=Rd g hX hXg;have o0:=SW hB;have hsp:=K2 hp;refine Cgo Tryz.func147 r r r (Rg<|Ol<|PU C io31 r ?_);intro _ _ _ _ bG C6 s7 h;have A:=bG _ o0.blk.lt;have o0:=o0.spn s7;refine Oa (Nl<|Rh<|Ub<|PZ rfl<|Ol<|PJ Yn rfl<|Ol<|QT C6 o0 cb68 r r (Q4 C6.bd (s:=s) (p:=p) (o:=o) o0.blk (C6.yx _ o0.mem) hp hs) ?_);intro _ _ aS bH x bI;subst bI;refine Oa (Nl<|W.block<|Rg<|Ub<|QF<|PK aS yO r r (pX aS.bd (n:=(hdM s p))) ?_);intro _ _ D aT bJ;have x:=x.spn aT;have h:=(h.spo bH<|TA A).spn aT;refine⟨_,bJ,fun d=>?_,fun d=>?_⟩
 ·refine Ua<|Uf<|Ub<|QJ (cs':=fun a q=>rc s q o) D x O1 r r (Gb D.bd (s:=s) (p:=(spM s p)) (o:=o) x.blk (D.yx _ x.mem) (K2 hp) hs) ?_ ?_
  ·intro _ _ _ U bK;exact Ze (NW d U) bK
  intro _ _ ae bL U bM bN ag bO;have h:=h.spo bN (TA A);obtain⟨bP,bQ,bR,bS,bT,bU,bV,bW,rfl,ah⟩:=SR bO;refine On (Us (cs':=(ec ae bP bQ bR bS bT bU bV bW)) bM h io31 ?_);intro _ aU aV bX;have ah:=ah.sp aV;have ag:=ag.spo aV A;refine Ua<|PS<|rN r (resV.c bX r ag31 r) (SV r)<|RetP.ok (a:=(ae,true)) (q:=bL) (O4 d U) ⟨?_,?_⟩ aU.below
  ·refine⟨_,_,rfl,?_,?_⟩
   ·exact SS (a:=ae) ((Mx ae ah).tr aU.wb) r
   ·skip
    rfl
  exact ag.blk
 refine Ua<|Ug<|Ub<|PW r r (fun k=>?_)<|fun k=>?_
 ·refine Ua<|Uf<|Ub<|QJ (cs':=fun a q=>rc s q<|o+1) D x xp r r (Az D.bd (s:=s) (p:=(spM s p)) (o:=o) x.blk (D.yx _ x.mem) (K2 hp) hs ho) ?_ ?_
  ·intro _ _ _ y bY;exact Ze (OE d k y) bY
  intro _ _ _ bZ y ai b0 aj _;refine Nl<|Rg<|Ub<|QJ (cs':=fun a q=>rc s q<|o+1) ai aj cb67 r r (ih ai.bd (p:=bZ) (o:=o+1) aj.blk (ai.yx _ aj.mem) (Rr.le (Zp<|K2 hp) y) hs (tk_o y ho) (by have h0:=Xk (s:=s) (p:=p);have h1:=Rr.ge (Zp<|K2 hp) y;omega)) ?_ ?_
  ·intro _ _ _ E b2;exact Ze (Ow d k y E) b2
  intro _ _ H b3 E b4 b5 I b6;have h:=(h.spo b0<|TA A).spo b5 (TA A);obtain⟨ak,am,an,ao,aq,ar,au,av,rfl,R⟩:=SR b6;refine Ol (PU b4 io31 r ?_);intro _ _ _ _ aw b7 ax b8;have aW:=aw _ I.blk.lt;have b9:=aw _ h.blk.lt;have h:=h.spn ax;refine On (Us (cs':=(ec H ak am an ao aq ar au av)) b7 b8 io31 ?_);intro _ ay az aA;have R:=(R.sp ax).sp az;have I:=(I.spn ax).spo az aW;refine Nl<|Rg<|Ub<|QJ (cs':=fun a q=>rc s q o) ay I xp r r (Cd ay.bd (s:=s) (p:=b3) (o:=o) I.blk (ay.yx _ I.mem) (Rr.le (hS _ _<|Rr.le (Zp<|K2 hp) y) E) hs<|tk_o y ho) ?_ ?_
  ·intro _ _ _ J aY;exact Ze (OV d k y E J) aY
  intro _ _ _ aZ J a0 V Y _;have h:=(h.spo az b9).spo V (TA A);have aA:=aA.spo V (TA aW);refine Nl (Rg<|Ol<|Uo (vs:=(ec H ak am an ao aq ar au av)) aA ag31<|On<|Us (cs':=(ec H ak am an ao aq ar au av)) a0 h io31 ?_);intro _ aB aD a3;have R:=(R.sp V).sp aD;have Y:=Y.spo aD A;refine Ua<|PS<|rN r (resV.c a3 r ag31 r) (SV r)<|RetP.ok (a:=(H,false)) (q:=aZ) (NU d k y E J) ⟨?_,?_⟩ aB.below
  ·refine⟨_,_,rfl,?_,?_⟩
   ·exact SS (a:=H) ((Mx H R).tr aB.wb) r
   ·skip
    rfl
  exact Y.blk
 refine Oa (Nl<|Ug<|Ub<|QF<|PK D Ck r r (tD D.bd (n:=(hdM s p))) ?_);intro _ _ K aE a4;have x:=x.spn aE;have h:=h.spn aE;refine⟨_,a4,fun m=>?_,fun m=>?_⟩
 ·refine Ol (QI rfl<|Ua<|Uc<|Rg<|Ub<|PZ rfl<|Ol<|PJ Yn rfl<|Ol<|PJ J7 rfl<|Ol<|PO x pl3 r rfl<|Ua<|PT ?_);have hwp:=tR (s:=s) (p:=p) m;refine PN (Ub<|PZ rfl<|Ol<|PJ Yn rfl<|Ol<|QT K x Px r r (DD K.bd (s:=s) (p:=(spM s p)) (o:=o) x.blk (K.yx _ x.mem) (K2 hp) hs) ?_);intro _ _ F aF e a5;subst a5;refine Ua<|Rh<|Ub<|QO (j:=0) (c:=((Zt s<|spM s p).getD 0 0)) un9 r r r (Je ω)<|Ol<|PW r r (fun B=>?_)<|fun B=>?_
  ·refine Om (OgD<|PP<|OgD<|RH (i:=1) un9 r r r ω<|OgD<|QF<|PK F cb45 r r (uX F.bd) ?_);intro _ _ G aG a6;have e:=e.spn aG;have h:=(h.spo aF<|TA A).spn aG;refine⟨_,a6,fun z=>?_,fun z=>?_⟩
   ·refine OT (Nl<|Uf<|Ub<|RH (i:=1) un9 r r r ω<|Ol<|PK G GU r r (sZ G.bd (KS z) (by rw[Tn];exact Tj (VZ ..)<|Tj mf hs)) ?_);intro _ _ aH aI a7;have e:=e.spn aI;subst a7;refine Ua<|Rh<|Ub<|QN r r (fun L=>?_)<|fun L=>?_
    ·exact Nl<|Uk<|Ub<|St.add r r (Ja (a:=(spM s p)) (b:=1) ω)<|Ol<|PX (cs:=[(.int .i64 2),(.int .i64 (((spM s p)+1:Nat):Int))]) r κ<|Ol<|QP κ<|On<|Rz rfl<|Ze (JO d k m (wt_t B z) L) aH.below
    refine Nl<|Uc<|PT ?_
    have:=xO<|(Zt s<|spM s p).drop 1
    refine PN (Ub<|P5 (T:=Zg) (css:=[[(.int .i64 (((valM<|(Zt s<|spM s p).drop 1):Nat):Int))]]) (l:=[(((valM<|(Zt s<|spM s p).drop 1):Nat):Int)]) aH sl23 io3 δ δ r κ ⟨⟨rfl,ω,ω⟩,trivial⟩ ?_);intro aJ _ a8 aK Z;have h:=(h.spn aI).spn aK;refine Ol (PX (cs:=[(.int .i64 2),(.slice (some ⟨aJ,0,none⟩) 1 1),b13,n11,b13,n11,(str []),n11]) r κ<|On<|Us (cs':=[(.int .i64 2),(.slice (some ⟨aJ,0,none⟩) 1 1),b13,n11,b13,n11,(str []),n11]) a8 h io31 ?_);intro _ aL aM a9;have Z:=Z.sp aM;have e:=(e.spn aK).spo aM A;refine Ua<|PS<|rN r (resV.c a9 r ag31 r) (SV r)<|RetP.ok (a:=((.mk 2 [(((valM<|(Zt s<|spM s p).drop 1):Nat):Int)] YT [] []),false)) (q:=((spM s p)+(Zt s<|spM s p).length)) (at_E d k m (wt_t B z) L) ⟨?_,?_⟩ aL.below
    ·refine⟨_,_,rfl,?_,?_⟩
     ·exact SS (a:=(.mk 2 [(((valM<|(Zt s<|spM s p).drop 1):Nat):Int)] YT [] [])) ((Zb ω ω ξ Z RS.nil RS.nil RS.nil).tr aL.wb) r
     ·skip
      rfl
    exact e.blk
   refine OT<|Nl<|Uc<|Rg<|Om<|Om<|Ub<|QJ (cs':=fun a q=>rc s q o) G e L2 r r (tu G.bd (s:=s) (p:=((spM s p)+(Zt s<|spM s p).length)) (o:=o) e.blk (G.yx _ e.mem) (q0:=(spM s p)) (oB<|K2 hp) hs ho hS ih YK<|Tj mf hs) ?_ ?_
   ·intro _ _ _ M ba;exact Ze (Nx d k m (Md z) M) ba
   intro _ _ N bb M bc be aa bf;have h:=h.spo be (TA A);obtain⟨bg,bh,bi,bj,bk,bl,bm,bn,rfl,ab⟩:=SR bf;refine On (Us (cs':=(ec N bg bh bi bj bk bl bm bn)) bc h io31 ?_);intro _ aO aP bo;have ab:=ab.sp aP;have aa:=aa.spo aP A;refine Ua<|PS<|rN r (resV.c bo r ag31 r) (SV r)<|RetP.ok (a:=(N,false)) (q:=bb) (My d k m (Md z) M) ⟨?_,?_⟩ aO.below
   ·refine⟨_,_,rfl,?_,?_⟩
    ·exact SS (a:=N) ((Mx N ab).tr aO.wb) r
    ·skip
     rfl
   exact aa.blk
  refine Om<|Oz<|Oz<|Oz<|OF<|Nl<|Uc<|Rg<|Om<|Om<|Ub<|QJ (cs':=fun a q=>rc s q o) F e L2 r r (tu F.bd (s:=s) (p:=((spM s p)+(Zt s<|spM s p).length)) (o:=o) e.blk (F.yx _ e.mem) (q0:=(spM s p)) (oB<|K2 hp) hs ho hS ih YK<|Tj mf hs) ?_ ?_
  ·intro _ _ _ P bp;exact Ze (Nx d k m (Nv B) P) bp
  intro _ _ Q bq P br bs ac bt;have h:=(h.spo aF<|TA A).spo bs (TA A);obtain⟨bu,bv,bw,bx,bz,bA,bB,bC,rfl,ad⟩:=SR bt;refine On (Us (cs':=(ec Q bu bv bw bx bz bA bB bC)) br h io31 ?_);intro _ aQ aR bD;have ad:=ad.sp aR;have ac:=ac.spo aR A;refine Ua<|PS<|rN r (resV.c bD r ag31 r) (SV r)<|RetP.ok (a:=(Q,false)) (q:=bq) (My d k m (Nv B) P) ⟨?_,?_⟩ aQ.below
  ·refine⟨_,_,rfl,?_,?_⟩
   ·exact SS (a:=Q) ((Mx Q ad).tr aQ.wb) r
   ·skip
    rfl
  exact ac.blk
 exact Ol<|QI rfl<|Ua<|Uk<|Ub<|PZ rfl<|Ol<|PJ Yn rfl<|Ol<|PJ J7 rfl<|Ol<|PO x pl3 r rfl<|Ol<|PX (cs:=[(.int .i64 19),(.int .i64 (((spM s p):Nat):Int))]) r κ<|Ol<|QP κ<|On<|Rz rfl<|Ze (at_x d k m) K.below
end Go.Wf
namespace Go.Wf
open Go Go.RowKit
structure ElO {α:Type} (T:Ty α) (x:Nat→Prop) (w:World) (b o:Nat) (cs:List Value) (u:α):Prop where
 rd:T.rd x w cs u
 cell:∀q v,cs[q]? =some v→w.cell? ⟨b,o+q,none⟩=some v
section
variable {α:Type} {T:Ty α} {E:TypeId} {X0 x y:Nat→Prop} {w0:Bs} {w:World} {ad:Option Addr} {g n c:Nat} {a:α} {l:List α}
theorem OS.adr{l:List α}(h:OS T E w0 x y w (.slice ad n c) l)(hl:0<l.length):∃g,ad=some ⟨g,0,none⟩:=by
 obtain⟨⟨_,_,_,b⟩,_⟩:=h;rcases b.2 with ⟨e,h⟩|⟨g,_,_,e,_⟩
 ·omega
 ·cases e;exact⟨g,rfl⟩
theorem OS.first(h:OS T E w0 x y w (.slice (some ⟨g,0,none⟩) n c) (a::l)):∃(cs:List Value) (css:List (List Value)) (cap:Nat) (tl:List Value),T.rd x w cs a∧w.heap[g]? =some (.cells (cs++css.flatten++tl).toArray E (0,0))∧css.length=l.length∧n=l.length+1∧c=cap∧n≤cap∧cap≤maxLen∧
  (cs++css.flatten++tl).length=cap*T.sz∧(cs++css.flatten).length=n*T.sz∧∀(i:Nat) (cs:List Value) (u:α),css[i]? =some cs→l[i]? =some u→T.rd x w cs u:=by
 obtain⟨⟨css,b,d,m⟩,_⟩:=h;obtain⟨j,p⟩:=m;rcases p with ⟨e,h⟩|⟨_,cap,cur,e,_,hg,s,v,z,k⟩
 ·cases e
 ·cases e;cases css with
  |nil=>simp at b
  |cons cs css=>
   rw[Uy] at j k;have e2:cur.toList=cs++css.flatten++cur.toList.drop ((l.length+1)*T.sz):=by
    rw[←k];exact(U0 _ _).symm
   refine⟨cs,css,c,cur.toList.drop ((l.length+1)*T.sz),d 0 cs a r r,?_,by simpa using b,by simp,rfl,by simpa using s,v,?_,by simpa using j,fun i cs u hi hu=>d (i+1) cs u ς YM⟩
   ·rw[←e2];simpa using hg
   ·rw[←e2];simpa using z
variable {P:Program} {ρ:Operand→Value} {K:Value→World→Prop} {Kp:List PanicEntry→World→Prop} {dst:Option Tmp} {ty:TypeId} {pos:String} {after:Array Edge} {gd:Option (Nat×Bool)}
theorem ElO.of(h:OS T E w0 x y w (.slice (some ⟨g,0,none⟩) n c) (a::l)):∃cs,ElO T x w g 0 cs a:=by
 obtain⟨cs,_,_,_,hr,hg,_⟩:=h.first;refine⟨cs,hr,fun q _ hq=>?_⟩
 rw[Wg,cell_of_row w g q _ E (0,0) hg]
 have:=(UC.1 hq).1
 rw[UE,Tm,Uz this];exact hq
theorem Si {s i:Operand} {t e:TypeId} {z:Value} {by_:Nat} {k:IntKind} (ho:OS T E w0 x y w (.slice (some ⟨g,0,none⟩) n c) (a::l)) (ht:P.underlying t=some (.slice e)) (hi:Zf P e=some (z,T.sz,by_))
  (hx:ρ s= .slice (some ⟨g,0,none⟩) n c) (hy:ρ i= .int k 0) (h:∀cs,ElO T x w g 0 cs a→K (.pointer (some ⟨g,0,none⟩)) w):St P ρ ⟨dst,.indexAddr t s i,ty,pos,after,gd⟩ w K Kp:=by
 obtain⟨cs,hcs⟩:=ElO.of ho
 have:=QQ (P:=P) (ρ:=ρ) (K:=K) (Kp:=Kp) (dst:=dst) (ty:=ty) (pos:=pos) (after:=after) (gd:=gd) (j:=0) ho ht hi hx hy r (Nat.succ_pos _)
 refine this ?_;have b:(Value.pointer (Option.map (fun x=>x.add (0*T.sz)) (some (⟨g,0,none⟩:Addr))))= .pointer (some ⟨g,0,none⟩):=by rw[Wh];simp[Addr.add]
 rw[b];exact h cs hcs
theorem Ss {p v:Operand} {t:TypeId} {z:Value} {sz by_ off:Nat} {cs cs' vs:List Value} {u':α} (C:Cx X0 w0 x y w) (ho:OS T E w0 x y w (.slice (some ⟨g,0,none⟩) n c) (a::l)) (he:ElO T x w g 0 cs a) (hi:Zf P t=some (z,sz,by_))
  (hx:ρ p= .pointer (some ⟨g,0+off,none⟩)) (hy:(ρ v).cells=vs.toArray) (hl:vs.length=sz) (A:vs.all Value.oneCell'=true) (hfit:Nat.ble (off+vs.length) cs.length=true) (hc:cs.take off++vs++cs.drop (off+vs.length)=cs') (hr:T.rd x w cs' u')
  (h:∀w',Cx X0 w0 x y w'→Ap x w x y w'→OS T E w0 x y w' (.slice (some ⟨g,0,none⟩) n c) (u'::l)→K undef w'):St P ρ ⟨dst,.store t p v,ty,pos,after,gd⟩ w K Kp:=by
 have hm:=ho.mem g r;obtain⟨ds,css,_,tl,hrd,hg,hcl,hn,rfl,_,hcm,hcap,hnl,hall⟩:=ho.first;have hfit:=TG hfit;have hds:ds=cs:=by
  apply Ux;intro q;have hld:=T.len hrd;have hlc:=T.len he.rd;rcases TN q cs.length with hq|hq
  ·have j:=he.cell q cs[q] (Tt hq);rw[Wg,cell_of_row w g q _ E (0,0) hg,UE,Tm,Uz o] at j;rw[j,Tt hq]
  ·rw[TQ hq,TQ o]
 subst hds;obtain⟨_,hi',_,hs,_⟩:=J0 hi;have hB:Blk w g (ds++css.flatten++tl) E:=hg;rw[Wg] at hx;refine RN (vs:=vs) hi' hs hx hy hl hB (by rw[Tc,Tc];omega) A fun C' hC'=>?_
 have m:C'=cs'++css.flatten++tl:=by
  rw[hC',←hc,Tm ds,List.take_append_of_le_length o,List.drop_append_of_le_length hfit];simp only[Tm]
 have hsz:(Y8 w g C').heap.size=w.heap.size:=by simp[Y8,World.setRow]
 have hsame:∀b,b<w.heap.size→¬b=g→(Y8 w g C').heap[b]? =w.heap[b]? :=fun b _ hb=>Q3 hb;have s:Bel w0 (Y8 w g C'):=C.below.turn (g:=g) ⟨rfl,rfl,rfl,by rw[hsz];exact Tu _,fun b hb hm=>hsame b hb hm⟩ hm.2;have htr:Tr x w x (Y8 w g C'):=⟨fun _ _ h=>h,fun b hb hx=>hsame b hb (fun e=>hx (e▸hm.1.1)),o⟩;have hlen:cs'.length=ds.length:=by
  rw[←hc];simp only[Tc,To,Tn];omega
 refine h _ ⟨s,C.base,fun b hb=>by rw[hsz];exact C.bd b hb,C.yx⟩ ⟨htr,fun b hb hy=>hsame b hb (fun e=>hm.1.2 (e▸hy))⟩ ⟨⟨cs'::css,by simp[hcl],fun i cs u hci hu=>?_,?_⟩,fun k hk=>?_⟩
 ·cases i with
  |zero=>simp at hci hu;subst hci;subst hu;exact T.tr hr htr
  |succ i=>exact T.tr (hall i cs u (by simpa using hci) YM) htr
 ·have d:=hB.set (C':=C');rw[m] at d ⊢;refine⟨?_,.inr ⟨g,c,(cs'++css.flatten++tl).toArray,by rw[Td,hn],Tv _,d,by rw[Td];omega,hcm,?_,?_⟩⟩
  ·rw[Uy,Tc,hlen,←Tc,hnl,hn,Td]
  ·rw[UY,←hcap];simp only[Tc,hlen]
  ·rw[Uy,Td,←hn]
   have:(cs'++css.flatten).length=n*T.sz:=by rw[←hnl];simp only[Tc,hlen]
   rw[←this];exact List.take_left
 ·have:=ho.mem k hk
  exact this
end
end Go.Wf
namespace Go.Wf
open Go Go.Proofs Go.RowKit
section
variable{X:Nat→Prop}{w:World}(hX:XB X w)
include hX
theorem og{g:Nat}{s:List UInt8}{p o:Nat}(hB:Blk w g (rc s p o) 88)(hXg:X g){minus:Bool}{S:Nat→Nat→Rr GExpr}{lo:Nat}(hp:p≤s.length)(hs:s.length≤65536)(ho:o≤64)(hS:∀o p,p≤s.length→(S o p).fw s p)(ih:SumC s S lo)(hlo:lo≤p):Calls Tryz.prog 98 #[(P10 g 0),(.bool minus)] w (RetP w g (Kw s S minus o p) fun a q v w'=>RV Jc X w' v a∧Blk w' g (rc s q o) 88):=by
 have C:=Rd g hX hXg;have o0:=SW hB
 have:maxLen=9223372036854775807:=rfl
 refine Cgo Tryz.func98 ϱ ϱ ϱ (Rg<|Ol<|PU C io31 ϱ ?_);intro g1 _ _ _ dY C6 s7 o8;have n9:=dY _ o0.blk.lt;have o0:=o0.spn s7;refine Nl<|Rg<|Ua<|Rg<|Ua<|PT<|Rm (fun f v=>∃(x y:Nat→Prop) (r:Nat) (l:List GExpr) (la:Option Addr) (lc:Nat) (pl:Bool),Cx X ⟨w,(· =g)⟩ x y v∧f 1=(.bool minus)∧f 4=(P10 g1 0)∧f 5=(S12 la l lc)∧f 6=(.bool pl)∧OS Jc 31 ⟨w,(· =g)⟩ x y v (S12 la l lc) l∧Own ⟨w,(· =g)⟩ y v g [(str s),(.int .i64 r),(.int .i64 o)] 88∧Own ⟨w,(· =g)⟩ y v g1 zX 31∧r≤s.length∧Qy s S o (s.length+1) [] false p= .ok (l,pl) r∧0<l.length∧l.length≤s.length+1) ?_ ?_
 ·refine W.block (P7 (fun μ f v=>∃(x y:Nat→Prop) (q:Nat) (k:Nat) (l:List GExpr) (la:Option Addr) (lc:Nat) (pl:Bool),Cx X ⟨w,(· =g)⟩ x y v∧f 0=(P10 g 0)∧f 1=(.bool minus)∧f 4=(P10 g1 0)∧f 5=(S12 la l lc)∧f 6=(.bool pl)∧OS Jc 31 ⟨w,(· =g)⟩ x y v (S12 la l lc) l∧Own ⟨w,(· =g)⟩ y v g [(str s),(.int .i64 q),(.int .i64 o)] 88∧Own ⟨w,(· =g)⟩ y v g1 zX 31∧q≤s.length∧lo≤q∧s.length<q+k∧l.length≤q∧Qy s S o (s.length+1) [] false p=Qy s S o k l pl q∧μ=(s.length+1-q)) _ ⟨_,_,p,(s.length+1),[],none,0,false,C6,rfl,rfl,rfl,rfl,rfl,OS.nil,o0,o8,hp,hlo,ω,(Tv _),rfl,rfl⟩ ?_);rintro _ _ _ ⟨_,_,q,k,l,la,lc,pl,bg,cL,cM,cN,cO,cP,hL,bh,i,hq,_,hk,hl,hM,_⟩;obtain⟨_,rfl⟩:=rebK (aC cL<|aC cM<|aC cN<|aC cO<|aC cP aN);clear cL cM cN cO cP;refine W.block<|Rg<|Ub<|QJ (cs':=fun a q=>rc s q o) bg bh N0 ϱ ϱ (CI bg.bd (s:=s) (p:=q) (o:=o) bh.blk (bg.yx _ bh.mem) hq hs ho hS ih ω) ?_ ?_
  ·intro _ _ _ b dZ;exact Ze (D9<|L8 hM<|KK b) dZ
  intro _ _ A U b cQ cR aG d0;have hL:=hL.sp cR cQ<|fun _ h=>h
  have i:=i.spo cR (TA n9);obtain⟨_,_,rfl,d1,rfl⟩:=d0;obtain⟨aj,ak,am,an,ao,aq,ar,au,rfl,D⟩:=SR d1;refine Om (Ol<|St.extract ϱ rfl<|Ol<|St.extract ϱ rfl<|Ol<|QU cQ io31 ϱ ?_);intro _ _ _ _ bi cS bc d2 d3;have aQ:=bi _ aG.blk.lt;have bj:=bi _ i.blk.lt;have D:=D.sp bc;refine On (Us (cs':=(ec A.1 aj ak am an ao aq ar au)) cS d2 io31 ?_);intro _ be bf av;have hL:=(hL.sp bc cS d3).sp bf be (fun _ h=>h)
  have aG:=(aG.spn bc).spo bf aQ;have i:=(i.spn bc).spo bf bj;refine Oa (Nl<|Rh<|Ub<|PZ rfl<|Ol<|PJ Yn rfl<|Ol<|QF<|QT be aG cb99 ϱ ϱ (Xz be.bd (s:=s) (p:=U) (o:=o) aG.blk (be.yx _ aG.mem) (c:=94) (Rr.le (X2 hS hq) b) hs) ?_);intro _ _ aH aw H d4;have D:=(D.sp bf).sp aw;have av:=av.spo aw (TA aQ);refine⟨_,d4,fun d=>?_,fun d=>?_⟩
  ·refine Nl<|Ud<|RK mixed 5 1 [[],[0],[1],[],[3]] aH H [fx<|.pointer (some ⟨g,0,none⟩),fun(z:Gh) (v:Value) (w':World)=>∃a q,(intM s<|fpM s U 94)= .ok a q∧(v=(.int .i64 a))∧Own ⟨w,(· =g)⟩ z.2 w' g (rc s q o) 88,fun(z:Gh) (v:Value) (w':World)=>∀a q,(intM s<|fpM s U 94)= .ok a q→RS Zg z.1 w' v [a],fx<|ea A.1 aj ak am an ao aq ar au,fs Jc [A.1]] κ ⟨sx,(fun _ _ _ _ _ ⟨a,q,e,h,o⟩ r=>⟨a,q,e,h,o.spn r.sp⟩),(fun _ _ _ _ _ h r a q e=>(h a q e).tr r.sp.tx),sx,tSl,trivial⟩ fun cT ay _ aR Q=>?_
   have P:=aR.cx;have aI:=aR.sp;have hL:=(hL.sp aw aH<|fun _ h=>h).sp aI P (aR.up);have D:=D.sp aI;have i:=(i.spo aw<|TA n9).spo aI (TA n9);have av:=av.spo aI (TA aQ);have Q:Keep [18,19,20,21,22] _ cT:=Q;refine⟨⟨fun _ _=>?_,fun⟨cU,_⟩ Y=>?_,fun⟨cV,_⟩ _=>?_,fun _ _=>?_,fun⟨cW,_⟩ _=>?_,trivial⟩,fun⟨cX,cY,cZ,c0,ab,_⟩=>?_⟩
   ·exact Sd0 Q fun _=>PP ⟨ay,RZ.same P,rfl⟩
   ·replace Y:=Y ϱ;refine Sd1 Q cU fun _=>QJ (cs':=fun a q=>rc s q o) P Y wS ϱ ϱ (mJ P.bd (s:=s) (p:=(fpM s U 94)) (o:=o) Y.blk (P.yx _ Y.mem) (Y2<|Rr.le (X2 hS hq) b) hs) ?_ ?_
    ·intro _ _ bk aJ c1 _;exact Ze (D9<|L8 hM<|JV b d aJ) c1
    intro _ _ c2 bk aJ c3 c4 c5 c6;exact⟨ay,RT.step c3 c4,c2,bk,aJ,c6,c5⟩
   ·obtain⟨bl,_,aK,c7,_⟩:=cV;refine Jf Q (aC c7 aN) fun _=>P1 (P5 (T:=Zg) (css:=[[(.int .i64 bl)]]) (l:=[bl]) P sl23 io3 δ δ ϱ κ ⟨⟨rfl,(by have:=Vd aK;omega),(by have:=Vd aK;omega)⟩,trivial⟩ ?_);intro _ _ c8 c9 da;exact⟨ay,RZ.go c8 c9,(fun a q e=>by cases aK.symm.trans e;exact da)⟩
   ·exact Sd0 Q fun _=>QC (vs:=(ec A.1 aj ak am an ao aq ar au)) av ag31 ϱ ϱ ϱ ⟨ay,RZ.same P,rfl⟩
   ·refine Sd1 Q cW fun _=>P5 (T:=Jc) (css:=[(ec A.1 aj ak am an ao aq ar au)]) (l:=[A.1]) P sl29 io31 δ δ ϱ κ ⟨(Ju A.1 D.lo D.hi D.name D.n D.num D.den D.args),trivial⟩ ?_;intro _ _ dc dd de;exact⟨ay,RZ.go dc dd,de⟩
   obtain⟨G,V,B,df,E⟩:=cY;have ac:=cZ G V B;obtain⟨ad,ae,dg,ac⟩:=RS.opn ac;obtain⟨af,ag,dh,ab⟩:=RS.opn ab;obtain⟨_,rfl⟩:=mixK Q (aC cX<|aC df<|aC dg<|aC c0<|aC dh aN);refine Ol (PX (cs:=[(.int .i64 12),(.slice ad [G].length ae),b13,n11,b13,n11,(str []),(.slice af [A.1].length ag)]) ϱ κ<|On<|Us (cs':=[(.int .i64 12),(.slice ad [G].length ae),b13,n11,b13,n11,(str []),(.slice af [A.1].length ag)]) P av io31 ?_);intro _ aL R bm;have ac:=ac.sp R;have ab:=ab.sp R;refine Ua<|Rh<|Ub<|St.len sl29 rfl<|Ol<|PW ϱ ϱ (fun cJ=>?_)<|fun cJ=>?_
   ·refine Nl (Uk<|Om<|Ua<|Rg<|Ub<|Uo (vs:=[(.int .i64 12),(.slice ad [G].length ae),b13,n11,b13,n11,(str []),(.slice af [A.1].length ag)]) bm ag31<|Ol<|P5 (T:=Jc) (css:=[[(.int .i64 12),(.slice ad [G].length ae),b13,n11,b13,n11,(str []),(.slice af [A.1].length ag)]]) (l:=[(.mk 12 [G] YT [] [A.1])]) aL sl29 io31 δ δ ϱ κ ⟨(Vg ω ω ξ ac RS.nil RS.nil ab),trivial⟩ ?_);intro _ _ bn aS di;have hL:=(hL.sp R aL<|fun _ h=>h).sp aS bn (fun _ h=>h)
    have i:=(i.spo R bj).spn aS;have E:=(E.spo R aQ).spn aS;refine Ol (P8 (T:=Jc) bn sl29 io31 ϱ ϱ hL (Z5 di) ι ι ϱ ?_);intro _ _ _ aT bo _ az;replace E:=E.ap bo E.mem;obtain⟨bp,bq,rfl,_,_⟩:=az.len;refine Oa (Nl<|Rg<|Ub<|PZ rfl<|Ol<|PJ Yn rfl<|Ol<|QF<|QT aT E cb99 ϱ ϱ (Xz aT.bd (s:=s) (p:=V) (o:=o) E.blk (aT.yx _ E.mem) (c:=42) (Rr.le (Z9<|Y2<|Rr.le (X2 hS hq) b) B) hs) ?_);intro _ _ aU br bs dj;have az:=az.sp br aU<|fun _ h=>h
    replace i:=(i.ap bo i.mem).spo br (TA n9);refine⟨_,dj,fun K=>?_,fun K=>?_⟩
    ·refine Ol<|QI rfl<|Nl<|Uc<|⟨_,(by have:=(Z6 hS hq (Q6 b d B) K);omega),_,_,(fpM s V 42),(k-1),(l++[(.mk 12 [G] YT [] [A.1])]),bp,bq,false,aU,rfl,rfl,rfl,rfl,rfl,az,bs,i,(Z6 hS hq (Q6 b d B) K).2,(by have:=(Z6 hS hq (Q6 b d B) K);omega),(by have:=(Z6 hS hq (Q6 b d B) K);omega),(by have:=(Z6 hS hq (Q6 b d B) K);rw[Tc,Tf];omega),(pr hM hk hq (Q6 b d B) K WZ),rfl⟩
    refine Ol<|QI rfl<|Nl<|Ud<|QB<|⟨_,_,(fpM s V 42),(l++[(.mk 12 [G] YT [] [A.1])]),bp,bq,false,aU,rfl,rfl,rfl,rfl,az,bs,i,(Y2<|Rr.le (Z9<|Y2<|Rr.le (X2 hS hq) b) B),(ol hM hk hq (Q6 b d B) K WZ),i',i'⟩
   refine Nl (Uc<|Rg<|Ub<|Uo (vs:=[(.int .i64 12),(.slice ad [G].length ae),b13,n11,b13,n11,(str []),(.slice af [A.1].length ag)]) bm ag31<|Ol<|P5 (T:=Jc) (css:=[[(.int .i64 12),(.slice ad [G].length ae),b13,n11,b13,n11,(str []),(.slice af [A.1].length ag)]]) (l:=[(.mk 12 [G] YT [] [A.1])]) aL sl29 io31 δ δ ϱ κ ⟨(Vg ω ω ξ ac RS.nil RS.nil ab),trivial⟩ ?_);intro _ _ bt aV dk;have hL:=(hL.sp R aL<|fun _ h=>h).sp aV bt (fun _ h=>h)
   have i:=(i.spo R bj).spn aV;have E:=(E.spo R aQ).spn aV;refine Ol (P8 (T:=Jc) bt sl29 io31 ϱ ϱ hL (Z5 dk) ι ι ϱ ?_);intro _ _ _ aW bu _ aA;replace E:=E.ap bu E.mem;obtain⟨bv,bw,rfl,_,_⟩:=aA.len;refine Oa (Nl<|Rg<|Ub<|PZ rfl<|Ol<|PJ Yn rfl<|Ol<|QF<|QT aW E cb99 ϱ ϱ (Xz aW.bd (s:=s) (p:=V) (o:=o) E.blk (aW.yx _ E.mem) (c:=42) (Rr.le (Z9<|Y2<|Rr.le (X2 hS hq) b) B) hs) ?_);intro _ _ aX bx bz dl;have aA:=aA.sp bx aX<|fun _ h=>h
   replace i:=(i.ap bu i.mem).spo bx (TA n9);refine⟨_,dl,fun L=>?_,fun L=>?_⟩
   ·refine Ol<|QI rfl<|Nl<|Uc<|⟨_,(by have:=(Z6 hS hq (Q6 b d B) L);omega),_,_,(fpM s V 42),(k-1),(l++[(.mk 12 [G] YT [] [A.1])]),bv,bw,pl,aX,rfl,rfl,rfl,rfl,rfl,aA,bz,i,(Z6 hS hq (Q6 b d B) L).2,(by have:=(Z6 hS hq (Q6 b d B) L);omega),(by have:=(Z6 hS hq (Q6 b d B) L);omega),(by have:=(Z6 hS hq (Q6 b d B) L);rw[Tc,Tf];omega),(pr hM hk hq (Q6 b d B) L W0),rfl⟩
   refine Ol<|QI rfl<|Nl<|Ud<|QB<|⟨_,_,(fpM s V 42),(l++[(.mk 12 [G] YT [] [A.1])]),bv,bw,pl,aX,rfl,rfl,rfl,rfl,aA,bz,i,(Y2<|Rr.le (Z9<|Y2<|Rr.le (X2 hS hq) b) B),(ol hM hk hq (Q6 b d B) L W0),i',i'⟩
  refine Nl<|Uc<|Rh<|Ub<|St.len sl29 rfl<|Ol<|PW ϱ ϱ (fun cK=>?_)<|fun cK=>?_
  ·refine Nl (Uk<|Om<|Ua<|Rg<|Ub<|Uo (vs:=(ec A.1 aj ak am an ao aq ar au)) av ag31<|Ol<|P5 (T:=Jc) (css:=[(ec A.1 aj ak am an ao aq ar au)]) (l:=[A.1]) aH sl29 io31 δ δ ϱ κ ⟨(Ju A.1 D.lo D.hi D.name D.n D.num D.den D.args),trivial⟩ ?_);intro _ _ bA aY dm;have hL:=(hL.sp aw aH<|fun _ h=>h).sp aY bA (fun _ h=>h)
   have H:=H.spn aY;have i:=(i.spo aw<|TA n9).spn aY;refine Ol (P8 (T:=Jc) bA sl29 io31 ϱ ϱ hL (Z5 dm) ι ι ϱ ?_);intro _ _ _ aZ bB _ aB;replace H:=H.ap bB H.mem;obtain⟨bC,bD,rfl,_,_⟩:=aB.len;refine Oa (Nl<|Rg<|Ub<|PZ rfl<|Ol<|PJ Yn rfl<|Ol<|QF<|QT aZ H cb99 ϱ ϱ (Xz aZ.bd (s:=s) (p:=(fpM s U 94)) (o:=o) H.blk (aZ.yx _ H.mem) (c:=42) (Y2<|Rr.le (X2 hS hq) b) hs) ?_);intro _ _ a3 bE bF dn;have aB:=aB.sp bE a3<|fun _ h=>h
   replace i:=(i.ap bB i.mem).spo bE (TA n9);refine⟨_,dn,fun M=>?_,fun M=>?_⟩
   ·refine Ol<|QI rfl<|Nl<|Uc<|⟨_,(by have:=(Z6 hS hq (qi b d) M);omega),_,_,(fpM s (fpM s U 94) 42),(k-1),(l++[A.1]),bC,bD,A.2,a3,rfl,rfl,rfl,rfl,rfl,aB,bF,i,(Z6 hS hq (qi b d) M).2,(by have:=(Z6 hS hq (qi b d) M);omega),(by have:=(Z6 hS hq (qi b d) M);omega),(by have:=(Z6 hS hq (qi b d) M);rw[Tc,Tf];omega),(pr hM hk hq (qi b d) M WZ),rfl⟩
   refine Ol<|QI rfl<|Nl<|Ud<|QB<|⟨_,_,(fpM s (fpM s U 94) 42),(l++[A.1]),bC,bD,A.2,a3,rfl,rfl,rfl,rfl,aB,bF,i,(Y2<|Y2<|Rr.le (X2 hS hq) b),(ol hM hk hq (qi b d) M WZ),i',i'⟩
  refine Nl (Uc<|Rg<|Ub<|Uo (vs:=(ec A.1 aj ak am an ao aq ar au)) av ag31<|Ol<|P5 (T:=Jc) (css:=[(ec A.1 aj ak am an ao aq ar au)]) (l:=[A.1]) aH sl29 io31 δ δ ϱ κ ⟨(Ju A.1 D.lo D.hi D.name D.n D.num D.den D.args),trivial⟩ ?_);intro _ _ bG a4 dp;have hL:=(hL.sp aw aH<|fun _ h=>h).sp a4 bG (fun _ h=>h)
  have H:=H.spn a4;have i:=(i.spo aw<|TA n9).spn a4;refine Ol (P8 (T:=Jc) bG sl29 io31 ϱ ϱ hL (Z5 dp) ι ι ϱ ?_);intro _ _ _ a5 bH _ aD;replace H:=H.ap bH H.mem;obtain⟨bI,bJ,rfl,_,_⟩:=aD.len;refine Oa (Nl<|Rg<|Ub<|PZ rfl<|Ol<|PJ Yn rfl<|Ol<|QF<|QT a5 H cb99 ϱ ϱ (Xz a5.bd (s:=s) (p:=(fpM s U 94)) (o:=o) H.blk (a5.yx _ H.mem) (c:=42) (Y2<|Rr.le (X2 hS hq) b) hs) ?_);intro _ _ a6 bK bL dq;have aD:=aD.sp bK a6<|fun _ h=>h
  replace i:=(i.ap bH i.mem).spo bK (TA n9);refine⟨_,dq,fun N=>?_,fun N=>?_⟩
  ·refine Ol<|QI rfl<|Nl<|Uc<|⟨_,(by have:=(Z6 hS hq (qi b d) N);omega),_,_,(fpM s (fpM s U 94) 42),(k-1),(l++[A.1]),bI,bJ,pl,a6,rfl,rfl,rfl,rfl,rfl,aD,bL,i,(Z6 hS hq (qi b d) N).2,(by have:=(Z6 hS hq (qi b d) N);omega),(by have:=(Z6 hS hq (qi b d) N);omega),(by have:=(Z6 hS hq (qi b d) N);rw[Tc,Tf];omega),(pr hM hk hq (qi b d) N W0),rfl⟩
  refine Ol<|QI rfl<|Nl<|Ud<|QB<|⟨_,_,(fpM s (fpM s U 94) 42),(l++[A.1]),bI,bJ,pl,a6,rfl,rfl,rfl,rfl,aD,bL,i,(Y2<|Y2<|Rr.le (X2 hS hq) b),(ol hM hk hq (qi b d) N W0),i',i'⟩
 rintro _ _ ⟨_,_,r,l,la,lc,pl,aE,bM,bN,bO,bP,hL,F,I,_,hM,hl,_⟩;obtain⟨_,rfl⟩:=rebK (aC bM<|aC bN<|aC bO<|aC bP aN);clear bM bN bO bP;cases minus
 ·refine PT<|Rm (fun f v=>∃(x y:Nat→Prop) (m:List GExpr) (ma:Option Addr) (mc:Nat),Cx X ⟨w,(· =g)⟩ x y v∧f 4=(P10 g1 0)∧f 5=(S12 ma m mc)∧RS Jc x v (S12 ma m mc) m∧Own ⟨w,(· =g)⟩ y v g [(str s),(.int .i64 r),(.int .i64 o)] 88∧Own ⟨w,(· =g)⟩ y v g1 zX 31∧Kw s S false o p= .ok (Ki 11 m) r) ?_ ?_
  ·refine Rg (Om<|Om<|Oz<|OF<|Nl<|Ug<|Om<|Nl<|Ue<|PR ?_);obtain⟨_,dr,_,ds⟩:=hL.freeze aE hX F.sees;refine⟨_,_,l,la,lc,dr,rfl,rfl,ds,F,I,(LX hM)⟩
  rintro _ _ ⟨_,_,m,ma,mc,bQ,bR,bS,Z,ah,bT,hZ⟩;obtain⟨_,rfl⟩:=rebK (aC bR<|aC bS aN);clear bR bS;refine Rh<|Ub<|St.len sl29 rfl<|Ol<|PW ϱ ϱ (fun aM=>?_)<|fun aM=>?_
  ·refine Nl (Uf<|Ub<|P4 (j:=0) (u:=(m.getD 0 Δ)) Z sl29 io31 ϱ ϱ ϱ (Je ω) ?_);intro _ _ _ bU;obtain⟨bV,bW,bX,bY,bZ,b0,b1,b2,rfl,a7⟩:=Jb bU.rd;refine Ol (QE (cs:=(ec (m.getD 0 Δ) bV bW bX bY bZ b0 b1 b2)) ag31 ϱ ϱ bU.cell<|On<|Us (cs':=(ec (m.getD 0 Δ) bV bW bX bY bZ b0 b1 b2)) bQ bT io31 ?_);intro _ b3 b4 dt;have a7:=a7.sp b4;have ah:=ah.spo b4 n9;refine Nl<|PS<|Kd ϱ (resV.c dt ϱ ag31 ϱ)<|RetP.ok (a:=(m.getD 0 Δ)) (q:=r) (w1 hZ aM) ⟨?_,?_⟩ b3.below
   ·exact SS (a:=(m.getD 0 Δ)) ((Mx (m.getD 0 Δ) a7).tr b3.wb) ϱ
   exact ah.blk
  refine Nl (Uc<|Rg<|Ub<|PX (cs:=[(.int .i64 11),n11,b13,n11,b13,n11,(str []),(S12 ma m mc)]) ϱ κ<|On<|Us (cs':=[(.int .i64 11),n11,b13,n11,b13,n11,(str []),(S12 ma m mc)]) bQ bT io31 ?_);intro _ b5 b6 du;have Z:=Z.sp b6;have ah:=ah.spo b6 n9;refine Nl<|PS<|Kd ϱ (resV.c du ϱ ag31 ϱ)<|RetP.ok (a:=(.mk 11 [] YT [] m)) (q:=r) (HP hZ aM) ⟨?_,?_⟩ b5.below
  ·exact SS (a:=(.mk 11 [] YT [] m)) ((Zb ω ω ξ RS.nil RS.nil RS.nil Z).tr b5.wb) ϱ
  exact ah.blk
 refine PT<|Rm (fun f v=>∃(x y:Nat→Prop) (m:List GExpr) (ma:Option Addr) (mc:Nat),Cx X ⟨w,(· =g)⟩ x y v∧f 4=(P10 g1 0)∧f 5=(S12 ma m mc)∧RS Jc x v (S12 ma m mc) m∧Own ⟨w,(· =g)⟩ y v g [(str s),(.int .i64 r),(.int .i64 o)] 88∧Own ⟨w,(· =g)⟩ y v g1 zX 31∧Kw s S true o p= .ok (Ki 11 m) r) ?_ ?_
 ·refine Rg<|Om<|Om<|OgD<|QF<|PP ⟨_,rfl,fun ax=>?_,fun ax=>?_⟩
  ·refine OT (Nl<|PM ϱ ?_);obtain⟨J,l0,rfl⟩:=Gq hl;obtain⟨dv,rfl⟩:=hL.adr hl;have hcb:cBd s J:=pr_c hM ax;have d9:=hcb.1;have eb:=hcb.2;refine PN (Om<|Ub<|Si hL sl29 io31 ϱ ϱ ?_);intro _ b7;obtain⟨_,_,dw,dx,dy,dz,_,_,rfl,b8⟩:=Jb b7.rd;refine Ol (PJ Yv rfl<|Ol<|QE (cs:=(qqC J.c dw dx dy dz)) ag28 ϱ ϱ (l9 b7.cell ϱ)<|Ol<|PK aE Cp ϱ ϱ (tm aE.bd (a:=J.c) (Jz b8.num b8.den) ω ω) ?_);intro _ _ b9 a8 dA;have hL:=hL.sp a8 b9<|fun _ h=>h
   have F:=F.spn a8;have I:=I.spn a8;obtain⟨dB,dC,dD,dE,rfl,dF,dG⟩:=ST dA;refine Ol (Si hL sl29 io31 ϱ ϱ ?_);intro _ ca;obtain⟨dH,dI,_,_,_,_,dJ,dK,rfl,aF⟩:=Jb ca.rd;refine Ol (PJ Yv rfl<|On<|Ss (cs':=[(.int .i64 J.op),(S12 dH J.n dI),(.bool (ofQ<|-J.c.q).num.neg),(S12 dB (ofQ<|-J.c.q).num.mag dC),(.bool (ofQ<|-J.c.q).den.neg),(S12 dD (ofQ<|-J.c.q).den.mag dE),(str J.name),(S12 dJ J.args dK)]) (u':=(.mk J.op J.n (ofQ<|-J.c.q) J.name J.args)) b9 hL ca io28 ϱ ϱ ϱ ϱ ϱ ϱ (Vg aF.lo aF.hi aF.name aF.n dF dG aF.args) ?_);intro _ dL cb dM;replace F:=F.ap cb F.mem;replace I:=I.ap cb I.mem;refine Nl ?_;obtain⟨_,dN,_,dO⟩:=dM.freeze dL hX F.sees;refine⟨_,_,((.mk J.op J.n (ofQ<|-J.c.q) J.name J.args)::l0),(some ⟨dv,0,none⟩),lc,dN,rfl,rfl,dO,F,I,(ND hM ax)⟩
  refine OT (Nl<|Ug<|Om<|Nl<|Uk<|Ol<|PK aE oA ϱ ϱ (oK aE.bd ω ω) ?_);intro _ _ cc a9 dP;have F:=F.spn a9;have I:=I.spn a9;obtain⟨cd,ce,cf,cg,rfl,dQ,dR⟩:=ST dP;refine Ol (PX (cs:=[(.int .i64 1),n11,(.bool (ofQ<|Rat.divInt (-1) 1).num.neg),(S12 cd (ofQ<|Rat.divInt (-1) 1).num.mag ce),(.bool (ofQ<|Rat.divInt (-1) 1).den.neg),(S12 cf (ofQ<|Rat.divInt (-1) 1).den.mag cg),(str []),n11]) ϱ κ<|Ol<|P5 (T:=Jc) (css:=[[(.int .i64 1),n11,(.bool (ofQ<|Rat.divInt (-1) 1).num.neg),(S12 cd (ofQ<|Rat.divInt (-1) 1).num.mag ce),(.bool (ofQ<|Rat.divInt (-1) 1).den.neg),(S12 cf (ofQ<|Rat.divInt (-1) 1).den.mag cg),(str []),n11]]) (l:=[(.mk 1 [] (ofQ<|Rat.divInt (-1) 1) [] [])]) cc sl29 io31 δ δ ϱ κ ⟨(Vg ω ω ξ RS.nil dQ dR RS.nil),trivial⟩ ?_);intro _ _ ch ba dS;have hL:=(hL.sp a9 cc<|fun _ h=>h).sp ba ch (fun _ h=>h)
  refine Om (Ol<|Ri (T:=Jc) ch sl29 io31 ϱ ϱ dS (Pm hL) ι ι ϱ ?_);intro _ _ dT ci cj;have F:=(F.spn ba).spn ci;have I:=(I.spn ba).spn ci;obtain⟨dU,dV,rfl,_,_⟩:=cj.len;refine Ua<|⟨_,_,([(.mk 1 [] (ofQ<|Rat.divInt (-1) 1) [] [])]++l),dU,dV,dT,rfl,rfl,cj,F,I,(L1 hM ax)⟩
 rintro _ _ ⟨_,_,m,ma,mc,ck,cm,cn,Z,ai,co,hZ⟩;obtain⟨_,rfl⟩:=rebK (aC cm<|aC cn aN);clear cm cn;refine Rh<|Ub<|St.len sl29 rfl<|Ol<|PW ϱ ϱ (fun aO=>?_)<|fun aO=>?_
 ·refine Nl (Uf<|Ub<|P4 (j:=0) (u:=(m.getD 0 Δ)) Z sl29 io31 ϱ ϱ ϱ (Je ω) ?_);intro _ _ _ cp;obtain⟨cq,cr,ct,cu,cv,cw,cy,cz,rfl,bb⟩:=Jb cp.rd;refine Ol (QE (cs:=(ec (m.getD 0 Δ) cq cr ct cu cv cw cy cz)) ag31 ϱ ϱ cp.cell<|On<|Us (cs':=(ec (m.getD 0 Δ) cq cr ct cu cv cw cy cz)) ck co io31 ?_);intro _ cE cF dW;have bb:=bb.sp cF;have ai:=ai.spo cF n9;refine Nl<|PS<|Kd ϱ (resV.c dW ϱ ag31 ϱ)<|RetP.ok (a:=(m.getD 0 Δ)) (q:=r) (w1 hZ aO) ⟨?_,?_⟩ cE.below
  ·exact SS (a:=(m.getD 0 Δ)) ((Mx (m.getD 0 Δ) bb).tr cE.wb) ϱ
  exact ai.blk
 refine Nl (Uc<|Rg<|Ub<|PX (cs:=[(.int .i64 11),n11,b13,n11,b13,n11,(str []),(S12 ma m mc)]) ϱ κ<|On<|Us (cs':=[(.int .i64 11),n11,b13,n11,b13,n11,(str []),(S12 ma m mc)]) ck co io31 ?_);intro _ cG cH dX;have Z:=Z.sp cH;have ai:=ai.spo cH n9;refine Nl<|PS<|Kd ϱ (resV.c dX ϱ ag31 ϱ)<|RetP.ok (a:=(.mk 11 [] YT [] m)) (q:=r) (HP hZ aO) ⟨?_,?_⟩ cG.below
 ·exact SS (a:=(.mk 11 [] YT [] m)) ((Zb ω ω ξ RS.nil RS.nil RS.nil Z).tr cG.wb) ϱ
 exact ai.blk
theorem BI{g:Nat}{s:List UInt8}{p o:Nat}(hB:Blk w g (rc s p o) 88)(hXg:X g){S:Nat→Nat→Rr GExpr}{lo:Nat}(hp:p≤s.length)(hs:s.length≤65536)(ho:o≤64)(hS:∀o p,p≤s.length→(S o p).fw s p)(ih:SumC s S lo)(hlo:lo≤p):Calls Tryz.prog 67 #[(P10 g 0)] w (RetP w g (sumF s S o p) fun a q v w'=>RV Jc X w' v a∧Blk w' g (rc s q o) 88):=by
 have C:=Rd g hX hXg;have Y:=SW hB
 have:maxLen=9223372036854775807:=rfl
 refine Cgo Tryz.func67 r r r (Rg<|Ol<|PU C io31 r ?_);intro g1 _ _ _ bh C6 s7 Z;have P:=bh _ Y.blk.lt;have Y:=Y.spn s7;refine Nl (Rg<|Om<|Ub<|PZ rfl<|Ol<|PJ Yn rfl<|Ol<|QT C6 Y cb99 r r (Xz C6.bd (s:=s) (p:=p) (o:=o) Y.blk (C6.yx _ Y.mem) (c:=45) hp hs) ?_);intro _ _ aa bi ab bj;have Z:=Z.spo bi (TA P);subst bj;refine Ol<|QJ (cs':=fun a q=>rc s q o) aa ab cb98 r r (og aa.bd (s:=s) (p:=(fpM s p 45)) (o:=o) ab.blk (aa.yx _ ab.mem) (Y2 hp) hs ho hS ih (by have h0:=vd (s:=s) (p:=p) (c:=45);omega)) ?_ ?_
 ·intro _ _ _ E bk;exact Ze (LU E) bk
 intro _ _ U bl E bm bn ac bo;obtain⟨bp,bq,br,bs,bt,bu,bv,bw,rfl,F⟩:=SR bo;refine Ol (Sj (T:=Jc) (css:=[(ec U bp bq br bs bt bu bv bw)]) (l:=[U]) bm sl29 io31 δ δ r κ ⟨(Ju U F.lo F.hi F.name F.n F.num F.den F.args),trivial⟩ ?_);intro bx _ _ bz aG _ bA;have ac:=ac.spn aG;have Z:=(Z.spo bn<|TA P).spn aG;refine Oa (Nl<|W.block<|P7 (fun μ f v=>∃(x y:Nat→Prop) (q:Nat) (k:Nat) (l:List GExpr) (la:Option Addr) (lc:Nat),Cx X ⟨w,(· =g)⟩ x y v∧f 0=(P10 g 0)∧f 2=(P10 g1 0)∧f 3=(S12 la l lc)∧OS Jc 31 ⟨w,(· =g)⟩ x y v (S12 la l lc) l∧Own ⟨w,(· =g)⟩ y v g [(str s),(.int .i64 q),(.int .i64 o)] 88∧Own ⟨w,(· =g)⟩ y v g1 zX 31∧q≤s.length∧lo≤q∧s.length<q+k∧l.length≤q+1∧(sumF s S o p=(sumL s S o k l q).th fun l q=> .ok (Ki 10 l) q)∧μ=(s.length+1-q)) _ ⟨_,_,bl,(s.length+1),[U],(some ⟨bx,0,none⟩),1,bz,rfl,rfl,rfl,bA,ac,Z,(Rr.le (Y5 hS<|Y2 hp) E),(by have h0:=vd (s:=s) (p:=p) (c:=45);have h1:=Rr.ge (Y5 hS<|Y2 hp) E;omega),ω,Z',(Ob E),rfl⟩ ?_);rintro _ _ _ ⟨_,_,q,k,l,la,lc,ad,aH,aI,aJ,hL,ae,b,hq,_,hk,_,hM,_⟩;obtain⟨_,rfl⟩:=rebK (aC aH<|aC aI<|aC aJ aN);clear aH aI aJ;refine W.block (W.block<|Rg<|Ub<|PZ rfl<|Ol<|PJ Yn rfl<|Ol<|QF<|QT ad ae cb99 r r (Xz ad.bd (s:=s) (p:=q) (o:=o) ae.blk (ad.yx _ ae.mem) (c:=43) hq hs) ?_);intro _ _ G aK J bB;have hL:=hL.sp aK G<|fun _ h=>h
 have b:=b.spo aK (TA P);refine⟨_,bB,fun i=>?_,fun i=>?_⟩
 ·refine Ua<|Uk<|Om<|Ub<|QJ (cs':=fun a q=>rc s q o) G J cb98 r r (og G.bd (s:=s) (p:=(fpM s q 43)) (o:=o) J.blk (G.yx _ J.mem) (Y2 hq) hs ho hS ih (by have h0:=vd (s:=s) (p:=q) (c:=43);omega)) ?_ ?_
  ·intro _ _ _ A bC;exact Ze (NO hM hk hq i A) bC
  intro _ _ V bD A aL aM K bE;obtain⟨bF,bG,bH,bI,bJ,bK,bL,bM,rfl,H⟩:=SR bE;refine Ol (P5 (T:=Jc) (css:=[(ec V bF bG bH bI bJ bK bL bM)]) (l:=[V]) aL sl29 io31 δ δ r κ ⟨(Ju V H.lo H.hi H.name H.n H.num H.den H.args),trivial⟩ ?_);intro _ _ aO af bN;have hL:=(hL.sp aM aL<|fun _ h=>h).sp af aO (fun _ h=>h)
  have K:=K.spn af;have b:=(b.spo aM<|TA P).spn af;refine Ol (P8 (T:=Jc) aO sl29 io31 r r hL (Z5 bN) ι ι r ?_);intro _ _ _ bO aP _ ag;replace K:=K.ap aP K.mem;replace b:=b.ap aP b.mem;obtain⟨aS,aT,rfl,_,_⟩:=ag.len;refine Ua<|⟨_,(by have:=(Q9 (fun p hp a q e=>by have h:=Y5 (minus:=false) (o:=o) hS hp;rw[e] at h;exact h) hq i A);omega),_,_,bD,(k-1),(l++[V]),aS,aT,bO,rfl,rfl,rfl,ag,K,b,(Q9 (fun p hp a q e=>by have h:=Y5 (minus:=false) (o:=o) hS hp;rw[e] at h;exact h) hq i A).2,(by have:=(Q9 (fun p hp a q e=>by have h:=Y5 (minus:=false) (o:=o) hS hp;rw[e] at h;exact h) hq i A);omega),(by have:=(Q9 (fun p hp a q e=>by have h:=Y5 (minus:=false) (o:=o) hS hp;rw[e] at h;exact h) hq i A);omega),(by have:=(Q9 (fun p hp a q e=>by have h:=Y5 (minus:=false) (o:=o) hS hp;rw[e] at h;exact h) hq i A);rw[Tc,Tf];omega),(Pd hM hk hq i A),rfl⟩
 refine Oa (Nl<|Ug<|Ub<|PZ rfl<|Ol<|PJ Yn rfl<|Ol<|QF<|QT G J cb99 r r (Xz G.bd (s:=s) (p:=(fpM s q 43)) (o:=o) J.blk (G.yx _ J.mem) (c:=45) (Y2 hq) hs) ?_);intro _ _ I ah z aU;have hL:=hL.sp ah I<|fun _ h=>h
 have b:=b.spo ah (TA P);refine⟨_,aU,fun d=>?_,fun d=>?_⟩
 ·refine Ua<|Uk<|Om<|Ub<|QJ (cs':=fun a q=>rc s q o) I z cb98 r r (og I.bd (s:=s) (p:=(fpM s (fpM s q 43) 45)) (o:=o) z.blk (I.yx _ z.mem) (Y2<|Y2 hq) hs ho hS ih (by have h0:=vd (s:=s) (p:=q) (c:=43);have h1:=vd (s:=s) (p:=(fpM s q 43)) (c:=45);omega)) ?_ ?_
  ·intro _ _ _ m aV;exact Ze (Of hM hk hq i d m) aV
  intro _ _ L aW m ai aj D aX;obtain⟨aY,aZ,a0,a3,a4,a5,a6,a7,rfl,B⟩:=SR aX;refine Ol (P5 (T:=Jc) (css:=[(ec L aY aZ a0 a3 a4 a5 a6 a7)]) (l:=[L]) ai sl29 io31 δ δ r κ ⟨(Ju L B.lo B.hi B.name B.n B.num B.den B.args),trivial⟩ ?_);intro _ _ ak Q a8;have hL:=(hL.sp aj ai<|fun _ h=>h).sp Q ak (fun _ h=>h)
  have D:=D.spn Q;have b:=(b.spo aj<|TA P).spn Q;refine Ol (P8 (T:=Jc) ak sl29 io31 r r hL (Z5 a8) ι ι r ?_);intro _ _ _ a9 am _ an;replace D:=D.ap am D.mem;replace b:=b.ap am b.mem;obtain⟨ba,bb,rfl,_,_⟩:=an.len;refine Ua<|⟨_,(by have:=(Q9 (fun p hp a q e=>by have h:=Y5 (minus:=true) (o:=o) hS hp;rw[e] at h;exact h) (Y2 hq) d m);have h9:=vd (s:=s) (p:=q) (c:=43);omega),_,_,aW,(k-1),(l++[L]),ba,bb,a9,rfl,rfl,rfl,an,D,b,(Q9 (fun p hp a q e=>by have h:=Y5 (minus:=true) (o:=o) hS hp;rw[e] at h;exact h) (Y2 hq) d m).2,(by have:=(Q9 (fun p hp a q e=>by have h:=Y5 (minus:=true) (o:=o) hS hp;rw[e] at h;exact h) (Y2 hq) d m);have h9:=vd (s:=s) (p:=q) (c:=43);omega),(by have:=(Q9 (fun p hp a q e=>by have h:=Y5 (minus:=true) (o:=o) hS hp;rw[e] at h;exact h) (Y2 hq) d m);have h9:=vd (s:=s) (p:=q) (c:=43);omega),(by have:=(Q9 (fun p hp a q e=>by have h:=Y5 (minus:=true) (o:=o) hS hp;rw[e] at h;exact h) (Y2 hq) d m);have h9:=vd (s:=s) (p:=q) (c:=43);rw[Tc,Tf];omega),(ON hM hk hq i d m),rfl⟩
 refine Oa (Nl<|Ue<|PT ?_);obtain⟨_,ao,_,M⟩:=hL.freeze I hX z.sees;refine PN<|Ub<|St.len sl29 rfl<|Ol<|PW r r (fun N=>?_)<|fun N=>?_
 ·refine Oa (Nl<|Uf<|Ub<|P4 (j:=0) (u:=(l.getD 0 Δ)) M sl29 io31 r r r (Je ω) ?_);intro _ _ _ aq;obtain⟨ar,au,av,aw,ax,ay,az,aA,rfl,R⟩:=Jb aq.rd;refine Ol (QE (cs:=(ec (l.getD 0 Δ) ar au av aw ax ay az aA)) ag31 r r aq.cell<|On<|Us (cs':=(ec (l.getD 0 Δ) ar au av aw ax ay az aA)) ao b io31 ?_);intro _ aB aD be;have R:=R.sp aD;have z:=z.spo aD P;refine Nl<|PS<|Kd r (resV.c be r ag31 r)<|RetP.ok (a:=(l.getD 0 Δ)) (q:=(fpM s (fpM s q 43) 45)) (w1 (FG hM hk hq i d) N) ⟨?_,?_⟩ aB.below
  ·exact SS (a:=(l.getD 0 Δ)) ((Mx (l.getD 0 Δ) R).tr aB.wb) r
  exact z.blk
 refine Oa (Nl<|Ug<|Ub<|PX (cs:=[(.int .i64 10),n11,b13,n11,b13,n11,(str []),(S12 la l lc)]) r κ<|On<|Us (cs':=[(.int .i64 10),n11,b13,n11,b13,n11,(str []),(S12 la l lc)]) ao b io31 ?_);intro _ aE aF bf;have M:=M.sp aF;have z:=z.spo aF P;refine Nl<|PS<|Kd r (resV.c bf r ag31 r)<|RetP.ok (a:=(.mk 10 [] YT [] l)) (q:=(fpM s (fpM s q 43) 45)) (HP (FG hM hk hq i d) N) ⟨?_,?_⟩ aE.below
 ·exact SS (a:=(.mk 10 [] YT [] l)) ((Zb ω ω ξ RS.nil RS.nil RS.nil M).tr aE.wb) r
 exact z.blk
end
theorem EQ{s:List UInt8}:∀k lo:Nat,s.length≤lo+k→SumC s (sumM s k) lo
 |0,lo,h=>by intro hX g p o hB hXg hp hs ho hlo;exact absurd hlo ω
 |k+1,lo,h=>by intro hX g p o hB hXg hp hs ho hlo;exact BI hX hB hXg hp hs ho (xz k) (EQ k p ω)<|Tu p
end Go.Wf
namespace Go.Ev
open Go Go.Wf Go.RowKit
section
variable {fc:Fence} {P:Program} {n:Nat}
theorem M0{n:Nat}{vs:List Value}(hl:vs.length≤n):Wf.Good n [] {tmps:=vs.toArray++Array.replicate (n-vs.toArray.size) undef,defers:=[]}∧frOf {tmps:=vs.toArray++Array.replicate (n-vs.toArray.size) undef,defers:=[]}=nv vs:=by
 refine⟨⟨by simp;omega,rfl⟩,?_⟩
 funext t
 simp only[frOf,nv,Ts,Tq,Array.getElem?_append];by_cases ht:t<vs.length
 ·simp[ht]
 ·simp only[UY,ht,if_false];rw[TQ o];simp only[Array.getElem?_replicate];split<;>rfl
theorem pU{fn:Func}{c:Code}{k:FuncId}{cs:Array Value}{w:World}(hf:P.funcs[k]? =some fn)(hname:(fn.name == "runtime.NumGoroutine")=false)(hb:fn.body=some c):(invoke (.fn (.func k) cs) #[]).run P w= .ok (.enter k cs) w:=by
 have a:fn.name≠ "runtime.NumGoroutine" :=by simpa using hname
 simp[invoke,callFunc,hf,a,hb]
end
end Go.Ev
namespace Go.Wf
open Go Go.Proofs Go.Ev
variable{R:World→Prop}{T:TypeId}{b g i j p:Nat}{cs vs:List Value}{e:Int}
section
variable {P:Program}
abbrev nj(R:World→Prop):Ending→FrameMode→World→Prop:=fun en u w=>(∃y,en= .returned y)∧settle u= .returning∧R w
def recQ(R:World→Prop):Post:=fun ex _ w=>(ex= .normal∨ex= .ret)∧R w
theorem CallsD.ofRec {k:FuncId} {fn:Func}  {t u0:Tmp} {id n:Nat} {ts:Array TypeId} {a d:TypeId} {e g:String} {a1 a2:Array Edge} {b:Code} {x:Value} {u:FrameMode} {w:World} 
  (hf:P.funcs[k]? =some fn) (hb:fn.body=some (.seq (.region id #[⟨some t,.call ⟨.builtin .recover,#[],ts⟩,a,e,a1,none⟩,⟨some u0,.assign (.tmp t),d,g,a2,none⟩] false) b)) (hres:fn.results= #[]) (hn:fn.ntmps=n)
  (hl:Nat.ble vs.length n=true) (i:Nat.blt t n=true) (j:Nat.blt u0 n=true) (hu:(u= .returning∧x= .nilIface)∨u= .panicking [{v:=x,recovered:=false}])
  (hW:W Fence.wide P b n [] (recQ R) (upd (upd (nv vs) t x) u0 x) w):CallsD P k vs.toArray u w (nj R):=by
 subst hn;have hl:=TG hl;have i:t<fn.ntmps:=wy i;have j:u0<fn.ntmps:=wy j;refine callsD_of_wpS hf hb fun c₀ cs h=>?_
 obtain⟨hgood,hfr⟩:=M0 (n:=fn.ntmps) (vs:=vs) hl;obtain⟨c1,hset,hrec⟩:∃(c1:FrameMode),settle c1= .returning∧((recoverD (c₀::cs)=some (x,{c₀ with mode:=c1}::cs))∨(recoverD (c₀::cs)=none∧x= .nilIface∧c₀::cs={c₀ with mode:=c1}::cs)):=by
  rcases hu with ⟨rfl,rfl⟩|rfl
  ·exact⟨.returning,rfl,.inr ⟨by simp[recoverD,h],rfl,by rw[←h]⟩⟩
  ·exact⟨.panicking [{v:=x,recovered:=true}],rfl,.inl (by simp[recoverD,h])⟩
 refine wpS_seq (wpS_region ?_);have hrange:List.range (#[(⟨some t,.call ⟨.builtin .recover,#[],ts⟩,a,e,a1,none⟩:Oper),⟨some u0,.assign (.tmp t),d,g,a2,none⟩]).size=[0,1]:=rfl;rw[hrange];have hend:∀(act:Act),Wf.Good fn.ntmps [] act→frOf act=upd (upd (nv vs) t x) u0 x→b.wpS P (bodyPostS P fn c₀ cs (nj R)) act ({c₀ with mode:=c1}::cs) w:=by
  intro act hact hfa;refine wpS_of_wp (wp_mono (hW.wide hact hfa) ?_);rintro _ act' w' ⟨ga,hex,hR⟩;have done:act'.defers=[]∧∃u',({c₀ with mode:=c1}::cs:List Frame)={c₀ with mode:=u'}::cs∧∃v,(results fn act'.tmps).run P w'= .ok v w'∧nj R (.returned v) u' w':=by
   refine⟨ga.defers,c1,rfl,.tuple #[],?_,⟨_,rfl⟩,hset,hR⟩;rw[Vu,hres];simp
  rcases hex with rfl|rfl
  ·exact done
  ·exact done
 have hput:∀(act:Act),Wf.Good fn.ntmps [] act→frOf act=nv vs→Wf.Good fn.ntmps [] ((act.put (some t) x).put (some u0) x)∧frOf ((act.put (some t) x).put (some u0) x)=upd (upd (nv vs) t x) u0 x:=by
  intro act hact hfa;refine⟨(hact.put _ _).put _ _,?_⟩;rw[Yp (hact.put _ _) (some u0) (show lo fn.ntmps (some u0) from j),Yp hact (some t) (show lo fn.ntmps (some t) from i),hfa];rfl
 have hev:∀(act:Act),Wf.Good fn.ntmps [] act→(act.put (some t) x).eval (.tmp t)=x:=by
  intro act hact;rw[mU,Yp hact (some t) (show lo fn.ntmps (some t) from i)];show upd (frOf act) t x t=x;simp[upd]
 obtain⟨k1,k2⟩:=hput _ hgood hfr;have y:=hev _ hgood;have A:(execOp (Act.eval {tmps:=vs.toArray++Array.replicate (fn.ntmps-vs.toArray.size) undef,defers:=[]}) ⟨some t,.call ⟨.builtin .recover,#[],ts⟩,a,e,a1,none⟩).run P w= .ok .recover w:=by
  simp[execOp,resolve,invoke,builtin]
 have l:(#[(⟨some t,.call ⟨.builtin .recover,#[],ts⟩,a,e,a1,none⟩:Oper),⟨some u0,.assign (.tmp t),d,g,a2,none⟩])[0]? =some ⟨some t,.call ⟨.builtin .recover,#[],ts⟩,a,e,a1,none⟩:=rfl;have m:(#[(⟨some t,.call ⟨.builtin .recover,#[],ts⟩,a,e,a1,none⟩:Oper),⟨some u0,.assign (.tmp t),d,g,a2,none⟩])[1]? =some ⟨some u0,.assign (.tmp t),d,g,a2,none⟩:=rfl;have p:∀(z:Nat→Option Bool),Region.wanted (⟨some t,.call ⟨.builtin .recover,#[],ts⟩,a,e,a1,none⟩:Oper) z=true:=fun z=>rfl
 have s:∀(z:Nat→Option Bool),Region.wanted (⟨some u0,.assign (.tmp t),d,g,a2,none⟩:Oper) z=true:=fun z=>rfl
 have second:∀cs',cs'={c₀ with mode:=c1}::cs→wpOpsS P #[(⟨some t,.call ⟨.builtin .recover,#[],ts⟩,a,e,a1,none⟩:Oper),⟨some u0,.assign (.tmp t),d,g,a2,none⟩] (Exit.thenS (b.wpS P (bodyPostS P fn c₀ cs (nj R))) (bodyPostS P fn c₀ cs (nj R))) [1] (Act.put {tmps:=vs.toArray++Array.replicate (fn.ntmps-vs.toArray.size) undef,defers:=[]} (some t) x) cs' w:=by
  rintro cs' rfl;simp only[wpOpsS,m,s,if_true];have h1':(execOp (Act.put {tmps:=vs.toArray++Array.replicate (fn.ntmps-vs.toArray.size) undef,defers:=[]} (some t) x).eval ⟨some u0,.assign (.tmp t),d,g,a2,none⟩).run P w= .ok (.value x) w:=by
   simp only[execOp,y,Sem.run_pure]
  rw[h1'];exact hend _ k1 k2
 unfold wpOpsS;simp only[l,p,if_true,A];rcases hrec with hrec|⟨hrec,rfl,hcs⟩
 ·rw[hrec];exact second _ r
 ·rw[hrec];exact second _ hcs
def defQ(P:Program)(fn:Func)(k:FuncId)(vs:List Value)(R:Ending→World→Prop):Post
 |.normal,f,w | .ret,f,w=>CallsD P k vs.toArray .returning w (nj fun w'=>∃v,(∀tmps:Array Value,(∀t,tmps.getD t undef=f t)→(results fn tmps).run P w'= .ok v w')∧R (.returned v) w')
 |.panic ch,f,w=>CallsD P k vs.toArray (.panicking ch) w (nj fun w'=>∃v,(∀tmps:Array Value,(∀t,tmps.getD t undef=f t)→(results fn tmps).run P w'= .ok v w')∧R (.returned v) w')
 |_,_,_=>False
def begQ(P:Program)(fn:Func)(n:Nat)(k:FuncId)(cp:List Operand)(t:Tmp)(b:Code)(R:Ending→World→Prop):Post:=fun ex f w=>ex= .normal∧W Fence.wide P b n [⟨.fn (.func k) (cp.map (fe f)).toArray,#[]⟩] (defQ P fn k (cp.map (fe f)) R) (upd f t (.func (.func k) #[] (cp.map (fe f)).toArray)) w
theorem SY {f k:FuncId} {fn fk:Func} {args:List Value} {t:Tmp} {id n:Nat} {ts:Array TypeId} {cp:List Operand} {d e:TypeId} {g i:String} {a1 a2:Array Edge} {A b ck:Code} {w:World} {R:Ending→World→Prop}
  (hf:P.funcs[f]? =some fn) (hb:fn.body=some (.seq A (.seq (.region id #[⟨some t,.makeFunc (.func k) #[] cp.toArray,d,g,a1,none⟩,⟨none,.defer ⟨.value (.tmp t),#[],ts⟩,e,i,a2,none⟩] false) b))) (hn:fn.ntmps=n)
  (hl:Nat.ble args.length n=true) (ht:Nat.blt t n=true) (hk:P.funcs[k]? =some fk) (hkn:(fk.name == "runtime.NumGoroutine")=false) (hkb:fk.body=some ck)
  (h:W Fence.wide P A n [] (begQ P fn n k cp t b R) (nv args) w):Calls P f args.toArray w R:=by
 subst hn;have ht:t<fn.ntmps:=wy ht;obtain⟨hgood,hfr⟩:=M0 (n:=fn.ntmps) (vs:=args) (TG hl);refine calls_of_wp_defers hf hb (wp_seq (wp_mono (h.wide hgood hfr) ?_));rintro ex a j ⟨ha,rfl,hB⟩;have hce:cp.toArray.map a.eval=(cp.map (fe (frOf a))).toArray:=by apply TX;rw[mU];simp
 generalize hcv:cp.map (fe (frOf a))=cvs at hB hce;refine wp_seq (wp_region ?_);have hrange:List.range (#[(⟨some t,.makeFunc (.func k) #[] cp.toArray,d,g,a1,none⟩:Oper),⟨none,.defer ⟨.value (.tmp t),#[],ts⟩,e,i,a2,none⟩]).size=[0,1]:=rfl;rw[hrange];have l:(#[(⟨some t,.makeFunc (.func k) #[] cp.toArray,d,g,a1,none⟩:Oper),⟨none,.defer ⟨.value (.tmp t),#[],ts⟩,e,i,a2,none⟩])[0]? =some ⟨some t,.makeFunc (.func k) #[] cp.toArray,d,g,a1,none⟩:=rfl;have m:(#[(⟨some t,.makeFunc (.func k) #[] cp.toArray,d,g,a1,none⟩:Oper),⟨none,.defer ⟨.value (.tmp t),#[],ts⟩,e,i,a2,none⟩])[1]? =some ⟨none,.defer ⟨.value (.tmp t),#[],ts⟩,e,i,a2,none⟩:=rfl;have p:∀(z:Nat→Option Bool),Region.wanted (⟨some t,.makeFunc (.func k) #[] cp.toArray,d,g,a1,none⟩:Oper) z=true:=fun z=>rfl
 have s:∀(z:Nat→Option Bool),Region.wanted (⟨none,.defer ⟨.value (.tmp t),#[],ts⟩,e,i,a2,none⟩:Oper) z=true:=fun z=>rfl
 simp only[wpOps,l,m,p,s,if_true];left;unfold Oper.wp;have y:(execOp a.eval ⟨some t,.makeFunc (.func k) #[] cp.toArray,d,g,a1,none⟩).run P j= .ok (.value (.func (.func k) #[] cvs.toArray)) j:=by
  simp[execOp,Instr.makeFunc] at hce ⊢;exact hce
 rw[y]
 show(_:Prop)∨_
 left;have hev:(a.put (some t) (.func (.func k) #[] cvs.toArray)).eval (.tmp t)= .func (.func k) #[] cvs.toArray:=by
  rw[mU,Yp ha (some t) (show lo fn.ntmps (some t) from ht)];show upd (frOf a) t _ t=_;simp[upd]
 have B:(execOp (a.put (some t) (.func (.func k) #[] cvs.toArray)).eval ⟨none,.defer ⟨.value (.tmp t),#[],ts⟩,e,i,a2,none⟩).run P j= .ok (.defer ⟨.fn (.func k) cvs.toArray,#[]⟩) j:=by
  simp[execOp,resolve,Deferred.ofValue,hev]
 rw[B]
 show(b.wp P _ _ j)
 have ga:Wf.Good fn.ntmps [⟨.fn (.func k) cvs.toArray,#[]⟩] (({(a.put (some t) (.func (.func k) #[] cvs.toArray)) with defers:=(⟨.fn (.func k) cvs.toArray,#[]⟩:Deferred)::(a.put (some t) (.func (.func k) #[] cvs.toArray)).defers}:Act).put none undef):=by
  have:=ha.put (some t) (.func (.func k) #[] cvs.toArray)
  exact⟨this.size,by show _::(a.put (some t) _).defers=_;rw[this.defers]⟩
 have gf:frOf (({(a.put (some t) (.func (.func k) #[] cvs.toArray)) with defers:=(⟨.fn (.func k) cvs.toArray,#[]⟩:Deferred)::(a.put (some t) (.func (.func k) #[] cvs.toArray)).defers}:Act).put none undef)=upd (frOf a) t (.func (.func k) #[] cvs.toArray):=by
  have:=Yp ha (some t) (show lo fn.ntmps (some t) from ht) (.func (.func k) #[] cvs.toArray)
  exact this
 refine wp_mono (hB.wide ga gf) ?_;rintro ex a' x ⟨gg,qq⟩;have leaves:∀u,u≠ .run→CallsD P k cvs.toArray u x (nj fun w'=>∃v,(∀tmps:Array Value,(∀t,tmps.getD t undef=frOf a' t)→(results fn tmps).run P w'= .ok v w')∧R (.returned v) w')→Leaves P fn a'.tmps R a'.defers u x:=by
  intro u hu hq;rw[gg.defers];refine leaves_cons hu (pU hk hkn hkb) (hq.mono ?_);rintro _ u' C ⟨⟨_,rfl⟩,hset,v,hrun,hR⟩;show Leaves P fn a'.tmps _ [] (settle u') C;rw[hset];exact⟨v,hrun a'.tmps (fun _=>rfl),hR⟩
 cases ex with
 |normal=>exact leaves _ (fun h=>by cases h) qq
 |ret=>exact leaves _ (fun h=>by cases h) qq
 |panic ch=>exact leaves _ (fun h=>by cases h) qq
 |_=>exact qq.elim
end
section
variable {P:Program} {ρ:Operand→Value} {dst:Option Tmp} {ty:TypeId} {pos:String} {after:Array Edge} {gd:Option (Nat×Bool)} {w:World} {K:Value→World→Prop} {Kp:List PanicEntry→World→Prop}
theorem Sx{x:Operand}{t t':TypeId}{m:Array (String×TypeId)}(hq:P.underlying t=some (.interface m))(hc:ρ (.const .nilIface)= .nilIface)(hx:ρ x= .nilIface)(h:K (.bool false) w):St P ρ ⟨dst,.binOp .neq t x (.const .nilIface) t',ty,pos,after,gd⟩ w K Kp:=by
 refine P9 (v:= .bool false) ?_ h;have e:(binOp .neq t .nilIface .nilIface).run P w= .ok (.bool false) w:=by
  rw[show binOp .neq t .nilIface .nilIface=(do pure (.bool (!(←Op.equal t .nilIface .nilIface)))) from rfl,eqIn,Sem.run_bind,eqI0 hq];rfl
 simp[execOp,hx,hc,eqGuard,e]
theorem SD{x:Operand}{t t' u:TypeId}{p:Value}{m:Array (String×TypeId)}(hq:P.underlying t=some (.interface m))(hc:ρ (.const .nilIface)= .nilIface)(hx:ρ x= .iface u p)(h:K (.bool true) w):St P ρ ⟨dst,.binOp .neq t x (.const .nilIface) t',ty,pos,after,gd⟩ w K Kp:=by
 refine P9 (v:= .bool true) ?_ h;have e:(binOp .neq t (.iface u p) .nilIface).run P w= .ok (.bool true) w:=by
  rw[show binOp .neq t (.iface u p) .nilIface=(do pure (.bool (!(←Op.equal t (.iface u p) .nilIface)))) from rfl,eqIn,Sem.run_bind,eqI2 hq];rfl
 simp[execOp,hx,hc,eqGuard,e]
theorem S8{x:Operand}{xt at_:TypeId}{a:Value}{fs:Array Field}(hu:P.underlying at_=some (.struct fs))(hx:ρ x= .iface at_ a)(h:K (.tuple #[a,.bool true]) w):St P ρ ⟨dst,.typeAssert x xt at_ true,ty,pos,after,gd⟩ w K Kp:=by
 refine P9 (v:= .tuple #[a,.bool true]) ?_ h;simp[execOp,hx,Instr.typeAssert,run_underlying hu]
end
section
variable {P:Program} {ρ:Operand→Value} {dst:Option Tmp} {ty:TypeId} {pos:String} {after:Array Edge} {gd:Option (Nat×Bool)}
 {w:World} {K:Value→World→Prop} {Kp:List PanicEntry→World→Prop} {X0 x y:Nat→Prop} {w0:Bs}
theorem Cx.turn0{w':World}(C:Cx X0 w0 x y w)(o:Own w0 y w g cs T)(h:Bel ⟨w,(· =g)⟩ w'):Cx X0 w0 x y w'∧Sp x y w x y w' (· =g):=
 ⟨⟨C.below.turn h o.ge,C.base,fun b hb=>Ti (C.bd b hb) h.size,C.yx⟩,
  ⟨⟨fun _ _ h=>h,fun b hb hx=>h.block b hb (fun e=>hx (e▸C.yx _ o.mem)),h.size⟩,⟨fun _ _ h=>h,fun b hb hx=>h.block b hb (fun e=>hx (e▸o.mem)),h.size⟩,fun _ h=>h,fun b hb hn=>h.block b hb hn⟩⟩
theorem SE {α:Type} {k:FuncId} {args:Array Operand} {ts:Array TypeId}     {m:Rr α} {Φ:α→Nat→Value→World→Prop} {cs':α→Nat→List Value}
  (C:Cx X0 w0 x y w) (o:Own w0 y w g cs T) (hk:Jd P k=true)
  (ha:args.toList.map ρ=vs) (he:ρ (.func k)= .func (.func k) #[] #[]) (hc:Calls P k vs.toArray w (RetP w g m fun a q v w'=>Φ a q v w'∧Blk w' g (cs' a q) T))
  (hp:∀w' e q,m= .er e q→Cx X0 w0 x y w'→Sp x y w x y w' (· =g)→Kp [flt e q] w')
  (h:∀v w' a q,m= .ok a q→Cx X0 w0 x y w'→Sp x y w x y w' (· =g)→Own w0 y w' g (cs' a q) T→Φ a q v w'→K v w'):
  St P ρ ⟨dst,.call {callee:= .value (.func k),args:=args,argTypes:=ts},ty,pos,after,gd⟩ w K Kp:=by
 unfold Jd at hk;split at hk
 ·rename_i fn hf;simp only[T2,T3] at hk;refine RG hf hk.1 hk.2 ha (Calls.mono hc ?_) he;intro e w' hr;cases e with
  |returned v=>
   obtain⟨⟨a,q,hx,d,hb⟩,b⟩:=hr;obtain⟨c,s,o'⟩:=C.turn o b hb;exact h v w' a q hx c s o' d
  |panicked ch=>
   obtain⟨⟨e,q,hx,rfl⟩,b⟩:=hr;obtain⟨c,s⟩:=C.turn0 o b;exact hp w' e q hx c s
  |outgrown=>exact hr.elim
 ·cases hk
end
theorem vx{L:Array Bool}(h:(L.setIfInBounds i true).getD j false=true):j=i∨L.getD j false=true:=by
 by_cases e:j=i
 ·exact .inl e
 ·right;simp only[Ts] at h ⊢;rw[Array.getElem?_setIfInBounds_ne o] at h;exact h
set_option maxRecDepth 100000 in
theorem io82:Zf Tryz.prog 82=some (.agg #[.int .i64 0,.int .i64 0],2,16):=k
set_option maxRecDepth 100000 in
theorem NH:Zs Tryz.prog 82 0=some 0:=k
set_option maxRecDepth 100000 in
theorem Nq:Zs Tryz.prog 82 1=some 1:=k
theorem if20:Tryz.prog.underlying 20=some (.interface #[]):=k
theorem uu82:∃fs,Tryz.prog.underlying 82=some (.struct fs):=by
 cases h:Tryz.prog.underlying 82 with
 |none=>
      have:(Tryz.prog.underlying 82).isSome=true:=k
      rw[h] at this;cases this
 |some u=>
  have e:(match Tryz.prog.underlying 82 with|some (.struct _)=>true|_=>false)=true:=k
  rw[h] at e;cases u<;>first|exact⟨_,rfl⟩|cases e
abbrev zE:List Value:=[.int .i64 0,.slice none 0 0,.bool false,.slice none 0 0,.bool false,.slice none 0 0,str [],.slice none 0 0]
section
variable {X:Nat→Prop} {w0:Bs} {x y:Nat→Prop} {w:World}
theorem JR(hl:Nat.ble vs.length 22=true)(h:R w):CallsD Tryz.prog 66 vs.toArray .returning w (nj R):=
 by
 refine CallsD.ofRec Tryz.func66 r r r hl r r (.inl ⟨rfl,rfl⟩) ?_;refine Rg<|Ub<|Sx if20 r rfl<|Nl<|Ue<|PR ⟨.inl r,h⟩
def lowB(a:Array Edge)(k:Nat):Bool:=a.toList.all fun e=> !Region.binds .any e||Nat.blt e.on k
theorem zn{a:Array Edge}{k:Nat}(h:lowB a k=true){e:Edge}(he:e∈a)(hb:Region.binds .any e=true):e.on<k:=by
 unfold lowB at h
 have:=Um.1 h e<|Array.mem_toList_iff.2 he
 rw[hb] at this;exact TG this
theorem nq{a:Nat}{P:Prop}(h:Nat.beq a b=false:=by rfl):a=b→P:=fun e=>by rw[e,Nat.beq_refl] at h;cases h
structure IL (g1 g2 g3 g4:Nat) (e:Int) (p:Nat) (cs1 c2 c3:List Value) (f:Fr) (j:Nat):Prop where
 i0:j=0→f 17= .agg zE.toArray
 i1:j=1→f 18= .pointer (some ⟨g4,1,none⟩)
 i2:j=2→f 19= .int .i64 ((p:Nat):Int)
 i3:j=3→f 20= .pointer (some ⟨g4,0,none⟩)
 i4:j=4→f 21= .int .i64 e
 i5:j=5→cs1=zE
 i6:j=6→c2=[.int .i64 ((p:Nat):Int)]
 i7:j=7→c3=[.int .i64 e]
structure IH (X:Nat→Prop) (w0:Bs) (x y:Nat→Prop) (g1 g2 g3 g4:Nat) (e:Int) (p:Nat) (cs1 c2 c3:List Value) (f:Fr) (v:World):Prop where
 C:Cx X w0 x y v
 o1:Own w0 y v g1 cs1 31
 o2:Own w0 y v g2 c2 3
 o3:Own w0 y v g3 c3 32
 o4:Own w0 y v g4 [.int .i64 e,.int .i64 ((p:Nat):Int)] 82
 f0:f 0= .pointer (some ⟨g1,0,none⟩)
 f1:f 1= .pointer (some ⟨g2,0,none⟩)
 f2:f 2= .pointer (some ⟨g3,0,none⟩)
 f4:f 4= .pointer (some ⟨g4,0,none⟩)
 l1:cs1.length=8
 l2:c2.length=1
 l3:c3.length=1
theorem IL.mv{k:Nat}{a l m:List Value}{f:Fr}(h:IL b g i k e p a l m f j)(d:Nat)(v:Value)(hd:d≠17+j):IL b g i k e p a l m (upd f d v) j:=by
 refine⟨fun q=>?_,fun q=>?_,fun q=>?_,fun q=>?_,fun q=>?_,h.i5,h.i6,h.i7⟩<;>(unfold upd;rw[if_neg o])
 ·exact h.i0 q
 ·exact h.i1 q
 ·exact h.i2 q
 ·exact h.i3 q
 ·exact h.i4 q
theorem IH.mv{a k l:List Value}{f:Fr}{v:World}(h:IH X w0 x y b g i j e p a k l f v)(d:Nat)(z:Value)(hd:5≤d):IH X w0 x y b g i j e p a k l (upd f d z) v:=
 ⟨h.C,h.o1,h.o2,h.o3,h.o4,by unfold upd;rw[if_neg o];exact h.f0,by unfold upd;rw[if_neg o];exact h.f1,by unfold upd;rw[if_neg o];exact h.f2,by unfold upd;rw[if_neg o];exact h.f4,h.l1,h.l2,h.l3⟩
def IV(X:Nat→Prop)(w0:Bs)(x y:Nat→Prop)(g1 g2 g3 g4:Nat)(e:Int)(p:Nat)(L:Array Bool)(f:Fr)(v:World):Prop:=
 ∃cs1 c2 c3,IH X w0 x y g1 g2 g3 g4 e p cs1 c2 c3 f v∧∀j,j<8→L.getD j false=true→IL g1 g2 g3 g4 e p cs1 c2 c3 f j
theorem D7 {l m s:Nat}   {F:List Value} {v2 v3:Value} (C:Cx X w0 x y w) (A:Own w0 y w l F 31) (B:Own w0 y w m [v2] 3) (E:Own w0 y w s [v3] 32) (J:l≠m) (K:l≠s) (M:m≠s) (Y:F.length=8) 
  (h:∀x' y' w',Cx X w0 x' y' w'→Own w0 y' w' l zE 31→Own w0 y' w' m [.int .i64 (p:Int)] 3→Own w0 y' w' s [.int .i64 e] 32→R w'):
  CallsD Tryz.prog 66 [.pointer (some ⟨l,0,none⟩),.pointer (some ⟨m,0,none⟩),.pointer (some ⟨s,0,none⟩)].toArray (.panicking [flt e p]) w (nj R):=by
 obtain⟨_,S⟩:=uu82;refine CallsD.ofRec Tryz.func66 r r r r r r (.inr r) ?_;refine Rg (Ub<|SD if20 r rfl<|Nl<|Uf<|Ub<|S8 S rfl<|Ub<|St.extract r rfl<|Ol<|St.extract r rfl<|Ol<|PU C io82 r ?_);intro Z _ x2 y2 G C2 T U;have N:=G _ A.blk.lt;have P:=G _ B.blk.lt;have Q:=G _ E.blk.lt;have A:=A.spn T;have B:=B.spn T;have E:=E.spn T;refine On (Us (cs':=[(.int .i64 e),(.int .i64 p)]) C2 U io82 ?_);intro _ C3 V U;have A:=A.spo V N;have B:=B.spo V P;have E:=E.spo V Q;refine Oa (Nl ?_);refine Rh (Ub<|QI rfl<|Nl<|Ue<|PR ?_);refine SA mixed (IV X w0 x2 y2 l m s Z e p) ?_ ?_ ?_ ?_
 ·intro i o ho e he hb
  match i,ho with
  |0,ho=>cases ho;exact zn (k:=0) κ he hb
  |1,ho=>cases ho;exact zn (k:=1) κ he hb
  |2,ho=>cases ho;exact zn (k:=2) κ he hb
  |3,ho=>cases ho;exact zn (k:=3) κ he hb
  |4,ho=>cases ho;exact zn (k:=4) κ he hb
  |5,ho=>cases ho;exact zn (k:=5) κ he hb
  |6,ho=>cases ho;exact zn (k:=6) κ he hb
  |7,ho=>cases ho;exact zn (k:=7) κ he hb
  |i+8,ho=>simp at ho
 ·have D:=(RB C3);refine⟨F,_,_,⟨D.cx,A.spn D.sp,B.spn D.sp,E.spn D.sp,U.spn D.sp,rfl,rfl,rfl,rfl,Y,rfl,rfl⟩,fun j hj hh=>?_⟩
  rw[Ts,Array.getElem?_replicate] at hh;split at hh<;>cases hh
 ·intro L i o f v hs _ ho _ hed ⟨a,b,g,H,I⟩;have dn:∀ {u:Nat},hasE o.after u=true→L.getD u false=true:=fun ha=>by
   obtain⟨e,he,hb,rfl⟩:=sK ha;exact hed e he hb
  have I':∀ {i d:Nat} {z:Value},d=17+i→∀j,j<8→(L.setIfInBounds i true).getD j false=true→j=i∨IL l m s Z e p a b g (upd f d z) j:=fun {i d z} hd j hj hh=>by
   rcases vx hh with h|h
   ·exact .inl h
   ·by_cases hji:j=i
    ·exact .inl hji
    ·exact .inr ((I j hj h).mv d z ω)
  match i,ho with
  |0,ho=>
   cases ho;refine⟨TG r,P1<|PX (cs:=zE) r κ ⟨a,b,g,H.mv _ _ δ,fun j hj hh=>?_⟩⟩
   rcases I' rfl j hj hh with rfl|h
   ·exact⟨fun _=>rfl,nq,nq,nq,nq,nq,nq,nq⟩
   ·exact h
  |1,ho=>
   cases ho;refine⟨TG r,P1<|PJ Nq H.f4 ⟨a,b,g,H.mv _ _ δ,fun j hj hh=>?_⟩⟩
   rcases I' rfl j hj hh with rfl|h
   ·exact⟨nq,fun _=>rfl,nq,nq,nq,nq,nq,nq⟩
   ·exact h
  |2,ho=>
   cases ho;have hd:=(I 1 δ<|dn κ).i1 r;refine⟨TG r,P1<|PO H.o4 pl3 hd r ⟨a,b,g,H.mv _ _ δ,fun j hj hh=>?_⟩⟩
   rcases I' rfl j hj hh with rfl|h
   ·exact⟨nq,nq,fun _=>rfl,nq,nq,nq,nq,nq⟩
   ·exact h
  |3,ho=>
   cases ho;refine⟨TG r,P1<|PJ NH H.f4 ⟨a,b,g,H.mv _ _ δ,fun j hj hh=>?_⟩⟩
   rcases I' rfl j hj hh with rfl|h
   ·exact⟨nq,nq,nq,fun _=>rfl,nq,nq,nq,nq⟩
   ·exact h
  |4,ho=>
   cases ho;have hd:=(I 3 δ<|dn κ).i3 r;refine⟨TG r,P1<|PO H.o4 pl32 hd r ⟨a,b,g,H.mv _ _ δ,fun j hj hh=>?_⟩⟩
   rcases I' rfl j hj hh with rfl|h
   ·exact⟨nq,nq,nq,nq,fun _=>rfl,nq,nq,nq⟩
   ·exact h
  |5,ho=>
   cases ho;have hd:=(I 0 δ<|dn κ).i0 r;refine⟨trivial,P1<|QM (vs:=zE) (cs':=zE) H.C H.o1 io31 H.f0 (by show(f 17).cells=_;rw[hd];rfl) r (by rw[H.l1];rfl) r (by rw[show a.drop (0+zE.length)=[] from List.drop_eq_nil_of_le (by rw[H.l1];decide)];rfl) ?_⟩;intro v' C' s' o';refine⟨zE,b,g,⟨C',o',H.o2.spo s'<|TA J,H.o3.spo s'<|TA K,H.o4.spo s'<|TA N,H.f0,H.f1,H.f2,H.f4,rfl,H.l2,H.l3⟩,fun j hj hh=>?_⟩
   rcases vx hh with rfl|h
   ·exact⟨nq,nq,nq,nq,nq,fun _=>rfl,nq,nq⟩
   ·have k:=I j hj h;exact⟨k.i0,k.i1,k.i2,k.i3,k.i4,fun _=>rfl,k.i6,k.i7⟩
  |6,ho=>
   cases ho;have hd:=(I 2 δ<|dn κ).i2 r;refine⟨trivial,P1<|QM (vs:=[.int .i64 (p:Int)]) (cs':=[.int .i64 (p:Int)]) H.C H.o2 io3 H.f1 (by show(f 19).cells=_;rw[hd];rfl) r (by rw[H.l2];rfl) r (by rw[show b.drop (0+[Value.int .i64 (p:Int)].length)=[] from List.drop_eq_nil_of_le (by rw[H.l2];exact Tu 1)];rfl) ?_⟩;intro v' C' s' o';refine⟨a,_,g,⟨C',H.o1.spo s' J,o',H.o3.spo s'<|TA M,H.o4.spo s'<|TA P,H.f0,H.f1,H.f2,H.f4,H.l1,rfl,H.l3⟩,fun j hj hh=>?_⟩
   rcases vx hh with rfl|h
   ·exact⟨nq,nq,nq,nq,nq,nq,fun _=>rfl,nq⟩
   ·have k:=I j hj h;exact⟨k.i0,k.i1,k.i2,k.i3,k.i4,k.i5,fun _=>rfl,k.i7⟩
  |7,ho=>
   cases ho;have hd:=(I 4 δ<|dn κ).i4 r;refine⟨trivial,P1<|QM (vs:=[.int .i64 e]) (cs':=[.int .i64 e]) H.C H.o3 io32 H.f2 (by show(f 21).cells=_;rw[hd];rfl) r (by rw[H.l3];rfl) r (by rw[show g.drop (0+[Value.int .i64 e].length)=[] from List.drop_eq_nil_of_le (by rw[H.l3];exact Tu 1)];rfl) ?_⟩;intro v' C' s' o';refine⟨a,b,_,⟨C',H.o1.spo s' K,H.o2.spo s' M,o',H.o4.spo s'<|TA Q,H.f0,H.f1,H.f2,H.f4,H.l1,H.l2,rfl⟩,fun j hj hh=>?_⟩
   rcases vx hh with rfl|h
   ·exact⟨nq,nq,nq,nq,nq,nq,nq,fun _=>rfl⟩
   ·have k:=I j hj h;exact⟨k.i0,k.i1,k.i2,k.i3,k.i4,k.i5,k.i6,fun _=>rfl⟩
  |i+8,ho=>simp at ho
 ·intro L f v hs hall ⟨a,b,g,H,I⟩;have tf:∀j,j<8→L.getD j false=true:=fun j hj=>by
   have hs':L.size=8:=hs
   have:=hall j ω
   simpa[Ts,hs',hj] using this
  refine⟨.inl r,h x2 y2 v H.C ?_ ?_ ?_⟩
  ·have:=(I 5 δ<|tf 5 δ).i5 r;subst this;exact H.o1
  ·have:=(I 6 δ<|tf 6 δ).i6 r;subst this;exact H.o2
  ·have:=(I 7 δ<|tf 7 δ).i7 r;subst this;exact H.o3
theorem Fo{f:Fr}{t:Nat}{v:Value}(ht:Yw Tryz.prog t=true)(o:Own w0 y w g [v] T)(hp:f p= .pointer (some ⟨g,0,none⟩))(tmps:Array Value)(hf:∀t,tmps.getD t undef=f t):(resM tmps (.cell p t)).run Tryz.prog w= .ok v w:=by
 unfold resM;simp only[hf p,hp];simp[asAddr,loadVar,V6 ht,o.blk.cell (j:=0) rfl]
theorem wH{f:Fr}{a d:Nat}{e g:Value}(h:Own w0 y w a cs 31)(i:Own w0 y w b [e] 3)(j:Own w0 y w d [g] 32)(hl:cs.length=8)(k:f 2= .pointer (some ⟨a,0,none⟩))(l:f 3= .pointer (some ⟨b,0,none⟩))(m:f 4= .pointer (some ⟨d,0,none⟩)):
  ∀tmps:Array Value,(∀t,tmps.getD t undef=f t)→(results Tryz.f30 tmps).run Tryz.prog w= .ok (.tuple #[.agg cs.toArray,e,g]) w:=by
 intro tmps hf;have p:=V1 (P:=Tryz.prog) (r:= .cell 2 31) (resV.c h k ag31 hl) tmps hf;have s:=Fo pl3 i l tmps hf;have v:=Fo pl32 j m tmps hf;simp only[Vu,show Tryz.f30.results= #[.cell 2 31,.cell 3 3,.cell 4 32] from rfl,UJ,List.mapM_cons,List.mapM_nil,Sem.run_bind,Sem.run_map];rw[p];simp only[Result.andThen_ok];rw[s];simp only[Result.andThen_ok];rw[v];simp
end
theorem IY{X:Nat→Prop}{w:World}(hX:XB X w){s:List UInt8}(hs:s.length≤65536):CRt 30 #[str s] w fun v w'=>∃v0 v1 v2,v= .tuple #[v0,v1,v2]∧RV Jc X w' v0 (rdT s).1∧v1= .int .i64 (((rdT s).2.1:Nat):Int)∧v2= .int .i64 (rdT s).2.2:=by
 have C:=PV hX;have hml:maxLen=9223372036854775807:=rfl;refine SY Tryz.func30 r r r r Tryz.func66 r r ?_;refine PN (Ol<|PU C io31 r ?_);intro _ _ _ _ _ C1 _ b;refine Ol (PU C1 io3 r ?_);intro _ _ _ _ ad C2 s2 d;have i:=ad _ b.blk.lt;have b:=b.spn s2;refine Ol (PU C2 io32 r ?_);intro _ _ _ _ G C3 s3 e;have j:=G _ b.blk.lt;have l:=G _ d.blk.lt;have b:=b.spn s3;have d:=d.spn s3;refine Nl ⟨rfl,?_⟩;refine Rg (Ub<|PX (cs:=[str s,.int .i64 0]) r κ<|Ol<|PX (cs:=[str s,.int .i64 0,.int .i64 0]) r κ<|Ol<|QA C3 r ?_);intro _ _ _ _ z I J g;have m:=z _ b.blk.lt;have A:=z _ d.blk.lt;have B:=z _ e.blk.lt;have b:=b.spn J;have d:=d.spn J;have e:=e.spn J;refine Ua<|Rg<|Ub<|SE (cs':=fun a q=>rc s q 0) I g cb67 r r (BI I.bd (s:=s) (p:=0) (o:=0) g.blk (I.yx _ g.mem) (Tv _) hs δ (xz s.length) (EQ s.length 0 ω)<|Tu 0) ?_ ?_
 ·intro w5 _ p hx K k;refine D7 K (b.spo k m) (d.spo k A) (e.spo k B) i j l r fun x' y' w' C' L M N=>⟨_,wH L M N r r r r,Rc ⟨_,_,_,rfl,?_⟩ C'.below⟩;rw[Pl hx];exact⟨(py Xu δ δ (by unfold maxLen;decide) RS.nil RS.nil RS.nil RS.nil).tr (Tr.weak C'.base),rfl,rfl⟩
 intro v w5 a q hx K k g h5;have hq:=OP hx;obtain⟨a1,P,a2,Q,R,S,T,U,rfl,h⟩:=SR h5;have b:=b.spo k m;have d:=d.spo k A;have e:=e.spo k B;refine On (Us (cs':=ec a a1 P a2 Q R S T U) K b io31 ?_);intro _ V E b;have h:=h.sp E;have d:=d.spo E (TA i);have e:=e.spo E (TA j);have g:=g.spo E (TA m);refine Nl (Rg<|Ub<|PZ rfl<|Ol<|PJ Yn rfl<|Ol<|QT V g cb68 r r (Q4 V.bd (s:=s) (p:=q) (o:=0) g.blk (V.yx _ g.mem) hq hs) ?_);intro _ _ C7 F g h7;subst h7;have h:=h.sp F;have b:=b.spo F m;have d:=d.spo F A;have e:=e.spo F B;refine Nl<|Rh<|Ub<|PZ rfl<|Ol<|PJ Yn rfl<|Ol<|PJ J7 rfl<|Ol<|PO g pl3 r rfl<|Ub<|QW un9 rfl<|Ol<|P2 r r (fun hc=>?_)<|fun hc=>?_
 ·refine Nl (Uk<|Ub<|PZ rfl<|Ol<|PJ Yn rfl<|Ol<|PJ J7 rfl<|Ol<|PO g pl3 r rfl<|Ol<|PX (cs:=[.int .i64 19,.int .i64 ((spM s q:Nat):Int)]) r κ<|Ol<|QP κ<|On<|Rz r ?_);refine D7 C7 b d e i j l r fun x' y' w' C' L M N=>⟨_,wH L M N r r r r,Rc ⟨_,_,_,rfl,?_⟩ C'.below⟩;rw[G2 hx hc];exact⟨(py Xu δ δ (by unfold maxLen;decide) RS.nil RS.nil RS.nil RS.nil).tr (Tr.weak C'.base),rfl,rfl⟩
 refine Nl (Uc<|Rg<|Ol<|Uo (vs:=ec a a1 P a2 Q R S T U) b ag31<|On<|Us (cs':=ec a a1 P a2 Q R S T U) C7 b io31 ?_);intro _ C8 Y b;have h:=h.sp Y;have d:=d.spo Y (TA i);have e:=e.spo Y (TA j);refine On (QM (cs':=[.int .i64 0]) C8 d io3 r r r r r r ?_);intro _ C9 Z d;have h:=h.sp Z;have b:=b.spo Z i;have e:=e.spo Z (TA l);refine On (Us (cs':=[.int .i64 0]) C9 e io32 ?_);intro _ H D e;have h:=h.sp D;have b:=b.spo D j;have d:=d.spo D l;refine Nl (PS ?_);refine JR r ⟨_,wH b d e r r r r,Rc ⟨_,_,_,rfl,?_⟩ H.below⟩;rw[NY hx hc];exact⟨(Mx a h).tr H.wb,rfl,rfl⟩
end Go.Wf
namespace Go.Wf
open Go Go.Proofs Go.RowKit
variable{a:GExpr}
theorem l5{X:Nat→Prop}{w:World}(hX:XB X w){s:List UInt8}(hsl:s.length≤4000)(hrf:RdF s)(hrk:okE (rdT s).1):CRt 10 #[(str s)] w fun v w'=>(∃M N P,v= .tuple #[M,N,P]∧(RV Jc X w' M ((Jj s).1))∧(N=(.int .i64 ((((Jj s).2.1):Nat):Int)))∧(P=(.int .i64 ((Jj s).2.2)))):=by
 have C:=PV hX
 have:maxLen=9223372036854775807:=rfl
 refine Cgo Tryz.func10 r r r (Rg<|Ol<|PU C io31 r ?_);intro _ _ _ _ _ K _ g;refine Oa<|Ua<|Rh<|Ub<|QW un9 rfl<|Ol<|QN r r (fun d=>?_)<|fun d=>?_
 ·refine Nl (Uf<|Ol<|PX (cs:=zX) r κ<|On<|Us (cs':=zX) K g io31 ?_);intro _ D _ Q;refine Oa (Ua<|PS<|rv r (resV.c Q r ag31 r) (SV r) (SV r)<|Rc ?_ D.below);refine⟨_,_,_,rfl,?_,?_,?_⟩
  ·exact SS (a:=(.mk 0 [] YT [] [])) ((Zb o o ξ RS.nil RS.nil RS.nil RS.nil).tr D.wb)<|congrArg (·.1)<|zQ d
  ·exact YR<|congrArg Nat.cast<|congrArg (·.2.1)<|zQ d
  ·exact YR<|congrArg (·.2.2)<|zQ d
 refine Nl (Uc<|Rg<|Ub<|PK K cb30 r r (IY K.bd o) ?_);intro _ _ R S T;have g:=g.spn S;obtain⟨_,_,_,rfl,U,rfl,rfl⟩:=T;obtain⟨i,j,k,l,m,p,x,y,rfl,h⟩:=SR U;refine Om (Ol<|St.extract r rfl<|Ol<|St.extract r rfl<|Ol<|St.extract r rfl<|Ol<|PU R io31 r ?_);intro _ _ _ _ L V E Y;have Z:=L _ g.blk.lt;refine On (Us (cs':=(ec ((rdT s).1) i j k l m p x y)) V Y io31 ?_);intro _ A F z;have h:=(h.sp E).sp F;have g:=(g.spn E).spo F Z;refine Oa<|Ua<|Rh<|Ub<|QH r r (fun b=>?_)<|fun b=>?_
 ·refine Nl (Uf<|Ol<|PX (cs:=zX) r κ<|Om<|Om<|On<|Us (cs':=zX) A g io31 ?_);intro _ G _ aa;refine Oa (Ua<|PS<|rv r (resV.c aa r ag31 r) (SV r) (SV r)<|Rc ?_ G.below);refine⟨_,_,_,rfl,?_,?_,?_⟩
  ·exact SS (a:=(.mk 0 [] YT [] [])) ((Zb o o ξ RS.nil RS.nil RS.nil RS.nil).tr G.wb)<|congrArg (·.1)<|wV hrf d b
  ·exact YR<|congrArg Nat.cast<|congrArg (·.2.1)<|wV hrf d b
  ·exact YR<|congrArg (·.2.2)<|wV hrf d b
 refine Nl (Uc<|Rh<|Ol<|Uo (vs:=(ec ((rdT s).1) i j k l m p x y)) z ag31<|Ol<|PK A cb20 r r (xh A.bd (Mx ((rdT s).1) h) hrk) ?_);intro _ _ H B ab;have g:=g.spn B;have z:=z.spn B;subst ab;refine Ua<|Rg<|Ub<|QH r r (fun e=>?_)<|fun e=>?_
 ·refine Nl (Uf<|Ol<|PX (cs:=zX) r κ<|Om<|On<|Us (cs':=zX) H g io31 ?_);intro _ I _ ac;refine Oa (Ua<|PS<|rv r (resV.c ac r ag31 r) (SV r) (SV r)<|Rc ?_ I.below);refine⟨_,_,_,rfl,?_,?_,?_⟩
  ·exact SS (a:=(.mk 0 [] YT [] [])) ((Zb o o ξ RS.nil RS.nil RS.nil RS.nil).tr I.wb)<|congrArg (·.1)<|zA hrf d b e
  ·exact YR<|congrArg Nat.cast<|congrArg (·.2.1)<|zA hrf d b e
  ·exact YR<|congrArg (·.2.2)<|zA hrf d b e
 refine Nl (Uc<|Rg<|Ol<|Uo (vs:=(ec ((rdT s).1) i j k l m p x y)) z ag31<|On<|Us (cs':=(ec ((rdT s).1) i j k l m p x y)) H g io31 ?_);intro _ J ad ae;have h:=(h.sp B).sp ad;refine Oa (Ua<|PS<|rv r (resV.c ae r ag31 r) (SV r) (SV r)<|Rc ?_ J.below);refine⟨_,_,_,rfl,?_,?_,?_⟩
 ·exact SS (a:=((rdT s).1)) ((Mx ((rdT s).1) h).tr J.wb)<|congrArg (·.1)<|Gp hrf d b e
 ·exact YR<|congrArg Nat.cast<|congrArg (·.2.1)<|Gp hrf d b e
 ·exact YR<|congrArg (·.2.2)<|Gp hrf d b e
section
variable{X:Nat→Prop}{w:World}(hX:XB X w)
include hX
theorem BD{v0:Value}{a:GInt}(r0:RV Z0 X w v0 a)(hla:a.mag.length≤100000):CRt 153 #[v0] w fun v _=>v=(str (Lib.itoa a.toZ)):=by
 obtain⟨a1,J,rfl,e⟩:=RV.int r0;have C:=PV hX;have sa:=r0.int_small;refine Cgo Tryz.func153 ϱ ϱ ϱ (Rg<|Ol<|QA C ϱ ?_);intro V _ _ _ _ C9 aP M;have e:=e.sp aP;refine Oa (Nl<|Rg<|Ol<|PJ Yu rfl<|Ol<|PO M pl24 ϱ rfl<|Ol<|PK C9 Vq ϱ ϱ (Zq C9.bd e o) ?_);intro _ _ ag ah ai;have e:=e.sp ah;have M:=M.spn ah;obtain⟨aQ,aR,rfl,_,_⟩:=ai.len;refine Ua<|Rh<|Ub<|St.len sl24 rfl<|Ol<|PW ϱ ϱ (fun K=>?_)<|fun K=>?_
 ·exact Nl<|Uf<|Ua<|PS<|Wq ϱ ϱ ag<|congrArg (str)<|(Ng sa K)
 refine Nl (Uc<|Rg<|Ua<|PT<|W.block<|P7 (fun μ f v=>∃(x y:Nat→Prop) (i:Nat) (m:List Nat) (ma:Option Addr) (mc:Nat) (d:List UInt8) (da:Option Addr) (dc:Nat),Cx X w x y v∧f 1=(P10 V 0)∧f 3=(S12 ma m mc)∧f 4=(S12 da d dc)∧RS Jh x v (S12 a1 a.mag J) a.mag∧RS Jh x v (S12 ma m mc) m∧OS u8Ty 5 w x y v (S12 da d dc) d∧Own w y v V (zzC a a1 J) 26∧m=digs (val a.mag/10^(9*i))∧d=lsd (9*i) (val a.mag)∧9*i≤10*a.mag.length+9∧m.length≤a.mag.length∧μ=(10*a.mag.length+9-9*i)) _ ⟨_,_,0,(trim a.mag),aQ,aR,[],none,0,ag,rfl,rfl,rfl,e,ai,OS.nil,M,(fm_0 sa),rfl,o,(Jx _),rfl⟩ ?_);rintro _ _ _ ⟨_,_,i,m,ma,mc,d,da,dc,Y,aj,ak,am,e,hm,hd,N,F,P,hi,hml,_⟩;obtain⟨_,rfl⟩:=rebK (aC aj<|aC ak<|aC am aN);clear aj ak am;refine Rh<|Ub<|St.len sl24 rfl<|Ol<|QN ϱ ϱ (fun D=>?_)<|fun D=>?_
 ·refine Nl (Ud<|PR<|W.block<|Rg<|Ub<|PK Y KC ϱ ϱ (yY Y.bd hm (d:=1000000000) o δ δ) ?_);intro _ _ Z aa aS;obtain⟨_,_,rfl,an,rfl⟩:=aS;obtain⟨_,_,rfl,_,_⟩:=an.len;refine Om (Ol<|St.extract ϱ rfl<|Ol<|St.extract ϱ rfl<|Oa<|Ua<|Rg<|Ub<|PK Z Vq ϱ ϱ (Zq Z.bd an Wx) ?_);intro _ _ ao ab s;have e:=(e.sp aa).sp ab;have hd:=(hd.sp aa Z<|fun _ h=>h).sp ab ao (fun _ h=>h)
  have N:=(N.spn aa).spn ab;obtain⟨ac,ad,rfl,_,_⟩:=s.len;refine Oa (Nl<|Rg<|Om<|Nl<|W.block<|P7 (fun μ f v=>∃(x y:Nat→Prop) (j:Nat) (r:Nat) (G:List UInt8) (Q:Option Addr) (R:Nat),Cx X w x y v∧f 1=(P10 V 0)∧f 3=(.slice ac (trim<|Zc m.length<|val m/1000000000).length ad)∧f 23=(.int .i64 j)∧f 6=(.int .u32 r)∧f 4=(S12 Q G R)∧RS Jh x v (S12 a1 a.mag J) a.mag∧RS Jh x v (.slice ac (trim<|Zc m.length<|val m/1000000000).length ad) (trim<|Zc m.length<|val m/1000000000)∧OS u8Ty 5 w x y v (S12 Q G R) G∧Own w y v V (zzC a a1 J) 26∧j≤9∧r=val a.mag/10^(9*i)%1000000000/10^j∧r<4294967296∧G=lsd (9*i+j) (val a.mag)∧G.length=9*i+j∧μ=(9-j)) _ ⟨_,_,0,(val m%1000000000),d,da,dc,ao,rfl,rfl,rfl,rfl,rfl,e,s,hd,N,(Tv _),(fm_r F),o,P,(by rw[P,yd];rfl),rfl⟩ ?_);rintro _ _ _ ⟨_,_,j,r,G,Q,R,aq,ar,au,av,aw,ax,e,s,hdf,A,_,hr,_,ay,_,_⟩;obtain⟨_,rfl⟩:=rebK (aC ar<|aC au<|aC av<|aC aw<|aC ax aN);clear ar au av aw ax;refine Rg<|Ol<|P2 ϱ ϱ (fun aG=>?_)<|fun aG=>?_
  ·refine Nl (PT<|Ud<|PR<|PT<|W.block<|Rg<|Om<|Ub<|RI ϱ ϱ δ (yu r 10)<|Ol<|P6 (z:=(((r%10)%256:Nat):Int)) Kj un5 ϱ (Y0 _)<|Ol<|St.add (z:=((dgB r).toNat:Int)) ϱ ϱ HO<|Ol<|P5 (T:=u8Ty) (css:=[[(.int .u8 (dgB r).toNat)]]) (l:=[(dgB r)]) aq z7 io5 δ δ ϱ κ ⟨rfl,trivial⟩ ?_);intro _ _ az S aT;have hdf:=hdf.sp S az<|fun _ h=>h
   have A:=A.spn S;refine Ol (P8 (T:=u8Ty) az z7 io5 ϱ ϱ hdf (Z5 aT) F' Z' ϱ ?_);intro _ _ _ aU ae _ aA;have e:=(e.sp S).tr ae.tx;have s:=(s.sp S).tr ae.tx;replace A:=A.ap ae A.mem;obtain⟨aV,aW,rfl,_,_⟩:=aA.len;refine Ua<|PN<|Ub<|Ry ϱ ϱ δ (rR (a:=r) (b:=10) o)<|Ua<|PN<|Ol<|St.add ϱ ϱ (Ja (a:=j) (b:=1) o)<|Om<|Nl<|⟨_,o,_,_,(j+1),r/10,(G++[(dgB r)]),aV,aW,aU,rfl,rfl,rfl,rfl,rfl,e,s,aA,A,o,(Is hr),o,(Gr hr o ay),i',rfl⟩
  refine Nl<|PT<|Ue<|QB<|⟨_,(by have:=L6 (AO sa) F D;omega),_,_,(i+1),(trim<|Zc m.length<|val m/1000000000),ac,ad,G,Q,R,aq,rfl,rfl,rfl,e,s,hdf,A,(fm_q F),(by rw[ay,show 9*i+j=9*(i+1) by omega]),(by have:=L6 (AO sa) F D;omega),(NM hml),rfl⟩
 refine Nl (Ue<|QB<|PT<|W.block ?_);have hN:=fm_N sa K;refine P7 (fun μ f v=>∃(x y:Nat→Prop) (k:Nat) (g:List UInt8) (H:Option Addr) (I:Nat),Cx X w x y v∧f 1=(P10 V 0)∧f 4=(S12 H g I)∧RS Jh x v (S12 a1 a.mag J) a.mag∧OS u8Ty 5 w x y v (S12 H g I) g∧Own w y v V (zzC a a1 J) 26∧val a.mag<10^k∧g=lsd k (val a.mag)∧g.length≤10*a.mag.length+9∧μ=k) _ ⟨_,_,(9*i),d,da,dc,Y,rfl,rfl,e,hd,N,(MH F D),P,(by rw[P,yd];exact hi),rfl⟩ ?_;rintro _ _ _ ⟨_,_,k,g,H,I,U,aB,aD,e,hdg,aE,hk,p,_,_⟩;obtain⟨_,rfl⟩:=rebK (aC aB<|aC aD aN);clear aB aD;refine Rh (Om<|Ub<|St.len z7 rfl<|Ol<|St.sub (z:=((g.length-1:Nat):Int)) ϱ ϱ (by have:=(vI hN hk p).1;rw[Tz _ o];omega)<|Ol<|QQ (j:=(g.length-1)) hdg z7 io5 ϱ ϱ ϱ (vI hN hk p).1<|Ol<|Sv (j:=(g.length-1)) hdg pl5 ϱ (vI hN hk p).1 ?_);refine Ol<|PW ϱ ϱ (fun B=>?_)<|fun B=>?_
 ·refine Nl (Ud<|PR<|W.block<|PN<|Om<|Ub<|St.len z7 rfl<|Ol<|St.sub (z:=((g.length-1:Nat):Int)) ϱ ϱ (by have:=(vI hN hk p).1;rw[Tz _ o];omega)<|Ol<|S9 (T:=u8Ty) (j:=(g.length-1)) hdg z7 io5 ϱ ϱ ϱ (VZ _ _)<|Oa<|Nl ?_);refine⟨_,(by have:=ud hN hk;omega),_,_,(k-1),(g.take<|g.length-1),H,I,U,rfl,(congrArg (fun n=>Value.slice H n I) (EB<|VZ _ _).symm),e,(hdg.tk8 (j:=g.length-1)<|VZ _ _),aE,(fm_z hN hk p B).1,(fm_z hN hk p B).2,Ww,rfl⟩
 refine Nl<|Ue<|QB<|Rh<|Ol<|PJ Xc rfl<|Ol<|QF<|PO aE pl4 ϱ ϱ ⟨_,rfl,fun L=>?_,fun L=>?_⟩
 ·refine Nl (Uk<|Ub<|P5 (T:=u8Ty) (css:=[[(.int .u8 45)]]) (l:=[45]) U z7 io5 δ δ ϱ κ ⟨rfl,trivial⟩ ?_);intro _ _ aF aX aY;have hdg:=hdg.sp aX aF<|fun _ h=>h
  refine Ol (P8 (T:=u8Ty) aF z7 io5 ϱ ϱ hdg (Z5 aY) F' Z' ϱ ?_);intro _ _ _ af _ _ E;obtain⟨_,_,rfl,_,_⟩:=E.len;refine Oa (Nl<|Rg<|Ub<|RQ af E JA ϱ ϱ (DX af.bd E.ow (fun k hk=>(E.mem k hk).1.1) i') ?_);intro _ _ _ aH _ _ aI;exact Nl<|Rg<|Ub<|Sk aI z7 un5 un9 rfl<|Ua<|PS<|Wq ϱ ϱ aH<|congrArg (str)<|(PA L hN<|Ea hN hk p B)
 refine Nl (Uc<|Rg<|Ub<|RQ U hdg JA ϱ ϱ (DX U.bd hdg.ow (fun k hk=>(hdg.mem k hk).1.1) o) ?_);intro _ _ _ aJ _ _ aK;exact Nl<|Rg<|Ub<|Sk aK z7 un5 un9 rfl<|Ua<|PS<|Wq ϱ ϱ aJ<|congrArg (str)<|(N2 L<|Ea hN hk p B)
theorem vF{G:Value}{a:GRat}(D:RV Y6 X w G a)(hln:a.num.mag.length≤10000)(hld:a.den.mag.length≤10000):CRt 105 #[G] w fun v _=>v=(str (qTxt a.q)):=by
 obtain⟨a1,H,I,J,rfl,E,F⟩:=ST D;have C:=PV hX;have sn:=D.rat_small.1;have sd:=D.rat_small.2;have S:=Xp sn;have T:=Xs sd;refine Cgo Tryz.func105 r r r (Rg<|Ol<|QA C r ?_);intro _ _ _ _ _ y z g;have E:=E.sp z;have F:=F.sp z;refine Oa (Nl<|Rg<|Ol<|Uo (vs:=(qqC a a1 H I J)) g ag28<|Ol<|PK y cb92 r r (Qu y.bd (a:=a) (Jz E F) o o) ?_);intro _ _ K L M;have g:=g.spn L;obtain⟨j,k,l,m,rfl,i,b⟩:=ST M;refine On (Us (cs':=(qqC (ofQ a.q) j k l m)) K g io28 ?_);intro _ A B d;have b:=b.sp B;refine Nl (Rh<|Ol<|PJ Yy rfl<|Ol<|Uo (vs:=(zzC ((ofQ a.q).den) l m)) d ag26<|Ol<|QF<|PK A sf r r (r5 A.bd (a:=(ofQ a.q).den)<|Jl b) ?_);intro _ _ p x N;have i:=(i.sp B).sp x;have b:=b.sp x;have d:=d.spn x;refine⟨_,N,fun e=>?_,fun e=>?_⟩
 ·refine Nl (Uf<|Ol<|PJ Y7 rfl<|Ol<|Uo (vs:=(zzC ((ofQ a.q).num) j k)) d ag26<|Ol<|PK p G3 r r (BD p.bd (a:=(ofQ a.q).num) (Jl i) o) ?_);intro _ _ P _ Q;subst Q;exact Ua<|PS<|Wq r r P<|congrArg (str)<|(KL<|of_decide_eq_true e)
 refine Nl (Uc<|PT<|QY mixed 7 p<|Qf Y7 rfl<|Qw (fun w c=>QC (vs:=(zzC ((ofQ a.q).num) j k)) (d.spn c.2) ag26 r r r ⟨rfl,c⟩)<|Qw (fun w c=>PK c.1 G3 r r (BD c.1.bd (a:=(ofQ a.q).num) (Jl<|i.sp c.2) o) fun _ _ C s h=>⟨h,C,c.2.trans s⟩) ?_);refine Qp (fun _=>QG r r (by have:=MP (q:=a.q);rw[Tf];omega) ⟨rfl,rfl⟩) (Qf Yy rfl<|Qw (fun w c=>QC (vs:=(zzC ((ofQ a.q).den) l m)) (d.spn c.2) ag26 r r r ⟨rfl,c⟩)<|Qw (fun w c=>PK c.1 G3 r r (BD c.1.bd (a:=(ofQ a.q).den) (Jl<|b.sp c.2) o) fun _ _ C s h=>⟨h,C,c.2.trans s⟩) ?_);refine Qz fun _ R _=>?_
 exact Ol<|QG r r (by have:=MP (q:=a.q);have:=NT (q:=a.q);rw[Tc,Tf];omega)<|Ua<|PS<|Wq r r R<|congrArg (str)<|(Mo<|of_decide_eq_false e)
end
abbrev WrA(e:GExpr):Prop:=∀ {X:Nat→Prop} {w:World},(∀b,X b→b<w.heap.size)→∀ {v:Value},RV Jc X w v e→T10 X w→Calls Tryz.prog 39 #[v] w (Ret w fun v' w'=>v'=str (wrE e))
abbrev PlA(e:GExpr):Prop:=¬e.op=10→¬e.op=11→∀ {X:Nat→Prop} {w:World},(∀b,X b→b<w.heap.size)→∀ {v:Value},RV Jc X w v e→T10 X w→Calls Tryz.prog 107 #[v] w (Ret w fun v' w'=>v'=str (plE e))
abbrev SgA(e:GExpr):Prop:=∀ {X:Nat→Prop} {w:World},(∀b,X b→b<w.heap.size)→∀ {v:Value},RV Jc X w v e→T10 X w→Calls Tryz.prog 73 #[v] w (Ret w fun v' w'=>∃v0 v1,v'= .tuple #[v0,v1]∧(v0=str (sgE e))∧(v1= .bool (miE e)))
section
variable{X:Nat→Prop}{w:World}(hX:XB X w)
include hX
theorem xI{K:Value}{l:List Int}(d:RS Zg X w K l)(hT:T10 X w)(hln:lnI l≤1000000000):CRt 156 #[K] w fun v _=>v=(str (zp l)):=by
 obtain⟨a1,G,rfl,_,_⟩:=d.len;have C:=PV hX;have Z:=ok_n (l:=l);refine Cgo Tryz.func156 r r r (Rg<|Ua<|Rg<|Ua<|Rh<|Ub<|St.len sl23 rfl<|Om<|Nl<|W.block<|P7 (fun μ f v=>∃(x y:Nat→Prop) (i:Nat) (p:List (List UInt8)) (pa:Option Addr) (pc:Nat),Cx X w x y v∧f 6=(S12 a1 l G)∧f 7=(.int .i64 l.length)∧f 8=(.int .i64 i)∧f 3=(S12 pa p pc)∧RS Zg x v (S12 a1 l G) l∧T10 x v∧OS Y1 9 w x y v (S12 pa p pc) p∧i≤l.length∧p=yi (l.take i)∧μ=(l.length-i)) _ ⟨_,_,0,[],none,0,C,rfl,rfl,rfl,rfl,d,hT,OS.nil,(Tv _),rfl,rfl⟩ ?_);rintro _ _ _ ⟨_,_,i,p,pa,pc,H,L,M,m,s,d,hT,hP,_,hp,_⟩;obtain⟨_,rfl⟩:=rebK (aC L<|aC M<|aC m<|aC s aN);clear L M m s;refine Rg<|Ol<|P2 r r (fun I=>?_)<|fun I=>?_
 ·refine Nl (PT<|Ud<|PR<|PT<|W.block<|Rg<|Ol<|P4 (j:=i) (u:=(l.getD i 0)) d sl23 io3 r r r (Je o) ?_);intro _ _ J z;obtain⟨rfl,e⟩:J=_∧_:=z.rd;refine Ol (P0 pl3 r (z.cell 0 _ r)<|Ua<|PN<|Om<|Ub<|PK H ww r r (rh H.bd hT e.1 e.2) ?_);intro _ _ A g N;have d:=d.sp g;have hT:=hT.sp g;subst N;refine Ol (P5 (T:=Y1) (css:=[[(str<|Lib.itoa<|l.getD i 0)]]) (l:=[(Lib.itoa<|l.getD i 0)]) A sl50 io9 δ δ r κ ⟨⟨rfl,(Nr e.1 e.2)⟩,trivial⟩ ?_);intro _ _ B k P;have hP:=(hP.sp g A<|fun _ h=>h).sp k B (fun _ h=>h)
  refine Ol (P8 (T:=Y1) B sl50 io9 r r hP (Z5 P) (by rw[Tf,AB o hp];simp only[maxLen];omega) (by rw[Tf,AB o hp];omega) r ?_);intro _ _ _ Q D _ E;have d:=(d.sp k).tr D.tx;have hT:=(hT.sp k).tr D.tx;obtain⟨R,S,rfl,_,_⟩:=E.len;refine Ua<|PN<|Ol<|St.add r r (Ja (a:=i) (b:=1) o)<|Om<|Nl<|⟨_,o,_,_,(i+1),(p++[(Lib.itoa<|l.getD i 0)]),R,S,Q,rfl,rfl,rfl,rfl,d,hT,E,o,(H7 o hp),rfl⟩
 refine Nl (PT<|Ue<|QB<|Rg<|Om ?_);obtain⟨_,F,_,U⟩:=hP.freeze H hX;refine Ol (PK F Ml r r (Fb F.bd U (by rw[AB o hp];omega) (by rw[Em o hp];exact Tj (vw l) o)) ?_);intro _ _ V _ Y;subst Y;exact Ua<|PS<|Wq r r V<|congrArg (str)<|(Em o hp)
theorem HT{h:Value}(x:RV Jc X w h a)(B:a.c.num.mag.length≤1000)(D:a.c.den.mag.length≤1000):CRt 104 #[h] w fun v _=>v=(.bool (negB a.op a.c.q)):=by
 obtain⟨a1,y,i,j,k,l,z,A,rfl,e⟩:=SR x;have C:=PV hX;refine Cgo Tryz.func104 r r r (Rg<|Ol<|QA C r ?_);intro _ _ _ _ _ d m g;have e:=e.sp m;refine Ua<|Rg<|Ol<|PJ Jw rfl<|Ol<|PO g pl3 r rfl<|Ol<|PW r r (fun b=>?_)<|fun b=>?_
 ·refine Om (OgD<|PJ Yv rfl<|OgD<|Uo (vs:=(qqC a.c i j k l)) g ag28<|OgD<|PK d nh r r (Q8 d.bd (a:=a.c) (Jz e.num e.den) o o) ?_);intro _ _ p _ s;subst s;exact OgD<|Rn r r rfl<|OT<|Ua<|PS<|Wq r r p<|YS<|(ng_t b)
 exact Om<|Oz<|Oz<|Oz<|Oz<|OF<|Ua<|PS<|Wq r r d<|YS<|(ng_f b)
theorem HG{nm:List UInt8}{g:Nat}{cs:List Value}(rE:ElAt Jc X w g 0 cs a)(hT:T10 X w)(hg:Gd a)(hnm:nm.length≤100)(hW:∀i,i<a.args.length→WrA (Ar a i)):CRt 155 #[(str nm),(P10 g 0)] w fun v _=>v=(str (Zr nm a.n (txL a.args))):=by
 obtain⟨a1,c2,a3,c4,a5,c6,a7,c8,rfl,d⟩:=Jb rE.rd;have C:=PV hX;have hcl:=L9 hg hnm;have hal:=hg.al;have hil:=hg.il;have hlt:=vw a.n;refine Cgo Tryz.func155 r r r (Rg<|Ua<|Rg<|Ub<|QG r r ζ<|Ua<|Rh<|Ol<|PJ Zi r ?_);refine Ol<|P0 pl23 r (rE.cell 1 _ r)<|Ol<|St.len sl23 rfl<|Ol<|QN r r (fun T=>?_)<|fun T=>?_
 ·refine Nl (Uk<|Ub<|PJ Zi rfl<|Ol<|P0 pl23 r (rE.cell 1 _ r)<|Ol<|PK C Gn r r (xI C.bd d.n hT hil) ?_);intro _ _ aT af aU;have d:=d.sp af;have rE:=rE.sp af;have hT:=hT.sp af;subst aU;refine Ol (QG r r ζ<|Ua<|Rh<|Ol<|PJ J8 rfl<|Ol<|P0 pl29 r (rE.cell 7 _ r)<|Ol<|St.len sl29 rfl<|Om<|Nl<|W.block<|P7 (fun μ f v=>∃(x y:Nat→Prop) (i:Nat) (out:List UInt8),Cx X w x y v∧f 1=(P10 g 0)∧f 19=(S12 a7 a.args c8)∧f 20=(.int .i64 a.args.length)∧f 21=(.int .i64 i)∧f 4=(str out)∧ExprParts x v a a1 c2 a3 c4 a5 c6 a7 c8∧ElAt Jc x v g 0 (ec a a1 c2 a3 c4 a5 c6 a7 c8) a∧T10 x v∧i≤a.args.length∧out++caR a i=Zr nm a.n (txL a.args)∧μ=(a.args.length-i)) _ ⟨_,_,0,((nm++[40])++(zp a.n)),aT,rfl,rfl,rfl,rfl,rfl,d,rE,hT,(Tv _),(ca_1 T),rfl⟩ ?_);rintro _ _ _ ⟨_,_,i,out,ar,au,av,aw,ax,ay,d,rE,hT,hi,hM,_⟩;obtain⟨_,rfl⟩:=rebK (aC au<|aC av<|aC aw<|aC ax<|aC ay aN);clear au av aw ax ay;refine Rg<|Ol<|P2 r r (fun aI=>?_)<|fun aI=>?_
  ·refine Nl (PT<|Ud<|PR<|PT<|W.block<|PT ?_);have hol:=np hM hcl;refine PN (Ub<|P4 (j:=i) (u:=(Ar a i)) d.args sl29 io31 r r r (Je o) ?_);intro _ _ _ az;obtain⟨z,A,B,D,E,F,G,H,rfl,I⟩:=Jb az.rd;refine Ol (QE (cs:=(ec (Ar a i) z A B D E F G H)) ag31 r r az.cell<|Ol<|PU ar io31 r ?_);intro _ _ _ _ _ aV ac aW;have d:=d.sp ac;refine Oa (On<|Us (cs':=(ec (Ar a i) z A B D E F G H)) aV aW io31 ?_);intro _ k l ag;have rE:=(rE.sp ac).sp l;have hT:=(hT.sp ac).sp l;have I:=(I.sp ac).sp l;refine Nl<|Rh<|Ub<|QN r r (fun U=>?_)<|fun U=>?_
   ·refine Om (Oz<|Oz<|Oz<|Oz<|OT<|Nl<|Uk<|Ub<|QG r r ζ<|Oa<|Nl ?_);have hwl:=(hg.arg (i:=i) o).wl;refine PN (Ub<|Uo (vs:=(ec (Ar a i) z A B D E F G H)) ag ag31<|Ol<|PK k cb39 r r (hW i o k.bd (Mx (Ar a i) I) hT) ?_);intro _ _ aX ah aY;have d:=(d.sp l).sp ah;have rE:=rE.sp ah;have hT:=hT.sp ah;subst aY;refine Ol<|QG r r (by unfold Ar;(try simp only[Tc,Td,Te]);omega)<|Ua<|PN<|Ol<|St.add r r (Ja (a:=i) (b:=1) o)<|Om<|Nl<|⟨_,o,_,_,(i+1),((out++[44,32])++(wrE<|Ar a i)),aX,rfl,rfl,rfl,rfl,rfl,d,rE,hT,o,(ux hM o<|.inl U),rfl⟩
   refine Om<|OgD<|PJ Zi rfl<|OgD<|P0 pl23 r (rE.cell 1 _ r)<|OgD<|St.len sl23 rfl<|OgD<|QN r r (fun V=>?_)<|fun V=>?_
   ·refine OF (Nl<|Uk<|Ub<|QG r r ζ<|Oa<|Nl ?_);have hwl:=(hg.arg (i:=i) o).wl;refine PN (Ub<|Uo (vs:=(ec (Ar a i) z A B D E F G H)) ag ag31<|Ol<|PK k cb39 r r (hW i o k.bd (Mx (Ar a i) I) hT) ?_);intro _ _ aZ ai a0;have d:=(d.sp l).sp ai;have rE:=rE.sp ai;have hT:=hT.sp ai;subst a0;refine Ol<|QG r r (by unfold Ar;(try simp only[Tc,Td,Te]);omega)<|Ua<|PN<|Ol<|St.add r r (Ja (a:=i) (b:=1) o)<|Om<|Nl<|⟨_,o,_,_,(i+1),((out++[44,32])++(wrE<|Ar a i)),aZ,rfl,rfl,rfl,rfl,rfl,d,rE,hT,o,(ux hM o<|.inr V),rfl⟩
   refine OF (Nl<|Ue<|PR ?_);have hwl:=(hg.arg (i:=i) o).wl;refine PN (Ub<|Uo (vs:=(ec (Ar a i) z A B D E F G H)) ag ag31<|Ol<|PK k cb39 r r (hW i o k.bd (Mx (Ar a i) I) hT) ?_);intro _ _ a4 aj a6;have d:=(d.sp l).sp aj;have rE:=rE.sp aj;have hT:=hT.sp aj;subst a6;refine Ol<|QG r r ζ<|Ua<|PN<|Ol<|St.add r r (Ja (a:=i) (b:=1) o)<|Om<|Nl<|⟨_,o,_,_,(i+1),(out++(wrE<|Ar a i)),a4,rfl,rfl,rfl,rfl,rfl,d,rE,hT,o,(D2 hM o U V),rfl⟩
  refine Nl (PT<|Ue<|QB<|PT ?_);have hol:=np hM hcl;exact PN<|Ub<|QG r r ζ<|Ua<|PS<|Wq r r ar<|congrArg (str)<|(Fn hM o)
 refine Nl (Uc<|Rh<|Ol<|PJ J8 rfl<|Ol<|P0 pl29 r (rE.cell 7 _ r)<|Ol<|St.len sl29 rfl<|Om<|Nl<|W.block<|P7 (fun μ f v=>∃(x y:Nat→Prop) (i:Nat) (out:List UInt8),Cx X w x y v∧f 1=(P10 g 0)∧f 19=(S12 a7 a.args c8)∧f 20=(.int .i64 a.args.length)∧f 21=(.int .i64 i)∧f 4=(str out)∧ExprParts x v a a1 c2 a3 c4 a5 c6 a7 c8∧ElAt Jc x v g 0 (ec a a1 c2 a3 c4 a5 c6 a7 c8) a∧T10 x v∧i≤a.args.length∧out++caR a i=Zr nm a.n (txL a.args)∧μ=(a.args.length-i)) _ ⟨_,_,0,(nm++[40]),C,rfl,rfl,rfl,rfl,rfl,d,rE,hT,(Tv _),(ca_0 T),rfl⟩ ?_);rintro _ _ _ ⟨_,_,i,out,aA,aB,aD,aE,aF,aG,d,rE,hT,hi,hM,_⟩;obtain⟨_,rfl⟩:=rebK (aC aB<|aC aD<|aC aE<|aC aF<|aC aG aN);clear aB aD aE aF aG;refine Rg<|Ol<|P2 r r (fun aJ=>?_)<|fun aJ=>?_
 ·refine Nl (PT<|Ud<|PR<|PT<|W.block<|PT ?_);have hol:=np hM hcl;refine PN (Ub<|P4 (j:=i) (u:=(Ar a i)) d.args sl29 io31 r r r (Je o) ?_);intro _ _ _ aH;obtain⟨J,K,L,M,N,P,Q,R,rfl,S⟩:=Jb aH.rd;refine Ol (QE (cs:=(ec (Ar a i) J K L M N P Q R)) ag31 r r aH.cell<|Ol<|PU aA io31 r ?_);intro _ _ _ _ _ aK m aL;have d:=d.sp m;refine Oa (On<|Us (cs':=(ec (Ar a i) J K L M N P Q R)) aK aL io31 ?_);intro _ e h Y;have rE:=(rE.sp m).sp h;have hT:=(hT.sp m).sp h;have S:=(S.sp m).sp h;refine Nl<|Rh<|Ub<|QN r r (fun p=>?_)<|fun p=>?_
  ·refine Om (Oz<|Oz<|Oz<|Oz<|OT<|Nl<|Uk<|Ub<|QG r r ζ<|Oa<|Nl ?_);have hwl:=(hg.arg (i:=i) o).wl;refine PN (Ub<|Uo (vs:=(ec (Ar a i) J K L M N P Q R)) Y ag31<|Ol<|PK e cb39 r r (hW i o e.bd (Mx (Ar a i) S) hT) ?_);intro _ _ aM Z aO;have d:=(d.sp h).sp Z;have rE:=rE.sp Z;have hT:=hT.sp Z;subst aO;refine Ol<|QG r r (by unfold Ar;(try simp only[Tc,Td,Te]);omega)<|Ua<|PN<|Ol<|St.add r r (Ja (a:=i) (b:=1) o)<|Om<|Nl<|⟨_,o,_,_,(i+1),((out++[44,32])++(wrE<|Ar a i)),aM,rfl,rfl,rfl,rfl,rfl,d,rE,hT,o,(ux hM o<|.inl p),rfl⟩
  refine Om<|OgD<|PJ Zi rfl<|OgD<|P0 pl23 r (rE.cell 1 _ r)<|OgD<|St.len sl23 rfl<|OgD<|QN r r (fun s=>?_)<|fun s=>?_
  ·refine OF (Nl<|Uk<|Ub<|QG r r ζ<|Oa<|Nl ?_);have hwl:=(hg.arg (i:=i) o).wl;refine PN (Ub<|Uo (vs:=(ec (Ar a i) J K L M N P Q R)) Y ag31<|Ol<|PK e cb39 r r (hW i o e.bd (Mx (Ar a i) S) hT) ?_);intro _ _ aP aa aQ;have d:=(d.sp h).sp aa;have rE:=rE.sp aa;have hT:=hT.sp aa;subst aQ;refine Ol<|QG r r ζ<|Ua<|PN<|Ol<|St.add r r (Ja (a:=i) (b:=1) o)<|Om<|Nl<|⟨_,o,_,_,(i+1),((out++[44,32])++(wrE<|Ar a i)),aP,rfl,rfl,rfl,rfl,rfl,d,rE,hT,o,(ux hM o<|.inr s),rfl⟩
  refine OF (Nl<|Ue<|PR ?_);have hwl:=(hg.arg (i:=i) o).wl;refine PN (Ub<|Uo (vs:=(ec (Ar a i) J K L M N P Q R)) Y ag31<|Ol<|PK e cb39 r r (hW i o e.bd (Mx (Ar a i) S) hT) ?_);intro _ _ aR ab aS;have d:=(d.sp h).sp ab;have rE:=rE.sp ab;have hT:=hT.sp ab;subst aS;refine Ol<|QG r r (by unfold Ar;(try simp only[Tc,Td,Te]);omega)<|Ua<|PN<|Ol<|St.add r r (Ja (a:=i) (b:=1) o)<|Om<|Nl<|⟨_,o,_,_,(i+1),(out++(wrE<|Ar a i)),aR,rfl,rfl,rfl,rfl,rfl,d,rE,hT,o,(D2 hM o p s),rfl⟩
 refine Nl (PT<|Ue<|QB<|PT ?_);have hol:=np hM hcl;exact PN<|Ub<|QG r r ζ<|Ua<|PS<|Wq r r aA<|congrArg (str)<|(Fn hM o)
theorem xu{nm:List UInt8}{g:Nat}{cs:List Value}{E:TypeId}(hB:Blk w g cs E)(hr:Jc.rd X w cs a)(hT:T10 X w)(hg:Gd a)(hnm:nm.length≤100)(hW:∀i,i<a.args.length→WrA (Ar a i)):
  CRt 155 #[str nm,.pointer (some ⟨g,0,none⟩)] w (fun v _=>v=str (Zr nm a.n<|txL a.args)):=
 HG (X:=fun b=>X b∧¬b=g) (fun b h=>hX b h.1) (NR (P:=Tryz.prog) hB (Jc.tr hr<|Tr.weak fun b h=>h.1)<|fun h=>h.2 r) (hT.tr<|Tr.weak fun b h=>h.1) hg hnm hW
end
end Go.Wf
