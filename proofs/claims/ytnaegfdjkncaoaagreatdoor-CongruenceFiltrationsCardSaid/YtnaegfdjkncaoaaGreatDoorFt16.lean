/- Part 16 of the texts for the claim. -/
import Derived.Test.YtnaegfdjkncaoaaGreatDoorFt9
import Derived.Test.YtnaegfdjkncaoaaGreatDoorFt10
import Derived.Test.YtnaegfdjkncaoaaGreatDoorFt11
import Derived.Test.YtnaegfdjkncaoaaGreatDoorFt12
import Derived.Test.YtnaegfdjkncaoaaGreatDoorFt13
import Derived.Test.YtnaegfdjkncaoaaGreatDoorFt14
import Derived.Test.YtnaegfdjkncaoaaGreatDoorFt15
set_option linter.unusedVariables false
set_option linter.unusedSimpArgs false
set_option maxRecDepth 100000
set_option maxHeartbeats 4000000
noncomputable section
namespace Go.Wf
open Go Go.Ev Go.Proofs
def milL:List (Nat×Nat):=[(0,1),(2,1),(4,1),(6,1),(8,1),(10,1),(0,2),(2,2),(4,2),(6,2),(8,2),(10,2),(12,2),(14,2),(16,2),(18,2),(20,2),(22,2),(0,3),(2,3),(4,3),(6,3),(8,3),(10,3),(12,3),(14,3),(16,3),(18,3),(20,3),(22,3),(24,3),(26,3),(28,3),(30,3),(32,3),(34,3),(0,4),(2,4),(4,4),(6,4),(8,4),(10,4),(12,4),(14,4),(16,4),(18,4),(20,4),(22,4),(24,4),(26,4),(28,4),(30,4),(32,4),(34,4),(36,4),(38,4),(40,4),(42,4),(44,4),(46,4),(0,5),(2,5),(4,5),(6,5),(8,5),(10,5),(12,5),(14,5),(16,5),(18,5),(20,5),(22,5),(24,5),(26,5),(28,5),(30,5),(32,5),(34,5),(36,5),(38,5),(40,5),(42,5),(44,5),(46,5),(48,5),(50,5),(52,5),(54,5),(56,5),(58,5),(0,6),(2,6),(4,6),(6,6),(8,6),(10,6),(12,6),(14,6),(16,6),(18,6),(20,6),(22,6),(24,6),(26,6),(28,6),(30,6),(32,6),(34,6),(36,6),(38,6),(40,6),(42,6),(44,6),(46,6),(48,6),(50,6),(52,6),(54,6),(56,6),(58,6),(60,6)]
def K1(k n:Int):Bool:=decide (0≤k)&&decide (0≤n)&&inE milL k.toNat n.toNat
def mB(k n:Int):List GSer:=(milC k.toNat n.toNat).map serI
theorem EG:((List.range 61).all fun k=>(List.range 61).all fun w=> !(Nat.ble w k&&Nat.beq (w%2) 0)||inE milL w (k/12+1))=true:=by kernel_rfl
theorem kH{k w:Int}(a:0≤w)(f:w≤k)(g:k≤60)(i:w%2=0):K1 w (k/12+1)=true:=by
 have h:=WD.1 EG k.toNat (XQ.2 (by omega));have h:=WD.1 h w.toNat (XQ.2 (by omega));have b:Nat.ble w.toNat k.toNat=true:=YL (by omega);have d:Nat.beq (w.toNat%2) 0=true:=by
  have e:w.toNat%2=0:=by omega
  rw[e];rfl
 rw[b,d] at h;unfold K1;rw[decide_eq_true a,decide_eq_true (show 0≤k/12+1 by omega),show(k/12+1).toNat=k.toNat/12+1 by omega];exact h
theorem jh{k n:Int}(h:K1 k n=true):0≤k∧0≤n:=by
 unfold K1 at h;simp only[VJ,decide_eq_true_eq] at h;exact h.1
theorem pG{n:Nat}:∀ {l:List (List Int)} {i j:Nat},j<l.length→(cutR n i l)[j]? =some (Int.ofNat (min (i+j) n),((l.getD j []).take n).drop (i+j))
 |[],_,_,h=>by simp at h
 |r::l,i,0,_=>rfl
 |r::l,i,j+1,h=>by
  have:=pG (n:=n) (l:=l) (i:=i+1) (j:=j) (by simpa using h)
  rw[show i+1+j=i+(j+1) by omega] at this;exact this
theorem oY{n:Nat}:∀ {l:List (List Int)} {i:Nat},(cutR n i l).length=l.length
 |[],_=>rfl
 |_::l,i=>congrArg (· +1) (oY (l:=l) (i:=i+1))
def bc(k i n:Nat):Int:=((milR k).getD i []).getD n 0
theorem k7{k n:Int}:(mB k n).length=(milR k.toNat).length:=by unfold mB milC;rw[W4,oY]
theorem rB{k n:Int}{i:Nat}(h:i<(mB k n).length):(mB k n).getD i default=serI (Int.ofNat (min i n.toNat),(((milR k.toNat).getD i []).take n.toNat).drop i):=by
 rw[k7] at h;unfold mB milC;rw[UJ,VA,pG h,Jab];rfl
theorem GY:(milT.all fun l=>(List.range l.length).all fun i=>Nat.beq (l.getD i []).length 6&&((l.getD i []).all fun z=>Nat.ble z.natAbs 281474976710655)&&((List.range i).all fun j=>Nat.beq ((l.getD i []).getD j 0).natAbs 0))=true:=by kernel_rfl
theorem iH{k i:Nat}(h:i<(milR k).length):((milR k).getD i []).length=6∧(∀z∈(milR k).getD i [],z.natAbs≤281474976710655)∧∀j,j<i→bc k i j=0:=by
 unfold bc;have hm:milR k∈milT:=by
  unfold milR at h ⊢;by_cases hk:k/2<milT.length
  ·rw[UJ,UL hk];exact List.getElem_mem hk
  ·rw[UJ,U5 (by omega)] at h;simp at h
 have a:=WD.1 GY _ hm;have a:=WD.1 a i (XQ.2 h);simp only[VJ,WD,XQ] at a;exact⟨YT a.1.1,fun z hz=>UW (a.1.2 z hz),fun j hj=>Wp.1 (YT (a.2 j hj))⟩
theorem Ml{z:Int}:(zQ z).q=(z:Rat):=by
 unfold zQ GRat.q;rw[Jl,Jl];rw[←Jao (z:Rat),Jap,Jam];rfl
theorem Rt{z:Int}(h:z.natAbs≤281474976710655):(zQ z).num.mag.length≤2∧(zQ z).den.mag.length≤2:=by
 unfold zQ;refine⟨?_,show(ofZ 1).mag.length≤2 by decide⟩
 show(ofZ z).mag.length≤2
 rw[Xg];exact Jt (by omega)
theorem oh{a:GRat}{p:Int}(hp:1<p)(h:a.q.den=1):zo a p=true:=by
 unfold zo;rw[h]
 have:((1:Nat):Int)%p=1:=VU (by decide) (by simpa using hp)
 rw[this];rfl
theorem rE{a:GRat}:(nrm a).q=a.q:=Zq _
theorem Bu{k n:Int}(h:K1 k n=true):n≤6:=by
 have a:=jh h;unfold K1 at h;simp only[VJ,decide_eq_true_eq] at h;have hi:=h.2;unfold inE at hi;rw[List.any_eq_true] at hi;obtain⟨q,hq,hi⟩:=hi;simp only[VJ] at hi;have e:=YT hi.2
 have:(milL.all fun q=>Nat.ble q.2 6)=true:=by kernel_rfl
 have b:=UW (WD.1 this q hq);omega
theorem A4{k n:Int}(hk:K1 k n=true){i:Nat}(h:i<(mB k n).length):Zd ((mB k n).getD i default)=true∧szL 2 ((mB k n).getD i default).cs∧
  ((mB k n).getD i default).fr+(((mB k n).getD i default).cs.length:Nat)=n∧0≤((mB k n).getD i default).fr∧smL ((mB k n).getD i default).cs:=by
 have hn:=Bu hk;have f:=jh hk;have h':=h;rw[k7] at h';obtain⟨d,e,g⟩:=iH h';rw[rB h];generalize hr:(milR k.toNat).getD i []=r at *;have hl:((r.take n.toNat).drop i).length=n.toNat-i:=by rw[UG,UH,d];omega
 have hcs:(serI (Int.ofNat (min i n.toNat),(r.take n.toNat).drop i)).cs=((r.take n.toNat).drop i).map zQ:=rfl;have hfr:(serI (Int.ofNat (min i n.toNat),(r.take n.toNat).drop i)).fr=((min i n.toNat:Nat):Int):=rfl;rw[hcs,hfr,W4,hl];have hz:∀j,j<(((r.take n.toNat).drop i).map zQ).length→∃z:Int,z.natAbs≤281474976710655∧(((r.take n.toNat).drop i).map zQ).getD j default=zQ z:=by
  intro j hj;rw[W4] at hj;rw[UJ,VA,UL hj];exact⟨_,e _ (XP (List.mem_of_mem_drop (List.getElem_mem hj))),rfl⟩
 refine⟨?_,fun j hj=>?_,by omega,by omega,fun j hj=>?_⟩
 ·unfold Zd;rw[hcs,hfr,W4,hl,decide_eq_true (show(-100:Int)≤((min i n.toNat:Nat):Int) by omega),decide_eq_true (show((min i n.toNat:Nat):Int)≤1000 by omega),decide_eq_true (show((n.toNat-i:Nat):Int)≤1000-((min i n.toNat:Nat):Int) by omega)];rfl
 ·obtain⟨z,b,a⟩:=hz j hj;rw[a];exact Rt b
 ·obtain⟨z,b,a⟩:=hz j hj;rw[a];exact⟨Zr _,Zr _⟩
theorem lF{α:Type}{l:List α}{i j:Nat}{d:α}:(l.drop i).getD j d=l.getD (i+j) d:=by
 rw[UJ,WX,←UJ]
theorem DA{k n:Int}(hk:K1 k n=true){i:Nat}(h:i<(mB k n).length){j:Nat}(hj:(j:Int)<n):(atM ((mB k n).getD i default) (j:Int)).q=(bc k.toNat i j:Rat):=by
 have hn:=Bu hk;have f:=jh hk;have h':=h;rw[k7] at h';obtain⟨b,g,d⟩:=iH h';rw[rB h];unfold atM;have hfr:(serI (Int.ofNat (min i n.toNat),(((milR k.toNat).getD i []).take n.toNat).drop i)).fr=((min i n.toNat:Nat):Int):=rfl;rw[hfr];by_cases hc:(j:Int)<((min i n.toNat:Nat):Int)
 ·rw[if_pos hc,d j (by omega),Jaq,Zq];rfl
 ·rw[if_neg hc];have hcs:(serI (Int.ofNat (min i n.toNat),(((milR k.toNat).getD i []).take n.toNat).drop i)).cs=((((milR k.toNat).getD i []).take n.toNat).drop i).map zQ:=rfl;rw[hcs];have hl:((((milR k.toNat).getD i []).take n.toNat).drop i).length=n.toNat-i:=by rw[UG,UH,b];omega
  have hjl:((j:Int)-((min i n.toNat:Nat):Int)).toNat<((((milR k.toNat).getD i []).take n.toNat).drop i).length:=by omega
  rw[UJ,VA,UL hjl]
  show(zQ _).q=_
  rw[Ml]
  congr 1
  unfold bc;have e:=UL hjl;have a:((((milR k.toNat).getD i []).take n.toNat).drop i).getD ((j:Int)-((min i n.toNat:Nat):Int)).toNat 0=((milR k.toNat).getD i []).getD j 0:=by
   rw[lF,lD (by omega)]
   congr 1;omega
  rw[UJ,e] at a;exact a
def addR(p c:Int)(b:GSer)(g:List Int)(m:Nat):List Int:=(List.range g.length).map fun n=>if n<m then(g.getD n 0+c*rmM (nrm (atM b (n:Int))) p)%p else g.getD n 0
theorem K2{p c:Int}{b:GSer}{g:List Int}{m:Nat}:(addR p c b g m).length=g.length:=by unfold addR;rw[W4,W6]
theorem Vg{p c:Int}{b:GSer}{g:List Int}{m n:Nat}(h:n<g.length):(addR p c b g m).getD n 0=if n<m then(g.getD n 0+c*rmM (nrm (atM b (n:Int))) p)%p else g.getD n 0:=by
 unfold addR;rw[UJ,VA,WZ h];rfl
theorem qe{l m:List Int}(h:l.length=m.length)(e:∀i,i<l.length→l.getD i 0=m.getD i 0):l=m:=by
 refine List.ext_getElem h fun i a b=>?_
 have:=e i a
 rw[UJ,UJ,UL a,UL b] at this;exact this
theorem tA{p c:Int}{b:GSer}{g:List Int}:addR p c b g 0=g:=qe K2 fun i hi=>by
 rw[K2] at hi;rw[Vg hi,if_neg (by omega)]
theorem yL{l:List Int}{i j:Nat}{u:Int}(h:i<l.length):(l.set i u).getD j 0=if i=j then u else l.getD j 0:=by
 rw[UJ,List.getElem?_set];split
 ·rename_i e;subst e;simp
 ·rw[←UJ]
theorem tC{p c:Int}{b:GSer}{g:List Int}{m:Nat}(h:m<g.length):(addR p c b g m).set m (((addR p c b g m).getD m 0+c*rmM (nrm (atM b (m:Int))) p)%p)=addR p c b g (m+1):=by
 refine qe (by rw[W7,K2,K2]) fun i hi=>?_
 rw[W7,K2] at hi;rw[yL (by rw[K2];exact h),Vg h,Vg hi,Vg hi,if_neg (Nat.lt_irrefl m)];by_cases e:m=i
 ·subst e;rw[if_pos rfl,if_pos (by omega)]
 ·rw[if_neg e];by_cases a:i<m
  ·rw[if_pos a,if_pos (by omega)]
  ·rw[if_neg a,if_neg (by omega)]
def matF(p:Int)(want:List Int)(l:List GSer):Nat→List Int
 |0=>List.replicate want.length 0
 |i+1=>addR p (want.getD i 0) (l.getD i default) (matF p want l i) want.length
theorem jm{p:Int}{want:List Int}{l:List GSer}:∀ {i:Nat},(matF p want l i).length=want.length
 |0=>by unfold matF;rw[UE]
 |i+1=>by unfold matF;rw[K2,jm]
def inP(p:Int)(g:List Int):Prop:=∀i,i<g.length→0≤g.getD i 0∧g.getD i 0<p
theorem tu{p c:Int}{b:GSer}{g:List Int}{m:Nat}(hp:0<p)(h:inP p g):inP p (addR p c b g m):=by
 intro i hi;rw[K2] at hi;rw[Vg hi];split
 ·exact⟨VX _ (by omega),VW _ hp⟩
 ·exact h i hi
theorem tM{p:Int}{want:List Int}{l:List GSer}(hp:0<p):∀ {i:Nat},inP p (matF p want l i)
 |0=>by
  intro i hi;unfold matF at hi ⊢;rw[UE] at hi;rw[UJ,W0,if_pos hi];exact⟨Wa _,hp⟩
 |i+1=>by unfold matF;exact tu hp (tM hp)
def mtM(want:List Int)(w p:Int):Bool:=decide (matF p want (mB w want.length) (min (mB w want.length).length want.length)=want)
theorem O8{p c r g:Int}(hp:p≤1000)(b:0≤c)(d:c<p)(a:0≤r)(e:r<p)(f:0≤g)(h:g<p):0≤c*r∧c*r≤1000000:=by
 have i:c*r≤1000*1000:=Wh (by omega) (by omega) a (by omega);have j:=Wk b a;omega
def Y7(b:GSer)(p:Int)(n:Nat):List Int:=(List.range n).map fun(i:Nat)=>rmM (nrm (atM b (i:Int))) p
def zerB(l:List Int):Bool:=l.all fun z=>decide (z=0)
def fndM(want:List Int)(k p:Int):Int:=(((List.range 61).map fun n=>((n:Nat):Int)).find? fun w=>decide (w≤k)&&decide ((k-w)%(p-1)=0)&&mtM want w p).getD (-1)
def filM(a:GSer)(k p:Int):Int×Int:=
 if(decide (5≤p)&&decide (p≤997)&&prmB p)=false then(0,8)
 else if k<0∨k>60∨¬k%2=0 then(0,2)
 else if(bld a.fr a.cs).fr<0∧0<(bld a.fr a.cs).cs.length then(0,18)
 else if(bld a.fr a.cs).fr+((bld a.fr a.cs).cs.length:Nat)<k/12+1 then(0,17)
 else if((List.range (k/12+1).toNat).all fun(i:Nat)=>zo (nrm (atM (bld a.fr a.cs) (i:Int))) p)=false then(0,6)
 else if mtM (Y7 (bld a.fr a.cs) p (k/12+1).toNat) k p=false then(0,12)
 else if zerB (Y7 (bld a.fr a.cs) p (k/12+1).toNat)=true then(0,5)
 else(fndM (Y7 (bld a.fr a.cs) p (k/12+1).toNat) k p,0)
end Go.Wf
namespace Go.Ev
open Go.Wf
theorem Ey:∀q∈milL,Jq (milM q.1 q.2) (milC q.1 q.2)=true:=by
 simp only[milL,WR];exact⟨Gi,FD,Ef,EL,Gt,AR,Eh,EU,GM,Ds,Fh,Ad,xF,A0,BE,B0,yA,Bv,FH,Ee,Ge,D5,Gf,BW,B1,wQ,yC,yH,zY,xA,wR,w9,wY,A6,zZ,Bi,Fe,Ht,G3,GE,FV,wt,xD,BD,zP,zA,wC,Am,yU,wB,xW,wq,wK,Ab,BF,BK,wP,AC,BU,AP,EE,EZ,G1,Fg,E9,zN,A1,wO,yI,zX,xQ,A3,Bp,Ae,xT,wv,yW,xI,AH,wV,AO,Bq,wE,Aw,BX,A8,Ar,zO,xS,B3,D3,Eu,Ec,Hm,Fq,Ah,xY,Be,zB,Bz,zV,Aq,Bf,Bn,BP,wL,xM,B4,BJ,AJ,zC,zU,At,Ao,Ak,Bx,wA,AD,wx,AM,xP,fun _ h=>by cases h⟩
end Go.Ev
namespace Go.Wf
open Go Go.Ev Go.Proofs
structure T10 (X:Nat→Prop) (w:World):Prop where
 tab:Xo w 2 Vx
 out:¬X 1
theorem T10.tr{X X':Nat→Prop}{w w':World}(h:T10 X w)(t:Tr X w X' w'):T10 X' w':=by
 have hlt:1<w.heap.size:=by
  obtain⟨_,C,T,fr,a,_⟩:=h.tab (1,vc) (.head _)
  exact(VE.1 a).1
 refine⟨fun p hp=>?_,fun hx=>h.out (t.sub 1 hlt hx)⟩;obtain⟨b,C,T,fr,a,d⟩:=h.tab p hp;obtain rfl:p=(1,vc):=by simpa using hp
 exact⟨b,C,T,fr,by rw[t.blk 1 hlt h.out];exact a,d⟩
theorem T10.sp{x y x' y' ch:Nat→Prop}{w w':World}(h:T10 x w)(s:Sp x y w x' y' w' ch):T10 x' w':=h.tr s.tx
theorem T10.no{X:Nat→Prop}{w:World}(h:T10 X w):∀p∈Vx,¬X p.1:=fun p hp=>by
 obtain rfl:p=(1,vc):=by simpa using hp
 exact h.out
theorem oD{X:Nat→Prop}{w:World}(hX:∀b,X b→b<w.heap.size){k n:Int}(hT:T10 X w)(hk:K1 k n=true):
  Calls Tryz.prog 91 #[.int .i64 k,.int .i64 n] w (Ret w fun v w'=>RS Zu X w' v (mB k n)):=by
 unfold K1 at hk;obtain⟨hk,e⟩:=Za hk;obtain⟨a,d⟩:=Za hk;have a:=of_decide_eq_true a;have d:=of_decide_eq_true d;have f:k=Int.ofNat k.toNat:=by rw[Wx];omega
 have g:n=Int.ofNat n.toNat:=by rw[Wx];omega
 exact AZ exS0 (uH JL) mixed (Ey _ (DO e)) X w hX hT.no (by decide) hT.tab [_,_] (fun Φ=>by simp only[RvL,Rv];exact⟨_,_,rfl,by rw[←f],_,_,rfl,by rw[←g],rfl⟩)
end Go.Wf
namespace Go.Wf
open Go Go.RowKit
abbrev inI(u:Int):Prop:= -9223372036854775808≤u∧u≤9223372036854775807
def i64v(u:Int):Value:= .int .i64 u
section
variable {X0 x y:Nat→Prop} {w0:Bs} {w:World} {E:TypeId} {v:Value} {l:List Int}
theorem OS.i64(h:OS Kz E w0 x y w v l):(∀u∈l,inI u)∧w.ownsRow 0 E 1 v l.length (l.map i64v):=by
 obtain⟨⟨css,b,e,d⟩,hm⟩:=h;have hc:∀(i:Nat) (u:Int),l[i]? =some u→css[i]? =some [i64v u]∧inI u:=by
  intro i u hu;have hi:i<css.length:=by rw[b];exact(WY.1 hu).1
  have hci:css[i]? =some css[i]:=UL hi;have hr:css[i]=[.int .i64 u]∧inI u:=e i _ u hci hu;exact⟨by rw[hci,hr.1];rfl,hr.2⟩
 have hcss:css=l.map fun u=>[i64v u]:=by
  apply WP;intro i;cases hu:l[i]? with
  |none=>rw[VA,hu,U5 (by rw[b];exact List.getElem?_eq_none_iff.1 hu)];rfl
  |some u=>rw[VA,hu,(hc i u hu).1];rfl
 have hfl:∀m:List Int,(m.map fun u=>[i64v u]).flatten=m.map i64v:=by
  intro m
  induction m with
  |nil=>rfl
  |cons a m ih=>simp only[U9,WQ,ih];rfl
 rw[hcss,hfl] at d;refine⟨fun u hu=>?_,d⟩
 obtain⟨i,hi⟩:=XL.1 hu
 exact(hc i u hi).2
theorem T7(hl:∀u∈l,inI u)(h:w.ownsRow 0 E 1 v l.length (l.map i64v))(hm:∀k,v.ownBlock=some k→(x k∧¬y k)∧(w0.heap.size≤k∨w0.M k)):OS Kz E w0 x y w v l:=by
 have hfl:∀m:List Int,(m.map fun u=>[i64v u]).flatten=m.map i64v:=by
  intro m
  induction m with
  |nil=>rfl
  |cons a m ih=>simp only[U9,WQ,ih];rfl
 refine⟨⟨l.map fun u=>[i64v u],by simp,fun i cs u hcs hu=>?_,by rw[hfl];exact h⟩,hm⟩;rw[VA,hu] at hcs;cases hcs;exact⟨rfl,hl u (XO hu)⟩
end
section
variable {P:Program} {ρ:Operand→Value} {w:World} {K:Value→World→Prop} {Kp:List PanicEntry→World→Prop} {dst:Option Tmp} {ty:TypeId} {pos:String} {after:Array Edge} {gd:Option (Nat×Bool)} {X0 x y:Nat→Prop} {w0:Bs}
theorem S3{o:Operand}{t E:TypeId}{ad:Option Addr}{n c j:Nat}{l:List Int}(ho:OS Kz E w0 x y w (.slice ad n c) l)(ht:Yo P t=true)(hx:ρ o= .pointer (ad.map (·.add (j*1))))(hj:j<l.length)(h:K (.int .i64 (l.getD j 0)) w):
  St P ρ ⟨dst,.load t o,ty,pos,after,gd⟩ w K Kp:=by
 obtain⟨f,a⟩:=ho.i64;rcases a.2 with ⟨e,h⟩|⟨g,cap,cur,e,hb,hg,i,k,_⟩
 ·omega
 ·cases e;have d:(Value.pointer (Option.map (fun x=>x.add (j*1)) (some (⟨g,0,none⟩:Addr))))= .pointer (some ⟨g,j,none⟩):=by simp[Addr.add];intro h;exact h.symm
  rw[d] at hx;have b:=a.cells (g:=g) rfl j (i64v (l.getD j 0)) (by rw[VA,Ji hj];rfl);rw[Addr.add_lit,Jab] at b;exact Sa ht hx b h
theorem Tc {a b:Operand} {t E:TypeId} {z:Value} {by_:Nat} {ad:Option Addr} {n c j:Nat} {u:Int} {l:List Int} (C:Cx X0 w0 x y w) (ho:OS Kz E w0 x y w (.slice ad n c) l) (hi:Zf P t=some (z,1,by_))
  (hx:ρ a= .pointer (ad.map (·.add (j*1)))) (hv:ρ b= .int .i64 u) (hj:j<l.length) (hu:inI u)
  (h:∀w',Cx X0 w0 x y w'→Ap x w x y w'→OS Kz E w0 x y w' (.slice ad n c) (l.set j u)→K undef w'):St P ρ ⟨dst,.store t a b,ty,pos,after,gd⟩ w K Kp:=by
 obtain⟨m,o⟩:=ho.i64;have hmem:=ho.mem;obtain⟨inf,hi',_,hs,_⟩:=Jk hi;rcases o.2 with ⟨e,A⟩|⟨g,cap,cur,e,hb,hg,p,r,f,i⟩
 ·omega
 ·cases e;have s:(Value.pointer (Option.map (fun x=>x.add (j*1)) (some (⟨g,0,none⟩:Addr))))= .pointer (some ⟨g,j,none⟩):=by simp[Addr.add];intro h;exact h.symm
  rw[s] at hx;have hB:Blk w g cur.toList E:=by unfold Blk;rw[hg]
  have hcl:cur.toList.length=c:=by rw[VG,f,ZL]
  refine S5 (vs:=[i64v u]) hi' hs hx (by rw[hv];rfl) rfl hB (by omega) rfl fun C' hC'=>?_
  have d:C'=cur.toList.set j (i64v u):=by
   rw[hC',XY,if_pos (by omega)];simp
  have hm:=hmem g rfl;have hsz:(Xd w g C').heap.size=w.heap.size:=by simp[Xd,World.setRow]
  have hsame:∀b,b<w.heap.size→¬b=g→(Xd w g C').heap[b]? =w.heap[b]? :=fun b _ hb=>yh hb;have k:Bel w0 (Xd w g C'):=C.below.turn (g:=g) ⟨rfl,rfl,rfl,by rw[hsz];exact UM _,fun b hb hm=>hsame b hb hm⟩ hm.2;refine h _ ⟨k,C.base,fun b hb=>by rw[hsz];exact C.bd b hb,C.yx⟩ ⟨⟨fun _ _ h=>h,fun b hb hx=>hsame b hb (fun e=>hx (e▸hm.1.1)),by omega⟩,fun b hb hy=>hsame b hb (fun e=>hm.1.2 (e▸hy))⟩ ?_;refine T7 (fun q hq=>?_) ?_ hmem
  ·rcases List.mem_or_eq_of_mem_set hq with hq|rfl
   ·exact m q hq
   ·exact hu
  ·refine⟨by simp,.inr ⟨g,c,C'.toArray,by simp,UN _,hB.set,by simpa using p,r,?_,?_⟩⟩
   ·rw[d];simp[f]
   ·rw[d,List.map_set];simp only[W7,ZL] at i ⊢;rw[←i,List.take_set]
theorem Tm {t e:TypeId} {l c:Operand} {kl kc:IntKind} {a:Int} {n by_:Nat} (C:Cx X0 w0 x y w) (ht:P.underlying t=some (.slice e)) (hl:ρ l= .int kl a) (hc:ρ c= .int kc a) (ha:a=n) (hb:n≤1099511627776)
  (hi:Zf P e=some (.int .i64 0,1,by_)) (hby:by_≤8)
  (h:∀g w' x',Cx X0 w0 x' y w'→Sp x y w x' y w' Zt→OS Kz e w0 x' y w' (.slice (some ⟨g,0,none⟩) n n) (List.replicate n 0)→K (.slice (some ⟨g,0,none⟩) n n) w'):
  St P ρ ⟨dst,.makeSlice t l c,ty,pos,after,gd⟩ w K Kp:=by
 obtain⟨i,hi',hz,hs,hby'⟩:=Jk hi;subst ha;have hbytes:(i.bytes:Int)*(n:Int)≤281474976710656:=by
  rw[hby'];have f:=ZH hby hb;have b:((by_*n:Nat):Int)≤281474976710656:=by omega
  rw[Wt] at b;exact b
 have hr:=run_make (P:=P) w t e i (.int .i64 0) ht hi' hz kl kc (n:Int) (n:Int) (by omega) (Wa _) hbytes (by omega);have d:madeCells (Value.int IntKind.i64 0).cells (n*i.size)=((List.replicate n 0).map i64v).toArray:=by
  rw[hs,ZL];apply VC;simp only[madeCells,Value.cells,Array.toList_map,Array.toList_range,List.map_replicate];apply WP;intro q;simp only[VA,W0];by_cases hq:q<n
  ·simp[hq,Nat.mod_one,i64v]
  ·simp[hq]
 simp only[WC] at hr;rw[d] at hr;refine R7 (v:= .slice (some ⟨w.heap.size,0,none⟩) n n) (w':=w.alloc (.cells ((List.replicate n 0).map i64v).toArray e (0,0))) ?_ (h _ _ _ (C.row _ e).1 (C.row _ e).2 (T7 (fun u hu=>by rw[List.eq_of_mem_replicate hu];omega) ⟨by simp,.inr ⟨w.heap.size,n,((List.replicate n 0).map i64v).toArray,by simp,UN _,heap_alloc_new w _,by simp,by unfold maxLen;omega,by simp,by simp⟩⟩ fun k hk=>?_))
 ·simp[execOp,hl,hc,hr]
 ·simp[Value.ownBlock] at hk;subst hk;exact⟨⟨.inr rfl,fun hy=>by have:=C.bd _ (C.yx _ hy);omega⟩,.inl C.below.size⟩
end
end Go.Wf
namespace Go.Wf
open Go Go.Proofs Go.RowKit
theorem MO{a b:List Int}(h:¬((a.length:Nat):Int)=((b.length:Nat):Int)):false=decide (a=b):=(decide_eq_false fun e=>h (by rw[e])).symm
theorem NO{a b:List Int}{i:Nat}(h:¬a.getD i 0=b.getD i 0):false=decide (a=b):=(decide_eq_false fun e=>h (by rw[e])).symm
theorem Mm{a b:List Int}(h:a.length=b.length)(e:∀j,j<a.length→a.getD j 0=b.getD j 0):true=decide (a=b):=(decide_eq_true (qe h e)).symm
theorem E6{a b:List Int}{i:Nat}(h:∀j,j<i→a.getD j 0=b.getD j 0)(e:a.getD i 0=b.getD i 0):∀j,j<i+1→a.getD j 0=b.getD j 0:=by
 intro j hj;by_cases k:j=i
 ·rw[k];exact e
 ·exact h j (by omega)
theorem oR{N M:Nat}{l:List GRat}(h:szL N l)(hNM:N≤M):szL M l:=fun i hi=>⟨UC (h i hi).1 hNM,UC (h i hi).2 hNM⟩
theorem Lb{k a p:Int}(hk:K1 k a=true)(hp:2≤p){i n:Nat}(h:i<(mB k a).length)(hn:((n:Nat):Int)<a):
  zo (nrm<|atM ((mB k a).getD i default) (n:Int)) p=true∧(nrm<|atM ((mB k a).getD i default) (n:Int)).num.mag.length≤1000000∧(nrm<|atM ((mB k a).getD i default) (n:Int)).den.mag.length≤1000000:=by
 obtain⟨g,d,j,l,f⟩:=A4 hk h;have e:=DA hk h hn;have m:=lW d (by decide) (n:=(n:Int)) (by omega);have b:=tF f (n:=(n:Int)) (by omega);have o:=Zw b.1;have r:=Z0 b.2;refine⟨oh (by omega) (by rw[rE,e];exact Jam _),?_,?_⟩
 ·show(ofQ _).num.mag.length≤_
  omega
 ·show(ofQ _).den.mag.length≤_
  omega
theorem FJ{p:Int}{want gl ql:List Int}{l:List GSer}{i m:Nat}(hg:gl=matF p want l i)(hq:ql=addR p (want.getD i 0) (l.getD i default) gl m)(hm:m=want.length):ql=matF p want l (i+1):=by
 rw[hq,hm,hg];rfl
theorem Hb{p c:Int}{b:GSer}{gl ql:List Int}{m:Nat}(hq:ql=addR p c b gl m)(hm:m<gl.length):ql.set m ((ql.getD m 0+c*rmM (nrm (atM b (m:Int))) p)%p)=addR p c b gl (m+1):=by
 rw[hq];exact tC hm
theorem OI{x p:Int}(h:2≤p∧p≤1000):inI (x%p):=by
 have a:=VX x (show p≠0 by omega);have b:=VW x (show 0<p by omega);constructor<;>omega
theorem Ce{p a:Int}{want gl:List Int}{i:Nat}(hg:gl=matF p want (mB a want.length) i)(hi:i≤(mB a want.length).length)(h:i=min (mB a want.length).length want.length):decide (gl=want)=mtM want a p:=by
 rw[hg,h];rfl
theorem pk{X:Nat→Prop}{w:World}(hX:XB X w){k:Int}(a:0≤k)(b:k≤60)(d:k%2=0):CRt 49 #[(.int .i64 k)] w fun v w'=>v=(.int .i64 0):=by
 have C:=Cx.start hX;refine Cgo Tryz.func49 rfl rfl rfl (Rg<|Ua<|RZ<|W.block<|Rg<|Ub<|SG (t:=false) rfl rfl (decide_eq_false (by omega))<|Om<|OgD<|RP<|OgD<|SM (t:=false) rfl rfl (decide_eq_false (by omega))<|OF ?_);refine Ua<|Ug<|Ub<|Sz rfl rfl (by decide) (IntWalk.rem_in _ _ (by omega))<|Ol<|SK (t:=false) rfl rfl (by rw[decide_eq_true (by omega)];rfl)<|Ua<|Uc<|Rg<|Ua<|RY<|J0 rfl (resV.t rfl)<|RM ?_ C.below
 rfl
theorem pf{X:Nat→Prop}{w:World}(hX:XB X w){p:Int}(a:0≤p)(b:p≤1000):CRt 50 #[(.int .i64 p)] w fun v w'=>v=(.bool true):=by
 have C:=Cx.start hX;refine Cgo Tryz.func50 rfl rfl rfl (Rg<|Ua<|Rg<|Ub<|SV (t:=true) rfl rfl (decide_eq_true (by omega))<|Om<|OgD<|RP<|OgD<|SU (t:=true) rfl rfl (decide_eq_true (by omega))<|OT ?_);refine Ua<|RY<|J0 rfl (resV.t rfl)<|RM ?_ C.below
 rfl
theorem BB{X:Nat→Prop}{w:World}(hX:XB X w){k:Int}{n:Int}(hT:T10 X w)(i:0≤k)(j:k≤60)(l:k%2=0)(hk:K1 k n=true):CRt 62 #[(.int .i64 k),(.int .i64 n)] w fun v w'=>(∃e d,v= .tuple #[e,d]∧(RS Zu X w' e (mB k n))∧(d=(.int .i64 0))):=by
 have C:=Cx.start hX;have r:=jh hk;have s:=Bu hk;refine Cgo Tryz.func62 rfl rfl rfl (Rg<|Oa<|Ua<|Rh<|Ub<|RH C cb49 rfl rfl (pk C.bd i j l) ?_);intro d B f m o;subst o;refine Oa (Nl<|Rg<|Ub<|SK (t:=false) rfl rfl (by rw[decide_eq_true rfl];rfl)<|Nl<|Uc<|Rh<|Ub<|RH f cb50 rfl rfl (pf f.bd (by omega) (by omega)) ?_);intro D E g p h;have hT:=(hT.sp m).sp p;subst h;refine Ol (Sr rfl<|Nl<|Uc<|Rg<|Om<|Ub<|RH g cb91 rfl rfl (oD g.bd hT hk) ?_);intro u x a y b;obtain⟨z,A,rfl,_,_⟩:=b.len;refine Oa (Ua<|RY<|Z4 rfl (resV.t rfl) (resV.t rfl)<|RM ?_ a.below);refine⟨_,_,rfl,?_,?_⟩
 ·exact TP ((b:RS _ _ _ _ _).tr (Tr.weak a.base))<|rfl
 ·skip
  rfl
theorem rR{X:Nat→Prop}{w:World}(hX:XB X w){T:Value}{a:List Int}(k:RS Kz X w T a){U:Value}{b:List Int}(l:RS Kz X w U b)  :CRt 46 #[T,U] w fun v w'=>v=(.bool (decide (a=b))):=by
 obtain⟨n,o,rfl,_,_⟩:=k.len;obtain⟨p,r,rfl,_,_⟩:=l.len;have C:=Cx.start hX;have hml:maxLen=9223372036854775807:=rfl;refine Cgo Tryz.func46 rfl rfl rfl<|Rg<|Ua<|Rh<|Ub<|St.len sl24 rfl<|Ub<|St.len sl24 rfl<|Ol<|SA rfl rfl (fun s=>?_)<|fun s=>?_
 ·exact Nl<|Uf<|Ua<|RY<|Wq rfl rfl C<|congrArg (Value.bool)<|(MO s)
 refine Nl (Uc<|Rh<|Ub<|St.len sl24 rfl<|Om<|Nl<|W.block<|Sc (fun μ f v=>∃(x y:Nat→Prop) (i:Nat),Cx X w x y v∧f 0=(.slice n a.length o)∧f 1=(.slice p b.length r)∧f 12=(.int .i64 ((a.length:Nat):Int))∧f 13=(.int .i64 ((i:Nat):Int))∧RS Kz x v (.slice n a.length o) a∧RS Kz x v (.slice p b.length r) b∧i≤a.length∧(∀j,j<i→a.getD j 0=b.getD j 0)∧μ=(a.length-i)) _ ⟨_,_,0,C,rfl,rfl,rfl,rfl,k,l,(UN _),(fun j h=>absurd h<|US j),rfl⟩ ?_);rintro aD f6 w7 ⟨x8,y9,i,z,A,B,D,E,k,l,hi,hv,av⟩;obtain⟨aE,rfl⟩:=rebK (aC A<|aC B<|aC D<|aC E aN);clear A B D E;refine Rg<|Ol<|Sb rfl rfl (fun K=>?_)<|fun K=>?_
 ·refine Nl<|RZ<|Ud<|RT<|RZ<|W.block<|Rg<|Om<|Ua<|RZ<|Sg mixed 8 [[],[],[0,1],[2],[],[],[4,5],[6]] z [fx<|.slice n a.length o,fx<|.int .i64 ((i:Nat):Int),fE Kz<|a.getD i 0,fx<|.int .i64 (a.getD i 0),fx<|.slice p b.length r,fx<|.int .i64 ((i:Nat):Int),fE Kz<|b.getD i 0,fx<|.int .i64 (b.getD i 0)] (by kernel_rfl) ⟨sx,sx,sE,sx,sx,sx,sE,sx,trivial⟩ fun V g aF ⟨e,F⟩ d=>?_
  have k:=k.sp F;have l:=l.sp F;have d:Keep [16,17,18,19,20,21,22,23] _ V:=d;refine⟨⟨fun _=>?_,fun _=>?_,fun⟨Y,Z,_⟩=>?_,fun⟨aa,_⟩=>?_,fun _=>?_,fun _=>?_,fun⟨ab,ac,_⟩=>?_,fun⟨ad,_⟩=>?_,trivial⟩,fun⟨ae,af,ag,ah,ai,aj,ak,al,_⟩=>?_⟩
  ·exact Sd0 d fun _=>RP ⟨g,RJ e,rfl⟩
  ·exact Sd0 d fun _=>RP ⟨g,RJ e,rfl⟩
  ·refine Js d (aC Y<|aC Z aN) fun _=>R8 (Sd (j:=i) (u:=(a.getD i 0)) k sl24 io3 rfl rfl rfl (Ji (by omega)) ?_);intro aG aH L G;obtain⟨rfl,aw⟩:L=_∧_:=G.rd;exact⟨g,RJ e,⟨_,_,_,rfl,G⟩⟩
  ·obtain⟨aI,aJ,M,am,H⟩:=aa;obtain⟨rfl,ax⟩:M=_∧_:=H.rd;exact Sd1 d am fun _=>Sa pl3 rfl (H.cell 0 _ rfl) ⟨g,RJ e,rfl⟩
  ·exact Sd0 d fun _=>RP ⟨g,RJ e,rfl⟩
  ·exact Sd0 d fun _=>RP ⟨g,RJ e,rfl⟩
  ·refine Js d (aC ab<|aC ac aN) fun _=>R8 (Sd (j:=i) (u:=(b.getD i 0)) l sl24 io3 rfl rfl rfl (Ji (by omega)) ?_);intro aK aL N I;obtain⟨rfl,ay⟩:N=_∧_:=I.rd;exact⟨g,RJ e,⟨_,_,_,rfl,I⟩⟩
  ·obtain⟨aM,aO,P,an,J⟩:=ad;obtain⟨rfl,az⟩:P=_∧_:=J.rd;exact Sd1 d an fun _=>Sa pl3 rfl (J.cell 0 _ rfl) ⟨g,RJ e,rfl⟩
  obtain⟨aP,aQ,Q,ao,aq⟩:=ag;obtain⟨rfl,aA⟩:Q=_∧_:=aq.rd;obtain⟨aR,aS,R,ar,au⟩:=ak;obtain⟨rfl,aB⟩:R=_∧_:=au.rd;obtain⟨aT,rfl⟩:=mixK d (aC ae<|aC af<|aC ao<|aC ah<|aC ai<|aC aj<|aC ar<|aC al aN);refine Ol<|SA rfl rfl (fun m=>?_)<|fun m=>?_
  ·exact Nl<|Uf<|Ua<|RY<|Wq rfl rfl e<|congrArg (Value.bool)<|(NO (i:=i) m)
  refine Nl<|Uc<|RK<|Ol<|St.add rfl rfl (Jc (a:=i) (b:=1) (by omega))<|Om<|Nl<|⟨_,(by omega),_,_,(i+1),e,rfl,rfl,rfl,rfl,k,l,(by omega),(E6 hv m),rfl⟩
 exact Nl<|RZ<|Ue<|Sf<|Rg<|Ua<|RY<|Wq rfl rfl z<|congrArg (Value.bool)<|(Mm (by omega) fun j hj=>hv j (by omega))
theorem jX{X:Nat→Prop}{w:World}(hX:XB X w){v0:Value}{want:List Int}(l:RS Kz X w v0 want){d:Int}{p:Int}(hT:T10 X w)(h0:0≤d)(h1:d≤60)(h2:d%2=0)(hk:K1 d want.length=true)(hp:isP p)(hpb:p≤1000)(hw:inP p want):CRt 25 #[v0,(.int .i64 d),(.int .i64 p)] w fun v w'=>v=(.bool (mtM want d p)):=by
 obtain⟨M,N,rfl,_,_⟩:=l.len;have C:=Cx.start hX;have cQ:=Bu hk;have b2:=hp.1;have hml:maxLen=9223372036854775807:=rfl;refine Cgo Tryz.func25 rfl rfl rfl (Rg<|Ua<|Rg<|Om<|Ub<|St.len sl24 rfl<|Ol<|RH C cb62 rfl rfl (BB C.bd hT h0 h1 h2 hk) ?_);intro v3 w4 C5 s6 h7;obtain⟨v8,v9,rfl,k,rfl⟩:=h7;obtain⟨V,Y,rfl,_,_⟩:=k.len;refine Om (Ol<|St.extract rfl rfl<|Ol<|St.extract rfl rfl<|Oa<|Ua<|Rg<|Ub<|St.len sl24 rfl<|Ol<|Tm (n:=want.length) C5 sl24 rfl rfl rfl (by omega) io3 (by decide) ?_);intro b4 cR cS b5 Z b6;have l:=(l.sp s6).sp Z;have hT:=(hT.sp s6).sp Z;have k:=k.sp Z;refine Oa (Nl<|Rh<|Ub<|St.len sl91 rfl<|Om<|Nl<|W.block<|Sc (fun μ f v=>∃(x y:Nat→Prop) (i:Nat) (gl:List Int) (ga:Option Addr) (gc:Nat),Cx X w x y v∧f 0=(.slice M want.length N)∧f 2=(.int .i64 p)∧f 6=(.bool false)∧f 25=(.slice V (mB d ((want.length:Nat):Int)).length Y)∧f 26=(.int .i64 (((mB d ((want.length:Nat):Int)).length:Nat):Int))∧f 27=(.int .i64 ((i:Nat):Int))∧f 9=(.slice ga want.length gc)∧RS Kz x v (.slice M want.length N) want∧T10 x v∧RS Zu x v (.slice V (mB d ((want.length:Nat):Int)).length Y) (mB d ((want.length:Nat):Int))∧OS Kz 3 w x y v (.slice ga want.length gc) gl∧i≤(mB d want.length).length∧i≤want.length∧gl=matF p want (mB d want.length) i∧μ=((mB d want.length).length-i)) _ ⟨_,_,0,(List.replicate want.length 0),(some ⟨b4,0,none⟩),want.length,b5,rfl,rfl,rfl,rfl,rfl,rfl,rfl,l,hT,k,b6,(UN _),(UN _),rfl,rfl⟩ ?_);rintro cT cU cV ⟨cW,cX,i,gl,ga,gc,an,ao,aq,ar,au,av,aw,ax,l,hT,k,hG,hi,hiw,hg,cg⟩;obtain⟨cY,rfl⟩:=rebK (aC ao<|aC aq<|aC ar<|aC au<|aC av<|aC aw<|aC ax aN);clear ao aq ar au av aw ax;have hgl:gl.length=want.length:=by rw[hg,jm]
 refine Rg<|Ol<|Sb rfl rfl (fun a0=>?_)<|fun a0=>?_
 ·refine Nl (RZ<|Ud<|RT<|RZ<|W.block<|Rg<|Ub<|Sd (j:=i) (u:=((mB d ((want.length:Nat):Int)).getD i default)) k sl91 io29 rfl rfl rfl (Ji (by omega)) ?_);intro ay az cq r;obtain⟨G,H,rfl,a2,a3,B⟩:=z7 r.rd;refine Ol (Sv (cs:=(ssC ((mB d ((want.length:Nat):Int)).getD i default) G H)) ag29 rfl rfl r.cell<|Ol<|SL an io29 rfl ?_);intro aA cZ c0 c1 cr aB K b7 b8;refine Oa (On<|Us (cs':=(ssC ((mB d ((want.length:Nat):Int)).getD i default) G H)) aB b7 io29 ?_);intro c3 aa L b9;have l:=(l.sp K).sp L;have hT:=(hT.sp K).sp L;have k:=(k.sp K).sp L;have hG:=(hG.sp K aB b8).sp L aa (fun _ h=>h)
  have B:=(B.sp K).sp L;have r:=(r.sp K).sp L;refine Nl<|Rh<|Om<|Ub<|St.len sl24 rfl<|Ol<|SB rfl rfl (fun a4=>?_)<|fun a4=>?_
  ·refine Nl (Ud<|Sf<|Rg<|Om<|Om ?_);obtain⟨c4,aD,a5,ca⟩:=hG.freeze aa hX;have l:=l.tr (Tr.weak a5);refine Ol (RH aD cb46 rfl rfl (rR aD.bd ca l) ?_);intro c6 c7 cb c8 cc;subst cc;exact Ua<|RY<|Wq rfl rfl cb<|congrArg (Value.bool)<|(Ce hg hi (by omega))
  refine Nl (Uc<|Rg<|Ub<|St.len sl24 rfl<|Om<|Nl<|W.block<|Sc (fun μ f v=>∃(x y:Nat→Prop) (m:Nat) (ql:List Int) (qa:Option Addr) (qc:Nat),Cx X w x y v∧f 0=(.slice M want.length N)∧f 2=(.int .i64 p)∧f 6=(.bool false)∧f 10=(.int .i64 ((i:Nat):Int))∧f 11=(.pointer (some ⟨aA,0,none⟩))∧f 25=(.slice V (mB d ((want.length:Nat):Int)).length Y)∧f 26=(.int .i64 (((mB d ((want.length:Nat):Int)).length:Nat):Int))∧f 27=(.int .i64 ((i:Nat):Int))∧f 28=(.bool true)∧f 29=(.int .i64 ((i:Nat):Int))∧f 30=(.pointer (some ⟨ay,az,none⟩))∧f 31=(ssA ((mB d ((want.length:Nat):Int)).getD i default) G H)∧f 32=(.int .i64 ((i:Nat):Int))∧f 33=(.slice M want.length N)∧f 34=(.int .i64 ((want.length:Nat):Int))∧f 35=(.bool false)∧f 36=(.slice M want.length N)∧f 37=(.int .i64 ((want.length:Nat):Int))∧f 38=(.int .i64 ((m:Nat):Int))∧f 9=(.slice qa want.length qc)∧RS Kz x v (.slice M want.length N) want∧T10 x v∧RS Zu x v (.slice V (mB d ((want.length:Nat):Int)).length Y) (mB d ((want.length:Nat):Int))∧RS Jj x v (.slice G ((mB d ((want.length:Nat):Int)).getD i default).cs.length H) ((mB d ((want.length:Nat):Int)).getD i default).cs∧ElAt Zu x v ay az (ssC ((mB d ((want.length:Nat):Int)).getD i default) G H) ((mB d ((want.length:Nat):Int)).getD i default)∧OS Kz 3 w x y v (.slice qa want.length qc) ql∧Own w y v aA (ssC ((mB d ((want.length:Nat):Int)).getD i default) G H) 29∧m≤want.length∧ql=addR p (want.getD i 0) ((mB d ((want.length:Nat):Int)).getD i default) gl m∧μ=(want.length-m)) _ ⟨_,_,0,gl,ga,gc,aa,rfl,rfl,rfl,rfl,rfl,rfl,rfl,rfl,rfl,rfl,rfl,rfl,rfl,rfl,rfl,rfl,rfl,rfl,rfl,rfl,l,hT,k,B,r,hG,b9,(UN _),tA.symm,rfl⟩ ?_);rintro c9 da db ⟨dc,dd,m,ql,qa,qc,ab,aE,aF,aG,aH,aI,aJ,aK,aL,aM,aO,aP,aQ,aR,aS,aT,aU,aV,aW,aX,aY,l,hT,k,B,r,hQ,D,hm,hq,ch⟩;obtain⟨de,rfl⟩:=rebK (aC aE<|aC aF<|aC aG<|aC aH<|aC aI<|aC aJ<|aC aK<|aC aL<|aC aM<|aC aO<|aC aP<|aC aQ<|aC aR<|aC aS<|aC aT<|aC aU<|aC aV<|aC aW<|aC aX<|aC aY aN);clear aE aF aG aH aI aJ aK aL aM aO aP aQ aR aS aT aU aV aW aX aY;have hql:ql.length=want.length:=by rw[hq,K2,hgl]
  refine Rg<|Ol<|Sb rfl rfl (fun a6=>?_)<|fun a6=>?_
  ·refine Nl (RZ<|Ud<|RT<|RZ<|W.block<|Rg<|Om<|Ua<|RZ ?_);obtain⟨cd,ce,df,dg,dh⟩:=A4 hk (i:=i) (by omega);obtain⟨cf,di,dj⟩:=Lb hk b2 (i:=i) (n:=m) (by omega) (by omega);refine RK (Ol<|Uo (vs:=(ssC ((mB d ((want.length:Nat):Int)).getD i default) G H)) D ag29<|Ub<|RH ab cb22 rfl rfl (c_At ab.bd (a:=((mB d ((want.length:Nat):Int)).getD i default)) (Zm a2 a3 B) cd (by omega) (by omega)<|oR ce (by decide)) ?_);intro dk dm ac E a7;have hT:=hT.sp E;have k:=k.sp E;have B:=B.sp E;have r:=r.sp E;have D:=D.spn E;obtain⟨ct,cu,rfl,a8,rfl⟩:=a7;obtain⟨P,Q,R,T,rfl,I,J⟩:=TN a8;refine Om (Ol<|St.extract rfl rfl<|Ol<|St.extract rfl rfl<|Ol<|SL ac io42 rfl ?_);intro cw cx a9 cy ai ad s ba be;have bf:=ai _ D.blk.lt;have l:=(l.sp E).sp s;have hQ:=(hQ.sp E ac<|fun _ h=>h).sp s ad be;have I:=I.sp s;have J:=J.sp s;have D:=D.spn s;refine On (Us (cs':=(qqC (nrm<|atM ((mB d ((want.length:Nat):Int)).getD i default) ((m:Nat):Int)) P Q R T)) ad ba io42 ?_);intro cz ae A U;have hT:=(hT.sp s).sp A;have k:=(k.sp s).sp A;have B:=(B.sp s).sp A;have r:=(r.sp s).sp A;refine Oa (Nl ?_);have aZ:=Fv (a:=nrm<|atM ((mB d ((want.length:Nat):Int)).getD i default) (m:Int)) (p:=p) (by omega);have bw:=hw i (by omega);have bg:inP p ql:=by rw[hq,hg];exact tu (by omega)<|tM (by omega)
   have bgm:=bg m (by omega);have bb:=O8 hpb bw.1 bw.2 aZ.1 aZ.2 bgm.1 bgm.2;refine Tx mixed 17 [[],[],[],[],[2,3],[4],[],[],[6,7],[8],[],[],[10,11],[9,12],[5,13],[],[14,15]] ae [fx<|.slice qa want.length qc,fx<|.int .i64 ((m:Nat):Int),fx<|.slice qa want.length qc,fx<|.int .i64 ((m:Nat):Int),fx<|.pointer (qa.map (·.add (m*1))),fx<|.int .i64 (ql.getD m 0),fx<|.slice M want.length N,fx<|.int .i64 ((i:Nat):Int),uE a9 Kz<|want.getD i 0,fx<|.int .i64 (want.getD i 0),fx<|.agg #[(.bool (nrm<|atM ((mB d ((want.length:Nat):Int)).getD i default) ((m:Nat):Int)).num.neg),(.slice P (nrm<|atM ((mB d ((want.length:Nat):Int)).getD i default) ((m:Nat):Int)).num.mag.length Q),(.bool (nrm<|atM ((mB d ((want.length:Nat):Int)).getD i default) ((m:Nat):Int)).den.neg),(.slice R (nrm<|atM ((mB d ((want.length:Nat):Int)).getD i default) ((m:Nat):Int)).den.mag.length T)],fx<|.int .i64 p,fx<|.int .i64 (rmM (nrm<|atM ((mB d ((want.length:Nat):Int)).getD i default) ((m:Nat):Int)) p),fx<|.int .i64 ((want.getD i 0)*(rmM (nrm<|atM ((mB d ((want.length:Nat):Int)).getD i default) ((m:Nat):Int)) p)),fx<|.int .i64 ((ql.getD m 0)+((want.getD i 0)*(rmM (nrm<|atM ((mB d ((want.length:Nat):Int)).getD i default) ((m:Nat):Int)) p))),fx<|.int .i64 p,fx<|.int .i64 (((ql.getD m 0)+((want.getD i 0)*(rmM (nrm<|atM ((mB d ((want.length:Nat):Int)).getD i default) ((m:Nat):Int)) p)))%p)] (by kernel_rfl) ⟨sx,sx,sx,sx,sx,sx,sx,sx,tE,sx,sx,sx,sx,sx,sx,sx,sx,trivial⟩ fun bh cB e o g=>?_
   have l:=(l.sp A).sp o;have hQ:=(hQ.sp A ae<|fun _ h=>h).sp o e (fun _ h=>h)
   have I:=(I.sp A).sp o;have J:=(J.sp A).sp o;have D:=(D.spo A bf).spn o;have U:=U.spn o;have g:Keep [47,48,49,50,51,52,53,54,55,56,57,58,59,60,61,62,63] _ bh:=g;refine⟨⟨fun _=>?_,fun _=>?_,fun _=>?_,fun _=>?_,fun⟨bi,bj,_⟩=>?_,fun⟨bk,_⟩=>?_,fun _=>?_,fun _=>?_,fun⟨bl,bm,_⟩=>?_,fun⟨bn,_⟩=>?_,fun _=>?_,fun _=>?_,fun⟨bo,bp,_⟩=>?_,fun⟨bq,br,_⟩=>?_,fun⟨bs,bt,_⟩=>?_,fun _=>?_,fun⟨bu,bv,_⟩=>?_,trivial⟩,fun⟨bx,bz,bA,bB,bC,bD,bE,bF,bG,bH,bJ,bK,bL,bM,bN,bO,bP,_⟩=>?_⟩
   ·exact Sd0 g fun _=>RP<|⟨(),⟨e,Sp.refl⟩,rfl⟩
   ·exact Sd0 g fun _=>RP<|⟨(),⟨e,Sp.refl⟩,rfl⟩
   ·exact Sd0 g fun _=>RP<|⟨(),⟨e,Sp.refl⟩,rfl⟩
   ·exact Sd0 g fun _=>RP<|⟨(),⟨e,Sp.refl⟩,rfl⟩
   ·exact Js g (aC bi<|aC bj aN) fun _=>R8<|S4 (j:=m) hQ sl24 io3 rfl rfl rfl (by omega)<|⟨(),⟨e,Sp.refl⟩,rfl⟩
   ·exact Sd1 g bk fun _=>S3 (j:=m) hQ pl3 rfl (by omega)<|⟨(),⟨e,Sp.refl⟩,rfl⟩
   ·exact Sd0 g fun _=>RP<|⟨(),⟨e,Sp.refl⟩,rfl⟩
   ·exact Sd0 g fun _=>RP<|⟨(),⟨e,Sp.refl⟩,rfl⟩
   ·refine Js g (aC bl<|aC bm aN) fun _=>R8 (Sd (j:=i) (u:=(want.getD i 0)) l sl24 io3 rfl rfl rfl (Ji (by omega)) ?_);intro cC cD aj af;obtain⟨rfl,ci⟩:aj=_∧_:=af.rd;exact⟨(),⟨e,Sp.refl⟩,⟨_,_,_,rfl,af⟩⟩
   ·obtain⟨cE,cF,ak,bQ,ag⟩:=bn;obtain⟨rfl,cj⟩:ak=_∧_:=ag.rd;exact Sd1 g bQ fun _=>Sa pl3 rfl (ag.cell 0 _ rfl)<|⟨(),⟨e,Sp.refl⟩,rfl⟩
   ·exact Sd0 g fun _=>Uo (vs:=(qqC (nrm<|atM ((mB d ((want.length:Nat):Int)).getD i default) ((m:Nat):Int)) P Q R T)) U ag42<|⟨(),⟨e,Sp.refl⟩,rfl⟩
   ·exact Sd0 g fun _=>RP<|⟨(),⟨e,Sp.refl⟩,rfl⟩
   ·refine Js g (aC bo<|aC bp aN) fun _=>R8 (RH e cb24 rfl rfl (xn e.bd (a:=(nrm<|atM ((mB d ((want.length:Nat):Int)).getD i default) ((m:Nat):Int))) (J2 I J) (by omega) (by omega) hp (by omega) cf) ?_);intro cG cH bR bS bT;exact⟨(),⟨bR,bS⟩,bT⟩
   ·exact Js g (aC bq<|aC br aN) fun _=>R8<|SO (z:=((want.getD i 0)*(rmM (nrm<|atM ((mB d ((want.length:Nat):Int)).getD i default) ((m:Nat):Int)) p))) rfl rfl (UP _ (by omega))<|⟨(),⟨e,Sp.refl⟩,rfl⟩
   ·exact Js g (aC bs<|aC bt aN) fun _=>R8<|St.add (z:=((ql.getD m 0)+((want.getD i 0)*(rmM (nrm<|atM ((mB d ((want.length:Nat):Int)).getD i default) ((m:Nat):Int)) p)))) rfl rfl (UP _ (by omega))<|⟨(),⟨e,Sp.refl⟩,rfl⟩
   ·exact Sd0 g fun _=>RP<|⟨(),⟨e,Sp.refl⟩,rfl⟩
   ·exact Js g (aC bu<|aC bv aN) fun _=>R8<|Sz rfl rfl (by omega) (IntWalk.rem_in _ _ (by omega))<|⟨(),⟨e,Sp.refl⟩,rfl⟩
   obtain⟨cI,cJ,al,bU,bV⟩:=bG;obtain⟨rfl,ck⟩:al=_∧_:=bV.rd;obtain⟨cK,rfl⟩:=mixK g (aC bx<|aC bz<|aC bA<|aC bB<|aC bC<|aC bD<|aC bE<|aC bF<|aC bU<|aC bH<|aC bJ<|aC bK<|aC bL<|aC bM<|aC bN<|aC bO<|aC bP aN);refine Ol (S4 (j:=m) hQ sl24 io3 rfl rfl rfl (by omega)<|On<|Tc (j:=m) (u:=(((ql.getD m 0)+((want.getD i 0)*(rmM (nrm<|atM ((mB d ((want.length:Nat):Int)).getD i default) ((m:Nat):Int)) p)))%p)) e hQ io3 rfl rfl (by omega) (OI (by omega)) ?_);intro cL bW F bX;have l:=l.tr F.tx;have hT:=(hT.sp o).tr F.tx;have k:=(k.sp o).tr F.tx;have B:=(B.sp o).tr F.tx;have r:=(r.sp o).tr F.tx;replace D:=D.ap F D.mem;refine Nl<|RK<|Ol<|St.add rfl rfl (Jc (a:=m) (b:=1) (by omega))<|Om<|Nl<|⟨_,(by omega),_,_,(m+1),(ql.set m<|((ql.getD m 0)+((want.getD i 0)*(rmM (nrm<|atM ((mB d ((want.length:Nat):Int)).getD i default) ((m:Nat):Int)) p)))%p),qa,qc,bW,rfl,rfl,rfl,rfl,rfl,rfl,rfl,rfl,rfl,rfl,rfl,rfl,rfl,rfl,rfl,rfl,rfl,rfl,rfl,rfl,l,hT,k,B,r,bX,D,(by omega),(Hb hq (by omega)),rfl⟩
  refine Nl<|RZ<|Ue<|Sf<|RK<|Ol<|St.add rfl rfl (Jc (a:=i) (b:=1) (by omega))<|Om<|Nl<|⟨_,(by omega),_,_,(i+1),ql,qa,qc,ab,rfl,rfl,rfl,rfl,rfl,rfl,rfl,l,hT,k,hQ,(by omega),(by omega),(FJ hg hq (by omega)),rfl⟩
 refine Nl (RZ<|Ue<|Sf<|Rg<|Om<|Om ?_);obtain⟨cM,ah,am,bY⟩:=hG.freeze an hX;have l:=l.tr (Tr.weak am);refine Ol (RH ah cb46 rfl rfl (rR ah.bd bY l) ?_);intro cN cO bZ cP b0;subst b0;exact Ua<|RY<|Wq rfl rfl bZ<|congrArg (Value.bool)<|(Ce hg hi (by omega))
theorem t7{a:GSer}(h:Zd a=true):Zd (bld a.fr a.cs)=true:=by
 obtain⟨b,d,e⟩:=X1 h;have f:=lu a.cs;have g:(bld a.fr a.cs).fr=a.fr+(nz a.cs:Nat):=rfl;have i:(bld a.fr a.cs).cs.length=a.cs.length-nz a.cs:=by unfold bld;rw[W4,UG]
 unfold Zd;rw[decide_eq_true (show -100≤(bld a.fr a.cs).fr by omega),decide_eq_true (show(bld a.fr a.cs).fr≤1000 by omega),decide_eq_true (show(((bld a.fr a.cs).cs.length:Nat):Int)≤1000-(bld a.fr a.cs).fr by omega)];rfl
theorem iX{m:Int}{l:List GRat}{i:Nat}(h:i<(bld m l).cs.length):(bld m l).cs.getD i default=nrm (l.getD (nz l+i) default)∧nz l+i<l.length:=by
 have b:(bld m l).cs.length=l.length-nz l:=by unfold bld;rw[W4,UG]
 refine⟨?_,by omega⟩;unfold bld;rw[UJ,VA,WX,UL (by omega),UJ,UL (by omega)];rfl
theorem Cd{m:Int}{l:List GRat}{N:Nat}(h:szL N l)(hs:smL l):szL (N+1) (bld m l).cs:=by
 intro i hi;obtain⟨e,b⟩:=iX hi;rw[e];have d:=Zw (hs _ b).1;have f:=Z0 (hs _ b).2;have g:=h _ b;constructor
 ·show(ofQ _).num.mag.length≤_
  omega
 ·show(ofQ _).den.mag.length≤_
  omega
theorem M7{m:Int}{l:List GRat}:smL (bld m l).cs:=by
 intro i hi;rw[(iX hi).1];exact⟨Zr _,Zr _⟩
theorem BV{p:Int}(h:(decide (5≤p)&&decide (p≤997)&&prmB p)=true):5≤p∧p≤997∧isP p:=by
 simp only[VJ,decide_eq_true_eq] at h;exact⟨h.1.1,h.1.2,of_decide_eq_true h.2⟩
theorem iO{b:GSer}{p:Int}{n:Nat}(hp:0<p):inP p (Y7 b p n):=by
 intro i hi;unfold Y7 at hi ⊢;rw[W4,W6] at hi;rw[UJ,VA,WZ hi];exact Fv hp
theorem ky{b:GSer}{p:Int}{i:Nat}{wl:List Int}(h:wl=Y7 b p i):wl++[rmM (nrm (atM b ((i:Nat):Int))) p]=Y7 b p (i+1):=by
 rw[h];unfold Y7;rw[XS,XA];rfl
theorem QE{z:Bool}{wl:List Int}{r:Int}{i:Nat}(hz:z=zerB wl)(d:z=true)(b:(wl++[r]).getD i 0=0)(hi:i=wl.length):true=zerB (wl++[r]):=by
 subst hi;rw[UJ,WU<|UM _,ZV] at b;have b:r=0:=b;unfold zerB at *;rw[List.all_append,←hz,d,b];rfl
theorem QZ{z:Bool}{wl:List Int}{r:Int}{i:Nat}(hz:z=zerB wl)(d:z=true)(b:¬(wl++[r]).getD i 0=0)(hi:i=wl.length):false=zerB (wl++[r]):=by
 subst hi;rw[UJ,WU<|UM _,ZV] at b;have b:¬r=0:=b;unfold zerB at *;rw[List.all_append,←hz,d,List.all_cons,decide_eq_false b];rfl
theorem QP{z:Bool}{wl:List Int}{r:Int}(hz:z=zerB wl)(b:z=false):false=zerB (wl++[r]):=by
 unfold zerB at *;rw[List.all_append,←hz,b];rfl
theorem nL{q:Nat→Bool}{i:Nat}(h:∀j:Nat,j<i→q j=true)(e:q i=true):∀j:Nat,j<i+1→q j=true:=by
 intro j hj;by_cases k:j=i
 ·rw[k];exact e
 ·exact h j (by omega)
theorem vI{p:Int}(h:isP p)(b:5≤p):2∣p-1:=by
 have:=h.2 2 (by decide) (by omega)
 omega
theorem pw{p u k:Int}(h:isP p)(b:5≤p)(e:u%(p-1)=k%(p-1))(hk:k%2=0):u%2=0:=by
 rw[←Int.emod_emod_of_dvd u (vI h b),e,Int.emod_emod_of_dvd k<|vI h b];exact hk
theorem wG{p k:Int}{wl:List Int}(hp:1<p):∀t:Int,0≤t→t<k%(p-1)→t%(p-1)=k%(p-1)→mtM wl t p=false:=by
 intro t b e d
 have:=VW k (show 0<p-1 by omega)
 rw[VU b (by omega)] at d;omega
theorem AA{a b m:Int}(hm:0<m)(h:a%m=b%m)(f:a≤b)(g:b<a+m):a=b:=by
 have e:=Int.emod_emod_of_dvd (b-a) (Int.dvd_refl m);have d:(b-a)%m=0:=by rw[Int.sub_emod,h,Int.sub_self];rfl
 rw[VU (by omega) (by omega)] at d;omega
theorem D7{p k u:Int}{wl:List Int}(hp:1<p)(h:∀t:Int,0≤t→t<u→t%(p-1)=k%(p-1)→mtM wl t p=false)(hu:u%(p-1)=k%(p-1))(hm:mtM wl u p=false):
  ∀t:Int,0≤t→t<u+(p-1)→t%(p-1)=k%(p-1)→mtM wl t p=false:=by
 intro t f g e;rcases Wb t u with d|d|d
 ·exact h t f d e
 ·rw[d];exact hm
 ·have:=AA (a:=u) (b:=t) (show 0<p-1 by omega) (hu.trans e.symm) (by omega) (by omega)
  omega
theorem Ho{p k u:Int}{wl:List Int}(h:∀t:Int,0≤t→t<u→t%(p-1)=k%(p-1)→mtM wl t p=false)(hm:mtM wl k p=true)(hk:0≤k)(hu:k<u):(-1:Int)=fndM wl k p:=by
 have:=h k hk hu rfl
 rw[this] at hm;cases hm
theorem vu{q:Int→Bool}{u:Int}:∀ {n N:Nat},((n:Nat):Int)≤u→u<((n+N:Nat):Int)→q u=true→(∀t:Int,((n:Nat):Int)≤t→t<u→q t=false)→((List.range' n N).map fun(i:Nat)=>((i:Nat):Int)).find? q=some u
 |n,0,b,d,_,_=>by omega
 |n,N+1,b,d,hq,hn=>by
  rw[List.range'_succ,U9,List.find?_cons];by_cases e:((n:Nat):Int)=u
  ·rw[e,hq]
  ·rw[hn _ (Wa _) (by omega)];exact vu (n:=n+1) (by omega) (by omega) hq fun t g f=>hn t (by omega) f
theorem BH{p k u:Int}{wl:List Int}(g:0≤u)(hk:k≤60)(hu:u≤k)(hp:1<p)(b:u%(p-1)=k%(p-1))(h:∀t:Int,0≤t→t<u→t%(p-1)=k%(p-1)→mtM wl t p=false)(hm:mtM wl u p=true):u=fndM wl k p:=by
 unfold fndM;rw[List.range_eq_range',vu (u:=u) (by omega) (by omega) ?_ fun t i d=>?_]
 ·rfl
 ·simp only[VJ,decide_eq_true_eq];exact⟨⟨hu,by rw[Int.sub_emod,b,Int.sub_self];rfl⟩,hm⟩
 ·by_cases e:t%(p-1)=k%(p-1)
  ·rw[h t (by omega) d e,VK]
  ·have:¬(k-t)%(p-1)=0:=fun f=>e (by
    have:=Int.emod_add_emod (k-t) (p-1) t
    rw[f,Int.zero_add,Int.sub_add_cancel] at this;exact this)
   rw[decide_eq_false this,VK,Bool.false_and]
section
variable {a:GSer} {k p:Int}
theorem Mk(h:(decide (5≤p)&&decide (p≤997)&&prmB p)=false):filM a k p=(0,8):=by unfold filM;rw[if_pos h]
theorem rj(h:(decide (5≤p)&&decide (p≤997)&&prmB p)=true)(hk:k<0∨k>60∨¬k%2=0):filM a k p=(0,2):=by
 unfold filM;rw[if_neg (by rw[h];simp),if_pos hk]
theorem IA(h:(decide (5≤p)&&decide (p≤997)&&prmB p)=true)(hk:¬(k<0∨k>60∨¬k%2=0))(hl:(bld a.fr a.cs).fr<0∧0<(bld a.fr a.cs).cs.length):filM a k p=(0,18):=by
 unfold filM;rw[if_neg (by rw[h];simp),if_neg hk,if_pos hl]
theorem yR(h:(decide (5≤p)&&decide (p≤997)&&prmB p)=true)(hk:¬(k<0∨k>60∨¬k%2=0))(hl:¬((bld a.fr a.cs).fr<0∧0<(bld a.fr a.cs).cs.length))(hr:(bld a.fr a.cs).fr+((bld a.fr a.cs).cs.length:Nat)<k/12+1):filM a k p=(0,17):=by
 unfold filM;rw[if_neg (by rw[h];simp),if_neg hk,if_neg hl,if_pos hr]
theorem I3 (h:(decide (5≤p)&&decide (p≤997)&&prmB p)=true) (hk:¬(k<0∨k>60∨¬k%2=0)) (hl:¬((bld a.fr a.cs).fr<0∧0<(bld a.fr a.cs).cs.length)) (hr:¬(bld a.fr a.cs).fr+((bld a.fr a.cs).cs.length:Nat)<k/12+1) {i:Nat} (hi:((i:Nat):Int)<k/12+1)
  (hq:zo (nrm<|atM (bld a.fr a.cs) ((i:Nat):Int)) p=false):filM a k p=(0,6):=by
 unfold filM;rw[if_neg (by rw[h];simp),if_neg hk,if_neg hl,if_neg hr,if_pos];rw[List.all_eq_false];exact⟨i,XQ.2 (by omega),by rw[hq];simp⟩
theorem mP (h:(decide (5≤p)&&decide (p≤997)&&prmB p)=true) (hk:¬(k<0∨k>60∨¬k%2=0)) (hl:¬((bld a.fr a.cs).fr<0∧0<(bld a.fr a.cs).cs.length)) (hr:¬(bld a.fr a.cs).fr+((bld a.fr a.cs).cs.length:Nat)<k/12+1) {i:Nat} {wl:List Int}
  (hin:∀j:Nat,j<i→zo (nrm<|atM (bld a.fr a.cs) (j:Int)) p=true) (hi:i=(k/12+1).toNat) (hw:wl=Y7 (bld a.fr a.cs) p i):
  filM a k p=if mtM wl k p=false then(0,12) else if zerB wl=true then(0,5) else(fndM wl k p,0):=by
 subst hi;unfold filM;rw[if_neg (by rw[h];simp),if_neg hk,if_neg hl,if_neg hr,if_neg,hw];rw[Bool.not_eq_false,WD];intro j hj;exact hin j<|XQ.1 hj
theorem LQ{r:Int×Int}{wl:List Int}(h:r=if mtM wl k p=false then(0,12) else if zerB wl=true then(0,5) else(fndM wl k p,0))(hm:mtM wl k p=false):r=(0,12):=by rw[h,if_pos hm]
theorem IW{r:Int×Int}{wl:List Int}(h:r=if mtM wl k p=false then(0,12) else if zerB wl=true then(0,5) else(fndM wl k p,0))(hm:mtM wl k p=true)(hz:zerB wl=true):r=(0,5):=by rw[h,if_neg (by rw[hm];simp),if_pos hz]
theorem KA{r:Int×Int}{wl:List Int}(h:r=if mtM wl k p=false then(0,12) else if zerB wl=true then(0,5) else(fndM wl k p,0))(hm:mtM wl k p=true)(hz:zerB wl=false):r=(fndM wl k p,0):=by rw[h,if_neg (by rw[hm];simp),if_neg (by rw[hz];simp)]
end
set_option maxHeartbeats 8000000 in
theorem uh{X:Nat→Prop}{w:World}(hX:XB X w){v0:Value}{a:GSer}(r0:RV Zu X w v0 a){k:Int}{p:Int}(hT:T10 X w)(hv:Zd a=true)(hsz:szL 1000 a.cs)(cr: -9223372036854775808≤k)(ct:k≤9223372036854775807)(bE: -9223372036854775808≤p)(cu:p≤9223372036854775807):CRt 7 #[v0,(.int .i64 k),(.int .i64 p)] w fun v w'=>(∃v0 v1,v= .tuple #[v0,v1]∧(v0=(.int .i64 ((filM a k p).1)))∧(v1=(.int .i64 ((filM a k p).2)))):=by
 obtain⟨a1,c2,rfl,bJ,bK,h5⟩:=TO r0;have C:=Cx.start hX;obtain⟨_,_,_,_,_,aW⟩:=TO r0;have hma:=aW.smL;clear aW;have hvb:=t7 hv;have hvr:=X1 hvb;have hsb:szL 1001 (bld a.fr a.cs).cs:=Cd hsz hma;have hmb:smL (bld a.fr a.cs).cs:=M7;have hml:maxLen=9223372036854775807:=rfl;refine Cgo Tryz.func7 rfl rfl rfl (Rg<|Ol<|R9 C rfl ?_);intro g6 w7 x8 y9 bW aX aY J;refine Oa (Ua<|Rh<|Ub<|Sm<|RH aX cb19 rfl rfl (Az aX.bd bE (by decide)) ?_);intro cw cx ao aq aZ;have h5:=(h5.sp aY).sp aq;have hT:=(hT.sp aY).sp aq;have J:=J.spn aq;refine⟨_,aZ,fun d=>?_,fun d=>?_⟩
 ·refine Ol (Sr rfl<|Nl<|Uc<|RZ ?_);obtain⟨ai,cy,hpp⟩:=BV d;refine RK (Ol<|Uo (vs:=(ssC a a1 c2)) J ag29<|Ol<|RH ao cb20 rfl rfl (wD ao.bd (a:=a) (Zm bJ bK h5) hv<|oR hsz (by decide)) ?_);intro cz cB bL a0 bM;have J:=J.spn a0;obtain⟨cC,cD,rfl,bN,rfl⟩:=bM;obtain⟨r,s,rfl,ar,au,e⟩:=TO bN;refine Om (Ol<|St.extract rfl rfl<|Ol<|St.extract rfl rfl<|On<|Us (cs':=(ssC (bld a.fr a.cs) r s)) bL J io29 ?_);intro cE Y a2 H;have hT:=(hT.sp a0).sp a2;have e:=e.sp a2;refine Ua<|Rh<|Ub<|SK (t:=false) rfl rfl (by rw[decide_eq_true rfl];rfl)<|Om<|OgD<|RP<|OgD<|Sb rfl rfl (fun bl=>?_)<|fun bl=>?_
  ·refine OF (Om<|Oz<|Oz<|OT<|Om<|Oz<|Oz<|Oz<|OT<|Nl<|Uf<|Oa<|Ua<|RY<|Z4 rfl (resV.t rfl) (resV.t rfl)<|RM ?_ Y.below);refine⟨_,_,rfl,?_,?_⟩
   ·exact congrArg (Value.int _)<|(congrArg Prod.fst<|rj d (by omega)).symm
   ·exact congrArg (Value.int _)<|(congrArg Prod.snd<|rj d (by omega)).symm
  refine OF<|Om<|OgD<|RP<|OgD<|Sx rfl rfl (fun bm=>?_)<|fun bm=>?_
  ·refine OF (Om<|Oz<|Oz<|Oz<|OT<|Nl<|Uf<|Oa<|Ua<|RY<|Z4 rfl (resV.t rfl) (resV.t rfl)<|RM ?_ Y.below);refine⟨_,_,rfl,?_,?_⟩
   ·exact congrArg (Value.int _)<|(congrArg Prod.fst<|rj d (by omega)).symm
   ·exact congrArg (Value.int _)<|(congrArg Prod.snd<|rj d (by omega)).symm
  refine OF<|Om<|OgD<|RP<|OgD<|Sz rfl rfl (by decide) (IntWalk.rem_in _ _ (by omega))<|OgD<|SA rfl rfl (fun bn=>?_)<|fun bn=>?_
  ·refine OF (Nl<|Uf<|Oa<|Ua<|RY<|Z4 rfl (resV.t rfl) (resV.t rfl)<|RM ?_ Y.below);refine⟨_,_,rfl,?_,?_⟩
   ·exact congrArg (Value.int _)<|(congrArg Prod.fst<|rj d (by omega)).symm
   ·exact congrArg (Value.int _)<|(congrArg Prod.snd<|rj d (by omega)).symm
  refine OF<|Nl<|Uc<|Rg<|Ub<|SF rfl rfl (by decide) (IntWalk.i64_quo _ _ (by omega))<|Ol<|St.add (z:=((k/12)+1)) rfl rfl (UP _ (by omega))<|Ua<|RZ<|SX (fun f v=>∃(x y:Nat→Prop),Cx X w x y v∧f 1=(.int .i64 k)∧f 2=(.int .i64 p)∧f 3=(.pointer (some ⟨g6,0,none⟩))∧f 9=(.int .i64 ((k/12)+1))∧T10 x v∧RS Jj x v (.slice r (bld a.fr a.cs).cs.length s) (bld a.fr a.cs).cs∧Own w y v g6 (ssC (bld a.fr a.cs) r s) 29∧¬((bld a.fr a.cs).fr<0∧0<(bld a.fr a.cs).cs.length)∧¬(bld a.fr a.cs).fr+((bld a.fr a.cs).cs.length:Nat)<k/12+1) ?_ ?_
  ·refine Rg (Ol<|Uo (vs:=(ssC (bld a.fr a.cs) r s)) H ag29<|Ol<|RH Y cb21 rfl rfl (LL Y.bd (a:=(bld a.fr a.cs)) (Zm ar au e) hvb) ?_);intro cF cG Z av bO;have hT:=hT.sp av;have e:=e.sp av;have H:=H.spn av;obtain⟨cH,cI,rfl,rfl,rfl⟩:=bO;refine Ub<|St.extract rfl rfl<|Ol<|St.extract rfl rfl<|Oa<|Ua<|W.block<|Rg<|Ol<|RI Y9 rfl<|Ol<|RN H pl3 rfl rfl<|Ol<|Sb rfl rfl (fun bo=>?_)<|fun bo=>?_
   ·refine Om<|OgD<|RI Kq rfl<|OgD<|RN H pl27 rfl rfl<|OgD<|St.len sl27 rfl<|OgD<|Sx rfl rfl (fun bp=>?_)<|fun bp=>?_
    ·refine OT (Ua<|Uf<|Oa<|Ua<|RY<|Z4 rfl (resV.t rfl) (resV.t rfl)<|RM ?_ Z.below);refine⟨_,_,rfl,?_,?_⟩
     ·exact congrArg (Value.int _)<|(congrArg Prod.fst<|IA d (by omega) ⟨by omega,by omega⟩).symm
     ·exact congrArg (Value.int _)<|(congrArg Prod.snd<|IA d (by omega) ⟨by omega,by omega⟩).symm
    refine OT<|Ua<|Ug<|Om<|Ub<|Sb rfl rfl (fun bq=>?_)<|fun bq=>?_
    ·refine Oa (Nl<|Uf<|Oa<|Ua<|RY<|Z4 rfl (resV.t rfl) (resV.t rfl)<|RM ?_ Z.below);refine⟨_,_,rfl,?_,?_⟩
     ·exact congrArg (Value.int _)<|(congrArg Prod.fst<|yR d (by omega) (by omega) (by omega)).symm
     ·exact congrArg (Value.int _)<|(congrArg Prod.snd<|yR d (by omega) (by omega) (by omega)).symm
    refine Ua<|Uc<|⟨_,_,Z,rfl,rfl,rfl,rfl,hT,e,H,(by omega),(by omega)⟩
   refine Om<|Oz<|Oz<|Oz<|Oz<|OF<|Ua<|Ug<|Om<|Ub<|Sb rfl rfl (fun br=>?_)<|fun br=>?_
   ·refine Oa (Nl<|Uf<|Oa<|Ua<|RY<|Z4 rfl (resV.t rfl) (resV.t rfl)<|RM ?_ Z.below);refine⟨_,_,rfl,?_,?_⟩
    ·exact congrArg (Value.int _)<|(congrArg Prod.fst<|yR d (by omega) (by omega) (by omega)).symm
    ·exact congrArg (Value.int _)<|(congrArg Prod.snd<|yR d (by omega) (by omega) (by omega)).symm
   refine Ua<|Uc<|⟨_,_,Z,rfl,rfl,rfl,rfl,hT,e,H,(by omega),(by omega)⟩
  rintro cJ cK ⟨cL,cM,bP,a3,a4,a5,a6,hT,e,bQ,hpl,hpr⟩;obtain⟨cN,rfl⟩:=rebK (aC a3<|aC a4<|aC a5<|aC a6 aN);clear a3 a4 a5 a6;refine Rg (Ua<|Rg<|Ua<|Rh<|Om<|Om<|Nl<|W.block<|Sc (fun μ f v=>∃(x y:Nat→Prop) (i:Nat) (wl:List Int) (wa:Option Addr) (wc:Nat) (z:Bool),Cx X w x y v∧f 1=(.int .i64 k)∧f 2=(.int .i64 p)∧f 3=(.pointer (some ⟨g6,0,none⟩))∧f 64=(.int .i64 ((k/12)+1))∧f 65=(.int .i64 ((i:Nat):Int))∧f 12=(.slice wa wl.length wc)∧f 13=(.bool z)∧T10 x v∧RS Jj x v (.slice r (bld a.fr a.cs).cs.length s) (bld a.fr a.cs).cs∧OS Kz 3 w x y v (.slice wa wl.length wc) wl∧Own w y v g6 (ssC (bld a.fr a.cs) r s) 29∧((i:Nat):Int)≤(k/12+1)∧wl=Y7 (bld a.fr a.cs) p i∧z=zerB wl∧(∀j:Nat,j<i→zo (nrm<|atM (bld a.fr a.cs) (j:Int)) p=true)∧μ=((k/12+1).toNat-i)) _ ⟨_,_,0,[],none,0,true,bP,rfl,rfl,rfl,rfl,rfl,rfl,rfl,hT,e,OS.nil,bQ,(by omega),rfl,rfl,(fun j h=>absurd h<|US j),rfl⟩ ?_);rintro cO cP cQ ⟨cR,cS,i,wl,wa,wc,z,aw,a7,a8,a9,ba,bb,be,bf,hT,e,hW,g,hi,hw,hz,hin,bV⟩;obtain⟨cT,rfl⟩:=rebK (aC a7<|aC a8<|aC a9<|aC ba<|aC bb<|aC be<|aC bf aN);clear a7 a8 a9 ba bb be bf;have hwl:wl.length=i:=by rw[hw];unfold Y7;rw[W4,W6]
  refine Rg<|Ol<|Sb rfl rfl (fun bs=>?_)<|fun bs=>?_
  ·refine Nl (RZ<|Ud<|RT<|RZ<|W.block<|Rg<|Om<|Ua<|Rg<|Ol<|Uo (vs:=(ssC (bld a.fr a.cs) r s)) g ag29<|Ub<|RH aw cb22 rfl rfl (c_At aw.bd (a:=(bld a.fr a.cs)) (Zm ar au e) hvb (by omega) (by omega)<|oR hsb (by decide)) ?_);intro cU cV bg aj bR;have hT:=hT.sp aj;have e:=e.sp aj;have g:=g.spn aj;obtain⟨cW,cX,rfl,bS,rfl⟩:=bR;obtain⟨ax,ay,az,aA,rfl,K,L⟩:=TN bS;refine Om (Ol<|St.extract rfl rfl<|Ol<|St.extract rfl rfl<|Ol<|SL bg io42 rfl ?_);intro cY cZ c0 bX aU aB B bt bu;have bv:=aU _ g.blk.lt;have hW:=(hW.sp aj bg<|fun _ h=>h).sp B aB bu;have g:=g.spn B;refine On (Us (cs':=(qqC (nrm<|atM (bld a.fr a.cs) ((i:Nat):Int)) ax ay az aA)) aB bt io42 ?_);intro bY ab D M;have hT:=(hT.sp B).sp D;have e:=(e.sp B).sp D;have K:=(K.sp B).sp D;have L:=(L.sp B).sp D;refine Oa (Nl<|RZ<|RZ ?_);have aZ:=lW hsb (by decide) (n:=((i:Nat):Int)) (by omega);have bh:=tF hmb (n:=((i:Nat):Int)) (by omega);have c1:=Zw bh.1;have c3:=Z0 bh.2;have bi:(nrm<|atM (bld a.fr a.cs) ((i:Nat):Int)).num.mag.length≤1000000:=by show(ofQ _).num.mag.length≤_;omega
   have bj:(nrm<|atM (bld a.fr a.cs) ((i:Nat):Int)).den.mag.length≤1000000:=by show(ofQ _).den.mag.length≤_;omega
   refine RK (Ol<|Uo (vs:=(qqC (nrm<|atM (bld a.fr a.cs) ((i:Nat):Int)) ax ay az aA)) M ag42<|Ub<|Sm<|RH ab cb23 rfl rfl (qX ab.bd (a:=(nrm<|atM (bld a.fr a.cs) ((i:Nat):Int))) (J2 K L) bi bj (by omega) (by omega)) ?_);intro bZ b0 N u bw;have hW:=(hW.sp D ab<|fun _ h=>h).sp u N (fun _ h=>h)
   have K:=K.sp u;have L:=L.sp u;have g:=(g.spo D bv).spn u;have M:=M.spn u;refine⟨_,bw,fun F=>?_,fun F=>?_⟩
   ·refine Ol (Sr rfl<|Nl<|Uc<|RZ ?_);have ak:=F;have c4:=Fv (a:=nrm<|atM (bld a.fr a.cs) ((i:Nat):Int)) (p:=p) (by omega);refine RK (Ub<|Uo (vs:=(qqC (nrm<|atM (bld a.fr a.cs) ((i:Nat):Int)) ax ay az aA)) M ag42<|Om ?_);refine Ol (RH N cb24 rfl rfl (xn N.bd (a:=(nrm<|atM (bld a.fr a.cs) ((i:Nat):Int))) (J2 K L) bi bj hpp (by omega) ak) ?_);intro b1 b2 aD P bx;have hT:=(hT.sp u).sp P;have e:=(e.sp u).sp P;subst bx;refine Ol (Sl (T:=Kz) (css:=[[(.int .i64 (rmM (nrm<|atM (bld a.fr a.cs) ((i:Nat):Int)) p))]]) (l:=[(rmM (nrm<|atM (bld a.fr a.cs) ((i:Nat):Int)) p)]) aD sl24 io3 (by decide) (by decide) rfl (by kernel_rfl) ⟨⟨rfl,(by omega),(by omega)⟩,trivial⟩ ?_);intro b3 b4 aE Q bz;have hW:=(hW.sp P aD<|fun _ h=>h).sp Q aE (fun _ h=>h)
    have g:=(g.spn P).spn Q;refine Ol (Sk (T:=Kz) aE sl24 io3 rfl rfl hW (Xq bz) (by simp[maxLen];omega) (by simp;omega) rfl ?_);intro b5 b6 b7 ac ad b8 E;have hT:=(hT.sp Q).tr ad.tx;have e:=(e.sp Q).tr ad.tx;replace g:=g.ap ad g.mem;obtain⟨ae,af,rfl,_,_⟩:=E.len;refine Ua<|RK<|Ol<|Sm<|RP ⟨_,rfl,fun G=>?_,fun G=>?_⟩
    ·refine Om<|OgD<|RP<|OgD<|RP<|OgD<|S4 (j:=i) E sl24 io3 rfl rfl rfl (by rw[Uv,hwl];simp)<|OgD<|S3 (j:=i) E pl3 rfl (by rw[Uv,hwl];simp)<|OgD<|Sj rfl rfl (fun R=>?_)<|fun R=>?_
     ·refine OT<|Ua<|RK<|Ol<|St.add rfl rfl (Jc (a:=i) (b:=1) (by omega))<|Om<|Nl<|⟨_,(by omega),_,_,(i+1),(wl++[(rmM (nrm<|atM (bld a.fr a.cs) ((i:Nat):Int)) p)]),ae,af,true,ac,rfl,rfl,rfl,rfl,rfl,rfl,rfl,hT,e,E,g,(by omega),(ky hw),(QE hz G R (by omega)),(nL hin ak),rfl⟩
     refine OT<|Ua<|RK<|Ol<|St.add rfl rfl (Jc (a:=i) (b:=1) (by omega))<|Om<|Nl<|⟨_,(by omega),_,_,(i+1),(wl++[(rmM (nrm<|atM (bld a.fr a.cs) ((i:Nat):Int)) p)]),ae,af,false,ac,rfl,rfl,rfl,rfl,rfl,rfl,rfl,hT,e,E,g,(by omega),(ky hw),(QZ hz G R (by omega)),(nL hin ak),rfl⟩
    refine Om<|Oz<|Oz<|Oz<|Oz<|Oz<|OF<|Ua<|RK<|Ol<|St.add rfl rfl (Jc (a:=i) (b:=1) (by omega))<|Om<|Nl<|⟨_,(by omega),_,_,(i+1),(wl++[(rmM (nrm<|atM (bld a.fr a.cs) ((i:Nat):Int)) p)]),ae,af,false,ac,rfl,rfl,rfl,rfl,rfl,rfl,rfl,hT,e,E,g,(by omega),(ky hw),(QP hz G),(nL hin ak),rfl⟩
   refine Ol (Sr rfl<|Nl<|Uf<|Oa<|Ua<|RY<|Z4 rfl (resV.t rfl) (resV.t rfl)<|RM ?_ N.below);refine⟨_,_,rfl,?_,?_⟩
   ·exact congrArg (Value.int _)<|(congrArg Prod.fst<|I3 d (by omega) hpl hpr (i:=i) (by omega) F).symm
   ·exact congrArg (Value.int _)<|(congrArg Prod.snd<|I3 d (by omega) hpl hpr (i:=i) (by omega) F).symm
  refine Nl (RZ<|Ue<|Sf<|RZ ?_);have hie:i=(k/12+1).toNat:=by omega
  have hwn:((wl.length:Nat):Int)=k/12+1:=by omega
  have hwp:inP p wl:=by rw[hw];exact iO (by omega)
  obtain⟨b9,bA,al,o⟩:=hW.freeze aw hX;have hT:=hT.tr (Tr.weak al);have e:=e.tr (Tr.weak al);refine RK<|Ua<|RZ<|SX (fun f v=>∃(x y:Nat→Prop) (fd:Int),Cx X w x y v∧f 1=(.int .i64 k)∧f 2=(.int .i64 p)∧f 12=(.slice wa wl.length wc)∧f 13=(.bool z)∧f 17=(.int .i64 fd)∧T10 x v∧RS Jj x v (.slice r (bld a.fr a.cs).cs.length s) (bld a.fr a.cs).cs∧RS Kz x v (.slice wa wl.length wc) wl∧Own w y v g6 (ssC (bld a.fr a.cs) r s) 29∧(mtM wl k p=true→fd=fndM wl k p)) ?_ ?_
  ·refine Rg (Om<|Ub<|St.sub (z:=(p-1)) rfl rfl (UP _ (by omega))<|Ol<|Sz rfl rfl (by omega) (IntWalk.rem_in _ _ (by omega))<|Ua<|W.block<|Sc (fun μ f v=>∃(x y:Nat→Prop) (uu:Int),Cx X w x y v∧f 1=(.int .i64 k)∧f 2=(.int .i64 p)∧f 12=(.slice wa wl.length wc)∧f 13=(.bool z)∧f 18=(.int .i64 uu)∧f 17=(.int .i64 (-1))∧T10 x v∧RS Jj x v (.slice r (bld a.fr a.cs).cs.length s) (bld a.fr a.cs).cs∧RS Kz x v (.slice wa wl.length wc) wl∧Own w y v g6 (ssC (bld a.fr a.cs) r s) 29∧0≤uu∧uu%(p-1)=k%(p-1)∧uu≤k+p∧(∀t:Int,0≤t→t<uu→t%(p-1)=k%(p-1)→mtM wl t p=false)∧μ=(k+1-uu).toNat) _ ⟨_,_,(k%(p-1)),bA,rfl,rfl,rfl,rfl,rfl,rfl,hT,e,o,g,(VX _ (by omega)),(VT _ _),(by have:=VW k (show 0<p-1 by omega);omega),(wG (by omega)),rfl⟩ ?_);rintro ca cb cc ⟨cd,ce,uu,ag,aF,aG,aH,aI,aJ,aK,hT,e,o,I,bT,aa,c6,aL,bU⟩;obtain⟨cf,rfl⟩:=rebK (aC aF<|aC aG<|aC aH<|aC aI<|aC aJ<|aC aK aN);clear aF aG aH aI aJ aK;refine Rh<|Om<|Ub<|SJ rfl rfl (fun aV=>?_)<|fun aV=>?_
   ·refine Nl (Ud<|RT<|RZ<|W.block<|Rg<|Om<|Om<|Ub<|Sm<|RH ag cb25 rfl rfl (jX ag.bd o hT (by omega) (by omega) (pw hpp ai aa (by omega)) (by rw[hwn];exact kH (by omega) (by omega) (by omega)<|pw hpp ai aa (by omega)) hpp (by omega) hwp) ?_);intro cg ch aM U bB;have hT:=hT.sp U;have e:=e.sp U;have o:=o.sp U;have I:=I.spn U;refine⟨_,bB,fun V=>?_,fun V=>?_⟩
    ·refine Nl<|Uf<|Om<|Ua<|Sf<|⟨_,_,uu,aM,rfl,rfl,rfl,rfl,rfl,hT,e,o,I,(fun _=>BH bT (by omega) (by omega) (by omega) aa aL V)⟩
    refine Nl<|Uc<|RK<|Om<|Ub<|St.sub (z:=(p-1)) rfl rfl (UP _ (by omega))<|Ol<|St.add (z:=(uu+(p-1))) rfl rfl (UP _ (by omega))<|Ua<|⟨_,(by omega),_,_,(uu+(p-1)),aM,rfl,rfl,rfl,rfl,rfl,rfl,hT,e,o,I,(by omega),(by rw[Int.add_emod_right];exact aa),(by omega),(D7 (by omega) aL aa V),rfl⟩
   refine Nl<|Ue<|Sf<|⟨_,_,(-1),ag,rfl,rfl,rfl,rfl,rfl,hT,e,o,I,(fun hm=>Ho aL hm (by omega) (by omega))⟩
  rintro ci cj ⟨ck,cl,fd,aO,aP,aQ,aR,aS,aT,hT,e,o,cm,hfd⟩;obtain⟨cn,rfl⟩:=rebK (aC aP<|aC aQ<|aC aR<|aC aS<|aC aT aN);clear aP aQ aR aS aT;refine RZ (W.block<|Rg<|Om<|Om<|Ub<|Sm<|RH aO cb25 rfl rfl (jX aO.bd o hT (by omega) (by omega) (pw hpp ai rfl (by omega)) (by rw[hwn];exact kH (by omega) (by omega) (by omega)<|pw hpp ai rfl (by omega)) hpp (by omega) hwp) ?_);intro co cp ah cq bC;refine⟨_,bC,fun m=>?_,fun m=>?_⟩
  ·refine Ol<|Sr rfl<|Ua<|Ug<|Ol<|Sm<|RP ⟨_,rfl,fun A=>?_,fun A=>?_⟩
   ·refine Oa (Nl<|Uf<|Oa<|Ua<|RY<|Z4 rfl (resV.t rfl) (resV.t rfl)<|RM ?_ ah.below);refine⟨_,_,rfl,?_,?_⟩
    ·exact congrArg (Value.int _)<|(congrArg Prod.fst<|IW (mP d (by omega) hpl hpr hin hie hw) m<|hz.symm.trans A).symm
    ·exact congrArg (Value.int _)<|(congrArg Prod.snd<|IW (mP d (by omega) hpl hpr hin hie hw) m<|hz.symm.trans A).symm
   refine Oa (Nl<|Uc<|Rg<|Om<|Oa<|Ua<|RY<|Z4 rfl (resV.t rfl) (resV.t rfl)<|RM ?_ ah.below);refine⟨_,_,rfl,?_,?_⟩
   ·exact congrArg (Value.int _)<|(by rw[KA (mP d (by omega) hpl hpr hin hie hw) m<|hz.symm.trans A];exact hfd m)
   ·exact congrArg (Value.int _)<|(congrArg Prod.snd<|KA (mP d (by omega) hpl hpr hin hie hw) m<|hz.symm.trans A).symm
  refine Ol (Sr rfl<|Ua<|Uf<|Oa<|Ua<|RY<|Z4 rfl (resV.t rfl) (resV.t rfl)<|RM ?_ ah.below);refine⟨_,_,rfl,?_,?_⟩
  ·exact congrArg (Value.int _)<|(congrArg Prod.fst<|LQ (mP d (by omega) hpl hpr hin hie hw) m).symm
  ·exact congrArg (Value.int _)<|(congrArg Prod.snd<|LQ (mP d (by omega) hpl hpr hin hie hw) m).symm
 refine Ol (Sr rfl<|Nl<|Uf<|Oa<|Ua<|RY<|Z4 rfl (resV.t rfl) (resV.t rfl)<|RM ?_ ao.below);refine⟨_,_,rfl,?_,?_⟩
 ·exact congrArg (Value.int _)<|(congrArg Prod.fst<|Mk d).symm
 ·exact congrArg (Value.int _)<|(congrArg Prod.snd<|Mk d).symm
end Go.Wf
namespace Go.Wf
open Go
theorem sH{a:GInt}(sa:Jp a.mag){b:Bool}(hb:b=(a.neg&&decide (0<(trim a.mag).length))):(⟨b,trim a.mag⟩:GInt)=ofZ a.toZ:=by
 subst hb;have h:=r9 (b:=a.neg) sa;unfold mkSg at h;exact h
theorem ic{x y:Nat}:cmpN x y= -1↔x<y:=by
 unfold cmpN;split
 ·exact⟨fun _=>by assumption,fun _=>rfl⟩
 ·split<;>constructor<;>intro h<;>omega
theorem vU{a b:List Nat}(ha:trim a=a)(hb:trim b=b)(sa:Jp a)(sb:Jp b)(h:¬a.length=b.length):decide (((a.length:Nat):Int)<((b.length:Nat):Int))=decide (val a<val b):=by
 rcases U2 a.length b.length with hl|hl
 ·rw[decide_eq_true (by omega),decide_eq_true (Yk hb sa hl)]
 ·have:=Yk ha sb (by omega)
  rw[decide_eq_false (by omega),decide_eq_false (by omega)]
theorem sy{a b:List Nat}{j:Nat}(sa:Jp a)(sb:Jp b)(hl:j≤a.length)(hab:a.length=b.length)(d:0<j)(h:¬((a.getD (j-1) 0:Nat):Int)=((b.getD (j-1) 0:Nat):Int))(heq:a.drop j=b.drop j):
  decide (((a.getD (j-1) 0:Nat):Int)<((b.getD (j-1) 0:Nat):Int))=decide (val a<val b):=by
 rcases U2 (a.getD (j-1) 0) (b.getD (j-1) 0) with hd|hd
 ·have:=(sN sa sb hl hab d hd heq).symm
  rw[decide_eq_true (by omega),decide_eq_true (ic.1 this)]
 ·have:=(De sa sb hl hab d (by omega) (by omega) heq).symm
  rw[decide_eq_false (by omega),decide_eq_false (fun h=>by have e:=ic.2 h;omega)]
theorem Al{a b:List Nat}{j:Nat}(h:j=0)(heq:a.drop j=b.drop j):false=decide (val a<val b):=by
 have:=Cf h heq
 exact(decide_eq_false fun h=>by have d:=ic.2 h;omega).symm
theorem zr{a b p:List Nat}{i c s:Nat}(hp:p.length=i)(hv:val p+4294967296^i*c=val (a.take i)+val (b.take i))(hs:s=c+a.getD i 0+b.getD i 0):
  val (p++[s%4294967296])+4294967296^(i+1)*(s/4294967296)=val (a.take (i+1))+val (b.take (i+1)):=by
 rw[Z3,Jn,Jn,hp,UV,U3,YD,←UX,Nat.mod_add_div,hs,UX,UX];omega
theorem sO{a b p:List Nat}{i c:Nat}(sp:Jp p)(hp:p.length=i)(hi:i=max a.length b.length)(hc:c≤1)(hv:val p+4294967296^i*c=val (a.take i)+val (b.take i)):
  p++[c%4294967296]=Jx (max a.length b.length+1) (val a+val b):=by
 rw[ZG (by omega)];rw[UU (by omega),UU (by omega)] at hv;refine Yl (Jz sp (by omega)) (by rw[Uv,hp,hi];rfl) ?_;rw[Z3,hp,hv]
theorem Qg{a b p:List Nat}{i c c' s d:Nat}(hp:p.length=i)(hv:val p+val (b.take i)=val (a.take i)+4294967296^i*c)(hs:s=c+b.getD i 0)(hd:d+s=a.getD i 0+4294967296*c'):
  val (p++[d])+val (b.take (i+1))=val (a.take (i+1))+4294967296^(i+1)*c':=by
 rw[Z3,Jn,Jn,hp,UV,U3];have h:=congrArg (4294967296^i * ·) hd;simp only[hs,UX] at h;omega
theorem sJ{x y:GInt}(h:x.neg=y.neg):Jh x.neg (val x.mag+val y.mag)=x.toZ+y.toZ:=by
 have:=oJ (a:=x) (b:=y.mag) h
 rw[h,this];rfl
theorem Es{x y:GInt}(h:¬x.neg=y.neg)(hle:val x.mag≤val y.mag):Jh y.neg (val y.mag-val x.mag)=x.toZ+y.toZ:=by
 rw[CK (a:=x) h hle];rfl
theorem GN{x y:GInt}(h:¬x.neg=y.neg)(hle:val y.mag≤val x.mag):Jh x.neg (val x.mag-val y.mag)=x.toZ+y.toZ:=by
 rw[Dm (a:=x) h hle];rfl
end Go.Wf
namespace Go.Wf
open Go Go.Proofs Go.RowKit
theorem ye{X:Nat→Prop}{w:World}(hX:XB X w){s:Value}{m:List Nat}(a:RS Jd X w s m)(hm:m.length≤1099511627776):CRt 88 #[s] w fun v w'=>RS Jd X w' v (trim m):=by
 obtain⟨n,o,rfl,_,_⟩:=a.len;have C:=Cx.start hX;refine Cgo Tryz.func88 rfl rfl rfl (Rg<|Ua<|Rg<|Ub<|St.len sl38 rfl<|Ua<|RZ<|W.block<|Sc (fun μ f v=>∃(x y:Nat→Prop) (j:Nat),Cx X w x y v∧f 0=(.slice n m.length o)∧f 2=(.slice none 0 0)∧f 3=(.int .i64 ((j:Nat):Int))∧RS Jd x v (.slice n m.length o) m∧j≤m.length∧trim (m.take j)=trim m∧μ=j) _ ⟨_,_,m.length,C,rfl,rfl,rfl,a,(UM _),(by rw[YC]),rfl⟩ ?_);rintro N f3 w4 ⟨x5,y6,j,p,A,B,h,a,hjl,htr,L⟩;obtain⟨P,rfl⟩:=rebK (aC A<|aC B<|aC h aN);clear A B h;refine Rh<|Ub<|Sx rfl rfl (fun b=>?_)<|fun b=>?_
 ·refine Om (OgD<|RP<|OgD<|RP<|OgD<|St.sub (z:=(((j:Nat):Int)-1)) rfl rfl (UP _ (by omega))<|OgD<|Sd (j:=(j-1)) (u:=(m.getD (j-1) 0)) a sl38 io96 rfl rfl (by omega) (Ji (by omega)) ?_);intro Q R r i;obtain⟨rfl,M⟩:r=_∧_:=i.rd;refine OgD<|Sa pl96 rfl (i.cell 0 _ rfl)<|OgD<|Sj rfl rfl (fun d=>?_)<|fun d=>?_
  ·refine OT<|Nl<|Ud<|RT<|W.block<|RK<|Ub<|St.sub (z:=(((j:Nat):Int)-1)) rfl rfl (UP _ (by omega))<|Ua<|⟨_,(by omega),_,_,(j-1),p,rfl,rfl,(congrArg (Value.int .i64) (by omega)),a,(by omega),(lV hjl b d htr),rfl⟩
  refine OT (Nl<|Ue<|Sf<|Rg<|Ol<|Tt (T:=Jd) p sl38 io96 ?_);intro U V Y D E Z F;have a:=a.sp E;refine Om (Ub<|Ta (j:=j) a sl38 io96 rfl rfl rfl (by omega) ?_);intro G;refine Ol (Sk (T:=Jd) D sl38 io96 rfl rfl F (Xq G) (by simp only[Ux,UH,maxLen];omega) (by simp only[Ux,UH];omega) rfl ?_);intro aa ab ac k ad ae e;rw[UZ] at e;obtain⟨af,ag,rfl,_,_⟩:=e.len;exact Ua<|RY<|Wq rfl rfl k<|TP (e.toRS k hX)<|(lQ hjl b d htr)
 refine Om (Oz<|Oz<|Oz<|Oz<|Oz<|Oz<|OF<|Nl<|Ue<|Sf<|Rg<|Ol<|Tt (T:=Jd) p sl38 io96 ?_);intro ah ai aj H I ak J;have a:=a.sp I;refine Om (Ub<|Ta (j:=j) a sl38 io96 rfl rfl rfl (by omega) ?_);intro K;refine Ol (Sk (T:=Jd) H sl38 io96 rfl rfl J (Xq K) (by simp only[Ux,UH,maxLen];omega) (by simp only[Ux,UH];omega) rfl ?_);intro al am an l ao aq g;rw[UZ] at g;obtain⟨ar,au,rfl,_,_⟩:=g.len;exact Ua<|RY<|Wq rfl rfl l<|TP (g.toRS l hX)<|(pD hjl b htr)
theorem Ql{X:Nat→Prop}{w:World}(hX:XB X w){p:Value}{a:GInt}(r:RV Jo X w p a)(hl:a.mag.length≤1099511627776):CRt 47 #[p] w fun v w'=>RV Jo X w' v (ofZ a.toZ):=by
 obtain⟨A,B,rfl,o⟩:=RV.int r;have C:=Cx.start hX;have sa:=r.int_small;refine Cgo Tryz.func47 rfl rfl rfl (Rg<|Ol<|R9 C rfl ?_);intro P Q R T F D s d;refine Ol (RR D io40 rfl ?_);intro G H I J E i j f;have o:=(o.sp s).sp j;have d:=d.spn j;refine Nl (Rg<|Ol<|RI J4 rfl<|Ol<|RN d pl38 rfl rfl<|Ol<|RH i cb88 rfl rfl (ye i.bd o hl) ?_);intro K L k l b;have d:=d.spn l;have f:=f.spn l;obtain⟨g,h,rfl,_,_⟩:=b.len;refine Ua<|Rg<|Ol<|RI Zp rfl<|Ol<|Sm<|RN d pl4 rfl rfl ⟨_,rfl,fun e=>?_,fun e=>?_⟩
 ·refine Om (OgD<|RP<|OgD<|St.len sl38 rfl<|OgD<|SM rfl rfl rfl<|OT<|Ub<|Si (cs:=[(.bool (decide<|0<(((trim a.mag).length:Nat):Int))),(.slice g (trim a.mag).length h)]) rfl (by kernel_rfl)<|On<|Us (cs':=[(.bool (decide<|0<(((trim a.mag).length:Nat):Int))),(.slice g (trim a.mag).length h)]) k f io40 ?_);intro M m u x;have b:=b.sp u;refine Nl (RY<|J0 rfl (TL x rfl ag40 rfl)<|RM ?_ m.below);exact TM (a:=(⟨(decide<|0<(((trim a.mag).length:Nat):Int)),(trim a.mag)⟩:GInt)) ((Je b).tr (Tr.weak m.base))<|sH sa (by rw[e,VQ];exact decide_eq_decide.2 (by omega))
 refine Om (Oz<|Oz<|Oz<|OF<|Ub<|Si (cs:=[(.bool false),(.slice g (trim a.mag).length h)]) rfl (by kernel_rfl)<|On<|Us (cs':=[(.bool false),(.slice g (trim a.mag).length h)]) k f io40 ?_);intro N n y z;have b:=b.sp y;refine Nl (RY<|J0 rfl (TL z rfl ag40 rfl)<|RM ?_ n.below);exact TM (a:=(⟨false,(trim a.mag)⟩:GInt)) ((Je b).tr (Tr.weak n.base))<|sH sa (by rw[e];rfl)
theorem Yt{X:Nat→Prop}{w:World}(hX:XB X w){b:Bool}{h:Value}{m:List Nat}(f:RS Jd X w h m)(hm:m.length≤1099511627776):CRt 89 #[(.bool b),h] w fun v w'=>RV Jo X w' v (ofZ (Jh b (val m))):=by
 obtain⟨i,j,rfl,_,_⟩:=f.len;have C:=Cx.start hX;refine Cgo Tryz.func89 rfl rfl rfl (Rg<|Ol<|RR C io40 rfl ?_);intro D E F G y k x d;have f:=f.sp x;refine Nl (Rg<|Om<|Ub<|Si (cs:=[(.bool b),(.slice i m.length j)]) rfl (by kernel_rfl)<|Ol<|RH k cb47 rfl rfl (Ql k.bd (a:=(⟨b,m⟩:GInt)) (Je f) hm) ?_);intro z A l n o;have d:=d.spn n;obtain⟨p,r,rfl,e⟩:=RV.int o;refine On (Us (cs':=(zzC (ofZ (⟨b,m⟩:GInt).toZ) p r)) l d io40 ?_);intro B g s u;have e:=e.sp s;refine Nl (RY<|J0 rfl (TL u rfl ag40 rfl)<|RM ?_ g.below);exact TM (a:=(ofZ (⟨b,m⟩:GInt).toZ)) ((Je e).tr (Tr.weak g.base)) rfl
theorem Cj{X:Nat→Prop}{w:World}(hX:XB X w){i:Value}{a:GInt}(j:RV Jo X w i a)(hl:a.mag.length≤1099511627776):CRt 105 #[i] w fun v w'=>v=(.int .i64 a.toZ.sign):=by
 obtain⟨k,l,rfl,h⟩:=RV.int j;have C:=Cx.start hX;have sa:=j.int_small;refine Cgo Tryz.func105 rfl rfl rfl (Rg<|Ol<|R9 C rfl ?_);intro Q R T U D m n o;have h:=h.sp n;refine Oa (Nl<|Rg<|Ol<|Uo (vs:=(zzC a k l)) o ag40<|Ol<|RH m cb47 rfl rfl (Ql m.bd (a:=a) (Je h) hl) ?_);intro E F p G r;obtain⟨s,u,rfl,H⟩:=RV.int r;refine Ol (RR p io40 rfl ?_);intro I J K L A x M y;refine On (Us (cs':=(zzC (ofZ a.toZ) s u)) x y io40 ?_);intro N d P g;refine Nl<|Rh<|Ol<|RI J4 rfl<|Ol<|RN g pl38 rfl rfl<|Ol<|St.len sl38 rfl<|Ol<|Sj rfl rfl (fun f=>?_)<|fun f=>?_
 ·exact Nl<|Uf<|Ua<|RY<|Wq rfl rfl d<|congrArg (Value.int _)<|(by rw[(Zc (z:=a.toZ)).1 (by omega)];rfl)
 refine Nl<|Uc<|Rh<|Ol<|RI Zp rfl<|Ol<|Sm<|RN g pl4 rfl rfl ⟨_,rfl,fun b=>?_,fun b=>?_⟩
 ·exact Nl<|Uf<|Ua<|RY<|Wq rfl rfl d<|congrArg (Value.int _)<|(by have hh:=b;rw[iz,decide_eq_true_eq] at hh;exact(Wz hh).symm)
 exact Nl<|Uc<|Rg<|Ua<|RY<|Wq rfl rfl d<|congrArg (Value.int _)<|(by have hh:=b;rw[iz,decide_eq_false_iff_not] at hh;exact(WA (by have B:=f;have V:a.toZ≠0:=fun e=>B (by rw[Zc.2 e];rfl);omega)).symm)
theorem I6{X:Nat→Prop}{w:World}(hX:XB X w){j:Value}{a:GInt}(u:RV Jo X w j a)(hl:a.mag.length≤1099511627776):CRt 108 #[j] w fun v w'=>RV Jo X w' v (ofZ (-a.toZ)):=by
 obtain⟨x,y,rfl,i⟩:=RV.int u;have C:=Cx.start hX;refine Cgo Tryz.func108 rfl rfl rfl (Rg<|Ol<|R9 C rfl ?_);intro K L M N B z k b;refine Ol (RR z io40 rfl ?_);intro D E F G A f g d;have i:=(i.sp k).sp g;have b:=b.spn g;refine Nl (Rg<|Ol<|RI Zp rfl<|Ol<|RN b pl4 rfl rfl<|Ol<|Sr rfl<|Ol<|RI J4 rfl<|Ol<|RN b pl38 rfl rfl<|Ol<|RH f cb89 rfl rfl (Yt f.bd i hl) ?_);intro H I l m n;have d:=d.spn m;obtain⟨o,p,rfl,e⟩:=RV.int n;refine On (Us (cs':=(zzC (ofZ<|Jh (!a.neg)<|val a.mag) o p)) l d io40 ?_);intro J h r s;have e:=e.sp r;refine Nl (RY<|J0 rfl (TL s rfl ag40 rfl)<|RM ?_ h.below);exact TM (a:=(ofZ<|Jh (!a.neg)<|val a.mag)) ((Je e).tr (Tr.weak h.base))<|(by rw[xm];rfl)
theorem E7{X:Nat→Prop}{w:World}(hX:XB X w){j:Value}{a:GInt}(u:RV Jo X w j a)(hl:a.mag.length≤1099511627776):CRt 154 #[j] w fun v w'=>RV Jo X w' v (ofZ (a.toZ.natAbs:Int)):=by
 obtain⟨x,y,rfl,i⟩:=RV.int u;have C:=Cx.start hX;refine Cgo Tryz.func154 rfl rfl rfl (Rg<|Ol<|R9 C rfl ?_);intro K L M N B z k b;refine Ol (RR z io40 rfl ?_);intro D E F G A f g d;have i:=(i.sp k).sp g;have b:=b.spn g;refine Nl (Rg<|Ol<|RI J4 rfl<|Ol<|RN b pl38 rfl rfl<|Ol<|RH f cb89 rfl rfl (Yt f.bd i hl) ?_);intro H I l m n;have d:=d.spn m;obtain⟨o,p,rfl,e⟩:=RV.int n;refine On (Us (cs':=(zzC (ofZ<|Jh false<|val a.mag) o p)) l d io40 ?_);intro J h r s;have e:=e.sp r;refine Nl (RY<|J0 rfl (TL s rfl ag40 rfl)<|RM ?_ h.below);exact TM (a:=(ofZ<|Jh false<|val a.mag)) ((Je e).tr (Tr.weak h.base))<|(by rw[Yu];rfl)
theorem nO{X:Nat→Prop}{w:World}(hX:XB X w){v0:Value}{a:List Nat}(l:RS Jd X w v0 a){v1:Value}{b:List Nat}(m:RS Jd X w v1 b)(ha:trim a=a)(hb:trim b=b)(hla:a.length≤1099511627776)(hlb:b.length≤1099511627776):CRt 112 #[v0,v1] w fun v w'=>v=(.bool (decide (val a<val b))):=by
 obtain⟨n,o,rfl,_,_⟩:=l.len;obtain⟨p,r,rfl,_,_⟩:=m.len;have C:=Cx.start hX;have sa:=l.u32_small;have sb:=m.u32_small;refine Cgo Tryz.func112 rfl rfl rfl<|Rg<|Ua<|Rh<|Ub<|St.len sl38 rfl<|Ub<|St.len sl38 rfl<|Ol<|SA rfl rfl (fun aG=>?_)<|fun aG=>?_
 ·exact Nl<|Uf<|Ub<|St.len sl38 rfl<|Ub<|St.len sl38 rfl<|Ol<|SG rfl rfl rfl<|Ua<|RY<|Wq rfl rfl C<|congrArg (Value.bool)<|(vU ha hb sa sb (by omega))
 refine Nl (Uc<|Rh<|Ub<|St.len sl38 rfl<|Ol<|St.sub (z:=(((a.length:Nat):Int)-1)) rfl rfl (UP _ (by omega))<|Ua<|W.block<|Sc (fun μ f v=>∃(x y:Nat→Prop) (j:Nat),Cx X w x y v∧f 0=(.slice n a.length o)∧f 1=(.slice p b.length r)∧f 5=(.int .i64 ((j:Int)-1))∧RS Jd x v (.slice n a.length o) a∧RS Jd x v (.slice p b.length r) b∧j≤a.length∧a.drop j=b.drop j∧μ=j) _ ⟨_,_,a.length,C,rfl,rfl,rfl,l,m,(UM _),(by rw[UY<|UM _,UY (by omega)]),rfl⟩ ?_);rintro bz f6 w7 ⟨x8,y9,j,M,N,P,Q,l,m,hj,heq,a6⟩;obtain⟨bA,rfl⟩:=rebK (aC N<|aC P<|aC Q aN);clear N P Q;refine Rh<|Ub<|SB rfl rfl (fun Z=>?_)<|fun Z=>?_
 ·refine Nl<|Ud<|RT<|RZ<|W.block<|RZ<|Sg mixed 8 [[],[],[0,1],[2],[],[],[4,5],[6]] M [fx<|.slice n a.length o,fx<|.int .i64 ((j:Int)-1),fE Jd<|a.getD (j-1) 0,fx<|.int .u32 (((a.getD (j-1) 0):Nat):Int),fx<|.slice p b.length r,fx<|.int .i64 ((j:Int)-1),fE Jd<|b.getD (j-1) 0,fx<|.int .u32 (((b.getD (j-1) 0):Nat):Int)] (by kernel_rfl) ⟨sx,sx,sE,sx,sx,sx,sE,sx,trivial⟩ fun aH i bB ⟨h,R⟩ g=>?_
  have l:=l.sp R;have m:=m.sp R;have g:Keep [23,24,25,26,27,28,29,30] _ aH:=g;refine⟨⟨fun _=>?_,fun _=>?_,fun⟨aI,aJ,_⟩=>?_,fun⟨aK,_⟩=>?_,fun _=>?_,fun _=>?_,fun⟨aL,aM,_⟩=>?_,fun⟨aO,_⟩=>?_,trivial⟩,fun⟨aP,aQ,aR,aS,aT,aU,aV,aW,_⟩=>?_⟩
  ·exact Sd0 g fun _=>RP ⟨i,RJ h,rfl⟩
  ·exact Sd0 g fun _=>RP ⟨i,RJ h,rfl⟩
  ·refine Js g (aC aI<|aC aJ aN) fun _=>R8 (Sd (j:=(j-1)) (u:=(a.getD (j-1) 0)) l sl38 io96 rfl rfl (by omega) (Ji (by omega)) ?_);intro bC bD aa T;obtain⟨rfl,be⟩:aa=_∧_:=T.rd;exact⟨i,RJ h,⟨_,_,_,rfl,T⟩⟩
  ·obtain⟨bE,bF,ab,aX,U⟩:=aK;obtain⟨rfl,bf⟩:ab=_∧_:=U.rd;exact Sd1 g aX fun _=>Sa pl96 rfl (U.cell 0 _ rfl) ⟨i,RJ h,rfl⟩
  ·exact Sd0 g fun _=>RP ⟨i,RJ h,rfl⟩
  ·exact Sd0 g fun _=>RP ⟨i,RJ h,rfl⟩
  ·refine Js g (aC aL<|aC aM aN) fun _=>R8 (Sd (j:=(j-1)) (u:=(b.getD (j-1) 0)) m sl38 io96 rfl rfl (by omega) (Ji (by omega)) ?_);intro bG bH ac V;obtain⟨rfl,bg⟩:ac=_∧_:=V.rd;exact⟨i,RJ h,⟨_,_,_,rfl,V⟩⟩
  ·obtain⟨bJ,bK,ad,aY,Y⟩:=aO;obtain⟨rfl,bh⟩:ad=_∧_:=Y.rd;exact Sd1 g aY fun _=>Sa pl96 rfl (Y.cell 0 _ rfl) ⟨i,RJ h,rfl⟩
  obtain⟨bL,bM,ae,aZ,a0⟩:=aR;obtain⟨rfl,bi⟩:ae=_∧_:=a0.rd;obtain⟨bN,bO,af,a2,a4⟩:=aV;obtain⟨rfl,bj⟩:af=_∧_:=a4.rd;obtain⟨bP,rfl⟩:=mixK g (aC aP<|aC aQ<|aC aZ<|aC aS<|aC aT<|aC aU<|aC a2<|aC aW aN);refine Ol<|SA rfl rfl (fun s=>?_)<|fun s=>?_
  ·refine Nl<|Ud<|RZ<|Sg mixed 8 [[],[],[0,1],[2],[],[],[4,5],[6]] h [fx<|.slice n a.length o,fx<|.int .i64 ((j:Int)-1),fE Jd<|a.getD (j-1) 0,fx<|.int .u32 (((a.getD (j-1) 0):Nat):Int),fx<|.slice p b.length r,fx<|.int .i64 ((j:Int)-1),fE Jd<|b.getD (j-1) 0,fx<|.int .u32 (((b.getD (j-1) 0):Nat):Int)] (by kernel_rfl) ⟨sx,sx,sE,sx,sx,sx,sE,sx,trivial⟩ fun a5 k bk ⟨e,A⟩ d=>?_
   have l:=l.sp A;have m:=m.sp A;have d:Keep [32,33,34,35,36,37,38,39] _ a5:=d;refine⟨⟨fun _=>?_,fun _=>?_,fun⟨ag,ah,_⟩=>?_,fun⟨ai,_⟩=>?_,fun _=>?_,fun _=>?_,fun⟨aj,ak,_⟩=>?_,fun⟨al,_⟩=>?_,trivial⟩,fun⟨am,an,ao,aq,ar,au,av,aw,_⟩=>?_⟩
   ·exact Sd0 d fun _=>RP ⟨k,RJ e,rfl⟩
   ·exact Sd0 d fun _=>RP ⟨k,RJ e,rfl⟩
   ·refine Js d (aC ag<|aC ah aN) fun _=>R8 (Sd (j:=(j-1)) (u:=(a.getD (j-1) 0)) l sl38 io96 rfl rfl (by omega) (Ji (by omega)) ?_);intro bl bm G B;obtain⟨rfl,a7⟩:G=_∧_:=B.rd;exact⟨k,RJ e,⟨_,_,_,rfl,B⟩⟩
   ·obtain⟨bn,bo,H,ax,D⟩:=ai;obtain⟨rfl,a8⟩:H=_∧_:=D.rd;exact Sd1 d ax fun _=>Sa pl96 rfl (D.cell 0 _ rfl) ⟨k,RJ e,rfl⟩
   ·exact Sd0 d fun _=>RP ⟨k,RJ e,rfl⟩
   ·exact Sd0 d fun _=>RP ⟨k,RJ e,rfl⟩
   ·refine Js d (aC aj<|aC ak aN) fun _=>R8 (Sd (j:=(j-1)) (u:=(b.getD (j-1) 0)) m sl38 io96 rfl rfl (by omega) (Ji (by omega)) ?_);intro bp bq I E;obtain⟨rfl,a9⟩:I=_∧_:=E.rd;exact⟨k,RJ e,⟨_,_,_,rfl,E⟩⟩
   ·obtain⟨br,bs,J,ay,F⟩:=al;obtain⟨rfl,ba⟩:J=_∧_:=F.rd;exact Sd1 d ay fun _=>Sa pl96 rfl (F.cell 0 _ rfl) ⟨k,RJ e,rfl⟩
   obtain⟨bt,bu,K,az,aA⟩:=ao;obtain⟨rfl,bb⟩:K=_∧_:=aA.rd;obtain⟨bv,bw,L,aB,aD⟩:=av;obtain⟨rfl,bd⟩:L=_∧_:=aD.rd;obtain⟨bx,rfl⟩:=mixK d (aC am<|aC an<|aC az<|aC aq<|aC ar<|aC au<|aC aB<|aC aw aN);exact Ol<|SG rfl rfl rfl<|Ua<|RY<|Wq rfl rfl e<|congrArg (Value.bool)<|(sy sa sb (by omega) (by omega) (by omega) (by omega) heq)
  refine Nl<|Uc<|RK<|Ub<|St.sub (z:=(((j:Int)-1)-1)) rfl rfl (UP _ (by omega))<|Ua<|⟨_,(by omega),_,_,(j-1),h,rfl,rfl,(congrArg (Value.int .i64) (by omega)),l,m,(by omega),(oO (by omega) (by omega) (by omega) s heq),rfl⟩
 exact Nl<|Ue<|Sf<|Rg<|Ua<|RY<|Wq rfl rfl M<|congrArg (Value.bool)<|(Al (show j=0 by omega) heq)
set_option maxHeartbeats 8000000 in
theorem CE{X:Nat→Prop}{w:World}(hX:XB X w){v0:Value}{a:List Nat}(g:RS Jd X w v0 a){v1:Value}{b:List Nat}(e:RS Jd X w v1 b)(hla:a.length≤549755813888)(hlb:b.length≤549755813888):CRt 111 #[v0,v1] w fun v w'=>RS Jd X w' v (Jx (max a.length b.length+1) (val a+val b)):=by
 obtain⟨a1,c2,rfl,_,_⟩:=g.len;obtain⟨a3,c4,rfl,_,_⟩:=e.len;have C:=Cx.start hX;have sa:=g.u32_small;have sb:=e.u32_small;refine Cgo Tryz.func111 rfl rfl rfl (Rg<|Ua<|Rg<|Ua<|Rg<|Ua<|Rh<|Ua<|W.block<|Sc (fun μ f v=>∃(x y:Nat→Prop) (i:Nat) (p:List Nat) (c:Nat) (pa:Option Addr) (pc:Nat),Cx X w x y v∧f 0=(.slice a1 a.length c2)∧f 1=(.slice a3 b.length c4)∧f 4=(.slice none 0 0)∧f 7=(.int .i64 ((i:Nat):Int))∧f 6=(.int .u64 ((c:Nat):Int))∧f 5=(.slice pa p.length pc)∧RS Jd x v (.slice a1 a.length c2) a∧RS Jd x v (.slice a3 b.length c4) b∧OS Jd 96 w x y v (.slice pa p.length pc) p∧i≤max a.length b.length∧p.length=i∧Jp p∧c≤1∧val p+4294967296^i*c=val (a.take i)+val (b.take i)∧μ=(max a.length b.length-i)) _ ⟨_,_,0,[],0,none,0,C,rfl,rfl,rfl,rfl,rfl,rfl,g,e,OS.nil,(UN _),rfl,J9,(by omega),(by simp[val]),rfl⟩ ?_);rintro aK f5 w6 ⟨x7,y8,i,p,c,pa,pc,r,A,B,D,E,F,G,g,e,hP,hi,hp,hs,hc,hv,aF⟩;obtain⟨aL,rfl⟩:=rebK (aC A<|aC B<|aC D<|aC E<|aC F<|aC G aN);clear A B D E F G;have hai:=Jf sa i;have hbi:=Jf sb i;refine Rh<|Om<|Ub<|St.len sl38 rfl<|Ol<|Sb rfl rfl (fun af=>?_)<|fun af=>?_
 ·refine Om (Oz<|Oz<|Oz<|Oz<|OT<|Nl<|Ud<|RT<|RZ<|W.block<|Rg<|Om<|Ua<|Rh<|Om<|Ub<|St.len sl38 rfl<|Ol<|SG (t:=true) rfl rfl (decide_eq_true (by omega)) ?_);refine Nl (Uk<|Om<|Om<|Ub<|Sd (j:=i) (u:=(a.getD i 0)) g sl38 io96 rfl rfl rfl (Ji (by omega)) ?_);intro aM aO ag H;obtain⟨rfl,aG⟩:ag=_∧_:=H.rd;refine Ol<|Sa pl96 rfl (H.cell 0 _ rfl)<|Ol<|R2 (z:=(((a.getD i 0):Nat):Int)) us96 un97 rfl (UO _ (by omega))<|Ol<|St.add rfl rfl (J6 (a:=c) (b:=(a.getD i 0)) (by omega))<|Ua<|Rh<|Om<|Ub<|St.len sl38 rfl<|Ol<|Sb rfl rfl (fun ah=>?_)<|fun ah=>?_
  ·refine Nl (Uk<|Om<|Om<|Ub<|Sd (j:=i) (u:=(b.getD i 0)) e sl38 io96 rfl rfl rfl (Ji (by omega)) ?_);intro aP aQ ai I;obtain⟨rfl,aH⟩:ai=_∧_:=I.rd;refine Ol (Sa pl96 rfl (I.cell 0 _ rfl)<|Ol<|R2 (z:=(((b.getD i 0):Nat):Int)) us96 un97 rfl (UO _ (by omega))<|Ol<|St.add rfl rfl (J6 (a:=c+(a.getD i 0)) (b:=(b.getD i 0)) (by omega))<|Ua<|Rg<|Om<|Ub<|R2 (z:=((((c+(a.getD i 0))+(b.getD i 0))%4294967296:Nat):Int)) us97 un96 rfl (Jm _) ?_);refine Ol (Sl (T:=Jd) (css:=[[(.int .u32 ((((c+(a.getD i 0))+(b.getD i 0))%4294967296:Nat):Int))]]) (l:=[((c+(a.getD i 0))+(b.getD i 0))%4294967296]) r sl38 io96 (by decide) (by decide) rfl (by kernel_rfl) ⟨⟨rfl,(UI _ (by decide))⟩,trivial⟩ ?_);intro aR aS J k an;have hP:=hP.sp k J<|fun _ h=>h
   refine Ol (Sk (T:=Jd) J sl38 io96 rfl rfl hP (Xq an) (by simp only[Uv,Uw,Ux,maxLen];omega) (by simp only[Uv,Uw,Ux];omega) rfl ?_);intro aT aU aV ao K aW L;have g:=(g.sp k).tr K.tx;have e:=(e.sp k).tr K.tx;obtain⟨aq,ar,rfl,_,_⟩:=L.len;refine Ua<|RK<|Ub<|SC rfl rfl (by decide) (Ym (d:=4294967296) _ (by decide))<|Ua<|RK<|Ub<|St.add rfl rfl (Jc (a:=i) (b:=1) (by omega))<|Ua<|⟨_,(by omega),_,_,(i+1),(p++[((c+(a.getD i 0))+(b.getD i 0))%4294967296]),((c+(a.getD i 0))+(b.getD i 0))/4294967296,aq,ar,ao,rfl,rfl,rfl,rfl,rfl,rfl,g,e,L,(by omega),(by rw[Uv,hp];rfl),(Jz hs<|UI _ (by decide)),(by omega),(zr (s:=((c+(a.getD i 0))+(b.getD i 0))) hp hv (by first|rfl|(have m:=Y0 (l:=b) (i:=i) (by omega);omega)|(have m:=Y0 (l:=a) (i:=i) (by omega);omega))),rfl⟩
  refine Nl (Uc<|Rg<|Om<|Ub<|R2 (z:=(((c+(a.getD i 0))%4294967296:Nat):Int)) us97 un96 rfl (Jm _)<|Ol<|Sl (T:=Jd) (css:=[[(.int .u32 (((c+(a.getD i 0))%4294967296:Nat):Int))]]) (l:=[(c+(a.getD i 0))%4294967296]) r sl38 io96 (by decide) (by decide) rfl (by kernel_rfl) ⟨⟨rfl,(UI _ (by decide))⟩,trivial⟩ ?_);intro aX aY M n au;have hP:=hP.sp n M<|fun _ h=>h
  refine Ol (Sk (T:=Jd) M sl38 io96 rfl rfl hP (Xq au) (by simp only[Uv,Uw,Ux,maxLen];omega) (by simp only[Uv,Uw,Ux];omega) rfl ?_);intro aZ a0 a2 av N a4 P;have g:=(g.sp n).tr N.tx;have e:=(e.sp n).tr N.tx;obtain⟨aw,ax,rfl,_,_⟩:=P.len;refine Ua<|RK<|Ub<|SC rfl rfl (by decide) (Ym (d:=4294967296) _ (by decide))<|Ua<|RK<|Ub<|St.add rfl rfl (Jc (a:=i) (b:=1) (by omega))<|Ua<|⟨_,(by omega),_,_,(i+1),(p++[(c+(a.getD i 0))%4294967296]),(c+(a.getD i 0))/4294967296,aw,ax,av,rfl,rfl,rfl,rfl,rfl,rfl,g,e,P,(by omega),(by rw[Uv,hp];rfl),(Jz hs<|UI _ (by decide)),(by omega),(zr (s:=(c+(a.getD i 0))) hp hv (by first|rfl|(have m:=Y0 (l:=b) (i:=i) (by omega);omega)|(have m:=Y0 (l:=a) (i:=i) (by omega);omega))),rfl⟩
 refine Om<|OgD<|RP<|OgD<|RP<|OgD<|St.len sl38 rfl<|OgD<|Sb rfl rfl (fun aj=>?_)<|fun aj=>?_
 ·refine OF (Nl<|Ud<|RT<|RZ<|W.block<|Rg<|Om<|Ua<|Rh<|Om<|Ub<|St.len sl38 rfl<|Ol<|SG (t:=false) rfl rfl (decide_eq_false (by omega))<|Nl<|Uc<|Rh<|Om ?_);refine Om (Ol<|St.len sl38 rfl<|Ol<|SG (t:=true) rfl rfl (decide_eq_true (by omega))<|Nl<|Uk<|Om<|Om<|Ub<|Sd (j:=i) (u:=(b.getD i 0)) e sl38 io96 rfl rfl rfl (Ji (by omega)) ?_);intro a5 a6 ak Q;obtain⟨rfl,aI⟩:ak=_∧_:=Q.rd;refine Ol (Sa pl96 rfl (Q.cell 0 _ rfl)<|Ol<|R2 (z:=(((b.getD i 0):Nat):Int)) us96 un97 rfl (UO _ (by omega))<|Ol<|St.add rfl rfl (J6 (a:=c) (b:=(b.getD i 0)) (by omega))<|Ua<|Rg<|Om<|Ub<|R2 (z:=(((c+(b.getD i 0))%4294967296:Nat):Int)) us97 un96 rfl (Jm _) ?_);refine Ol (Sl (T:=Jd) (css:=[[(.int .u32 (((c+(b.getD i 0))%4294967296:Nat):Int))]]) (l:=[(c+(b.getD i 0))%4294967296]) r sl38 io96 (by decide) (by decide) rfl (by kernel_rfl) ⟨⟨rfl,(UI _ (by decide))⟩,trivial⟩ ?_);intro a7 a8 R o ay;have hP:=hP.sp o R<|fun _ h=>h
  refine Ol (Sk (T:=Jd) R sl38 io96 rfl rfl hP (Xq ay) (by simp only[Uv,Uw,Ux,maxLen];omega) (by simp only[Uv,Uw,Ux];omega) rfl ?_);intro a9 ba bb az U bd V;have g:=(g.sp o).tr U.tx;have e:=(e.sp o).tr U.tx;obtain⟨aA,aB,rfl,_,_⟩:=V.len;refine Ua<|RK<|Ub<|SC rfl rfl (by decide) (Ym (d:=4294967296) _ (by decide))<|Ua<|RK<|Ub<|St.add rfl rfl (Jc (a:=i) (b:=1) (by omega))<|Ua<|⟨_,(by omega),_,_,(i+1),(p++[(c+(b.getD i 0))%4294967296]),(c+(b.getD i 0))/4294967296,aA,aB,az,rfl,rfl,rfl,rfl,rfl,rfl,g,e,V,(by omega),(by rw[Uv,hp];rfl),(Jz hs<|UI _ (by decide)),(by omega),(zr (s:=(c+(b.getD i 0))) hp hv (by first|rfl|(have m:=Y0 (l:=b) (i:=i) (by omega);omega)|(have m:=Y0 (l:=a) (i:=i) (by omega);omega))),rfl⟩
 refine OF (Nl<|Ue<|Sf<|Rg<|Om<|Ub<|R2 (z:=((c%4294967296:Nat):Int)) us97 un96 rfl (Jm _)<|Ol<|Sl (T:=Jd) (css:=[[(.int .u32 ((c%4294967296:Nat):Int))]]) (l:=[c%4294967296]) r sl38 io96 (by decide) (by decide) rfl (by kernel_rfl) ⟨⟨rfl,(UI _ (by decide))⟩,trivial⟩ ?_);intro be bf Y aD aE;have hP:=hP.sp aD Y<|fun _ h=>h
 refine Ol (Sk (T:=Jd) Y sl38 io96 rfl rfl hP (Xq aE) (by simp only[Uv,Uw,Ux,maxLen];omega) (by simp only[Uv,Uw,Ux];omega) rfl ?_);intro bg bh bi Z bj bk aa;obtain⟨bl,aJ,rfl,_,_⟩:=aa.len;exact Ua<|RY<|Wq rfl rfl Z<|TP (aa.toRS Z hX)<|(sO hs hp (by omega) hc hv)
set_option maxHeartbeats 8000000 in
theorem iZ{X:Nat→Prop}{w:World}(hX:XB X w){v0:Value}{a:List Nat}(e:RS Jd X w v0 a){v1:Value}{b:List Nat}(g:RS Jd X w v1 b)(hla:a.length≤549755813888)(hlb:b.length≤a.length)(hle:val b≤val a):CRt 113 #[v0,v1] w fun v w'=>RS Jd X w' v (Jx a.length (val a-val b)):=by
 obtain⟨a1,c2,rfl,_,_⟩:=e.len;obtain⟨a3,c4,rfl,_,_⟩:=g.len;have C:=Cx.start hX;have sa:=e.u32_small;have sb:=g.u32_small;refine Cgo Tryz.func113 rfl rfl rfl (Rg<|Ua<|Rg<|Ua<|Rg<|Ua<|Rh<|Ua<|W.block<|Sc (fun μ f v=>∃(x y:Nat→Prop) (i:Nat) (p:List Nat) (c:Nat) (pa:Option Addr) (pc:Nat),Cx X w x y v∧f 0=(.slice a1 a.length c2)∧f 1=(.slice a3 b.length c4)∧f 4=(.slice none 0 0)∧f 7=(.int .i64 ((i:Nat):Int))∧f 6=(.int .u64 ((c:Nat):Int))∧f 5=(.slice pa p.length pc)∧RS Jd x v (.slice a1 a.length c2) a∧RS Jd x v (.slice a3 b.length c4) b∧OS Jd 96 w x y v (.slice pa p.length pc) p∧i≤a.length∧p.length=i∧Jp p∧c≤1∧val p+val (b.take i)=val (a.take i)+4294967296^i*c∧μ=(a.length-i)) _ ⟨_,_,0,[],0,none,0,C,rfl,rfl,rfl,rfl,rfl,rfl,e,g,OS.nil,(UN _),rfl,J9,(by omega),(by simp[val]),rfl⟩ ?_);rintro aO f5 w6 ⟨x7,y8,i,p,c,pa,pc,k,A,B,D,E,F,G,e,g,hP,hi,hp,hs,hc,hv,aJ⟩;obtain⟨aP,rfl⟩:=rebK (aC A<|aC B<|aC D<|aC E<|aC F<|aC G aN);clear A B D E F G;have hai:=Jf sa i;have hbi:=Jf sb i;refine Rh<|Om<|Ub<|St.len sl38 rfl<|Ol<|Sb rfl rfl (fun af=>?_)<|fun af=>?_
 ·refine Nl<|Ud<|RT<|RZ<|W.block<|Rg<|Om<|Ua<|Rh<|Om<|Ub<|St.len sl38 rfl<|Ol<|Sb rfl rfl (fun ag=>?_)<|fun ag=>?_
  ·refine Nl (Uk<|Om<|Om<|Ub<|Sd (j:=i) (u:=(b.getD i 0)) g sl38 io96 rfl rfl rfl (Ji (by omega)) ?_);intro aQ aR ah H;obtain⟨rfl,aK⟩:ah=_∧_:=H.rd;refine Ol (Sa pl96 rfl (H.cell 0 _ rfl)<|Ol<|R2 (z:=(((b.getD i 0):Nat):Int)) us96 un97 rfl (UO _ (by omega))<|Ol<|St.add rfl rfl (J6 (a:=c) (b:=(b.getD i 0)) (by omega))<|Ua<|Rg<|Ua<|Rg<|Om<|Ub<|Sd (j:=i) (u:=(a.getD i 0)) e sl38 io96 rfl rfl rfl (Ji (by omega)) ?_);intro aS aT ai I;obtain⟨rfl,aL⟩:ai=_∧_:=I.rd;refine Ol<|Sa pl96 rfl (I.cell 0 _ rfl)<|Ol<|R2 (z:=(((a.getD i 0):Nat):Int)) us96 un97 rfl (UO _ (by omega))<|Ua<|Rh<|Om<|Ub<|Sb rfl rfl (fun aj=>?_)<|fun aj=>?_
   ·refine Nl (Uf<|Ub<|St.add rfl rfl (J6 (a:=(a.getD i 0)) (b:=4294967296) (by omega))<|Ua<|RK<|Ua<|RK<|Om<|Om<|Ub<|St.sub rfl rfl (Y1 (a:=(a.getD i 0)+4294967296) (b:=c+(b.getD i 0)) (by omega) (by omega)) ?_);refine Ol (R2 (z:=(((((a.getD i 0)+4294967296)-(c+(b.getD i 0)))%4294967296:Nat):Int)) us97 un96 rfl (Jm _)<|Ol<|Sl (T:=Jd) (css:=[[(.int .u32 (((((a.getD i 0)+4294967296)-(c+(b.getD i 0)))%4294967296:Nat):Int))]]) (l:=[(((a.getD i 0)+4294967296)-(c+(b.getD i 0)))%4294967296]) k sl38 io96 (by decide) (by decide) rfl (by kernel_rfl) ⟨⟨rfl,(UI _ (by decide))⟩,trivial⟩ ?_);intro aU aV J m au;have hP:=hP.sp m J<|fun _ h=>h
    refine Ol (Sk (T:=Jd) J sl38 io96 rfl rfl hP (Xq au) (by simp only[Uv,Uw,Ux,maxLen];omega) (by simp only[Uv,Uw,Ux];omega) rfl ?_);intro aW aX aY av K aZ L;have e:=(e.sp m).tr K.tx;have g:=(g.sp m).tr K.tx;obtain⟨aw,ax,rfl,_,_⟩:=L.len;refine Ua<|RK<|Ub<|St.add rfl rfl (Jc (a:=i) (b:=1) (by omega))<|Ua<|⟨_,(by omega),_,_,(i+1),(p++[(((a.getD i 0)+4294967296)-(c+(b.getD i 0)))%4294967296]),1,aw,ax,av,rfl,rfl,rfl,rfl,rfl,rfl,e,g,L,(by omega),(by rw[Uv,hp];rfl),(Jz hs<|UI _ (by decide)),(by decide),(Qg (s:=c+(b.getD i 0)) (d:=(((a.getD i 0)+4294967296)-(c+(b.getD i 0)))%4294967296) hp hv (by first|rfl|(have h7:=Y0 (l:=b) (i:=i) (by omega);omega)) (by omega)),rfl⟩
   refine Nl (Uc<|RK<|Om<|Om<|Ub<|St.sub rfl rfl (Y1 (a:=(a.getD i 0)) (b:=c+(b.getD i 0)) (by omega) (by omega))<|Ol<|R2 (z:=((((a.getD i 0)-(c+(b.getD i 0)))%4294967296:Nat):Int)) us97 un96 rfl (Jm _)<|Ol<|Sl (T:=Jd) (css:=[[(.int .u32 ((((a.getD i 0)-(c+(b.getD i 0)))%4294967296:Nat):Int))]]) (l:=[((a.getD i 0)-(c+(b.getD i 0)))%4294967296]) k sl38 io96 (by decide) (by decide) rfl (by kernel_rfl) ⟨⟨rfl,(UI _ (by decide))⟩,trivial⟩ ?_);intro a0 a2 M n ay;have hP:=hP.sp n M<|fun _ h=>h
   refine Ol (Sk (T:=Jd) M sl38 io96 rfl rfl hP (Xq ay) (by simp only[Uv,Uw,Ux,maxLen];omega) (by simp only[Uv,Uw,Ux];omega) rfl ?_);intro a4 a5 a6 az N a7 P;have e:=(e.sp n).tr N.tx;have g:=(g.sp n).tr N.tx;obtain⟨aA,aB,rfl,_,_⟩:=P.len;refine Ua<|RK<|Ub<|St.add rfl rfl (Jc (a:=i) (b:=1) (by omega))<|Ua<|⟨_,(by omega),_,_,(i+1),(p++[((a.getD i 0)-(c+(b.getD i 0)))%4294967296]),0,aA,aB,az,rfl,rfl,rfl,rfl,rfl,rfl,e,g,P,(by omega),(by rw[Uv,hp];rfl),(Jz hs<|UI _ (by decide)),(by decide),(Qg (s:=c+(b.getD i 0)) (d:=((a.getD i 0)-(c+(b.getD i 0)))%4294967296) hp hv (by first|rfl|(have h7:=Y0 (l:=b) (i:=i) (by omega);omega)) (by omega)),rfl⟩
  refine Nl (Uc<|Rg<|Ua<|Rg<|Om<|Ub<|Sd (j:=i) (u:=(a.getD i 0)) e sl38 io96 rfl rfl rfl (Ji (by omega)) ?_);intro a8 a9 al Q;obtain⟨rfl,aM⟩:al=_∧_:=Q.rd;refine Ol<|Sa pl96 rfl (Q.cell 0 _ rfl)<|Ol<|R2 (z:=(((a.getD i 0):Nat):Int)) us96 un97 rfl (UO _ (by omega))<|Ua<|Rh<|Om<|Ub<|Sb rfl rfl (fun am=>?_)<|fun am=>?_
  ·refine Nl (Uf<|Ub<|St.add rfl rfl (J6 (a:=(a.getD i 0)) (b:=4294967296) (by omega))<|Ua<|RK<|Ua<|RK<|Om<|Om<|Ub<|St.sub rfl rfl (Y1 (a:=(a.getD i 0)+4294967296) (b:=c) (by omega) (by omega)) ?_);refine Ol (R2 (z:=(((((a.getD i 0)+4294967296)-c)%4294967296:Nat):Int)) us97 un96 rfl (Jm _)<|Ol<|Sl (T:=Jd) (css:=[[(.int .u32 (((((a.getD i 0)+4294967296)-c)%4294967296:Nat):Int))]]) (l:=[(((a.getD i 0)+4294967296)-c)%4294967296]) k sl38 io96 (by decide) (by decide) rfl (by kernel_rfl) ⟨⟨rfl,(UI _ (by decide))⟩,trivial⟩ ?_);intro ba bb R o aD;have hP:=hP.sp o R<|fun _ h=>h
   refine Ol (Sk (T:=Jd) R sl38 io96 rfl rfl hP (Xq aD) (by simp only[Uv,Uw,Ux,maxLen];omega) (by simp only[Uv,Uw,Ux];omega) rfl ?_);intro bd be bf aE U bg V;have e:=(e.sp o).tr U.tx;have g:=(g.sp o).tr U.tx;obtain⟨aF,aG,rfl,_,_⟩:=V.len;refine Ua<|RK<|Ub<|St.add rfl rfl (Jc (a:=i) (b:=1) (by omega))<|Ua<|⟨_,(by omega),_,_,(i+1),(p++[(((a.getD i 0)+4294967296)-c)%4294967296]),1,aF,aG,aE,rfl,rfl,rfl,rfl,rfl,rfl,e,g,V,(by omega),(by rw[Uv,hp];rfl),(Jz hs<|UI _ (by decide)),(by decide),(Qg (s:=c) (d:=(((a.getD i 0)+4294967296)-c)%4294967296) hp hv (by first|rfl|(have h7:=Y0 (l:=b) (i:=i) (by omega);omega)) (by omega)),rfl⟩
  refine Nl (Uc<|RK<|Om<|Om<|Ub<|St.sub rfl rfl (Y1 (a:=(a.getD i 0)) (b:=c) (by omega) (by omega))<|Ol<|R2 (z:=((((a.getD i 0)-c)%4294967296:Nat):Int)) us97 un96 rfl (Jm _)<|Ol<|Sl (T:=Jd) (css:=[[(.int .u32 ((((a.getD i 0)-c)%4294967296:Nat):Int))]]) (l:=[((a.getD i 0)-c)%4294967296]) k sl38 io96 (by decide) (by decide) rfl (by kernel_rfl) ⟨⟨rfl,(UI _ (by decide))⟩,trivial⟩ ?_);intro bh bi Y r aH;have hP:=hP.sp r Y<|fun _ h=>h
  refine Ol (Sk (T:=Jd) Y sl38 io96 rfl rfl hP (Xq aH) (by simp only[Uv,Uw,Ux,maxLen];omega) (by simp only[Uv,Uw,Ux];omega) rfl ?_);intro bj bk bl aI Z bm aa;have e:=(e.sp r).tr Z.tx;have g:=(g.sp r).tr Z.tx;obtain⟨an,ao,rfl,_,_⟩:=aa.len;refine Ua<|RK<|Ub<|St.add rfl rfl (Jc (a:=i) (b:=1) (by omega))<|Ua<|⟨_,(by omega),_,_,(i+1),(p++[((a.getD i 0)-c)%4294967296]),0,an,ao,aI,rfl,rfl,rfl,rfl,rfl,rfl,e,g,aa,(by omega),(by rw[Uv,hp];rfl),(Jz hs<|UI _ (by decide)),(by decide),(Qg (s:=c) (d:=((a.getD i 0)-c)%4294967296) hp hv (by first|rfl|(have h7:=Y0 (l:=b) (i:=i) (by omega);omega)) (by omega)),rfl⟩
 exact Nl<|Ue<|Sf<|Rg<|Om<|Ua<|RY<|Wq rfl rfl k<|TP (hP.toRS k hX)<|(pP hs hp (by omega) hlb hle hv)
theorem MA{X:Nat→Prop}{w:World}(hX:XB X w){v0:Value}{a:GInt}(r0:RV Jo X w v0 a){v1:Value}{b:GInt}(r1:RV Jo X w v1 b)(hla:a.mag.length≤549755813888)(hlb:b.mag.length≤549755813888):CRt 67 #[v0,v1] w fun v w'=>RV Jo X w' v (ofZ (a.toZ+b.toZ)):=by
 obtain⟨a1,c2,rfl,h3⟩:=RV.int r0;obtain⟨a4,c5,rfl,h6⟩:=RV.int r1;have C:=Cx.start hX;have sa:=r0.int_small;have sb:=r1.int_small;have hN:=Jv sa;have hD:=Jv sb;refine Cgo Tryz.func67 rfl rfl rfl (Rg<|Ol<|R9 C rfl ?_);intro g7 w8 x9 dB cQ cy aJ M;refine Ol (R9 cy rfl ?_);intro aK dC dD dE cR cz av N;have h3:=(h3.sp aJ).sp av;have h6:=(h6.sp aJ).sp av;refine Ol (RR cz io40 rfl ?_);intro aL aM cB cC cS cD am k;have M:=(M.spn av).spn am;have N:=N.spn am;refine Nl<|RZ<|SY mixed 6 [[],[0],[],[2],[],[]] ((cB,cC),lR) (RL X w) [fx<|.agg #[(.bool a.neg),(.slice a1 a.mag.length c2)],fun(s:GhL) (v:Value) (w':World)=>RV Jo s.1.1 w' v<|ofZ a.toZ,fx<|.agg #[(.bool b.neg),(.slice a4 b.mag.length c5)],fun(s:GhL) (v:Value) (w':World)=>RV Jo s.1.1 w' v<|ofZ b.toZ,fun(s:GhL) (v:Value) (w':World)=>∃g':Nat,v= .pointer (some ⟨g',0,none⟩)∧Own w s.1.2 w' g' [(.bool false),(.slice none 0 0)] 40∧aM.heap.size≤g'∧s.2 g'=some 4,fun(s:GhL) (v:Value) (w':World)=>∃g':Nat,v= .pointer (some ⟨g',0,none⟩)∧Own w s.1.2 w' g' [(.bool false),(.slice none 0 0)] 40∧aM.heap.size≤g'∧s.2 g'=some 5] (by kernel_rfl) (TU cD) RL.trans ⟨sx,(fun _ _ _ _ _ h r=>RV.tr h r.rc.sp.tx),sx,(fun _ _ _ _ _ h r=>RV.tr h r.rc.sp.tx),(fun _ _ _ _ _ ⟨g,e,o,l,q⟩ r=>⟨g,e,o.spn r.rc.sp,l,r.ext _ _ q⟩),(fun _ _ _ _ _ ⟨g,e,o,l,q⟩ r=>⟨g,e,o.spn r.rc.sp,l,r.ext _ _ q⟩),trivial⟩ fun cE P dG an G=>?_
 have H:=an.rc.cx;have Q:=an.rc.sp;have aw:=M.blk.lt;have ax:=N.blk.lt;have ay:=k.blk.lt;have ab:=Q.tx.size;have h3:=(h3.sp am).sp Q;have h6:=(h6.sp am).sp Q;have M:=M.spn Q;have N:=N.spn Q;have k:=k.spn Q;have G:Keep [7,8,9,10,5,6] _ cE:=G;refine⟨⟨fun _=>?_,fun⟨cF,_⟩=>?_,fun _=>?_,fun⟨cG,_⟩=>?_,fun _=>?_,fun _=>?_,trivial⟩,fun⟨cH,cI,cJ,cK,cL,cM,_⟩=>?_⟩
 ·exact Sd0 G fun _=>RX (vs:=(zzC a a1 c2)) M ag40 rfl rfl rfl ⟨P,RL.same H,rfl⟩
 ·refine Sd1 G cF fun _=>RH H cb47 rfl rfl (Ql H.bd (a:=a) (Je h3) (by omega)) ?_;intro dH dI cN cO cP;exact⟨P,TS ⟨cN,cO⟩,cP⟩
 ·exact Sd0 G fun _=>RX (vs:=(zzC b a4 c5)) N ag40 rfl rfl rfl ⟨P,RL.same H,rfl⟩
 ·refine Sd1 G cG fun _=>RH H cb47 rfl rfl (Ql H.bd (a:=b) (Je h6) (by omega)) ?_;intro dJ dK aR aS aT;exact⟨P,TS ⟨aR,aS⟩,aT⟩
 ·refine Sd0 G fun _=>RR H io40 rfl ?_;intro az cT aU aV ao aW aX aA;exact⟨((aU,aV),lab P.2 az 4),RL.new (an.bd fun _ _ h=>by cases h) ⟨aW,aX⟩ (ZB fun hh=>ao _ hh rfl) aA.blk.lt,az,rfl,aA,ZB fun hh=>ao _ (UB hh ab) rfl,Kt _ _ _⟩
 ·refine Sd0 G fun _=>RR H io40 rfl ?_;intro aB cU aY aZ aq a0 a2 aD;exact⟨((aY,aZ),lab P.2 aB 5),RL.new (an.bd fun _ _ h=>by cases h) ⟨a0,a2⟩ (ZB fun hh=>aq _ hh rfl) aD.blk.lt,aB,rfl,aD,ZB fun hh=>aq _ (UB hh ab) rfl,Kt _ _ _⟩
 obtain⟨R,T,a3,f⟩:=RV.int cI;obtain⟨U,V,a5,i⟩:=RV.int cK;obtain⟨z,a6,a7,ac,a8⟩:=cL;have cV:g7≠z:=ZO (UB aw ac);have cW:aK≠z:=ZO (UB ax ac);have a9:aL≠z:=ZO (UB ay ac);obtain⟨B,ba,ad,ae,bb⟩:=cM;have cX:g7≠B:=ZO (UB aw ae);have cY:aK≠B:=ZO (UB ax ae);have be:aL≠B:=ZO (UB ay ae);have aE:z≠B:=vk a8 bb rfl;obtain⟨cZ,rfl⟩:=mixK G (aC cH<|aC a3<|aC cJ<|aC a5<|aC a6<|aC ba aN);refine On (Us (cs':=(zzC (ofZ a.toZ) R T)) H a7 io40 ?_);intro c0 bf Y d;have ad:=ad.spo Y (UQ aE);refine On (Us (cs':=(zzC (ofZ b.toZ) U V)) bf ad io40 ?_);intro c1 af Z j;have f:=(f.sp Y).sp Z;have i:=(i.sp Y).sp Z;have k:=(k.spo Y a9).spo Z be;have d:=d.spo Z aE;refine Nl<|Rh<|Ol<|RI Zp rfl<|Ol<|RN d pl4 rfl rfl<|Ol<|RI Zp rfl<|Ol<|RN j pl4 rfl rfl<|Ol<|Sm<|Tu un4 rfl rfl rfl ⟨_,rfl,fun I=>?_,fun I=>?_⟩
 ·refine Nl<|Ud<|RZ<|Sg mixed 7 [[],[0],[],[2],[],[4],[3,5]] af [fx<|.pointer (some ⟨z,0,none⟩),fx<|.bool (ofZ a.toZ).neg,fx<|.pointer (some ⟨z,1,none⟩),fx<|.slice R (ofZ a.toZ).mag.length T,fx<|.pointer (some ⟨B,1,none⟩),fx<|.slice U (ofZ b.toZ).mag.length V,fs Jd<|Jx (max (ofZ a.toZ).mag.length (ofZ b.toZ).mag.length+1)<|val (ofZ a.toZ).mag+val (ofZ b.toZ).mag] (by kernel_rfl) ⟨sx,sx,sx,sx,sx,sx,ss,trivial⟩ fun bg D c3 ⟨m,J⟩ n=>?_
  have f:=f.sp J;have i:=i.sp J;have d:=d.spn J;have j:=j.spn J;have n:Keep [16,17,18,19,20,21,22] _ bg:=n;refine⟨⟨fun _=>?_,fun⟨bh,_⟩=>?_,fun _=>?_,fun⟨bi,_⟩=>?_,fun _=>?_,fun⟨bj,_⟩=>?_,fun⟨bk,bl,_⟩=>?_,trivial⟩,fun⟨bm,bn,bo,bp,bq,br,ag,_⟩=>?_⟩
  ·exact Sd0 n fun _=>RI Zp rfl ⟨D,RJ m,rfl⟩
  ·exact Sd1 n bh fun _=>RN d pl4 rfl rfl ⟨D,RJ m,rfl⟩
  ·exact Sd0 n fun _=>RI J4 rfl ⟨D,RJ m,rfl⟩
  ·exact Sd1 n bi fun _=>RN d pl38 rfl rfl ⟨D,RJ m,rfl⟩
  ·exact Sd0 n fun _=>RI J4 rfl ⟨D,RJ m,rfl⟩
  ·exact Sd1 n bj fun _=>RN j pl38 rfl rfl ⟨D,RJ m,rfl⟩
  ·refine Js n (aC bk<|aC bl aN) fun _=>R8 (RH m IC rfl rfl (CE m.bd f i (by omega) (by omega)) ?_);intro c4 c6 bs bt bu;exact⟨D,⟨bs,bt⟩,bu⟩
  obtain⟨c7,c8,bv,ag⟩:=TQ ag;obtain⟨c9,rfl⟩:=mixK n (aC bm<|aC bn<|aC bo<|aC bp<|aC bq<|aC br<|aC bv aN);refine Ol (RH m cb89 rfl rfl (Yt m.bd ag (by rw[Jg];omega)) ?_);intro da db bw bx bz;have k:=(k.spn J).spn bx;obtain⟨bA,bB,rfl,ah⟩:=RV.int bz;refine On (Us (cs':=(zzC (ofZ<|Jh (ofZ a.toZ).neg<|val<|Jx (max (ofZ a.toZ).mag.length (ofZ b.toZ).mag.length+1)<|val (ofZ a.toZ).mag+val (ofZ b.toZ).mag) bA bB)) bw k io40 ?_);intro dc aF bC bD;have ah:=ah.sp bC;refine Nl (RY<|J0 rfl (TL bD rfl ag40 rfl)<|RM ?_ aF.below);exact TM (a:=(ofZ<|Jh (ofZ a.toZ).neg<|val<|Jx (max (ofZ a.toZ).mag.length (ofZ b.toZ).mag.length+1)<|val (ofZ a.toZ).mag+val (ofZ b.toZ).mag)) ((Je ah).tr (Tr.weak aF.base))<|congrArg ofZ (by rw[Ze _ _<|iF (Zr _)<|Zr _,sJ (by simpa using I),Jl,Jl])
 refine Nl (Uc<|Rh<|Ol<|RI J4 rfl<|Ol<|RN d pl38 rfl rfl<|Ol<|RI J4 rfl<|Ol<|RN j pl38 rfl rfl<|Ol<|Sm<|RH af ES rfl rfl (nO af.bd f i (Vi _) (Vi _) (by omega) (by omega)) ?_);intro dd de aG A bE;have k:=k.spn A;refine⟨_,bE,fun aa=>?_,fun aa=>?_⟩
 ·refine Nl (Ud<|RZ ?_);have hlt:=of_decide_eq_true aa;have hll:=Yd (a:=(ofZ b.toZ).mag) (b:=(ofZ a.toZ).mag) (Vi _) (Zr _) (by omega);refine Sg mixed 7 [[],[0],[],[2],[],[4],[3,5]] aG [fx<|.pointer (some ⟨B,0,none⟩),fx<|.bool (ofZ b.toZ).neg,fx<|.pointer (some ⟨B,1,none⟩),fx<|.slice U (ofZ b.toZ).mag.length V,fx<|.pointer (some ⟨z,1,none⟩),fx<|.slice R (ofZ a.toZ).mag.length T,fs Jd<|Jx (ofZ b.toZ).mag.length<|val (ofZ b.toZ).mag-val (ofZ a.toZ).mag] (by kernel_rfl) ⟨sx,sx,sx,sx,sx,sx,ss,trivial⟩ fun bF E df ⟨p,K⟩ u=>?_
  have f:=(f.sp A).sp K;have i:=(i.sp A).sp K;have d:=(d.spn A).spn K;have j:=(j.spn A).spn K;have u:Keep [29,30,31,32,33,34,35] _ bF:=u;refine⟨⟨fun _=>?_,fun⟨bG,_⟩=>?_,fun _=>?_,fun⟨bH,_⟩=>?_,fun _=>?_,fun⟨bJ,_⟩=>?_,fun⟨bK,bL,_⟩=>?_,trivial⟩,fun⟨bM,bN,bO,bP,bQ,bR,ai,_⟩=>?_⟩
  ·exact Sd0 u fun _=>RI Zp rfl ⟨E,RJ p,rfl⟩
  ·exact Sd1 u bG fun _=>RN j pl4 rfl rfl ⟨E,RJ p,rfl⟩
  ·exact Sd0 u fun _=>RI J4 rfl ⟨E,RJ p,rfl⟩
  ·exact Sd1 u bH fun _=>RN j pl38 rfl rfl ⟨E,RJ p,rfl⟩
  ·exact Sd0 u fun _=>RI J4 rfl ⟨E,RJ p,rfl⟩
  ·exact Sd1 u bJ fun _=>RN d pl38 rfl rfl ⟨E,RJ p,rfl⟩
  ·refine Js u (aC bK<|aC bL aN) fun _=>R8 (RH p wm rfl rfl (iZ p.bd i f (by omega) hll (by omega)) ?_);intro dg dh bS bT bU;exact⟨E,⟨bS,bT⟩,bU⟩
  obtain⟨di,dj,bV,ai⟩:=TQ ai;obtain⟨dk,rfl⟩:=mixK u (aC bM<|aC bN<|aC bO<|aC bP<|aC bQ<|aC bR<|aC bV aN);refine Ol (RH p cb89 rfl rfl (Yt p.bd ai (by rw[Jg];omega)) ?_);intro dm dn bW bX bY;have k:=(k.spn K).spn bX;obtain⟨bZ,b0,rfl,aj⟩:=RV.int bY;refine On (Us (cs':=(zzC (ofZ<|Jh (ofZ b.toZ).neg<|val<|Jx (ofZ b.toZ).mag.length<|val (ofZ b.toZ).mag-val (ofZ a.toZ).mag) bZ b0)) bW k io40 ?_);intro dp aH b1 b2;have aj:=aj.sp b1;refine Nl (RY<|J0 rfl (TL b2 rfl ag40 rfl)<|RM ?_ aH.below);exact TM (a:=(ofZ<|Jh (ofZ b.toZ).neg<|val<|Jx (ofZ b.toZ).mag.length<|val (ofZ b.toZ).mag-val (ofZ a.toZ).mag)) ((Je aj).tr (Tr.weak aH.base))<|congrArg ofZ (by rw[Ze _ _<|U7 (ZU _ _)<|Zo _<|Zr _,Es (by simpa using I) (by omega),Jl,Jl])
 refine Nl (Uc<|RZ ?_);have hlt:=of_decide_eq_false aa;have hll:=Yd (a:=(ofZ a.toZ).mag) (b:=(ofZ b.toZ).mag) (Vi _) (Zr _) (by omega);refine Sg mixed 7 [[],[0],[],[2],[],[4],[3,5]] aG [fx<|.pointer (some ⟨z,0,none⟩),fx<|.bool (ofZ a.toZ).neg,fx<|.pointer (some ⟨z,1,none⟩),fx<|.slice R (ofZ a.toZ).mag.length T,fx<|.pointer (some ⟨B,1,none⟩),fx<|.slice U (ofZ b.toZ).mag.length V,fs Jd<|Jx (ofZ a.toZ).mag.length<|val (ofZ a.toZ).mag-val (ofZ b.toZ).mag] (by kernel_rfl) ⟨sx,sx,sx,sx,sx,sx,ss,trivial⟩ fun b3 F dq ⟨x,L⟩ y=>?_
 have f:=(f.sp A).sp L;have i:=(i.sp A).sp L;have d:=(d.spn A).spn L;have j:=(j.spn A).spn L;have y:Keep [37,38,39,40,41,42,43] _ b3:=y;refine⟨⟨fun _=>?_,fun⟨b4,_⟩=>?_,fun _=>?_,fun⟨b5,_⟩=>?_,fun _=>?_,fun⟨b6,_⟩=>?_,fun⟨b7,b8,_⟩=>?_,trivial⟩,fun⟨b9,ca,cb,cc,cd,ce,ak,_⟩=>?_⟩
 ·exact Sd0 y fun _=>RI Zp rfl ⟨F,RJ x,rfl⟩
 ·exact Sd1 y b4 fun _=>RN d pl4 rfl rfl ⟨F,RJ x,rfl⟩
 ·exact Sd0 y fun _=>RI J4 rfl ⟨F,RJ x,rfl⟩
 ·exact Sd1 y b5 fun _=>RN d pl38 rfl rfl ⟨F,RJ x,rfl⟩
 ·exact Sd0 y fun _=>RI J4 rfl ⟨F,RJ x,rfl⟩
 ·exact Sd1 y b6 fun _=>RN j pl38 rfl rfl ⟨F,RJ x,rfl⟩
 ·refine Js y (aC b7<|aC b8 aN) fun _=>R8 (RH x wm rfl rfl (iZ x.bd f i (by omega) hll (by omega)) ?_);intro ds dt cf cg ch;exact⟨F,⟨cf,cg⟩,ch⟩
 obtain⟨du,dv,ci,ak⟩:=TQ ak;obtain⟨dw,rfl⟩:=mixK y (aC b9<|aC ca<|aC cb<|aC cc<|aC cd<|aC ce<|aC ci aN);refine Ol (RH x cb89 rfl rfl (Yt x.bd ak (by rw[Jg];omega)) ?_);intro dx dy cj ck cl;have k:=(k.spn L).spn ck;obtain⟨cm,cn,rfl,al⟩:=RV.int cl;refine On (Us (cs':=(zzC (ofZ<|Jh (ofZ a.toZ).neg<|val<|Jx (ofZ a.toZ).mag.length<|val (ofZ a.toZ).mag-val (ofZ b.toZ).mag) cm cn)) cj k io40 ?_);intro dz aI co cp;have al:=al.sp co;refine Nl (RY<|J0 rfl (TL cp rfl ag40 rfl)<|RM ?_ aI.below);exact TM (a:=(ofZ<|Jh (ofZ a.toZ).neg<|val<|Jx (ofZ a.toZ).mag.length<|val (ofZ a.toZ).mag-val (ofZ b.toZ).mag)) ((Je al).tr (Tr.weak aI.base))<|congrArg ofZ (by rw[Ze _ _<|U7 (ZU _ _)<|Zo _<|Zr _,GN (by simpa using I) (by omega),Jl,Jl])
theorem PX{X:Nat→Prop}{w:World}(hX:XB X w){z:Value}{a:GInt}(A:RV Jo X w z a){B:Value}{b:GInt}(D:RV Jo X w B b)(hla:a.mag.length≤549755813888)(hlb:b.mag.length≤549755813888):CRt 197 #[z,B] w fun v w'=>RV Jo X w' v (ofZ (a.toZ-b.toZ)):=by
 obtain⟨u,x,rfl,i⟩:=RV.int A;obtain⟨y,c5,rfl,j⟩:=RV.int D;have C:=Cx.start hX;have sa:=A.int_small;have sb:=D.int_small;have hD:=Jv sb;refine Cgo Tryz.func197 rfl rfl rfl (Rg<|Ol<|R9 C rfl ?_);intro g7 w8 x9 ae ab E p f;refine Ol (R9 E rfl ?_);intro af ag ah ai ac F k l;have i:=(i.sp p).sp k;have j:=(j.sp p).sp k;have f:=f.spn k;refine Ol (RR F io40 rfl ?_);intro aj ak al am ad G h m;refine Nl<|RZ<|Sg mixed 3 [[],[],[1]] G [fx<|.agg #[(.bool a.neg),(.slice u a.mag.length x)],fx<|.agg #[(.bool b.neg),(.slice y b.mag.length c5)],fr Jo<|ofZ<|-b.toZ] (by kernel_rfl) ⟨sx,sx,sr,trivial⟩ fun H n an ⟨d,g⟩ e=>?_
 have i:=(i.sp h).sp g;have j:=(j.sp h).sp g;have f:=(f.spn h).spn g;have l:=(l.spn h).spn g;have e:Keep [5,6,7] _ H:=e;refine⟨⟨fun _=>?_,fun _=>?_,fun⟨I,_⟩=>?_,trivial⟩,fun⟨J,K,L,_⟩=>?_⟩
 ·exact Sd0 e fun _=>RX (vs:=(zzC a u x)) f ag40 rfl rfl rfl ⟨n,RJ d,rfl⟩
 ·exact Sd0 e fun _=>RX (vs:=(zzC b y c5)) l ag40 rfl rfl rfl ⟨n,RJ d,rfl⟩
 ·refine Sd1 e I fun _=>RH d Ik rfl rfl (I6 d.bd (a:=b) (Je j) (by omega)) ?_;intro ao aq M N P;exact⟨n,⟨M,N⟩,P⟩
 obtain⟨ar,au,Q,R⟩:=RV.int L;obtain⟨av,rfl⟩:=mixK e (aC J<|aC K<|aC Q aN);refine Ol (RH d cb67 rfl rfl (MA d.bd (a:=a) (Je i) (b:=(ofZ<|-b.toZ)) (Je R) (by omega) (by rw[Z5];omega)) ?_);intro aw ax T U r;have m:=(m.spn g).spn U;simp only[Jl,Zq] at r;obtain⟨V,Y,rfl,o⟩:=RV.int r;refine On (Us (cs':=(zzC (ofZ<|a.toZ+(-b.toZ)) V Y)) T m io40 ?_);intro ay s Z aa;have o:=o.sp Z;refine Nl (RY<|J0 rfl (TL aa rfl ag40 rfl)<|RM ?_ s.below);exact TM (a:=(ofZ<|a.toZ+(-b.toZ))) ((Je o).tr (Tr.weak s.base))<|(by rw[Int.sub_eq_add_neg])
set_option maxHeartbeats 8000000 in
theorem u7{X:Nat→Prop}{w:World}(hX:XB X w){v0:Value}{a:GInt}(r0:RV Jo X w v0 a){v1:Value}{b:GInt}(r1:RV Jo X w v1 b)(hla:a.mag.length≤549755813888)(hlb:b.mag.length≤549755813888):CRt 68 #[v0,v1] w fun v w'=>RV Jo X w' v (ofZ (a.toZ*b.toZ)):=by
 obtain⟨a1,c2,rfl,p⟩:=RV.int r0;obtain⟨a4,c5,rfl,r⟩:=RV.int r1;have C:=Cx.start hX;have sa:=r0.int_small;have sb:=r1.int_small;refine Cgo Tryz.func68 rfl rfl rfl (Rg<|Ol<|R9 C rfl ?_);intro g7 w8 x9 di cM ci a5 s;refine Ol (R9 ci rfl ?_);intro ab dj dk dm cN cj aq G;have p:=(p.sp a5).sp aq;have r:=(r.sp a5).sp aq;have s:=s.spn aq;refine Ol (RR cj io40 rfl ?_);intro aj dn dp dq cO ck ak Q;refine Nl<|RZ<|Sg mixed 5 [[],[0],[1],[],[3]] ck [fx<|.pointer (some ⟨g7,1,none⟩),fx<|.slice a1 a.mag.length c2,fs Jd<|trim a.mag,fx<|.pointer (some ⟨ab,1,none⟩),fx<|.slice a4 b.mag.length c5] (by kernel_rfl) ⟨sx,sx,ss,sx,sx,trivial⟩ fun cl ac ds ⟨K,ad⟩ M=>?_
 have p:=(p.sp ak).sp ad;have r:=(r.sp ak).sp ad;have s:=(s.spn ak).spn ad;have G:=(G.spn ak).spn ad;have M:Keep [12,13,14,15,16] _ cl:=M;refine⟨⟨fun _=>?_,fun⟨cm,_⟩=>?_,fun⟨cn,_⟩=>?_,fun _=>?_,fun⟨co,_⟩=>?_,trivial⟩,fun⟨cp,cq,l,cr,ct,_⟩=>?_⟩
 ·exact Sd0 M fun _=>RI J4 rfl ⟨ac,RJ K,rfl⟩
 ·exact Sd1 M cm fun _=>RN s pl38 rfl rfl ⟨ac,RJ K,rfl⟩
 ·refine Sd1 M cn fun _=>RH K cb88 rfl rfl (ye K.bd p (by omega)) ?_;intro dt du cu cw cx;exact⟨ac,⟨cu,cw⟩,cx⟩
 ·exact Sd0 M fun _=>RI J4 rfl ⟨ac,RJ K,rfl⟩
 ·exact Sd1 M co fun _=>RN G pl38 rfl rfl ⟨ac,RJ K,rfl⟩
 obtain⟨R,T,cy,l⟩:=TQ l;obtain⟨dv,rfl⟩:=mixK M (aC cp<|aC cq<|aC cy<|aC cr<|aC ct aN);refine Ol (RH K cb88 rfl rfl (ye K.bd r (by omega)) ?_);intro dw dx cz U m;have s:=s.spn U;have G:=G.spn U;have Q:=(Q.spn ad).spn U;obtain⟨ae,af,rfl,_,_⟩:=m.len;refine Oa (Ua<|RZ ?_);have tsa:=J5 sa;have tsb:=J5 sb;have tva:=Z1 a.mag;have tvb:=Z1 b.mag;have tla:=Jr a.mag;have tlb:=Jr b.mag;generalize trim a.mag=A at *;generalize trim b.mag=B at *;refine RK (Ub<|St.len sl38 rfl<|Ub<|St.len sl38 rfl<|Ol<|St.add rfl rfl (Jc (a:=A.length) (b:=B.length) (by omega))<|Ol<|So (n:=(A.length+B.length)) cz sl38 rfl rfl rfl (by omega) io96 (by decide) ?_);intro V dy dz dB ag cB N cC;have ar:=ag _ s.blk.lt;have au:=ag _ G.blk.lt;have av:=ag _ Q.blk.lt;have p:=(p.sp U).sp N;have r:=(r.sp U).sp N;have l:=(l.sp U).sp N;have m:=m.sp N;have s:=s.spn N;have G:=G.spn N;have Q:=Q.spn N;refine Oa (Nl<|Rh<|Ua<|W.block<|Sc (fun μ f v=>∃(x y:Nat→Prop) (i:Nat) (L:List Nat),Cx X w x y v∧f 2=(.pointer (some ⟨g7,0,none⟩))∧f 3=(.pointer (some ⟨ab,0,none⟩))∧f 4=(.pointer (some ⟨aj,0,none⟩))∧f 5=(.slice R A.length T)∧f 6=(.slice ae B.length af)∧f 7=(.slice (some ⟨V,0,none⟩) (A.length+B.length) (A.length+B.length))∧f 8=(.int .i64 ((i:Nat):Int))∧RS Jd x v (.slice a1 a.mag.length c2) a.mag∧RS Jd x v (.slice a4 b.mag.length c5) b.mag∧RS Jd x v (.slice R A.length T) A∧RS Jd x v (.slice ae B.length af) B∧Own w y v g7 (zzC a a1 c2) 40∧Own w y v ab (zzC b a4 c5) 40∧Own w y v aj [(.bool false),(.slice none 0 0)] 40∧Own w y v V (L.map u32v) 96∧i≤A.length∧L.length=A.length+B.length∧Jp L∧(∀k,L.getD (i+B.length+k) 0=0∨L.length≤i+B.length+k)∧val L=val (A.take i)*val B∧μ=(A.length-i)) _ ⟨_,_,0,(List.replicate (A.length+B.length) 0),cB,rfl,rfl,rfl,rfl,rfl,rfl,rfl,p,r,l,m,s,G,Q,cC,(UN _),(UE ..),(Ka _),(fun k=> .inl (by simp[UJ,W0];split<;>rfl)),(by rw[ii];simp[val]),rfl⟩ ?_);rintro cP dC dD ⟨cD,dE,i,L,a6,a7,a8,a9,ba,bb,be,bf,p,r,l,m,Y,Z,aa,ah,hi,hL,hs,hz,hv,cE⟩;obtain⟨cQ,rfl⟩:=rebK (aC a7<|aC a8<|aC a9<|aC ba<|aC bb<|aC be<|aC bf aN);clear a7 a8 a9 ba bb be bf;refine Rh<|Om<|Ub<|St.len sl38 rfl<|Ol<|Sb rfl rfl (fun aV=>?_)<|fun aV=>?_
 ·refine Nl (Ud<|RT<|RZ<|W.block<|Rg<|Ua<|Rh<|Ua<|W.block<|Sc (fun μ f v=>∃(x y:Nat→Prop) (j:Nat) (o:List Nat) (c:Nat),Cx X w x y v∧f 2=(.pointer (some ⟨g7,0,none⟩))∧f 3=(.pointer (some ⟨ab,0,none⟩))∧f 4=(.pointer (some ⟨aj,0,none⟩))∧f 5=(.slice R A.length T)∧f 6=(.slice ae B.length af)∧f 7=(.slice (some ⟨V,0,none⟩) (A.length+B.length) (A.length+B.length))∧f 8=(.int .i64 ((i:Nat):Int))∧f 24=(.int .i64 ((i:Nat):Int))∧f 25=(.slice R A.length T)∧f 26=(.int .i64 ((A.length:Nat):Int))∧f 27=(.bool true)∧f 10=(.int .i64 ((j:Nat):Int))∧f 9=(.int .u64 ((c:Nat):Int))∧RS Jd x v (.slice a1 a.mag.length c2) a.mag∧RS Jd x v (.slice a4 b.mag.length c5) b.mag∧RS Jd x v (.slice R A.length T) A∧RS Jd x v (.slice ae B.length af) B∧Own w y v g7 (zzC a a1 c2) 40∧Own w y v ab (zzC b a4 c5) 40∧Own w y v aj [(.bool false),(.slice none 0 0)] 40∧Own w y v V (o.map u32v) 96∧j≤B.length∧o.length=A.length+B.length∧Jp o∧c<4294967296∧(∀k,o.getD (i+B.length+k) 0=0∨o.length≤i+B.length+k)∧val o+4294967296^(i+j)*c=val (A.take i)*val B+4294967296^i*(A.getD i 0*val (B.take j))∧μ=(B.length-j)) _ ⟨_,_,0,L,0,a6,rfl,rfl,rfl,rfl,rfl,rfl,rfl,rfl,rfl,rfl,rfl,rfl,rfl,p,r,l,m,Y,Z,aa,ah,(UN _),hL,hs,(by omega),hz,(by rw[hv];simp[val]),rfl⟩ ?_);rintro cR cS cT ⟨cU,cV,j,o,c,aw,ax,ay,az,aA,aB,aD,aE,aF,aG,aH,aI,aJ,aK,p,r,l,m,H,I,J,P,hj,bg,aL,hc,aM,bh,cF⟩;obtain⟨cW,rfl⟩:=rebK (aC ax<|aC ay<|aC az<|aC aA<|aC aB<|aC aD<|aC aE<|aC aF<|aC aG<|aC aH<|aC aI<|aC aJ<|aC aK aN);clear ax ay az aA aB aD aE aF aG aH aI aJ aK;have hxi:=Jf tsa i;have hyj:=Jf tsb j;have hm:=uQ hxi hyj;have dG:=Jf aL (i+j);refine Rh<|Om<|Ub<|St.len sl38 rfl<|Ol<|Sb rfl rfl (fun aW=>?_)<|fun aW=>?_
  ·refine Nl<|Ud<|RT<|RZ<|W.block<|RZ<|Sg mixed 20 [[],[],[0,1],[2],[3],[],[],[5,6],[7],[8],[4,9],[],[],[],[12,13],[11,14],[15],[16],[10,17],[]] aw [fx<|.slice R A.length T,fx<|.int .i64 ((i:Nat):Int),fE Jd<|A.getD i 0,fx<|.int .u32 (((A.getD i 0):Nat):Int),fx<|.int .u64 (((A.getD i 0):Nat):Int),fx<|.slice ae B.length af,fx<|.int .i64 ((j:Nat):Int),fE Jd<|B.getD j 0,fx<|.int .u32 (((B.getD j 0):Nat):Int),fx<|.int .u64 (((B.getD j 0):Nat):Int),fx<|.int .u64 (((A.getD i 0)*(B.getD j 0):Nat):Int),fx<|.slice (some ⟨V,0,none⟩) (A.length+B.length) (A.length+B.length),fx<|.int .i64 ((i:Nat):Int),fx<|.int .i64 ((j:Nat):Int),fx<|.int .i64 ((i+j:Nat):Int),fx<|.pointer (some ⟨V,i+j,none⟩),fx<|.int .u32 (((o.getD (i+j) 0):Nat):Int),fx<|.int .u64 (((o.getD (i+j) 0):Nat):Int),fx<|.int .u64 ((((A.getD i 0)*(B.getD j 0))+(o.getD (i+j) 0):Nat):Int),fx<|.int .u64 ((c:Nat):Int)] (by kernel_rfl) ⟨sx,sx,sE,sx,sx,sx,sx,sE,sx,sx,sx,sx,sx,sx,sx,sx,sx,sx,sx,sx,trivial⟩ fun bi h cX ⟨g,D⟩ e=>?_
   have l:=l.sp D;have m:=m.sp D;have P:=P.spn D;have e:Keep [36,37,38,39,40,41,42,43,44,45,46,47,48,49,50,51,52,53,54,55] _ bi:=e;refine⟨⟨fun _=>?_,fun _=>?_,fun⟨bj,bk,_⟩=>?_,fun⟨bl,_⟩=>?_,fun⟨bm,_⟩=>?_,fun _=>?_,fun _=>?_,fun⟨bn,bo,_⟩=>?_,fun⟨bp,_⟩=>?_,fun⟨bq,_⟩=>?_,fun⟨br,bs,_⟩=>?_,fun _=>?_,fun _=>?_,fun _=>?_,fun⟨bt,bu,_⟩=>?_,fun⟨bv,bw,_⟩=>?_,fun⟨bx,_⟩=>?_,fun⟨bz,_⟩=>?_,fun⟨bA,bB,_⟩=>?_,fun _=>?_,trivial⟩,fun⟨bC,bD,bE,bF,bG,bH,bJ,bK,bL,bM,bN,bO,bP,bQ,bR,bS,bT,bU,bV,bW,_⟩=>?_⟩
   ·exact Sd0 e fun _=>RP ⟨h,RJ g,rfl⟩
   ·exact Sd0 e fun _=>RP ⟨h,RJ g,rfl⟩
   ·refine Js e (aC bj<|aC bk aN) fun _=>R8 (Sd (j:=i) (u:=(A.getD i 0)) l sl38 io96 rfl rfl rfl (Ji (by omega)) ?_);intro cY cZ aX aO;obtain⟨rfl,cG⟩:aX=_∧_:=aO.rd;exact⟨h,RJ g,⟨_,_,_,rfl,aO⟩⟩
   ·obtain⟨c0,c1,aY,bX,aP⟩:=bl;obtain⟨rfl,cH⟩:aY=_∧_:=aP.rd;exact Sd1 e bX fun _=>Sa pl96 rfl (aP.cell 0 _ rfl) ⟨h,RJ g,rfl⟩
   ·exact Sd1 e bm fun _=>R2 (z:=(((A.getD i 0):Nat):Int)) us96 un97 rfl (UO _ (by omega)) ⟨h,RJ g,rfl⟩
   ·exact Sd0 e fun _=>RP ⟨h,RJ g,rfl⟩
   ·exact Sd0 e fun _=>RP ⟨h,RJ g,rfl⟩
   ·refine Js e (aC bn<|aC bo aN) fun _=>R8 (Sd (j:=j) (u:=(B.getD j 0)) m sl38 io96 rfl rfl rfl (Ji (by omega)) ?_);intro c3 c4 aZ aQ;obtain⟨rfl,cI⟩:aZ=_∧_:=aQ.rd;exact⟨h,RJ g,⟨_,_,_,rfl,aQ⟩⟩
   ·obtain⟨c6,c7,a0,bY,aR⟩:=bp;obtain⟨rfl,cJ⟩:a0=_∧_:=aR.rd;exact Sd1 e bY fun _=>Sa pl96 rfl (aR.cell 0 _ rfl) ⟨h,RJ g,rfl⟩
   ·exact Sd1 e bq fun _=>R2 (z:=(((B.getD j 0):Nat):Int)) us96 un97 rfl (UO _ (by omega)) ⟨h,RJ g,rfl⟩
   ·exact Js e (aC br<|aC bs aN) fun _=>R8<|SO rfl rfl (Xc (a:=(A.getD i 0)) (b:=(B.getD j 0)) (by omega)) ⟨h,RJ g,rfl⟩
   ·exact Sd0 e fun _=>RP ⟨h,RJ g,rfl⟩
   ·exact Sd0 e fun _=>RP ⟨h,RJ g,rfl⟩
   ·exact Sd0 e fun _=>RP ⟨h,RJ g,rfl⟩
   ·exact Js e (aC bt<|aC bu aN) fun _=>R8<|St.add rfl rfl (Jc (a:=i) (b:=j) (by omega)) ⟨h,RJ g,rfl⟩
   ·exact Js e (aC bv<|aC bw aN) fun _=>R8<|Sh (j:=i+j) sl38 io96 rfl rfl rfl (by omega) ⟨h,RJ g,rfl⟩
   ·exact Sd1 e bx fun _=>SH (j:=i+j) (u:=(o.getD (i+j) 0)) P pl96 rfl (Ji (by omega)) ⟨h,RJ g,rfl⟩
   ·exact Sd1 e bz fun _=>R2 (z:=(((o.getD (i+j) 0):Nat):Int)) us96 un97 rfl (UO _ (by omega)) ⟨h,RJ g,rfl⟩
   ·exact Js e (aC bA<|aC bB aN) fun _=>R8<|St.add rfl rfl (J6 (a:=(A.getD i 0)*(B.getD j 0)) (b:=(o.getD (i+j) 0)) (by omega)) ⟨h,RJ g,rfl⟩
   ·exact Sd0 e fun _=>RP ⟨h,RJ g,rfl⟩
   obtain⟨c8,c9,a2,bZ,b0⟩:=bE;obtain⟨rfl,cK⟩:a2=_∧_:=b0.rd;obtain⟨da,db,a3,b1,b2⟩:=bK;obtain⟨rfl,cL⟩:a3=_∧_:=b2.rd;obtain⟨dc,rfl⟩:=mixK e (aC bC<|aC bD<|aC bZ<|aC bF<|aC bG<|aC bH<|aC bJ<|aC b1<|aC bL<|aC bM<|aC bN<|aC bO<|aC bP<|aC bQ<|aC bR<|aC bS<|aC bT<|aC bU<|aC bV<|aC bW aN);refine Ol (St.add rfl rfl (J6 (a:=((A.getD i 0)*(B.getD j 0))+(o.getD (i+j) 0)) (b:=c) (by omega))<|Ua<|Rg<|Om<|Om<|Ub<|St.add rfl rfl (Jc (a:=i) (b:=j) (by omega))<|Ub<|R2 (z:=((((((A.getD i 0)*(B.getD j 0))+(o.getD (i+j) 0))+c)%4294967296:Nat):Int)) us97 un96 rfl (Jm _) ?_);refine Ol (Sh (j:=i+j) sl38 io96 rfl rfl rfl (by omega)<|On<|Se (j:=i+j) (u:=((((A.getD i 0)*(B.getD j 0))+(o.getD (i+j) 0))+c)%4294967296) g P io96 rfl rfl (by omega) ?_);intro dd b3 E b4;have p:=(p.sp D).sp E;have r:=(r.sp D).sp E;have l:=l.sp E;have m:=m.sp E;have H:=(H.spn D).spo E ar;have I:=(I.spn D).spo E au;have J:=(J.spn D).spo E av;refine Nl<|RK<|Ub<|SC rfl rfl (by decide) (Ym (d:=4294967296) _ (by decide))<|Ua<|RK<|Ub<|St.add rfl rfl (Jc (a:=j) (b:=1) (by omega))<|Ua<|⟨_,(by omega),_,_,(j+1),(o.set (i+j)<|((((A.getD i 0)*(B.getD j 0))+(o.getD (i+j) 0))+c)%4294967296),((((A.getD i 0)*(B.getD j 0))+(o.getD (i+j) 0))+c)/4294967296,b3,rfl,rfl,rfl,rfl,rfl,rfl,rfl,rfl,rfl,rfl,rfl,rfl,rfl,p,r,l,m,H,I,J,b4,(by omega),(by rw[W7];exact bg),(Qr aL (UI _ (by omega)) _),(by omega),(oW (by omega) aM),(vo (by omega) bh<|Jn B j),rfl⟩
  refine Nl (Ue<|Sf<|RK<|Om<|Om<|Ub<|St.len sl38 rfl<|Ol<|St.add rfl rfl (Jc (a:=i) (b:=B.length) (by omega))<|Ub<|R2 (z:=((c:Nat):Int)) us97 un96 rfl (IntWalk.u32_in _ (by omega))<|Ol<|Sh (j:=i+B.length) sl38 io96 rfl rfl rfl (by omega) ?_);refine On (Se (j:=i+B.length) (u:=c) aw P io96 rfl rfl (by omega) ?_);intro de b5 F b6;have p:=p.sp F;have r:=r.sp F;have l:=l.sp F;have m:=m.sp F;have H:=H.spo F ar;have I:=I.spo F au;have J:=J.spo F av;refine Nl<|RK<|Ub<|St.add rfl rfl (Jc (a:=i) (b:=1) (by omega))<|Ua<|⟨_,(by omega),_,_,(i+1),(o.set (i+B.length) c),b5,rfl,rfl,rfl,rfl,rfl,rfl,rfl,p,r,l,m,H,I,J,b6,(by omega),(by rw[W7];exact bg),(Qr aL (by omega) _),(sw aM),(by rw[Jn];exact lf (by omega) (n7 aM (by omega)) (by rw[show i+B.length=i+j by omega,bh,UU (show B.length≤j by omega)])),rfl⟩
 refine Nl (Ue<|Sf<|RZ ?_);have aS:=ah.frRS (x:=cD) (n:=(A.length+B.length)) (c:=(A.length+B.length)) (by omega) (UM _) (by omega) hs;rw[UU (by omega)] at aS;have aT:=a6.freeze hX ah id;replace Y:=Y.frz ar;replace Z:=Z.frz au;refine RK (Ol<|RI Zp rfl<|Ol<|RN Y pl4 rfl rfl<|Ol<|RI Zp rfl<|Ol<|RN Z pl4 rfl rfl<|Ol<|SQ un4 rfl rfl rfl<|Ub<|RH aT cb89 rfl rfl (Yt aT.bd aS (by omega)) ?_);intro df dg b7 b8 b9;replace aa:=(aa.frz av).spn b8;obtain⟨ca,cb,rfl,ai⟩:=RV.int b9;refine On (Us (cs':=(zzC (ofZ<|Jh (a.neg != b.neg)<|val L) ca cb)) b7 aa io40 ?_);intro dh aU cc cd;have ai:=ai.sp cc;refine Nl (RY<|J0 rfl (TL cd rfl ag40 rfl)<|RM ?_ aU.below);exact TM (a:=(ofZ<|Jh (a.neg != b.neg)<|val L)) ((Je ai).tr (Tr.weak aU.base))<|congrArg ofZ (by rw[hv,UU (show A.length≤i by omega),tva,tvb];exact lU a b)
end Go.Wf
namespace Go.Wf
open Go
theorem kP{x:Nat}(h:0<x):blen x=blen (x/2)+1:=by
 rcases YV (x/2) with e|e
 ·have:x=1:=by omega
  subst this;rfl
 ·refine ki h ?_ ?_
  ·have:=Qk (x/2)
   rw[UV];omega
  ·have:=kz e
   have hp:=ju e;rw[UV];have a:2^blen (x/2)=2^(blen (x/2)-1)*2:=by rw[←UV];congr 1;omega
   omega
theorem pe{d:List Nat}(hd:trim d=d)(sd:Jp d)(hne:d.length≠0):blen (val d)=32*(d.length-1)+blen (d.getD (d.length-1) 0):=by
 have hne':d≠[]:=fun e=>hne (by rw[e];rfl);have ht:=nQ hd sd hne';have a:=Jn d (d.length-1);rw[show d.length-1+1=d.length by omega,YC] at a;have b:=X7 (k:=d.length-1) sd (by omega);have hb:=Qk (d.getD (d.length-1) 0);have hg:=kz ht;have hp:=ju ht;generalize d.getD (d.length-1) 0=t at *;generalize val (d.take (d.length-1))=l at *;have e:(4294967296:Nat)^(d.length-1)=2^(32*(d.length-1)):=by rw[ZR]
 rw[e] at b a;rw[a];have hP:=Jaa (32*(d.length-1));generalize 32*(d.length-1)=k at *;refine ki ?_ ?_ ?_
 ·have:=ZM hP ht;omega
 ·rw[ZQ]
  have:=U4 (2^k) (show t+1≤2^blen t by omega)
  rw[UX] at this;omega
 ·rw[ZQ];have f:2^blen t=2^(blen t-1)*2:=by rw[←UV];congr 1;omega
  have:=U4 (2^k) hg
  rw[f,←U3];omega
theorem DE{m:List Nat}{j:Nat}(sm:Jp m)(hl:m.length≤2)(hj:0<j):val (m.drop j)<4294967296:=by
 have h:=Zo (m.drop j) (zi sm j);rw[UG] at h
 have:4294967296^(m.length-j)≤4294967296^1:=U1 (by omega) (by omega)
 omega
theorem zW{n:Nat}(h:n<18446744073709551616):trim [n%4294967296,n/4294967296%4294967296]=digs n:=by
 refine zh (Zs (UI _ (by decide)) (Zs (UI _ (by decide)) J9)) ?_;simp only[val]
 have:n/4294967296<4294967296:=by omega
 rw[ZG this];omega
theorem p5{a p:List Nat}{i c n x:Nat}(hp:p.length=n/32+i)(hv:val p+4294967296^p.length*c=val (a.take i)*2^n)(hx:x=a.getD i 0*2^(n%32)+c):
  val (p++[x%4294967296])+4294967296^(p++[x%4294967296]).length*(x/4294967296)=val (a.take (i+1))*2^n:=by
 rw[Z3,Uv,Uy,Jn,UV,U3,YD,←UX,Nat.mod_add_div,hx,UX,YE,←hv];have e:4294967296^p.length*(a.getD i 0*2^(n%32))=4294967296^i*a.getD i 0*2^n:=by
  rw[hp];have b:(4294967296:Nat)^(n/32+i)=2^(32*(n/32))*4294967296^i:=by rw[ZQ,ZR]
  have d:(2:Nat)^n=2^(32*(n/32))*2^(n%32):=by rw[←ZQ];congr 1;omega
  rw[b,d];generalize (2:Nat)^(32*(n/32))=u;generalize (4294967296:Nat)^i=v;generalize (2:Nat)^(n%32)=z;generalize a.getD i 0=t;rw[U3,U3,ZJ t,ZJ u]
 rw[e];omega
theorem uX{a p:List Nat}{i c n:Nat}(sp:Jp p)(hi:a.length≤i)(hc:c<4294967296)(hv:val p+4294967296^p.length*c=val (a.take i)*2^n):trim (p++[c%4294967296])=digs (val a*2^n):=by
 rw[ZG hc];rw[UU hi] at hv;exact zh (Jz sp hc) (by rw[Z3,hv])
theorem uj{x s c:Nat}(hx:x<4294967296)(hs:s<32)(hc:c<4294967296):x*2^s+c<18446744073709551616∧(x*2^s+c)/4294967296<4294967296:=by
 have h:=V5 hs;have a:x*2^s≤4294967295*2147483648:=ZH (by omega) h;omega
end Go.Wf
namespace Go.Wf
open Go Go.Proofs Go.RowKit
theorem ou{X:Nat→Prop}{w:World}(hX:XB X w){E:Value}{a:GInt}(F:RV Jo X w E a)(hl:a.mag.length≤1073741824):CRt 237 #[E] w fun v w'=>v=(.int .i64 (((blen (val a.mag)):Nat):Int)):=by
 obtain⟨s,z,rfl,e⟩:=RV.int F;have C:=Cx.start hX;have sa:=F.int_small;refine Cgo Tryz.func237 rfl rfl rfl (Rg<|Ol<|R9 C rfl ?_);intro L w5 x6 y7 P G H g;have e:=e.sp H;refine Oa (Nl<|Rg<|Ol<|RI J4 rfl<|Ol<|RN g pl38 rfl rfl<|Ol<|RH G cb88 rfl rfl (ye G.bd e (by omega)) ?_);intro Q R h i l;have e:=e.sp i;have g:=g.spn i;obtain⟨T,U,rfl,_,_⟩:=l.len;refine Oa (Nl<|RZ<|RZ ?_);have hds:=J5 sa;have hdt:=Ks sa;have hdv:=Z1 a.mag;have hdl:=Jr a.mag;generalize trim a.mag=d at *;refine RK<|Ub<|St.len sl38 rfl<|Ol<|Sj rfl rfl (fun A=>?_)<|fun A=>?_
 ·exact Nl<|Uf<|Ua<|RY<|Wq rfl rfl h<|congrArg (Value.int _)<|(by rw[←hdv,UT (show d.length=0 by omega)];rfl)
 refine Nl (Uc<|Rg<|Ub<|St.len sl38 rfl<|Ol<|St.sub rfl rfl (Zy (a:=d.length) (b:=1) (by omega) (by omega))<|Ol<|SO rfl rfl (nk (a:=32) (b:=d.length-1) (by omega))<|Ua<|RZ<|RZ ?_);have hbT:blen (val d)≤34359738400:=by have I:=pe hdt hds (by omega);have M:=ie (Jf hds<|d.length-1);omega
 refine RK (Om<|Ub<|St.len sl38 rfl<|Ol<|St.sub rfl rfl (Zy (a:=d.length) (b:=1) (by omega) (by omega))<|Ol<|Sd (j:=(d.length-1)) (u:=(d.getD (d.length-1) 0)) l sl38 io96 rfl rfl rfl (Ji (by omega)) ?_);intro V Y B m;obtain⟨rfl,N⟩:B=_∧_:=m.rd;refine Ol (Sa pl96 rfl (m.cell 0 _ rfl)<|Ua<|W.block<|Sc (fun μ f v=>∃(x y:Nat→Prop) (xx:Nat) (k:Nat),Cx X w x y v∧f 2=(.int .i64 0)∧f 5=(.int .u32 ((xx:Nat):Int))∧f 4=(.int .i64 ((k:Nat):Int))∧RS Jd x v (.slice s a.mag.length z) a.mag∧Own w y v L (zzC a s z) 40∧xx<4294967296∧k+blen xx=blen (val d)∧k≤35184372088832*2∧μ=xx) _ ⟨_,_,(d.getD (d.length-1) 0),(32*(d.length-1)),h,rfl,rfl,rfl,e,g,(Jf hds _),(pe hdt hds (by omega)).symm,(by omega),rfl⟩ ?_);rintro Z aa ab ⟨ac,ad,xx,k,n,o,p,r,e,J,hx,hk,hkb,K⟩;obtain⟨ae,rfl⟩:=rebK (aC o<|aC p<|aC r aN);clear o p r;have hbl:blen xx≤32:=ie hx;refine Rh<|Ub<|Sx rfl rfl (fun D=>?_)<|fun D=>?_
 ·refine Nl<|Ud<|RT<|RZ<|W.block<|RK<|Ub<|St.add rfl rfl (Jc (a:=k) (b:=1) (by omega))<|Ua<|RK<|Ub<|SF rfl rfl (by decide) (mS (a:=xx) (b:=2) (by omega))<|Ua<|⟨_,(by omega),_,_,xx/2,k+1,n,rfl,rfl,rfl,e,J,(by omega),(by have I:=kP (x:=xx) (by omega);omega),(by have I:=kP (x:=xx) (by omega);have M:=hbT;omega),rfl⟩
 exact Nl<|Ue<|Sf<|Rg<|Om<|Ua<|RY<|Wq rfl rfl n<|congrArg (Value.int _)<|(by rw[←hdv,←hk,show xx=0 by omega];rfl)
theorem vt{X:Nat→Prop}{w:World}(hX:XB X w){p:Value}{m:List Nat}(e:RS Jd X w p m)(hm:m.length≤2):CRt 155 #[p] w fun v w'=>v=(.int .u64 (((val m):Nat):Int)):=by
 obtain⟨k,l,rfl,_,_⟩:=e.len;have C:=Cx.start hX;have sm:=e.u32_small;refine Cgo Tryz.func155 rfl rfl rfl (Rg<|Ua<|Rg<|Ua<|Rh<|Ub<|St.len sl38 rfl<|Ol<|St.sub (z:=(((m.length:Nat):Int)-1)) rfl rfl (UP _ (by omega))<|Oa ?_);refine Nl (W.block<|Sc (fun μ f v=>∃(x y:Nat→Prop) (j:Nat),Cx X w x y v∧f 0=(.slice k m.length l)∧f 2=(.int .u64 0)∧f 4=(.int .i64 ((j:Int)-1))∧f 3=(.int .u64 ((val (m.drop j):Nat):Int))∧RS Jd x v (.slice k m.length l) m∧j≤m.length∧μ=j) _ ⟨_,_,m.length,C,rfl,rfl,rfl,(by rw[UY<|UM _];rfl),e,(UM _),rfl⟩ ?_);rintro E I J ⟨K,L,j,r,s,A,g,h,e,hj,B⟩;obtain⟨F,rfl⟩:=rebK (aC s<|aC A<|aC g<|aC h aN);clear s A g h;refine Rh<|Ub<|SB rfl rfl (fun n=>?_)<|fun n=>?_
 ·refine Nl (Ud<|RT<|RZ<|W.block ?_);have hwb:=DE (j:=j) sm hm (by omega);have hdj:=Jf sm (j-1);refine RK (Ub<|SP rfl rfl (by decide) (ja (a:=val<|m.drop j) (d:=4294967296) (by decide) (by omega))<|Om<|Ub<|Sd (j:=(j-1)) (u:=(m.getD (j-1) 0)) e sl38 io96 rfl rfl (by omega) (Ji (by omega)) ?_);intro G H o i;obtain⟨rfl,D⟩:o=_∧_:=i.rd;refine Ol (Sa pl96 rfl (i.cell 0 _ rfl)<|Ol<|R2 (z:=(((m.getD (j-1) 0):Nat):Int)) us96 un97 rfl (UO _ (by omega))<|Ol<|St.add rfl rfl (J6 (a:=(val<|m.drop j)*4294967296) (b:=(m.getD (j-1) 0)) (by omega))<|Ua<|RK<|Ub<|St.sub (z:=(((j:Int)-1)-1)) rfl rfl (UP _ (by omega)) ?_);refine Ua<|⟨_,(by omega),_,_,(j-1),r,rfl,rfl,(congrArg (Value.int .i64) (by omega)),(congrArg (Value.int .u64) (by rw[Vc (by omega) hj];omega)),e,(by omega),rfl⟩
 exact Nl<|Ue<|Sf<|Rg<|Om<|Ua<|RY<|Wq rfl rfl r<|congrArg (Value.int _)<|(by rw[show j=0 by omega,WN])
theorem mH{X:Nat→Prop}{w:World}(hX:XB X w){n:Nat}(hn:n<18446744073709551616):CRt 156 #[(.int .u64 ((n:Nat):Int))] w fun v w'=>RS Jd X w' v (digs n):=by
 have C:=Cx.start hX;refine Cgo Tryz.func156 rfl rfl rfl (Rg<|Ua<|Rg<|Ub<|R2 (z:=((n%4294967296:Nat):Int)) us97 un96 rfl (Jm _)<|Ub<|SC rfl rfl (by decide) (Ym (d:=4294967296) _ (by decide))<|Ol<|R2 (z:=(((n/4294967296)%4294967296:Nat):Int)) us97 un96 rfl (Jm _) ?_);refine Ol (Sl (T:=Jd) (css:=[[(.int .u32 ((n%4294967296:Nat):Int))],[(.int .u32 (((n/4294967296)%4294967296:Nat):Int))]]) (l:=[n%4294967296,(n/4294967296)%4294967296]) C sl38 io96 (by decide) (by decide) rfl (by kernel_rfl) ⟨⟨rfl,(UI _ (by decide))⟩,⟨rfl,(UI _ (by decide))⟩,trivial⟩ ?_);intro j k e m f;refine Ol (RH e cb88 rfl rfl (ye e.bd f (by simp)) ?_);intro o p a g b;obtain⟨h,i,rfl,_,_⟩:=b.len;exact Ua<|RY<|Wq rfl rfl a<|TP ((b:RS _ _ _ _ _).tr (Tr.weak a.base))<|(zW hn)
theorem kT{X:Nat→Prop}{w:World}(hX:XB X w){R:Value}{a:List Nat}(e:RS Jd X w R a){n:Nat}(hla:a.length≤1073741824)(hn:n≤34359738400):CRt 238 #[R,(.int .i64 ((n:Nat):Int))] w fun v w'=>RS Jd X w' v (digs (val a*2^n)):=by
 obtain⟨M,N,rfl,_,_⟩:=e.len;have C:=Cx.start hX;have sa:=e.u32_small;refine Cgo Tryz.func238 rfl rfl rfl (Rg<|Ua<|Rg<|Ub<|SF rfl rfl (by decide) (Y3 (a:=n) (b:=32) (by omega))<|Ol<|Tz (n:=(n/32)) C sl38 rfl rfl rfl (by omega) io96 (by decide) ?_);intro U w4 x5 C6 s7 h8;have e:=e.sp s7;refine Oa (Nl<|Rg<|Ua<|Rh<|Ua<|W.block<|Sc (fun μ f v=>∃(x y:Nat→Prop) (i:Nat) (p:List Nat) (c:Nat) (pa:Option Addr) (pc:Nat),Cx X w x y v∧f 0=(.slice M a.length N)∧f 1=(.int .i64 ((n:Nat):Int))∧f 4=(.slice none 0 0)∧f 7=(.int .i64 ((i:Nat):Int))∧f 6=(.int .u64 ((c:Nat):Int))∧f 5=(.slice pa p.length pc)∧RS Jd x v (.slice M a.length N) a∧OS Jd 96 w x y v (.slice pa p.length pc) p∧i≤a.length∧p.length=n/32+i∧Jp p∧c<4294967296∧val p+4294967296^p.length*c=val (a.take i)*2^n∧μ=(a.length-i)) _ ⟨_,_,0,(List.replicate (n/32) 0),0,(some ⟨U,0,none⟩),(n/32),C6,rfl,rfl,rfl,rfl,rfl,(congrArg (fun z=>Value.slice (some ⟨U,0,none⟩) z<|n/32) (UE (n:=n/32) (a:=0)).symm),e,(by rw[UE];exact h8),(UN _),(UE ..),(Ka _),(by decide),(by simp[val,ii]),rfl⟩ ?_);rintro am f9 an ⟨ao,aq,i,p,c,pa,pc,g,k,m,o,r,A,B,e,hP,hi,hp,hs,hc,hv,ag⟩;obtain⟨ar,rfl⟩:=rebK (aC k<|aC m<|aC o<|aC r<|aC A<|aC B aN);clear k m o r A B;have hai:=Jf sa i;have hcar:=uj (s:=n%32) hai (UI _ (by decide)) hc;refine Rh<|Om<|Ub<|St.len sl38 rfl<|Ol<|Sb rfl rfl (fun P=>?_)<|fun P=>?_
 ·refine Nl (Ud<|RT<|RZ<|W.block<|Rg<|Om<|Ub<|Sd (j:=i) (u:=(a.getD i 0)) e sl38 io96 rfl rfl rfl (Ji (by omega)) ?_);intro au av Q D;obtain⟨rfl,ak⟩:Q=_∧_:=D.rd;refine Ol (Sa pl96 rfl (D.cell 0 _ rfl)<|Ol<|R2 (z:=(((a.getD i 0):Nat):Int)) us96 un97 rfl (UO _ (by omega))<|Ub<|Sz rfl rfl (by decide) (Qe n 32)<|Ol<|R2 (z:=((n%32:Nat):Int)) us3 un98 rfl (UO _ (by omega))<|Ol<|SP rfl rfl (by omega) (Qy<|th hai<|UI _ (by decide)) ?_);refine Om (Ol<|St.add rfl rfl (J6 (a:=a.getD i 0*2^(n%32)) (b:=c) (by omega))<|Ua<|Rg<|Om<|Ub<|R2 (z:=(((((a.getD i 0)*2^(n%32))+c)%4294967296:Nat):Int)) us97 un96 rfl (Jm _)<|Ol<|Sl (T:=Jd) (css:=[[(.int .u32 (((((a.getD i 0)*2^(n%32))+c)%4294967296:Nat):Int))]]) (l:=[(((a.getD i 0)*2^(n%32))+c)%4294967296]) g sl38 io96 (by decide) (by decide) rfl (by kernel_rfl) ⟨⟨rfl,(UI _ (by decide))⟩,trivial⟩ ?_);intro aw ax E F V;have hP:=hP.sp F E<|fun _ h=>h
  refine Ol (Sk (T:=Jd) E sl38 io96 rfl rfl hP (Xq V) (by simp only[Uv,Uw,Ux,maxLen];omega) (by simp only[Uv,Uw,Ux];omega) rfl ?_);intro ay az aA Y Z aB G;have e:=(e.sp F).tr Z.tx;obtain⟨aa,ab,rfl,_,_⟩:=G.len;refine Ua<|RK<|Ub<|SC rfl rfl (by decide) (Ym (d:=4294967296) _ (by decide))<|Ua<|RK<|Ub<|St.add rfl rfl (Jc (a:=i) (b:=1) (by omega))<|Ua<|⟨_,(by omega),_,_,(i+1),(p++[(((a.getD i 0)*2^(n%32))+c)%4294967296]),(((a.getD i 0)*2^(n%32))+c)/4294967296,aa,ab,Y,rfl,rfl,rfl,rfl,rfl,rfl,e,G,(by omega),(by rw[Uv,hp];rfl),(Jz hs<|UI _ (by decide)),hcar.2,(p5 hp hv rfl),rfl⟩
 refine Nl (Ue<|Sf<|Rg<|Om<|Ub<|R2 (z:=((c%4294967296:Nat):Int)) us97 un96 rfl (Jm _)<|Ol<|Sl (T:=Jd) (css:=[[(.int .u32 ((c%4294967296:Nat):Int))]]) (l:=[c%4294967296]) g sl38 io96 (by decide) (by decide) rfl (by kernel_rfl) ⟨⟨rfl,(UI _ (by decide))⟩,trivial⟩ ?_);intro aD aE H ac ad;have hP:=hP.sp ac H<|fun _ h=>h
 refine Ol (Sk (T:=Jd) H sl38 io96 rfl rfl hP (Xq ad) (by simp only[Uv,Uw,Ux,maxLen];omega) (by simp only[Uv,Uw,Ux];omega) rfl ?_);intro aF aG aH ae aI aJ I;obtain⟨aK,aL,rfl,_,_⟩:=I.len;obtain⟨aM,J,al,af⟩:=I.freeze ae hX;refine Ol (RH J cb88 rfl rfl (ye J.bd af (by simp only[Uv,Uw,Ux];omega)) ?_);intro aO aP K aQ L;obtain⟨aR,aS,rfl,_,_⟩:=L.len;exact Ua<|RY<|Wq rfl rfl K<|TP ((L:RS _ _ _ _ _).tr (Tr.weak K.base))<|(uX hs (by omega) hc hv)
end Go.Wf
namespace Go.Wf
open Go
theorem v4(n:Nat):Jx n 0=List.replicate n 0:=(Yl (Ka n) (UE ..) (ii n)).symm
theorem we{n v i:Nat}(hv:v<4294967296^n)(hi:i<n):(Jx n v).getD i 0=v/4294967296^i%4294967296:=by
 have h:=Vz (J1 n v) i;rw[Ze n v hv] at h;have hd:=Vc (a:=Jx n v) (j:=i+1) (by omega) (by rw[Jg];omega);rw[YF] at hd;rw[h,hd]
 have:=Jf (J1 n v) i
 omega
theorem kO(k:Nat):(2:Nat)^k=4294967296^(k/32)*2^(k%32):=by
 have e:(4294967296:Nat)^(k/32)=2^(32*(k/32)):=by rw[ZR]
 rw[e,←ZQ];congr 1;omega
theorem z6{n q k:Nat}(hk:k/32<n)(hd:q%2^(k+1)=0)(hq:q<4294967296^n):(Jx n q).getD (k/32) 0+2^(k%32)<4294967296:=by
 rw[we hq hk];obtain⟨m,hm⟩:=YS hd;have hP:0<(4294967296:Nat)^(k/32):=ZS (by decide);have b:(2:Nat)^(k+1)=4294967296^(k/32)*2^(k%32+1):=by rw[UV,kO k,UV,U3]
 have d:q/4294967296^(k/32)=2^(k%32+1)*m:=by
  rw[hm,b,U3,Nat.mul_div_cancel_left _ hP]
 rw[d];have hr:k%32<32:=UI _ (by decide);have a:(4294967296:Nat)=2^(k%32+1)*2^(31-k%32):=by
  rw[←ZQ,show k%32+1+(31-k%32)=32 by omega]
 have e:2^(k%32+1)*m%4294967296=2^(k%32+1)*(m%2^(31-k%32)):=by
  conv=>lhs;rw[a]
  rw[Nat.mul_mod_mul_left]
 rw[e];have g:=UI m (Jaa (31-k%32));have f:=U4 (2^(k%32+1)) (show m%2^(31-k%32)+1≤2^(31-k%32) by omega);rw[←a,UX,ZL] at f;have h:(2:Nat)^(k%32+1)=2^(k%32)*2:=UV ..;have i:=Jaa (k%32);omega
theorem mq{n q k:Nat}(hk:k/32<n)(hd:q%2^(k+1)=0)(hq:q+2^k<4294967296^n):(Jx n q).set (k/32) ((Jx n q).getD (k/32) 0+2^(k%32))=Jx n (q+2^k):=by
 have hq':q<4294967296^n:=by have:=Jaa k;omega
 refine Yl (Qr (J1 _ _) (z6 hk hd hq') _) (by rw[W7,Jg]) ?_;have h:=hH (l:=Jx n q) (k:=k/32) (d:=(Jx n q).getD (k/32) 0+2^(k%32)) (by rw[Jg];exact hk);rw[Ze n q hq',UX,←kO] at h;omega
def dvQ(a b:List Nat):List Nat:=if a.length≤2∧b.length≤2 then digs (val a/val b) else if blen (val a)<blen (val b) then [] else Jx ((blen (val a)-blen (val b))/32+1) (val a/val b)
theorem qy{x y:Nat}(hy:0<y):x/y<2^(blen x-blen y+1):=by
 rcases YV (x/y) with e|e
 ·rw[e];exact Jaa _
 ·rw[YQ hy];have d:=Qk x;have a:=kz hy;have f:=ju hy;have g:blen y≤blen x:=by
   refine ZB fun hh=>?_
   have:2^blen x≤2^(blen y-1):=U1 (by omega) (by omega)
   have:=YO (show x<y by omega)
   omega
  have b:=U4 (2^(blen x-blen y+1)) a;rw[←ZQ,show blen x-blen y+1+(blen y-1)=blen x by omega] at b;omega
theorem im{x y:Nat}(hy:0<y):x/y<4294967296^((blen x-blen y)/32+1):=by
 have h:=qy (x:=x) hy;have e:(4294967296:Nat)^((blen x-blen y)/32+1)=2^(32*((blen x-blen y)/32+1)):=by rw[ZR]
 rw[e];exact UB h (U1 (by omega) (by omega))
theorem zj{x y:Nat}(hy:0<y)(h:blen x<blen y):x<y:=by
 have a:=Qk x;have b:=kz hy
 have:2^blen x≤2^(blen y-1):=U1 (by omega) (by omega)
 omega
theorem rN{a b:List Nat}:Jp (dvQ a b):=by
 unfold dvQ;split
 ·exact Zv _
 ·split
  ·exact J9
  ·exact J1 _ _
theorem ni{a b:List Nat}(hb:0<val b):val (dvQ a b)=val a/val b:=by
 unfold dvQ;split
 ·exact Jw _
 ·split
  ·rename_i h;rw[YO (zj hb h)];rfl
  ·exact Ze _ _ (im hb)
theorem Vo{a:List Nat}(sa:Jp a):blen (val a)≤32*a.length:=by
 have h:=Zo a sa;have e:(4294967296:Nat)^a.length=2^(32*a.length):=by rw[ZR]
 rw[e] at h;exact i7 h
theorem Gx{a b:List Nat}(sa:Jp a):(dvQ a b).length≤a.length+1:=by
 unfold dvQ;split
 ·have:=digs_div_len' sa (val b)
  omega
 ·split
  ·simp
  ·rw[Jg]
   have:=Vo sa
   omega
where digs_div_len' {a:List Nat} (sa:Jp a) (n:Nat):(digs (val a/n)).length≤a.length:=Jt (U7 (YP _ _) (Zo a sa))
theorem l0{a b:List Nat}(sa:Jp a){k:Nat}(hk:k≤blen (val a)-blen (val b))(hle:blen (val b)≤blen (val a)):(digs (val b*2^k)).length≤a.length:=by
 refine Jt ?_;have f:=Qk (val b);have g:=Vo sa;have e:(4294967296:Nat)^a.length=2^(32*a.length):=by rw[ZR]
 rw[e];have d:=ZK f (Jaa k);rw[←ZQ] at d;exact UB d (U1 (by omega) (by omega))
theorem dv0{a b:List Nat}(hb:0<val b)(hle:blen (val b)≤blen (val a)):val a<val b*2^(blen (val a)-blen (val b)+1):=by
 have h:=qy (x:=val a) hb;rw[YQ hb,U6] at h;exact h
theorem tX{A B R q k:Nat}(hv:A=q*B+R)(hlt:R<B*2^(k+1))(hd:q%2^(k+1)=0)(h:B*2^k≤R):
  A=(q+2^k)*B+(R-B*2^k)∧R-B*2^k<B*2^k∧(q+2^k)%2^k=0:=by
 refine⟨?_,?_,?_⟩
 ·rw[YE,U6 (2^k)];omega
 ·rw[UV,←U3] at hlt;omega
 ·obtain⟨m,hm⟩:=YS hd;rw[hm,UV,U3,Nat.add_mod_right,Nat.mul_mod_right]
theorem CD{q k:Nat}(hd:q%2^(k+1)=0):q%2^k=0:=by
 obtain⟨m,hm⟩:=YS hd;rw[hm,UV,U3,Nat.mul_mod_right]
theorem px{A B R q k n:Nat}(hB:0<B)(hv:A=q*B+R)(h:B*2^k≤R)(hq:A/B<n):q+2^k<n:=by
 refine U7 ?_ hq;rw[YY hB,YE,U6 (2^k)];omega
theorem g9{A B R q:Nat}(hv:A=q*B+R)(hlt:R<B*2^0):q=A/B∧R=A%B:=by
 rw[Nat.pow_zero,ZL] at hlt;have hB:0<B:=by omega
 rw[hv,U6,Nat.mul_add_div hB,YO hlt,Nat.mul_add_mod,ZG hlt];exact⟨rfl,rfl⟩
theorem pR{r:Nat}(h:r<32):IntKind.u32.wrap ((1:Int)*2^min ((r:Nat):Int).toNat IntKind.u32.bits)=((2^r:Nat):Int):=by
 have hp:=V5 h;rw[WC,ZF (by simp[IntKind.bits];omega),Wy];have e:(2:Int)^r=((2^r:Nat):Int):=by simp
 rw[e];generalize (2:Nat)^r=z at *;rw[IntWalk.u32_in _ (by omega)]
end Go.Wf
namespace Go.Wf
open Go Go.Proofs Go.RowKit
set_option maxHeartbeats 16000000 in
theorem uc{X:Nat→Prop}{w:World}(hX:XB X w){Q:Value}{a:List Nat}(e:RS Jd X w Q a){T:Value}{b:List Nat}(d:RS Jd X w T b)(ha:trim a=a)(hb:trim b=b)(hne:b≠[])(hla:a.length≤536870912)(hlb:b.length≤536870912):CRt 196 #[Q,T] w fun v w'=>(∃Q T,v= .tuple #[Q,T]∧(RS Jd X w' Q (dvQ a b))∧(RS Jd X w' T (digs (val a%val b)))):=by
 obtain⟨U,V,rfl,_,_⟩:=e.len;obtain⟨F,G,rfl,_,_⟩:=d.len;have C:=Cx.start hX;have sa:=e.u32_small;have sb:=d.u32_small;have bE:=Vo sa;have bF:=Vo sb;have hbp:0<val b:=UB (ZS (by decide)) (Xm hb hne);refine Cgo Tryz.func196 rfl rfl rfl<|Rg<|Oa<|Ua<|Rh<|Ub<|St.len sl38 rfl<|Ol<|SJ rfl rfl (fun bm=>?_)<|fun bm=>?_
 ·refine Om<|OgD<|RP<|OgD<|St.len sl38 rfl<|OgD<|SJ rfl rfl (fun bn=>?_)<|fun bn=>?_
  ·refine OT (Nl<|Ud<|RZ ?_);have hva:=Y5 sa (by omega);refine RK (Ub<|RH C ra rfl rfl (vt C.bd e (by omega)) ?_);intro v7 w8 C9 aE bp;have e:=e.sp aE;have d:=d.sp aE;subst bp;refine Om (Ol<|RH C9 ra rfl rfl (vt C9.bd d (by omega)) ?_);intro b7 b8 aF aG bq;have d:=d.sp aG;subst bq;refine Ol (SF rfl rfl (by omega) (X9 (a:=(val a)) (b:=(val b)) (by omega))<|Ol<|RH aF D8 rfl rfl (mH aF.bd (n:=(val a)/(val b))<|pH hva) ?_);intro b9 ca aH aI r;have e:=(e.sp aG).sp aI;obtain⟨cb,cc,rfl,_,_⟩:=r.len;refine Om (Ol<|RH aH ra rfl rfl (vt aH.bd e (by omega)) ?_);intro cd ce aJ aK br;have d:=(d.sp aI).sp aK;have r:=r.sp aK;subst br;refine Om (Ol<|RH aJ ra rfl rfl (vt aJ.bd d (by omega)) ?_);intro cf cg aL bs bt;subst bt;refine Ol (Sz rfl rfl (by omega) (Qe (val a)<|val b)<|Ol<|RH aL D8 rfl rfl (mH aL.bd (n:=(val a)%(val b))<|ox hva) ?_);intro ch ci Y bu aM;have r:=(r.sp bs).sp bu;obtain⟨cj,ck,rfl,_,_⟩:=aM.len;refine Oa (Ua<|RY<|Z4 rfl (resV.t rfl) (resV.t rfl)<|RM ?_ Y.below);refine⟨_,_,rfl,?_,?_⟩
   ·exact TP ((r:RS _ _ _ _ _).tr (Tr.weak Y.base))<|(by unfold dvQ;rw[if_pos ⟨by omega,by omega⟩])
   ·exact TP ((aM:RS _ _ _ _ _).tr (Tr.weak Y.base))<|rfl
  refine OT (Nl<|Uc<|Rg<|Om<|Ua<|Rg<|Ub<|Si (cs:=[(.bool false),(.slice U a.length V)]) rfl (by kernel_rfl)<|Ol<|RH C wM rfl rfl (ou C.bd (a:=(⟨false,a⟩:GInt)) (Je e) (show a.length≤_ by omega)) ?_);intro bv cl aO aP Z;have d:=d.sp aP;replace Z:bv=(.int .i64 (((blen<|val a):Nat):Int)):=Z;subst Z;refine Om (Ol<|Si (cs:=[(.bool false),(.slice F b.length G)]) rfl (by kernel_rfl)<|Ol<|RH aO wM rfl rfl (ou aO.bd (a:=(⟨false,b⟩:GInt)) (Je d) (show b.length≤_ by omega)) ?_);intro bw cm N aQ aa;have e:=(e.sp aP).sp aQ;replace aa:bw=(.int .i64 (((blen<|val b):Nat):Int)):=aa;subst aa;refine Ol<|St.sub (z:=((((blen<|val a):Nat):Int)-(((blen<|val b):Nat):Int))) rfl rfl (UP _ (by omega))<|Ua<|Rh<|Ub<|Sb rfl rfl (fun a7=>?_)<|fun a7=>?_
  ·refine Nl (Uf<|Om<|Oa<|Ua<|RY<|Z4 rfl (resV.t rfl) (resV.t rfl)<|RM ?_ N.below);refine⟨_,_,rfl,?_,?_⟩
   ·exact TP ((RS.nil:RS _ _ _ _ _).tr (Tr.weak N.base))<|(by unfold dvQ;rw[if_neg (by omega),if_pos (by omega)])
   ·exact TP ((e:RS _ _ _ _ _).tr (Tr.weak N.base))<|(t6 ha sa<|zj hbp (by omega))
  refine Nl (Uc<|RZ ?_);have hble:blen (val b)≤blen (val a):=by omega
  obtain⟨S,hS⟩:∃S,S=blen (val a)-blen (val b):=⟨_,rfl⟩;rw[show(((blen (val a):Nat):Int)-((blen (val b):Nat):Int))=((S:Nat):Int) by omega];have hba:=Vo sa;have hroom:=im (x:=val a) hbp;rw[←hS] at hroom;refine RK (Ub<|SF rfl rfl (by decide) (Y3 (a:=S) (b:=32) (by omega))<|Ol<|St.add rfl rfl (Jc (a:=S/32) (b:=1) (by omega))<|Ol<|So (n:=(S/32+1)) N sl38 rfl rfl rfl (by omega) io96 (by decide) ?_);intro aR cn co cp bG bx aS aT;have e:=e.sp aS;have d:=(d.sp aQ).sp aS;refine Oa (Nl<|Rh<|Om<|Ua<|W.block ?_);rw[←v4 (S/32+1)] at aT;refine Sc (fun μ f v=>∃(x y:Nat→Prop) (K:Nat) (R:List Nat) (q:Nat) (pr:Option Addr) (rc:Nat),Cx X w x y v∧f 1=(.slice F b.length G)∧f 4=(.slice none 0 0)∧f 5=(.slice none 0 0)∧f 8=(.slice (some ⟨aR,0,none⟩) (S/32+1) (S/32+1))∧f 9=(.int .i64 ((K:Int)-1))∧f 6=(.slice pr R.length rc)∧RS Jd x v (.slice F b.length G) b∧RS Jd x v (.slice pr R.length rc) R∧Own w y v aR ((Jx (S/32+1) q).map u32v) 96∧K≤S+1∧val a=q*val b+val R∧val R<val b*2^K∧q%2^K=0∧trim R=R∧R.length≤a.length∧μ=K) _ ⟨_,_,(S+1),a,0,U,V,bx,rfl,rfl,rfl,rfl,(congrArg (Value.int .i64) (by omega)),rfl,d,e,aT,(UM _),(by omega),(by rw[hS];exact dv0 hbp hble),(Nat.zero_mod _),ha,(UM _),rfl⟩ ?_;rintro cq cr ct ⟨cu,cw,K,R,q,pr,rc,D,aU,aV,aW,aX,aY,aZ,d,hR,i,hK,hv,hlt,hdv,hRt,hRl,bC⟩;obtain⟨cx,rfl⟩:=rebK (aC aU<|aC aV<|aC aW<|aC aX<|aC aY<|aC aZ aN);clear aU aV aW aX aY aZ;have sR:=hR.u32_small;refine Rh<|Ub<|SB rfl rfl (fun a8=>?_)<|fun a8=>?_
  ·refine Nl (Ud<|RT<|RZ<|W.block<|RZ ?_);obtain⟨k,rfl⟩:∃k,K=k+1:=⟨K-1,by omega⟩;rw[show(((k+1:Nat):Int)-1)=((k:Nat):Int) by omega];have htl:=l0 (b:=b) sa (k:=k) (by omega) hble;refine RK (Om<|Ub<|RH D LU rfl rfl (kT D.bd d (n:=k) (by omega) (by omega)) ?_);intro cy cz a0 ab E;have hR:=hR.sp ab;obtain⟨cB,cC,rfl,_,_⟩:=E.len;refine Oa (Nl<|Rg<|Om<|Ub<|Sm<|RH a0 ES rfl rfl (nO a0.bd hR E hRt (Z9 _) (by omega) (by omega)) ?_);intro cD cE ac P bz;have d:=(d.sp ab).sp P;have hR:=hR.sp P;have E:=E.sp P;have i:=(i.spn ab).spn P;refine⟨_,bz,fun H=>?_,fun H=>?_⟩
   ·refine Ol (Sr rfl<|Nl<|Uc<|RK<|Ub<|St.sub (z:=(((k:Nat):Int)-1)) rfl rfl (UP _ (by omega))<|Oa<|Nl ?_);have hlow:val R<val b*2^k:=by have g:=of_decide_eq_true H;rw[Jw] at g;exact g
    refine⟨_,(by omega),_,_,k,R,q,pr,rc,ac,rfl,rfl,rfl,rfl,rfl,rfl,d,hR,i,(by omega),hv,hlow,(CD hdv),hRt,hRl,rfl⟩
   refine Ol (Sr rfl<|Nl<|Ud<|RZ ?_);have hge:val b*2^k≤val R:=by have g:=of_decide_eq_false H;rw[Jw] at g;omega
   have hyes:=tX hv hlt hdv hge;have hqr:=px hbp hv hge hroom;have htR:=Yd (a:=R) (b:=digs<|val b*2^k) (Z9 _) sR (by rw[Jw];exact hge);refine RK (Om<|Ub<|RH ac wm rfl rfl (iZ ac.bd hR E (by omega) htR (by rw[Jw];exact hge)) ?_);intro cF cG a2 a4 a5;have d:=d.sp a4;obtain⟨cH,cI,rfl,_,_⟩:=a5.len;refine Ol (RH a2 cb88 rfl rfl (ye a2.bd a5 (by rw[Jg];omega)) ?_);intro cJ cK bA a6 l;have i:=(i.spn a4).spn a6;obtain⟨a9,ba,rfl,_,_⟩:=l.len;refine Oa (Nl ?_);have hrr:(trim<|Jx R.length<|val R-val (digs<|val b*2^k))=(digs<|val R-val b*2^k):=by rw[Jw];exact K6<|U7 (ZU _ _)<|Zo R sR
   rw[hrr] at l ⊢;have hdg:=z6 (n:=S/32+1) (show k/32<S/32+1 by omega) hdv (by have:=Jaa k;omega);refine RK (Om<|Ub<|SF rfl rfl (by decide) (Y3 (a:=k) (b:=32) (by omega))<|Om<|Ub<|SF rfl rfl (by decide) (Y3 (a:=k) (b:=32) (by omega))<|Ol<|Sh (j:=(k/32)) sl38 io96 rfl rfl rfl (by omega)<|Ol<|SH (j:=(k/32)) (u:=((Jx (S/32+1) q).getD (k/32) 0)) i pl96 rfl (Ji (by rw[Jg];omega)) ?_);refine Om (Ol<|Sz rfl rfl (by decide) (Qe k 32)<|Ol<|R2 (z:=((k%32:Nat):Int)) us3 un98 rfl (UO _ (by omega))<|Ol<|SP (z:=((2^(k%32):Nat):Int)) rfl rfl (by omega) (pR<|UI _ (by decide))<|Ol<|St.add rfl rfl (xj (a:=((Jx (S/32+1) q).getD (k/32) 0)) (b:=2^(k%32)) (by omega)) ?_);refine Ol (Sh (j:=(k/32)) sl38 io96 rfl rfl rfl (by omega)<|On<|Se (j:=(k/32)) (u:=((Jx (S/32+1) q).getD (k/32) 0)+(2^(k%32))) bA i io96 rfl rfl (by rw[Jg];omega) ?_);intro bH bb ad ae;have d:=(d.sp a6).sp ad;have l:=l.sp ad;rw[mq (by omega) hdv hqr] at ae;refine Nl<|RK<|Ub<|St.sub (z:=(((k:Nat):Int)-1)) rfl rfl (UP _ (by omega))<|Ua<|⟨_,(by omega),_,_,k,(digs<|val R-val b*2^k),(q+2^k),a9,ba,bb,rfl,rfl,rfl,rfl,rfl,rfl,d,l,ae,(by omega),(by rw[Jw];exact hyes.1),(by rw[Jw];exact hyes.2.1),hyes.2.2,(Z9 _),(UC (Jt<|U7 (ZU _ _)<|Zo R sR) hRl),rfl⟩
  refine Nl (Ue<|Sf<|Rg<|Om<|Om<|Oa<|Ua<|RY<|Z4 rfl (resV.t rfl) (resV.t rfl)<|RM ?_ D.below);refine⟨_,_,rfl,?_,?_⟩
  ·exact TP (i.rowRS D hX (by rw[Jg]) (by omega) (J1 _ _) id)<|(by unfold dvQ;rw[if_neg (by omega),if_neg (by omega),←hS,←(g9 hv (by have g:=hlt;rw[show K=0 by omega] at g;exact g)).1])
  ·exact TP ((hR:RS _ _ _ _ _).tr (Tr.weak D.base))<|(by rw[←(g9 hv (by have g:=hlt;rw[show K=0 by omega] at g;exact g)).2];exact uL hRt sR)
 refine Om (Oz<|Oz<|Oz<|OF<|Nl<|Uc<|Rg<|Om<|Ua<|Rg<|Ub<|Si (cs:=[(.bool false),(.slice U a.length V)]) rfl (by kernel_rfl)<|Ol<|RH C wM rfl rfl (ou C.bd (a:=(⟨false,a⟩:GInt)) (Je e) (show a.length≤_ by omega)) ?_);intro be bJ af ag I;have d:=d.sp ag;replace I:be=(.int .i64 (((blen<|val a):Nat):Int)):=I;subst I;refine Om (Ol<|Si (cs:=[(.bool false),(.slice F b.length G)]) rfl (by kernel_rfl)<|Ol<|RH af wM rfl rfl (ou af.bd (a:=(⟨false,b⟩:GInt)) (Je d) (show b.length≤_ by omega)) ?_);intro bf bK s ah J;have e:=(e.sp ag).sp ah;replace J:bf=(.int .i64 (((blen<|val b):Nat):Int)):=J;subst J;refine Ol<|St.sub (z:=((((blen<|val a):Nat):Int)-(((blen<|val b):Nat):Int))) rfl rfl (UP _ (by omega))<|Ua<|Rh<|Ub<|Sb rfl rfl (fun aB=>?_)<|fun aB=>?_
 ·refine Nl (Uf<|Om<|Oa<|Ua<|RY<|Z4 rfl (resV.t rfl) (resV.t rfl)<|RM ?_ s.below);refine⟨_,_,rfl,?_,?_⟩
  ·exact TP ((RS.nil:RS _ _ _ _ _).tr (Tr.weak s.base))<|(by unfold dvQ;rw[if_neg (by omega),if_pos (by omega)])
  ·exact TP ((e:RS _ _ _ _ _).tr (Tr.weak s.base))<|(t6 ha sa<|zj hbp (by omega))
 refine Nl (Uc<|RZ ?_);have hble:blen (val b)≤blen (val a):=by omega
 obtain⟨S,hS⟩:∃S,S=blen (val a)-blen (val b):=⟨_,rfl⟩;rw[show(((blen (val a):Nat):Int)-((blen (val b):Nat):Int))=((S:Nat):Int) by omega];have hba:=Vo sa;have hroom:=im (x:=val a) hbp;rw[←hS] at hroom;refine RK (Ub<|SF rfl rfl (by decide) (Y3 (a:=S) (b:=32) (by omega))<|Ol<|St.add rfl rfl (Jc (a:=S/32) (b:=1) (by omega))<|Ol<|So (n:=(S/32+1)) s sl38 rfl rfl rfl (by omega) io96 (by decide) ?_);intro ai bL bM bN bD bg aj ak;have e:=e.sp aj;have d:=(d.sp ah).sp aj;refine Oa (Nl<|Rh<|Om<|Ua<|W.block ?_);rw[←v4 (S/32+1)] at ak;refine Sc (fun μ f v=>∃(x y:Nat→Prop) (K:Nat) (R:List Nat) (q:Nat) (pr:Option Addr) (rc:Nat),Cx X w x y v∧f 1=(.slice F b.length G)∧f 4=(.slice none 0 0)∧f 5=(.slice none 0 0)∧f 8=(.slice (some ⟨ai,0,none⟩) (S/32+1) (S/32+1))∧f 9=(.int .i64 ((K:Int)-1))∧f 6=(.slice pr R.length rc)∧RS Jd x v (.slice F b.length G) b∧RS Jd x v (.slice pr R.length rc) R∧Own w y v ai ((Jx (S/32+1) q).map u32v) 96∧K≤S+1∧val a=q*val b+val R∧val R<val b*2^K∧q%2^K=0∧trim R=R∧R.length≤a.length∧μ=K) _ ⟨_,_,(S+1),a,0,U,V,bg,rfl,rfl,rfl,rfl,(congrArg (Value.int .i64) (by omega)),rfl,d,e,ak,(UM _),(by omega),(by rw[hS];exact dv0 hbp hble),(Nat.zero_mod _),ha,(UM _),rfl⟩ ?_;rintro bO bP bQ ⟨bR,bS,K,R,q,pr,rc,m,al,am,an,ao,aq,ar,d,hR,h,hK,hv,hlt,hdv,hRt,hRl,bB⟩;obtain⟨bT,rfl⟩:=rebK (aC al<|aC am<|aC an<|aC ao<|aC aq<|aC ar aN);clear al am an ao aq ar;have sR:=hR.u32_small;refine Rh<|Ub<|SB rfl rfl (fun aD=>?_)<|fun aD=>?_
 ·refine Nl (Ud<|RT<|RZ<|W.block<|RZ ?_);obtain⟨k,rfl⟩:∃k,K=k+1:=⟨K-1,by omega⟩;rw[show(((k+1:Nat):Int)-1)=((k:Nat):Int) by omega];have htl:=l0 (b:=b) sa (k:=k) (by omega) hble;refine RK (Om<|Ub<|RH m LU rfl rfl (kT m.bd d (n:=k) (by omega) (by omega)) ?_);intro bU bV au L o;have hR:=hR.sp L;obtain⟨bW,bX,rfl,_,_⟩:=o.len;refine Oa (Nl<|Rg<|Om<|Ub<|Sm<|RH au ES rfl rfl (nO au.bd hR o hRt (Z9 _) (by omega) (by omega)) ?_);intro bY bZ M A bh;have d:=(d.sp L).sp A;have hR:=hR.sp A;have o:=o.sp A;have h:=(h.spn L).spn A;refine⟨_,bh,fun B=>?_,fun B=>?_⟩
  ·refine Ol (Sr rfl<|Nl<|Uc<|RK<|Ub<|St.sub (z:=(((k:Nat):Int)-1)) rfl rfl (UP _ (by omega))<|Oa<|Nl ?_);have hlow:val R<val b*2^k:=by have g:=of_decide_eq_true B;rw[Jw] at g;exact g
   refine⟨_,(by omega),_,_,k,R,q,pr,rc,M,rfl,rfl,rfl,rfl,rfl,rfl,d,hR,h,(by omega),hv,hlow,(CD hdv),hRt,hRl,rfl⟩
  refine Ol (Sr rfl<|Nl<|Ud<|RZ ?_);have hge:val b*2^k≤val R:=by have g:=of_decide_eq_false B;rw[Jw] at g;omega
  have hyes:=tX hv hlt hdv hge;have hqr:=px hbp hv hge hroom;have htR:=Yd (a:=R) (b:=digs<|val b*2^k) (Z9 _) sR (by rw[Jw];exact hge);refine RK (Om<|Ub<|RH M wm rfl rfl (iZ M.bd hR o (by omega) htR (by rw[Jw];exact hge)) ?_);intro b0 b1 av aw ax;have d:=d.sp aw;obtain⟨b2,b3,rfl,_,_⟩:=ax.len;refine Ol (RH av cb88 rfl rfl (ye av.bd ax (by rw[Jg];omega)) ?_);intro b4 b5 bi ay p;have h:=(h.spn aw).spn ay;obtain⟨bj,bk,rfl,_,_⟩:=p.len;refine Oa (Nl ?_);have hrr:(trim<|Jx R.length<|val R-val (digs<|val b*2^k))=(digs<|val R-val b*2^k):=by rw[Jw];exact K6<|U7 (ZU _ _)<|Zo R sR
  rw[hrr] at p ⊢;have hdg:=z6 (n:=S/32+1) (show k/32<S/32+1 by omega) hdv (by have:=Jaa k;omega);refine RK (Om<|Ub<|SF rfl rfl (by decide) (Y3 (a:=k) (b:=32) (by omega))<|Om<|Ub<|SF rfl rfl (by decide) (Y3 (a:=k) (b:=32) (by omega))<|Ol<|Sh (j:=(k/32)) sl38 io96 rfl rfl rfl (by omega)<|Ol<|SH (j:=(k/32)) (u:=((Jx (S/32+1) q).getD (k/32) 0)) h pl96 rfl (Ji (by rw[Jg];omega)) ?_);refine Om (Ol<|Sz rfl rfl (by decide) (Qe k 32)<|Ol<|R2 (z:=((k%32:Nat):Int)) us3 un98 rfl (UO _ (by omega))<|Ol<|SP (z:=((2^(k%32):Nat):Int)) rfl rfl (by omega) (pR<|UI _ (by decide))<|Ol<|St.add rfl rfl (xj (a:=((Jx (S/32+1) q).getD (k/32) 0)) (b:=2^(k%32)) (by omega)) ?_);refine Ol (Sh (j:=(k/32)) sl38 io96 rfl rfl rfl (by omega)<|On<|Se (j:=(k/32)) (u:=((Jx (S/32+1) q).getD (k/32) 0)+(2^(k%32))) bi h io96 rfl rfl (by rw[Jg];omega) ?_);intro b6 bl az aA;have d:=(d.sp ay).sp az;have p:=p.sp az;rw[mq (by omega) hdv hqr] at aA;refine Nl<|RK<|Ub<|St.sub (z:=(((k:Nat):Int)-1)) rfl rfl (UP _ (by omega))<|Ua<|⟨_,(by omega),_,_,k,(digs<|val R-val b*2^k),(q+2^k),bj,bk,bl,rfl,rfl,rfl,rfl,rfl,rfl,d,p,aA,(by omega),(by rw[Jw];exact hyes.1),(by rw[Jw];exact hyes.2.1),hyes.2.2,(Z9 _),(UC (Jt<|U7 (ZU _ _)<|Zo R sR) hRl),rfl⟩
 refine Nl (Ue<|Sf<|Rg<|Om<|Om<|Oa<|Ua<|RY<|Z4 rfl (resV.t rfl) (resV.t rfl)<|RM ?_ m.below);refine⟨_,_,rfl,?_,?_⟩
 ·exact TP (h.rowRS m hX (by rw[Jg]) (by omega) (J1 _ _) id)<|(by unfold dvQ;rw[if_neg (by omega),if_neg (by omega),←hS,←(g9 hv (by have g:=hlt;rw[show K=0 by omega] at g;exact g)).1])
 ·exact TP ((hR:RS _ _ _ _ _).tr (Tr.weak m.base))<|(by rw[←(g9 hv (by have g:=hlt;rw[show K=0 by omega] at g;exact g)).2];exact uL hRt sR)
end Go.Wf
namespace Go.Wf
open Go
theorem Kk{z:Int}(h:z≠0):0<val (ofZ z).mag:=by rw[Ke];omega
theorem FL{z:Int}(h:z≠0):(ofZ z).mag≠[]:=fun e=>h (Zc.1 (by rw[e];rfl))
theorem IX{b:GInt}(h:val b.mag≠0):b.toZ≠0:=fun e=>h (yi.1 e)
theorem An{m:Nat}{y:Int}(h:y≠0):(digs (m%val (ofZ y).mag)).length≤(ofZ y).mag.length:=by
 rw[Xg,Jw];exact Xt (ZA (UI _ (by omega)))
theorem vL{n:Nat}:(ofZ (Jh false n)).mag.length=0↔n=0:=by
 rw[Zc,Yh];omega
theorem Dk{x y:Int}(hy:y≠0)(hx:(ofZ x).neg=true)(hr:val (ofZ x).mag%val (ofZ y).mag≠0):
  Jh (!(ofZ y).neg) (val (ofZ x).mag/val (ofZ y).mag+1)=x/y∧(y.natAbs:Int)-((val (ofZ x).mag%val (ofZ y).mag:Nat):Int)=x%y:=by
 have h:=iG (a:=ofZ x) (b:=ofZ y) (by have:=Kk hy;omega) hx hr;have d:=UI (val (ofZ x).mag) (Kk hy);rw[hx,Jl,Jl] at h;refine⟨?_,?_⟩
 ·rw[←h.1];cases (ofZ y).neg<;>rfl
 ·rw[←h.2];rw[Ke,Ke] at *;omega
theorem pF{x y:Int}(hy:y≠0)(h:(ofZ x).neg=false∨val (ofZ x).mag%val (ofZ y).mag=0):
  Jh ((ofZ x).neg != (ofZ y).neg) (val (ofZ x).mag/val (ofZ y).mag)=x/y∧((val (ofZ x).mag%val (ofZ y).mag:Nat):Int)=x%y:=by
 have h:=jw (a:=ofZ x) (b:=ofZ y) (by have:=Kk hy;omega) h
 rwa [Jl,Jl] at h
theorem kC{x y:Int}(hx:0≤x)(hy:0≤y):Int.gcd y (x%y)=Int.gcd x y:=by
 obtain⟨n,rfl⟩:=Int.eq_ofNat_of_zero_le hx;obtain⟨m,rfl⟩:=Int.eq_ofNat_of_zero_le hy;rw[←Int.natCast_emod,Int.gcd_natCast_natCast,Int.gcd_natCast_natCast,YW m,YW n,←Nat.gcd_rec]
theorem sj(x y:Int):Int.gcd ((x.natAbs:Nat):Int) ((y.natAbs:Nat):Int)=Int.gcd x y:=by
 unfold Int.gcd;rw[Ws,Ws]
theorem kv(z:Int):(ofZ ((z.natAbs:Nat):Int)).mag=(ofZ z).mag:=by rw[Xg,Xg,Ws]
theorem pU{x y:Int}{g:Nat}(hx:0≤x)(hg:Int.gcd x y=g)(h:(ofZ y).mag.length=0):x=(g:Int):=by
 rw[←hg,Zc.1 h,Int.gcd_zero_right];omega
theorem k9{x y:Int}(hy:0≤y)(h:(ofZ y).mag.length≠0):(x%y).natAbs<y.natAbs:=by
 have a:y≠0:=fun e=>h (Zc.2 e);have b:=VX x a;have d:=VW x (show 0<y by omega);omega
theorem ui{y:Int}(h:(ofZ y).mag.length≠0):val (ofZ y).mag≠0:=by
 rw[Ke];intro e;exact h (Zc.2 (by omega))
theorem C0{x y:Int}(h:(ofZ y).mag.length≠0):0≤x%y:=VX x fun e=>h (Zc.2 e)
theorem jY{x y:Int}(h:(ofZ y).mag.length≠0):(ofZ (x%y)).mag.length≤(ofZ y).mag.length:=by
 have a:y≠0:=fun e=>h (Zc.2 e);have b:=VX x a;have d:=Int.emod_lt x a;refine jO ?_;omega
theorem gR{n:Nat}(h:n<18446744073709551616):val [n%4294967296,n/4294967296%4294967296]=n:=by
 simp[val];omega
theorem zH{a b:GInt}(h:(a.neg != b.neg)=true):false=decide (a=b):=by
 refine(decide_eq_false ?_).symm
 rintro rfl;simp at h
theorem zF{a b:GInt}(h:¬((a.mag.length:Nat):Int)=((b.mag.length:Nat):Int)):false=decide (a=b):=by
 refine(decide_eq_false ?_).symm
 rintro rfl;exact h rfl
theorem Bm{a b:GInt}{i:Nat}(h:¬((a.mag.getD i 0:Nat):Int)=((b.mag.getD i 0:Nat):Int)):false=decide (a=b):=by
 refine(decide_eq_false ?_).symm
 rintro rfl;exact h rfl
theorem B2{a b:GInt}{i:Nat}(h:(a.neg != b.neg)=false)(hl:((a.mag.length:Nat):Int)=((b.mag.length:Nat):Int))(hi:¬(i:Int)<((a.mag.length:Nat):Int))(he:a.mag.take i=b.mag.take i):true=decide (a=b):=by
 refine(decide_eq_true ?_).symm
 obtain⟨an,am⟩:=a;obtain⟨bn,bm⟩:=b;rw[UU (by omega),UU (by simp only at *;omega)] at he;simp only at *;rw[he,show an=bn by cases an<;>cases bn<;>simp_all]
theorem Hs{α:Type}{a b:List α}{d:α}{i:Nat}(ha:i<a.length)(hb:i<b.length)(he:a.take i=b.take i)(h:a.getD i d=b.getD i d):a.take (i+1)=b.take (i+1):=by
 rw[YA,YA,he];rw[UJ,UJ,UL ha,UL hb] at h;rw[UL ha,UL hb];simp only[Jaf] at h;rw[h]
theorem Gp{n d:Int}(h:d.sign=0):ofQ (Rat.divInt 0 1)=ofQ (Rat.divInt n d):=by
 rw[WB.1 h,Rat.divInt_zero,Jaq]
theorem MI{n d:Int}(h:d.sign<0):(⟨ofZ (n / -((Int.gcd n d:Nat):Int)),ofZ (d / -((Int.gcd n d:Nat):Int))⟩:GRat)=ofQ (Rat.divInt n d):=by
 have hd:d<0:=Int.sign_neg_iff.1 h;have a:=yq (n:= -n) (d:= -d) (by omega);rw[yw] at a;rw[←a,Int.gcd_neg,Int.neg_gcd,Int.ediv_neg,Int.ediv_neg,Int.neg_ediv_of_dvd (Int.gcd_dvd_left ..),Int.neg_ediv_of_dvd (VZ ..)]
theorem Cr{n d:Int}(a:¬d.sign=0)(h:¬d.sign<0):0<d:=by
 have:=mt Int.sign_neg_iff.2 h
 have:d≠0:=fun e=>a (by rw[e];rfl)
 omega
theorem JP{n d:Int}(h:ofZ (-((Int.gcd n d:Nat):Int))=ofZ 1):False:=by
 have:=u9 h;omega
theorem Oe{n d:Int}(a:¬d.sign=0):Int.gcd n d≠0:=by
 intro e
 have:=(Int.gcd_eq_zero_iff.1 e).2
 exact a (by rw[this];rfl)
theorem Io{n d:Int}(a:¬d.sign=0):(ofZ ((Int.gcd n d:Nat):Int)).mag.length≤(ofZ d).mag.length:=nn fun e=>a (by rw[e];rfl)
theorem MR(p q:Rat):ofQ (Rat.divInt ((ofQ p).num.toZ*(ofQ q).den.toZ+(ofQ q).num.toZ*(ofQ p).den.toZ) ((ofQ p).den.toZ*(ofQ q).den.toZ))=ofQ (p+q):=by
 have hp:(ofQ p).den.toZ≠0:=by unfold ofQ;rw[Jl];have:=p.den_nz;omega
 have hq:(ofQ q).den.toZ≠0:=by unfold ofQ;rw[Jl];have:=q.den_nz;omega
 rw[←F9 hp hq,Zq,Zq]
end Go.Wf
namespace Go.Wf
open Go Go.Proofs Go.RowKit
theorem jQ{X:Nat→Prop}{w:World}(hX:XB X w){v0:Value}{a:GInt}(r0:RV Jo X w v0 a){v1:Value}{b:GInt}(r1:RV Jo X w v1 b)(hla:a.mag.length≤536870912)(hlb:b.mag.length≤536870912)(eg:val b.mag≠0):CRt 157 #[v0,v1] w fun v w'=>(∃v0 v1,v= .tuple #[v0,v1]∧(RV Jo X w' v0 (ofZ (a.toZ/b.toZ)))∧(RV Jo X w' v1 (ofZ (a.toZ%b.toZ)))):=by
 obtain⟨a1,c2,rfl,h3⟩:=RV.int r0;obtain⟨a4,c5,rfl,h6⟩:=RV.int r1;have C:=Cx.start hX;have sa:=r0.int_small;have sb:=r1.int_small;have hN:=Jv sa;have hD:=Jv sb;have hbz:=IX eg;have hrl:=An (m:=val (ofZ a.toZ).mag) hbz;have hql:=Gx (a:=(ofZ a.toZ).mag) (b:=(ofZ b.toZ).mag) (Zr _);have a6:(ofZ<|Jh false<|val<|digs<|val (ofZ a.toZ).mag%val (ofZ b.toZ).mag).mag.length=0↔(val (ofZ a.toZ).mag%val (ofZ b.toZ).mag)=0:=by rw[Jw];exact vL
 have fO:(ofZ<|Jh false<|val<|digs<|val (ofZ a.toZ).mag%val (ofZ b.toZ).mag).mag.length≤(ofZ b.toZ).mag.length:=by rw[Jw,Yh,Xg,Ws];exact hrl
 have hba:=kv b.toZ;refine Cgo Tryz.func157 rfl rfl rfl (Rg<|Ol<|R9 C rfl ?_);intro g7 w8 x9 fP et ei bR ae;have h3:=h3.sp bR;have h6:=h6.sp bR;refine Ol (R9 ei rfl ?_);intro bS fR fS fT eu ej bi al;have ae:=ae.spn bi;refine Ol (RR ej io40 rfl ?_);intro H fU fV fW ev ek a7 k;have h3:=(h3.sp bi).sp a7;have h6:=(h6.sp bi).sp a7;refine Ol (RR ek io40 rfl ?_);intro bT bU el em bY en ar f;have am:=bY _ k.blk.lt;have ae:=(ae.spn a7).spn ar;have al:=(al.spn a7).spn ar;have k:=k.spn ar;refine Nl<|RZ<|SY mixed 6 [[],[0],[],[2],[],[]] ((el,em),lR) (RL X w) [fx<|.agg #[(.bool a.neg),(.slice a1 a.mag.length c2)],fun(s:GhL) (v:Value) (w':World)=>RV Jo s.1.1 w' v<|ofZ a.toZ,fx<|.agg #[(.bool b.neg),(.slice a4 b.mag.length c5)],fun(s:GhL) (v:Value) (w':World)=>RV Jo s.1.1 w' v<|ofZ b.toZ,fun(s:GhL) (v:Value) (w':World)=>∃g':Nat,v= .pointer (some ⟨g',0,none⟩)∧Own w s.1.2 w' g' [(.bool false),(.slice none 0 0)] 40∧bU.heap.size≤g'∧s.2 g'=some 4,fun(s:GhL) (v:Value) (w':World)=>∃g':Nat,v= .pointer (some ⟨g',0,none⟩)∧Own w s.1.2 w' g' [(.bool false),(.slice none 0 0)] 40∧bU.heap.size≤g'∧s.2 g'=some 5] (by kernel_rfl) (TU en) RL.trans ⟨sx,(fun _ _ _ _ _ h r=>RV.tr h r.rc.sp.tx),sx,(fun _ _ _ _ _ h r=>RV.tr h r.rc.sp.tx),(fun _ _ _ _ _ ⟨g,e,o,l,q⟩ r=>⟨g,e,o.spn r.rc.sp,l,r.ext _ _ q⟩),(fun _ _ _ _ _ ⟨g,e,o,l,q⟩ r=>⟨g,e,o.spn r.rc.sp,l,r.ext _ _ q⟩),trivial⟩ fun eo an fX a8 Y=>?_
 have Z:=a8.rc.cx;have ag:=a8.rc.sp;have bj:=ae.blk.lt;have bk:=al.blk.lt;have bl:=k.blk.lt;have bm:=f.blk.lt;have au:=ag.tx.size;have h3:=(h3.sp ar).sp ag;have h6:=(h6.sp ar).sp ag;have ae:=ae.spn ag;have al:=al.spn ag;have k:=k.spn ag;have f:=f.spn ag;have Y:Keep [11,12,13,14,6,7] _ eo:=Y;refine⟨⟨fun _=>?_,fun⟨ep,_⟩=>?_,fun _=>?_,fun⟨eq,_⟩=>?_,fun _=>?_,fun _=>?_,trivial⟩,fun⟨bZ,b0,b1,b2,b3,b4,_⟩=>?_⟩
 ·exact Sd0 Y fun _=>RX (vs:=(zzC a a1 c2)) ae ag40 rfl rfl rfl ⟨an,RL.same Z,rfl⟩
 ·refine Sd1 Y ep fun _=>RH Z cb47 rfl rfl (Ql Z.bd (a:=a) (Je h3) (by omega)) ?_;intro ew ex b5 b6 b7;exact⟨an,TS ⟨b5,b6⟩,b7⟩
 ·exact Sd0 Y fun _=>RX (vs:=(zzC b a4 c5)) al ag40 rfl rfl rfl ⟨an,RL.same Z,rfl⟩
 ·refine Sd1 Y eq fun _=>RH Z cb47 rfl rfl (Ql Z.bd (a:=b) (Je h6) (by omega)) ?_;intro ey ez b8 b9 ca;exact⟨an,TS ⟨b8,b9⟩,ca⟩
 ·refine Sd0 Y fun _=>RR Z io40 rfl ?_;intro bn eA cb cc a9 cd ce bo;exact⟨((cb,cc),lab an.2 bn 4),RL.new (a8.bd fun _ _ h=>by cases h) ⟨cd,ce⟩ (ZB fun hh=>a9 _ hh rfl) bo.blk.lt,bn,rfl,bo,ZB fun hh=>a9 _ (UB hh au) rfl,Kt _ _ _⟩
 ·refine Sd0 Y fun _=>RR Z io40 rfl ?_;intro bp eB cf cg ba ch ci bq;exact⟨((cf,cg),lab an.2 bp 5),RL.new (a8.bd fun _ _ h=>by cases h) ⟨ch,ci⟩ (ZB fun hh=>ba _ hh rfl) bq.blk.lt,bp,rfl,bq,ZB fun hh=>ba _ (UB hh au) rfl,Kt _ _ _⟩
 obtain⟨cj,ck,cl,ax⟩:=RV.int b0;obtain⟨ay,az,cm,I⟩:=RV.int b2;obtain⟨R,cn,co,ao,cp⟩:=b3;have eC:g7≠R:=ZO (UB bj ao);have eD:bS≠R:=ZO (UB bk ao);have aA:H≠R:=ZO (UB bl ao);have cq:bT≠R:=ZO (UB bm ao);obtain⟨Q,cr,aB,aq,ct⟩:=b4;have eE:g7≠Q:=ZO (UB bj aq);have eG:bS≠Q:=ZO (UB bk aq);have aD:H≠Q:=ZO (UB bl aq);have cu:bT≠Q:=ZO (UB bm aq);have br:R≠Q:=vk cp ct rfl;obtain⟨eH,rfl⟩:=mixK Y (aC bZ<|aC cl<|aC b1<|aC cm<|aC cn<|aC cr aN);refine On (Us (cs':=(zzC (ofZ a.toZ) cj ck)) Z co io40 ?_);intro eI cw ah i;have aB:=aB.spo ah (UQ br);refine On (Us (cs':=(zzC (ofZ b.toZ) ay az)) cw aB io40 ?_);intro eJ bs ai d;have ax:=(ax.sp ah).sp ai;have I:=(I.sp ah).sp ai;have k:=(k.spo ah aA).spo ai aD;have f:=(f.spo ah cq).spo ai cu;have i:=i.spo ai br;refine Nl (Rg<|Ol<|RI J4 rfl<|Ol<|RN i pl38 rfl rfl<|Ol<|RI J4 rfl<|Ol<|RN d pl38 rfl rfl<|Ol<|RH bs OY rfl rfl (uc bs.bd ax I (Vi _) (Vi _) (FL hbz) (by omega) (by omega)) ?_);intro eK eL bt aj cy;have I:=I.sp aj;obtain⟨eM,eN,rfl,y,bu⟩:=cy;obtain⟨aE,aF,rfl,_,_⟩:=y.len;obtain⟨eO,eP,rfl,_,_⟩:=bu.len;refine Om (Ol<|St.extract rfl rfl<|Ol<|St.extract rfl rfl<|Oa<|Ua<|Rg<|Ub<|RH bt cb89 rfl rfl (Yt bt.bd bu (by omega)) ?_);intro eQ eR cz ab cB;have k:=(k.spn aj).spn ab;have f:=(f.spn aj).spn ab;have i:=(i.spn aj).spn ab;have d:=(d.spn aj).spn ab;obtain⟨N,P,rfl,E⟩:=RV.int cB;refine Ol (RR cz io40 rfl ?_);intro eS eT bv bw af cC U cD;have aG:=af _ k.blk.lt;have aH:=af _ f.blk.lt;have cE:=af _ i.blk.lt;have aI:=af _ d.blk.lt;have I:=(I.sp ab).sp U;have y:=(y.sp ab).sp U;have f:=f.spn U;have d:=d.spn U;refine On (Us (cs':=(zzC (ofZ<|Jh false<|val<|digs<|val (ofZ a.toZ).mag%val (ofZ b.toZ).mag) N P)) cC cD io40 ?_);intro eU aJ n J;have E:=(E.sp U).sp n;have k:=(k.spn U).spo n aG;have i:=(i.spn U).spo n cE;refine Nl<|Rh<|Ol<|RI Zp rfl<|Ol<|Sm<|RN i pl4 rfl rfl ⟨_,rfl,fun aa=>?_,fun aa=>?_⟩
 ·refine Om<|OgD<|RI J4 rfl<|OgD<|RN J pl38 rfl rfl<|OgD<|St.len sl38 rfl<|OgD<|Sx rfl rfl (fun bO=>?_)<|fun bO=>?_
  ·refine OT<|Nl<|Ud<|RZ<|Sg mixed 10 [[],[0],[1],[],[],[3,4],[2,5],[],[7],[]] aJ [fx<|.pointer (some ⟨Q,0,none⟩),fx<|.bool (ofZ b.toZ).neg,fx<|.bool (!(ofZ b.toZ).neg),fx<|.slice aE (dvQ (ofZ a.toZ).mag (ofZ b.toZ).mag).length aF,fs Jd [1],fs Jd<|Jx (max (dvQ (ofZ a.toZ).mag (ofZ b.toZ).mag).length [1].length+1)<|val (dvQ (ofZ a.toZ).mag (ofZ b.toZ).mag)+val [1],fr Jo<|ofZ<|Jh (!(ofZ b.toZ).neg)<|val<|Jx (max (dvQ (ofZ a.toZ).mag (ofZ b.toZ).mag).length [1].length+1)<|val (dvQ (ofZ a.toZ).mag (ofZ b.toZ).mag)+val [1],fx<|.agg #[(.bool (ofZ b.toZ).neg),(.slice ay (ofZ b.toZ).mag.length az)],fr Jo<|ofZ (b.toZ.natAbs:Int),fx<|.agg #[(.bool (ofZ<|Jh false<|val<|digs<|val (ofZ a.toZ).mag%val (ofZ b.toZ).mag).neg),(.slice N (ofZ<|Jh false<|val<|digs<|val (ofZ a.toZ).mag%val (ofZ b.toZ).mag).mag.length P)]] (by kernel_rfl) ⟨sx,sx,sx,sx,ss,ss,sr,sx,sr,sx,trivial⟩ fun cF K eV ⟨j,V⟩ x=>?_
   have I:=(I.sp n).sp V;have y:=(y.sp n).sp V;have E:=E.sp V;have f:=(f.spo n aH).spn V;have d:=(d.spo n aI).spn V;have J:=J.spn V;have x:Keep [33,34,35,36,37,38,39,40,41,42] _ cF:=x;refine⟨⟨fun _=>?_,fun⟨cG,_⟩=>?_,fun⟨cH,_⟩=>?_,fun _=>?_,fun _=>?_,fun⟨cI,aK,_⟩=>?_,fun⟨cJ,aL,_⟩=>?_,fun _=>?_,fun⟨cK,_⟩=>?_,fun _=>?_,trivial⟩,fun⟨cL,cM,cN,cO,bx,bz,cP,cQ,cR,cS,_⟩=>?_⟩
   ·exact Sd0 x fun _=>RI Zp rfl ⟨K,RJ j,rfl⟩
   ·exact Sd1 x cG fun _=>RN d pl4 rfl rfl ⟨K,RJ j,rfl⟩
   ·exact Sd1 x cH fun _=>Sr rfl ⟨K,RJ j,rfl⟩
   ·exact Sd0 x fun _=>RP ⟨K,RJ j,rfl⟩
   ·refine Sd0 x fun _=>Sl (T:=Jd) (css:=[[(.int .u32 1)]]) (l:=[1]) j sl38 io96 (by decide) (by decide) rfl (by kernel_rfl) ⟨⟨rfl,(by omega)⟩,trivial⟩ ?_;intro eW eX cT cU cV;exact⟨K,⟨cT,cU⟩,cV⟩
   ·obtain⟨eY,eZ,cW,aK⟩:=TQ aK;refine Js x (aC cI<|aC cW aN) fun _=>R8 (RH j IC rfl rfl (CE j.bd y aK (by omega) (by simp)) ?_);intro e0 e1 cX cY cZ;exact⟨K,⟨cX,cY⟩,cZ⟩
   ·obtain⟨e2,e3,c0,aL⟩:=TQ aL;refine Js x (aC cJ<|aC c0 aN) fun _=>R8 (RH j cb89 rfl rfl (Yt j.bd aL (by rw[Jg];simp only[Uw,Ux];omega)) ?_);intro e4 e5 c1 c3 c4;exact⟨K,⟨c1,c3⟩,c4⟩
   ·exact Sd0 x fun _=>RX (vs:=(zzC (ofZ b.toZ) ay az)) d ag40 rfl rfl rfl ⟨K,RJ j,rfl⟩
   ·refine Sd1 x cK fun _=>RH j ET rfl rfl (E7 j.bd (a:=(ofZ b.toZ)) (Je I) (by omega)) ?_;intro e6 e7 c6 c7 bA;simp only[Jl,Zq] at bA;exact⟨K,⟨c6,c7⟩,bA⟩
   ·exact Sd0 x fun _=>RX (vs:=(zzC (ofZ<|Jh false<|val<|digs<|val (ofZ a.toZ).mag%val (ofZ b.toZ).mag) N P)) J ag40 rfl rfl rfl ⟨K,RJ j,rfl⟩
   obtain⟨e8,e9,c8,bx⟩:=TQ bx;obtain⟨fa,fb,c9,bz⟩:=TQ bz;obtain⟨da,db,dc,ak⟩:=RV.int cP;obtain⟨fc,fd,dd,de⟩:=RV.int cR;obtain⟨ff,rfl⟩:=mixK x (aC cL<|aC cM<|aC cN<|aC cO<|aC c8<|aC c9<|aC dc<|aC cQ<|aC dd<|aC cS aN);refine Ol (RH j Px rfl rfl (PX j.bd (a:=(ofZ (b.toZ.natAbs:Int))) (Je de) (b:=(ofZ<|Jh false<|val<|digs<|val (ofZ a.toZ).mag%val (ofZ b.toZ).mag)) (Je E) (by rw[hba];omega) (by omega)) ?_);intro fg fh df aM bB;have ak:=ak.sp aM;have k:=(k.spn V).spn aM;simp only[Jl,Zq] at bB;obtain⟨dg,dh,rfl,aO⟩:=RV.int bB;refine On (Us (cs':=(zzC (ofZ<|Jh (!(ofZ b.toZ).neg)<|val<|Jx (max (dvQ (ofZ a.toZ).mag (ofZ b.toZ).mag).length [1].length+1)<|val (dvQ (ofZ a.toZ).mag (ofZ b.toZ).mag)+val [1]) da db)) df k io40 ?_);intro fi di aP aQ;have f:=(f.spn aM).spo aP (UQ am);refine On (Us (cs':=(zzC (ofZ<|(b.toZ.natAbs:Int)-(Jh false<|val<|digs<|val (ofZ a.toZ).mag%val (ofZ b.toZ).mag)) dg dh)) di f io40 ?_);intro fj aR aS dj;have ak:=(ak.sp aP).sp aS;have aO:=(aO.sp aP).sp aS;have aQ:=aQ.spo aS am;refine Nl (RY<|Z4 rfl (TL aQ rfl ag40 rfl) (TL dj rfl ag40 rfl)<|RM ?_ aR.below);refine⟨_,_,rfl,?_,?_⟩
   ·exact TM (a:=(ofZ<|Jh (!(ofZ b.toZ).neg)<|val<|Jx (max (dvQ (ofZ a.toZ).mag (ofZ b.toZ).mag).length [1].length+1)<|val (dvQ (ofZ a.toZ).mag (ofZ b.toZ).mag)+val [1])) ((Je ak).tr (Tr.weak aR.base))<|congrArg ofZ (by rw[Ze _ _<|iF rN sZ,ni<|Kk hbz,show val [1]=1 from rfl];exact(Dk hbz aa (fun e=>by have:=a6.2 e;omega)).1)
   ·exact TM (a:=(ofZ<|(b.toZ.natAbs:Int)-(Jh false<|val<|digs<|val (ofZ a.toZ).mag%val (ofZ b.toZ).mag))) ((Je aO).tr (Tr.weak aR.base))<|congrArg ofZ (by rw[Jw,Yh];exact(Dk hbz aa (fun e=>by have:=a6.2 e;omega)).2)
  refine OT (Nl<|Uc<|RZ ?_);have bP:=k;have B:∀(s:Gh) (u:World) (s2:Gh) (u2:World),Sp s.1 s.2 u s2.1 s2.2 u2 Zt→(fun(s:Gh) (w':World)=>∃(a1':Option Addr) (c1':Nat),Own w s.2 w' H (zzC (ofZ<|Jh ((ofZ a.toZ).neg != (ofZ b.toZ).neg)<|val<|dvQ (ofZ a.toZ).mag (ofZ b.toZ).mag) a1' c1') 40∧RS Jd s.1 w' (.slice a1' (ofZ<|Jh ((ofZ a.toZ).neg != (ofZ b.toZ).neg)<|val<|dvQ (ofZ a.toZ).mag (ofZ b.toZ).mag).mag.length c1') ((ofZ<|Jh ((ofZ a.toZ).neg != (ofZ b.toZ).neg)<|val<|dvQ (ofZ a.toZ).mag (ofZ b.toZ).mag).mag)) s u→(fun(s:Gh) (w':World)=>∃(a1':Option Addr) (c1':Nat),Own w s.2 w' H (zzC (ofZ<|Jh ((ofZ a.toZ).neg != (ofZ b.toZ).neg)<|val<|dvQ (ofZ a.toZ).mag (ofZ b.toZ).mag) a1' c1') 40∧RS Jd s.1 w' (.slice a1' (ofZ<|Jh ((ofZ a.toZ).neg != (ofZ b.toZ).neg)<|val<|dvQ (ofZ a.toZ).mag (ofZ b.toZ).mag).mag.length c1') ((ofZ<|Jh ((ofZ a.toZ).neg != (ofZ b.toZ).neg)<|val<|dvQ (ofZ a.toZ).mag (ofZ b.toZ).mag).mag)) s2 u2:=fun _ _ _ _ p ⟨a1',c1',o,r0⟩=>⟨a1',c1',o.spn p,r0.sp p⟩;refine Th mixed 9 8 [[],[0],[],[2],[1,3],[],[4,5],[],[6]] (bv,bw) (RW X w H (fun(s:Gh) (w':World)=>∃(a1':Option Addr) (c1':Nat),Own w s.2 w' H (zzC (ofZ<|Jh ((ofZ a.toZ).neg != (ofZ b.toZ).neg)<|val<|dvQ (ofZ a.toZ).mag (ofZ b.toZ).mag) a1' c1') 40∧RS Jd s.1 w' (.slice a1' (ofZ<|Jh ((ofZ a.toZ).neg != (ofZ b.toZ).neg)<|val<|dvQ (ofZ a.toZ).mag (ofZ b.toZ).mag).mag.length c1') ((ofZ<|Jh ((ofZ a.toZ).neg != (ofZ b.toZ).neg)<|val<|dvQ (ofZ a.toZ).mag (ofZ b.toZ).mag).mag))) [fx<|.pointer (some ⟨R,0,none⟩),fx<|.bool (ofZ a.toZ).neg,fx<|.pointer (some ⟨Q,0,none⟩),fx<|.bool (ofZ b.toZ).neg,fx<|.bool ((ofZ a.toZ).neg != (ofZ b.toZ).neg),fx<|.slice aE (dvQ (ofZ a.toZ).mag (ofZ b.toZ).mag).length aF,fr Jo<|ofZ<|Jh ((ofZ a.toZ).neg != (ofZ b.toZ).neg)<|val<|dvQ (ofZ a.toZ).mag (ofZ b.toZ).mag,fx<|.agg #[(.bool (ofZ<|Jh false<|val<|digs<|val (ofZ a.toZ).mag%val (ofZ b.toZ).mag).neg),(.slice N (ofZ<|Jh false<|val<|digs<|val (ofZ a.toZ).mag%val (ofZ b.toZ).mag).mag.length P)],fun(s:Gh) (_:Value) (w':World)=>∃(a1':Option Addr) (c1':Nat),Own w s.2 w' H (zzC (ofZ<|Jh ((ofZ a.toZ).neg != (ofZ b.toZ).neg)<|val<|dvQ (ofZ a.toZ).mag (ofZ b.toZ).mag) a1' c1') 40∧RS Jd s.1 w' (.slice a1' (ofZ<|Jh ((ofZ a.toZ).neg != (ofZ b.toZ).neg)<|val<|dvQ (ofZ a.toZ).mag (ofZ b.toZ).mag).mag.length c1') ((ofZ<|Jh ((ofZ a.toZ).neg != (ofZ b.toZ).neg)<|val<|dvQ (ofZ a.toZ).mag (ofZ b.toZ).mag).mag)] (by kernel_rfl) (TR B<|SS aJ) RW.trans ⟨sx,sx,sx,sx,sx,sx,(fun _ _ _ _ _ h r=>RV.tr h r.sp.tx),sx,(fun _ _ _ _ _ h r=>r.tn h),trivial⟩ (fun _ _ _ _ h=>h) fun dk L fk aU z=>?_
  have F:=aU.cx;have ac:=aU.sp;have y:=(y.sp n).sp ac;have f:=(f.spo n aH).spo ac (UQ am);have i:=i.spo ac (UQ aA);have d:=(d.spo n aI).spo ac (UQ aD);have J:=J.spo ac (UQ aG);have z:Keep [44,45,46,47,48,49,50,51] _ dk:=z;refine⟨⟨fun _=>?_,fun⟨dm,_⟩=>?_,fun _=>?_,fun⟨dn,_⟩=>?_,fun⟨dp,dq,_⟩=>?_,fun _=>?_,fun⟨ds,dt,_⟩=>?_,fun _=>?_,fun⟨du,_⟩=>?_,trivial⟩,fun⟨dv,dw,dx,dy,dz,dB,dC,dD,dE,_⟩=>?_⟩
  ·exact Sd0 z fun _=>RI Zp rfl ⟨L,TR B<|RJ F,rfl⟩
  ·exact Sd1 z dm fun _=>RN i pl4 rfl rfl ⟨L,TR B<|RJ F,rfl⟩
  ·exact Sd0 z fun _=>RI Zp rfl ⟨L,TR B<|RJ F,rfl⟩
  ·exact Sd1 z dn fun _=>RN d pl4 rfl rfl ⟨L,TR B<|RJ F,rfl⟩
  ·exact Js z (aC dp<|aC dq aN) fun _=>R8<|SQ un4 rfl rfl rfl ⟨L,TR B<|RJ F,rfl⟩
  ·exact Sd0 z fun _=>RP ⟨L,TR B<|RJ F,rfl⟩
  ·refine Js z (aC ds<|aC dt aN) fun _=>R8 (RH F cb89 rfl rfl (Yt F.bd y (by omega)) ?_);intro fl fm dG dH dI;exact⟨L,TR B ⟨dG,dH⟩,dI⟩
  ·exact Sd0 z fun _=>RX (vs:=(zzC (ofZ<|Jh false<|val<|digs<|val (ofZ a.toZ).mag%val (ofZ b.toZ).mag) N P)) J ag40 rfl rfl rfl ⟨L,TR B<|RJ F,rfl⟩
  ·obtain⟨bD,bE,dJ,dK⟩:=RV.int du;obtain⟨er,bb,bF⟩:=aU.ow _ _ bP;refine Sd1 z dJ fun _=>S1 (vs:=(zzC (ofZ<|Jh ((ofZ a.toZ).neg != (ofZ b.toZ).neg)<|val<|dvQ (ofZ a.toZ).mag (ofZ b.toZ).mag) bD bE)) F bF io40 rfl rfl rfl (by rw[bb]<;>rfl) rfl ?_;intro dL dM bG bH;have hq:(fun(s:Gh) (w':World)=>∃(a1':Option Addr) (c1':Nat),Own w s.2 w' H (zzC (ofZ<|Jh ((ofZ a.toZ).neg != (ofZ b.toZ).neg)<|val<|dvQ (ofZ a.toZ).mag (ofZ b.toZ).mag) a1' c1') 40∧RS Jd s.1 w' (.slice a1' (ofZ<|Jh ((ofZ a.toZ).neg != (ofZ b.toZ).neg)<|val<|dvQ (ofZ a.toZ).mag (ofZ b.toZ).mag).mag.length c1') ((ofZ<|Jh ((ofZ a.toZ).neg != (ofZ b.toZ).neg)<|val<|dvQ (ofZ a.toZ).mag (ofZ b.toZ).mag).mag)) L dL:=⟨bD,bE,bH,dK.sp bG⟩;exact⟨L,RW.turn dM bG bF bH (by rw[bb]<;>rfl) hq,hq⟩
  obtain⟨fn,fp,dN,fq⟩:=RV.int dC;obtain⟨ft,fu,aV,aW⟩:=dE;obtain⟨fv,rfl⟩:=mixK z (aC dv<|aC dw<|aC dx<|aC dy<|aC dz<|aC dB<|aC dN<|aC dD aN);refine On (Us (cs':=(zzC (ofZ<|Jh false<|val<|digs<|val (ofZ a.toZ).mag%val (ofZ b.toZ).mag) N P)) F f io40 ?_);intro fw aX aY dO;have E:=(E.sp ac).sp aY;have aW:=aW.sp aY;have aV:=aV.spo aY am;refine Nl (RY<|Z4 rfl (TL aV rfl ag40 rfl) (TL dO rfl ag40 rfl)<|RM ?_ aX.below);refine⟨_,_,rfl,?_,?_⟩
  ·exact TM (a:=(ofZ<|Jh ((ofZ a.toZ).neg != (ofZ b.toZ).neg)<|val<|dvQ (ofZ a.toZ).mag (ofZ b.toZ).mag)) ((Je aW).tr (Tr.weak aX.base))<|congrArg ofZ (by rw[ni<|Kk hbz];exact(pF hbz<|.inr (a6.1 (by omega))).1)
  ·exact TM (a:=(ofZ<|Jh false<|val<|digs<|val (ofZ a.toZ).mag%val (ofZ b.toZ).mag)) ((Je E).tr (Tr.weak aX.base))<|congrArg ofZ (by rw[Jw,Yh];exact(pF hbz<|.inr (a6.1 (by omega))).2)
 refine Om (Oz<|Oz<|Oz<|Oz<|OF<|Nl<|Uc<|RZ ?_);have bQ:=k;have D:∀(s:Gh) (u:World) (s2:Gh) (u2:World),Sp s.1 s.2 u s2.1 s2.2 u2 Zt→(fun(s:Gh) (w':World)=>∃(a1':Option Addr) (c1':Nat),Own w s.2 w' H (zzC (ofZ<|Jh ((ofZ a.toZ).neg != (ofZ b.toZ).neg)<|val<|dvQ (ofZ a.toZ).mag (ofZ b.toZ).mag) a1' c1') 40∧RS Jd s.1 w' (.slice a1' (ofZ<|Jh ((ofZ a.toZ).neg != (ofZ b.toZ).neg)<|val<|dvQ (ofZ a.toZ).mag (ofZ b.toZ).mag).mag.length c1') ((ofZ<|Jh ((ofZ a.toZ).neg != (ofZ b.toZ).neg)<|val<|dvQ (ofZ a.toZ).mag (ofZ b.toZ).mag).mag)) s u→(fun(s:Gh) (w':World)=>∃(a1':Option Addr) (c1':Nat),Own w s.2 w' H (zzC (ofZ<|Jh ((ofZ a.toZ).neg != (ofZ b.toZ).neg)<|val<|dvQ (ofZ a.toZ).mag (ofZ b.toZ).mag) a1' c1') 40∧RS Jd s.1 w' (.slice a1' (ofZ<|Jh ((ofZ a.toZ).neg != (ofZ b.toZ).neg)<|val<|dvQ (ofZ a.toZ).mag (ofZ b.toZ).mag).mag.length c1') ((ofZ<|Jh ((ofZ a.toZ).neg != (ofZ b.toZ).neg)<|val<|dvQ (ofZ a.toZ).mag (ofZ b.toZ).mag).mag)) s2 u2:=fun _ _ _ _ p ⟨a1',c1',o,r0⟩=>⟨a1',c1',o.spn p,r0.sp p⟩;refine Th mixed 9 8 [[],[0],[],[2],[1,3],[],[4,5],[],[6]] (bv,bw) (RW X w H (fun(s:Gh) (w':World)=>∃(a1':Option Addr) (c1':Nat),Own w s.2 w' H (zzC (ofZ<|Jh ((ofZ a.toZ).neg != (ofZ b.toZ).neg)<|val<|dvQ (ofZ a.toZ).mag (ofZ b.toZ).mag) a1' c1') 40∧RS Jd s.1 w' (.slice a1' (ofZ<|Jh ((ofZ a.toZ).neg != (ofZ b.toZ).neg)<|val<|dvQ (ofZ a.toZ).mag (ofZ b.toZ).mag).mag.length c1') ((ofZ<|Jh ((ofZ a.toZ).neg != (ofZ b.toZ).neg)<|val<|dvQ (ofZ a.toZ).mag (ofZ b.toZ).mag).mag))) [fx<|.pointer (some ⟨R,0,none⟩),fx<|.bool (ofZ a.toZ).neg,fx<|.pointer (some ⟨Q,0,none⟩),fx<|.bool (ofZ b.toZ).neg,fx<|.bool ((ofZ a.toZ).neg != (ofZ b.toZ).neg),fx<|.slice aE (dvQ (ofZ a.toZ).mag (ofZ b.toZ).mag).length aF,fr Jo<|ofZ<|Jh ((ofZ a.toZ).neg != (ofZ b.toZ).neg)<|val<|dvQ (ofZ a.toZ).mag (ofZ b.toZ).mag,fx<|.agg #[(.bool (ofZ<|Jh false<|val<|digs<|val (ofZ a.toZ).mag%val (ofZ b.toZ).mag).neg),(.slice N (ofZ<|Jh false<|val<|digs<|val (ofZ a.toZ).mag%val (ofZ b.toZ).mag).mag.length P)],fun(s:Gh) (_:Value) (w':World)=>∃(a1':Option Addr) (c1':Nat),Own w s.2 w' H (zzC (ofZ<|Jh ((ofZ a.toZ).neg != (ofZ b.toZ).neg)<|val<|dvQ (ofZ a.toZ).mag (ofZ b.toZ).mag) a1' c1') 40∧RS Jd s.1 w' (.slice a1' (ofZ<|Jh ((ofZ a.toZ).neg != (ofZ b.toZ).neg)<|val<|dvQ (ofZ a.toZ).mag (ofZ b.toZ).mag).mag.length c1') ((ofZ<|Jh ((ofZ a.toZ).neg != (ofZ b.toZ).neg)<|val<|dvQ (ofZ a.toZ).mag (ofZ b.toZ).mag).mag)] (by kernel_rfl) (TR D<|SS aJ) RW.trans ⟨sx,sx,sx,sx,sx,sx,(fun _ _ _ _ _ h r=>RV.tr h r.sp.tx),sx,(fun _ _ _ _ _ h r=>r.tn h),trivial⟩ (fun _ _ _ _ h=>h) fun dP M fy aZ A=>?_
 have G:=aZ.cx;have ad:=aZ.sp;have y:=(y.sp n).sp ad;have f:=(f.spo n aH).spo ad (UQ am);have i:=i.spo ad (UQ aA);have d:=(d.spo n aI).spo ad (UQ aD);have J:=J.spo ad (UQ aG);have A:Keep [44,45,46,47,48,49,50,51] _ dP:=A;refine⟨⟨fun _=>?_,fun⟨dQ,_⟩=>?_,fun _=>?_,fun⟨dR,_⟩=>?_,fun⟨dS,dT,_⟩=>?_,fun _=>?_,fun⟨dU,dV,_⟩=>?_,fun _=>?_,fun⟨dW,_⟩=>?_,trivial⟩,fun⟨dX,dY,dZ,d0,d1,d2,d3,d4,d5,_⟩=>?_⟩
 ·exact Sd0 A fun _=>RI Zp rfl ⟨M,TR D<|RJ G,rfl⟩
 ·exact Sd1 A dQ fun _=>RN i pl4 rfl rfl ⟨M,TR D<|RJ G,rfl⟩
 ·exact Sd0 A fun _=>RI Zp rfl ⟨M,TR D<|RJ G,rfl⟩
 ·exact Sd1 A dR fun _=>RN d pl4 rfl rfl ⟨M,TR D<|RJ G,rfl⟩
 ·exact Js A (aC dS<|aC dT aN) fun _=>R8<|SQ un4 rfl rfl rfl ⟨M,TR D<|RJ G,rfl⟩
 ·exact Sd0 A fun _=>RP ⟨M,TR D<|RJ G,rfl⟩
 ·refine Js A (aC dU<|aC dV aN) fun _=>R8 (RH G cb89 rfl rfl (Yt G.bd y (by omega)) ?_);intro fB fC d6 d7 d8;exact⟨M,TR D ⟨d6,d7⟩,d8⟩
 ·exact Sd0 A fun _=>RX (vs:=(zzC (ofZ<|Jh false<|val<|digs<|val (ofZ a.toZ).mag%val (ofZ b.toZ).mag) N P)) J ag40 rfl rfl rfl ⟨M,TR D<|RJ G,rfl⟩
 ·obtain⟨bJ,bK,d9,ea⟩:=RV.int dW;obtain⟨es,be,bL⟩:=aZ.ow _ _ bQ;refine Sd1 A d9 fun _=>S1 (vs:=(zzC (ofZ<|Jh ((ofZ a.toZ).neg != (ofZ b.toZ).neg)<|val<|dvQ (ofZ a.toZ).mag (ofZ b.toZ).mag) bJ bK)) G bL io40 rfl rfl rfl (by rw[be]<;>rfl) rfl ?_;intro eb ec bM bN;have hq:(fun(s:Gh) (w':World)=>∃(a1':Option Addr) (c1':Nat),Own w s.2 w' H (zzC (ofZ<|Jh ((ofZ a.toZ).neg != (ofZ b.toZ).neg)<|val<|dvQ (ofZ a.toZ).mag (ofZ b.toZ).mag) a1' c1') 40∧RS Jd s.1 w' (.slice a1' (ofZ<|Jh ((ofZ a.toZ).neg != (ofZ b.toZ).neg)<|val<|dvQ (ofZ a.toZ).mag (ofZ b.toZ).mag).mag.length c1') ((ofZ<|Jh ((ofZ a.toZ).neg != (ofZ b.toZ).neg)<|val<|dvQ (ofZ a.toZ).mag (ofZ b.toZ).mag).mag)) M eb:=⟨bJ,bK,bN,ea.sp bM⟩;exact⟨M,RW.turn ec bM bL bN (by rw[be]<;>rfl) hq,hq⟩
 obtain⟨fD,fF,ed,fG⟩:=RV.int d3;obtain⟨fH,fJ,a0,a2⟩:=d5;obtain⟨fK,rfl⟩:=mixK A (aC dX<|aC dY<|aC dZ<|aC d0<|aC d1<|aC d2<|aC ed<|aC d4 aN);refine On (Us (cs':=(zzC (ofZ<|Jh false<|val<|digs<|val (ofZ a.toZ).mag%val (ofZ b.toZ).mag) N P)) G f io40 ?_);intro fM a3 a5 ee;have E:=(E.sp ad).sp a5;have a2:=a2.sp a5;have a0:=a0.spo a5 am;refine Nl (RY<|Z4 rfl (TL a0 rfl ag40 rfl) (TL ee rfl ag40 rfl)<|RM ?_ a3.below);refine⟨_,_,rfl,?_,?_⟩
 ·exact TM (a:=(ofZ<|Jh ((ofZ a.toZ).neg != (ofZ b.toZ).neg)<|val<|dvQ (ofZ a.toZ).mag (ofZ b.toZ).mag)) ((Je a2).tr (Tr.weak a3.base))<|congrArg ofZ (by rw[ni<|Kk hbz];exact(pF hbz<|.inl aa).1)
 ·exact TM (a:=(ofZ<|Jh false<|val<|digs<|val (ofZ a.toZ).mag%val (ofZ b.toZ).mag)) ((Je E).tr (Tr.weak a3.base))<|congrArg ofZ (by rw[Jw,Yh];exact(pF hbz<|.inl aa).2)
theorem Vm{X:Nat→Prop}{w:World}(hX:XB X w){F:Value}{a:GInt}(r0:RV Jo X w F a){G:Value}{b:GInt}(r1:RV Jo X w G b)(hla:a.mag.length≤536870912)(hlb:b.mag.length≤536870912)(H:val b.mag≠0):CRt 110 #[F,G] w fun v w'=>RV Jo X w' v (ofZ (a.toZ/b.toZ)):=by
 obtain⟨I,J,rfl,h⟩:=RV.int r0;obtain⟨K,c5,rfl,i⟩:=RV.int r1;have C:=Cx.start hX;refine Cgo Tryz.func110 rfl rfl rfl (Rg<|Ol<|R9 C rfl ?_);intro g7 w8 x9 al ai L y j;have h:=h.sp y;have i:=i.sp y;refine Ol (R9 L rfl ?_);intro am an ao aq aj M k l;refine Ol (RR M io40 rfl ?_);intro ar au av aw ak z f d;have h:=(h.sp k).sp f;have i:=(i.sp k).sp f;have j:=(j.spn k).spn f;have l:=l.spn f;refine Nl (Rg<|Ol<|Uo (vs:=(zzC a I J)) j ag40<|Ol<|Uo (vs:=(zzC b K c5)) l ag40<|Ol<|RH z Dv rfl rfl (jQ z.bd (a:=a) (Je h) (b:=b) (Je i) hla hlb H) ?_);intro ax ay N P Q;have d:=d.spn P;obtain⟨az,aA,rfl,R,T⟩:=Q;obtain⟨m,n,rfl,e⟩:=RV.int R;obtain⟨U,V,rfl,aB⟩:=RV.int T;refine Om (Ol<|St.extract rfl rfl<|Ol<|St.extract rfl rfl<|Ol<|RR N io40 rfl ?_);intro aD aE aF aG E Y A g;have Z:=E _ d.blk.lt;have e:=e.sp A;have d:=d.spn A;refine Ol (RR Y io40 rfl ?_);intro aH aI aJ aK o aa p r;have ab:=o _ d.blk.lt;have B:=o _ g.blk.lt;have d:=d.spn p;have g:=g.spn p;refine On (Us (cs':=(zzC (ofZ<|a.toZ/b.toZ) m n)) aa g io40 ?_);intro aL ac s u;have e:=(e.sp p).sp s;have r:=r.spo s (UQ B);refine On (Us (cs':=(zzC (ofZ<|a.toZ%b.toZ) U V)) ac r io40 ?_);intro aM ad x aO;have d:=(d.spo s Z).spo x ab;have u:=u.spo x B;refine Nl (Rg<|Ol<|Uo (vs:=(zzC (ofZ<|a.toZ/b.toZ) m n)) u ag40<|On<|Us (cs':=(zzC (ofZ<|a.toZ/b.toZ) m n)) ad d io40 ?_);intro aP D ae af;have e:=(e.sp x).sp ae;refine Nl (RY<|J0 rfl (TL af rfl ag40 rfl)<|RM ?_ D.below);exact TM (a:=(ofZ<|a.toZ/b.toZ)) ((Je e).tr (Tr.weak D.base)) rfl
theorem P0{X:Nat→Prop}{w:World}(hX:XB X w){v0:Value}{a:GInt}(r0:RV Jo X w v0 a){v1:Value}{b:GInt}(r1:RV Jo X w v1 b)(hla:a.mag.length≤536870912)(hlb:b.mag.length≤536870912):CRt 107 #[v0,v1] w fun v w'=>RV Jo X w' v (ofZ ((Int.gcd a.toZ b.toZ:Nat):Int)):=by
 obtain⟨a1,c2,rfl,d⟩:=RV.int r0;obtain⟨a4,c5,rfl,i⟩:=RV.int r1;have C:=Cx.start hX;have sa:=r0.int_small;have sb:=r1.int_small;have hN:=Jv sa;have hD:=Jv sb;refine Cgo Tryz.func107 rfl rfl rfl (Rg<|Ol<|R9 C rfl ?_);intro g7 w8 x9 fd dZ dD b6 P;refine Ol (R9 dD rfl ?_);intro aT ff fg fh d0 dE bt Q;have d:=(d.sp b6).sp bt;have i:=(i.sp b6).sp bt;refine Ol (RR dE io40 rfl ?_);intro az b7 dG dH d1 dI bo am;have P:=(P.spn bt).spn bo;have Q:=Q.spn bo;refine Nl<|RZ<|SY mixed 6 [[],[0],[],[2],[],[]] ((dG,dH),lR) (RL X w) [fx<|.agg #[(.bool a.neg),(.slice a1 a.mag.length c2)],fun(s:GhL) (v:Value) (w':World)=>RV Jo s.1.1 w' v<|ofZ (a.toZ.natAbs:Int),fx<|.agg #[(.bool b.neg),(.slice a4 b.mag.length c5)],fun(s:GhL) (v:Value) (w':World)=>RV Jo s.1.1 w' v<|ofZ (b.toZ.natAbs:Int),fun(s:GhL) (v:Value) (w':World)=>∃g':Nat,v= .pointer (some ⟨g',0,none⟩)∧Own w s.1.2 w' g' [(.bool false),(.slice none 0 0)] 40∧b7.heap.size≤g'∧s.2 g'=some 4,fun(s:GhL) (v:Value) (w':World)=>∃g':Nat,v= .pointer (some ⟨g',0,none⟩)∧Own w s.1.2 w' g' [(.bool false),(.slice none 0 0)] 40∧b7.heap.size≤g'∧s.2 g'=some 5] (by kernel_rfl) (TU dI) RL.trans ⟨sx,(fun _ _ _ _ _ h r=>RV.tr h r.rc.sp.tx),sx,(fun _ _ _ _ _ h r=>RV.tr h r.rc.sp.tx),(fun _ _ _ _ _ ⟨g,e,o,l,q⟩ r=>⟨g,e,o.spn r.rc.sp,l,r.ext _ _ q⟩),(fun _ _ _ _ _ ⟨g,e,o,l,q⟩ r=>⟨g,e,o.spn r.rc.sp,l,r.ext _ _ q⟩),trivial⟩ fun dJ aG fi bp ar=>?_
 have au:=bp.rc.cx;have aH:=bp.rc.sp;have bu:=P.blk.lt;have bv:=Q.blk.lt;have bw:=am.blk.lt;have aU:=aH.tx.size;have d:=(d.sp bo).sp aH;have i:=(i.sp bo).sp aH;have P:=P.spn aH;have Q:=Q.spn aH;have am:=am.spn aH;have ar:Keep [11,12,13,14,5,6] _ dJ:=ar;refine⟨⟨fun _=>?_,fun⟨dK,_⟩=>?_,fun _=>?_,fun⟨dL,_⟩=>?_,fun _=>?_,fun _=>?_,trivial⟩,fun⟨dM,dN,dO,dP,dQ,dR,_⟩=>?_⟩
 ·exact Sd0 ar fun _=>RX (vs:=(zzC a a1 c2)) P ag40 rfl rfl rfl ⟨aG,RL.same au,rfl⟩
 ·refine Sd1 ar dK fun _=>RH au ET rfl rfl (E7 au.bd (a:=a) (Je d) (by omega)) ?_;intro fj fk dS dT dU;exact⟨aG,TS ⟨dS,dT⟩,dU⟩
 ·exact Sd0 ar fun _=>RX (vs:=(zzC b a4 c5)) Q ag40 rfl rfl rfl ⟨aG,RL.same au,rfl⟩
 ·refine Sd1 ar dL fun _=>RH au ET rfl rfl (E7 au.bd (a:=b) (Je i) (by omega)) ?_;intro fl fm b8 b9 ca;exact⟨aG,TS ⟨b8,b9⟩,ca⟩
 ·refine Sd0 ar fun _=>RR au io40 rfl ?_;intro bx d2 cb cc bq cd ce bz;exact⟨((cb,cc),lab aG.2 bx 4),RL.new (bp.bd fun _ _ h=>by cases h) ⟨cd,ce⟩ (ZB fun hh=>bq _ hh rfl) bz.blk.lt,bx,rfl,bz,ZB fun hh=>bq _ (UB hh aU) rfl,Kt _ _ _⟩
 ·refine Sd0 ar fun _=>RR au io40 rfl ?_;intro bA d3 cf cg br ch ci bB;exact⟨((cf,cg),lab aG.2 bA 5),RL.new (bp.bd fun _ _ h=>by cases h) ⟨ch,ci⟩ (ZB fun hh=>br _ hh rfl) bB.blk.lt,bA,rfl,bB,ZB fun hh=>br _ (UB hh aU) rfl,Kt _ _ _⟩
 obtain⟨aA,aB,cj,H⟩:=RV.int dN;obtain⟨aD,aE,ck,m⟩:=RV.int dP;obtain⟨I,cl,cm,aW,cn⟩:=dQ;have aX:g7≠I:=ZO (UB bu aW);have aY:aT≠I:=ZO (UB bv aW);have aZ:az≠I:=ZO (UB bw aW);obtain⟨J,co,a0,a2,cp⟩:=dR;have a3:g7≠J:=ZO (UB bu a2);have a5:aT≠J:=ZO (UB bv a2);have a6:az≠J:=ZO (UB bw a2);have ax:I≠J:=vk cn cp rfl;obtain⟨d4,rfl⟩:=mixK ar (aC dM<|aC cj<|aC dO<|aC ck<|aC cl<|aC co aN);refine On (Us (cs':=(zzC (ofZ (a.toZ.natAbs:Int)) aA aB)) au cm io40 ?_);intro d5 cq ae R;have a0:=a0.spo ae (UQ ax);refine On (Us (cs':=(zzC (ofZ (b.toZ.natAbs:Int)) aD aE)) cq a0 io40 ?_);intro d6 a7 af an;have d:=(d.sp ae).sp af;have i:=(i.sp ae).sp af;have H:=(H.sp ae).sp af;have m:=(m.sp ae).sp af;have P:=(P.spo ae aX).spo af a3;have Q:=(Q.spo ae aY).spo af a5;have am:=(am.spo ae aZ).spo af a6;have R:=R.spo af ax;refine Nl<|Rh<|Ol<|RI J4 rfl<|Ol<|RN R pl38 rfl rfl<|Ol<|St.len sl38 rfl<|Ol<|SJ rfl rfl (fun bZ=>?_)<|fun bZ=>?_
 ·refine Om<|OgD<|RI J4 rfl<|OgD<|RN an pl38 rfl rfl<|OgD<|St.len sl38 rfl<|OgD<|SJ rfl rfl (fun b0=>?_)<|fun b0=>?_
  ·refine OT<|Nl<|Ud<|RZ<|ST mixed 5 a7<|Qf J4 rfl<|Qd R pl38 rfl rfl<|Qw (fun w c=>RH c.1 ra rfl rfl (vt c.1.bd (H.sp c.2) (by omega)) fun _ _ C s h=>⟨h,C,c.2.trans s⟩)<|Qf J4 rfl<|Qd an pl38 rfl rfl<|Qz fun d7 bC T=>?_
   have m:=m.sp T;refine Ol (RH bC ra rfl rfl (vt bC.bd m (by omega)) ?_);intro d8 d9 cr U ct;have d:=(d.sp T).sp U;have i:=(i.sp T).sp U;have H:=(H.sp T).sp U;have m:=m.sp U;have P:=(P.spn T).spn U;have Q:=(Q.spn T).spn U;have am:=(am.spn T).spn U;have R:=(R.spn T).spn U;have an:=(an.spn T).spn U;subst ct;refine Oa (Ua<|RZ<|W.block<|Sc (fun μ f v=>∃(x y:Nat→Prop) (xx:Nat) (yy:Nat),Cx X w x y v∧f 4=(.pointer (some ⟨az,0,none⟩))∧f 5=(.pointer (some ⟨I,0,none⟩))∧f 6=(.pointer (some ⟨J,0,none⟩))∧f 7=(.int .u64 ((xx:Nat):Int))∧f 8=(.int .u64 ((yy:Nat):Int))∧RS Jd x v (.slice a1 a.mag.length c2) a.mag∧RS Jd x v (.slice a4 b.mag.length c5) b.mag∧RS Jd x v (.slice aA (ofZ (a.toZ.natAbs:Int)).mag.length aB) (ofZ (a.toZ.natAbs:Int)).mag∧RS Jd x v (.slice aD (ofZ (b.toZ.natAbs:Int)).mag.length aE) (ofZ (b.toZ.natAbs:Int)).mag∧Own w y v g7 (zzC a a1 c2) 40∧Own w y v aT (zzC b a4 c5) 40∧Own w y v az [(.bool false),(.slice none 0 0)] 40∧Own w y v I (zzC (ofZ (a.toZ.natAbs:Int)) aA aB) 40∧Own w y v J (zzC (ofZ (b.toZ.natAbs:Int)) aD aE) 40∧xx<18446744073709551616∧yy<18446744073709551616∧Nat.gcd xx yy=Int.gcd a.toZ b.toZ∧μ=yy) _ ⟨_,_,(val (ofZ (a.toZ.natAbs:Int)).mag),(val (ofZ (b.toZ.natAbs:Int)).mag),cr,rfl,rfl,rfl,rfl,rfl,d,i,H,m,P,Q,am,R,an,(Y5 (Zr _) (by omega)),(Y5 (Zr _) (by omega)),(by rw[Ke,Ke,Ws,Ws];rfl),rfl⟩ ?_);rintro ea eb ec ⟨ed,ee,xx,yy,a8,bD,bE,bF,bG,bH,d,i,H,m,a9,ba,ay,bb,be,hx,hy,hxy,dV⟩;obtain⟨ef,rfl⟩:=rebK (aC bD<|aC bE<|aC bF<|aC bG<|aC bH aN);clear bD bE bF bG bH;refine Rh<|Ub<|Sx rfl rfl (fun b1=>?_)<|fun b1=>?_
   ·refine Nl (Ud<|RT<|W.block<|Go.Ev.W.swapRem mixed rfl rfl (by kernel_rfl) (by kernel_rfl) rfl rfl (by omega) (Qe xx yy) ?_);intro cu aL b2 b3;have bJ:=SS a8;have cw:=bJ.cx;have V:=bJ.sp;have d:=d.sp V;have i:=i.sp V;have H:=H.sp V;have m:=m.sp V;have a9:=a9.spn V;have ba:=ba.spn V;have ay:=ay.spn V;have bb:=bb.spn V;have be:=be.spn V;have aL:Keep [33,34,35,36,7,8] _ cu:=aL;obtain⟨eg,rfl⟩:=mixK aL (aC b2<|aC b3 aN);refine⟨_,(by have:=UI xx (show 0<yy by omega);omega),_,_,yy,xx%yy,cw,rfl,rfl,rfl,rfl,rfl,d,i,H,m,a9,ba,ay,bb,be,hy,(by have:=UI xx (show 0<yy by omega);omega),(by rw[qi,hxy]),rfl⟩
   refine Nl (Ue<|Sf<|Rg<|Ub<|RH a8 D8 rfl rfl (mH a8.bd (n:=xx) hx) ?_);intro eh ei bK cy bL;obtain⟨ej,ek,rfl,_,_⟩:=bL.len;refine Ol (RH bK cb89 rfl rfl (Yt bK.bd bL (by have h7:(digs xx).length≤2:=Jt (by omega);omega)) ?_);intro el em cz cB cC;have ay:=(ay.spn cy).spn cB;obtain⟨cD,cE,rfl,bf⟩:=RV.int cC;refine On (Us (cs':=(zzC (ofZ<|Jh false<|val<|digs xx) cD cE)) cz ay io40 ?_);intro en bM cF cG;have bf:=bf.sp cF;refine Nl (RY<|J0 rfl (TL cG rfl ag40 rfl)<|RM ?_ bM.below);exact TM (a:=(ofZ<|Jh false<|val<|digs xx)) ((Je bf).tr (Tr.weak bM.base))<|congrArg ofZ (by rw[Jw,Yh,←hxy,show yy=0 by omega,Nat.gcd_zero_right])
  refine OT (Nl<|Uc<|RZ<|W.block<|Sc (fun μ f v=>∃(x y:Nat→Prop) (xx:Int) (yy:Int) (p:Option Addr) (pc:Nat) (q:Option Addr) (qc:Nat),Cx X w x y v∧f 4=(.pointer (some ⟨az,0,none⟩))∧f 5=(.pointer (some ⟨I,0,none⟩))∧f 6=(.pointer (some ⟨J,0,none⟩))∧RS Jd x v (.slice a1 a.mag.length c2) a.mag∧RS Jd x v (.slice a4 b.mag.length c5) b.mag∧RS Jd x v (.slice p (ofZ xx).mag.length pc) (ofZ xx).mag∧RS Jd x v (.slice q (ofZ yy).mag.length qc) (ofZ yy).mag∧Own w y v g7 (zzC a a1 c2) 40∧Own w y v aT (zzC b a4 c5) 40∧Own w y v az [(.bool false),(.slice none 0 0)] 40∧Own w y v I (zzC (ofZ xx) p pc) 40∧Own w y v J (zzC (ofZ yy) q qc) 40∧0≤xx∧0≤yy∧Int.gcd xx yy=Int.gcd a.toZ b.toZ∧(ofZ xx).mag.length≤536870912∧(ofZ yy).mag.length≤536870912∧μ=yy.natAbs) _ ⟨_,_,((a.toZ.natAbs:Nat):Int),((b.toZ.natAbs:Nat):Int),aA,aB,aD,aE,a7,rfl,rfl,rfl,d,i,H,m,P,Q,am,R,an,(Wu _),(Wu _),(sj _ _),(by rw[kv];omega),(by rw[kv];omega),rfl⟩ ?_);rintro eo ep eq ⟨er,es,xx,yy,p,pc,q,qc,bg,bN,bO,bP,d,i,hA,hB,A,B,u,D,j,aV,aF,hgg,hlx,hly,dX⟩;obtain⟨et,rfl⟩:=rebK (aC bN<|aC bO<|aC bP aN);clear bN bO bP;refine Rh<|Ol<|RI J4 rfl<|Ol<|RN j pl38 rfl rfl<|Ol<|St.len sl38 rfl<|Ol<|Sx rfl rfl (fun b4=>?_)<|fun b4=>?_
  ·refine Nl (Ud<|RT<|W.block<|Rg<|Ol<|Uo (vs:=(zzC (ofZ xx) p pc)) D ag40<|Ol<|Uo (vs:=(zzC (ofZ yy) q qc)) j ag40<|Ol<|RH bg Dv rfl rfl (jQ bg.bd (a:=(ofZ xx)) (Je hA) (b:=(ofZ yy)) (Je hB) hlx hly<|ui (by omega)) ?_);intro eu ev cH ag bQ;have d:=d.sp ag;have i:=i.sp ag;have hB:=hB.sp ag;have A:=A.spn ag;have B:=B.spn ag;have u:=u.spn ag;have D:=D.spn ag;have j:=j.spn ag;simp only[Jl,Zq] at bQ;obtain⟨ew,ex,rfl,cI,cJ⟩:=bQ;obtain⟨cK,cL,rfl,ey⟩:=RV.int cI;obtain⟨aM,aO,rfl,ao⟩:=RV.int cJ;refine Om (Ol<|St.extract rfl rfl<|Ol<|St.extract rfl rfl<|Ol<|RR cH io40 rfl ?_);intro ez eA eB eC av cM Y aP;have cN:=av _ A.blk.lt;have cO:=av _ B.blk.lt;have cP:=av _ u.blk.lt;have cQ:=av _ D.blk.lt;have cR:=av _ j.blk.lt;have A:=A.spn Y;have B:=B.spn Y;have u:=u.spn Y;have D:=D.spn Y;have j:=j.spn Y;refine Ol (RR cM io40 rfl ?_);intro eD eE eG eH ak cS K bh;have cT:=ak _ A.blk.lt;have cU:=ak _ B.blk.lt;have cV:=ak _ u.blk.lt;have bR:=ak _ D.blk.lt;have cW:=ak _ j.blk.lt;have cX:=ak _ aP.blk.lt;have d:=(d.sp Y).sp K;have i:=(i.sp Y).sp K;have hB:=(hB.sp Y).sp K;have ao:=(ao.sp Y).sp K;have A:=A.spn K;have B:=B.spn K;have u:=u.spn K;have D:=D.spn K;have j:=j.spn K;have aP:=aP.spn K;refine On (Us (cs':=(zzC (ofZ<|xx/yy) cK cL)) cS aP io40 ?_);intro eI cY L eJ;have bh:=bh.spo L (UQ cX);refine On (Us (cs':=(zzC (ofZ<|xx%yy) aM aO)) cY bh io40 ?_);intro eK cZ Z bi;have d:=(d.sp L).sp Z;have i:=(i.sp L).sp Z;have hB:=(hB.sp L).sp Z;have ao:=(ao.sp L).sp Z;have A:=(A.spo L cN).spo Z cT;have B:=(B.spo L cO).spo Z cU;have u:=(u.spo L cP).spo Z cV;have D:=(D.spo L cQ).spo Z bR;have j:=(j.spo L cR).spo Z cW;refine Nl (Rg<|Ol<|Uo (vs:=(zzC (ofZ yy) q qc)) j ag40<|On<|Us (cs':=(zzC (ofZ yy) q qc)) cZ D io40 ?_);intro eL c0 aa bj;have j:=j.spo aa (UQ ax);have bi:=bi.spo aa (UQ bR);refine Nl (RK<|Ol<|Uo (vs:=(zzC (ofZ<|xx%yy) aM aO)) bi ag40<|On<|Us (cs':=(zzC (ofZ<|xx%yy) aM aO)) c0 j io40 ?_);intro eM c1 ah c3;have d:=(d.sp aa).sp ah;have i:=(i.sp aa).sp ah;have hB:=(hB.sp aa).sp ah;have ao:=(ao.sp aa).sp ah;have A:=(A.spo aa aX).spo ah a3;have B:=(B.spo aa aY).spo ah a5;have u:=(u.spo aa aZ).spo ah a6;have bj:=bj.spo ah ax;refine Nl<|⟨_,(by have h7:=k9 (x:=xx) aF (by omega);omega),_,_,yy,(xx%yy),q,qc,aM,aO,c1,rfl,rfl,rfl,d,i,hB,ao,A,B,u,bj,c3,aF,(C0 (by omega)),(by rw[kC aV aF,hgg]),hly,(UC (jY (by omega)) hly),rfl⟩
  refine Nl (Ue<|Sf<|Rg<|Ol<|Uo (vs:=(zzC (ofZ xx) p pc)) D ag40<|On<|Us (cs':=(zzC (ofZ xx) p pc)) bg u io40 ?_);intro eN bS c4 c6;have hA:=hA.sp c4;refine Nl (RY<|J0 rfl (TL c6 rfl ag40 rfl)<|RM ?_ bS.below);exact TM (a:=(ofZ xx)) ((Je hA).tr (Tr.weak bS.base))<|congrArg ofZ<|pU aV hgg (by omega)
 refine Om (Oz<|Oz<|Oz<|Oz<|OF<|Nl<|Uc<|RZ<|W.block<|Sc (fun μ f v=>∃(x y:Nat→Prop) (xx:Int) (yy:Int) (p:Option Addr) (pc:Nat) (q:Option Addr) (qc:Nat),Cx X w x y v∧f 4=(.pointer (some ⟨az,0,none⟩))∧f 5=(.pointer (some ⟨I,0,none⟩))∧f 6=(.pointer (some ⟨J,0,none⟩))∧RS Jd x v (.slice a1 a.mag.length c2) a.mag∧RS Jd x v (.slice a4 b.mag.length c5) b.mag∧RS Jd x v (.slice p (ofZ xx).mag.length pc) (ofZ xx).mag∧RS Jd x v (.slice q (ofZ yy).mag.length qc) (ofZ yy).mag∧Own w y v g7 (zzC a a1 c2) 40∧Own w y v aT (zzC b a4 c5) 40∧Own w y v az [(.bool false),(.slice none 0 0)] 40∧Own w y v I (zzC (ofZ xx) p pc) 40∧Own w y v J (zzC (ofZ yy) q qc) 40∧0≤xx∧0≤yy∧Int.gcd xx yy=Int.gcd a.toZ b.toZ∧(ofZ xx).mag.length≤536870912∧(ofZ yy).mag.length≤536870912∧μ=yy.natAbs) _ ⟨_,_,((a.toZ.natAbs:Nat):Int),((b.toZ.natAbs:Nat):Int),aA,aB,aD,aE,a7,rfl,rfl,rfl,d,i,H,m,P,Q,am,R,an,(Wu _),(Wu _),(sj _ _),(by rw[kv];omega),(by rw[kv];omega),rfl⟩ ?_);rintro eO eP eQ ⟨eR,eS,xx,yy,p,pc,q,qc,bk,bT,bU,bV,d,i,hA,hB,E,F,z,G,k,aV,aF,hgg,hlx,hly,dY⟩;obtain⟨eT,rfl⟩:=rebK (aC bT<|aC bU<|aC bV aN);clear bT bU bV;refine Rh<|Ol<|RI J4 rfl<|Ol<|RN k pl38 rfl rfl<|Ol<|St.len sl38 rfl<|Ol<|Sx rfl rfl (fun b5=>?_)<|fun b5=>?_
 ·refine Nl (Ud<|RT<|W.block<|Rg<|Ol<|Uo (vs:=(zzC (ofZ xx) p pc)) G ag40<|Ol<|Uo (vs:=(zzC (ofZ yy) q qc)) k ag40<|Ol<|RH bk Dv rfl rfl (jQ bk.bd (a:=(ofZ xx)) (Je hA) (b:=(ofZ yy)) (Je hB) hlx hly<|ui (by omega)) ?_);intro eU eV c7 ai bW;have d:=d.sp ai;have i:=i.sp ai;have hB:=hB.sp ai;have E:=E.spn ai;have F:=F.spn ai;have z:=z.spn ai;have G:=G.spn ai;have k:=k.spn ai;simp only[Jl,Zq] at bW;obtain⟨eW,eX,rfl,c8,c9⟩:=bW;obtain⟨da,db,rfl,eY⟩:=RV.int c8;obtain⟨aQ,aR,rfl,aq⟩:=RV.int c9;refine Om (Ol<|St.extract rfl rfl<|Ol<|St.extract rfl rfl<|Ol<|RR c7 io40 rfl ?_);intro eZ e0 e1 e2 aw dc ab aS;have dd:=aw _ E.blk.lt;have de:=aw _ F.blk.lt;have df:=aw _ z.blk.lt;have dg:=aw _ G.blk.lt;have dh:=aw _ k.blk.lt;have E:=E.spn ab;have F:=F.spn ab;have z:=z.spn ab;have G:=G.spn ab;have k:=k.spn ab;refine Ol (RR dc io40 rfl ?_);intro e3 e4 e5 e6 al di M bl;have dj:=al _ E.blk.lt;have dk:=al _ F.blk.lt;have dm:=al _ z.blk.lt;have bX:=al _ G.blk.lt;have dn:=al _ k.blk.lt;have dp:=al _ aS.blk.lt;have d:=(d.sp ab).sp M;have i:=(i.sp ab).sp M;have hB:=(hB.sp ab).sp M;have aq:=(aq.sp ab).sp M;have E:=E.spn M;have F:=F.spn M;have z:=z.spn M;have G:=G.spn M;have k:=k.spn M;have aS:=aS.spn M;refine On (Us (cs':=(zzC (ofZ<|xx/yy) da db)) di aS io40 ?_);intro e7 dq N e8;have bl:=bl.spo N (UQ dp);refine On (Us (cs':=(zzC (ofZ<|xx%yy) aQ aR)) dq bl io40 ?_);intro e9 ds ac bm;have d:=(d.sp N).sp ac;have i:=(i.sp N).sp ac;have hB:=(hB.sp N).sp ac;have aq:=(aq.sp N).sp ac;have E:=(E.spo N dd).spo ac dj;have F:=(F.spo N de).spo ac dk;have z:=(z.spo N df).spo ac dm;have G:=(G.spo N dg).spo ac bX;have k:=(k.spo N dh).spo ac dn;refine Nl (Rg<|Ol<|Uo (vs:=(zzC (ofZ yy) q qc)) k ag40<|On<|Us (cs':=(zzC (ofZ yy) q qc)) ds G io40 ?_);intro fa dt ad bn;have k:=k.spo ad (UQ ax);have bm:=bm.spo ad (UQ bX);refine Nl (RK<|Ol<|Uo (vs:=(zzC (ofZ<|xx%yy) aQ aR)) bm ag40<|On<|Us (cs':=(zzC (ofZ<|xx%yy) aQ aR)) dt k io40 ?_);intro fb du aj dv;have d:=(d.sp ad).sp aj;have i:=(i.sp ad).sp aj;have hB:=(hB.sp ad).sp aj;have aq:=(aq.sp ad).sp aj;have E:=(E.spo ad aX).spo aj a3;have F:=(F.spo ad aY).spo aj a5;have z:=(z.spo ad aZ).spo aj a6;have bn:=bn.spo aj ax;refine Nl<|⟨_,(by have h7:=k9 (x:=xx) aF (by omega);omega),_,_,yy,(xx%yy),q,qc,aQ,aR,du,rfl,rfl,rfl,d,i,hB,aq,E,F,z,bn,dv,aF,(C0 (by omega)),(by rw[kC aV aF,hgg]),hly,(UC (jY (by omega)) hly),rfl⟩
 refine Nl (Ue<|Sf<|Rg<|Ol<|Uo (vs:=(zzC (ofZ xx) p pc)) G ag40<|On<|Us (cs':=(zzC (ofZ xx) p pc)) bk z io40 ?_);intro fc bY dw dx;have hA:=hA.sp dw;refine Nl (RY<|J0 rfl (TL dx rfl ag40 rfl)<|RM ?_ bY.below);exact TM (a:=(ofZ xx)) ((Je hA).tr (Tr.weak bY.base))<|congrArg ofZ<|pU aV hgg (by omega)
theorem x_of{X:Nat→Prop}{w:World}(hX:XB X w){n:Int}(hlo: -9223372036854775808≤n)(hhi:n≤9223372036854775807):CRt 48 #[(.int .i64 n)] w fun v w'=>RV Jo X w' v (ofZ n):=by
 have C:=Cx.start hX;refine Cgo Tryz.func48 rfl rfl rfl (Rg<|Ol<|RR C io40 rfl ?_);intro g1 w2 x3 y4 M k s7 b;refine Nl<|Rg<|Ub<|R2 (z:=(n%18446744073709551616)) us3 un97 rfl (by rw[IntKind.wrap_u64])<|Ua<|Rh<|Ub<|Sb rfl rfl (fun m=>?_)<|fun m=>?_
 ·refine Nl (Uk<|Ub<|St.neg (z:=((n.natAbs:Nat):Int)) rfl (by rw[IntKind.wrap_u64];omega)<|Ua<|Rg<|Ub<|SG rfl rfl rfl<|Ub<|R2 (z:=((n.natAbs%4294967296:Nat):Int)) us97 un96 rfl (Jm _)<|Ub<|SC rfl rfl (by decide) (Ym (d:=4294967296) _ (by decide)) ?_);refine Ol (R2 (z:=(((n.natAbs/4294967296)%4294967296:Nat):Int)) us97 un96 rfl (Jm _)<|Ol<|Sl (T:=Jd) (css:=[[(.int .u32 ((n.natAbs%4294967296:Nat):Int))],[(.int .u32 (((n.natAbs/4294967296)%4294967296:Nat):Int))]]) (l:=[n.natAbs%4294967296,(n.natAbs/4294967296)%4294967296]) k sl38 io96 (by decide) (by decide) rfl (by kernel_rfl) ⟨⟨rfl,(UI _ (by decide))⟩,⟨rfl,(UI _ (by decide))⟩,trivial⟩ ?_);intro N P g o p;refine Ol (RH g cb89 rfl rfl (Yt g.bd p (by simp)) ?_);intro Q R r s u;have b:=(b.spn o).spn s;obtain⟨x,y,rfl,e⟩:=RV.int u;refine On (Us (cs':=(zzC (ofZ<|Jh (decide<|n<0)<|val [n.natAbs%4294967296,(n.natAbs/4294967296)%4294967296]) x y)) r b io40 ?_);intro U h A B;have e:=e.sp A;refine Nl (RY<|J0 rfl (TL B rfl ag40 rfl)<|RM ?_ h.below);exact TM (a:=(ofZ<|Jh (decide<|n<0)<|val [n.natAbs%4294967296,(n.natAbs/4294967296)%4294967296])) ((Je e).tr (Tr.weak h.base))<|congrArg ofZ (by rw[gR (by omega)];unfold Jh;split<;>simp_all<;>omega)
 refine Nl (Uc<|RZ ?_);rw[show n%18446744073709551616=((n.natAbs:Nat):Int) by omega];refine RK (Ub<|SG rfl rfl rfl<|Ub<|R2 (z:=((n.natAbs%4294967296:Nat):Int)) us97 un96 rfl (Jm _)<|Ub<|SC rfl rfl (by decide) (Ym (d:=4294967296) _ (by decide))<|Ol<|R2 (z:=(((n.natAbs/4294967296)%4294967296:Nat):Int)) us97 un96 rfl (Jm _) ?_);refine Ol (Sl (T:=Jd) (css:=[[(.int .u32 ((n.natAbs%4294967296:Nat):Int))],[(.int .u32 (((n.natAbs/4294967296)%4294967296:Nat):Int))]]) (l:=[n.natAbs%4294967296,(n.natAbs/4294967296)%4294967296]) k sl38 io96 (by decide) (by decide) rfl (by kernel_rfl) ⟨⟨rfl,(UI _ (by decide))⟩,⟨rfl,(UI _ (by decide))⟩,trivial⟩ ?_);intro V Y i D E;refine Ol (RH i cb89 rfl rfl (Yt i.bd E (by simp)) ?_);intro Z aa F G H;have b:=(b.spn D).spn G;obtain⟨I,J,rfl,f⟩:=RV.int H;refine On (Us (cs':=(zzC (ofZ<|Jh (decide<|n<0)<|val [n.natAbs%4294967296,(n.natAbs/4294967296)%4294967296]) I J)) F b io40 ?_);intro ab j K L;have f:=f.sp K;refine Nl (RY<|J0 rfl (TL L rfl ag40 rfl)<|RM ?_ j.below);exact TM (a:=(ofZ<|Jh (decide<|n<0)<|val [n.natAbs%4294967296,(n.natAbs/4294967296)%4294967296])) ((Je f).tr (Tr.weak j.base))<|congrArg ofZ (by rw[gR (by omega)];unfold Jh;split<;>simp_all<;>omega)
theorem Cn{X:Nat→Prop}{w:World}(hX:XB X w){v0:Value}{a:GInt}(r0:RV Jo X w v0 a){v1:Value}{b:GInt}(r1:RV Jo X w v1 b)(hla:a.mag.length≤1099511627776)(hlb:b.mag.length≤1099511627776):CRt 109 #[v0,v1] w fun v w'=>v=(.bool (decide (a=b))):=by
 obtain⟨G,H,rfl,k⟩:=RV.int r0;obtain⟨I,c5,rfl,l⟩:=RV.int r1;have C:=Cx.start hX;refine Cgo Tryz.func109 rfl rfl rfl (Rg<|Ol<|R9 C rfl ?_);intro Y w8 x9 a0 aQ aj L m;refine Ol (R9 aj rfl ?_);intro A a2 a3 a5 aR B D E;have k:=(k.sp L).sp D;have l:=(l.sp L).sp D;have m:=m.spn D;refine Ua<|Rh<|Ol<|RI Zp rfl<|Ol<|RN m pl4 rfl rfl<|Ol<|RI Zp rfl<|Ol<|RN E pl4 rfl rfl<|Ol<|Sm<|SQ un4 rfl rfl rfl ⟨_,rfl,fun o=>?_,fun o=>?_⟩
 ·exact Om<|Oz<|Oz<|Oz<|Oz<|Oz<|Oz<|Oz<|OT<|Nl<|Uf<|Ua<|RY<|Wq rfl rfl B<|congrArg (Value.bool)<|zH o
 refine Om<|OgD<|RI J4 rfl<|OgD<|RN m pl38 rfl rfl<|OgD<|St.len sl38 rfl<|OgD<|RI J4 rfl<|OgD<|RN E pl38 rfl rfl<|OgD<|St.len sl38 rfl<|OgD<|SA rfl rfl (fun p=>?_)<|fun p=>?_
 ·exact OF<|Nl<|Uf<|Ua<|RY<|Wq rfl rfl B<|congrArg (Value.bool)<|zF p
 refine OF (Nl<|Uc<|Rh<|Ua<|W.block<|Sc (fun μ f v=>∃(x y:Nat→Prop) (i:Nat),Cx X w x y v∧f 2=(.pointer (some ⟨Y,0,none⟩))∧f 3=(.pointer (some ⟨A,0,none⟩))∧f 5=(.int .i64 ((i:Nat):Int))∧RS Jd x v (.slice G a.mag.length H) a.mag∧RS Jd x v (.slice I b.mag.length c5) b.mag∧Own w y v Y (zzC a G H) 40∧Own w y v A (zzC b I c5) 40∧i≤a.mag.length∧a.mag.take i=b.mag.take i∧μ=(a.mag.length-i)) _ ⟨_,_,0,B,rfl,rfl,rfl,k,l,m,E,(UN _),rfl,rfl⟩ ?_);rintro a6 a7 a8 ⟨a9,ba,i,M,N,P,Q,k,l,n,r,hi,he,aJ⟩;obtain⟨bb,rfl⟩:=rebK (aC N<|aC P<|aC Q aN);clear N P Q;refine Rh<|Ub<|RI J4 rfl<|Ol<|RN n pl38 rfl rfl<|Ol<|St.len sl38 rfl<|Ol<|Sb rfl rfl (fun F=>?_)<|fun F=>?_
 ·refine Nl<|Ud<|RT<|RZ<|W.block<|RZ<|Sg mixed 10 [[],[0],[],[1,2],[3],[],[5],[],[6,7],[8]] M [fx<|.pointer (some ⟨Y,1,none⟩),fx<|.slice G a.mag.length H,fx<|.int .i64 ((i:Nat):Int),fE Jd<|a.mag.getD i 0,fx<|.int .u32 (((a.mag.getD i 0):Nat):Int),fx<|.pointer (some ⟨A,1,none⟩),fx<|.slice I b.mag.length c5,fx<|.int .i64 ((i:Nat):Int),fE Jd<|b.mag.getD i 0,fx<|.int .u32 (((b.mag.getD i 0):Nat):Int)] (by kernel_rfl) ⟨sx,sx,sx,sE,sx,sx,sx,sx,sE,sx,trivial⟩ fun ak h bd ⟨g,s⟩ e=>?_
  have k:=k.sp s;have l:=l.sp s;have n:=n.spn s;have r:=r.spn s;have e:Keep [27,28,29,30,31,32,33,34,35,36] _ ak:=e;refine⟨⟨fun _=>?_,fun⟨al,_⟩=>?_,fun _=>?_,fun⟨am,an,_⟩=>?_,fun⟨ao,_⟩=>?_,fun _=>?_,fun⟨aq,_⟩=>?_,fun _=>?_,fun⟨ar,au,_⟩=>?_,fun⟨av,_⟩=>?_,trivial⟩,fun⟨aw,ax,ay,az,aA,aB,aD,aE,aF,aG,_⟩=>?_⟩
  ·exact Sd0 e fun _=>RI J4 rfl ⟨h,RJ g,rfl⟩
  ·exact Sd1 e al fun _=>RN n pl38 rfl rfl ⟨h,RJ g,rfl⟩
  ·exact Sd0 e fun _=>RP ⟨h,RJ g,rfl⟩
  ·refine Js e (aC am<|aC an aN) fun _=>R8 (Sd (j:=i) (u:=(a.mag.getD i 0)) k sl38 io96 rfl rfl rfl (Ji (by omega)) ?_);intro be bf Z R;obtain⟨rfl,aS⟩:Z=_∧_:=R.rd;exact⟨h,RJ g,⟨_,_,_,rfl,R⟩⟩
  ·obtain⟨bg,bh,aa,aH,T⟩:=ao;obtain⟨rfl,aT⟩:aa=_∧_:=T.rd;exact Sd1 e aH fun _=>Sa pl96 rfl (T.cell 0 _ rfl) ⟨h,RJ g,rfl⟩
  ·exact Sd0 e fun _=>RI J4 rfl ⟨h,RJ g,rfl⟩
  ·exact Sd1 e aq fun _=>RN r pl38 rfl rfl ⟨h,RJ g,rfl⟩
  ·exact Sd0 e fun _=>RP ⟨h,RJ g,rfl⟩
  ·refine Js e (aC ar<|aC au aN) fun _=>R8 (Sd (j:=i) (u:=(b.mag.getD i 0)) l sl38 io96 rfl rfl rfl (Ji (by omega)) ?_);intro bi bj ab U;obtain⟨rfl,aU⟩:ab=_∧_:=U.rd;exact⟨h,RJ g,⟨_,_,_,rfl,U⟩⟩
  ·obtain⟨bk,bl,ac,aI,V⟩:=av;obtain⟨rfl,aK⟩:ac=_∧_:=V.rd;exact Sd1 e aI fun _=>Sa pl96 rfl (V.cell 0 _ rfl) ⟨h,RJ g,rfl⟩
  obtain⟨aV,aW,J,ad,ae⟩:=az;obtain⟨rfl,aL⟩:J=_∧_:=ae.rd;obtain⟨aX,aY,K,af,ag⟩:=aF;obtain⟨rfl,aM⟩:K=_∧_:=ag.rd;obtain⟨aZ,rfl⟩:=mixK e (aC aw<|aC ax<|aC ay<|aC ad<|aC aA<|aC aB<|aC aD<|aC aE<|aC af<|aC aG aN);refine Ol<|SA rfl rfl (fun z=>?_)<|fun z=>?_
  ·exact Nl<|Uf<|Ua<|RY<|Wq rfl rfl g<|congrArg (Value.bool)<|Bm z
  refine Nl<|Uc<|RK<|Ub<|St.add rfl rfl (Jc (a:=i) (b:=1) (by omega))<|Ua<|⟨_,(by omega),_,_,(i+1),g,rfl,rfl,rfl,k,l,n,r,(by omega),(Hs (d:=0) (by omega) (by omega) he (by omega)),rfl⟩
 exact Nl<|Ue<|Sf<|Rg<|Ua<|RY<|Wq rfl rfl M<|congrArg (Value.bool)<|B2 o p F he
theorem lx(q:Rat):ofZ (ofQ q).num.toZ=(ofQ q).num:=by unfold ofQ;rw[Jl]
theorem kZ(q:Rat):ofZ (ofQ q).den.toZ=(ofQ q).den:=by unfold ofQ;rw[Jl]
theorem O0{X:Nat→Prop}{w:World}(hX:XB X w){n:Int}(hlo: -9223372036854775808≤n)(hhi:n≤9223372036854775807):CRt 106 #[(.int .i64 n)] w fun v w'=>RV Jj X w' v (ofQ (Rat.divInt n 1)):=by
 have C:=Cx.start hX;refine Cgo Tryz.func106 rfl rfl rfl (Rg<|Ol<|RR C io42 rfl ?_);intro E F G H y o I m;refine Nl (Rg<|Ub<|RH o cb48 rfl rfl (x_of o.bd hlo hhi) ?_);intro J z e p r;obtain⟨f,g,rfl,b⟩:=RV.int r;refine Ol (RH e cb48 rfl rfl (x_of e.bd (by decide) (by decide)) ?_);intro A B s h u;have m:=(m.spn p).spn h;obtain⟨i,j,rfl,d⟩:=RV.int u;refine Ol (Si (cs:=[(.bool (ofZ n).neg),(.slice f (ofZ n).mag.length g),(.bool (ofZ 1).neg),(.slice i (ofZ 1).mag.length j)]) rfl (by kernel_rfl)<|On<|Us (cs':=[(.bool (ofZ n).neg),(.slice f (ofZ n).mag.length g),(.bool (ofZ 1).neg),(.slice i (ofZ 1).mag.length j)]) s m io42 ?_);intro D k l x;have b:=(b.sp h).sp l;have d:=d.sp l;refine Nl (RY<|J0 rfl (TL x rfl ag42 rfl)<|RM ?_ k.below);exact TM (a:=(⟨⟨(ofZ n).neg,(ofZ n).mag⟩,⟨(ofZ 1).neg,(ofZ 1).mag⟩⟩:GRat)) ((J2 b d).tr (Tr.weak k.base))<|Kx rfl
theorem tS{X:Nat→Prop}{w:World}(hX:XB X w){v0:Value}{n:GInt}(r0:RV Jo X w v0 n){v1:Value}{d:GInt}(r1:RV Jo X w v1 d)(hln:n.mag.length≤536870912)(hld:d.mag.length≤536870912):CRt 66 #[v0,v1] w fun v w'=>RV Jj X w' v (ofQ (Rat.divInt n.toZ d.toZ)):=by
 obtain⟨a1,c2,rfl,i⟩:=RV.int r0;obtain⟨J,c5,rfl,h⟩:=RV.int r1;have C:=Cx.start hX;have sn:=r0.int_small;have sd:=r1.int_small;have hN:=Jv sn;have hD:=Jv sd;refine Cgo Tryz.func66 rfl rfl rfl (Rg<|Ol<|R9 C rfl ?_);intro g7 w8 x9 dU c3 cK bl f;have h:=h.sp bl;refine Ol (R9 cK rfl ?_);intro dV dW dX dY c4 cL aB e;have i:=(i.sp bl).sp aB;have f:=f.spn aB;refine Ol (RR cL io42 rfl ?_);intro dZ d0 d1 d2 c6 bm ax g;have h:=(h.sp aB).sp ax;have e:=e.spn ax;refine Nl (Rh<|Ol<|Uo (vs:=(zzC d J c5)) e ag40<|Ol<|RH bm M9 rfl rfl (Cj bm.bd (a:=d) (Je h) (by omega)) ?_);intro d3 d4 ay ac cM;have i:=(i.sp ax).sp ac;have h:=h.sp ac;have f:=(f.spn ax).spn ac;have e:=e.spn ac;subst cM;refine Ol<|Sj rfl rfl (fun B=>?_)<|fun B=>?_
 ·refine Nl (Uf<|Ol<|RH ay N8 rfl rfl (O0 ay.bd (by decide) (by decide)) ?_);intro d5 d6 cN cO cP;have g:=(g.spn ac).spn cO;obtain⟨cQ,cR,cS,cT,rfl,aD,aE⟩:=TN cP;refine On (Us (cs':=(qqC (ofQ<|Rat.divInt 0 1) cQ cR cS cT)) cN g io42 ?_);intro d7 bn bo cU;have aD:=aD.sp bo;have aE:=aE.sp bo;refine Nl (RY<|J0 rfl (TL cU rfl ag42 rfl)<|RM ?_ bn.below);exact TM (a:=(ofQ<|Rat.divInt 0 1)) ((J2 aD aE).tr (Tr.weak bn.base))<|Gp B
 refine Nl (Uc<|RZ ?_);have hne:=Oe (n:=n.toZ) B;have hgl:=Io (n:=n.toZ) B;refine RK (Ol<|Uo (vs:=(zzC n a1 c2)) f ag40<|Ol<|Uo (vs:=(zzC d J c5)) e ag40<|Ol<|RH ay Or rfl rfl (P0 ay.bd (a:=n) (Je i) (b:=d) (Je h) (by omega) (by omega)) ?_);intro d8 d9 cV ai cW;have i:=i.sp ai;have h:=h.sp ai;have f:=f.spn ai;have e:=e.spn ai;have g:=(g.spn ac).spn ai;obtain⟨H,I,rfl,m⟩:=RV.int cW;refine Ol (RR cV io40 rfl ?_);intro ea eb ec ed aj cX ad cY;have bp:=aj _ f.blk.lt;have bq:=aj _ e.blk.lt;have br:=aj _ g.blk.lt;have m:=m.sp ad;have g:=g.spn ad;refine On (Us (cs':=(zzC (ofZ ((Int.gcd n.toZ d.toZ:Nat):Int)) H I)) cX cY io40 ?_);intro ee bs ae l;have i:=(i.sp ad).sp ae;have h:=(h.sp ad).sp ae;have f:=(f.spn ad).spo ae bp;have e:=(e.spn ad).spo ae bq;refine Nl (Rh<|Ol<|Uo (vs:=(zzC d J c5)) e ag40<|Ol<|RH bs M9 rfl rfl (Cj bs.bd (a:=d) (Je h) (by omega)) ?_);intro ef eg aF o cZ;have m:=(m.sp ae).sp o;have g:=(g.spo ae br).spn o;have l:=l.spn o;subst cZ;refine Ol<|Sb rfl rfl (fun ah=>?_)<|fun ah=>?_
 ·refine Nl (Uk<|Ol<|Uo (vs:=(zzC (ofZ ((Int.gcd n.toZ d.toZ:Nat):Int)) H I)) l ag40<|Ol<|RH aF Ik rfl rfl (I6 aF.bd (a:=(ofZ ((Int.gcd n.toZ d.toZ:Nat):Int))) (Je m) (by omega)) ?_);intro eh ei c0 af bt;have i:=(i.sp o).sp af;have h:=(h.sp o).sp af;have f:=(f.spn o).spn af;have e:=(e.spn o).spn af;have l:=l.spn af;simp only[Jl,Zq] at bt;obtain⟨K,L,rfl,M⟩:=RV.int bt;refine On (Us (cs':=(zzC (ofZ<|-((Int.gcd n.toZ d.toZ:Nat):Int)) K L)) c0 l io40 ?_);intro ej c1 ag N;have g:=(g.spn af).spo ag br;refine Nl<|RZ<|RZ<|Sg mixed 2 [[],[]] c1 [fx<|.agg #[(.bool (ofZ<|-((Int.gcd n.toZ d.toZ:Nat):Int)).neg),(.slice K (ofZ<|-((Int.gcd n.toZ d.toZ:Nat):Int)).mag.length L)],fr Jo<|ofZ 1] (by kernel_rfl) ⟨sx,sr,trivial⟩ fun bu aG c7 ⟨P,x⟩ Q=>?_
  have i:=(i.sp ag).sp x;have h:=(h.sp ag).sp x;have M:=(M.sp ag).sp x;have f:=(f.spo ag bp).spn x;have e:=(e.spo ag bq).spn x;have N:=N.spn x;have Q:Keep [18,19] _ bu:=Q;refine⟨⟨fun _=>?_,fun _=>?_,trivial⟩,fun⟨bv,bw,_⟩=>?_⟩
  ·exact Sd0 Q fun _=>RX (vs:=(zzC (ofZ<|-((Int.gcd n.toZ d.toZ:Nat):Int)) K L)) N ag40 rfl rfl rfl ⟨aG,RJ P,rfl⟩
  ·refine Sd0 Q fun _=>RH P cb48 rfl rfl (x_of P.bd (by decide) (by decide)) ?_;intro c8 c9 bx bz bA;exact⟨aG,⟨bx,bz⟩,bA⟩
  obtain⟨da,db,bB,bC⟩:=RV.int bw;obtain⟨dc,rfl⟩:=mixK Q (aC bv<|aC bB aN);refine Ol (Sm<|RH P Lz rfl rfl (Cn P.bd (a:=(ofZ<|-((Int.gcd n.toZ d.toZ:Nat):Int))) (Je M) (b:=(ofZ 1)) (Je bC) (by first|omega|(rw[Z5];omega)) (by decide)) ?_);intro dd de aH j bD;have g:=(g.spn x).spn j;refine⟨_,bD,fun az=>?_,fun az=>?_⟩
  ·refine Nl<|Ud<|RZ<|Sg mixed 3 [[],[0],[]] aH [fx<|.agg #[(.bool n.neg),(.slice a1 n.mag.length c2)],fr Jo<|ofZ n.toZ,fx<|.agg #[(.bool d.neg),(.slice J d.mag.length c5)]] (by kernel_rfl) ⟨sx,sr,sx,trivial⟩ fun bE ak df ⟨D,R⟩ E=>?_
   have i:=(i.sp j).sp R;have h:=(h.sp j).sp R;have f:=(f.spn j).spn R;have e:=(e.spn j).spn R;have E:Keep [21,22,23] _ bE:=E;refine⟨⟨fun _=>?_,fun⟨bF,_⟩=>?_,fun _=>?_,trivial⟩,fun⟨bG,bH,bJ,_⟩=>?_⟩
   ·exact Sd0 E fun _=>RX (vs:=(zzC n a1 c2)) f ag40 rfl rfl rfl ⟨ak,RJ D,rfl⟩
   ·refine Sd1 E bF fun _=>RH D cb47 rfl rfl (Ql D.bd (a:=n) (Je i) (by omega)) ?_;intro dg dh bK bL bM;exact⟨ak,⟨bK,bL⟩,bM⟩
   ·exact Sd0 E fun _=>RX (vs:=(zzC d J c5)) e ag40 rfl rfl rfl ⟨ak,RJ D,rfl⟩
   obtain⟨aI,aJ,bN,al⟩:=RV.int bH;obtain⟨di,rfl⟩:=mixK E (aC bG<|aC bN<|aC bJ aN);refine Ol (RH D cb47 rfl rfl (Ql D.bd (a:=d) (Je h) (by omega)) ?_);intro dj dk bO aK bP;have g:=(g.spn R).spn aK;obtain⟨aL,aM,rfl,am⟩:=RV.int bP;refine Ol (Si (cs:=[(.bool (ofZ n.toZ).neg),(.slice aI (ofZ n.toZ).mag.length aJ),(.bool (ofZ d.toZ).neg),(.slice aL (ofZ d.toZ).mag.length aM)]) rfl (by kernel_rfl)<|On<|Us (cs':=[(.bool (ofZ n.toZ).neg),(.slice aI (ofZ n.toZ).mag.length aJ),(.bool (ofZ d.toZ).neg),(.slice aL (ofZ d.toZ).mag.length aM)]) bO g io42 ?_);intro dm aO aP bQ;have al:=(al.sp aK).sp aP;have am:=am.sp aP;refine Nl (RY<|J0 rfl (TL bQ rfl ag42 rfl)<|RM ?_ aO.below);exact TM (a:=(⟨⟨(ofZ n.toZ).neg,(ofZ n.toZ).mag⟩,⟨(ofZ d.toZ).neg,(ofZ d.toZ).mag⟩⟩:GRat)) ((J2 al am).tr (Tr.weak aO.base))<|(JP<|of_decide_eq_true az).elim
  refine Nl<|Uc<|RZ<|Sg mixed 5 [[],[],[0,1],[],[]] aH [fx<|.agg #[(.bool n.neg),(.slice a1 n.mag.length c2)],fx<|.agg #[(.bool (ofZ<|-((Int.gcd n.toZ d.toZ:Nat):Int)).neg),(.slice K (ofZ<|-((Int.gcd n.toZ d.toZ:Nat):Int)).mag.length L)],fr Jo<|ofZ<|n.toZ/(-((Int.gcd n.toZ d.toZ:Nat):Int)),fx<|.agg #[(.bool d.neg),(.slice J d.mag.length c5)],fx<|.agg #[(.bool (ofZ<|-((Int.gcd n.toZ d.toZ:Nat):Int)).neg),(.slice K (ofZ<|-((Int.gcd n.toZ d.toZ:Nat):Int)).mag.length L)]] (by kernel_rfl) ⟨sx,sx,sr,sx,sx,trivial⟩ fun bR T dn ⟨p,y⟩ r=>?_
  have i:=(i.sp j).sp y;have h:=(h.sp j).sp y;have M:=(M.sp j).sp y;have f:=(f.spn j).spn y;have e:=(e.spn j).spn y;have N:=(N.spn j).spn y;have r:Keep [26,27,28,29,30] _ bR:=r;refine⟨⟨fun _=>?_,fun _=>?_,fun⟨bS,bT,_⟩=>?_,fun _=>?_,fun _=>?_,trivial⟩,fun⟨bU,bV,bW,bX,bY,_⟩=>?_⟩
  ·exact Sd0 r fun _=>RX (vs:=(zzC n a1 c2)) f ag40 rfl rfl rfl ⟨T,RJ p,rfl⟩
  ·exact Sd0 r fun _=>RX (vs:=(zzC (ofZ<|-((Int.gcd n.toZ d.toZ:Nat):Int)) K L)) N ag40 rfl rfl rfl ⟨T,RJ p,rfl⟩
  ·refine Js r (aC bS<|aC bT aN) fun _=>R8 (RH p yP rfl rfl (Vm p.bd (a:=n) (Je i) (b:=(ofZ<|-((Int.gcd n.toZ d.toZ:Nat):Int))) (Je M) (by omega) (by first|omega|(rw[Z5];omega)) (by rw[Ke];have h7:=hne;omega)) ?_);intro dp dq b0 b1 aQ;simp only[Jl,Zq] at aQ;exact⟨T,⟨b0,b1⟩,aQ⟩
  ·exact Sd0 r fun _=>RX (vs:=(zzC d J c5)) e ag40 rfl rfl rfl ⟨T,RJ p,rfl⟩
  ·exact Sd0 r fun _=>RX (vs:=(zzC (ofZ<|-((Int.gcd n.toZ d.toZ:Nat):Int)) K L)) N ag40 rfl rfl rfl ⟨T,RJ p,rfl⟩
  obtain⟨aR,aS,b2,an⟩:=RV.int bW;obtain⟨ds,rfl⟩:=mixK r (aC bU<|aC bV<|aC b2<|aC bX<|aC bY aN);refine Ol (RH p yP rfl rfl (Vm p.bd (a:=d) (Je h) (b:=(ofZ<|-((Int.gcd n.toZ d.toZ:Nat):Int))) (Je M) (by omega) (by first|omega|(rw[Z5];omega)) (by rw[Ke];have h7:=hne;omega)) ?_);intro dt du b3 aT aU;have g:=(g.spn y).spn aT;simp only[Jl,Zq] at aU;obtain⟨aV,aW,rfl,ao⟩:=RV.int aU;refine Ol (Si (cs:=[(.bool (ofZ<|n.toZ/(-((Int.gcd n.toZ d.toZ:Nat):Int))).neg),(.slice aR (ofZ<|n.toZ/(-((Int.gcd n.toZ d.toZ:Nat):Int))).mag.length aS),(.bool (ofZ<|d.toZ/(-((Int.gcd n.toZ d.toZ:Nat):Int))).neg),(.slice aV (ofZ<|d.toZ/(-((Int.gcd n.toZ d.toZ:Nat):Int))).mag.length aW)]) rfl (by kernel_rfl)<|On<|Us (cs':=[(.bool (ofZ<|n.toZ/(-((Int.gcd n.toZ d.toZ:Nat):Int))).neg),(.slice aR (ofZ<|n.toZ/(-((Int.gcd n.toZ d.toZ:Nat):Int))).mag.length aS),(.bool (ofZ<|d.toZ/(-((Int.gcd n.toZ d.toZ:Nat):Int))).neg),(.slice aV (ofZ<|d.toZ/(-((Int.gcd n.toZ d.toZ:Nat):Int))).mag.length aW)]) b3 g io42 ?_);intro dv aX aY b4;have an:=(an.sp aT).sp aY;have ao:=ao.sp aY;refine Nl (RY<|J0 rfl (TL b4 rfl ag42 rfl)<|RM ?_ aX.below);exact TM (a:=(⟨⟨(ofZ<|n.toZ/(-((Int.gcd n.toZ d.toZ:Nat):Int))).neg,(ofZ<|n.toZ/(-((Int.gcd n.toZ d.toZ:Nat):Int))).mag⟩,⟨(ofZ<|d.toZ/(-((Int.gcd n.toZ d.toZ:Nat):Int))).neg,(ofZ<|d.toZ/(-((Int.gcd n.toZ d.toZ:Nat):Int))).mag⟩⟩:GRat)) ((J2 an ao).tr (Tr.weak aX.base))<|MI ah
 refine Nl<|Uc<|RZ<|RZ<|Sg mixed 2 [[],[]] aF [fx<|.agg #[(.bool (ofZ ((Int.gcd n.toZ d.toZ:Nat):Int)).neg),(.slice H (ofZ ((Int.gcd n.toZ d.toZ:Nat):Int)).mag.length I)],fr Jo<|ofZ 1] (by kernel_rfl) ⟨sx,sr,trivial⟩ fun b5 aZ dw ⟨U,z⟩ V=>?_
 have i:=(i.sp o).sp z;have h:=(h.sp o).sp z;have m:=m.sp z;have f:=(f.spn o).spn z;have e:=(e.spn o).spn z;have l:=l.spn z;have V:Keep [18,19] _ b5:=V;refine⟨⟨fun _=>?_,fun _=>?_,trivial⟩,fun⟨b6,b7,_⟩=>?_⟩
 ·exact Sd0 V fun _=>RX (vs:=(zzC (ofZ ((Int.gcd n.toZ d.toZ:Nat):Int)) H I)) l ag40 rfl rfl rfl ⟨aZ,RJ U,rfl⟩
 ·refine Sd0 V fun _=>RH U cb48 rfl rfl (x_of U.bd (by decide) (by decide)) ?_;intro dx dy b8 b9 ca;exact⟨aZ,⟨b8,b9⟩,ca⟩
 obtain⟨dz,dB,cb,cc⟩:=RV.int b7;obtain⟨dC,rfl⟩:=mixK V (aC b6<|aC cb aN);refine Ol (Sm<|RH U Lz rfl rfl (Cn U.bd (a:=(ofZ ((Int.gcd n.toZ d.toZ:Nat):Int))) (Je m) (b:=(ofZ 1)) (Je cc) (by first|omega|(rw[Z5];omega)) (by decide)) ?_);intro dD dE a0 k cd;have g:=(g.spn z).spn k;refine⟨_,cd,fun aA=>?_,fun aA=>?_⟩
 ·refine Nl<|Ud<|RZ<|Sg mixed 3 [[],[0],[]] a0 [fx<|.agg #[(.bool n.neg),(.slice a1 n.mag.length c2)],fr Jo<|ofZ n.toZ,fx<|.agg #[(.bool d.neg),(.slice J d.mag.length c5)]] (by kernel_rfl) ⟨sx,sr,sx,trivial⟩ fun ce aq dG ⟨F,Y⟩ G=>?_
  have i:=(i.sp k).sp Y;have h:=(h.sp k).sp Y;have f:=(f.spn k).spn Y;have e:=(e.spn k).spn Y;have G:Keep [21,22,23] _ ce:=G;refine⟨⟨fun _=>?_,fun⟨cf,_⟩=>?_,fun _=>?_,trivial⟩,fun⟨cg,ch,ci,_⟩=>?_⟩
  ·exact Sd0 G fun _=>RX (vs:=(zzC n a1 c2)) f ag40 rfl rfl rfl ⟨aq,RJ F,rfl⟩
  ·refine Sd1 G cf fun _=>RH F cb47 rfl rfl (Ql F.bd (a:=n) (Je i) (by omega)) ?_;intro dH dI cj ck cl;exact⟨aq,⟨cj,ck⟩,cl⟩
  ·exact Sd0 G fun _=>RX (vs:=(zzC d J c5)) e ag40 rfl rfl rfl ⟨aq,RJ F,rfl⟩
  obtain⟨a2,a3,cm,ar⟩:=RV.int ch;obtain⟨dJ,rfl⟩:=mixK G (aC cg<|aC cm<|aC ci aN);refine Ol (RH F cb47 rfl rfl (Ql F.bd (a:=d) (Je h) (by omega)) ?_);intro dK dL cn a5 co;have g:=(g.spn Y).spn a5;obtain⟨a6,a7,rfl,au⟩:=RV.int co;refine Ol (Si (cs:=[(.bool (ofZ n.toZ).neg),(.slice a2 (ofZ n.toZ).mag.length a3),(.bool (ofZ d.toZ).neg),(.slice a6 (ofZ d.toZ).mag.length a7)]) rfl (by kernel_rfl)<|On<|Us (cs':=[(.bool (ofZ n.toZ).neg),(.slice a2 (ofZ n.toZ).mag.length a3),(.bool (ofZ d.toZ).neg),(.slice a6 (ofZ d.toZ).mag.length a7)]) cn g io42 ?_);intro dM a8 a9 cp;have ar:=(ar.sp a5).sp a9;have au:=au.sp a9;refine Nl (RY<|J0 rfl (TL cp rfl ag42 rfl)<|RM ?_ a8.below);exact TM (a:=(⟨⟨(ofZ n.toZ).neg,(ofZ n.toZ).mag⟩,⟨(ofZ d.toZ).neg,(ofZ d.toZ).mag⟩⟩:GRat)) ((J2 ar au).tr (Tr.weak a8.base))<|j9 (Cr (n:=n.toZ) B ah)<|Yr.1<|of_decide_eq_true aA
 refine Nl<|Uc<|RZ<|Sg mixed 5 [[],[],[0,1],[],[]] a0 [fx<|.agg #[(.bool n.neg),(.slice a1 n.mag.length c2)],fx<|.agg #[(.bool (ofZ ((Int.gcd n.toZ d.toZ:Nat):Int)).neg),(.slice H (ofZ ((Int.gcd n.toZ d.toZ:Nat):Int)).mag.length I)],fr Jo<|ofZ<|n.toZ/((Int.gcd n.toZ d.toZ:Nat):Int),fx<|.agg #[(.bool d.neg),(.slice J d.mag.length c5)],fx<|.agg #[(.bool (ofZ ((Int.gcd n.toZ d.toZ:Nat):Int)).neg),(.slice H (ofZ ((Int.gcd n.toZ d.toZ:Nat):Int)).mag.length I)]] (by kernel_rfl) ⟨sx,sx,sr,sx,sx,trivial⟩ fun cq Z dN ⟨s,A⟩ u=>?_
 have i:=(i.sp k).sp A;have h:=(h.sp k).sp A;have m:=(m.sp k).sp A;have f:=(f.spn k).spn A;have e:=(e.spn k).spn A;have l:=(l.spn k).spn A;have u:Keep [26,27,28,29,30] _ cq:=u;refine⟨⟨fun _=>?_,fun _=>?_,fun⟨cr,ct,_⟩=>?_,fun _=>?_,fun _=>?_,trivial⟩,fun⟨cu,cw,cx,cy,cz,_⟩=>?_⟩
 ·exact Sd0 u fun _=>RX (vs:=(zzC n a1 c2)) f ag40 rfl rfl rfl ⟨Z,RJ s,rfl⟩
 ·exact Sd0 u fun _=>RX (vs:=(zzC (ofZ ((Int.gcd n.toZ d.toZ:Nat):Int)) H I)) l ag40 rfl rfl rfl ⟨Z,RJ s,rfl⟩
 ·refine Js u (aC cr<|aC ct aN) fun _=>R8 (RH s yP rfl rfl (Vm s.bd (a:=n) (Je i) (b:=(ofZ ((Int.gcd n.toZ d.toZ:Nat):Int))) (Je m) (by omega) (by first|omega|(rw[Z5];omega)) (by rw[Ke];have h7:=hne;omega)) ?_);intro dO dP cB cC ba;simp only[Jl,Zq] at ba;exact⟨Z,⟨cB,cC⟩,ba⟩
 ·exact Sd0 u fun _=>RX (vs:=(zzC d J c5)) e ag40 rfl rfl rfl ⟨Z,RJ s,rfl⟩
 ·exact Sd0 u fun _=>RX (vs:=(zzC (ofZ ((Int.gcd n.toZ d.toZ:Nat):Int)) H I)) l ag40 rfl rfl rfl ⟨Z,RJ s,rfl⟩
 obtain⟨bb,be,cD,av⟩:=RV.int cx;obtain⟨dQ,rfl⟩:=mixK u (aC cu<|aC cw<|aC cD<|aC cy<|aC cz aN);refine Ol (RH s yP rfl rfl (Vm s.bd (a:=d) (Je h) (b:=(ofZ ((Int.gcd n.toZ d.toZ:Nat):Int))) (Je m) (by omega) (by first|omega|(rw[Z5];omega)) (by rw[Ke];have h7:=hne;omega)) ?_);intro dR dS cE bf bg;have g:=(g.spn A).spn bf;simp only[Jl,Zq] at bg;obtain⟨bh,bi,rfl,aw⟩:=RV.int bg;refine Ol (Si (cs:=[(.bool (ofZ<|n.toZ/((Int.gcd n.toZ d.toZ:Nat):Int)).neg),(.slice bb (ofZ<|n.toZ/((Int.gcd n.toZ d.toZ:Nat):Int)).mag.length be),(.bool (ofZ<|d.toZ/((Int.gcd n.toZ d.toZ:Nat):Int)).neg),(.slice bh (ofZ<|d.toZ/((Int.gcd n.toZ d.toZ:Nat):Int)).mag.length bi)]) rfl (by kernel_rfl)<|On<|Us (cs':=[(.bool (ofZ<|n.toZ/((Int.gcd n.toZ d.toZ:Nat):Int)).neg),(.slice bb (ofZ<|n.toZ/((Int.gcd n.toZ d.toZ:Nat):Int)).mag.length be),(.bool (ofZ<|d.toZ/((Int.gcd n.toZ d.toZ:Nat):Int)).neg),(.slice bh (ofZ<|d.toZ/((Int.gcd n.toZ d.toZ:Nat):Int)).mag.length bi)]) cE g io42 ?_);intro dT bj bk cF;have av:=(av.sp bf).sp bk;have aw:=aw.sp bk;refine Nl (RY<|J0 rfl (TL cF rfl ag42 rfl)<|RM ?_ bj.below);exact TM (a:=(⟨⟨(ofZ<|n.toZ/((Int.gcd n.toZ d.toZ:Nat):Int)).neg,(ofZ<|n.toZ/((Int.gcd n.toZ d.toZ:Nat):Int)).mag⟩,⟨(ofZ<|d.toZ/((Int.gcd n.toZ d.toZ:Nat):Int)).neg,(ofZ<|d.toZ/((Int.gcd n.toZ d.toZ:Nat):Int)).mag⟩⟩:GRat)) ((J2 av aw).tr (Tr.weak bj.base))<|yq<|Cr (n:=n.toZ) B ah
theorem Xu{X:Nat→Prop}{w:World}(hX:XB X w){r:Value}{a:GRat}(m:RV Jj X w r a)(hln:a.num.mag.length≤536870912)(hld:a.den.mag.length≤536870912):CRt 65 #[r] w fun v w'=>RV Jj X w' v (ofQ a.q):=by
 obtain⟨s,u,x,y,rfl,o,p⟩:=TN m;have C:=Cx.start hX;have sn:=m.rat_small.1;have sd:=m.rat_small.2;refine Cgo Tryz.func65 rfl rfl rfl (Rg<|Ol<|R9 C rfl ?_);intro V Y Z L J z i b;refine Ol (RR z io42 rfl ?_);intro M N P Q K j e f;have o:=(o.sp i).sp e;have p:=(p.sp i).sp e;have b:=b.spn e;refine Nl (Rg<|Ol<|RI Ko rfl<|Ol<|Uo (vs:=(zzC a.num s u)) b ag40<|Ol<|RI Yi rfl<|Ol<|Uo (vs:=(zzC a.den x y)) b ag40<|Ol<|RH j cb66 rfl rfl (tS j.bd (n:=a.num) (Je o) (d:=a.den) (Je p) (by omega) (by omega)) ?_);intro R T A B D;have f:=f.spn B;obtain⟨E,F,G,H,rfl,g,h⟩:=TN D;refine On (Us (cs':=(qqC (ofQ<|Rat.divInt a.num.toZ a.den.toZ) E F G H)) A f io42 ?_);intro U k l I;have g:=g.sp l;have h:=h.sp l;refine Nl (RY<|J0 rfl (TL I rfl ag42 rfl)<|RM ?_ k.below);exact TM (a:=(ofQ<|Rat.divInt a.num.toZ a.den.toZ)) ((J2 g h).tr (Tr.weak k.base)) rfl
theorem LM{X:Nat→Prop}{w:World}(hX:XB X w){v0:Value}{a:GRat}(r0:RV Jj X w v0 a){v1:Value}{b:GRat}(r1:RV Jj X w v1 b)(hln:a.num.mag.length≤100000000)(hld:a.den.mag.length≤100000000)(hlm:b.num.mag.length≤100000000)(hle:b.den.mag.length≤100000000):CRt 30 #[v0,v1] w fun v w'=>RV Jj X w' v (ofQ (a.q+b.q)):=by
 obtain⟨a1,c2,a3,c4,rfl,h5,h6⟩:=TN r0;obtain⟨a7,c8,a9,au,rfl,V,Y⟩:=TN r1;have C:=Cx.start hX;have sn:=r0.rat_small.1;have sd:=r0.rat_small.2;have sm:=r1.rat_small.1;have se:=r1.rat_small.2;have hN:=Zw sn;have hD:=Z0 sd;have hM:=Zw sm;have hE:=Z0 se;have m1:=Yj (x:=(ofQ a.q).num.toZ) (y:=(ofQ b.q).den.toZ);have m2:=Yj (x:=(ofQ b.q).num.toZ) (y:=(ofQ a.q).den.toZ);have m3:=Yj (x:=(ofQ a.q).den.toZ) (y:=(ofQ b.q).den.toZ);have m4:=ml (x:=(ofQ a.q).num.toZ*(ofQ b.q).den.toZ) (y:=(ofQ b.q).num.toZ*(ofQ a.q).den.toZ);simp only[lx,kZ] at m1 m2 m3;refine Cgo Tryz.func30 rfl rfl rfl (Rg<|Ol<|R9 C rfl ?_);intro aK dw dx dy cI cr al Q;refine Ol (R9 cr rfl ?_);intro aL dz dB dC cJ ct Z R;have h5:=(h5.sp al).sp Z;have h6:=(h6.sp al).sp Z;have V:=(V.sp al).sp Z;have Y:=(Y.sp al).sp Z;refine Ol (RR ct io42 rfl ?_);intro aM aO cu cw cK cy T F;have Q:=(Q.spn Z).spn T;have R:=R.spn T;refine Nl<|RZ<|SY mixed 6 [[],[0],[],[2],[],[]] ((cu,cw),lR) (RL X w) [fx<|.agg #[(.bool a.num.neg),(.slice a1 a.num.mag.length c2),(.bool a.den.neg),(.slice a3 a.den.mag.length c4)],fun(s:GhL) (v:Value) (w':World)=>RV Jj s.1.1 w' v<|ofQ a.q,fx<|.agg #[(.bool b.num.neg),(.slice a7 b.num.mag.length c8),(.bool b.den.neg),(.slice a9 b.den.mag.length au)],fun(s:GhL) (v:Value) (w':World)=>RV Jj s.1.1 w' v<|ofQ b.q,fun(s:GhL) (v:Value) (w':World)=>∃g':Nat,v= .pointer (some ⟨g',0,none⟩)∧Own w s.1.2 w' g' [(.bool false),(.slice none 0 0),(.bool false),(.slice none 0 0)] 42∧aO.heap.size≤g'∧s.2 g'=some 4,fun(s:GhL) (v:Value) (w':World)=>∃g':Nat,v= .pointer (some ⟨g',0,none⟩)∧Own w s.1.2 w' g' [(.bool false),(.slice none 0 0),(.bool false),(.slice none 0 0)] 42∧aO.heap.size≤g'∧s.2 g'=some 5] (by kernel_rfl) (TU cy) RL.trans ⟨sx,(fun _ _ _ _ _ h r=>RV.tr h r.rc.sp.tx),sx,(fun _ _ _ _ _ h r=>RV.tr h r.rc.sp.tx),(fun _ _ _ _ _ ⟨g,e,o,l,q⟩ r=>⟨g,e,o.spn r.rc.sp,l,r.ext _ _ q⟩),(fun _ _ _ _ _ ⟨g,e,o,l,q⟩ r=>⟨g,e,o.spn r.rc.sp,l,r.ext _ _ q⟩),trivial⟩ fun cz U dD am u=>?_
 have z:=am.rc.cx;have G:=am.rc.sp;have av:=Q.blk.lt;have aw:=R.blk.lt;have ax:=F.blk.lt;have aa:=G.tx.size;have h5:=(h5.sp T).sp G;have h6:=(h6.sp T).sp G;have V:=(V.sp T).sp G;have Y:=(Y.sp T).sp G;have Q:=Q.spn G;have R:=R.spn G;have u:Keep [7,8,9,10,5,6] _ cz:=u;refine⟨⟨fun _=>?_,fun⟨cB,_⟩=>?_,fun _=>?_,fun⟨cC,_⟩=>?_,fun _=>?_,fun _=>?_,trivial⟩,fun⟨cD,cE,aY,aZ,a0,a2,_⟩=>?_⟩
 ·exact Sd0 u fun _=>RX (vs:=(qqC a a1 c2 a3 c4)) Q ag42 rfl rfl rfl ⟨U,RL.same z,rfl⟩
 ·refine Sd1 u cB fun _=>RH z cb65 rfl rfl (Xu z.bd (a:=a) (J2 h5 h6) (by omega) (by omega)) ?_;intro cL cM a4 a5 a6;exact⟨U,TS ⟨a4,a5⟩,a6⟩
 ·exact Sd0 u fun _=>RX (vs:=(qqC b a7 c8 a9 au)) R ag42 rfl rfl rfl ⟨U,RL.same z,rfl⟩
 ·refine Sd1 u cC fun _=>RH z cb65 rfl rfl (Xu z.bd (a:=b) (J2 V Y) (by omega) (by omega)) ?_;intro cN cO a8 ba bb;exact⟨U,TS ⟨a8,ba⟩,bb⟩
 ·refine Sd0 u fun _=>RR z io42 rfl ?_;intro ay cP be bf an bg bh az;exact⟨((be,bf),lab U.2 ay 4),RL.new (am.bd fun _ _ h=>by cases h) ⟨bg,bh⟩ (ZB fun hh=>an _ hh rfl) az.blk.lt,ay,rfl,az,ZB fun hh=>an _ (UB hh aa) rfl,Kt _ _ _⟩
 ·refine Sd0 u fun _=>RR z io42 rfl ?_;intro aA cQ bi bj ao bk bl aB;exact⟨((bi,bj),lab U.2 aA 5),RL.new (am.bd fun _ _ h=>by cases h) ⟨bk,bl⟩ (ZB fun hh=>ao _ hh rfl) aB.blk.lt,aA,rfl,aB,ZB fun hh=>ao _ (UB hh aa) rfl,Kt _ _ _⟩
 obtain⟨ab,ac,H,I,bm,J,A⟩:=TN cE;obtain⟨ad,ae,K,L,bn,M,B⟩:=TN aZ;obtain⟨k,bo,bp,af,bq⟩:=a0;have cR:aK≠k:=ZO (UB av af);have cS:aL≠k:=ZO (UB aw af);have br:aM≠k:=ZO (UB ax af);obtain⟨m,bs,ag,ah,bt⟩:=a2;have cT:aK≠m:=ZO (UB av ah);have cU:aL≠m:=ZO (UB aw ah);have bu:aM≠m:=ZO (UB ax ah);have aD:k≠m:=vk bq bt rfl;obtain⟨cV,rfl⟩:=mixK u (aC cD<|aC bm<|aC aY<|aC bn<|aC bo<|aC bs aN);refine On (Us (cs':=(qqC (ofQ a.q) ab ac H I)) z bp io42 ?_);intro cW bv D N;have J:=J.sp D;have A:=A.sp D;have M:=M.sp D;have B:=B.sp D;have F:=(F.spn G).spo D br;have ag:=ag.spo D (UQ aD);refine On (Us (cs':=(qqC (ofQ b.q) ad ae K L)) bv ag io42 ?_);intro cX bw E P;refine Nl<|RZ<|Sg mixed 15 [[],[0],[],[2],[1,3],[],[5],[],[7],[6,8],[4,9],[],[11],[],[13]] bw [fx<|.pointer (some ⟨k,0,none⟩),fx<|.agg #[(.bool (ofQ a.q).num.neg),(.slice ab (ofQ a.q).num.mag.length ac)],fx<|.pointer (some ⟨m,2,none⟩),fx<|.agg #[(.bool (ofQ b.q).den.neg),(.slice K (ofQ b.q).den.mag.length L)],fr Jo<|ofZ<|(ofQ a.q).num.toZ*(ofQ b.q).den.toZ,fx<|.pointer (some ⟨m,0,none⟩),fx<|.agg #[(.bool (ofQ b.q).num.neg),(.slice ad (ofQ b.q).num.mag.length ae)],fx<|.pointer (some ⟨k,2,none⟩),fx<|.agg #[(.bool (ofQ a.q).den.neg),(.slice H (ofQ a.q).den.mag.length I)],fr Jo<|ofZ<|(ofQ b.q).num.toZ*(ofQ a.q).den.toZ,fr Jo<|ofZ<|((ofQ a.q).num.toZ*(ofQ b.q).den.toZ)+((ofQ b.q).num.toZ*(ofQ a.q).den.toZ),fx<|.pointer (some ⟨k,2,none⟩),fx<|.agg #[(.bool (ofQ a.q).den.neg),(.slice H (ofQ a.q).den.mag.length I)],fx<|.pointer (some ⟨m,2,none⟩),fx<|.agg #[(.bool (ofQ b.q).den.neg),(.slice K (ofQ b.q).den.mag.length L)]] (by kernel_rfl) ⟨sx,sx,sx,sx,sr,sx,sx,sx,sx,sr,sr,sx,sx,sx,sx,trivial⟩ fun bx j cY ⟨f,p⟩ i=>?_
 have J:=(J.sp E).sp p;have A:=(A.sp E).sp p;have M:=(M.sp E).sp p;have B:=(B.sp E).sp p;have F:=(F.spo E bu).spn p;have N:=(N.spo E aD).spn p;have P:=P.spn p;have i:Keep [11,12,13,14,15,16,17,18,19,20,21,22,23,24,25] _ bx:=i;refine⟨⟨fun _=>?_,fun⟨bz,_⟩=>?_,fun _=>?_,fun⟨bA,_⟩=>?_,fun⟨bB,bC,_⟩=>?_,fun _=>?_,fun⟨bD,_⟩=>?_,fun _=>?_,fun⟨bE,_⟩=>?_,fun⟨bF,bG,_⟩=>?_,fun⟨bH,bJ,_⟩=>?_,fun _=>?_,fun⟨bK,_⟩=>?_,fun _=>?_,fun⟨bL,_⟩=>?_,trivial⟩,fun⟨bM,bN,bO,bP,bQ,bR,bS,bT,bU,bV,bW,bX,bY,bZ,b0,_⟩=>?_⟩
 ·exact Sd0 i fun _=>RI Ko rfl ⟨j,RJ f,rfl⟩
 ·exact Sd1 i bz fun _=>RX (vs:=(zzC ((ofQ a.q).num) ab ac)) N ag40 rfl rfl rfl ⟨j,RJ f,rfl⟩
 ·exact Sd0 i fun _=>RI Yi rfl ⟨j,RJ f,rfl⟩
 ·exact Sd1 i bA fun _=>RX (vs:=(zzC ((ofQ b.q).den) K L)) P ag40 rfl rfl rfl ⟨j,RJ f,rfl⟩
 ·refine Js i (aC bB<|aC bC aN) fun _=>R8 (RH f cb68 rfl rfl (u7 f.bd (a:=(ofQ a.q).num) (Je J) (b:=(ofQ b.q).den) (Je B) (by omega) (by omega)) ?_);intro cZ c0 b1 b2 b3;exact⟨j,⟨b1,b2⟩,b3⟩
 ·exact Sd0 i fun _=>RI Ko rfl ⟨j,RJ f,rfl⟩
 ·exact Sd1 i bD fun _=>RX (vs:=(zzC ((ofQ b.q).num) ad ae)) P ag40 rfl rfl rfl ⟨j,RJ f,rfl⟩
 ·exact Sd0 i fun _=>RI Yi rfl ⟨j,RJ f,rfl⟩
 ·exact Sd1 i bE fun _=>RX (vs:=(zzC ((ofQ a.q).den) H I)) N ag40 rfl rfl rfl ⟨j,RJ f,rfl⟩
 ·refine Js i (aC bF<|aC bG aN) fun _=>R8 (RH f cb68 rfl rfl (u7 f.bd (a:=(ofQ b.q).num) (Je M) (b:=(ofQ a.q).den) (Je A) (by omega) (by omega)) ?_);intro c1 c3 b4 b5 b6;exact⟨j,⟨b4,b5⟩,b6⟩
 ·obtain⟨c6,c7,b7,b8⟩:=RV.int bH;obtain⟨c9,da,b9,ca⟩:=RV.int bJ;refine Js i (aC b7<|aC b9 aN) fun _=>R8 (RH f cb67 rfl rfl (MA f.bd (a:=(ofZ<|(ofQ a.q).num.toZ*(ofQ b.q).den.toZ)) (Je b8) (b:=(ofZ<|(ofQ b.q).num.toZ*(ofQ a.q).den.toZ)) (Je ca) (by omega) (by omega)) ?_);intro db dc cb cc aE;simp only[Jl,Zq] at aE;exact⟨j,⟨cb,cc⟩,aE⟩
 ·exact Sd0 i fun _=>RI Yi rfl ⟨j,RJ f,rfl⟩
 ·exact Sd1 i bK fun _=>RX (vs:=(zzC ((ofQ a.q).den) H I)) N ag40 rfl rfl rfl ⟨j,RJ f,rfl⟩
 ·exact Sd0 i fun _=>RI Yi rfl ⟨j,RJ f,rfl⟩
 ·exact Sd1 i bL fun _=>RX (vs:=(zzC ((ofQ b.q).den) K L)) P ag40 rfl rfl rfl ⟨j,RJ f,rfl⟩
 obtain⟨dd,de,cd,df⟩:=RV.int bQ;obtain⟨dg,dh,ce,di⟩:=RV.int bV;obtain⟨dj,dk,cf,ai⟩:=RV.int bW;obtain⟨dm,rfl⟩:=mixK i (aC bM<|aC bN<|aC bO<|aC bP<|aC cd<|aC bR<|aC bS<|aC bT<|aC bU<|aC ce<|aC cf<|aC bX<|aC bY<|aC bZ<|aC b0 aN);refine Ol (RH f cb68 rfl rfl (u7 f.bd (a:=(ofQ a.q).den) (Je A) (b:=(ofQ b.q).den) (Je B) (by omega) (by omega)) ?_);intro dn dp aF aG cg;have ai:=ai.sp aG;obtain⟨dq,ds,rfl,ch⟩:=RV.int cg;refine Ol (RH aF cb66 rfl rfl (tS aF.bd (n:=(ofZ<|((ofQ a.q).num.toZ*(ofQ b.q).den.toZ)+((ofQ b.q).num.toZ*(ofQ a.q).den.toZ))) (Je ai) (d:=(ofZ<|(ofQ a.q).den.toZ*(ofQ b.q).den.toZ)) (Je ch) (by omega) (by omega)) ?_);intro dt du ci cj aH;have F:=(F.spn aG).spn cj;simp only[Jl,Zq] at aH;obtain⟨ck,cl,cm,cn,rfl,aj,ak⟩:=TN aH;refine On (Us (cs':=(qqC (ofQ<|Rat.divInt (((ofQ a.q).num.toZ*(ofQ b.q).den.toZ)+((ofQ b.q).num.toZ*(ofQ a.q).den.toZ))<|(ofQ a.q).den.toZ*(ofQ b.q).den.toZ) ck cl cm cn)) ci F io42 ?_);intro dv aI aJ co;have aj:=aj.sp aJ;have ak:=ak.sp aJ;refine Nl (RY<|J0 rfl (TL co rfl ag42 rfl)<|RM ?_ aI.below);exact TM (a:=(ofQ<|Rat.divInt (((ofQ a.q).num.toZ*(ofQ b.q).den.toZ)+((ofQ b.q).num.toZ*(ofQ a.q).den.toZ))<|(ofQ a.q).den.toZ*(ofQ b.q).den.toZ)) ((J2 aj ak).tr (Tr.weak aI.base))<|MR _ _
end Go.Wf
namespace Go.Wf
def cofM(a:GSer)(n:Int):GRat:=if n<a.fr∨a.fr+(a.cs.length:Nat)≤n then ofQ (Rat.divInt 0 1) else nrm (a.cs.getD (n-a.fr).toNat default)
theorem MP{a:GSer}{n:Int}(h:n<a.fr):ofQ (Rat.divInt 0 1)=cofM a n:=by unfold cofM;rw[if_pos (.inl h)]
theorem MC{a:GSer}{n:Int}(h:a.fr+(a.cs.length:Nat)≤n):ofQ (Rat.divInt 0 1)=cofM a n:=by unfold cofM;rw[if_pos (.inr h)]
theorem HK{a:GSer}{n:Int}(h:¬n<a.fr)(k:¬a.fr+(a.cs.length:Nat)≤n):nrm (a.cs.getD (n-a.fr).toNat default)=cofM a n:=by unfold cofM;rw[if_neg (fun e=>e.elim h k)]
def ordM(a:GSer):Int:=a.fr+(nz a.cs:Nat)
def sumQ(a b:GSer)(n:Int):Nat→Rat
 |0=>0
 |m+1=>sumQ a b n m+(cofM a (ordM a+(m:Nat))).q*(cofM b (n-(ordM a+(m:Nat)))).q
def cntM(a b:GSer)(n:Int):Nat:=(n-ordM b-ordM a+1).toNat
def mulL(a b:GSer)(m:Nat):List GRat:=(List.range m).map fun(j:Nat)=>ofQ (sumQ a b (ordM a+ordM b+(j:Nat)) (cntM a b (ordM a+ordM b+(j:Nat))))
def Ku(a b:GSer):Int:=min (a.fr+(a.cs.length:Nat)+ordM b) (b.fr+(b.cs.length:Nat)+ordM a)
def mulM(a b:GSer):GSer:=bld (ordM a+ordM b) (mulL a b (Ku a b-(ordM a+ordM b)).toNat)
theorem ib{a b:GSer}{m:Nat}:(mulL a b m).length=m:=by unfold mulL;rw[W4,W6]
theorem uD{a b:GSer}{m:Nat}{l:List GRat}{n i:Int}{c:Nat}(h:l=mulL a b m)(hn:n=ordM a+ordM b+(m:Nat))(hi:i=ordM a+(c:Nat))(d:i≤n-ordM b+1)(f:¬i≤n-ordM b){q:Rat}(hq:q=sumQ a b n c):l++[ofQ q]=mulL a b (m+1):=by
 have e:c=cntM a b n:=by unfold cntM;omega
 rw[h,hq,e,hn];unfold mulL;rw[XS,XA];rfl
def intC(a:GSer):Prop:=∀n,∃z:Int,(cofM a n).q=(z:Rat)∧z.natAbs≤2^120
theorem nw(x y:Int):((x:Rat)+(y:Rat))=((x+y:Int):Rat):=(Rat.intCast_add x y).symm
theorem kh(x y:Int):((x:Rat)*(y:Rat))=((x*y:Int):Rat):=(Rat.intCast_mul x y).symm
theorem oz{a b:GSer}(ha:intC a)(hb:intC b)(n:Int):∀m:Nat,∃z:Int,sumQ a b n m=(z:Rat)∧z.natAbs≤m*2^240
 |0=>⟨0,rfl,by simp⟩
 |m+1=>by
  obtain⟨z,f,g⟩:=oz ha hb n m;obtain⟨x,h,i⟩:=ha (ordM a+(m:Nat));obtain⟨y,j,k⟩:=hb (n-(ordM a+(m:Nat)));refine⟨z+x*y,?_,?_⟩
  ·show sumQ a b n m+_*_=_;rw[f,h,j,kh,nw]
  ·have d:(x*y).natAbs≤2^120*2^120:=by rw[Wr];exact ZH i k
   have l:=Wo z (x*y);rw[ZW];have e:(2:Nat)^120*2^120=2^240:=by decide
   rw[e] at d;exact UC l (Nat.add_le_add g d)
theorem k6{z:Int}{k:Nat}(h:z.natAbs<4294967296^k):(ofQ (z:Rat)).num.mag.length≤k∧(ofQ (z:Rat)).den.mag.length=1:=by
 unfold ofQ;rw[Jap,Jam];refine⟨?_,rfl⟩
 show(ofZ z).mag.length≤k
 rw[Xg];exact Jt h
theorem mQ{a b:GSer}(ha:intC a)(hb:intC b){n:Int}{m:Nat}(hm:m≤1000){q:Rat}(hq:q=sumQ a b n m):(ofQ q).num.mag.length≤20∧(ofQ q).den.mag.length≤20:=by
 obtain⟨z,d,e⟩:=oz ha hb n m;rw[hq,d];have f:=k6 (z:=z) (k:=20) (U7 (UC e (ZI _ hm)) (by decide));omega
theorem uA{a:GSer}(ha:intC a){n:Int}:(cofM a n).num.mag.length≤20∧(cofM a n).den.mag.length≤20:=by
 obtain⟨z,b,d⟩:=ha n;have e:cofM a n=ofQ (cofM a n).q:=by
  unfold cofM;split
  ·rw[Zq]
  ·show nrm _=ofQ (nrm _).q;unfold nrm;rw[Zq]
 rw[e,b];have f:=k6 (z:=z) (k:=20) (U7 d (by decide));omega
theorem Gc{a b:GSer}(ha:intC a)(hb:intC b){n k:Int}:(ofQ ((cofM a n).q*(cofM b k).q)).num.mag.length≤20∧(ofQ ((cofM a n).q*(cofM b k).q)).den.mag.length≤20:=by
 obtain⟨x,d,e⟩:=ha n;obtain⟨y,f,g⟩:=hb k;rw[d,f,kh];have h:(x*y).natAbs≤2^120*2^120:=by rw[Wr];exact ZH e g
 have i:=k6 (z:=x*y) (k:=20) (U7 h (by decide));omega
theorem tD{a b:GSer}{n i:Int}{c:Nat}{q:Rat}(hq:q=sumQ a b n c)(hi:i=ordM a+(c:Nat)):q+(cofM a i).q*(cofM b (n-i)).q=sumQ a b n (c+1):=by rw[hq,hi];rfl
theorem H4{a:GSer}(h:a.fr < -100):(2:Int)=if Zd a then 0 else 2:=by unfold Zd;rw[decide_eq_false (by omega)];rfl
theorem L9{a:GSer}(h:a.fr>1000):(2:Int)=if Zd a then 0 else 2:=by unfold Zd;rw[decide_eq_false (show ¬a.fr≤1000 by omega),VK];rfl
theorem HN{a:GSer}(h:((a.cs.length:Nat):Int)>1000-a.fr):(2:Int)=if Zd a then 0 else 2:=by unfold Zd;rw[decide_eq_false (show ¬((a.cs.length:Nat):Int)≤1000-a.fr by omega),VK];rfl
theorem Hx{a:GSer}(h:¬a.fr < -100)(k:¬a.fr>1000)(l:¬((a.cs.length:Nat):Int)>1000-a.fr):(0:Int)=if Zd a then 0 else 2:=by
 unfold Zd;rw[decide_eq_true (show -100≤a.fr by omega),decide_eq_true (show a.fr≤1000 by omega),decide_eq_true (show((a.cs.length:Nat):Int)≤1000-a.fr by omega)];rfl
theorem EH{c:GRat}:decide (((((ofQ c.q).num.mag.length:Nat):Int))=0)=decide (c.q=0):=by
 refine decide_eq_decide.2 ⟨fun h=>?_,fun h=>?_⟩
 ·have b:(ofQ c.q).num.mag=[]:=UT (by omega);have a:(ofQ c.q).num.toZ=c.q.num:=Jl _;unfold GInt.toZ at a;rw[b] at a;have d:c.q.num=0:=by rw[←a];exact qK _
  exact Rat.num_eq_zero.1 d
 ·rw[h];rfl
theorem pM{l:List GRat}{k:Nat}(hk:k<l.length)(hq:(l.getD k default).q=0):nz (l.drop k)=nz (l.drop (k+1))+1:=uU hk (Vh.2 hq)
theorem om{l:List GRat}{k:Nat}(hk:k<l.length)(hq:¬(l.getD k default).q=0):nz (l.drop k)=0:=rQ hk fun e=>hq (Vh.1 e)
end Go.Wf
namespace Go.Ev
open Go Go.Wf Go.Proofs
def chkQ(r:Res)(n:Int):Bool:=match r with
 |.ok (.ag [.b s,x,.b t,y]) h=>(match rd0 h x,rd0 h y with|some l,some m=>eqZ ⟨s,l⟩ n&&eqZ ⟨t,m⟩ 1|_,_=>false)
 |_=>false
abbrev qR(n:Nat):Res:=Qn Tryz.prog (prL TA) (fun _=>0) 100 11 [.i .i64 (Int.ofNat n)] (hpG 2 Vx)
theorem Rp:∀n∈[0,1,2,3],chkQ (qR n) (Int.ofNat n)=true:=by
 simp only[WR];exact⟨by kernel_rfl,by kernel_rfl,by kernel_rfl,by kernel_rfl,fun _ h=>by cases h⟩
theorem Gs {P:Program} {pr:Prim} {ex:FuncId→Nat} (hx:ExS P ex) (hp:kY P pr) (hm:P.follows .mixedOrders=true) {m k n:Nat} {l:List (Nat×List AV)} {args:List AV} {z:Int} (e:chkQ (Qn P pr ex m k args (hpG n l)) z=true)
  (X:Nat→Prop) (w:World) (hX:∀b,X b→b<w.heap.size) (hT:∀p∈l,¬X p.1) (hn:n≤big5) (hw:Xo w n l) (vs:List Value) (hv:∀Φ,RvL Φ args vs):
  Calls P k vs.toArray w (Ret w fun x w'=>RV Jj X w' x (zQ z)):=by
 unfold chkQ at e;split at e
 ·rename_i s x t y h' he;split at e
  ·rename_i C D g h;obtain⟨i,j⟩:=Za e
   refine(nW hx hp hm he X w hX hT hn hw vs hv).mono ?_
   intro en w' hh;cases en with
   |returned v=>
    obtain⟨⟨Φ,τ,a,d,f⟩,hb⟩:=hh;refine⟨?_,hb⟩;simp only[Rv,RvL] at a;obtain⟨_,rfl,_,_,rfl,rfl,E,_,rfl,o,_,_,rfl,rfl,u2,_,rfl,r,rfl⟩:=a;have u:=ws d f o g;have A:=ws d f r h;have k1:=wJ i;have B:=wJ j;show RV Jj X w' _ (⟨ofZ z,ofZ 1⟩:GRat);rw[←k1,←B];exact J2 u A
   |panicked ch=>exact hh.elim
   |outgrown=>exact hh.elim
  ·cases e
 ·cases e
end Go.Ev
namespace Go.Wf
open Go Go.Ev Go.Proofs
theorem x_Q{X:Nat→Prop}{w:World}(hX:∀b,X b→b<w.heap.size){n:Int}(hT:T10 X w)(d:0≤n)(f:n≤3):
  Calls Tryz.prog 11 #[.int .i64 n] w (Ret w fun v w'=>RV Jj X w' v (ofQ (Rat.divInt n 1))):=by
 have e:zQ n=ofQ (Rat.divInt n 1):=by rw[Dw,←Jao (n:Rat),Jap,Jam];rfl
 rw[←e];have a:n=Int.ofNat n.toNat:=by rw[Wx];omega
 have key:=Gs exS0 (uH xR) mixed (Rp n.toNat (by simp;omega)) X w hX hT.no (by decide) hT.tab [.int .i64 n] (fun Φ=>by simp only[RvL,Rv];exact⟨_,_,rfl,by rw[←a],rfl⟩);rw[←a] at key;exact key
end Go.Wf
