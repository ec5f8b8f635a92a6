/- Part 5 of the texts for the claim. -/
import Derived.Test.YtjiojpmoleilgaaGreatDoorPrints4
set_option linter.unusedVariables false
set_option linter.unusedSimpArgs false
set_option maxRecDepth 100000
set_option maxHeartbeats 4000000
noncomputable section
namespace Go.Wf
open Go Go.RowKit
structure ElO {α:Type} (T:Ty α) (x:Nat→Prop) (w:World) (b o:Nat) (cs:List Value) (u:α):Prop where
 rd:T.rd x w cs u
 cell:∀ q v,cs[q]? =some v→w.cell? ⟨b,o+q,none⟩=some v
section
variable {α:Type} {T:Ty α} {E:TypeId} {X0 x y:Nat→Prop} {w0:Bs} {w:World} {ad:Option Addr} {g n c:Nat} {a:α} {l:List α}
theorem OS.adr{l:List α}(h:OS T E w0 x y w (.slice ad n c) l)(hl:0 < l.length):∃ g,ad=some ⟨g,0,none⟩:=by
 obtain⟨⟨css,h1,h2,h3⟩,hm⟩:=h
 rcases h3.2 with ⟨e,h⟩ | ⟨g,cap,cur,e,_⟩
 ·omega
 ·cases e;exact⟨g,rfl⟩
theorem OS.first(h:OS T E w0 x y w (.slice (some ⟨g,0,none⟩) n c) (a::l)):∃ (cs:List Value) (css:List (List Value)) (cap:Nat) (tl:List Value),T.rd x w cs a∧w.heap[g]? =some (.cells (cs++css.flatten++tl).toArray E (0,0))∧css.length=l.length∧n=l.length+1∧c=cap∧n≤cap∧cap≤maxLen∧
  (cs++css.flatten++tl).length=cap * T.sz∧(cs++css.flatten).length=n * T.sz∧∀ (i:Nat) (cs:List Value) (u:α),css[i]? =some cs→l[i]? =some u→T.rd x w cs u:=by
 obtain⟨⟨css,h1,h2,h3⟩,hm⟩:=h;obtain⟨h4,h5⟩:=h3
 rcases h5 with ⟨e,h⟩ | ⟨g',cap,cur,e,hb,hg,h6,h7,h8,h9⟩
 ·cases e
 ·cases e
  cases css with
  | nil=>simp at h1
  | cons cs css=>
   rw [List.flatten_cons] at h4 h9;have e2:cur.toList=cs++css.flatten++cur.toList.drop ((l.length+1) * T.sz):=by
    rw [← h9];exact(List.take_append_drop _ _).symm
   refine⟨cs,css,c,cur.toList.drop ((l.length+1) * T.sz),h2 0 cs a rfl rfl,?_,by simpa using h1,by simp,rfl,by simpa using h6,h7,?_,by simpa using h4,fun i cs u hi hu=>h2 (i+1) cs u (by simpa using hi) (by simpa using hu)⟩
   ·rw [← e2];simpa using hg
   ·rw [← e2];simpa using h8
variable {P:Program} {ρ:Operand→Value} {K:Value→World→Prop} {Kp:List PanicEntry→World→Prop} {dst:Option Tmp} {ty:TypeId} {pos:String} {after:Array Edge} {gd:Option (Nat × Bool)}
theorem ElO.of(h:OS T E w0 x y w (.slice (some ⟨g,0,none⟩) n c) (a::l)):∃ cs,ElO T x w g 0 cs a:=by
 obtain⟨cs,css,cap,tl,hr,hg,_⟩:=h.first;refine⟨cs,hr,fun q v hq=>?_⟩
 rw [Nat.zero_add,cell_of_row w g q _ E (0,0) hg]
 have:=(List.getElem?_eq_some_iff.1 hq).1
 rw [List.getElem?_toArray,J89,List.getElem?_append_left this];exact hq
theorem J7l {s i:Operand} {t e:TypeId} {z:Value} {by_:Nat} {k:IntKind} (ho:OS T E w0 x y w (.slice (some ⟨g,0,none⟩) n c) (a::l)) (ht:P.underlying t=some (.slice e)) (hi:Zg P e=some (z,T.sz,by_))
  (hx:ρ s= .slice (some ⟨g,0,none⟩) n c) (hy:ρ i= .int k 0) (h:∀ cs,ElO T x w g 0 cs a→K (.pointer (some ⟨g,0,none⟩)) w):St P ρ ⟨dst,.indexAddr t s i,ty,pos,after,gd⟩ w K Kp:=by
 obtain⟨cs,hcs⟩:=ElO.of ho
 have:=J6t (P:=P) (ρ:=ρ) (K:=K) (Kp:=Kp) (dst:=dst) (ty:=ty) (pos:=pos) (after:=after) (gd:=gd) (j:=0) ho ht hi hx hy rfl (Nat.succ_pos _)
 refine this ?_;have h8:(Value.pointer (Option.map (fun x=>x.add (0 * T.sz)) (some (⟨g,0,none⟩:Addr))))= .pointer (some ⟨g,0,none⟩):=by rw [Nat.zero_mul];simp [Addr.add]
 rw [h8];exact h cs hcs
theorem J7t {p v:Operand} {t:TypeId} {z:Value} {sz by_ off:Nat} {cs cs' vs:List Value} {u':α} (C:Cx X0 w0 x y w) (ho:OS T E w0 x y w (.slice (some ⟨g,0,none⟩) n c) (a::l)) (he:ElO T x w g 0 cs a) (hi:Zg P t=some (z,sz,by_))
  (hx:ρ p= .pointer (some ⟨g,0+off,none⟩)) (hy:(ρ v).cells=vs.toArray) (hl:vs.length=sz) (h1:vs.all Value.oneCell'=true) (hfit:Nat.ble (off+vs.length) cs.length=true) (hc:cs.take off++vs++cs.drop (off+vs.length)=cs') (hr:T.rd x w cs' u')
  (h:∀ w',Cx X0 w0 x y w'→Ap x w x y w'→OS T E w0 x y w' (.slice (some ⟨g,0,none⟩) n c) (u'::l)→K undef w'):St P ρ ⟨dst,.store t p v,ty,pos,after,gd⟩ w K Kp:=by
 have hm:=ho.mem g rfl;obtain⟨ds,css,cap,tl,hrd,hg,hcl,hn,rfl,hnc,hcm,hcap,hnl,hall⟩:=ho.first;have hfit:=J9q hfit;have hds:ds=cs:=by
  apply List.ext_getElem?
  intro q;have hld:=T.len hrd;have hlc:=T.len he.rd
  rcases J9w q cs.length with hq | hq
  ·have h2:=he.cell q cs[q] (J9f hq);rw [Nat.zero_add,cell_of_row w g q _ E (0,0) hg,List.getElem?_toArray,J89,List.getElem?_append_left (by omega)] at h2;rw [h2,J9f hq]
  ·rw [J9z hq,J9z (by omega)]
 subst hds;obtain⟨inf,hi',_,hs,_⟩:=Jy hi;have hB:Blk w g (ds++css.flatten++tl) E:=hg;rw [Nat.zero_add] at hx;refine J65 (vs:=vs) hi' hs hx hy hl hB (by rw [J8z,J8z];omega) h1 fun C' hC'=>?_
 have hC2:C'=cs'++css.flatten++tl:=by
  rw [hC',← hc,J89 ds,List.take_append_of_le_length (by omega),List.drop_append_of_le_length hfit];simp only [J89]
 have hsz:(Kn w g C').heap.size=w.heap.size:=by simp [Kn,World.setRow]
 have hsame:∀ b,b < w.heap.size→¬ b=g→(Kn w g C').heap[b]? =w.heap[b]? :=fun b _ hb=>Ve hb;have hb2:Bel w0 (Kn w g C'):=C.below.turn (g:=g) ⟨rfl,rfl,rfl,by rw [hsz];exact J9g _,fun b hb hm=>hsame b hb hm⟩ hm.2;have htr:Tr x w x (Kn w g C'):=⟨fun _ _ h=>h,fun b hb hx=>hsame b hb (fun e=>hx (e ▸ hm.1.1)),by omega⟩;have hlen:cs'.length=ds.length:=by
  rw [← hc];simp only [J8z,J9b,J9a];omega
 refine h _ ⟨hb2,C.base,fun b hb=>by rw [hsz];exact C.bd b hb,C.yx⟩ ⟨htr,fun b hb hy=>hsame b hb (fun e=>hm.1.2 (e ▸ hy))⟩ ⟨⟨cs'::css,by simp [hcl],fun i cs u hci hu=>?_,?_⟩,fun k hk=>?_⟩
 ·cases i with
  | zero=>simp at hci hu;subst hci;subst hu;exact T.tr hr htr
  | succ i=>exact T.tr (hall i cs u (by simpa using hci) (by simpa using hu)) htr
 ·have hB2:=hB.set (C':=C');rw [hC2] at hB2 ⊢;refine⟨?_,.inr ⟨g,c,(cs'++css.flatten++tl).toArray,by rw [J80,hn],J9h _,hB2,by rw [J80];omega,hcm,?_,?_⟩⟩
  ·rw [List.flatten_cons,J8z,hlen,← J8z,hnl,hn,J80]
  ·rw [List.size_toArray,← hcap];simp only [J8z,hlen]
  ·rw [List.flatten_cons,J80,← hn]
   have:(cs'++css.flatten).length=n * T.sz:=by rw [← hnl];simp only [J8z,hlen]
   rw [← this];exact List.take_left
 ·have:=ho.mem k hk
  exact this
end
end Go.Wf
namespace Go.Wf
open Go Go.Proofs Go.RowKit
theorem Jbf{X:Nat→Prop}{w:World}(hX:XB X w){g:Nat}{s:List UInt8}{p o:Nat}(hB:Blk w g (rc s p o) 88)(hXg:X g){minus:Bool}{S:Nat→Nat→Rr GExpr}{lo:Nat}(hp:p≤s.length)(hs:s.length≤65536)(ho:o≤64)(hS:∀ o p,p≤s.length→(S o p).fw s p)(ih:SumC s S lo)(hlo:lo≤p):Calls Tryz.prog 98 #[(.pointer (some ⟨g,0,none⟩)),(.bool minus)] w (RetP w g (Kz s S minus o p) fun a q v w'=>RV Jf X w' v a∧Blk w' g (rc s q o) 88):=by
 have C:=J53 g hX hXg;have o0:=J8j hB
 have:maxLen=9223372036854775807:=rfl
 refine Cgo (args:=[(.pointer (some ⟨g,0,none⟩)),(.bool minus)]) Tryz.func98 rfl rfl rfl (Rg<|Ol<|J41 C io31 rfl ?_);intro g1 w2 x3 y4 dX C6 s7 o8;have n9:=dX _ o0.blk.lt;replace o0:=o0.spn s7;refine Nl<|Rg<|Ua<|Rg<|Ua<|J40<|J55 (fun f v=>∃ (x y:Nat→Prop) (r:Nat) (l:List GExpr) (la:Option Addr) (lc:Nat) (pl:Bool),Cx X ⟨w,(· =g)⟩ x y v∧f 1=(.bool minus)∧f 4=(.pointer (some ⟨g1,0,none⟩))∧f 5=(.slice la l.length lc)∧f 6=(.bool pl)∧OS Jf 31 ⟨w,(· =g)⟩ x y v (.slice la l.length lc) l∧Own ⟨w,(· =g)⟩ y v g [(str s),(.int .i64 ((r:Nat):Int)),(.int .i64 ((o:Nat):Int))] 88∧Own ⟨w,(· =g)⟩ y v g1 zX 31∧r≤s.length∧Xw s S o (s.length+1) [] false p= .ok (l,pl) r∧0 < l.length∧l.length≤s.length+1) ?_ ?_
 ·refine W.block (J5e (fun μ f v=>∃ (x y:Nat→Prop) (q:Nat) (k:Nat) (l:List GExpr) (la:Option Addr) (lc:Nat) (pl:Bool),Cx X ⟨w,(· =g)⟩ x y v∧f 0=(.pointer (some ⟨g,0,none⟩))∧f 1=(.bool minus)∧f 4=(.pointer (some ⟨g1,0,none⟩))∧f 5=(.slice la l.length lc)∧f 6=(.bool pl)∧OS Jf 31 ⟨w,(· =g)⟩ x y v (.slice la l.length lc) l∧Own ⟨w,(· =g)⟩ y v g [(str s),(.int .i64 ((q:Nat):Int)),(.int .i64 ((o:Nat):Int))] 88∧Own ⟨w,(· =g)⟩ y v g1 zX 31∧q≤s.length∧lo≤q∧s.length < q+k∧l.length≤q∧Xw s S o (s.length+1) [] false p=Xw s S o k l pl q∧μ=(s.length+1 - q)) _ ⟨_,_,p,(s.length+1),[],none,0,false,C6,rfl,rfl,rfl,rfl,rfl,J8k,o0,o8,hp,hlo,(by omega),(J9h _),rfl,rfl⟩ ?_);rintro fQ fR fS ⟨fT,fU,q,k,l,la,lc,pl,bg,cK,cL,cM,cN,cO,hL,bh,i,hq,hlq,hk,hl,hM,d4⟩;obtain⟨fV,rfl⟩:=rebK (aC cK<|aC cL<|aC cM<|aC cN<|aC cO aN);clear cK cL cM cN cO;refine W.block<|Rg<|Ub<|J5q (cs':=fun a q=>rc s q o) bg bh cb147 rfl rfl (Jog bg.bd (s:=s) (p:=q) (o:=o) bh.blk (bg.yx _ bh.mem) hq hs ho hS ih (by omega)) ?_ ?_
  ·intro fW fX fY b dY;exact Ze (Jqp<|Jzn hM<|Jx3 b) dY
  intro fZ f0 A U b cP cQ aG dZ;replace hL:=hL.sp cQ cP<|fun _ h=>h
  replace i:=i.spo cQ (J9k n9);obtain⟨f1,f2,rfl,d0,rfl⟩:=dZ;obtain⟨aj,ak,am,an,ao,aq,ar,au,rfl,D⟩:=J8e d0;refine Om (Ol<|St.extract rfl rfl<|Ol<|St.extract rfl rfl<|Ol<|J6w cP io31 rfl ?_);intro f3 f4 f5 f6 bi cR bc d1 d2;have aQ:=bi _ aG.blk.lt;have bj:=bi _ i.blk.lt;replace D:=D.sp bc;refine On (Us (cs':=(ec A.1 aj ak am an ao aq ar au)) cR d1 io31 ?_);intro f7 be bf av;replace hL:=(hL.sp bc cR d2).sp bf be (fun _ h=>h)
  replace aG:=(aG.spn bc).spo bf aQ;replace i:=(i.spn bc).spo bf bj;refine Oa (Nl<|Rh<|Ub<|J45 rfl<|Ol<|J4o Yc rfl<|Ol<|J5h<|J5z be aG cb99 rfl rfl (Xa be.bd (s:=s) (p:=U) (o:=o) aG.blk (be.yx _ aG.mem) (c:=94) (Rr.le (Xu hS hq) b) hs) ?_);intro f8 f9 aH aw I d3;replace D:=(D.sp bf).sp aw;replace av:=av.spo aw (J9k aQ);refine⟨_,d3,fun d=>?_,fun d=>?_⟩
  ·refine Nl<|Ud<|J6x mixed 5 1 [[],[0],[1],[],[3]] aH I [fx<|.pointer (some ⟨g,0,none⟩),fun(z:Gh) (v:Value) (w':World)=>∃ a q,(intM s<|fpM s U 94)= .ok a q∧(v=(.int .i64 a))∧Own ⟨w,(· =g)⟩ z.2 w' g (rc s q o) 88,fun(z:Gh) (v:Value) (w':World)=>∀ a q,(intM s<|fpM s U 94)= .ok a q→RS Zi z.1 w' v [a],fx<|ea A.1 aj ak am an ao aq ar au,fs Jf [A.1]] (by kernel_rfl) ⟨sx,(fun _ _ _ _ _ ⟨a,q,e,h,o⟩ r=>⟨a,q,e,h,o.spn r.sp⟩),(fun _ _ _ _ _ h r a q e=>(h a q e).tr r.sp.tx),sx,tSl,trivial⟩ fun cS ay eg aR Q=>?_
   have P:=aR.cx;have aI:=aR.sp;replace hL:=(hL.sp aw aH<|fun _ h=>h).sp aI P (aR.up);replace D:=D.sp aI;replace i:=(i.spo aw<|J9k n9).spo aI (J9k n9);replace av:=av.spo aI (J9k aQ);have Q:Keep [18,19,20,21,22] _ cS:=Q;refine⟨⟨fun _ _=>?_,fun⟨cT,_⟩ Y=>?_,fun⟨cU,_⟩ _=>?_,fun _ _=>?_,fun⟨cV,_⟩ _=>?_,trivial⟩,fun⟨cW,cX,cY,cZ,ab,_⟩=>?_⟩
   ·exact Sd0 Q fun _=>J4x ⟨ay,RZ.same P,rfl⟩
   ·replace Y:=Y rfl;refine Sd1 Q cT fun _=>J5q (cs':=fun a q=>rc s q o) P Y Ji9 rfl rfl (vg P.bd (s:=s) (p:=(fpM s U 94)) (o:=o) Y.blk (P.yx _ Y.mem) (Y1<|Rr.le (Xu hS hq) b) hs) ?_ ?_
    ·intro eh ei bk aJ c0 ej;exact Ze (Jqp<|Jzn hM<|Jxr b d aJ) c0
    intro ek el c1 bk aJ c2 c3 c4 c5;exact⟨ay,RT.step c2 c3,c1,bk,aJ,c5,c4⟩
   ·obtain⟨bl,em,aK,c6,en⟩:=cU;refine Jp Q (aC c6 aN) fun _=>J5b (J5f (T:=Zi) (css:=[[(.int .i64 bl)]]) (l:=[bl]) P sl23 io3 (by decide) (by decide) rfl (by kernel_rfl) ⟨⟨rfl,(by have:=X6 aK;omega),(by have:=X6 aK;omega)⟩,trivial⟩ ?_);intro eo ep c7 c8 c9;exact⟨ay,RZ.go c7 c8,(fun a q e=>by cases aK.symm.trans e;exact c9)⟩
   ·exact Sd0 Q fun _=>J46 (vs:=(ec A.1 aj ak am an ao aq ar au)) av ag31 rfl rfl rfl ⟨ay,RZ.same P,rfl⟩
   ·refine Sd1 Q cV fun _=>J5f (T:=Jf) (css:=[(ec A.1 aj ak am an ao aq ar au)]) (l:=[A.1]) P sl29 io31 (by decide) (by decide) rfl (by kernel_rfl) ⟨(Zm A.1 D.lo D.hi D.name D.n D.num D.den D.args),trivial⟩ ?_;intro eq es da dc dd;exact⟨ay,RZ.go da dc,dd⟩
   obtain⟨H,V,B,de,E⟩:=cX;have ac:=cY H V B;obtain⟨ad,ae,df,ac⟩:=RS.opn ac;obtain⟨af,ag,dg,ab⟩:=RS.opn ab;obtain⟨et,rfl⟩:=mixK Q (aC cW<|aC de<|aC df<|aC cZ<|aC dg aN);refine Ol (J47 (cs:=[(.int .i64 12),(.slice ad [H].length ae),(.bool false),(.slice none 0 0),(.bool false),(.slice none 0 0),(str []),(.slice af [A.1].length ag)]) rfl (by kernel_rfl)<|On<|Us (cs':=[(.int .i64 12),(.slice ad [H].length ae),(.bool false),(.slice none 0 0),(.bool false),(.slice none 0 0),(str []),(.slice af [A.1].length ag)]) P av io31 ?_);intro eu aL R bm;replace ac:=ac.sp R;replace ab:=ab.sp R;refine Ua<|Rh<|Ub<|St.len sl29 rfl<|Ol<|J42 rfl rfl (fun cI=>?_)<|fun cI=>?_
   ·refine Nl (Uk<|Om<|Ua<|Rg<|Ub<|Uo (vs:=[(.int .i64 12),(.slice ad [H].length ae),(.bool false),(.slice none 0 0),(.bool false),(.slice none 0 0),(str []),(.slice af [A.1].length ag)]) bm ag31<|Ol<|J5f (T:=Jf) (css:=[[(.int .i64 12),(.slice ad [H].length ae),(.bool false),(.slice none 0 0),(.bool false),(.slice none 0 0),(str []),(.slice af [A.1].length ag)]]) (l:=[(.mk 12 [H] ⟨⟨false,[]⟩,⟨false,[]⟩⟩ [] [A.1])]) aL sl29 io31 (by decide) (by decide) rfl (by kernel_rfl) ⟨(yz (by omega) (by omega) (by unfold maxLen;simp) ac J8g J8g ab),trivial⟩ ?_);intro ev ew bn aS dh;replace hL:=(hL.sp R aL<|fun _ h=>h).sp aS bn (fun _ h=>h)
    replace i:=(i.spo R bj).spn aS;replace E:=(E.spo R aQ).spn aS;refine Ol (J5k (T:=Jf) bn sl29 io31 rfl rfl hL (Yi dh) (by simp only [J80,J81];omega) (by simp only [J80,J81];omega) rfl ?_);intro ex ey ez aT bo eA az;replace E:=E.ap bo E.mem;obtain⟨bp,bq,rfl,_,_⟩:=az.len;refine Oa (Nl<|Rg<|Ub<|J45 rfl<|Ol<|J4o Yc rfl<|Ol<|J5h<|J5z aT E cb99 rfl rfl (Xa aT.bd (s:=s) (p:=V) (o:=o) E.blk (aT.yx _ E.mem) (c:=42) (Rr.le (Yq<|Y1<|Rr.le (Xu hS hq) b) B) hs) ?_);intro eB eC aU br bs di;replace az:=az.sp br aU<|fun _ h=>h
    replace i:=(i.ap bo i.mem).spo br (J9k n9);refine⟨_,di,fun K=>?_,fun K=>?_⟩
    ·refine Ol<|J5n rfl<|Nl<|Uc<|⟨_,(by have:=(Z0 hS hq (X3 b d B) K);omega),_,_,(fpM s V 42),(k - 1),(l++[(.mk 12 [H] ⟨⟨false,[]⟩,⟨false,[]⟩⟩ [] [A.1])]),bp,bq,false,aU,rfl,rfl,rfl,rfl,rfl,az,bs,i,(Z0 hS hq (X3 b d B) K).2,(by have:=(Z0 hS hq (X3 b d B) K);omega),(by have:=(Z0 hS hq (X3 b d B) K);omega),(by have:=(Z0 hS hq (X3 b d B) K);rw [J8z,J82];omega),(Jcf hM hk hq (X3 b d B) K (by rw [if_pos (by omega)])),rfl⟩
    refine Ol<|J5n rfl<|Nl<|Ud<|J5i<|⟨_,_,(fpM s V 42),(l++[(.mk 12 [H] ⟨⟨false,[]⟩,⟨false,[]⟩⟩ [] [A.1])]),bp,bq,false,aU,rfl,rfl,rfl,rfl,az,bs,i,(Y1<|Rr.le (Yq<|Y1<|Rr.le (Xu hS hq) b) B),(Jbj hM hk hq (X3 b d B) K (by rw [if_pos (by omega)])),(by rw [J8z,J82];omega),(by rw [J8z,J82];omega)⟩
   refine Nl (Uc<|Rg<|Ub<|Uo (vs:=[(.int .i64 12),(.slice ad [H].length ae),(.bool false),(.slice none 0 0),(.bool false),(.slice none 0 0),(str []),(.slice af [A.1].length ag)]) bm ag31<|Ol<|J5f (T:=Jf) (css:=[[(.int .i64 12),(.slice ad [H].length ae),(.bool false),(.slice none 0 0),(.bool false),(.slice none 0 0),(str []),(.slice af [A.1].length ag)]]) (l:=[(.mk 12 [H] ⟨⟨false,[]⟩,⟨false,[]⟩⟩ [] [A.1])]) aL sl29 io31 (by decide) (by decide) rfl (by kernel_rfl) ⟨(yz (by omega) (by omega) (by unfold maxLen;simp) ac J8g J8g ab),trivial⟩ ?_);intro eD eE bt aV dj;replace hL:=(hL.sp R aL<|fun _ h=>h).sp aV bt (fun _ h=>h)
   replace i:=(i.spo R bj).spn aV;replace E:=(E.spo R aQ).spn aV;refine Ol (J5k (T:=Jf) bt sl29 io31 rfl rfl hL (Yi dj) (by simp only [J80,J81];omega) (by simp only [J80,J81];omega) rfl ?_);intro eF eG eH aW bu eI aA;replace E:=E.ap bu E.mem;obtain⟨bv,bw,rfl,_,_⟩:=aA.len;refine Oa (Nl<|Rg<|Ub<|J45 rfl<|Ol<|J4o Yc rfl<|Ol<|J5h<|J5z aW E cb99 rfl rfl (Xa aW.bd (s:=s) (p:=V) (o:=o) E.blk (aW.yx _ E.mem) (c:=42) (Rr.le (Yq<|Y1<|Rr.le (Xu hS hq) b) B) hs) ?_);intro eJ eK aX bx bz dk;replace aA:=aA.sp bx aX<|fun _ h=>h
   replace i:=(i.ap bu i.mem).spo bx (J9k n9);refine⟨_,dk,fun L=>?_,fun L=>?_⟩
   ·refine Ol<|J5n rfl<|Nl<|Uc<|⟨_,(by have:=(Z0 hS hq (X3 b d B) L);omega),_,_,(fpM s V 42),(k - 1),(l++[(.mk 12 [H] ⟨⟨false,[]⟩,⟨false,[]⟩⟩ [] [A.1])]),bv,bw,pl,aX,rfl,rfl,rfl,rfl,rfl,aA,bz,i,(Z0 hS hq (X3 b d B) L).2,(by have:=(Z0 hS hq (X3 b d B) L);omega),(by have:=(Z0 hS hq (X3 b d B) L);omega),(by have:=(Z0 hS hq (X3 b d B) L);rw [J8z,J82];omega),(Jcf hM hk hq (X3 b d B) L (by rw [if_neg (by omega)])),rfl⟩
   refine Ol<|J5n rfl<|Nl<|Ud<|J5i<|⟨_,_,(fpM s V 42),(l++[(.mk 12 [H] ⟨⟨false,[]⟩,⟨false,[]⟩⟩ [] [A.1])]),bv,bw,pl,aX,rfl,rfl,rfl,rfl,aA,bz,i,(Y1<|Rr.le (Yq<|Y1<|Rr.le (Xu hS hq) b) B),(Jbj hM hk hq (X3 b d B) L (by rw [if_neg (by omega)])),(by rw [J8z,J82];omega),(by rw [J8z,J82];omega)⟩
  refine Nl<|Uc<|Rh<|Ub<|St.len sl29 rfl<|Ol<|J42 rfl rfl (fun cJ=>?_)<|fun cJ=>?_
  ·refine Nl (Uk<|Om<|Ua<|Rg<|Ub<|Uo (vs:=(ec A.1 aj ak am an ao aq ar au)) av ag31<|Ol<|J5f (T:=Jf) (css:=[(ec A.1 aj ak am an ao aq ar au)]) (l:=[A.1]) aH sl29 io31 (by decide) (by decide) rfl (by kernel_rfl) ⟨(Zm A.1 D.lo D.hi D.name D.n D.num D.den D.args),trivial⟩ ?_);intro eL eM bA aY dl;replace hL:=(hL.sp aw aH<|fun _ h=>h).sp aY bA (fun _ h=>h)
   replace I:=I.spn aY;replace i:=(i.spo aw<|J9k n9).spn aY;refine Ol (J5k (T:=Jf) bA sl29 io31 rfl rfl hL (Yi dl) (by simp only [J80,J81];omega) (by simp only [J80,J81];omega) rfl ?_);intro eN eO eP aZ bB eQ aB;replace I:=I.ap bB I.mem;obtain⟨bC,bD,rfl,_,_⟩:=aB.len;refine Oa (Nl<|Rg<|Ub<|J45 rfl<|Ol<|J4o Yc rfl<|Ol<|J5h<|J5z aZ I cb99 rfl rfl (Xa aZ.bd (s:=s) (p:=(fpM s U 94)) (o:=o) I.blk (aZ.yx _ I.mem) (c:=42) (Y1<|Rr.le (Xu hS hq) b) hs) ?_);intro eR eS a3 bE bF dm;replace aB:=aB.sp bE a3<|fun _ h=>h
   replace i:=(i.ap bB i.mem).spo bE (J9k n9);refine⟨_,dm,fun M=>?_,fun M=>?_⟩
   ·refine Ol<|J5n rfl<|Nl<|Uc<|⟨_,(by have:=(Z0 hS hq (zv b d) M);omega),_,_,(fpM s (fpM s U 94) 42),(k - 1),(l++[A.1]),bC,bD,A.2,a3,rfl,rfl,rfl,rfl,rfl,aB,bF,i,(Z0 hS hq (zv b d) M).2,(by have:=(Z0 hS hq (zv b d) M);omega),(by have:=(Z0 hS hq (zv b d) M);omega),(by have:=(Z0 hS hq (zv b d) M);rw [J8z,J82];omega),(Jcf hM hk hq (zv b d) M (by rw [if_pos (by omega)])),rfl⟩
   refine Ol<|J5n rfl<|Nl<|Ud<|J5i<|⟨_,_,(fpM s (fpM s U 94) 42),(l++[A.1]),bC,bD,A.2,a3,rfl,rfl,rfl,rfl,aB,bF,i,(Y1<|Y1<|Rr.le (Xu hS hq) b),(Jbj hM hk hq (zv b d) M (by rw [if_pos (by omega)])),(by rw [J8z,J82];omega),(by rw [J8z,J82];omega)⟩
  refine Nl (Uc<|Rg<|Ub<|Uo (vs:=(ec A.1 aj ak am an ao aq ar au)) av ag31<|Ol<|J5f (T:=Jf) (css:=[(ec A.1 aj ak am an ao aq ar au)]) (l:=[A.1]) aH sl29 io31 (by decide) (by decide) rfl (by kernel_rfl) ⟨(Zm A.1 D.lo D.hi D.name D.n D.num D.den D.args),trivial⟩ ?_);intro eT eU bG a4 dn;replace hL:=(hL.sp aw aH<|fun _ h=>h).sp a4 bG (fun _ h=>h)
  replace I:=I.spn a4;replace i:=(i.spo aw<|J9k n9).spn a4;refine Ol (J5k (T:=Jf) bG sl29 io31 rfl rfl hL (Yi dn) (by simp only [J80,J81];omega) (by simp only [J80,J81];omega) rfl ?_);intro eV eW eX a5 bH eY aD;replace I:=I.ap bH I.mem;obtain⟨bI,bJ,rfl,_,_⟩:=aD.len;refine Oa (Nl<|Rg<|Ub<|J45 rfl<|Ol<|J4o Yc rfl<|Ol<|J5h<|J5z a5 I cb99 rfl rfl (Xa a5.bd (s:=s) (p:=(fpM s U 94)) (o:=o) I.blk (a5.yx _ I.mem) (c:=42) (Y1<|Rr.le (Xu hS hq) b) hs) ?_);intro eZ e0 a6 bK bL dp;replace aD:=aD.sp bK a6<|fun _ h=>h
  replace i:=(i.ap bH i.mem).spo bK (J9k n9);refine⟨_,dp,fun N=>?_,fun N=>?_⟩
  ·refine Ol<|J5n rfl<|Nl<|Uc<|⟨_,(by have:=(Z0 hS hq (zv b d) N);omega),_,_,(fpM s (fpM s U 94) 42),(k - 1),(l++[A.1]),bI,bJ,pl,a6,rfl,rfl,rfl,rfl,rfl,aD,bL,i,(Z0 hS hq (zv b d) N).2,(by have:=(Z0 hS hq (zv b d) N);omega),(by have:=(Z0 hS hq (zv b d) N);omega),(by have:=(Z0 hS hq (zv b d) N);rw [J8z,J82];omega),(Jcf hM hk hq (zv b d) N (by rw [if_neg (by omega)])),rfl⟩
  refine Ol<|J5n rfl<|Nl<|Ud<|J5i<|⟨_,_,(fpM s (fpM s U 94) 42),(l++[A.1]),bI,bJ,pl,a6,rfl,rfl,rfl,rfl,aD,bL,i,(Y1<|Y1<|Rr.le (Xu hS hq) b),(Jbj hM hk hq (zv b d) N (by rw [if_neg (by omega)])),(by rw [J8z,J82];omega),(by rw [J8z,J82];omega)⟩
 rintro e1 e2 ⟨e3,e4,r,l,la,lc,pl,aE,bM,bN,bO,bP,hL,G,J,hr,hM,hl,hlm⟩;obtain⟨e5,rfl⟩:=rebK (aC bM<|aC bN<|aC bO<|aC bP aN);clear bM bN bO bP
 cases minus
 ·refine J40<|J55 (fun f v=>∃ (x y:Nat→Prop) (m:List GExpr) (ma:Option Addr) (mc:Nat),Cx X ⟨w,(· =g)⟩ x y v∧f 4=(.pointer (some ⟨g1,0,none⟩))∧f 5=(.slice ma m.length mc)∧RS Jf x v (.slice ma m.length mc) m∧Own ⟨w,(· =g)⟩ y v g [(str s),(.int .i64 ((r:Nat):Int)),(.int .i64 ((o:Nat):Int))] 88∧Own ⟨w,(· =g)⟩ y v g1 zX 31∧Kz s S false o p= .ok (Kg 11 m) r) ?_ ?_
  ·refine Rg (Om<|Om<|Oz<|OF<|Nl<|Ug<|Om<|Nl<|Ue<|J4v ?_);obtain⟨e6,dq,d5,dr⟩:=hL.freeze aE hX G.sees;refine⟨_,_,l,la,lc,dq,rfl,rfl,dr,G,J,(Jzc hM)⟩
  rintro e7 e8 ⟨e9,fa,m,ma,mc,bQ,bR,bS,Z,ah,bT,hZ⟩;obtain⟨fb,rfl⟩:=rebK (aC bR<|aC bS aN);clear bR bS;refine Rh<|Ub<|St.len sl29 rfl<|Ol<|J42 rfl rfl (fun aM=>?_)<|fun aM=>?_
  ·refine Nl (Uf<|Ub<|J49 (j:=0) (u:=(m.getD 0 default)) Z sl29 io31 rfl rfl rfl (Jc (by omega)) ?_);intro fc fd d6 bU;obtain⟨bV,bW,bX,bY,bZ,b0,b1,b2,rfl,a7⟩:=Jd bU.rd;refine Ol (J5l (cs:=(ec (m.getD 0 default) bV bW bX bY bZ b0 b1 b2)) ag31 rfl rfl bU.cell<|On<|Us (cs':=(ec (m.getD 0 default) bV bW bX bY bZ b0 b1 b2)) bQ bT io31 ?_);intro ff b3 b4 ds;replace a7:=a7.sp b4;replace ah:=ah.spo b4 n9;refine Nl<|J4y<|Ju rfl (resV.c ds rfl ag31 rfl)<|RetP.ok (a:=(m.getD 0 default)) (q:=r) (Jjj hZ aM) ⟨?_,?_⟩ b3.below
   ·exact J8f (a:=(m.getD 0 default)) ((Mx (m.getD 0 default) a7).tr (Tr.weak b3.base)) rfl
   exact ah.blk
  refine Nl (Uc<|Rg<|Ub<|J47 (cs:=[(.int .i64 11),(.slice none 0 0),(.bool false),(.slice none 0 0),(.bool false),(.slice none 0 0),(str []),(.slice ma m.length mc)]) rfl (by kernel_rfl)<|On<|Us (cs':=[(.int .i64 11),(.slice none 0 0),(.bool false),(.slice none 0 0),(.bool false),(.slice none 0 0),(str []),(.slice ma m.length mc)]) bQ bT io31 ?_);intro fg b5 b6 dt;replace Z:=Z.sp b6;replace ah:=ah.spo b6 n9;refine Nl<|J4y<|Ju rfl (resV.c dt rfl ag31 rfl)<|RetP.ok (a:=(.mk 11 [] ⟨⟨false,[]⟩,⟨false,[]⟩⟩ [] m)) (q:=r) (Jvn hZ aM) ⟨?_,?_⟩ b5.below
  ·exact J8f (a:=(.mk 11 [] ⟨⟨false,[]⟩,⟨false,[]⟩⟩ [] m)) ((Y5 (by omega) (by omega) (by unfold maxLen;simp) J8g J8g J8g Z).tr (Tr.weak b5.base)) rfl
  exact ah.blk
 refine J40<|J55 (fun f v=>∃ (x y:Nat→Prop) (m:List GExpr) (ma:Option Addr) (mc:Nat),Cx X ⟨w,(· =g)⟩ x y v∧f 4=(.pointer (some ⟨g1,0,none⟩))∧f 5=(.slice ma m.length mc)∧RS Jf x v (.slice ma m.length mc) m∧Own ⟨w,(· =g)⟩ y v g [(str s),(.int .i64 ((r:Nat):Int)),(.int .i64 ((o:Nat):Int))] 88∧Own ⟨w,(· =g)⟩ y v g1 zX 31∧Kz s S true o p= .ok (Kg 11 m) r) ?_ ?_
 ·refine Rg<|Om<|Om<|OgD<|J5h<|J4x ⟨_,rfl,fun ax=>?_,fun ax=>?_⟩
  ·refine OT (Nl<|J4r rfl ?_);obtain⟨F,l0,rfl⟩:=Jti hl;obtain⟨du,rfl⟩:=hL.adr hl;have hcb:cBd s F:=pr_c hM ax;have fi:=hcb.1;have fj:=hcb.2;refine J4u (Om<|Ub<|J7l hL sl29 io31 rfl rfl ?_);intro d7 b7;obtain⟨fk,fl,dv,dw,dx,dy,fm,fn,rfl,b8⟩:=Jd b7.rd;refine Ol (J4o Z6 rfl<|Ol<|J5l (cs:=[(.bool F.c.num.neg),(.slice dv F.c.num.mag.length dw),(.bool F.c.den.neg),(.slice dx F.c.den.mag.length dy)]) ag28 rfl rfl (zx b7.cell rfl)<|Ol<|J4p aE Jjd rfl rfl (Jcr aE.bd (a:=F.c) (Za b8.num b8.den) (by omega) (by omega)) ?_);intro fo fp b9 a8 dz;replace hL:=hL.sp a8 b9<|fun _ h=>h
   replace G:=G.spn a8;replace J:=J.spn a8;obtain⟨dA,dB,dC,dD,rfl,dE,dF⟩:=J8h dz;refine Ol (J7l hL sl29 io31 rfl rfl ?_);intro d8 ca;obtain⟨dG,dH,fq,ft,fu,fv,dI,dJ,rfl,aF⟩:=Jd ca.rd;refine Ol (J4o Z6 rfl<|On<|J7t (cs':=[(.int .i64 F.op),(.slice dG F.n.length dH),(.bool (ofQ<|-F.c.q).num.neg),(.slice dA (ofQ<|-F.c.q).num.mag.length dB),(.bool (ofQ<|-F.c.q).den.neg),(.slice dC (ofQ<|-F.c.q).den.mag.length dD),(str F.name),(.slice dI F.args.length dJ)]) (u':=(.mk F.op F.n ⟨⟨(ofQ<|-F.c.q).num.neg,(ofQ<|-F.c.q).num.mag⟩,⟨(ofQ<|-F.c.q).den.neg,(ofQ<|-F.c.q).den.mag⟩⟩ F.name F.args)) b9 hL ca io28 rfl rfl rfl rfl rfl rfl (yz aF.lo aF.hi aF.name aF.n dE dF aF.args) ?_);intro fy dK cb dL;replace G:=G.ap cb G.mem;replace J:=J.ap cb J.mem;refine Nl ?_;obtain⟨fz,dM,d9,dN⟩:=dL.freeze dK hX G.sees;refine⟨_,_,((.mk F.op F.n ⟨⟨(ofQ<|-F.c.q).num.neg,(ofQ<|-F.c.q).num.mag⟩,⟨(ofQ<|-F.c.q).den.neg,(ofQ<|-F.c.q).den.mag⟩⟩ F.name F.args)::l0),(some ⟨du,0,none⟩),lc,dM,rfl,rfl,dN,G,J,(J1o hM ax)⟩
  refine OT (Nl<|Ug<|Om<|Nl<|Uk<|Ol<|J4p aE Jjx rfl rfl (Jkr aE.bd (by omega) (by omega)) ?_);intro fA fB cc a9 dO;replace G:=G.spn a9;replace J:=J.spn a9;obtain⟨cd,ce,cf,cg,rfl,dP,dQ⟩:=J8h dO;refine Ol (J47 (cs:=[(.int .i64 1),(.slice none 0 0),(.bool (ofQ<|Rat.divInt (-1) 1).num.neg),(.slice cd (ofQ<|Rat.divInt (-1) 1).num.mag.length ce),(.bool (ofQ<|Rat.divInt (-1) 1).den.neg),(.slice cf (ofQ<|Rat.divInt (-1) 1).den.mag.length cg),(str []),(.slice none 0 0)]) rfl (by kernel_rfl)<|Ol<|J5f (T:=Jf) (css:=[[(.int .i64 1),(.slice none 0 0),(.bool (ofQ<|Rat.divInt (-1) 1).num.neg),(.slice cd (ofQ<|Rat.divInt (-1) 1).num.mag.length ce),(.bool (ofQ<|Rat.divInt (-1) 1).den.neg),(.slice cf (ofQ<|Rat.divInt (-1) 1).den.mag.length cg),(str []),(.slice none 0 0)]]) (l:=[(.mk 1 [] ⟨⟨(ofQ<|Rat.divInt (-1) 1).num.neg,(ofQ<|Rat.divInt (-1) 1).num.mag⟩,⟨(ofQ<|Rat.divInt (-1) 1).den.neg,(ofQ<|Rat.divInt (-1) 1).den.mag⟩⟩ [] [])]) cc sl29 io31 (by decide) (by decide) rfl (by kernel_rfl) ⟨(yz (by omega) (by omega) (by unfold maxLen;simp) J8g dP dQ J8g),trivial⟩ ?_);intro fC fD ch ba dR;replace hL:=(hL.sp a9 cc<|fun _ h=>h).sp ba ch (fun _ h=>h)
  refine Om (Ol<|J6b (T:=Jf) ch sl29 io31 rfl rfl dR (srcOS hL) (by simp only [J80,J81];omega) (by simp only [J80,J81];omega) rfl ?_);intro fF fG dS ci cj;replace G:=(G.spn ba).spn ci;replace J:=(J.spn ba).spn ci;obtain⟨dT,dU,rfl,_,_⟩:=cj.len;refine Ua<|⟨_,_,([(.mk 1 [] ⟨⟨(ofQ<|Rat.divInt (-1) 1).num.neg,(ofQ<|Rat.divInt (-1) 1).num.mag⟩,⟨(ofQ<|Rat.divInt (-1) 1).den.neg,(ofQ<|Rat.divInt (-1) 1).den.mag⟩⟩ [] [])]++l),dT,dU,dS,rfl,rfl,cj,G,J,(Jze hM ax)⟩
 rintro fH fI ⟨fJ,fK,m,ma,mc,ck,cl,cm,Z,ai,cn,hZ⟩;obtain⟨fL,rfl⟩:=rebK (aC cl<|aC cm aN);clear cl cm;refine Rh<|Ub<|St.len sl29 rfl<|Ol<|J42 rfl rfl (fun aO=>?_)<|fun aO=>?_
 ·refine Nl (Uf<|Ub<|J49 (j:=0) (u:=(m.getD 0 default)) Z sl29 io31 rfl rfl rfl (Jc (by omega)) ?_);intro fM fN eb co;obtain⟨cp,cq,cr,ct,cu,cv,cw,cy,rfl,bb⟩:=Jd co.rd;refine Ol (J5l (cs:=(ec (m.getD 0 default) cp cq cr ct cu cv cw cy)) ag31 rfl rfl co.cell<|On<|Us (cs':=(ec (m.getD 0 default) cp cq cr ct cu cv cw cy)) ck cn io31 ?_);intro fO cz cE dV;replace bb:=bb.sp cE;replace ai:=ai.spo cE n9;refine Nl<|J4y<|Ju rfl (resV.c dV rfl ag31 rfl)<|RetP.ok (a:=(m.getD 0 default)) (q:=r) (Jjj hZ aO) ⟨?_,?_⟩ cz.below
  ·exact J8f (a:=(m.getD 0 default)) ((Mx (m.getD 0 default) bb).tr (Tr.weak cz.base)) rfl
  exact ai.blk
 refine Nl (Uc<|Rg<|Ub<|J47 (cs:=[(.int .i64 11),(.slice none 0 0),(.bool false),(.slice none 0 0),(.bool false),(.slice none 0 0),(str []),(.slice ma m.length mc)]) rfl (by kernel_rfl)<|On<|Us (cs':=[(.int .i64 11),(.slice none 0 0),(.bool false),(.slice none 0 0),(.bool false),(.slice none 0 0),(str []),(.slice ma m.length mc)]) ck cn io31 ?_);intro fP cF cG dW;replace Z:=Z.sp cG;replace ai:=ai.spo cG n9;refine Nl<|J4y<|Ju rfl (resV.c dW rfl ag31 rfl)<|RetP.ok (a:=(.mk 11 [] ⟨⟨false,[]⟩,⟨false,[]⟩⟩ [] m)) (q:=r) (Jvn hZ aO) ⟨?_,?_⟩ cF.below
 ·exact J8f (a:=(.mk 11 [] ⟨⟨false,[]⟩,⟨false,[]⟩⟩ [] m)) ((Y5 (by omega) (by omega) (by unfold maxLen;simp) J8g J8g J8g Z).tr (Tr.weak cF.base)) rfl
 exact ai.blk
theorem Jm3{X:Nat→Prop}{w:World}(hX:XB X w){g:Nat}{s:List UInt8}{p o:Nat}(hB:Blk w g (rc s p o) 88)(hXg:X g){S:Nat→Nat→Rr GExpr}{lo:Nat}(hp:p≤s.length)(hs:s.length≤65536)(ho:o≤64)(hS:∀ o p,p≤s.length→(S o p).fw s p)(ih:SumC s S lo)(hlo:lo≤p):Calls Tryz.prog 67 #[(.pointer (some ⟨g,0,none⟩))] w (RetP w g (sumF s S o p) fun a q v w'=>RV Jf X w' v a∧Blk w' g (rc s q o) 88):=by
 have C:=J53 g hX hXg;have Y:=J8j hB
 have:maxLen=9223372036854775807:=rfl
 refine Cgo (args:=[(.pointer (some ⟨g,0,none⟩))]) Tryz.func67 rfl rfl rfl (Rg<|Ol<|J41 C io31 rfl ?_);intro g1 w2 x3 y4 bh C6 s7 Z;have P:=bh _ Y.blk.lt;replace Y:=Y.spn s7;refine Nl (Rg<|Om<|Ub<|J45 rfl<|Ol<|J4o Yc rfl<|Ol<|J5z C6 Y cb99 rfl rfl (Xa C6.bd (s:=s) (p:=p) (o:=o) Y.blk (C6.yx _ Y.mem) (c:=45) hp hs) ?_);intro cc cd aa bi ab bj;replace Z:=Z.spo bi (J9k P);subst bj;refine Ol<|J5q (cs':=fun a q=>rc s q o) aa ab cb98 rfl rfl (Jbf aa.bd (s:=s) (p:=(fpM s p 45)) (o:=o) ab.blk (aa.yx _ ab.mem) (Y1 hp) hs ho hS ih (by have h0:=vf (s:=s) (p:=p) (c:=45);omega)) ?_ ?_
 ·intro ce cf cg E bk;exact Ze (Jy8 E) bk
 intro ch ci U bl E bm bn ac bo;obtain⟨bp,bq,br,bs,bt,bu,bv,bw,rfl,F⟩:=J8e bo;refine Ol (J7m (T:=Jf) (css:=[(ec U bp bq br bs bt bu bv bw)]) (l:=[U]) bm sl29 io31 (by decide) (by decide) rfl (by kernel_rfl) ⟨(Zm U F.lo F.hi F.name F.n F.num F.den F.args),trivial⟩ ?_);intro bx cj ck bz aG cl bA;replace ac:=ac.spn aG;replace Z:=(Z.spo bn<|J9k P).spn aG;refine Oa (Nl<|W.block<|J5e (fun μ f v=>∃ (x y:Nat→Prop) (q:Nat) (k:Nat) (l:List GExpr) (la:Option Addr) (lc:Nat),Cx X ⟨w,(· =g)⟩ x y v∧f 0=(.pointer (some ⟨g,0,none⟩))∧f 2=(.pointer (some ⟨g1,0,none⟩))∧f 3=(.slice la l.length lc)∧OS Jf 31 ⟨w,(· =g)⟩ x y v (.slice la l.length lc) l∧Own ⟨w,(· =g)⟩ y v g [(str s),(.int .i64 ((q:Nat):Int)),(.int .i64 ((o:Nat):Int))] 88∧Own ⟨w,(· =g)⟩ y v g1 zX 31∧q≤s.length∧lo≤q∧s.length < q+k∧l.length≤q+1∧(sumF s S o p=(sumL s S o k l q).th fun l q=> .ok (Kg 10 l) q)∧μ=(s.length+1 - q)) _ ⟨_,_,bl,(s.length+1),[U],(some ⟨bx,0,none⟩),1,bz,rfl,rfl,rfl,bA,ac,Z,(Rr.le (Kl hS<|Y1 hp) E),(by have h0:=vf (s:=s) (p:=p) (c:=45);have h1:=Rr.ge (Kl hS<|Y1 hp) E;omega),(by omega),(by rw [J82];omega),(su_go E),rfl⟩ ?_);rintro cm cn co ⟨cp,cq,q,k,l,la,lc,ad,aH,aI,aJ,hL,ae,b,hq,hlq,hk,hl,hM,bP⟩;obtain⟨cr,rfl⟩:=rebK (aC aH<|aC aI<|aC aJ aN);clear aH aI aJ;refine W.block (W.block<|Rg<|Ub<|J45 rfl<|Ol<|J4o Yc rfl<|Ol<|J5h<|J5z ad ae cb99 rfl rfl (Xa ad.bd (s:=s) (p:=q) (o:=o) ae.blk (ad.yx _ ae.mem) (c:=43) hq hs) ?_);intro ct cu G aK J bB;replace hL:=hL.sp aK G<|fun _ h=>h
 replace b:=b.spo aK (J9k P);refine⟨_,bB,fun i=>?_,fun i=>?_⟩
 ·refine Ua<|Uk<|Om<|Ub<|J5q (cs':=fun a q=>rc s q o) G J cb98 rfl rfl (Jbf G.bd (s:=s) (p:=(fpM s q 43)) (o:=o) J.blk (G.yx _ J.mem) (Y1 hq) hs ho hS ih (by have h0:=vf (s:=s) (p:=q) (c:=43);omega)) ?_ ?_
  ·intro cv cw cx A bC;exact Ze (su_p1 hM hk hq i A) bC
  intro cy cz V bD A aL aM K bE;obtain⟨bF,bG,bH,bI,bJ,bK,bL,bM,rfl,H⟩:=J8e bE;refine Ol (J5f (T:=Jf) (css:=[(ec V bF bG bH bI bJ bK bL bM)]) (l:=[V]) aL sl29 io31 (by decide) (by decide) rfl (by kernel_rfl) ⟨(Zm V H.lo H.hi H.name H.n H.num H.den H.args),trivial⟩ ?_);intro cE cF aO af bN;replace hL:=(hL.sp aM aL<|fun _ h=>h).sp af aO (fun _ h=>h)
  replace K:=K.spn af;replace b:=(b.spo aM<|J9k P).spn af;refine Ol (J5k (T:=Jf) aO sl29 io31 rfl rfl hL (Yi bN) (by simp only [J80,J81];omega) (by simp only [J80,J81];omega) rfl ?_);intro cG cH cI bO aP cJ ag;replace K:=K.ap aP K.mem;replace b:=b.ap aP b.mem;obtain⟨aS,aT,rfl,_,_⟩:=ag.len;refine Ua<|⟨_,(by have:=(X4 (fun p hp a q e=>by have h:=Kl (minus:=false) (o:=o) hS hp;rw [e] at h;exact h) hq i A);omega),_,_,bD,(k - 1),(l++[V]),aS,aT,bO,rfl,rfl,rfl,ag,K,b,(X4 (fun p hp a q e=>by have h:=Kl (minus:=false) (o:=o) hS hp;rw [e] at h;exact h) hq i A).2,(by have:=(X4 (fun p hp a q e=>by have h:=Kl (minus:=false) (o:=o) hS hp;rw [e] at h;exact h) hq i A);omega),(by have:=(X4 (fun p hp a q e=>by have h:=Kl (minus:=false) (o:=o) hS hp;rw [e] at h;exact h) hq i A);omega),(by have:=(X4 (fun p hp a q e=>by have h:=Kl (minus:=false) (o:=o) hS hp;rw [e] at h;exact h) hq i A);rw [J8z,J82];omega),(su_p2 hM hk hq i A),rfl⟩
 refine Oa (Nl<|Ug<|Ub<|J45 rfl<|Ol<|J4o Yc rfl<|Ol<|J5h<|J5z G J cb99 rfl rfl (Xa G.bd (s:=s) (p:=(fpM s q 43)) (o:=o) J.blk (G.yx _ J.mem) (c:=45) (Y1 hq) hs) ?_);intro bU bV I ah r aU;replace hL:=hL.sp ah I<|fun _ h=>h
 replace b:=b.spo ah (J9k P);refine⟨_,aU,fun d=>?_,fun d=>?_⟩
 ·refine Ua<|Uk<|Om<|Ub<|J5q (cs':=fun a q=>rc s q o) I r cb98 rfl rfl (Jbf I.bd (s:=s) (p:=(fpM s (fpM s q 43) 45)) (o:=o) r.blk (I.yx _ r.mem) (Y1<|Y1 hq) hs ho hS ih (by have h0:=vf (s:=s) (p:=q) (c:=43);have h1:=vf (s:=s) (p:=(fpM s q 43)) (c:=45);omega)) ?_ ?_
  ·intro bW bX bY m aV;exact Ze (su_m1 hM hk hq i d m) aV
  intro bZ b0 L aW m ai aj D aX;obtain⟨aY,aZ,a0,a3,a4,a5,a6,a7,rfl,B⟩:=J8e aX;refine Ol (J5f (T:=Jf) (css:=[(ec L aY aZ a0 a3 a4 a5 a6 a7)]) (l:=[L]) ai sl29 io31 (by decide) (by decide) rfl (by kernel_rfl) ⟨(Zm L B.lo B.hi B.name B.n B.num B.den B.args),trivial⟩ ?_);intro b1 b2 ak Q a8;replace hL:=(hL.sp aj ai<|fun _ h=>h).sp Q ak (fun _ h=>h)
  replace D:=D.spn Q;replace b:=(b.spo aj<|J9k P).spn Q;refine Ol (J5k (T:=Jf) ak sl29 io31 rfl rfl hL (Yi a8) (by simp only [J80,J81];omega) (by simp only [J80,J81];omega) rfl ?_);intro b3 b4 b5 a9 am b6 an;replace D:=D.ap am D.mem;replace b:=b.ap am b.mem;obtain⟨ba,bb,rfl,_,_⟩:=an.len;refine Ua<|⟨_,(by have:=(X4 (fun p hp a q e=>by have h:=Kl (minus:=true) (o:=o) hS hp;rw [e] at h;exact h) (Y1 hq) d m);have h9:=vf (s:=s) (p:=q) (c:=43);omega),_,_,aW,(k - 1),(l++[L]),ba,bb,a9,rfl,rfl,rfl,an,D,b,(X4 (fun p hp a q e=>by have h:=Kl (minus:=true) (o:=o) hS hp;rw [e] at h;exact h) (Y1 hq) d m).2,(by have:=(X4 (fun p hp a q e=>by have h:=Kl (minus:=true) (o:=o) hS hp;rw [e] at h;exact h) (Y1 hq) d m);have h9:=vf (s:=s) (p:=q) (c:=43);omega),(by have:=(X4 (fun p hp a q e=>by have h:=Kl (minus:=true) (o:=o) hS hp;rw [e] at h;exact h) (Y1 hq) d m);have h9:=vf (s:=s) (p:=q) (c:=43);omega),(by have:=(X4 (fun p hp a q e=>by have h:=Kl (minus:=true) (o:=o) hS hp;rw [e] at h;exact h) (Y1 hq) d m);have h9:=vf (s:=s) (p:=q) (c:=43);rw [J8z,J82];omega),(su_m2 hM hk hq i d m),rfl⟩
 refine Oa (Nl<|Ue<|J40 ?_);obtain⟨b7,ao,bQ,M⟩:=hL.freeze I hX r.sees;refine J4u<|Ub<|St.len sl29 rfl<|Ol<|J42 rfl rfl (fun N=>?_)<|fun N=>?_
 ·refine Oa (Nl<|Uf<|Ub<|J49 (j:=0) (u:=(l.getD 0 default)) M sl29 io31 rfl rfl rfl (Jc (by omega)) ?_);intro b8 b9 bR aq;obtain⟨ar,au,av,aw,ax,ay,az,aA,rfl,R⟩:=Jd aq.rd;refine Ol (J5l (cs:=(ec (l.getD 0 default) ar au av aw ax ay az aA)) ag31 rfl rfl aq.cell<|On<|Us (cs':=(ec (l.getD 0 default) ar au av aw ax ay az aA)) ao b io31 ?_);intro ca aB aD be;replace R:=R.sp aD;replace r:=r.spo aD P;refine Nl<|J4y<|Ju rfl (resV.c be rfl ag31 rfl)<|RetP.ok (a:=(l.getD 0 default)) (q:=(fpM s (fpM s q 43) 45)) (Jjj (Jsl hM hk hq i d) N) ⟨?_,?_⟩ aB.below
  ·exact J8f (a:=(l.getD 0 default)) ((Mx (l.getD 0 default) R).tr (Tr.weak aB.base)) rfl
  exact r.blk
 refine Oa (Nl<|Ug<|Ub<|J47 (cs:=[(.int .i64 10),(.slice none 0 0),(.bool false),(.slice none 0 0),(.bool false),(.slice none 0 0),(str []),(.slice la l.length lc)]) rfl (by kernel_rfl)<|On<|Us (cs':=[(.int .i64 10),(.slice none 0 0),(.bool false),(.slice none 0 0),(.bool false),(.slice none 0 0),(str []),(.slice la l.length lc)]) ao b io31 ?_);intro cb aE aF bf;replace M:=M.sp aF;replace r:=r.spo aF P;refine Nl<|J4y<|Ju rfl (resV.c bf rfl ag31 rfl)<|RetP.ok (a:=(.mk 10 [] ⟨⟨false,[]⟩,⟨false,[]⟩⟩ [] l)) (q:=(fpM s (fpM s q 43) 45)) (Jvn (Jsl hM hk hq i d) N) ⟨?_,?_⟩ aE.below
 ·exact J8f (a:=(.mk 10 [] ⟨⟨false,[]⟩,⟨false,[]⟩⟩ [] l)) ((Y5 (by omega) (by omega) (by unfold maxLen;simp) J8g J8g J8g M).tr (Tr.weak aE.base)) rfl
 exact r.blk
theorem Jrs{s:List UInt8}:∀ k lo:Nat,s.length≤lo+k→SumC s (sumM s k) lo
 | 0,lo,h=>by intro hX g p o hB hXg hp hs ho hlo;exact absurd hlo (by omega)
 | k+1,lo,h=>by intro hX g p o hB hXg hp hs ho hlo;exact Jm3 hX hB hXg hp hs ho (Jgw k) (Jrs k p (by omega))<|J9g p
end Go.Wf
namespace Go.Wf
open Go
def Rr.u{α:Type}:Rr α→Rr Unit
 | .ok _ p=> .ok () p
 | .er e p=> .er e p
def Rr.run{α:Type}(t:Rr Unit)(f:Nat→Rr α):Rr α:=t.th fun _ p=>f p
def Rr.go{α:Type}(t:Rr Unit)(f:Nat→Rr α):Rr Unit:=(t.run f).u
def Rr.val{α:Type}(d:α):Rr α→α
 | .ok a _=>a
 | .er _ _=>d
def Rr.fine{α:Type}(s:List UInt8):Rr α→Prop
 | .ok _ p=>p≤s.length
 | .er e p=>e≠0∧p≤s.length
section
variable {s:List UInt8} {t:Rr Unit} {c:Nat}
end
def rdT(s:List UInt8):GExpr × Nat × Int:=match zd s with
 | .er e p=>(Vj,p,e)
 | .ok a _=>(a,0,0)
section
variable {s:List UInt8} {a:GExpr} {q p:Nat} {e:Int}
theorem rd_er(h:sumF s (sumM s s.length) 0 0= .er e p):rdT s=(Vj,p,e):=by
 have h:sumM s (s.length+1) 0 0= .er e p:=h;unfold rdT zd;rw [h];rfl
theorem Juc(h:sumF s (sumM s s.length) 0 0= .ok a q)(hl:((spM s q:Nat):Int) < ((s.length:Nat):Int)):rdT s=(Vj,spM s q,19):=by
 have h:sumM s (s.length+1) 0 0= .ok a q:=h;unfold rdT zd;rw [h,Rr.th_ok,if_pos (by omega)]
theorem rd_ok(h:sumF s (sumM s s.length) 0 0= .ok a q)(hl:¬ ((spM s q:Nat):Int) < ((s.length:Nat):Int)):rdT s=(a,0,0):=by
 have h:sumM s (s.length+1) 0 0= .ok a q:=h;unfold rdT zd;rw [h,Rr.th_ok,if_neg (by omega)]
theorem rd_le(h:sumF s (sumM s s.length) 0 0= .ok a q):q≤s.length:=by
 have h1:=Jgw (s:=s) (s.length+1) 0 0 (J9h _);have h:sumM s (s.length+1) 0 0= .ok a q:=h;rw [h] at h1;exact h1.2
end
end Go.Wf
namespace Go.Ev
open Go Go.Wf Go.RowKit
section
variable {fc:Fence} {P:Program} {n:Nat}
theorem J0l{n:Nat}{vs:List Value}(hl:vs.length≤n):Wf.Good n [] {tmps:=vs.toArray++Array.replicate (n - vs.toArray.size) undef,defers:=[]}∧frOf {tmps:=vs.toArray++Array.replicate (n - vs.toArray.size) undef,defers:=[]}=Jaj vs:=by
 refine⟨⟨by simp;omega,rfl⟩,?_⟩
 funext t
 simp only [frOf,Jaj,J9e,J9d,Array.getElem?_append]
 by_cases ht:t < vs.length
 ·simp [ht]
 ·simp only [List.size_toArray,ht,if_false];rw [J9z (by omega)];simp only [Array.getElem?_replicate]
  split <;> rfl
theorem Jc2{fn:Func}{c:Code}{k:FuncId}{cs:Array Value}{w:World}(hf:P.funcs[k]? =some fn)(hname:(fn.name == "runtime.NumGoroutine")=false)(hb:fn.body=some c):(invoke (.fn (.func k) cs) #[]).run P w= .ok (.enter k cs) w:=by
 have h1:fn.name≠ "runtime.NumGoroutine" :=by simpa using hname
 simp [invoke,callFunc,hf,h1,hb]
end
end Go.Ev
namespace Go.Wf
open Go Go.Proofs Go.Ev
section
variable {P:Program}
abbrev Jah(R:World→Prop):Ending→FrameMode→World→Prop:=fun en u w=>(∃ y,en= .returned y)∧settle u= .returning∧R w
def recQ(R:World→Prop):Post:=fun ex _ w=>(ex= .normal∨ex= .ret)∧R w
theorem CallsD.ofRec {k:FuncId} {fn:Func} {vs:List Value} {t u0:Tmp} {id n:Nat} {ts:Array TypeId} {y1 y2:TypeId} {p1 p2:String} {a1 a2:Array Edge} {b:Code} {x:Value} {u:FrameMode} {w:World} {R:World→Prop}
  (hf:P.funcs[k]? =some fn) (hb:fn.body=some (.seq (.region id #[⟨some t,.call ⟨.builtin .recover,#[],ts⟩,y1,p1,a1,none⟩,⟨some u0,.assign (.tmp t),y2,p2,a2,none⟩] false) b)) (hres:fn.results= #[]) (hn:fn.ntmps=n)
  (hl:Nat.ble vs.length n=true) (h3:Nat.blt t n=true) (h4:Nat.blt u0 n=true) (hu:(u= .returning∧x= .nilIface)∨u= .panicking [{v:=x,recovered:=false}])
  (hW:W Fence.wide P b n [] (recQ R) (upd (upd (Jaj vs) t x) u0 x) w):CallsD P k vs.toArray u w (Jah R):=by
 subst hn;have hl:=J9q hl;have h3:t < fn.ntmps:=Jit h3;have h4:u0 < fn.ntmps:=Jit h4;refine callsD_of_wpS hf hb fun c₀ cs hc0=>?_
 obtain⟨hgood,hfr⟩:=J0l (n:=fn.ntmps) (vs:=vs) hl;obtain⟨c1,hset,hrec⟩:∃ (c1:FrameMode),settle c1= .returning∧((recoverD (c₀::cs)=some (x,{c₀ with mode:=c1}::cs))∨(recoverD (c₀::cs)=none∧x= .nilIface∧c₀::cs={c₀ with mode:=c1}::cs)):=by
  rcases hu with ⟨rfl,rfl⟩ | rfl
  ·exact⟨.returning,rfl,.inr ⟨by simp [recoverD,hc0],rfl,by rw [← hc0]⟩⟩
  ·exact⟨.panicking [{v:=x,recovered:=true}],rfl,.inl (by simp [recoverD,hc0])⟩
 refine wpS_seq (wpS_region ?_);have hrange:List.range (#[(⟨some t,.call ⟨.builtin .recover,#[],ts⟩,y1,p1,a1,none⟩:Oper),⟨some u0,.assign (.tmp t),y2,p2,a2,none⟩]).size=[0,1]:=rfl;rw [hrange];have hend:∀ (act:Act),Wf.Good fn.ntmps [] act→frOf act=upd (upd (Jaj vs) t x) u0 x→b.wpS P (bodyPostS P fn c₀ cs (Jah R)) act ({c₀ with mode:=c1}::cs) w:=by
  intro act hact hfa;refine wpS_of_wp (wp_mono (hW.wide hact hfa) ?_);rintro ex act' w' ⟨ga,hex,hR⟩;have done:act'.defers=[]∧∃ u',({c₀ with mode:=c1}::cs:List Frame)={c₀ with mode:=u'}::cs∧∃ v,(results fn act'.tmps).run P w'= .ok v w'∧Jah R (.returned v) u' w':=by
   refine⟨ga.defers,c1,rfl,.tuple #[],?_,⟨_,rfl⟩,hset,hR⟩;rw [Xj,hres];simp
  rcases hex with rfl | rfl
  ·exact done
  ·exact done
 have hput:∀ (act:Act),Wf.Good fn.ntmps [] act→frOf act=Jaj vs→Wf.Good fn.ntmps [] ((act.put (some t) x).put (some u0) x)∧frOf ((act.put (some t) x).put (some u0) x)=upd (upd (Jaj vs) t x) u0 x:=by
  intro act hact hfa;refine⟨(hact.put _ _).put _ _,?_⟩;rw [Yg (hact.put _ _) (some u0) (show lo fn.ntmps (some u0) from h4),Yg hact (some t) (show lo fn.ntmps (some t) from h3),hfa];rfl
 have hev:∀ (act:Act),Wf.Good fn.ntmps [] act→(act.put (some t) x).eval (.tmp t)=x:=by
  intro act hact;rw [vu,Yg hact (some t) (show lo fn.ntmps (some t) from h3)]
  show upd (frOf act) t x t=x
  simp [upd]
 obtain⟨k1,k2⟩:=hput _ hgood hfr;have k3:=hev _ hgood;have h0:(execOp (Act.eval {tmps:=vs.toArray++Array.replicate (fn.ntmps - vs.toArray.size) undef,defers:=[]}) ⟨some t,.call ⟨.builtin .recover,#[],ts⟩,y1,p1,a1,none⟩).run P w= .ok .recover w:=by
  simp [execOp,resolve,invoke,builtin]
 have hop0:(#[(⟨some t,.call ⟨.builtin .recover,#[],ts⟩,y1,p1,a1,none⟩:Oper),⟨some u0,.assign (.tmp t),y2,p2,a2,none⟩])[0]? =some ⟨some t,.call ⟨.builtin .recover,#[],ts⟩,y1,p1,a1,none⟩:=rfl;have hop1:(#[(⟨some t,.call ⟨.builtin .recover,#[],ts⟩,y1,p1,a1,none⟩:Oper),⟨some u0,.assign (.tmp t),y2,p2,a2,none⟩])[1]? =some ⟨some u0,.assign (.tmp t),y2,p2,a2,none⟩:=rfl;have hw0:∀ (z:Nat→Option Bool),Region.wanted (⟨some t,.call ⟨.builtin .recover,#[],ts⟩,y1,p1,a1,none⟩:Oper) z=true:=fun z=>rfl
 have hw1:∀ (z:Nat→Option Bool),Region.wanted (⟨some u0,.assign (.tmp t),y2,p2,a2,none⟩:Oper) z=true:=fun z=>rfl
 have second:∀ cs',cs'={c₀ with mode:=c1}::cs→wpOpsS P #[(⟨some t,.call ⟨.builtin .recover,#[],ts⟩,y1,p1,a1,none⟩:Oper),⟨some u0,.assign (.tmp t),y2,p2,a2,none⟩] (Exit.thenS (b.wpS P (bodyPostS P fn c₀ cs (Jah R))) (bodyPostS P fn c₀ cs (Jah R))) [1] (Act.put {tmps:=vs.toArray++Array.replicate (fn.ntmps - vs.toArray.size) undef,defers:=[]} (some t) x) cs' w:=by
  rintro cs' rfl;simp only [wpOpsS,hop1,hw1,if_true];have h1':(execOp (Act.put {tmps:=vs.toArray++Array.replicate (fn.ntmps - vs.toArray.size) undef,defers:=[]} (some t) x).eval ⟨some u0,.assign (.tmp t),y2,p2,a2,none⟩).run P w= .ok (.value x) w:=by
   simp only [execOp,k3,Sem.run_pure]
  rw [h1'];exact hend _ k1 k2
 unfold wpOpsS;simp only [hop0,hw0,if_true,h0]
 rcases hrec with hrec | ⟨hrec,rfl,hcs⟩
 ·rw [hrec];exact second _ rfl
 ·rw [hrec];exact second _ hcs
def defQ(P:Program)(fn:Func)(k:FuncId)(vs:List Value)(R:Ending→World→Prop):Post
 | .normal,f,w | .ret,f,w=>CallsD P k vs.toArray .returning w (Jah fun w'=>∃ v,(∀ tmps:Array Value,(∀ t,tmps.getD t undef=f t)→(results fn tmps).run P w'= .ok v w')∧R (.returned v) w')
 | .panic ch,f,w=>CallsD P k vs.toArray (.panicking ch) w (Jah fun w'=>∃ v,(∀ tmps:Array Value,(∀ t,tmps.getD t undef=f t)→(results fn tmps).run P w'= .ok v w')∧R (.returned v) w')
 | _,_,_=>False
def begQ(P:Program)(fn:Func)(n:Nat)(k:FuncId)(cp:List Operand)(t:Tmp)(b:Code)(R:Ending→World→Prop):Post:=fun ex f w=>ex= .normal∧W Fence.wide P b n [⟨.fn (.func k) (cp.map (fe f)).toArray,#[]⟩] (defQ P fn k (cp.map (fe f)) R) (upd f t (.func (.func k) #[] (cp.map (fe f)).toArray)) w
theorem J8m {f k:FuncId} {fn fk:Func} {args:List Value} {t:Tmp} {id n:Nat} {ts:Array TypeId} {cp:List Operand} {y1 y2:TypeId} {p1 p2:String} {a1 a2:Array Edge} {A b ck:Code} {w:World} {R:Ending→World→Prop}
  (hf:P.funcs[f]? =some fn) (hb:fn.body=some (.seq A (.seq (.region id #[⟨some t,.makeFunc (.func k) #[] cp.toArray,y1,p1,a1,none⟩,⟨none,.defer ⟨.value (.tmp t),#[],ts⟩,y2,p2,a2,none⟩] false) b))) (hn:fn.ntmps=n)
  (hl:Nat.ble args.length n=true) (ht:Nat.blt t n=true) (hk:P.funcs[k]? =some fk) (hkn:(fk.name == "runtime.NumGoroutine")=false) (hkb:fk.body=some ck)
  (h:W Fence.wide P A n [] (begQ P fn n k cp t b R) (Jaj args) w):Calls P f args.toArray w R:=by
 subst hn;have ht:t < fn.ntmps:=Jit ht;obtain⟨hgood,hfr⟩:=J0l (n:=fn.ntmps) (vs:=args) (J9q hl);refine calls_of_wp_defers hf hb (wp_seq (wp_mono (h.wide hgood hfr) ?_));rintro ex a w1 ⟨ha,rfl,hB⟩;have hce:cp.toArray.map a.eval=(cp.map (fe (frOf a))).toArray:=by apply Array.ext';rw [vu];simp
 generalize hcv:cp.map (fe (frOf a))=cvs at hB hce
 refine wp_seq (wp_region ?_);have hrange:List.range (#[(⟨some t,.makeFunc (.func k) #[] cp.toArray,y1,p1,a1,none⟩:Oper),⟨none,.defer ⟨.value (.tmp t),#[],ts⟩,y2,p2,a2,none⟩]).size=[0,1]:=rfl;rw [hrange];have hop0:(#[(⟨some t,.makeFunc (.func k) #[] cp.toArray,y1,p1,a1,none⟩:Oper),⟨none,.defer ⟨.value (.tmp t),#[],ts⟩,y2,p2,a2,none⟩])[0]? =some ⟨some t,.makeFunc (.func k) #[] cp.toArray,y1,p1,a1,none⟩:=rfl;have hop1:(#[(⟨some t,.makeFunc (.func k) #[] cp.toArray,y1,p1,a1,none⟩:Oper),⟨none,.defer ⟨.value (.tmp t),#[],ts⟩,y2,p2,a2,none⟩])[1]? =some ⟨none,.defer ⟨.value (.tmp t),#[],ts⟩,y2,p2,a2,none⟩:=rfl;have hw0:∀ (z:Nat→Option Bool),Region.wanted (⟨some t,.makeFunc (.func k) #[] cp.toArray,y1,p1,a1,none⟩:Oper) z=true:=fun z=>rfl
 have hw1:∀ (z:Nat→Option Bool),Region.wanted (⟨none,.defer ⟨.value (.tmp t),#[],ts⟩,y2,p2,a2,none⟩:Oper) z=true:=fun z=>rfl
 simp only [wpOps,hop0,hop1,hw0,hw1,if_true]
 left
 unfold Oper.wp;have r0:(execOp a.eval ⟨some t,.makeFunc (.func k) #[] cp.toArray,y1,p1,a1,none⟩).run P w1= .ok (.value (.func (.func k) #[] cvs.toArray)) w1:=by
  simp [execOp,Instr.makeFunc] at hce ⊢;exact hce
 rw [r0]
 show(_:Prop)∨_
 left
 have hev:(a.put (some t) (.func (.func k) #[] cvs.toArray)).eval (.tmp t)= .func (.func k) #[] cvs.toArray:=by
  rw [vu,Yg ha (some t) (show lo fn.ntmps (some t) from ht)]
  show upd (frOf a) t _ t=_
  simp [upd]
 have r1:(execOp (a.put (some t) (.func (.func k) #[] cvs.toArray)).eval ⟨none,.defer ⟨.value (.tmp t),#[],ts⟩,y2,p2,a2,none⟩).run P w1= .ok (.defer ⟨.fn (.func k) cvs.toArray,#[]⟩) w1:=by
  simp [execOp,resolve,Deferred.ofValue,hev]
 rw [r1]
 show(b.wp P _ _ w1)
 have ga:Wf.Good fn.ntmps [⟨.fn (.func k) cvs.toArray,#[]⟩] (({(a.put (some t) (.func (.func k) #[] cvs.toArray)) with defers:=(⟨.fn (.func k) cvs.toArray,#[]⟩:Deferred)::(a.put (some t) (.func (.func k) #[] cvs.toArray)).defers}:Act).put none undef):=by
  have:=ha.put (some t) (.func (.func k) #[] cvs.toArray)
  exact⟨this.size,by show _::(a.put (some t) _).defers=_;rw [this.defers]⟩
 have gf:frOf (({(a.put (some t) (.func (.func k) #[] cvs.toArray)) with defers:=(⟨.fn (.func k) cvs.toArray,#[]⟩:Deferred)::(a.put (some t) (.func (.func k) #[] cvs.toArray)).defers}:Act).put none undef)=upd (frOf a) t (.func (.func k) #[] cvs.toArray):=by
  have:=Yg ha (some t) (show lo fn.ntmps (some t) from ht) (.func (.func k) #[] cvs.toArray)
  exact this
 refine wp_mono (hB.wide ga gf) ?_;rintro ex a' w2 ⟨gg,qq⟩;have leaves:∀ u,u≠ .run→CallsD P k cvs.toArray u w2 (Jah fun w'=>∃ v,(∀ tmps:Array Value,(∀ t,tmps.getD t undef=frOf a' t)→(results fn tmps).run P w'= .ok v w')∧R (.returned v) w')→Leaves P fn a'.tmps R a'.defers u w2:=by
  intro u hu hq;rw [gg.defers];refine leaves_cons hu (Jc2 hk hkn hkb) (hq.mono ?_);rintro en u' w3 ⟨⟨y,rfl⟩,hset,v,hrun,hR⟩
  show Leaves P fn a'.tmps _ [] (settle u') w3
  rw [hset];exact⟨v,hrun a'.tmps (fun _=>rfl),hR⟩
 cases ex with
 | normal=>exact leaves _ (fun h=>by cases h) qq
 | ret=>exact leaves _ (fun h=>by cases h) qq
 | panic ch=>exact leaves _ (fun h=>by cases h) qq
 | _=>exact qq.elim
end
section
variable {P:Program} {ρ:Operand→Value} {dst:Option Tmp} {ty:TypeId} {pos:String} {after:Array Edge} {gd:Option (Nat × Bool)} {w:World} {K:Value→World→Prop} {Kp:List PanicEntry→World→Prop}
theorem J7x{x:Operand}{t t':TypeId}{m:Array (String × TypeId)}(hq:P.underlying t=some (.interface m))(hc:ρ (.const .nilIface)= .nilIface)(hx:ρ x= .nilIface)(h:K (.bool false) w):St P ρ ⟨dst,.binOp .neq t x (.const .nilIface) t',ty,pos,after,gd⟩ w K Kp:=by
 refine J5d (v:= .bool false) ?_ h;have e:(binOp .neq t .nilIface .nilIface).run P w= .ok (.bool false) w:=by
  rw [show binOp .neq t .nilIface .nilIface=(do pure (.bool (!(← Op.equal t .nilIface .nilIface)))) from rfl,eqIn,Sem.run_bind,eqI0 hq];rfl
 simp [execOp,hx,hc,eqGuard,e]
theorem J71{x:Operand}{t t' u:TypeId}{p:Value}{m:Array (String × TypeId)}(hq:P.underlying t=some (.interface m))(hc:ρ (.const .nilIface)= .nilIface)(hx:ρ x= .iface u p)(h:K (.bool true) w):St P ρ ⟨dst,.binOp .neq t x (.const .nilIface) t',ty,pos,after,gd⟩ w K Kp:=by
 refine J5d (v:= .bool true) ?_ h;have e:(binOp .neq t (.iface u p) .nilIface).run P w= .ok (.bool true) w:=by
  rw [show binOp .neq t (.iface u p) .nilIface=(do pure (.bool (!(← Op.equal t (.iface u p) .nilIface)))) from rfl,eqIn,Sem.run_bind,eqI2 hq];rfl
 simp [execOp,hx,hc,eqGuard,e]
theorem J8w{x:Operand}{xt at_:TypeId}{a:Value}{fs:Array Field}(hu:P.underlying at_=some (.struct fs))(hx:ρ x= .iface at_ a)(h:K (.tuple #[a,.bool true]) w):St P ρ ⟨dst,.typeAssert x xt at_ true,ty,pos,after,gd⟩ w K Kp:=by
 refine J5d (v:= .tuple #[a,.bool true]) ?_ h;simp [execOp,hx,Instr.typeAssert,run_underlying hu]
end
section
variable {P:Program} {ρ:Operand→Value} {dst:Option Tmp} {ty:TypeId} {pos:String} {after:Array Edge} {gd:Option (Nat × Bool)}
 {w:World} {K:Value→World→Prop} {Kp:List PanicEntry→World→Prop} {X0 x y:Nat→Prop} {w0:Bs}
theorem Cx.turn0{w':World}(C:Cx X0 w0 x y w){g:Nat}{cs:List Value}{T:TypeId}(o:Own w0 y w g cs T)(h:Bel ⟨w,(· =g)⟩ w'):Cx X0 w0 x y w'∧Sp x y w x y w' (· =g):=
 ⟨⟨C.below.turn h o.ge,C.base,fun b hb=>J85 (C.bd b hb) h.size,C.yx⟩,
  ⟨⟨fun _ _ h=>h,fun b hb hx=>h.block b hb (fun e=>hx (e ▸ C.yx _ o.mem)),h.size⟩,⟨fun _ _ h=>h,fun b hb hx=>h.block b hb (fun e=>hx (e ▸ o.mem)),h.size⟩,fun _ h=>h,fun b hb hn=>h.block b hb hn⟩⟩
theorem J72 {α:Type} {k:FuncId} {args:Array Operand} {ts:Array TypeId} {vs:List Value} {g:Nat} {cs:List Value} {T:TypeId} {m:Rr α} {Φ:α→Nat→Value→World→Prop} {cs':α→Nat→List Value}
  (C:Cx X0 w0 x y w) (o:Own w0 y w g cs T) (hk:Jb P k=true)
  (ha:args.toList.map ρ=vs) (he:ρ (.func k)= .func (.func k) #[] #[]) (hc:Calls P k vs.toArray w (RetP w g m fun a q v w'=>Φ a q v w'∧Blk w' g (cs' a q) T))
  (hp:∀ w' e q,m= .er e q→Cx X0 w0 x y w'→Sp x y w x y w' (· =g)→Kp [flt e q] w')
  (h:∀ v w' a q,m= .ok a q→Cx X0 w0 x y w'→Sp x y w x y w' (· =g)→Own w0 y w' g (cs' a q) T→Φ a q v w'→K v w'):
  St P ρ ⟨dst,.call {callee:= .value (.func k),args:=args,argTypes:=ts},ty,pos,after,gd⟩ w K Kp:=by
 unfold Jb at hk
 split at hk
 ·rename_i fn hf
  simp only [Bool.and_eq_true,Bool.not_eq_true'] at hk;refine J6y hf hk.1 hk.2 ha (Calls.mono hc ?_) he;intro e w' hr
  cases e with
  | returned v=>
   obtain⟨⟨a,q,hx,h1,hb⟩,h2⟩:=hr;obtain⟨c,s,o'⟩:=C.turn o h2 hb;exact h v w' a q hx c s o' h1
  | panicked ch=>
   obtain⟨⟨e,q,hx,rfl⟩,h2⟩:=hr;obtain⟨c,s⟩:=C.turn0 o h2;exact hp w' e q hx c s
  | outgrown=>exact hr.elim
 ·cases hk
end
theorem q6{L:Array Bool}{i j:Nat}(h:(L.setIfInBounds i true).getD j false=true):j=i∨L.getD j false=true:=by
 by_cases e:j=i
 ·exact .inl e
 ·right
  simp only [J9e] at h ⊢;rw [Array.getElem?_setIfInBounds_ne (by omega)] at h;exact h
set_option maxRecDepth 100000 in
theorem io82:Zg Tryz.prog 82=some (.agg #[.int .i64 0,.int .i64 0],2,16):=by kernel_rfl
set_option maxRecDepth 100000 in
theorem J1q:Zy Tryz.prog 82 0=some 0:=by kernel_rfl
set_option maxRecDepth 100000 in
theorem J07:Zy Tryz.prog 82 1=some 1:=by kernel_rfl
theorem if20:Tryz.prog.underlying 20=some (.interface #[]):=by kernel_rfl
theorem uu82:∃ fs,Tryz.prog.underlying 82=some (.struct fs):=by
 cases h:Tryz.prog.underlying 82 with
 | none=>
      have:(Tryz.prog.underlying 82).isSome=true:=by kernel_rfl
      rw [h] at this;cases this
 | some u=>
  have e:(match Tryz.prog.underlying 82 with | some (.struct _)=>true | _=>false)=true:=by kernel_rfl
  rw [h] at e
  cases u <;> first | exact⟨_,rfl⟩ | cases e
abbrev zE:List Value:=[.int .i64 0,.slice none 0 0,.bool false,.slice none 0 0,.bool false,.slice none 0 0,str [],.slice none 0 0]
section
variable {X:Nat→Prop} {w0:Bs} {x y:Nat→Prop} {w:World}
theorem Jxm{vs:List Value}(hl:Nat.ble vs.length 22=true){R:World→Prop}(h:R w):CallsD Tryz.prog 66 vs.toArray .returning w (Jah R):=
 by
 refine CallsD.ofRec Tryz.func66 rfl rfl rfl hl rfl rfl (.inl ⟨rfl,rfl⟩) ?_;refine Rg<|Ub<|J7x if20 rfl rfl<|Nl<|Ue<|J4v ⟨.inl rfl,h⟩
def lowB(a:Array Edge)(k:Nat):Bool:=a.toList.all fun e=> !Region.binds .any e || Nat.blt e.on k
theorem Vn{a:Array Edge}{k:Nat}(h:lowB a k=true){e:Edge}(he:e ∈ a)(hb:Region.binds .any e=true):e.on < k:=by
 unfold lowB at h
 have:=List.all_eq_true.1 h e<|Array.mem_toList_iff.2 he
 rw [hb] at this;exact J9q this
theorem nq{a b:Nat}{P:Prop}(h:Nat.beq a b=false:=by rfl):a=b→P:=fun e=>by rw [e,Nat.beq_refl] at h;cases h
structure IL (g1 g2 g3 g4:Nat) (e:Int) (p:Nat) (cs1 c2 c3:List Value) (f:Fr) (j:Nat):Prop where
 i0:j=0→f 17= .agg zE.toArray
 i1:j=1→f 18= .pointer (some ⟨g4,1,none⟩)
 i2:j=2→f 19= .int .i64 ((p:Nat):Int)
 i3:j=3→f 20= .pointer (some ⟨g4,0,none⟩)
 i4:j=4→f 21= .int .i64 e
 i5:j=5→cs1=zE
 i6:j=6→c2=[.int .i64 ((p:Nat):Int)]
 i7:j=7→c3=[.int .i64 e]
structure IH (X:Nat→Prop) (w0:Bs) (x y:Nat→Prop) (g1 g2 g3 g4:Nat) (e:Int) (p:Nat) (cs1 c2 c3:List Value) (f:Fr) (v:World):Prop where
 C:Cx X w0 x y v
 o1:Own w0 y v g1 cs1 31
 o2:Own w0 y v g2 c2 3
 o3:Own w0 y v g3 c3 32
 o4:Own w0 y v g4 [.int .i64 e,.int .i64 ((p:Nat):Int)] 82
 f0:f 0= .pointer (some ⟨g1,0,none⟩)
 f1:f 1= .pointer (some ⟨g2,0,none⟩)
 f2:f 2= .pointer (some ⟨g3,0,none⟩)
 f4:f 4= .pointer (some ⟨g4,0,none⟩)
 l1:cs1.length=8
 l2:c2.length=1
 l3:c3.length=1
theorem IL.mv{b g i k:Nat}{e:Int}{p:Nat}{a l m:List Value}{f:Fr}{j:Nat}(h:IL b g i k e p a l m f j)(d:Nat)(v:Value)(hd:d≠17+j):IL b g i k e p a l m (upd f d v) j:=by
 refine⟨fun q=>?_,fun q=>?_,fun q=>?_,fun q=>?_,fun q=>?_,h.i5,h.i6,h.i7⟩ <;> (unfold upd;rw [if_neg (by omega)])
 ·exact h.i0 q
 ·exact h.i1 q
 ·exact h.i2 q
 ·exact h.i3 q
 ·exact h.i4 q
theorem IH.mv{b g i j:Nat}{e:Int}{p:Nat}{a k l:List Value}{f:Fr}{v:World}(h:IH X w0 x y b g i j e p a k l f v)(d:Nat)(z:Value)(hd:5≤d):IH X w0 x y b g i j e p a k l (upd f d z) v:=
 ⟨h.C,h.o1,h.o2,h.o3,h.o4,by unfold upd;rw [if_neg (by omega)];exact h.f0,by unfold upd;rw [if_neg (by omega)];exact h.f1,by unfold upd;rw [if_neg (by omega)];exact h.f2,by unfold upd;rw [if_neg (by omega)];exact h.f4,h.l1,h.l2,h.l3⟩
def IV(X:Nat→Prop)(w0:Bs)(x y:Nat→Prop)(g1 g2 g3 g4:Nat)(e:Int)(p:Nat)(L:Array Bool)(f:Fr)(v:World):Prop:=
 ∃ cs1 c2 c3,IH X w0 x y g1 g2 g3 g4 e p cs1 c2 c3 f v∧∀ j,j < 8→L.getD j false=true→IL g1 g2 g3 g4 e p cs1 c2 c3 f j
theorem Jqn {l m r:Nat} {e:Int} {p:Nat} {E:List Value} {v2 v3:Value} (C:Cx X w0 x y w) (s:Own w0 y w l E 31) (A:Own w0 y w m [v2] 3) (B:Own w0 y w r [v3] 32) (G:l≠m) (J:l≠r) (K:m≠r) (V:E.length=8) {R:World→Prop}
  (h:∀ x' y' w',Cx X w0 x' y' w'→Own w0 y' w' l zE 31→Own w0 y' w' m [.int .i64 ((p:Nat):Int)] 3→Own w0 y' w' r [.int .i64 e] 32→R w'):
  CallsD Tryz.prog 66 [.pointer (some ⟨l,0,none⟩),.pointer (some ⟨m,0,none⟩),.pointer (some ⟨r,0,none⟩)].toArray (.panicking [flt e p]) w (Jah R):=by
 obtain⟨fs,Q⟩:=uu82;refine CallsD.ofRec Tryz.func66 rfl rfl rfl rfl rfl rfl (.inr rfl) ?_;refine Rg (Ub<|J71 if20 rfl rfl<|Nl<|Uf<|Ub<|J8w Q rfl<|Ub<|St.extract rfl rfl<|Ol<|St.extract rfl rfl<|Ol<|J41 C io82 rfl ?_);intro Y w2 Z y2 F C2 S T;have M:=F _ s.blk.lt;have N:=F _ A.blk.lt;have P:=F _ B.blk.lt;replace s:=s.spn S;replace A:=A.spn S;replace B:=B.spn S;refine On (Us (cs':=[(.int .i64 e),(.int .i64 ((p:Nat):Int))]) C2 T io82 ?_);intro w3 C3 U T;replace s:=s.spo U M;replace A:=A.spo U N;replace B:=B.spo U P;refine Oa (Nl ?_);refine Rh (Ub<|J5n rfl<|Nl<|Ue<|J4v ?_);refine J70 mixed (IV X w0 Z y2 l m r Y e p) ?_ ?_ ?_ ?_
 ·intro i o ho e he hb
  match i,ho with
  | 0,ho=>cases ho;exact Vn (k:=0) (by kernel_rfl) he hb
  | 1,ho=>cases ho;exact Vn (k:=1) (by kernel_rfl) he hb
  | 2,ho=>cases ho;exact Vn (k:=2) (by kernel_rfl) he hb
  | 3,ho=>cases ho;exact Vn (k:=3) (by kernel_rfl) he hb
  | 4,ho=>cases ho;exact Vn (k:=4) (by kernel_rfl) he hb
  | 5,ho=>cases ho;exact Vn (k:=5) (by kernel_rfl) he hb
  | 6,ho=>cases ho;exact Vn (k:=6) (by kernel_rfl) he hb
  | 7,ho=>cases ho;exact Vn (k:=7) (by kernel_rfl) he hb
  | i+8,ho=>simp at ho
 ·have D:=(J6n C3);refine⟨E,_,_,⟨D.cx,s.spn D.sp,A.spn D.sp,B.spn D.sp,T.spn D.sp,rfl,rfl,rfl,rfl,V,rfl,rfl⟩,fun j hj hh=>?_⟩
  rw [J9e,Array.getElem?_replicate] at hh
  split at hh <;> cases hh
 ·intro L i o f v hs hc ho hi hed ⟨a,b,g,H,I⟩;have dn:∀ {u:Nat},hasE o.after u=true→L.getD u false=true:=fun ha=>by
   obtain⟨e,he,hb,rfl⟩:=Je7 ha;exact hed e he hb
  have I':∀ {i d:Nat} {z:Value},d=17+i→∀ j,j < 8→(L.setIfInBounds i true).getD j false=true→j=i∨IL l m r Y e p a b g (upd f d z) j:=fun {i d z} hd j hj hh=>by
   rcases q6 hh with h | h
   ·exact .inl h
   ·by_cases hji:j=i
    ·exact .inl hji
    ·exact .inr ((I j hj h).mv d z (by omega))
  match i,ho with
  | 0,ho=>
   cases ho
   refine⟨J9q rfl,J5b<|J47 (cs:=zE) rfl (by kernel_rfl) ⟨a,b,g,H.mv _ _ (by decide),fun j hj hh=>?_⟩⟩
   rcases I' rfl j hj hh with rfl | h
   ·exact⟨fun _=>rfl,nq,nq,nq,nq,nq,nq,nq⟩
   ·exact h
  | 1,ho=>
   cases ho
   refine⟨J9q rfl,J5b<|J4o J07 H.f4 ⟨a,b,g,H.mv _ _ (by decide),fun j hj hh=>?_⟩⟩
   rcases I' rfl j hj hh with rfl | h
   ·exact⟨nq,fun _=>rfl,nq,nq,nq,nq,nq,nq⟩
   ·exact h
  | 2,ho=>
   cases ho
   have hd:=(I 1 (by decide)<|dn (by kernel_rfl)).i1 rfl;refine⟨J9q rfl,J5b<|J4t H.o4 pl3 hd rfl ⟨a,b,g,H.mv _ _ (by decide),fun j hj hh=>?_⟩⟩
   rcases I' rfl j hj hh with rfl | h
   ·exact⟨nq,nq,fun _=>rfl,nq,nq,nq,nq,nq⟩
   ·exact h
  | 3,ho=>
   cases ho
   refine⟨J9q rfl,J5b<|J4o J1q H.f4 ⟨a,b,g,H.mv _ _ (by decide),fun j hj hh=>?_⟩⟩
   rcases I' rfl j hj hh with rfl | h
   ·exact⟨nq,nq,nq,fun _=>rfl,nq,nq,nq,nq⟩
   ·exact h
  | 4,ho=>
   cases ho
   have hd:=(I 3 (by decide)<|dn (by kernel_rfl)).i3 rfl;refine⟨J9q rfl,J5b<|J4t H.o4 pl32 hd rfl ⟨a,b,g,H.mv _ _ (by decide),fun j hj hh=>?_⟩⟩
   rcases I' rfl j hj hh with rfl | h
   ·exact⟨nq,nq,nq,nq,fun _=>rfl,nq,nq,nq⟩
   ·exact h
  | 5,ho=>
   cases ho
   have hd:=(I 0 (by decide)<|dn (by kernel_rfl)).i0 rfl;refine⟨trivial,J5b<|J5r (vs:=zE) (cs':=zE) H.C H.o1 io31 H.f0 (by show(f 17).cells=_;rw [hd];rfl) rfl (by rw [H.l1];rfl) rfl (by rw [show a.drop (0+zE.length)=[] from List.drop_eq_nil_of_le (by rw [H.l1];decide)];rfl) ?_⟩;intro v' C' s' o';refine⟨zE,b,g,⟨C',o',H.o2.spo s'<|J9k G,H.o3.spo s'<|J9k J,H.o4.spo s'<|J9k M,H.f0,H.f1,H.f2,H.f4,rfl,H.l2,H.l3⟩,fun j hj hh=>?_⟩
   rcases q6 hh with rfl | h
   ·exact⟨nq,nq,nq,nq,nq,fun _=>rfl,nq,nq⟩
   ·have k:=I j hj h;exact⟨k.i0,k.i1,k.i2,k.i3,k.i4,fun _=>rfl,k.i6,k.i7⟩
  | 6,ho=>
   cases ho
   have hd:=(I 2 (by decide)<|dn (by kernel_rfl)).i2 rfl;refine⟨trivial,J5b<|J5r (vs:=[.int .i64 ((p:Nat):Int)]) (cs':=[.int .i64 ((p:Nat):Int)]) H.C H.o2 io3 H.f1 (by show(f 19).cells=_;rw [hd];rfl) rfl (by rw [H.l2];rfl) rfl (by rw [show b.drop (0+[Value.int .i64 ((p:Nat):Int)].length)=[] from List.drop_eq_nil_of_le (by rw [H.l2];exact J9g 1)];rfl) ?_⟩;intro v' C' s' o';refine⟨a,_,g,⟨C',H.o1.spo s' G,o',H.o3.spo s'<|J9k K,H.o4.spo s'<|J9k N,H.f0,H.f1,H.f2,H.f4,H.l1,rfl,H.l3⟩,fun j hj hh=>?_⟩
   rcases q6 hh with rfl | h
   ·exact⟨nq,nq,nq,nq,nq,nq,fun _=>rfl,nq⟩
   ·have k:=I j hj h;exact⟨k.i0,k.i1,k.i2,k.i3,k.i4,k.i5,fun _=>rfl,k.i7⟩
  | 7,ho=>
   cases ho
   have hd:=(I 4 (by decide)<|dn (by kernel_rfl)).i4 rfl;refine⟨trivial,J5b<|J5r (vs:=[.int .i64 e]) (cs':=[.int .i64 e]) H.C H.o3 io32 H.f2 (by show(f 21).cells=_;rw [hd];rfl) rfl (by rw [H.l3];rfl) rfl (by rw [show g.drop (0+[Value.int .i64 e].length)=[] from List.drop_eq_nil_of_le (by rw [H.l3];exact J9g 1)];rfl) ?_⟩;intro v' C' s' o';refine⟨a,b,_,⟨C',H.o1.spo s' J,H.o2.spo s' K,o',H.o4.spo s'<|J9k P,H.f0,H.f1,H.f2,H.f4,H.l1,H.l2,rfl⟩,fun j hj hh=>?_⟩
   rcases q6 hh with rfl | h
   ·exact⟨nq,nq,nq,nq,nq,nq,nq,fun _=>rfl⟩
   ·have k:=I j hj h;exact⟨k.i0,k.i1,k.i2,k.i3,k.i4,k.i5,k.i6,fun _=>rfl⟩
  | i+8,ho=>simp at ho
 ·intro L f v hs hall ⟨a,b,g,H,I⟩;have tf:∀ j,j < 8→L.getD j false=true:=fun j hj=>by
   have hs':L.size=8:=hs
   have:=hall j (by omega)
   simpa [J9e,hs',hj] using this
  refine⟨.inl rfl,h Z y2 v H.C ?_ ?_ ?_⟩
  ·have:=(I 5 (by decide)<|tf 5 (by decide)).i5 rfl;subst this;exact H.o1
  ·have:=(I 6 (by decide)<|tf 6 (by decide)).i6 rfl;subst this;exact H.o2
  ·have:=(I 7 (by decide)<|tf 7 (by decide)).i7 rfl;subst this;exact H.o3
theorem Jsa{f:Fr}{p t g:Nat}{v:Value}{T:TypeId}(ht:Ym Tryz.prog t=true)(o:Own w0 y w g [v] T)(hp:f p= .pointer (some ⟨g,0,none⟩))(tmps:Array Value)(hf:∀ t,tmps.getD t undef=f t):(resM tmps (.cell p t)).run Tryz.prog w= .ok v w:=by
 unfold resM;simp only [hf p,hp];simp [asAddr,loadVar,Q8 ht,o.blk.cell (j:=0) rfl]
theorem Ji2{f:Fr}{a b d:Nat}{cs:List Value}{e g:Value}(h:Own w0 y w a cs 31)(i:Own w0 y w b [e] 3)(j:Own w0 y w d [g] 32)(hl:cs.length=8)(k:f 2= .pointer (some ⟨a,0,none⟩))(l:f 3= .pointer (some ⟨b,0,none⟩))(m:f 4= .pointer (some ⟨d,0,none⟩)):
  ∀ tmps:Array Value,(∀ t,tmps.getD t undef=f t)→(results Tryz.f30 tmps).run Tryz.prog w= .ok (.tuple #[.agg cs.toArray,e,g]) w:=by
 intro tmps hf;have o:=Kw (P:=Tryz.prog) (r:= .cell 2 31) (resV.c h k ag31 hl) tmps hf;have p:=Jsa pl3 i l tmps hf;have s:=Jsa pl32 j m tmps hf;simp only [Xj,show Tryz.f30.results= #[.cell 2 31,.cell 3 3,.cell 4 32] from rfl,List.mapM_toArray,List.mapM_cons,List.mapM_nil,Sem.run_bind,Sem.run_map];rw [o];simp only [Result.andThen_ok];rw [p];simp only [Result.andThen_ok];rw [s];simp
end
theorem Jw0{X:Nat→Prop}{w:World}(hX:XB X w){s:List UInt8}(hs:s.length≤65536):CRt 30 #[str s] w fun v w'=>∃ v0 v1 v2,v= .tuple #[v0,v1,v2]∧RV Jf X w' v0 (rdT s).1∧v1= .int .i64 (((rdT s).2.1:Nat):Int)∧v2= .int .i64 (rdT s).2.2:=by
 have C:=J4z hX;have hml:maxLen=9223372036854775807:=rfl;refine J8m (args:=[str s]) Tryz.func30 rfl rfl rfl rfl Tryz.func66 rfl rfl ?_;refine J4u (Ol<|J41 C io31 rfl ?_);intro g1 w1 x1 y1 au C1 s1 b;refine Ol (J41 C1 io3 rfl ?_);intro g2 w2 x2 y2 ae C2 s2 d;have j:=ae _ b.blk.lt;replace b:=b.spn s2;refine Ol (J41 C2 io32 rfl ?_);intro g3 w3 x3 y3 H C3 s3 g;have k:=H _ b.blk.lt;have m:=H _ d.blk.lt;replace b:=b.spn s3;replace d:=d.spn s3;refine Nl ⟨rfl,?_⟩;refine Rg (Ub<|J47 (cs:=[str s,.int .i64 0]) rfl (by kernel_rfl)<|Ol<|J47 (cs:=[str s,.int .i64 0,.int .i64 0]) rfl (by kernel_rfl)<|Ol<|J5a C3 rfl ?_);intro gr w4 x4 y4 A J K h;have r:=A _ b.blk.lt;have B:=A _ d.blk.lt;have D:=A _ g.blk.lt;replace b:=b.spn K;replace d:=d.spn K;replace g:=g.spn K;refine Ua<|Rg<|Ub<|J72 (cs':=fun a q=>rc s q 0) J h cb67 rfl rfl (Jm3 J.bd (s:=s) (p:=0) (o:=0) h.blk (J.yx _ h.mem) (J9h _) hs (by decide) (Jgw s.length) (Jrs s.length 0 (by omega))<|J9g 0) ?_ ?_
 ·intro w5 e p hx L l;refine Jqn L (b.spo l r) (d.spo l B) (g.spo l D) j k m rfl fun x' y' w' C' M N P=>⟨_,Ji2 M N P rfl rfl rfl rfl,J4w ⟨_,_,_,rfl,?_⟩ C'.below⟩;rw [rd_er hx];exact⟨(vz Vj (by decide) (by decide) (by unfold maxLen;decide) J8g J8g J8g J8g).tr (Tr.weak C'.base),rfl,rfl⟩
 intro v w5 a q hx L l h h5;have hq:=rd_le hx;obtain⟨a1,Q,a2,R,S,T,U,V,rfl,i⟩:=J8e h5;replace b:=b.spo l r;replace d:=d.spo l B;replace g:=g.spo l D;refine On (Us (cs':=ec a a1 Q a2 R S T U V) L b io31 ?_);intro w6 Y F b;replace i:=i.sp F;replace d:=d.spo F (J9k j);replace g:=g.spo F (J9k k);replace h:=h.spo F (J9k r);refine Nl (Rg<|Ub<|J45 rfl<|Ol<|J4o Yc rfl<|Ol<|J5z Y h cb68 rfl rfl (X2 Y.bd (s:=s) (p:=q) (o:=0) h.blk (Y.yx _ h.mem) hq hs) ?_);intro v7 w7 C7 G h h7;subst h7;replace i:=i.sp G;replace b:=b.spo G r;replace d:=d.spo G B;replace g:=g.spo G D;refine Nl<|Rh<|Ub<|J45 rfl<|Ol<|J4o Yc rfl<|Ol<|J4o J7 rfl<|Ol<|J4t h pl3 rfl rfl<|Ub<|J5x un9 rfl<|Ol<|J5c rfl rfl (fun hc=>?_)<|fun hc=>?_
 ·refine Nl (Uk<|Ub<|J45 rfl<|Ol<|J4o Yc rfl<|Ol<|J4o J7 rfl<|Ol<|J4t h pl3 rfl rfl<|Ol<|J47 (cs:=[.int .i64 19,.int .i64 ((spM s q:Nat):Int)]) rfl (by kernel_rfl)<|Ol<|J5v (by kernel_rfl)<|On<|J6q rfl ?_);refine Jqn C7 b d g j k m rfl fun x' y' w' C' M N P=>⟨_,Ji2 M N P rfl rfl rfl rfl,J4w ⟨_,_,_,rfl,?_⟩ C'.below⟩;rw [Juc hx hc];exact⟨(vz Vj (by decide) (by decide) (by unfold maxLen;decide) J8g J8g J8g J8g).tr (Tr.weak C'.base),rfl,rfl⟩
 refine Nl (Uc<|Rg<|Ol<|Uo (vs:=ec a a1 Q a2 R S T U V) b ag31<|On<|Us (cs':=ec a a1 Q a2 R S T U V) C7 b io31 ?_);intro w8 C8 Z b;replace i:=i.sp Z;replace d:=d.spo Z (J9k j);replace g:=g.spo Z (J9k k);refine On (J5r (cs':=[.int .i64 0]) C8 d io3 rfl rfl rfl rfl rfl rfl ?_);intro w9 C9 s9 d;replace i:=i.sp s9;replace b:=b.spo s9 j;replace g:=g.spo s9 (J9k m);refine On (Us (cs':=[.int .i64 0]) C9 g io32 ?_);intro av I E g;replace i:=i.sp E;replace b:=b.spo E k;replace d:=d.spo E m;refine Nl (J4y ?_);refine Jxm rfl ⟨_,Ji2 b d g rfl rfl rfl rfl,J4w ⟨_,_,_,rfl,?_⟩ I.below⟩;rw [rd_ok hx hc];exact⟨(Mx a i).tr (Tr.weak I.base),rfl,rfl⟩
end Go.Wf
namespace Go.Wf
open Go Go.Proofs Go.RowKit
theorem Jhn{X:Nat→Prop}{w:World}(hX:XB X w){y:Value}{a:GRat}(J:RV Yp X w y a)(hln:a.num.mag.length≤536870912)(hld:a.den.mag.length≤536870912):CRt 101 #[y] w fun v w'=>RV Jf X w' v (.mk 1 [] (ofQ a.q) [] []):=by
 obtain⟨a1,A,B,D,rfl,s,x⟩:=J8h J;have C:=J4z hX;refine Cgo (args:=[(.agg #[(.bool a.num.neg),(.slice a1 a.num.mag.length A),(.bool a.den.neg),(.slice B a.den.mag.length D)])]) Tryz.func101 rfl rfl rfl (Rg<|Ol<|J5a C rfl ?_);intro V Y Z M K E i b;refine Ol (J41 E io31 rfl ?_);intro N P Q R L j d e;replace s:=(s.sp i).sp d;replace x:=(x.sp i).sp d;replace b:=b.spn d;refine Nl (Rg<|Ol<|Uo (vs:=[(.bool a.num.neg),(.slice a1 a.num.mag.length A),(.bool a.den.neg),(.slice B a.den.mag.length D)]) b ag28<|Ol<|J4p j cb42 rfl rfl (xy j.bd (a:=a) (Za s x) hln hld) ?_);intro S T F G H;replace e:=e.spn G;obtain⟨k,l,m,o,rfl,g,h⟩:=J8h H;refine Ol (J47 (cs:=[(.int .i64 1),(.slice none 0 0),(.bool (ofQ a.q).num.neg),(.slice k (ofQ a.q).num.mag.length l),(.bool (ofQ a.q).den.neg),(.slice m (ofQ a.q).den.mag.length o),(str []),(.slice none 0 0)]) rfl (by kernel_rfl)<|On<|Us (cs':=[(.int .i64 1),(.slice none 0 0),(.bool (ofQ a.q).num.neg),(.slice k (ofQ a.q).num.mag.length l),(.bool (ofQ a.q).den.neg),(.slice m (ofQ a.q).den.mag.length o),(str []),(.slice none 0 0)]) F e io31 ?_);intro U p r I;replace g:=g.sp r;replace h:=h.sp r;refine Nl (J4y<|Ju rfl (resV.c I rfl ag31 rfl)<|J4w ?_ p.below);exact J8f (a:=(.mk 1 [] ⟨⟨(ofQ a.q).num.neg,(ofQ a.q).num.mag⟩,⟨(ofQ a.q).den.neg,(ofQ a.q).den.mag⟩⟩ [] [])) ((Y5 (by omega) (by omega) (by unfold maxLen;simp) J8g g h J8g).tr (Tr.weak p.base)) rfl
end Go.Wf
namespace Go.Wf
open Go
theorem Jsw{op:Int}{n:List Int}{l:List GExpr}(h:okL l):okE (eOp op n l):=by
 rw [Xq];exact⟨J9h _,J9h _,J9h _,h⟩
abbrev Sn(p q d:Nat)(a:GExpr):Prop:=okE a∧cntE a+4 * p≤4 * q+d
section
variable {s:List UInt8} {S:Nat→Nat→Rr GExpr} {o p q k:Nat} {op:Int} {a:GExpr} {l m:List GExpr}
variable (hS:∀ o p,p≤s.length→(S o p).fw s p) (hN:∀ o p a q,p≤s.length→S o p= .ok a q→Sn p q 0 a)
end
section
variable {s:List UInt8} {a m:GExpr} {q p:Nat} {e:Int} {T:Rr Unit}
theorem Jk7(h:((4000:Int)) < ((s.length:Nat):Int)):(Vj,0,7)=Yz s:=by unfold Yz;rw [if_pos (by omega)]
def RdF(s:List UInt8):Prop:=(zd s).fine s
theorem Jjf(hf:RdF s)(hl:¬ (4000:Int) < ((s.length:Nat):Int))(h:¬ (rdT s).2.2=0):(Vj,(rdT s).2.1,(rdT s).2.2)=Yz s:=by
 unfold Yz;rw [if_neg (by omega)];unfold rdT at h ⊢
 cases hr:zd s with
 | er e p=>rfl
 | ok a q=>rw [hr] at h;exact absurd rfl h
theorem Jkz(hf:RdF s)(hl:¬ (4000:Int) < ((s.length:Nat):Int))(h:(rdT s).2.2=0)(hc:¬ Zs (rdT s).1=0):(Vj,0,Zs (rdT s).1)=Yz s:=by
 unfold Yz;rw [if_neg (by omega)];unfold RdF at hf;unfold rdT at h hc ⊢
 cases hr:zd s with
 | er e p=>rw [hr] at h hf;exact absurd h hf.1
 | ok a q=>rw [hr] at hc;exact(if_neg hc).symm
theorem Jth(hf:RdF s)(hl:¬ (4000:Int) < ((s.length:Nat):Int))(h:(rdT s).2.2=0)(hc:Zs (rdT s).1=0):((rdT s).1,0,0)=Yz s:=by
 unfold Yz;rw [if_neg (by omega)];unfold RdF at hf;unfold rdT at h hc ⊢
 cases hr:zd s with
 | er e p=>rw [hr] at h hf;exact absurd h hf.1
 | ok a q=>rw [hr] at hc;exact(if_pos hc).symm
end
end Go.Wf
namespace Go.Wf
open Go Go.Proofs Go.RowKit
theorem J0d{X:Nat→Prop}{w:World}(hX:XB X w){r:Value}{a:GInt}(r0:RV Jv X w r a)(hl:a.mag.length≤1000):CRt 74 #[r] w fun v w'=>RV Jv X w' v a:=by
 obtain⟨a1,s,rfl,i⟩:=RV.int r0;have C:=J4z hX;refine Cgo (args:=[(.agg #[(.bool a.neg),(.slice a1 a.mag.length s)])]) Tryz.func74 rfl rfl rfl (Rg<|Ol<|J5a C rfl ?_);intro x w5 x6 y7 ae C9 y g;replace i:=i.sp y;refine Ol (J41 C9 io26 rfl ?_);intro af ag A ah ad B l j;refine Nl<|J40<|J63 mixed 6 [[],[0],[],[],[3],[2,4]] B [fx<|.pointer (some ⟨x,0,none⟩),fx<|.bool a.neg,u0,fx<|.pointer (some ⟨x,1,none⟩),fx<|.slice a1 a.mag.length s,us A Je a.mag] (by kernel_rfl) ⟨sx,sx,(fun _ _ _ _ _ h _=>h),sx,sx,ts,trivial⟩ fun D ai d k b=>?_
 replace i:=(i.sp l).sp k;replace g:=(g.spn l).spn k;replace j:=j.spn k;have b:Keep [3,4,5,6,7,8] _ D:=b;refine⟨⟨fun _=>?_,fun⟨E,_⟩=>?_,fun _=>?_,fun _=>?_,fun⟨F,_⟩=>?_,fun⟨G,H,_⟩=>?_,trivial⟩,fun⟨I,J,K,L,M,e,_⟩=>?_⟩
 ·exact Sd0 b fun _=>J4o Zv rfl<|⟨(),⟨d,Sp.refl⟩,rfl⟩
 ·exact Sd1 b E fun _=>J4t g pl4 rfl rfl<|⟨(),⟨d,Sp.refl⟩,rfl⟩
 ·refine Sd0 b fun _=>J66 d sl24 Jh ?_;intro aj ak N P;exact⟨(),⟨N,P⟩,⟨_,rfl⟩⟩
 ·exact Sd0 b fun _=>J4o J5 rfl<|⟨(),⟨d,Sp.refl⟩,rfl⟩
 ·exact Sd1 b F fun _=>J4t g pl24 rfl rfl<|⟨(),⟨d,Sp.refl⟩,rfl⟩
 ·obtain⟨am,Q⟩:=G;refine Jp b (aC Q<|aC H aN) fun _=>J5b (J6i (T:=Je) d sl24 Jh rfl rfl i (J86 hl (by decide)) (by omega) rfl ?_);intro an ao R S U;exact⟨(),⟨R,S⟩,U⟩
 obtain⟨aq,V⟩:=K;obtain⟨m,o,Y,e⟩:=RS.opn e;obtain⟨ar,rfl⟩:=mixK b (aC I<|aC J<|aC V<|aC L<|aC M<|aC Y aN);refine Ol (J47 (cs:=[(.bool a.neg),(.slice m a.mag.length o)]) rfl (by kernel_rfl)<|On<|Us (cs':=[(.bool a.neg),(.slice m a.mag.length o)]) d j io26 ?_);intro au p Z aa;replace e:=e.sp Z;refine Nl (J4y<|Ju rfl (resV.c aa rfl ag26 rfl)<|J4w ?_ p.below);exact J8f (a:=a) ((Ji e).tr (Tr.weak p.base)) rfl
theorem x_cpR{X:Nat→Prop}{w:World}(hX:XB X w){G:Value}{a:GRat}(r0:RV Yp X w G a)(hn:a.num.mag.length≤1000)(hd:a.den.mag.length≤1000):CRt 40 #[G] w fun v w'=>RV Yp X w' v a:=by
 obtain⟨a1,D,E,F,rfl,h,i⟩:=J8h r0;have C:=J4z hX;refine Cgo (args:=[(.agg #[(.bool a.num.neg),(.slice a1 a.num.mag.length D),(.bool a.den.neg),(.slice E a.den.mag.length F)])]) Tryz.func40 rfl rfl rfl (Rg<|Ol<|J5a C rfl ?_);intro H w8 x9 ah af I o e;replace h:=h.sp o;replace i:=i.sp o;refine Ol (J41 I io28 rfl ?_);intro ai aj J ak ag K j k;refine Nl<|J40<|J63 mixed 5 [[],[0],[1],[],[3]] K [fx<|.pointer (some ⟨H,0,none⟩),fx<|.agg #[(.bool a.num.neg),(.slice a1 a.num.mag.length D)],ur J Jv a.num,fx<|.pointer (some ⟨H,2,none⟩),fx<|.agg #[(.bool a.den.neg),(.slice E a.den.mag.length F)]] (by kernel_rfl) ⟨sx,sx,tr,sx,sx,trivial⟩ fun L am b g d=>?_
 replace h:=(h.sp j).sp g;replace i:=(i.sp j).sp g;replace e:=(e.spn j).spn g;have d:Keep [3,4,5,6,7] _ L:=d;refine⟨⟨fun _=>?_,fun⟨M,_⟩=>?_,fun⟨N,_⟩=>?_,fun _=>?_,fun⟨P,_⟩=>?_,trivial⟩,fun⟨Q,R,S,T,U,_⟩=>?_⟩
 ·exact Sd0 d fun _=>J4o Km rfl<|⟨(),⟨b,Sp.refl⟩,rfl⟩
 ·exact Sd1 d M fun _=>Uo (vs:=[(.bool a.num.neg),(.slice a1 a.num.mag.length D)]) e ag26<|⟨(),⟨b,Sp.refl⟩,rfl⟩
 ·refine Sd1 d N fun _=>J4p b cb74 rfl rfl (J0d b.bd (a:=a.num) (Ji h) hn) ?_;intro an ao V Y Z;exact⟨(),⟨V,Y⟩,Z⟩
 ·exact Sd0 d fun _=>J4o Yk rfl<|⟨(),⟨b,Sp.refl⟩,rfl⟩
 ·exact Sd1 d P fun _=>Uo (vs:=[(.bool a.den.neg),(.slice E a.den.mag.length F)]) e ag26<|⟨(),⟨b,Sp.refl⟩,rfl⟩
 obtain⟨p,r,aa,l⟩:=RV.int S;obtain⟨aq,rfl⟩:=mixK d (aC Q<|aC R<|aC aa<|aC T<|aC U aN);refine Ol (J4p b cb74 rfl rfl (J0d b.bd (a:=a.den) (Ji i) hd) ?_);intro ar au ab s ac;replace k:=(k.spn g).spn s;obtain⟨x,y,rfl,m⟩:=RV.int ac;refine Ol (J47 (cs:=[(.bool a.num.neg),(.slice p a.num.mag.length r),(.bool a.den.neg),(.slice x a.den.mag.length y)]) rfl (by kernel_rfl)<|On<|Us (cs':=[(.bool a.num.neg),(.slice p a.num.mag.length r),(.bool a.den.neg),(.slice x a.den.mag.length y)]) ab k io28 ?_);intro av A B ad;replace l:=(l.sp s).sp B;replace m:=m.sp B;refine Nl (J4y<|Ju rfl (resV.c ad rfl ag28 rfl)<|J4w ?_ A.below);exact J8f (a:=a) ((Za l m).tr (Tr.weak A.base)) rfl
theorem Jmt(N:Nat):∀ {X:Nat→Prop} {w:World} (hX:XB X w) {h:Value} {a:GExpr} (k:RV Jf X w h a) {m:Nat} (hm:m≤1000) (hN:(SizeOf.sizeOf a) < N),CRt 51 #[h,(.int .i64 ((m:Nat):Int))] w fun v w'=>v=(.int .i64 (((min (cntE a) (m+1)):Nat):Int)):=by
 induction N with
 | zero=>intro X w hX h a k m hm hN;exact absurd hN<|J9m _
 | succ N ih=>
  intro X w hX h a k m hm hN;obtain⟨a1,E,F,G,H,I,J,K,rfl,d⟩:=J8e k;have C:=J4z hX;have hal:=k.args_max;refine Cgo (args:=[(ea a a1 E F G H I J K),(.int .i64 ((m:Nat):Int))]) Tryz.func51 rfl rfl rfl (Rg<|Ol<|J5a C rfl ?_);intro l ai aj ak ag P Q R;replace d:=d.sp Q;refine Oa (Nl<|Rg<|Ua<|Rh<|Ua<|W.block<|J5e (fun μ f v=>∃ (x y:Nat→Prop) (i:Nat) (z:Nat),Cx X w x y v∧f 1=(.int .i64 ((m:Nat):Int))∧f 2=(.pointer (some ⟨l,0,none⟩))∧f 4=(.int .i64 0)∧f 6=(.int .i64 ((i:Nat):Int))∧f 5=(.int .i64 ((z:Nat):Int))∧ExprParts x v a a1 E F G H I J K∧Own w y v l (ec a a1 E F G H I J K) 31∧i≤a.args.length∧z=min (1+cntL (a.args.take i)) (m+1)∧μ=(a.args.length - i)) _ ⟨_,_,0,1,P,rfl,rfl,rfl,rfl,rfl,d,R,(J9h _),(by rw [List.take_zero,cntL];omega),rfl⟩ ?_);rintro am an ao ⟨aq,ar,i,z,g,o,p,r,s,A,d,e,hi,hz,af⟩;obtain⟨au,rfl⟩:=rebK (aC o<|aC p<|aC r<|aC s<|aC A aN);clear o p r s A;refine Rh<|Ub<|J4o J1 rfl<|Ol<|J4t e pl29 rfl rfl<|Ol<|St.len sl29 rfl<|Ol<|J5c rfl rfl (fun L=>?_)<|fun L=>?_
  ·refine Om<|OgD<|J4x<|OgD<|J4x<|OgD<|J6f rfl rfl (fun M=>?_)<|fun M=>?_
   ·refine OT (Nl<|Ud<|J4v<|J40<|W.block<|J4u<|Ub<|J4o J1 rfl<|Ol<|J4t e pl29 rfl rfl<|Ub<|J49 (j:=i) (u:=(Ar a i)) d.args sl29 io31 rfl rfl rfl (Jc (by omega)) ?_);intro av aw ah B;obtain⟨S,T,U,V,Y,Z,aa,ab,rfl,ac⟩:=Jd B.rd;refine Ol (J5l (cs:=(ec (Ar a i) S T U V Y Z aa ab)) ag31 rfl rfl B.cell<|Om<|Ub<|St.sub rfl rfl (Zw (a:=m) (b:=z) (by omega) (by omega))<|Ol<|J4p g cb51 rfl rfl (ih g.bd (Mx (Ar a i) ac) (m:=m - z) (by omega)<|J85 (Qi (by omega))<|Nat.le_of_lt_succ hN) ?_);intro ax ay ad D ae;replace d:=d.sp D;replace e:=e.spn D;subst ae;refine Ol<|St.add rfl rfl (Ja (a:=z) (b:=(min (cntE<|Ar a i)<|(m - z)+1)) (by omega))<|Ua<|J4u<|Ub<|St.add rfl rfl (Ja (a:=i) (b:=1) (by omega))<|Ua<|⟨_,(by omega),_,_,(i+1),z+(min (cntE<|Ar a i)<|(m - z)+1),ad,rfl,rfl,rfl,rfl,rfl,d,e,(by omega),(Jtf (by omega) hz (by omega)),rfl⟩
   exact OT<|Nl<|Ue<|J5i<|Rg<|Om<|Ua<|J4y<|Wq rfl rfl g<|J87 (Value.int _)<|J87 _<|Jty (by omega) hz
  exact Om<|Oz<|Oz<|Oz<|OF<|Nl<|Ue<|J5i<|Rg<|Om<|Ua<|J4y<|Wq rfl rfl g<|J87 (Value.int _)<|J87 _<|Jvj (by omega) hz
theorem Jiv{X:Nat→Prop}{w:World}(hX:XB X w){b:Value}{a:GExpr}(d:RV Jf X w b a){m:Nat}(hm:m≤1000):CRt 51 #[b,(.int .i64 ((m:Nat):Int))] w fun v w'=>v=(.int .i64 (((min (cntE a) (m+1)):Nat):Int)):=Jmt ((SizeOf.sizeOf a)+1) hX d hm (Nat.lt_succ_self _)
theorem Jw8{X:Nat→Prop}{w:World}(hX:XB X w){e:Value}{a:GExpr}(y:RV Jf X w e a){m:Nat}(hm:m≤1000):CRt 36 #[e,(.int .i64 ((m:Nat):Int))] w fun v w'=>v=(.bool (decide (cntE a≤m))):=by
 obtain⟨a1,g,h,i,j,k,l,o,rfl,d⟩:=J8e y;have C:=J4z hX;refine Cgo (args:=[(ea a a1 g h i j k l o),(.int .i64 ((m:Nat):Int))]) Tryz.func36 rfl rfl rfl (Rg<|Ol<|J5a C rfl ?_);intro B D E F A b p r;replace d:=d.sp p;refine Oa (Nl<|Rg<|Ol<|Uo (vs:=(ec a a1 g h i j k l o)) r ag31<|Ub<|J4p b cb51 rfl rfl (Jiv b.bd (Mx a d) (m:=m) hm) ?_);intro G H s I x;subst x;exact Ub<|J6j rfl rfl rfl<|Ua<|J4y<|Wq rfl rfl s<|J87 (Value.bool)<|decide_eq_decide.2 (by omega)
theorem Jof{X:Nat→Prop}{w:World}(hX:XB X w){E:Value}{a:GExpr}(K:RV Jf X w E a)  :CRt 13 #[E] w fun v w'=>∃ b:Bool,v= .bool b∧(b=true→(Yd a=true∧cntE a≤80)):=by
 obtain⟨a1,l,o,p,r,s,x,y,rfl,g⟩:=J8e K;have C:=J4z hX;refine Cgo (args:=[(ea a a1 l o p r s x y)]) Tryz.func13 rfl rfl rfl (Rg<|Ol<|J5a C rfl ?_);intro M N P Q L A F d;replace g:=g.sp F;refine Oa (Nl<|Rg<|Ol<|Uo (vs:=(ec a a1 l o p r s x y)) d ag31<|Ol<|J5h<|J4p A cb36 rfl rfl (Jw8 A.bd (Mx a g) (m:=80) (by omega)) ?_);intro R S i B G;replace g:=g.sp B;replace d:=d.spn B;refine⟨_,G,fun j=>?_,fun j=>?_⟩
 ·refine Om (OgD<|Uo (vs:=(ec a a1 l o p r s x y)) d ag31<|OgD<|J5h<|J4p i cb37 rfl rfl (Jwb i.bd<|Mx a g) ?_);intro T U k D H;replace g:=g.sp D;replace d:=d.spn D;refine⟨_,H,fun h=>?_,fun h=>?_⟩
  ·refine OT (Om<|OgD<|Uo (vs:=(ec a a1 l o p r s x y)) d ag31<|OgD<|J4p k cb38 rfl rfl (Jts k.bd (Mx a g) h) ?_);intro V Y I Z J;obtain⟨aa,rfl⟩:=J;exact OgD<|J6j rfl rfl rfl<|OT<|Ua<|J4y<|Wq rfl rfl I<|⟨_,rfl,fun _=>⟨h,of_decide_eq_true j⟩⟩
  exact OT<|Om<|Oz<|Oz<|Oz<|OF<|Ua<|J4y<|Wq rfl rfl k ⟨_,rfl,fun e=>by cases e⟩
 exact Om<|Oz<|Oz<|OF<|Om<|Oz<|Oz<|Oz<|OF<|Ua<|J4y<|Wq rfl rfl i ⟨_,rfl,fun e=>by cases e⟩
theorem Jvu(N:Nat):∀ {X:Nat→Prop} {w:World} (hX:XB X w) {h:Value} {a:GExpr} (k:RV Jf X w h a) (hm:cntE a≤10000) (hN:(SizeOf.sizeOf a) < N),CRt 52 #[h] w fun v w'=>v=(.int .i64 (((lvlE a):Nat):Int)):=by
 induction N with
 | zero=>intro X w hX h a k hm hN;exact absurd hN<|J9m _
 | succ N ih=>
  intro X w hX h a k hm hN;obtain⟨a1,D,E,F,G,H,I,J,rfl,d⟩:=J8e k;have C:=J4z hX;have hal:=k.args_max;have hce:=K3 a;have hle:=J04 a;have hlq:=Ky a;refine Cgo (args:=[(ea a a1 D E F G H I J)]) Tryz.func52 rfl rfl rfl (Rg<|Ol<|J5a C rfl ?_);intro m ah ai aj ae L M P;replace d:=d.sp M;refine Oa (Nl<|Rg<|Ua<|Rh<|Ua<|W.block<|J5e (fun μ f v=>∃ (x y:Nat→Prop) (i:Nat) (z:Nat),Cx X w x y v∧f 1=(.pointer (some ⟨m,0,none⟩))∧f 2=(.int .i64 0)∧f 4=(.int .i64 ((i:Nat):Int))∧f 3=(.int .i64 ((z:Nat):Int))∧ExprParts x v a a1 D E F G H I J∧Own w y v m (ec a a1 D E F G H I J) 31∧i≤a.args.length∧z=lvlL (a.args.take i)∧μ=(a.args.length - i)) _ ⟨_,_,0,0,L,rfl,rfl,rfl,rfl,d,P,(J9h _),(by rw [List.take_zero,lvlL]),rfl⟩ ?_);rintro ak am an ⟨ao,aq,i,z,g,o,p,r,s,d,e,hi,hz,ad⟩;obtain⟨ar,rfl⟩:=rebK (aC o<|aC p<|aC r<|aC s aN);clear o p r s;refine Rh<|Ub<|J4o J1 rfl<|Ol<|J4t e pl29 rfl rfl<|Ol<|St.len sl29 rfl<|Ol<|J5c rfl rfl (fun K=>?_)<|fun K=>?_
  ·refine Nl (Ud<|J4v<|J40<|W.block<|J4u<|Ub<|J4o J1 rfl<|Ol<|J4t e pl29 rfl rfl<|Ub<|J49 (j:=i) (u:=(Ar a i)) d.args sl29 io31 rfl rfl rfl (Jc (by omega)) ?_);intro au av af A;obtain⟨Q,R,S,T,U,V,Y,Z,rfl,aa⟩:=Jd A.rd;refine Ol (J5l (cs:=(ec (Ar a i) Q R S T U V Y Z)) ag31 rfl rfl A.cell<|Ol<|J4p g cb52 rfl rfl (ih g.bd (Mx (Ar a i) aa) (by have h7:=Ja3 (l:=a.args) (i:=i) (by omega);unfold Ar at *;omega)<|J85 (Qi (by omega))<|Nat.le_of_lt_succ hN) ?_);intro aw ax ab B ac;replace d:=d.sp B;replace e:=e.spn B;subst ac;refine Ol<|St.max rfl rfl (by split <;> omega)<|Ua<|J4u<|Ub<|St.add rfl rfl (Ja (a:=i) (b:=1) (by omega))<|Ua<|⟨_,(by omega),_,_,(i+1),max z<|lvlE<|Ar a i,ab,rfl,rfl,rfl,rfl,d,e,(by omega),(Js4 (by omega) hz),rfl⟩
  exact Nl<|Ue<|J5i<|Rg<|Ub<|St.add rfl rfl (Ja (a:=z) (b:=1) (by have h7:=Jr5 (a:=a) (by omega) hz;omega))<|Ua<|J4y<|Wq rfl rfl g<|J87 (Value.int _)<|J87 _<|Jr5 (by omega) hz
theorem x_lvl{X:Nat→Prop}{w:World}(hX:XB X w){b:Value}{a:GExpr}(d:RV Jf X w b a)(hm:cntE a≤10000):CRt 52 #[b] w fun v w'=>v=(.int .i64 (((lvlE a):Nat):Int)):=Jvu ((SizeOf.sizeOf a)+1) hX d hm (Nat.lt_succ_self _)
theorem Js7(N:Nat):∀ {X:Nat→Prop} {w:World} (hX:XB X w) {P:Value} {a:GExpr} (Q:RV Jf X w P a) {g k:Nat} (hB:Blk w g [.int .i64 ((k:Nat):Int)] 3) (hXg:X g) {lv:Nat} (hk:k≤60) (hv:lv≤13) (hN:(SizeOf.sizeOf a) < N),Calls Tryz.prog 79 #[P,(.pointer (some ⟨g,0,none⟩)),(.int .i64 ((lv:Nat):Int))] w (RetM w g fun v w'=>v=(.bool ((pszE a k lv).2))∧Blk w' g [.int .i64 (((pszE a k lv).1:Nat):Int)] 3):=by
 induction N with
 | zero=>intro X w hX P a Q g k hB hXg lv hk hv hN;exact absurd hN<|J9m _
 | succ N ih=>
  intro X w hX P a Q g k hB hXg lv hk hv hN;obtain⟨a1,c2,a3,c4,a5,c6,R,S,rfl,h⟩:=J8e Q;have C:=J53 g hX hXg;have s:=J8j hB;have hal:=Q.args_max;refine Cgo (args:=[(ea a a1 c2 a3 c4 a5 c6 R S),(.pointer (some ⟨g,0,none⟩)),(.int .i64 ((lv:Nat):Int))]) Tryz.func79 rfl rfl rfl (Rg<|Ol<|J5a C rfl ?_);intro av aG aH aI ao aw T m;have U:=ao _ s.blk.lt;replace s:=s.spn T;refine Oa (Nl<|Rg<|Ub<|J45 rfl<|Ol<|J4t s pl3 rfl rfl<|Ol<|St.add rfl rfl (Ja (a:=k) (b:=1) (by omega))<|Ol<|J45 rfl<|On<|J5r (cs':=[(.int .i64 ((k+1:Nat):Int))]) aw s io3 rfl rfl rfl rfl rfl rfl ?_);intro aJ A V o;replace h:=(h.sp T).sp V;replace m:=m.spo V (J9k U);refine Nl<|Rh<|Ub<|J45 rfl<|Ol<|J4t o pl3 rfl rfl<|Ol<|J5o rfl rfl (fun aq=>?_)<|fun aq=>?_
  ·refine Om<|Oz<|Oz<|OT<|Nl<|Uf<|Ua<|J4y<|Ju rfl (J8d rfl)<|RetM.intro ⟨?_,?_⟩ A.below
   ·exact J87 (Value.bool)<|J87 Prod.snd<|Jgk (a:=a) (by omega)
   have hh:=o.blk;rw [show k+1=(pszE a k lv).1 from J87 Prod.fst (Jgk (a:=a) (by omega))] at hh;exact hh
  refine Om<|OgD<|J4x<|OgD<|J5o rfl rfl (fun ar=>?_)<|fun ar=>?_
  ·refine OF<|Nl<|Uf<|Ua<|J4y<|Ju rfl (J8d rfl)<|RetM.intro ⟨?_,?_⟩ A.below
   ·exact J87 (Value.bool)<|J87 Prod.snd<|Jgk (a:=a) (by omega)
   have hh:=o.blk;rw [show k+1=(pszE a k lv).1 from J87 Prod.fst (Jgk (a:=a) (by omega))] at hh;exact hh
  refine OF (Nl<|Uc<|Rh<|Ol<|J4o J1 rfl<|Ol<|J4t m pl29 rfl rfl<|Ol<|St.len sl29 rfl<|Om<|Nl<|W.block<|J5e (fun μ f v=>∃ (x y:Nat→Prop) (i:Nat) (kk:Nat),Cx X ⟨w,(· =g)⟩ x y v∧f 1=(.pointer (some ⟨g,0,none⟩))∧f 2=(.int .i64 ((lv:Nat):Int))∧f 23=(.slice R a.args.length S)∧f 24=(.int .i64 ((a.args.length:Nat):Int))∧f 25=(.int .i64 ((i:Nat):Int))∧ExprParts x v a a1 c2 a3 c4 a5 c6 R S∧Own ⟨w,(· =g)⟩ y v g [(.int .i64 ((kk:Nat):Int))] 3∧Own ⟨w,(· =g)⟩ y v av (ec a a1 c2 a3 c4 a5 c6 R S) 31∧i≤a.args.length∧pszL (a.args.drop i) kk (lv+1)=pszL a.args (k+1) (lv+1)∧kk≤60∧μ=(a.args.length - i)) _ ⟨_,_,0,(k+1),A,rfl,rfl,rfl,rfl,rfl,h,o,m,(J9h _),rfl,(by omega),rfl⟩ ?_);rintro aK aL aM ⟨aO,aP,i,kk,Y,Z,aa,ab,ac,ad,h,e,l,hi,hR,hkk,aE⟩;obtain⟨aQ,rfl⟩:=rebK (aC Z<|aC aa<|aC ab<|aC ac<|aC ad aN);clear Z aa ab ac ad;refine Rg<|Ol<|J5c rfl rfl (fun au=>?_)<|fun au=>?_
  ·refine Nl (J40<|Ud<|J4v<|J40<|W.block<|Rg<|Ol<|J49 (j:=i) (u:=(Ar a i)) h.args sl29 io31 rfl rfl rfl (Jc (by omega)) ?_);intro aR aS aF ae;obtain⟨B,D,E,F,G,H,I,J,rfl,K⟩:=Jd ae.rd;refine Ol (J5l (cs:=(ec (Ar a i) B D E F G H I J)) ag31 rfl rfl ae.cell<|Ol<|J41 Y io31 rfl ?_);intro aT aU aV aW L ax p ay;have az:=L _ e.blk.lt;have aA:=L _ l.blk.lt;replace h:=h.sp p;replace l:=l.spn p;refine On (Us (cs':=(ec (Ar a i) B D E F G H I J)) ax ay io31 ?_);intro aX M r aB;replace K:=(K.sp p).sp r;replace e:=(e.spn p).spo r az;refine Nl (Rg<|Ol<|Uo (vs:=(ec (Ar a i) B D E F G H I J)) aB ag31<|Om<|Ub<|St.add rfl rfl (Ja (a:=lv) (b:=1) (by omega))<|Ol<|J5h<|J5z M e cb79 rfl rfl (ih M.bd (Mx (Ar a i) K) (k:=kk) e.blk (M.yx _ e.mem) (lv:=lv+1) hkk (by omega)<|J85 (Qi (by omega))<|Nat.le_of_lt_succ hN) ?_);intro aY aZ af ag ah aD;replace h:=(h.sp r).sp ag;replace l:=(l.spo r aA).spo ag (J9k U);refine⟨_,aD,fun d=>?_,fun d=>?_⟩
   ·refine Ol<|J5n rfl<|Nl<|Uc<|J4u<|Ol<|St.add rfl rfl (Ja (a:=i) (b:=1) (by omega))<|Om<|Nl<|⟨_,(by omega),_,_,(i+1),(pszE (Ar a i) kk<|lv+1).1,af,rfl,rfl,rfl,rfl,rfl,h,ah,l,(by omega),(Jnq (by omega) hR d),(pr_le hkk d),rfl⟩
   refine Ol<|J5n rfl<|Nl<|Uf<|Ua<|J4y<|Ju rfl (J8d rfl)<|RetM.intro ⟨?_,?_⟩ af.below
   ·exact J87 (Value.bool)<|(by rw [← (Jl6 (by omega) (by omega) hR d)];exact d.symm)
   have hh:=ah.blk;rw [show(pszE (Ar a i) kk<|lv+1).1=(pszE a k lv).1 from J87 Prod.fst (Jl6 (by omega) (by omega) hR d)] at hh;exact hh
  refine Nl<|J40<|Ue<|J5i<|Rg<|Ua<|J4y<|Ju rfl (J8d rfl)<|RetM.intro ⟨?_,?_⟩ Y.below
  ·exact J87 (Value.bool)<|J87 Prod.snd<|Jrq (a:=a) (k:=k) (v:=lv) (by omega) (by omega) hR
  have hh:=e.blk;rw [show kk=(pszE a k lv).1 from J87 Prod.fst (Jrq (a:=a) (k:=k) (v:=lv) (by omega) (by omega) hR)] at hh;exact hh
theorem c_psz{X:Nat→Prop}{w:World}(hX:XB X w){b:Value}{a:GExpr}(d:RV Jf X w b a){g k:Nat}(hB:Blk w g [.int .i64 ((k:Nat):Int)] 3)(hXg:X g){lv:Nat}(hk:k≤60)(hv:lv≤13):Calls Tryz.prog 79 #[b,(.pointer (some ⟨g,0,none⟩)),(.int .i64 ((lv:Nat):Int))] w (RetM w g fun v w'=>v=(.bool ((pszE a k lv).2))∧Blk w' g [.int .i64 (((pszE a k lv).1:Nat):Int)] 3):=Js7 ((SizeOf.sizeOf a)+1) hX d hB hXg hk hv (Nat.lt_succ_self _)
theorem Jwi{X:Nat→Prop}{w:World}(hX:XB X w){l:Value}{a:GExpr}(I:RV Jf X w l a)  :CRt 49 #[l] w fun v w'=>v=(.bool (decide (cntE a≤60∧lvlE a≤12))):=by
 obtain⟨a1,m,o,p,r,s,x,y,rfl,d⟩:=J8e I;have C:=J4z hX;refine Cgo (args:=[(ea a a1 m o p r s x y)]) Tryz.func49 rfl rfl rfl (Rg<|Ol<|J5a C rfl ?_);intro K L M N J A B b;replace d:=d.sp B;refine Oa (Nl<|Rg<|Ol<|J41 A io3 rfl ?_);intro P Q R S j D h E;have F:=j _ b.blk.lt;refine On (J5r (cs':=[(.int .i64 0)]) D E io3 rfl rfl rfl rfl rfl rfl ?_);intro T e i g;replace d:=(d.sp h).sp i;replace b:=(b.spn h).spo i F;refine Nl (Rg<|Ol<|Uo (vs:=(ec a a1 m o p r s x y)) b ag31<|Ol<|J5z e g cb79 rfl rfl (c_psz e.bd (Mx a d) (k:=0) g.blk (e.yx _ g.mem) (lv:=1) (by omega) (by omega)) ?_);intro U V G Y Z H;subst H;exact Ua<|J4y<|Wq rfl rfl G<|J87 (Value.bool)<|Jim a
theorem Jvr{X:Nat→Prop}{w:World}(hX:XB X w){n:Int}  :CRt 120 #[(.int .i64 n)] w fun v w'=>∃ G H,v= .tuple #[G,H]∧(G=(.agg #[(.int .i64 (sA n)),(.int .i64 (sB n)),(.int .i64 (sC n))]))∧(H=(.bool (okOp n))):=by
 have C:=J4z hX;refine Cgo (args:=[(.int .i64 n)]) Tryz.func120 rfl rfl rfl (Rg<|Ol<|J41 C Xx rfl ?_);intro g1 w2 x3 y4 aA a s7 b;refine Ua<|Rh<|Om<|Nl<|W.block<|Rh<|Ol<|J42 rfl rfl (fun D=>?_)<|fun D=>?_
 ·refine Oa (Nl<|Ud<|J4v<|Uf<|Ol<|J47 (cs:=[(.int .i64 0),(.int .i64 0),(.int .i64 0)]) rfl (by kernel_rfl)<|On<|Us (cs':=[(.int .i64 0),(.int .i64 0),(.int .i64 0)]) a b Xx ?_);intro aB I aD J;refine Oa (Nl<|J4y<|J9 rfl (resV.c J rfl Qs rfl) (J8d rfl)<|J4w ?_ I.below);refine⟨_,_,rfl,?_,?_⟩
  ·exact Ku (by rw [D];rfl) (by rw [D];rfl) (by rw [D];rfl)
  ·exact J87 (Value.bool)<|(by rw [D];rfl)
 refine Ua<|Ug<|Ol<|J42 rfl rfl (fun d=>?_)<|fun d=>?_
 ·refine Oa (Nl<|Ud<|J4v<|Uf<|Ol<|J47 (cs:=[(.int .i64 0),(.int .i64 0),(.int .i64 0)]) rfl (by kernel_rfl)<|On<|Us (cs':=[(.int .i64 0),(.int .i64 0),(.int .i64 0)]) a b Xx ?_);intro aE K aF L;refine Oa (Nl<|J4y<|J9 rfl (resV.c L rfl Qs rfl) (J8d rfl)<|J4w ?_ K.below);refine⟨_,_,rfl,?_,?_⟩
  ·exact Ku (by rw [d];rfl) (by rw [d];rfl) (by rw [d];rfl)
  ·exact J87 (Value.bool)<|(by rw [d];rfl)
 refine Ua<|Ug<|Ol<|J42 rfl rfl (fun e=>?_)<|fun e=>?_
 ·refine Oa (Nl<|Ud<|J4v<|Uf<|Ol<|J47 (cs:=[(.int .i64 0),(.int .i64 0),(.int .i64 0)]) rfl (by kernel_rfl)<|On<|Us (cs':=[(.int .i64 0),(.int .i64 0),(.int .i64 0)]) a b Xx ?_);intro aG M aH N;refine Oa (Nl<|J4y<|J9 rfl (resV.c N rfl Qs rfl) (J8d rfl)<|J4w ?_ M.below);refine⟨_,_,rfl,?_,?_⟩
  ·exact Ku (by rw [e];rfl) (by rw [e];rfl) (by rw [e];rfl)
  ·exact J87 (Value.bool)<|(by rw [e];rfl)
 refine Ua<|Ue<|J4u<|Ol<|J42 rfl rfl (fun g=>?_)<|fun g=>?_
 ·refine Oa (Nl<|Uf<|Ol<|J47 (cs:=[(.int .i64 0),(.int .i64 0),(.int .i64 0)]) rfl (by kernel_rfl)<|On<|Us (cs':=[(.int .i64 0),(.int .i64 0),(.int .i64 0)]) a b Xx ?_);intro aI P aJ Q;refine Oa (Nl<|J4y<|J9 rfl (resV.c Q rfl Qs rfl) (J8d rfl)<|J4w ?_ P.below);refine⟨_,_,rfl,?_,?_⟩
  ·exact Ku (by rw [g];rfl) (by rw [g];rfl) (by rw [g];rfl)
  ·exact J87 (Value.bool)<|(by rw [g];rfl)
 refine Ua<|Ug<|Ol<|J42 rfl rfl (fun h=>?_)<|fun h=>?_
 ·refine Oa (Nl<|Uf<|Ol<|J47 (cs:=[(.int .i64 1),(.int .i64 1),(.int .i64 0)]) rfl (by kernel_rfl)<|On<|Us (cs':=[(.int .i64 1),(.int .i64 1),(.int .i64 0)]) a b Xx ?_);intro aK R aL S;refine Oa (Nl<|J4y<|J9 rfl (resV.c S rfl Qs rfl) (J8d rfl)<|J4w ?_ R.below);refine⟨_,_,rfl,?_,?_⟩
  ·exact Ku (by rw [h];rfl) (by rw [h];rfl) (by rw [h];rfl)
  ·exact J87 (Value.bool)<|(by rw [h];rfl)
 refine Ua<|Ue<|Rh<|Ol<|J42 rfl rfl (fun i=>?_)<|fun i=>?_
 ·refine Oa (Nl<|Ud<|J4v<|Uf<|Ol<|J47 (cs:=[(.int .i64 4),(.int .i64 4),(.int .i64 0)]) rfl (by kernel_rfl)<|On<|Us (cs':=[(.int .i64 4),(.int .i64 4),(.int .i64 0)]) a b Xx ?_);intro aM T aO U;refine Oa (Nl<|J4y<|J9 rfl (resV.c U rfl Qs rfl) (J8d rfl)<|J4w ?_ T.below);refine⟨_,_,rfl,?_,?_⟩
  ·exact Ku (by rw [i];rfl) (by rw [i];rfl) (by rw [i];rfl)
  ·exact J87 (Value.bool)<|(by rw [i];rfl)
 refine Ua<|Ue<|J4u<|Ol<|J42 rfl rfl (fun j=>?_)<|fun j=>?_
 ·refine Oa (Nl<|Uf<|Ol<|J47 (cs:=[(.int .i64 4),(.int .i64 4),(.int .i64 0)]) rfl (by kernel_rfl)<|On<|Us (cs':=[(.int .i64 4),(.int .i64 4),(.int .i64 0)]) a b Xx ?_);intro aP V aQ Y;refine Oa (Nl<|J4y<|J9 rfl (resV.c Y rfl Qs rfl) (J8d rfl)<|J4w ?_ V.below);refine⟨_,_,rfl,?_,?_⟩
  ·exact Ku (by rw [j];rfl) (by rw [j];rfl) (by rw [j];rfl)
  ·exact J87 (Value.bool)<|(by rw [j];rfl)
 refine Ua<|Ug<|Ol<|J42 rfl rfl (fun k=>?_)<|fun k=>?_
 ·refine Oa (Nl<|Uf<|Ol<|J47 (cs:=[(.int .i64 2),(.int .i64 41),(.int .i64 0)]) rfl (by kernel_rfl)<|On<|Us (cs':=[(.int .i64 2),(.int .i64 41),(.int .i64 0)]) a b Xx ?_);intro aR Z aS aa;refine Oa (Nl<|J4y<|J9 rfl (resV.c aa rfl Qs rfl) (J8d rfl)<|J4w ?_ Z.below);refine⟨_,_,rfl,?_,?_⟩
  ·exact Ku (by rw [k];rfl) (by rw [k];rfl) (by rw [k];rfl)
  ·exact J87 (Value.bool)<|(by rw [k];rfl)
 refine Ua<|Ug<|Ol<|J42 rfl rfl (fun l=>?_)<|fun l=>?_
 ·refine Oa (Nl<|Uf<|Ol<|J47 (cs:=[(.int .i64 2),(.int .i64 65),(.int .i64 0)]) rfl (by kernel_rfl)<|On<|Us (cs':=[(.int .i64 2),(.int .i64 65),(.int .i64 0)]) a b Xx ?_);intro aT ab aU ac;refine Oa (Nl<|J4y<|J9 rfl (resV.c ac rfl Qs rfl) (J8d rfl)<|J4w ?_ ab.below);refine⟨_,_,rfl,?_,?_⟩
  ·exact Ku (by rw [l];rfl) (by rw [l];rfl) (by rw [l];rfl)
  ·exact J87 (Value.bool)<|(by rw [l];rfl)
 refine Ua<|Ue<|Rh<|Ol<|J42 rfl rfl (fun m=>?_)<|fun m=>?_
 ·refine Oa (Nl<|Ud<|J4v<|Uf<|Ol<|J47 (cs:=[(.int .i64 0),(.int .i64 0),(.int .i64 (-1))]) rfl (by kernel_rfl)<|On<|Us (cs':=[(.int .i64 0),(.int .i64 0),(.int .i64 (-1))]) a b Xx ?_);intro aV ad aW ae;refine Oa (Nl<|J4y<|J9 rfl (resV.c ae rfl Qs rfl) (J8d rfl)<|J4w ?_ ad.below);refine⟨_,_,rfl,?_,?_⟩
  ·exact Ku (by rw [m];rfl) (by rw [m];rfl) (by rw [m];rfl)
  ·exact J87 (Value.bool)<|(by rw [m];rfl)
 refine Ua<|Ue<|J4u<|Ol<|J42 rfl rfl (fun o=>?_)<|fun o=>?_
 ·refine Oa (Nl<|Uf<|Ol<|J47 (cs:=[(.int .i64 0),(.int .i64 0),(.int .i64 (-1))]) rfl (by kernel_rfl)<|On<|Us (cs':=[(.int .i64 0),(.int .i64 0),(.int .i64 (-1))]) a b Xx ?_);intro aX af aY ag;refine Oa (Nl<|J4y<|J9 rfl (resV.c ag rfl Qs rfl) (J8d rfl)<|J4w ?_ af.below);refine⟨_,_,rfl,?_,?_⟩
  ·exact Ku (by rw [o];rfl) (by rw [o];rfl) (by rw [o];rfl)
  ·exact J87 (Value.bool)<|(by rw [o];rfl)
 refine Ua<|Ue<|Rh<|Ol<|J42 rfl rfl (fun p=>?_)<|fun p=>?_
 ·refine Oa (Nl<|Ud<|J4v<|Uf<|Ol<|J47 (cs:=[(.int .i64 1),(.int .i64 1),(.int .i64 1)]) rfl (by kernel_rfl)<|On<|Us (cs':=[(.int .i64 1),(.int .i64 1),(.int .i64 1)]) a b Xx ?_);intro aZ ah a0 ai;refine Oa (Nl<|J4y<|J9 rfl (resV.c ai rfl Qs rfl) (J8d rfl)<|J4w ?_ ah.below);refine⟨_,_,rfl,?_,?_⟩
  ·exact Ku (by rw [p];rfl) (by rw [p];rfl) (by rw [p];rfl)
  ·exact J87 (Value.bool)<|(by rw [p];rfl)
 refine Ua<|Ug<|Ol<|J42 rfl rfl (fun r=>?_)<|fun r=>?_
 ·refine Oa (Nl<|Ud<|J4v<|Uf<|Ol<|J47 (cs:=[(.int .i64 1),(.int .i64 1),(.int .i64 1)]) rfl (by kernel_rfl)<|On<|Us (cs':=[(.int .i64 1),(.int .i64 1),(.int .i64 1)]) a b Xx ?_);intro a3 aj a4 ak;refine Oa (Nl<|J4y<|J9 rfl (resV.c ak rfl Qs rfl) (J8d rfl)<|J4w ?_ aj.below);refine⟨_,_,rfl,?_,?_⟩
  ·exact Ku (by rw [r];rfl) (by rw [r];rfl) (by rw [r];rfl)
  ·exact J87 (Value.bool)<|(by rw [r];rfl)
 refine Ua<|Ug<|Ol<|J42 rfl rfl (fun s=>?_)<|fun s=>?_
 ·refine Oa (Nl<|Ud<|J4v<|Uf<|Ol<|J47 (cs:=[(.int .i64 1),(.int .i64 1),(.int .i64 1)]) rfl (by kernel_rfl)<|On<|Us (cs':=[(.int .i64 1),(.int .i64 1),(.int .i64 1)]) a b Xx ?_);intro a5 am a6 an;refine Oa (Nl<|J4y<|J9 rfl (resV.c an rfl Qs rfl) (J8d rfl)<|J4w ?_ am.below);refine⟨_,_,rfl,?_,?_⟩
  ·exact Ku (by rw [s];rfl) (by rw [s];rfl) (by rw [s];rfl)
  ·exact J87 (Value.bool)<|(by rw [s];rfl)
 refine Ua<|Ug<|Ol<|J42 rfl rfl (fun x=>?_)<|fun x=>?_
 ·refine Oa (Nl<|Ud<|J4v<|Uf<|Ol<|J47 (cs:=[(.int .i64 1),(.int .i64 1),(.int .i64 1)]) rfl (by kernel_rfl)<|On<|Us (cs':=[(.int .i64 1),(.int .i64 1),(.int .i64 1)]) a b Xx ?_);intro a7 ao a8 aq;refine Oa (Nl<|J4y<|J9 rfl (resV.c aq rfl Qs rfl) (J8d rfl)<|J4w ?_ ao.below);refine⟨_,_,rfl,?_,?_⟩
  ·exact Ku (by rw [x];rfl) (by rw [x];rfl) (by rw [x];rfl)
  ·exact J87 (Value.bool)<|(by rw [x];rfl)
 refine Ua<|Ue<|J4u<|Ol<|J42 rfl rfl (fun y=>?_)<|fun y=>?_
 ·refine Oa (Nl<|Uf<|Ol<|J47 (cs:=[(.int .i64 1),(.int .i64 1),(.int .i64 1)]) rfl (by kernel_rfl)<|On<|Us (cs':=[(.int .i64 1),(.int .i64 1),(.int .i64 1)]) a b Xx ?_);intro a9 ar ba au;refine Oa (Nl<|J4y<|J9 rfl (resV.c au rfl Qs rfl) (J8d rfl)<|J4w ?_ ar.below);refine⟨_,_,rfl,?_,?_⟩
  ·exact Ku (by rw [y];rfl) (by rw [y];rfl) (by rw [y];rfl)
  ·exact J87 (Value.bool)<|(by rw [y];rfl)
 refine Ua<|Ug<|Ol<|J42 rfl rfl (fun A=>?_)<|fun A=>?_
 ·refine Oa (Nl<|Uf<|Ol<|J47 (cs:=[(.int .i64 0),(.int .i64 0),(.int .i64 1)]) rfl (by kernel_rfl)<|On<|Us (cs':=[(.int .i64 0),(.int .i64 0),(.int .i64 1)]) a b Xx ?_);intro bb av bc aw;refine Oa (Nl<|J4y<|J9 rfl (resV.c aw rfl Qs rfl) (J8d rfl)<|J4w ?_ av.below);refine⟨_,_,rfl,?_,?_⟩
  ·exact Ku (by rw [A];rfl) (by rw [A];rfl) (by rw [A];rfl)
  ·exact J87 (Value.bool)<|(by rw [A];rfl)
 refine Ua<|Ug<|Ol<|J42 rfl rfl (fun B=>?_)<|fun B=>?_
 ·refine Oa (Nl<|Uf<|Ol<|J47 (cs:=[(.int .i64 1),(.int .i64 1),(.int .i64 2)]) rfl (by kernel_rfl)<|On<|Us (cs':=[(.int .i64 1),(.int .i64 1),(.int .i64 2)]) a b Xx ?_);intro bd ax be ay;refine Oa (Nl<|J4y<|J9 rfl (resV.c ay rfl Qs rfl) (J8d rfl)<|J4w ?_ ax.below);refine⟨_,_,rfl,?_,?_⟩
  ·exact Ku (by rw [B];rfl) (by rw [B];rfl) (by rw [B];rfl)
  ·exact J87 (Value.bool)<|(by rw [B];rfl)
 refine Oa (Nl<|Uc<|Rg<|Ol<|J47 (cs:=[(.int .i64 0),(.int .i64 0),(.int .i64 0)]) rfl (by kernel_rfl)<|On<|Us (cs':=[(.int .i64 0),(.int .i64 0),(.int .i64 0)]) a b Xx ?_);intro bf E az F;refine Oa (Nl<|J4y<|J9 rfl (resV.c F rfl Qs rfl) (J8d rfl)<|J4w ?_ E.below);refine⟨_,_,rfl,?_,?_⟩
 ·exact Ku (by unfold sA;rw [if_neg (by omega)]) (by unfold sB;rw [if_neg (by omega)]) (by unfold sC;rw [if_neg (by omega),if_neg (by omega)])
 ·exact J87 (Value.bool)<|(J83 (by omega)).symm
theorem J0x{X:Nat→Prop}{w:World}(hX:XB X w){v0:Value}{a:GExpr}(r0:RV Jf X w v0 a)(hl:a.args.length≤60)(hok:okE a):CRt 80 #[v0] w fun v w'=>v=(.int .i64 (Kx a)):=by
 obtain⟨a1,H,A,B,D,E,I,J,rfl,e⟩:=J8e r0;have C:=J4z hX;obtain⟨bH,bI,bJ,bK⟩:=(Xq a).mp hok;have hnl:=r0.n_max;refine Cgo (args:=[(ea a a1 H A B D E I J)]) Tryz.func80 rfl rfl rfl (Rg<|Ol<|J5a C rfl ?_);intro G bL bM bN bq au bc k;refine Oa (Nl<|Rg<|Ol<|J4o Js rfl<|Ol<|J4t k pl3 rfl rfl<|Ol<|J4p au cb120 rfl rfl (Jvr au.bd) ?_);intro bO bP be av bf;replace e:=(e.sp bc).sp av;replace k:=k.spn av;obtain⟨bQ,bR,rfl,rfl,rfl⟩:=bf;refine Om (Ol<|St.extract rfl rfl<|Ol<|St.extract rfl rfl<|Ol<|J41 be Xx rfl ?_);intro L bS bT bU lt31 bg aw bh;have bi:=lt31 _ k.blk.lt;refine On (Us (cs':=[(.int .i64 (sA a.op)),(.int .i64 (sB a.op)),(.int .i64 (sC a.op))]) bg bh Xx ?_);intro bV m ax o;replace e:=(e.sp aw).sp ax;replace k:=(k.spn aw).spo ax bi;refine Ua<|J40<|J55 (fun f v=>∃ (x y:Nat→Prop),Cx X w x y v∧f 1=(.pointer (some ⟨G,0,none⟩))∧ExprParts x v a a1 H A B D E I J∧Own w y v G (ec a a1 H A B D E I J) 31∧Own w y v L [(.int .i64 (sA a.op)),(.int .i64 (sB a.op)),(.int .i64 (sC a.op))] 125∧cntOk a) ?_ ?_
 ·refine Rg<|Ol<|J5h<|J4x ⟨_,rfl,fun M=>?_,fun M=>?_⟩
  ·refine Ol<|J5n rfl<|Om<|OgD<|J4o Zb rfl<|OgD<|J4t k pl23 rfl rfl<|OgD<|St.len sl23 rfl<|OgD<|J4o Js5 rfl<|OgD<|J4t o pl3 rfl rfl<|OgD<|J5c rfl rfl (fun aE=>?_)<|fun aE=>?_
   ·refine OF (Om<|Oz<|Oz<|Oz<|Oz<|Oz<|Oz<|OT<|Om<|Oz<|Oz<|Oz<|Oz<|OyD<|OyD<|OyD<|OyD<|OyD<|OyD<|Oz<|OT ?_);exact Om<|Oz<|Oz<|Oz<|Oz<|OyD<|OyD<|OyD<|OyD<|Oz<|OT<|Nl<|Uf<|Ua<|J4y<|Wq rfl rfl m<|J87 (Value.int _)<|Q2<|Ja5<|.inr (by omega)
   refine OF<|Om<|OgD<|J4o Zb rfl<|OgD<|J4t k pl23 rfl rfl<|OgD<|St.len sl23 rfl<|OgD<|J4o Jst rfl<|OgD<|J4t o pl3 rfl rfl<|OgD<|J5o rfl rfl (fun aF=>?_)<|fun aF=>?_
   ·refine OF (Om<|Oz<|Oz<|Oz<|Oz<|OyD<|OyD<|OyD<|OyD<|OyD<|OyD<|Oz<|OT<|Om<|Oz<|Oz<|Oz<|Oz<|OyD<|OyD<|Oy rfl rfl ?_);exact OyD<|Oz<|OT<|Nl<|Uf<|Ua<|J4y<|Wq rfl rfl m<|J87 (Value.int _)<|Q2<|Ja5<|.inr (by omega)
   refine OF<|Om<|OgD<|J4o Jce rfl<|OgD<|J4t o pl3 rfl rfl<|OgD<|J50 rfl rfl (fun aG=>?_)<|fun aG=>?_
   ·refine OgD<|J4x<|OgD<|J4o J1 rfl<|OgD<|J4t k pl29 rfl rfl<|OgD<|St.len sl29 rfl<|OgD<|J4o Jce rfl<|OgD<|J4t o pl3 rfl rfl<|OgD<|J5w rfl rfl (fun aH=>?_)<|fun aH=>?_
    ·exact OgD<|J5j (t:=true) rfl<|OF<|Om<|Oz<|Oz<|Oz<|Oz<|OyD<|OyD<|OyD<|OyD<|Oz<|OT<|Nl<|Uf<|Ua<|J4y<|Wq rfl rfl m<|J87 (Value.int _)<|Q2<|Ja5<|.inr (by omega)
    refine OgD<|J5j (t:=true) rfl<|OF<|Om<|OgD<|J4o Jce rfl<|OgD<|J4t o pl3 rfl rfl<|OgD<|J5c rfl rfl (fun aI=>?_)<|fun aI=>?_
    ·refine OgD<|J4x<|OgD<|J4o J1 rfl<|OgD<|J4t k pl29 rfl rfl<|OgD<|St.len sl29 rfl<|OgD<|J5c rfl rfl (fun aJ=>?_)<|fun aJ=>?_
     ·exact OgD<|J5j (t:=true) rfl<|OF<|Nl<|Uf<|Ua<|J4y<|Wq rfl rfl m<|J87 (Value.int _)<|Q2<|Ja5<|.inr (by omega)
     refine OgD<|J5j (t:=true) rfl<|OF<|Nl<|Uc<|⟨_,_,m,rfl,e,k,o,(Jgl (by assumption) (by omega) (by omega) (fun _=>by omega) (fun _=>by omega) hl)⟩
    refine OgD<|J4x<|Oz<|Oz<|Oz<|Oz<|OgD<|J5j (t:=false) rfl<|OF<|Nl<|Uc<|⟨_,_,m,rfl,e,k,o,(Jgl (by assumption) (by omega) (by omega) (fun _=>by omega) (fun _=>by omega) hl)⟩
   refine OgD<|J4x<|Oz<|Oz<|Oz<|Oz<|Oz<|Oz<|OgD<|J5j (t:=false) rfl<|OF<|Om<|OgD<|J4o Jce rfl<|OgD<|J4t o pl3 rfl rfl<|OgD<|J5c rfl rfl (fun aK=>?_)<|fun aK=>?_
   ·refine OgD<|J4x<|OgD<|J4o J1 rfl<|OgD<|J4t k pl29 rfl rfl<|OgD<|St.len sl29 rfl<|OgD<|J5c rfl rfl (fun aL=>?_)<|fun aL=>?_
    ·exact OgD<|J5j (t:=true) rfl<|OF<|Nl<|Uf<|Ua<|J4y<|Wq rfl rfl m<|J87 (Value.int _)<|Q2<|Ja5<|.inr (by omega)
    refine OgD<|J5j (t:=true) rfl<|OF<|Nl<|Uc<|⟨_,_,m,rfl,e,k,o,(Jgl (by assumption) (by omega) (by omega) (fun _=>by omega) (fun _=>by omega) hl)⟩
   refine OgD<|J4x<|Oz<|Oz<|Oz<|Oz<|OgD<|J5j (t:=false) rfl<|OF<|Nl<|Uc<|⟨_,_,m,rfl,e,k,o,(Jgl (by assumption) (by omega) (by omega) (fun _=>by omega) (fun _=>by omega) hl)⟩
  refine Ol (J5n rfl<|Om<|Oz<|Oz<|Oz<|Oz<|Oz<|Oz<|OT<|Om<|Oz<|Oz<|Oz<|Oz<|Oz<|Oz<|OT<|Om<|Oz<|Ox rfl rfl rfl ?_);refine Oz (Oz<|OyD<|OyD<|OyD<|OyD<|OyD<|OyD<|Oz<|OT<|Om<|Oz<|Oz<|Oz<|Oz<|OyD<|OyD<|OyD<|OyD<|Oz<|OT<|Nl<|J4r rfl ?_);exact Rg<|Ua<|J4y<|Wq rfl rfl m<|J87 (Value.int _)<|Q2<|Ja5<|.inl M
 rintro bW bX ⟨bY,bZ,s,ay,e,d,g,hcn⟩;obtain⟨b0,rfl⟩:=rebK (aC ay aN);clear ay;refine J40<|J55 (fun f v=>∃ (x y:Nat→Prop),Cx X w x y v∧f 1=(.pointer (some ⟨G,0,none⟩))∧ExprParts x v a a1 H A B D E I J∧Own w y v G (ec a a1 H A B D E I J) 31∧Own w y v L [(.int .i64 (sA a.op)),(.int .i64 (sB a.op)),(.int .i64 (sC a.op))] 125∧nameOk a) ?_ ?_
 ·refine Rg<|Ol<|J4o Js rfl<|Ol<|J4t d pl3 rfl rfl<|Ol<|J42 rfl rfl (fun aM=>?_)<|fun aM=>?_
  ·refine Om (OgD<|J4o X9 rfl<|OgD<|J4t d pl9 rfl rfl<|OgD<|J5h<|J4p s cb18 rfl rfl (Jf9 s.bd) ?_);intro b1 b2 F N bj;replace e:=e.sp N;replace d:=d.spn N;replace g:=g.spn N;refine⟨_,bj,fun aO=>?_,fun aO=>?_⟩
   ·refine OgD<|J5n rfl<|OT<|Om<|OgD<|J4o Js rfl<|OgD<|J4t d pl3 rfl rfl<|OgD<|J5w rfl rfl (fun aP=>?_)<|fun aP=>?_
    ·refine OgD<|J4x<|OgD<|J4o X9 rfl<|OgD<|J4t d pl9 rfl rfl<|OgD<|J6r rfl rfl (fun aQ=>?_)<|fun aQ=>?_
     ·exact OgD<|J5j (t:=true) rfl<|OF<|Om<|Oz<|Oz<|Oz<|Oz<|OyD<|OyD<|OyD<|OyD<|Oz<|OT<|Nl<|Uf<|Ua<|J4y<|Wq rfl rfl F<|J87 (Value.int _)<|(by first | exact Xv (Jey (by first | exact .inl ⟨by assumption,by assumption⟩ | exact .inr (.inl ⟨by assumption,by assumption⟩) | exact .inr (.inr ⟨by assumption,by assumption⟩))) | (exfalso;omega))
     refine OgD<|J5j (t:=true) rfl<|OF<|Om<|OgD<|J4o Js rfl<|OgD<|J4t d pl3 rfl rfl<|OgD<|J5w rfl rfl (fun aR=>?_)<|fun aR=>?_
     ·refine OgD (J4x<|OgD<|J4o Z6 rfl<|OgD<|Uo (vs:=[(.bool a.c.num.neg),(.slice A a.c.num.mag.length B),(.bool a.c.den.neg),(.slice D a.c.den.mag.length E)]) d ag28<|OgD<|J4p F Jia rfl rfl (ye F.bd (a:=a.c) (Za e.num e.den) (by omega) (by omega)) ?_);intro b3 b4 az P bk;replace e:=e.sp P;replace d:=d.spn P;replace g:=g.spn P;subst bk;refine OgD<|J5w rfl rfl (fun aS=>?_)<|fun aS=>?_
      ·exact OgD<|J5j (t:=true) rfl<|OF<|Nl<|Uf<|Ua<|J4y<|Wq rfl rfl az<|J87 (Value.int _)<|(by first | exact Xv (Jey (by first | exact .inl ⟨by assumption,by assumption⟩ | exact .inr (.inl ⟨by assumption,by assumption⟩) | exact .inr (.inr ⟨by assumption,by assumption⟩))) | (exfalso;omega))
      refine OgD<|J5j (t:=true) rfl<|OF<|Nl<|Uc<|⟨_,_,az,rfl,e,d,g,(by first | exact(Jdd (by first | exact .inl ⟨by assumption,by assumption⟩ | exact .inr ⟨by assumption,by assumption⟩) (by first | exact .inl (by assumption) | exact .inr (by assumption))) | (exfalso;omega))⟩
     refine OgD<|J4x<|Oz<|Oz<|Oz<|Oz<|OgD<|J5j (t:=false) rfl<|OF<|Nl<|Uc<|⟨_,_,F,rfl,e,d,g,(by first | exact(Jdd (by first | exact .inl ⟨by assumption,by assumption⟩ | exact .inr ⟨by assumption,by assumption⟩) (by first | exact .inl (by assumption) | exact .inr (by assumption))) | (exfalso;omega))⟩
    refine OgD<|J4x<|Oz<|Oz<|Oz<|OgD<|J5j (t:=false) rfl<|OF<|Om<|OgD<|J4o Js rfl<|OgD<|J4t d pl3 rfl rfl<|OgD<|J5w rfl rfl (fun aT=>?_)<|fun aT=>?_
    ·refine OgD (J4x<|OgD<|J4o Z6 rfl<|OgD<|Uo (vs:=[(.bool a.c.num.neg),(.slice A a.c.num.mag.length B),(.bool a.c.den.neg),(.slice D a.c.den.mag.length E)]) d ag28<|OgD<|J4p F Jia rfl rfl (ye F.bd (a:=a.c) (Za e.num e.den) (by omega) (by omega)) ?_);intro b5 b6 aA Q bl;replace e:=e.sp Q;replace d:=d.spn Q;replace g:=g.spn Q;subst bl;refine OgD<|J5w rfl rfl (fun aU=>?_)<|fun aU=>?_
     ·exact OgD<|J5j (t:=true) rfl<|OF<|Nl<|Uf<|Ua<|J4y<|Wq rfl rfl aA<|J87 (Value.int _)<|(by first | exact Xv (Jey (by first | exact .inl ⟨by assumption,by assumption⟩ | exact .inr (.inl ⟨by assumption,by assumption⟩) | exact .inr (.inr ⟨by assumption,by assumption⟩))) | (exfalso;omega))
     refine OgD<|J5j (t:=true) rfl<|OF<|Nl<|Uc<|⟨_,_,aA,rfl,e,d,g,(by first | exact(Jdd (by first | exact .inl ⟨by assumption,by assumption⟩ | exact .inr ⟨by assumption,by assumption⟩) (by first | exact .inl (by assumption) | exact .inr (by assumption))) | (exfalso;omega))⟩
    refine OgD<|J4x<|Oz<|Oz<|Oz<|Oz<|OgD<|J5j (t:=false) rfl<|OF<|Nl<|Uc<|⟨_,_,F,rfl,e,d,g,(by first | exact(Jdd (by first | exact .inl ⟨by assumption,by assumption⟩ | exact .inr ⟨by assumption,by assumption⟩) (by first | exact .inl (by assumption) | exact .inr (by assumption))) | (exfalso;omega))⟩
   refine OgD (J5n rfl<|OT<|Om<|Oz<|Oz<|Oz<|Oz<|OyD<|OyD<|OyD<|Oz<|OT<|Om<|Oz<|Oz<|Oz<|Oz<|OyD<|OyD<|OyD<|Oy rfl rfl ?_);exact Oz<|OT<|Nl<|Uf<|Ua<|J4y<|Wq rfl rfl F<|J87 (Value.int _)<|(by first | exact Xv (Jey (by first | exact .inl ⟨by assumption,by assumption⟩ | exact .inr (.inl ⟨by assumption,by assumption⟩) | exact .inr (.inr ⟨by assumption,by assumption⟩))) | (exfalso;omega))
  refine Om<|Oz<|Oz<|Oz<|Oz<|OF<|Om<|OgD<|J4o Js rfl<|OgD<|J4t d pl3 rfl rfl<|OgD<|J5w rfl rfl (fun aV=>?_)<|fun aV=>?_
  ·refine OgD<|J4x<|OgD<|J4o X9 rfl<|OgD<|J4t d pl9 rfl rfl<|OgD<|J6r rfl rfl (fun aW=>?_)<|fun aW=>?_
   ·exact OgD<|J5j (t:=true) rfl<|OF<|Om<|Oz<|Oz<|Oz<|Oz<|OyD<|OyD<|OyD<|OyD<|Oz<|OT<|Nl<|Uf<|Ua<|J4y<|Wq rfl rfl s<|J87 (Value.int _)<|(by first | exact Xv (Jey (by first | exact .inl ⟨by assumption,by assumption⟩ | exact .inr (.inl ⟨by assumption,by assumption⟩) | exact .inr (.inr ⟨by assumption,by assumption⟩))) | (exfalso;omega))
   refine OgD<|J5j (t:=true) rfl<|OF<|Om<|OgD<|J4o Js rfl<|OgD<|J4t d pl3 rfl rfl<|OgD<|J5w rfl rfl (fun aX=>?_)<|fun aX=>?_
   ·refine OgD (J4x<|OgD<|J4o Z6 rfl<|OgD<|Uo (vs:=[(.bool a.c.num.neg),(.slice A a.c.num.mag.length B),(.bool a.c.den.neg),(.slice D a.c.den.mag.length E)]) d ag28<|OgD<|J4p s Jia rfl rfl (ye s.bd (a:=a.c) (Za e.num e.den) (by omega) (by omega)) ?_);intro b7 b8 aB R bm;replace e:=e.sp R;replace d:=d.spn R;replace g:=g.spn R;subst bm;refine OgD<|J5w rfl rfl (fun aY=>?_)<|fun aY=>?_
    ·exact OgD<|J5j (t:=true) rfl<|OF<|Nl<|Uf<|Ua<|J4y<|Wq rfl rfl aB<|J87 (Value.int _)<|(by first | exact Xv (Jey (by first | exact .inl ⟨by assumption,by assumption⟩ | exact .inr (.inl ⟨by assumption,by assumption⟩) | exact .inr (.inr ⟨by assumption,by assumption⟩))) | (exfalso;omega))
    refine OgD<|J5j (t:=true) rfl<|OF<|Nl<|Uc<|⟨_,_,aB,rfl,e,d,g,(by first | exact(Jdd (by first | exact .inl ⟨by assumption,by assumption⟩ | exact .inr ⟨by assumption,by assumption⟩) (by first | exact .inl (by assumption) | exact .inr (by assumption))) | (exfalso;omega))⟩
   refine OgD<|J4x<|Oz<|Oz<|Oz<|Oz<|OgD<|J5j (t:=false) rfl<|OF<|Nl<|Uc<|⟨_,_,s,rfl,e,d,g,(by first | exact(Jdd (by first | exact .inl ⟨by assumption,by assumption⟩ | exact .inr ⟨by assumption,by assumption⟩) (by first | exact .inl (by assumption) | exact .inr (by assumption))) | (exfalso;omega))⟩
  refine OgD<|J4x<|Oz<|Oz<|Oz<|OgD<|J5j (t:=false) rfl<|OF<|Om<|OgD<|J4o Js rfl<|OgD<|J4t d pl3 rfl rfl<|OgD<|J5w rfl rfl (fun aZ=>?_)<|fun aZ=>?_
  ·refine OgD (J4x<|OgD<|J4o Z6 rfl<|OgD<|Uo (vs:=[(.bool a.c.num.neg),(.slice A a.c.num.mag.length B),(.bool a.c.den.neg),(.slice D a.c.den.mag.length E)]) d ag28<|OgD<|J4p s Jia rfl rfl (ye s.bd (a:=a.c) (Za e.num e.den) (by omega) (by omega)) ?_);intro b9 ca aD S bn;replace e:=e.sp S;replace d:=d.spn S;replace g:=g.spn S;subst bn;refine OgD<|J5w rfl rfl (fun a0=>?_)<|fun a0=>?_
   ·exact OgD<|J5j (t:=true) rfl<|OF<|Nl<|Uf<|Ua<|J4y<|Wq rfl rfl aD<|J87 (Value.int _)<|(by first | exact Xv (Jey (by first | exact .inl ⟨by assumption,by assumption⟩ | exact .inr (.inl ⟨by assumption,by assumption⟩) | exact .inr (.inr ⟨by assumption,by assumption⟩))) | (exfalso;omega))
   refine OgD<|J5j (t:=true) rfl<|OF<|Nl<|Uc<|⟨_,_,aD,rfl,e,d,g,(by first | exact(Jdd (by first | exact .inl ⟨by assumption,by assumption⟩ | exact .inr ⟨by assumption,by assumption⟩) (by first | exact .inl (by assumption) | exact .inr (by assumption))) | (exfalso;omega))⟩
  refine OgD<|J4x<|Oz<|Oz<|Oz<|Oz<|OgD<|J5j (t:=false) rfl<|OF<|Nl<|Uc<|⟨_,_,s,rfl,e,d,g,(by first | exact(Jdd (by first | exact .inl ⟨by assumption,by assumption⟩ | exact .inr ⟨by assumption,by assumption⟩) (by first | exact .inl (by assumption) | exact .inr (by assumption))) | (exfalso;omega))⟩
 rintro cb cc ⟨cd,br,p,T,e,l,r,hnm⟩;obtain⟨bs,rfl⟩:=rebK (aC T aN);clear T;refine Rg<|Oa<|Ua<|J40<|J55 (fun f v=>∃ (x y:Nat→Prop),Cx X w x y v∧f 1=(.pointer (some ⟨G,0,none⟩))∧f 5=(.int .i64 (lA a.op))∧f 6=(.int .i64 (lB a.op))∧ExprParts x v a a1 H A B D E I J∧Own w y v G (ec a a1 H A B D E I J) 31∧Own w y v L [(.int .i64 (sA a.op)),(.int .i64 (sB a.op)),(.int .i64 (sC a.op))] 125) ?_ ?_
 ·refine Rg<|Ol<|J4o Js rfl<|Ol<|J4t l pl3 rfl rfl<|Nl<|W.block<|Rg<|Ol<|J42 rfl rfl (fun ag=>?_)<|fun ag=>?_
  ·refine Ua<|Uk<|Oa<|Ua<|⟨_,_,p,rfl,(J87 (Value.int _) (by unfold lA;(repeat' split) <;> omega)),(J87 (Value.int _) (by unfold lB;(repeat' split) <;> omega)),e,l,r⟩
  refine Ua<|Ue<|Rh<|Ol<|J42 rfl rfl (fun ah=>?_)<|fun ah=>?_
  ·refine Ua<|Ud<|J4v<|Uk<|Oa<|Ua<|⟨_,_,p,rfl,(J87 (Value.int _) (by unfold lA;(repeat' split) <;> omega)),(J87 (Value.int _) (by unfold lB;(repeat' split) <;> omega)),e,l,r⟩
  refine Ua<|Ug<|Ol<|J42 rfl rfl (fun ai=>?_)<|fun ai=>?_
  ·refine Ua<|Ud<|J4v<|Uk<|Oa<|Ua<|⟨_,_,p,rfl,(J87 (Value.int _) (by unfold lA;(repeat' split) <;> omega)),(J87 (Value.int _) (by unfold lB;(repeat' split) <;> omega)),e,l,r⟩
  refine Ua<|Ue<|J4u<|Ol<|J42 rfl rfl (fun aj=>?_)<|fun aj=>?_
  ·refine Ua<|Uk<|Oa<|Ua<|⟨_,_,p,rfl,(J87 (Value.int _) (by unfold lA;(repeat' split) <;> omega)),(J87 (Value.int _) (by unfold lB;(repeat' split) <;> omega)),e,l,r⟩
  refine Ua<|Ug<|Ol<|J42 rfl rfl (fun ak=>?_)<|fun ak=>?_
  ·refine Ua<|Uk<|Oa<|Ua<|⟨_,_,p,rfl,(J87 (Value.int _) (by unfold lA;(repeat' split) <;> omega)),(J87 (Value.int _) (by unfold lB;(repeat' split) <;> omega)),e,l,r⟩
  refine Ua<|Ug<|Ol<|J42 rfl rfl (fun am=>?_)<|fun am=>?_
  ·refine Ua<|Uk<|Ua<|⟨_,_,p,rfl,(J87 (Value.int _) (by unfold lA;(repeat' split) <;> omega)),(J87 (Value.int _) (by unfold lB;(repeat' split) <;> omega)),e,l,r⟩
  refine Ua<|Uc<|⟨_,_,p,rfl,(J87 (Value.int _) (by unfold lA;(repeat' split) <;> omega)),(J87 (Value.int _) (by unfold lB;(repeat' split) <;> omega)),e,l,r⟩
 rintro bt bu ⟨bv,bw,a4,U,V,Y,e,Z,a6⟩;obtain⟨bx,rfl⟩:=rebK (aC U<|aC V<|aC Y aN);clear U V Y;refine Rh (Ol<|J4o Zb rfl<|Ol<|J4t Z pl23 rfl rfl<|Ol<|St.len sl23 rfl<|Om<|Nl<|W.block<|J5e (fun μ f v=>∃ (x y:Nat→Prop) (i:Nat),Cx X w x y v∧f 5=(.int .i64 (lA a.op))∧f 6=(.int .i64 (lB a.op))∧f 100=(.slice a1 a.n.length H)∧f 101=(.int .i64 ((a.n.length:Nat):Int))∧f 102=(.int .i64 ((i:Nat):Int))∧ExprParts x v a a1 H A B D E I J∧Own w y v G (ec a a1 H A B D E I J) 31∧Own w y v L [(.int .i64 (sA a.op)),(.int .i64 (sB a.op)),(.int .i64 (sC a.op))] 125∧i≤a.n.length∧(∀ j,j < i→lA a.op≤a.n.getD j 0∧a.n.getD j 0≤lB a.op)∧μ=(a.n.length - i)) _ ⟨_,_,0,a4,rfl,rfl,rfl,rfl,rfl,e,Z,a6,(J9h _),(fun _ h=>absurd h<|J9m _),rfl⟩ ?_);rintro bz bA bB ⟨bC,bD,i,K,aa,ab,ac,ad,ae,e,a8,a9,hi,hall,bo⟩;obtain⟨bE,rfl⟩:=rebK (aC aa<|aC ab<|aC ac<|aC ad<|aC ae aN);clear aa ab ac ad ae;refine Rg<|Ol<|J5c rfl rfl (fun an=>?_)<|fun an=>?_
 ·refine Nl (J40<|Ud<|J4v<|J40<|W.block<|Rg<|Ol<|J49 (j:=i) (u:=(a.n.getD i 0)) e.n sl23 io3 rfl rfl rfl (Jc (by omega)) ?_);intro bF bG ao af;obtain⟨rfl,bp⟩:ao=_∧_:=af.rd;refine Ol<|J44 pl3 rfl (af.cell 0 _ rfl)<|Ua<|Rg<|Om<|Ub<|J5c rfl rfl (fun aq=>?_)<|fun aq=>?_
  ·exact Om<|Oz<|Oz<|Oz<|OT<|Nl<|Uf<|Ua<|J4y<|Wq rfl rfl K<|J87 (Value.int _)<|Jgb hcn hnm (i:=i) (by omega) (by omega)
  refine Om<|OgD<|J4x<|OgD<|J4x<|OgD<|J5o rfl rfl (fun ar=>?_)<|fun ar=>?_
  ·exact OF<|Nl<|Uf<|Ua<|J4y<|Wq rfl rfl K<|J87 (Value.int _)<|Jgb hcn hnm (i:=i) (by omega) (by omega)
  refine OF<|Nl<|Uc<|J4u<|Ol<|St.add rfl rfl (Ja (a:=i) (b:=1) (by omega))<|Om<|Nl<|⟨_,(by omega),_,_,(i+1),K,rfl,rfl,rfl,rfl,rfl,e,a8,a9,(by omega),(Xh hall ⟨by omega,by omega⟩),rfl⟩
 exact Nl<|J40<|Ue<|J5i<|Rg<|Ua<|J4y<|Wq rfl rfl K<|J87 (Value.int _)<|J0h hcn hnm (i:=i) (by omega) hall
theorem Jip(N:Nat):∀ {X:Nat→Prop} {w:World} (hX:XB X w) {J:Value} {a:GExpr} (K:RV Jf X w J a) (S:cntE a≤60) (hok:okE a) (hN:(SizeOf.sizeOf a) < N),CRt 50 #[J] w fun v w'=>v=(.int .i64 (errE a)):=by
 induction N with
 | zero=>intro X w hX J a K S hok hN;exact absurd hN<|J9m _
 | succ N ih=>
  intro X w hX J a K S hok hN;obtain⟨a1,L,M,P,Q,R,m,o,rfl,d⟩:=J8e K;have C:=J4z hX;have hal:=K.args_max;have hce:=K3 a;have hac:=zz a;refine Cgo (args:=[(ea a a1 L M P Q R m o)]) Tryz.func50 rfl rfl rfl (Rg<|Ol<|J5a C rfl ?_);intro ai ax ay az av T aj h;replace d:=d.sp aj;refine Oa (Nl<|Rh<|Ol<|Uo (vs:=(ec a a1 L M P Q R m o)) h ag31<|Ol<|J4p T cb80 rfl rfl (J0x T.bd (Mx a d) (by omega) hok) ?_);intro aA aB U V ak;replace d:=d.sp V;replace h:=h.spn V;subst ak;refine Ua<|Rg<|Ub<|J5w rfl rfl (fun g=>?_)<|fun g=>?_
  ·exact Nl<|Uf<|Om<|Ua<|J4y<|Wq rfl rfl U<|J87 (Value.int _)<|K8 rfl g
  refine Nl (Uc<|Rh<|Ol<|J4o J1 rfl<|Ol<|J4t h pl29 rfl rfl<|Ol<|St.len sl29 rfl<|Om<|Nl<|W.block<|J5e (fun μ f v=>∃ (x y:Nat→Prop) (i:Nat),Cx X w x y v∧f 13=(.slice m a.args.length o)∧f 14=(.int .i64 ((a.args.length:Nat):Int))∧f 15=(.int .i64 ((i:Nat):Int))∧ExprParts x v a a1 L M P Q R m o∧Own w y v ai (ec a a1 L M P Q R m o) 31∧i≤a.args.length∧errL (a.args.drop i)=errL a.args∧μ=(a.args.length - i)) _ ⟨_,_,0,U,rfl,rfl,rfl,d,h,(J9h _),rfl,rfl⟩ ?_);rintro aD aE aF ⟨aG,aH,i,Y,Z,aa,ab,d,e,hi,hv,au⟩;obtain⟨aI,rfl⟩:=rebK (aC Z<|aC aa<|aC ab aN);clear Z aa ab;refine Rg<|Ol<|J5c rfl rfl (fun ag=>?_)<|fun ag=>?_
  ·refine Nl (J40<|Ud<|J4v<|J40<|W.block<|Rg<|Ol<|J49 (j:=i) (u:=(Ar a i)) d.args sl29 io31 rfl rfl rfl (Jc (by omega)) ?_);intro aJ aK aw ac;obtain⟨p,r,s,A,B,D,E,F,rfl,G⟩:=Jd ac.rd;refine Ol (J5l (cs:=(ec (Ar a i) p r s A B D E F)) ag31 rfl rfl ac.cell<|Ol<|J41 Y io31 rfl ?_);intro aL aM aO aP ah am H an;have ao:=ah _ e.blk.lt;replace d:=d.sp H;replace e:=e.spn H;refine On (Us (cs':=(ec (Ar a i) p r s A B D E F)) am an io31 ?_);intro aQ ad I aq;replace G:=(G.sp H).sp I;refine Nl (Rg<|Ol<|Uo (vs:=(ec (Ar a i) p r s A B D E F)) aq ag31<|Ol<|J4p ad cb50 rfl rfl (ih ad.bd (Mx (Ar a i) G) (by have h7:=Ja3 (l:=a.args) (i:=i) (by omega);unfold Ar at *;omega) (xq hok (by omega))<|J85 (Qi (by omega))<|Nat.le_of_lt_succ hN) ?_);intro aR aS ae af ar;replace d:=(d.sp I).sp af;replace e:=(e.spo I ao).spn af;subst ar;refine Ua<|Rg<|Ub<|J5w rfl rfl (fun k=>?_)<|fun k=>?_
   ·exact Nl<|Uf<|Om<|Ua<|J4y<|Wq rfl rfl ae<|J87 (Value.int _)<|Jmz g (by omega) hv k
   refine Nl<|Uc<|J4u<|Ol<|St.add rfl rfl (Ja (a:=i) (b:=1) (by omega))<|Om<|Nl<|⟨_,(by omega),_,_,(i+1),ae,rfl,rfl,rfl,d,e,(by omega),(Jiy (by omega) hv k),rfl⟩
  exact Nl<|J40<|Ue<|J5i<|Rg<|Ua<|J4y<|Wq rfl rfl Y<|J87 (Value.int _)<|Jrh g (by omega) hv
theorem Jvq{X:Nat→Prop}{w:World}(hX:XB X w){b:Value}{a:GExpr}(e:RV Jf X w b a)(d:cntE a≤60)(hok:okE a):CRt 50 #[b] w fun v w'=>v=(.int .i64 (errE a)):=Jip ((SizeOf.sizeOf a)+1) hX e d hok (Nat.lt_succ_self _)
theorem Jfa{X:Nat→Prop}{w:World}(hX:XB X w){s:Value}{a:GExpr}(D:RV Jf X w s a)(hok:okE a):CRt 20 #[s] w fun v w'=>v=(.int .i64 (Zs a)):=by
 obtain⟨a1,j,k,l,m,o,p,r,rfl,e⟩:=J8e D;have C:=J4z hX;refine Cgo (args:=[(ea a a1 j k l m o p r)]) Tryz.func20 rfl rfl rfl (Rg<|Ol<|J5a C rfl ?_);intro F G H I E h x d;replace e:=e.sp x;refine Oa (Nl<|Rh<|Ol<|Uo (vs:=(ec a a1 j k l m o p r)) d ag31<|Ol<|J5h<|J4p h cb49 rfl rfl (Jwi h.bd<|Mx a e) ?_);intro J K g i y;replace e:=e.sp i;replace d:=d.spn i;refine⟨_,y,fun b=>?_,fun b=>?_⟩
 ·refine Ol (J5n rfl<|Nl<|Uc<|Rg<|Ol<|Uo (vs:=(ec a a1 j k l m o p r)) d ag31<|Ol<|J4p g cb50 rfl rfl (Jvq g.bd (Mx a e) (of_decide_eq_true b).1 hok) ?_);intro L M A N B;subst B;exact Ua<|J4y<|Wq rfl rfl A<|J87 (Value.int _)<|Jj5<|of_decide_eq_true b
 exact Ol<|J5n rfl<|Nl<|Uf<|Ua<|J4y<|Wq rfl rfl g<|J87 (Value.int _)<|vb<|of_decide_eq_false b
theorem Jp6{X:Nat→Prop}{w:World}(hX:XB X w){n:Int}(F:1≤n)(G:n≤18):CRt 81 #[(.int .i64 n)] w fun v w'=>∃ A B D E,v= .tuple #[A,B,D,E]∧(A=(.int .i64 (cA n)))∧(B=(.int .i64 (cB n)))∧(D=(.int .i64 (cC n)))∧(E=(.int .i64 (cD n))):=by
 have C:=J4z hX;refine Cgo (args:=[(.int .i64 n)]) Tryz.func81 rfl rfl rfl<|Rg<|Oa<|Oa<|Oa<|Ua<|Rh<|Om<|Nl<|W.block<|Rh<|Ol<|J42 rfl rfl (fun j=>?_)<|fun j=>?_
 ·refine Oa (Nl<|Ud<|J4v<|Uf<|Oa<|Oa<|Oa<|Ua<|J4y<|Q7 rfl (J8d rfl) (J8d rfl) (J8d rfl) (J8d rfl)<|J4w ?_ C.below);refine⟨_,_,_,_,rfl,?_,?_,?_,?_⟩
  ·exact J87 (Value.int _)<|(by rw [j];rfl)
  ·exact J87 (Value.int _)<|(by rw [j];rfl)
  ·exact J87 (Value.int _)<|(by rw [j];rfl)
  ·exact J87 (Value.int _)<|(by rw [j];rfl)
 refine Ua<|Ug<|Ol<|J42 rfl rfl (fun k=>?_)<|fun k=>?_
 ·refine Oa (Nl<|Ud<|J4v<|Uf<|Oa<|Oa<|Oa<|Ua<|J4y<|Q7 rfl (J8d rfl) (J8d rfl) (J8d rfl) (J8d rfl)<|J4w ?_ C.below);refine⟨_,_,_,_,rfl,?_,?_,?_,?_⟩
  ·exact J87 (Value.int _)<|(by rw [k];rfl)
  ·exact J87 (Value.int _)<|(by rw [k];rfl)
  ·exact J87 (Value.int _)<|(by rw [k];rfl)
  ·exact J87 (Value.int _)<|(by rw [k];rfl)
 refine Ua<|Ug<|Ol<|J42 rfl rfl (fun l=>?_)<|fun l=>?_
 ·refine Oa (Nl<|Ud<|J4v<|Uf<|Oa<|Oa<|Oa<|Ua<|J4y<|Q7 rfl (J8d rfl) (J8d rfl) (J8d rfl) (J8d rfl)<|J4w ?_ C.below);refine⟨_,_,_,_,rfl,?_,?_,?_,?_⟩
  ·exact J87 (Value.int _)<|(by rw [l];rfl)
  ·exact J87 (Value.int _)<|(by rw [l];rfl)
  ·exact J87 (Value.int _)<|(by rw [l];rfl)
  ·exact J87 (Value.int _)<|(by rw [l];rfl)
 refine Ua<|Ue<|J4u<|Ol<|J42 rfl rfl (fun m=>?_)<|fun m=>?_
 ·refine Oa (Nl<|Uf<|Oa<|Oa<|Oa<|Ua<|J4y<|Q7 rfl (J8d rfl) (J8d rfl) (J8d rfl) (J8d rfl)<|J4w ?_ C.below);refine⟨_,_,_,_,rfl,?_,?_,?_,?_⟩
  ·exact J87 (Value.int _)<|(by rw [m];rfl)
  ·exact J87 (Value.int _)<|(by rw [m];rfl)
  ·exact J87 (Value.int _)<|(by rw [m];rfl)
  ·exact J87 (Value.int _)<|(by rw [m];rfl)
 refine Ua<|Ug<|Ol<|J42 rfl rfl (fun o=>?_)<|fun o=>?_
 ·refine Oa (Nl<|Uf<|Oa<|Oa<|Oa<|Ua<|J4y<|Q7 rfl (J8d rfl) (J8d rfl) (J8d rfl) (J8d rfl)<|J4w ?_ C.below);refine⟨_,_,_,_,rfl,?_,?_,?_,?_⟩
  ·exact J87 (Value.int _)<|(by rw [o];rfl)
  ·exact J87 (Value.int _)<|(by rw [o];rfl)
  ·exact J87 (Value.int _)<|(by rw [o];rfl)
  ·exact J87 (Value.int _)<|(by rw [o];rfl)
 refine Ua<|Ue<|Rh<|Ol<|J42 rfl rfl (fun p=>?_)<|fun p=>?_
 ·refine Oa (Nl<|Ud<|J4v<|Uf<|Oa<|Oa<|Oa<|Ua<|J4y<|Q7 rfl (J8d rfl) (J8d rfl) (J8d rfl) (J8d rfl)<|J4w ?_ C.below);refine⟨_,_,_,_,rfl,?_,?_,?_,?_⟩
  ·exact J87 (Value.int _)<|(by rw [p];rfl)
  ·exact J87 (Value.int _)<|(by rw [p];rfl)
  ·exact J87 (Value.int _)<|(by rw [p];rfl)
  ·exact J87 (Value.int _)<|(by rw [p];rfl)
 refine Ua<|Ue<|J4u<|Ol<|J42 rfl rfl (fun r=>?_)<|fun r=>?_
 ·refine Oa (Nl<|Uf<|Oa<|Oa<|Oa<|Ua<|J4y<|Q7 rfl (J8d rfl) (J8d rfl) (J8d rfl) (J8d rfl)<|J4w ?_ C.below);refine⟨_,_,_,_,rfl,?_,?_,?_,?_⟩
  ·exact J87 (Value.int _)<|(by rw [r];rfl)
  ·exact J87 (Value.int _)<|(by rw [r];rfl)
  ·exact J87 (Value.int _)<|(by rw [r];rfl)
  ·exact J87 (Value.int _)<|(by rw [r];rfl)
 refine Ua<|Ug<|Ol<|J42 rfl rfl (fun s=>?_)<|fun s=>?_
 ·refine Oa (Nl<|Uf<|Oa<|Oa<|Oa<|Ua<|J4y<|Q7 rfl (J8d rfl) (J8d rfl) (J8d rfl) (J8d rfl)<|J4w ?_ C.below);refine⟨_,_,_,_,rfl,?_,?_,?_,?_⟩
  ·exact J87 (Value.int _)<|(by rw [s];rfl)
  ·exact J87 (Value.int _)<|(by rw [s];rfl)
  ·exact J87 (Value.int _)<|(by rw [s];rfl)
  ·exact J87 (Value.int _)<|(by rw [s];rfl)
 refine Ua<|Ug<|Ol<|J42 rfl rfl (fun x=>?_)<|fun x=>?_
 ·refine Oa (Nl<|Uf<|Oa<|Oa<|Oa<|Ua<|J4y<|Q7 rfl (J8d rfl) (J8d rfl) (J8d rfl) (J8d rfl)<|J4w ?_ C.below);refine⟨_,_,_,_,rfl,?_,?_,?_,?_⟩
  ·exact J87 (Value.int _)<|(by rw [x];rfl)
  ·exact J87 (Value.int _)<|(by rw [x];rfl)
  ·exact J87 (Value.int _)<|(by rw [x];rfl)
  ·exact J87 (Value.int _)<|(by rw [x];rfl)
 refine Ua<|Ue<|Rh<|Ol<|J42 rfl rfl (fun a=>?_)<|fun a=>?_
 ·refine Oa (Nl<|Ud<|J4v<|Uf<|Oa<|Oa<|Oa<|Ua<|J4y<|Q7 rfl (J8d rfl) (J8d rfl) (J8d rfl) (J8d rfl)<|J4w ?_ C.below);refine⟨_,_,_,_,rfl,?_,?_,?_,?_⟩
  ·exact J87 (Value.int _)<|(by rw [a];rfl)
  ·exact J87 (Value.int _)<|(by rw [a];rfl)
  ·exact J87 (Value.int _)<|(by rw [a];rfl)
  ·exact J87 (Value.int _)<|(by rw [a];rfl)
 refine Ua<|Ue<|J4u<|Ol<|J42 rfl rfl (fun b=>?_)<|fun b=>?_
 ·refine Oa (Nl<|Uf<|Oa<|Oa<|Oa<|Ua<|J4y<|Q7 rfl (J8d rfl) (J8d rfl) (J8d rfl) (J8d rfl)<|J4w ?_ C.below);refine⟨_,_,_,_,rfl,?_,?_,?_,?_⟩
  ·exact J87 (Value.int _)<|(by rw [b];rfl)
  ·exact J87 (Value.int _)<|(by rw [b];rfl)
  ·exact J87 (Value.int _)<|(by rw [b];rfl)
  ·exact J87 (Value.int _)<|(by rw [b];rfl)
 refine Ua<|Ue<|Rh<|Ol<|J42 rfl rfl (fun d=>?_)<|fun d=>?_
 ·refine Oa (Nl<|Ud<|J4v<|Uf<|Oa<|Oa<|Oa<|Ua<|J4y<|Q7 rfl (J8d rfl) (J8d rfl) (J8d rfl) (J8d rfl)<|J4w ?_ C.below);refine⟨_,_,_,_,rfl,?_,?_,?_,?_⟩
  ·exact J87 (Value.int _)<|(by rw [d];rfl)
  ·exact J87 (Value.int _)<|(by rw [d];rfl)
  ·exact J87 (Value.int _)<|(by rw [d];rfl)
  ·exact J87 (Value.int _)<|(by rw [d];rfl)
 refine Ua<|Ug<|Ol<|J42 rfl rfl (fun e=>?_)<|fun e=>?_
 ·refine Oa (Nl<|Ud<|J4v<|Uf<|Oa<|Oa<|Oa<|Ua<|J4y<|Q7 rfl (J8d rfl) (J8d rfl) (J8d rfl) (J8d rfl)<|J4w ?_ C.below);refine⟨_,_,_,_,rfl,?_,?_,?_,?_⟩
  ·exact J87 (Value.int _)<|(by rw [e];rfl)
  ·exact J87 (Value.int _)<|(by rw [e];rfl)
  ·exact J87 (Value.int _)<|(by rw [e];rfl)
  ·exact J87 (Value.int _)<|(by rw [e];rfl)
 refine Ua<|Ug<|Ol<|J42 rfl rfl (fun g=>?_)<|fun g=>?_
 ·refine Oa (Nl<|Ud<|J4v<|Uf<|Oa<|Oa<|Oa<|Ua<|J4y<|Q7 rfl (J8d rfl) (J8d rfl) (J8d rfl) (J8d rfl)<|J4w ?_ C.below);refine⟨_,_,_,_,rfl,?_,?_,?_,?_⟩
  ·exact J87 (Value.int _)<|(by rw [g];rfl)
  ·exact J87 (Value.int _)<|(by rw [g];rfl)
  ·exact J87 (Value.int _)<|(by rw [g];rfl)
  ·exact J87 (Value.int _)<|(by rw [g];rfl)
 refine Ua<|Ug<|Ol<|J42 rfl rfl (fun h=>?_)<|fun h=>?_
 ·refine Oa (Nl<|Ud<|J4v<|Uf<|Oa<|Oa<|Oa<|Ua<|J4y<|Q7 rfl (J8d rfl) (J8d rfl) (J8d rfl) (J8d rfl)<|J4w ?_ C.below);refine⟨_,_,_,_,rfl,?_,?_,?_,?_⟩
  ·exact J87 (Value.int _)<|(by rw [h];rfl)
  ·exact J87 (Value.int _)<|(by rw [h];rfl)
  ·exact J87 (Value.int _)<|(by rw [h];rfl)
  ·exact J87 (Value.int _)<|(by rw [h];rfl)
 refine Ua<|Ue<|J4u<|Ol<|J42 rfl rfl (fun i=>?_)<|fun i=>?_
 ·refine Oa (Nl<|Uf<|Oa<|Oa<|Oa<|Ua<|J4y<|Q7 rfl (J8d rfl) (J8d rfl) (J8d rfl) (J8d rfl)<|J4w ?_ C.below);refine⟨_,_,_,_,rfl,?_,?_,?_,?_⟩
  ·exact J87 (Value.int _)<|(by rw [i];rfl)
  ·exact J87 (Value.int _)<|(by rw [i];rfl)
  ·exact J87 (Value.int _)<|(by rw [i];rfl)
  ·exact J87 (Value.int _)<|(by rw [i];rfl)
 refine Ua<|Ug<|Ol<|J42 rfl rfl (fun y=>?_)<|fun y=>?_
 ·refine Oa (Nl<|Uf<|Oa<|Oa<|Oa<|Ua<|J4y<|Q7 rfl (J8d rfl) (J8d rfl) (J8d rfl) (J8d rfl)<|J4w ?_ C.below);refine⟨_,_,_,_,rfl,?_,?_,?_,?_⟩
  ·exact J87 (Value.int _)<|(by unfold cA;(repeat' split) <;> omega)
  ·exact J87 (Value.int _)<|(by unfold cB;(repeat' split) <;> omega)
  ·exact J87 (Value.int _)<|(by unfold cC;(repeat' split) <;> omega)
  ·exact J87 (Value.int _)<|(by unfold cD;(repeat' split) <;> omega)
 refine Oa (Nl<|Uc<|Rg<|Oa<|Oa<|Oa<|Ua<|J4y<|Q7 rfl (J8d rfl) (J8d rfl) (J8d rfl) (J8d rfl)<|J4w ?_ C.below);refine⟨_,_,_,_,rfl,?_,?_,?_,?_⟩
 ·exact J87 (Value.int _)<|(by unfold cA;(repeat' split) <;> omega)
 ·exact J87 (Value.int _)<|(by unfold cB;(repeat' split) <;> omega)
 ·exact J87 (Value.int _)<|(by unfold cC;(repeat' split) <;> omega)
 ·exact J87 (Value.int _)<|(by unfold cD;(repeat' split) <;> omega)
theorem Jo9{X:Nat→Prop}{w:World}(hX:XB X w){n:Int}  :CRt 83 #[(.int .i64 n)] w fun v w'=>∃ h i,v= .tuple #[h,i]∧(h=(.int .i64 (lA n)))∧(i=(.int .i64 (lB n))):=by
 have C:=J4z hX;refine Cgo (args:=[(.int .i64 n)]) Tryz.func83 rfl rfl rfl<|Rg<|Oa<|Ua<|Rh<|Om<|Nl<|W.block<|Rg<|Ol<|J42 rfl rfl (fun a=>?_)<|fun a=>?_
 ·refine Oa (Nl<|Uf<|Oa<|Ua<|J4y<|J9 rfl (J8d rfl) (J8d rfl)<|J4w ?_ C.below);refine⟨_,_,rfl,?_,?_⟩
  ·exact J87 (Value.int _)<|(by rw [a];rfl)
  ·exact J87 (Value.int _)<|(by rw [a];rfl)
 refine Ua<|Ue<|Rh<|Ol<|J42 rfl rfl (fun b=>?_)<|fun b=>?_
 ·refine Oa (Nl<|Ud<|J4v<|Uf<|Oa<|Ua<|J4y<|J9 rfl (J8d rfl) (J8d rfl)<|J4w ?_ C.below);refine⟨_,_,rfl,?_,?_⟩
  ·exact J87 (Value.int _)<|(by rw [b];rfl)
  ·exact J87 (Value.int _)<|(by rw [b];rfl)
 refine Ua<|Ug<|Ol<|J42 rfl rfl (fun d=>?_)<|fun d=>?_
 ·refine Oa (Nl<|Ud<|J4v<|Uf<|Oa<|Ua<|J4y<|J9 rfl (J8d rfl) (J8d rfl)<|J4w ?_ C.below);refine⟨_,_,rfl,?_,?_⟩
  ·exact J87 (Value.int _)<|(by rw [d];rfl)
  ·exact J87 (Value.int _)<|(by rw [d];rfl)
 refine Ua<|Ue<|J4u<|Ol<|J42 rfl rfl (fun e=>?_)<|fun e=>?_
 ·refine Oa (Nl<|Uf<|Oa<|Ua<|J4y<|J9 rfl (J8d rfl) (J8d rfl)<|J4w ?_ C.below);refine⟨_,_,rfl,?_,?_⟩
  ·exact J87 (Value.int _)<|(by rw [e];rfl)
  ·exact J87 (Value.int _)<|(by rw [e];rfl)
 refine Ua<|Ug<|Ol<|J42 rfl rfl (fun g=>?_)<|fun g=>?_
 ·refine Oa (Nl<|Uf<|Oa<|Ua<|J4y<|J9 rfl (J8d rfl) (J8d rfl)<|J4w ?_ C.below);refine⟨_,_,rfl,?_,?_⟩
  ·exact J87 (Value.int _)<|(by rw [g];rfl)
  ·exact J87 (Value.int _)<|(by rw [g];rfl)
 refine Ua<|Ug<|Ol<|J42 rfl rfl (fun j=>?_)<|fun j=>?_
 ·refine Oa (Nl<|Uf<|Oa<|Ua<|J4y<|J9 rfl (J8d rfl) (J8d rfl)<|J4w ?_ C.below);refine⟨_,_,rfl,?_,?_⟩
  ·exact J87 (Value.int _)<|(by unfold lA;(repeat' split) <;> omega)
  ·exact J87 (Value.int _)<|(by unfold lB;(repeat' split) <;> omega)
 refine Oa (Nl<|Uc<|Rg<|Oa<|Ua<|J4y<|J9 rfl (J8d rfl) (J8d rfl)<|J4w ?_ C.below);refine⟨_,_,rfl,?_,?_⟩
 ·exact J87 (Value.int _)<|(by unfold lA;(repeat' split) <;> omega)
 ·exact J87 (Value.int _)<|(by unfold lB;(repeat' split) <;> omega)
theorem Job(N:Nat):∀ {X:Nat→Prop} {w:World} (hX:XB X w) {v0:Value} {a:GExpr} (R:RV Jf X w v0 a) (ax:cntE a≤60) (hok:okE a) (hN:(SizeOf.sizeOf a) < N),CRt 53 #[v0] w fun v w'=>v=(.int .i64 (errE a)):=by
 induction N with
 | zero=>intro X w hX v0 a R ax hok hN;exact absurd hN<|J9m _
 | succ N ih=>
  intro X w hX v0 a R ax hok hN;obtain⟨a1,o,p,r,A,B,E,F,rfl,d⟩:=J8e R;have C:=J4z hX;have hal:=R.args_max;obtain⟨ch,ci,cj,ck⟩:=(Xq a).mp hok;have hce:=K3 a;have hac:=zz a;have hnl:=R.n_max;refine Cgo (args:=[(ea a a1 o p r A B E F)]) Tryz.func53 rfl rfl rfl (Rg<|Ol<|J5a C rfl ?_);intro m cl cm cn bI S bj T;replace d:=d.sp bj;refine Ua<|J40<|J55 (fun f v=>∃ (x y:Nat→Prop),Cx X w x y v∧f 1=(.pointer (some ⟨m,0,none⟩))∧ExprParts x v a a1 o p r A B E F∧Own w y v m (ec a a1 o p r A B E F) 31∧1≤a.op∧a.op≤18) ?_ ?_
  ·refine Rg<|Ol<|J4o Js rfl<|Ol<|J4t T pl3 rfl rfl<|Ol<|J5c rfl rfl (fun aK=>?_)<|fun aK=>?_
   ·exact Om<|Oz<|Oz<|Oz<|OT<|Nl<|Uf<|Ua<|J4y<|Wq rfl rfl S<|J87 (Value.int _)<|K8 (Q2 fun c=>by have:=c.o1;have:=c.o2;omega) (by decide)
   refine Om<|OgD<|J4o Js rfl<|OgD<|J4t T pl3 rfl rfl<|OgD<|J5o rfl rfl (fun aL=>?_)<|fun aL=>?_
   ·exact OF<|Nl<|Uf<|Ua<|J4y<|Wq rfl rfl S<|J87 (Value.int _)<|K8 (Q2 fun c=>by have:=c.o1;have:=c.o2;omega) (by decide)
   refine OF<|Nl<|Uc<|⟨_,_,S,rfl,d,T,(by omega),(by omega)⟩
  rintro co cp ⟨cq,cr,ay,az,d,G,aA,aB⟩;obtain⟨ct,rfl⟩:=rebK (aC az aN);clear az;refine Rg (Ol<|J4o Js rfl<|Ol<|J4t G pl3 rfl rfl<|Ol<|J4p ay cb81 rfl rfl (Jp6 ay.bd aA aB) ?_);intro cu cv P aD bk;replace d:=d.sp aD;replace G:=G.spn aD;obtain⟨cw,cx,cy,cz,rfl,rfl,rfl,rfl,rfl⟩:=bk;refine Ub<|St.extract rfl rfl<|Ol<|St.extract rfl rfl<|Ol<|St.extract rfl rfl<|Ol<|St.extract rfl rfl<|Oa<|Oa<|Oa<|Ua<|J40<|J55 (fun f v=>∃ (x y:Nat→Prop),Cx X w x y v∧f 1=(.pointer (some ⟨m,0,none⟩))∧ExprParts x v a a1 o p r A B E F∧Own w y v m (ec a a1 o p r A B E F) 31∧cntOk a) ?_ ?_
  ·refine Rg<|Ol<|J4o Zb rfl<|Ol<|J4t G pl23 rfl rfl<|Ol<|St.len sl23 rfl<|Ub<|J5c rfl rfl (fun aM=>?_)<|fun aM=>?_
   ·refine Om (Oz<|Oz<|Oz<|Oz<|Oz<|OT<|Om<|Oz<|Oz<|Oz<|Oz<|Oz<|OT<|Om<|Oz<|Oz<|Oz<|Oz<|Ox rfl rfl rfl ?_);exact OT<|Nl<|Uf<|Ua<|J4y<|Wq rfl rfl P<|J87 (Value.int _)<|K8 (Q2 fun c=>by have:=c.n1;have:=c.n2;have:=c.a1;have:=c.a2;omega) (by decide)
   refine Om<|OgD<|J4o Zb rfl<|OgD<|J4t G pl23 rfl rfl<|OgD<|St.len sl23 rfl<|OgD<|J4x<|OgD<|J5o rfl rfl (fun aO=>?_)<|fun aO=>?_
   ·refine OF (Om<|Oz<|Oz<|Oz<|Oz<|Oz<|OT<|Om<|Oz<|Oz<|Oz<|Oz<|Oz<|OT<|Nl<|Uf<|Oa<|Nl ?_);exact J4y<|Wq rfl rfl P<|J87 (Value.int _)<|K8 (Q2 fun c=>by have:=c.n1;have:=c.n2;have:=c.a1;have:=c.a2;omega) (by decide)
   refine OF<|Om<|OgD<|J4o J1 rfl<|OgD<|J4t G pl29 rfl rfl<|OgD<|St.len sl29 rfl<|OgD<|J4x<|OgD<|J5c rfl rfl (fun aP=>?_)<|fun aP=>?_
   ·exact OF<|Om<|Oz<|Oz<|Oz<|Oz<|Oz<|OT<|Nl<|Uf<|Ua<|J4y<|Wq rfl rfl P<|J87 (Value.int _)<|K8 (Q2 fun c=>by have:=c.n1;have:=c.n2;have:=c.a1;have:=c.a2;omega) (by decide)
   refine OF<|Om<|OgD<|J4o J1 rfl<|OgD<|J4t G pl29 rfl rfl<|OgD<|St.len sl29 rfl<|OgD<|J4x<|OgD<|J5o rfl rfl (fun aQ=>?_)<|fun aQ=>?_
   ·exact OF<|Nl<|Uf<|Ua<|J4y<|Wq rfl rfl P<|J87 (Value.int _)<|K8 (Q2 fun c=>by have:=c.n1;have:=c.n2;have:=c.a1;have:=c.a2;omega) (by decide)
   refine OF<|Nl<|Uc<|⟨_,_,P,rfl,d,G,⟨aA,aB,by omega,by omega,by omega,by omega⟩⟩
  rintro cE cF ⟨cG,cH,bl,aE,d,g,hcn⟩;obtain⟨cI,rfl⟩:=rebK (aC aE aN);clear aE;refine J40<|J55 (fun f v=>∃ (x y:Nat→Prop),Cx X w x y v∧f 1=(.pointer (some ⟨m,0,none⟩))∧ExprParts x v a a1 o p r A B E F∧Own w y v m (ec a a1 o p r A B E F) 31∧nameOk a) ?_ ?_
  ·refine J40<|J5g mixed 6 [[],[0],[1],[],[3],[4]] bl [fx<|.pointer (some ⟨m,0,none⟩),fx<|.int .i64 a.op,fx<|.bool (decide<|a.op=8),fx<|.pointer (some ⟨m,6,none⟩),fx<|str a.name,fx<|.bool (Kc a.name)] (by kernel_rfl) ⟨sx,sx,sx,sx,sx,sx,trivial⟩ fun bm J cJ ⟨k,aF⟩ D=>?_
   replace d:=d.sp aF;replace g:=g.spn aF;have D:Keep [54,55,56,57,58,59] _ bm:=D;refine⟨⟨fun _=>?_,fun⟨bn,_⟩=>?_,fun⟨bo,_⟩=>?_,fun _=>?_,fun⟨bp,_⟩=>?_,fun⟨bq,_⟩=>?_,trivial⟩,fun⟨br,bs,bt,bu,bv,bw,_⟩=>?_⟩
   ·exact Sd0 D fun _=>J4o Js rfl ⟨J,J4q k,rfl⟩
   ·exact Sd1 D bn fun _=>J4t g pl3 rfl rfl ⟨J,J4q k,rfl⟩
   ·exact Sd1 D bo fun _=>J5y rfl rfl rfl ⟨J,J4q k,rfl⟩
   ·exact Sd0 D fun _=>J4o X9 rfl ⟨J,J4q k,rfl⟩
   ·exact Sd1 D bp fun _=>J4t g pl9 rfl rfl ⟨J,J4q k,rfl⟩
   ·refine Sd1 D bq fun _=>J4p k cb19 rfl rfl (Jo6 k.bd (by omega)) ?_;intro cK cL bx bz bA;exact⟨J,⟨bx,bz⟩,bA⟩
   obtain⟨cM,rfl⟩:=mixK D (aC br<|aC bs<|aC bt<|aC bu<|aC bv<|aC bw aN);refine Ol<|J5h<|J6m un4 rfl rfl rfl ⟨_,rfl,fun aR=>?_,fun aR=>?_⟩
   ·refine Om (Oz<|Oz<|Oz<|Oz<|OyD<|OyD<|OyD<|Oz<|OT<|Om<|Oz<|Oz<|Oz<|Oz<|OyD<|OyD<|OyD<|OyD<|Oz<|OT<|Nl ?_);exact Uf<|Ua<|J4y<|Wq rfl rfl k<|J87 (Value.int _)<|K8 (Xv fun c=>by have c1:=c.e;have o:=c.s;have c3:=c.c;simp_all) (by decide)
   refine Om<|OgD<|J4o Js rfl<|OgD<|J4t g pl3 rfl rfl<|OgD<|J5w rfl rfl (fun aU=>?_)<|fun aU=>?_
   ·refine OgD<|J4x<|OgD<|J4o X9 rfl<|OgD<|J4t g pl9 rfl rfl<|OgD<|J6r rfl rfl (fun aV=>?_)<|fun aV=>?_
    ·exact OgD<|J5j (t:=true) rfl<|OF<|Om<|Oz<|Oz<|Oz<|Oz<|OyD<|OyD<|OyD<|OyD<|Oz<|OT<|Nl<|Uf<|Ua<|J4y<|Wq rfl rfl k<|J87 (Value.int _)<|K8 (Xv fun c=>by have c1:=c.e;have o:=c.s;have c3:=c.c;simp_all) (by decide)
    refine OgD<|J5j (t:=true) rfl<|OF<|Om<|OgD<|J4o Js rfl<|OgD<|J4t g pl3 rfl rfl<|OgD<|J5w rfl rfl (fun aW=>?_)<|fun aW=>?_
    ·refine OgD (J4x<|OgD<|J4o Z6 rfl<|OgD<|Uo (vs:=[(.bool a.c.num.neg),(.slice p a.c.num.mag.length r),(.bool a.c.den.neg),(.slice A a.c.den.mag.length B)]) g ag28<|OgD<|J4p k cb82 rfl rfl (xj k.bd (a:=a.c) (Za d.num d.den) (by omega) (by omega)) ?_);intro cN cO aG aH bB;replace d:=d.sp aH;replace g:=g.spn aH;subst bB;refine OgD<|J5w rfl rfl (fun aX=>?_)<|fun aX=>?_
     ·exact OgD<|J5j (t:=true) rfl<|OF<|Nl<|Uf<|Ua<|J4y<|Wq rfl rfl aG<|J87 (Value.int _)<|K8 (Xv fun c=>by have c1:=c.e;have o:=c.s;have c3:=c.c;simp_all) (by decide)
     refine OgD<|J5j (t:=true) rfl<|OF<|Nl<|Uc<|⟨_,_,aG,rfl,d,g,(by refine⟨?_,?_,?_⟩ <;> simp_all)⟩
    refine OgD<|J4x<|Oz<|Oz<|Oz<|Oz<|OgD<|J5j (t:=false) rfl<|OF<|Nl<|Uc<|⟨_,_,k,rfl,d,g,(by refine⟨?_,?_,?_⟩ <;> simp_all)⟩
   refine OgD<|J4x<|Oz<|Oz<|Oz<|OgD<|J5j (t:=false) rfl<|OF<|Om<|OgD<|J4o Js rfl<|OgD<|J4t g pl3 rfl rfl<|OgD<|J5w rfl rfl (fun aY=>?_)<|fun aY=>?_
   ·refine OgD (J4x<|OgD<|J4o Z6 rfl<|OgD<|Uo (vs:=[(.bool a.c.num.neg),(.slice p a.c.num.mag.length r),(.bool a.c.den.neg),(.slice A a.c.den.mag.length B)]) g ag28<|OgD<|J4p k cb82 rfl rfl (xj k.bd (a:=a.c) (Za d.num d.den) (by omega) (by omega)) ?_);intro cP cQ aI aJ bC;replace d:=d.sp aJ;replace g:=g.spn aJ;subst bC;refine OgD<|J5w rfl rfl (fun an=>?_)<|fun an=>?_
    ·exact OgD<|J5j (t:=true) rfl<|OF<|Nl<|Uf<|Ua<|J4y<|Wq rfl rfl aI<|J87 (Value.int _)<|K8 (Xv fun c=>by have c1:=c.e;have o:=c.s;have c3:=c.c;simp_all) (by decide)
    refine OgD<|J5j (t:=true) rfl<|OF<|Nl<|Uc<|⟨_,_,aI,rfl,d,g,(by refine⟨?_,?_,?_⟩ <;> simp_all)⟩
   refine OgD<|J4x<|Oz<|Oz<|Oz<|Oz<|OgD<|J5j (t:=false) rfl<|OF<|Nl<|Uc<|⟨_,_,k,rfl,d,g,(by refine⟨?_,?_,?_⟩ <;> simp_all)⟩
  rintro bJ bK ⟨bL,bM,U,V,d,K,hnm⟩;obtain⟨bN,rfl⟩:=rebK (aC V aN);clear V;refine Rg (Ol<|J4o Js rfl<|Ol<|J4t K pl3 rfl rfl<|Ol<|J4p U cb83 rfl rfl (Jo9 U.bd) ?_);intro bO bP aZ Y a0;replace d:=d.sp Y;replace K:=K.spn Y;obtain⟨bQ,bR,rfl,rfl,rfl⟩:=a0;refine Ub<|St.extract rfl rfl<|Ol<|St.extract rfl rfl<|Oa<|Ua<|J40<|J55 (fun f v=>∃ (x y:Nat→Prop),Cx X w x y v∧f 1=(.pointer (some ⟨m,0,none⟩))∧ExprParts x v a a1 o p r A B E F∧Own w y v m (ec a a1 o p r A B E F) 31∧Kx a=0) ?_ ?_
  ·refine Rg (Ua<|W.block<|J5e (fun μ f v=>∃ (x y:Nat→Prop) (i:Nat),Cx X w x y v∧f 1=(.pointer (some ⟨m,0,none⟩))∧f 7=(.int .i64 (lA a.op))∧f 8=(.int .i64 (lB a.op))∧f 9=(.int .i64 ((i:Nat):Int))∧ExprParts x v a a1 o p r A B E F∧Own w y v m (ec a a1 o p r A B E F) 31∧i≤a.n.length∧(∀ j,j < i→lA a.op≤a.n.getD j 0∧a.n.getD j 0≤lB a.op)∧μ=(a.n.length - i)) _ ⟨_,_,0,aZ,rfl,rfl,rfl,rfl,d,K,(J9h _),(fun _ h=>absurd h<|J9m _),rfl⟩ ?_);rintro bS bT bU ⟨bV,bW,i,L,Z,aa,ab,ac,d,H,hi,hall,bD⟩;obtain⟨bX,rfl⟩:=rebK (aC Z<|aC aa<|aC ab<|aC ac aN);clear Z aa ab ac;refine Rh<|Ub<|J4o Zb rfl<|Ol<|J4t H pl23 rfl rfl<|Ol<|St.len sl23 rfl<|Ol<|J5c rfl rfl (fun ao=>?_)<|fun ao=>?_
   ·refine Nl (Ud<|J4v<|J40<|W.block<|Rg<|Ol<|J4o Zb rfl<|Ol<|J4t H pl23 rfl rfl<|Ub<|J49 (j:=i) (u:=(a.n.getD i 0)) d.n sl23 io3 rfl rfl rfl (Jc (by omega)) ?_);intro bY bZ aq ad;obtain⟨rfl,bF⟩:aq=_∧_:=ad.rd;refine Ol<|J44 pl3 rfl (ad.cell 0 _ rfl)<|Ub<|J5c rfl rfl (fun ar=>?_)<|fun ar=>?_
    ·exact Om<|Oz<|Oz<|Oz<|Oz<|Oz<|Oz<|Oz<|OT<|Nl<|Uf<|Ua<|J4y<|Wq rfl rfl L<|J87 (Value.int _)<|K8 (Jgb hcn hnm (i:=i) (by omega) (by omega)) (by decide)
    refine Om (OgD<|J4o Zb rfl<|OgD<|J4t H pl23 rfl rfl<|OgD<|J4x<|OgD<|J49 (j:=i) (u:=(a.n.getD i 0)) d.n sl23 io3 rfl rfl rfl (Jc (by omega)) ?_);intro b0 b1 au ae;obtain⟨rfl,bG⟩:au=_∧_:=ae.rd;refine OgD<|J44 pl3 rfl (ae.cell 0 _ rfl)<|OgD<|J4x<|OgD<|J5o rfl rfl (fun av=>?_)<|fun av=>?_
    ·exact OF<|Nl<|Uf<|Ua<|J4y<|Wq rfl rfl L<|J87 (Value.int _)<|K8 (Jgb hcn hnm (i:=i) (by omega) (by omega)) (by decide)
    refine OF<|Nl<|Uc<|J4u<|Ub<|St.add rfl rfl (Ja (a:=i) (b:=1) (by omega))<|Ua<|⟨_,(by omega),_,_,(i+1),L,rfl,rfl,rfl,rfl,d,H,(by omega),(Xh hall ⟨by omega,by omega⟩),rfl⟩
   refine Nl<|Ue<|J5i<|⟨_,_,L,rfl,d,H,(Jws hcn hnm (i:=i) (by omega) hall)⟩
  rintro b2 b3 ⟨b4,b5,a4,af,d,a6,hz⟩;obtain⟨b6,rfl⟩:=rebK (aC af aN);clear af;refine Rh (Ua<|W.block<|J5e (fun μ f v=>∃ (x y:Nat→Prop) (i:Nat),Cx X w x y v∧f 1=(.pointer (some ⟨m,0,none⟩))∧f 10=(.int .i64 ((i:Nat):Int))∧ExprParts x v a a1 o p r A B E F∧Own w y v m (ec a a1 o p r A B E F) 31∧i≤a.args.length∧errL (a.args.drop i)=errL a.args∧μ=(a.args.length - i)) _ ⟨_,_,0,a4,rfl,rfl,d,a6,(J9h _),rfl,rfl⟩ ?_);rintro b7 b8 b9 ⟨ca,cb,i,Q,ag,ah,d,I,hi,hv,bE⟩;obtain⟨cc,rfl⟩:=rebK (aC ag<|aC ah aN);clear ag ah;refine Rh<|Ub<|J4o J1 rfl<|Ol<|J4t I pl29 rfl rfl<|Ol<|St.len sl29 rfl<|Ol<|J5c rfl rfl (fun aw=>?_)<|fun aw=>?_
  ·refine Nl (Ud<|J4v<|J40<|W.block<|Rg<|Ol<|J4o J1 rfl<|Ol<|J4t I pl29 rfl rfl<|Ub<|J49 (j:=i) (u:=(Ar a i)) d.args sl29 io31 rfl rfl rfl (Jc (by omega)) ?_);intro cd ce bH ai;obtain⟨a8,a9,ba,bb,bc,be,bf,bg,rfl,bh⟩:=Jd ai.rd;refine Ol (J5l (cs:=(ec (Ar a i) a8 a9 ba bb bc be bf bg)) ag31 rfl rfl ai.cell<|Ol<|J4p Q cb53 rfl rfl (ih Q.bd (Mx (Ar a i) bh) (by have h7:=Ja3 (l:=a.args) (i:=i) (by omega);unfold Ar at *;omega) (xq hok (by omega))<|J85 (Qi (by omega))<|Nat.le_of_lt_succ hN) ?_);intro cf cg aj ak bi;replace d:=d.sp ak;replace I:=I.spn ak;subst bi;refine Ua<|Rg<|Ub<|J5w rfl rfl (fun M=>?_)<|fun M=>?_
   ·exact Nl<|Uf<|Om<|Ua<|J4y<|Wq rfl rfl aj<|J87 (Value.int _)<|Jmz hz (by omega) hv M
   refine Nl<|Uc<|J4u<|Ub<|St.add rfl rfl (Ja (a:=i) (b:=1) (by omega))<|Ua<|⟨_,(by omega),_,_,(i+1),aj,rfl,rfl,d,I,(by omega),(Jiy (by omega) hv M),rfl⟩
  exact Nl<|Ue<|J5i<|Rg<|Ua<|J4y<|Wq rfl rfl Q<|J87 (Value.int _)<|Jrh hz (by omega) hv
theorem J1i{X:Nat→Prop}{w:World}(hX:XB X w){b:Value}{a:GExpr}(e:RV Jf X w b a)(d:cntE a≤60)(hok:okE a):CRt 53 #[b] w fun v w'=>v=(.int .i64 (errE a)):=Job ((SizeOf.sizeOf a)+1) hX e d hok (Nat.lt_succ_self _)
theorem Jwa{X:Nat→Prop}{w:World}(hX:XB X w){B:Value}{a:GExpr}(I:RV Jf X w B a)(hm:cntE a≤10000)(hok:okE a):CRt 21 #[B] w fun v w'=>v=(.int .i64 (Zs a)):=by
 obtain⟨a1,h,i,j,k,l,o,p,rfl,d⟩:=J8e I;have C:=J4z hX;refine Cgo (args:=[(ea a a1 h i j k l o p)]) Tryz.func21 rfl rfl rfl (Rg<|Ol<|J5a C rfl ?_);intro K L M N J r D b;replace d:=d.sp D;refine Oa (Nl<|Rh<|Ol<|Uo (vs:=(ec a a1 h i j k l o p)) b ag31<|Ol<|J4p r cb51 rfl rfl (Jiv r.bd (Mx a d) (m:=60) (by omega)) ?_);intro P Q e s E;replace d:=d.sp s;replace b:=b.spn s;subst E;refine Ol<|J5o rfl rfl (fun y=>?_)<|fun y=>?_
 ·exact Om<|Oz<|Oz<|Oz<|OT<|Nl<|Uf<|Ua<|J4y<|Wq rfl rfl e<|J87 (Value.int _)<|vb (by omega)
 refine Om (OgD<|Uo (vs:=(ec a a1 h i j k l o p)) b ag31<|OgD<|J4p e cb52 rfl rfl (x_lvl e.bd (Mx a d) hm) ?_);intro R S g x F;replace d:=d.sp x;replace b:=b.spn x;subst F;refine OgD<|J5o rfl rfl (fun A=>?_)<|fun A=>?_
 ·exact OF<|Nl<|Uf<|Ua<|J4y<|Wq rfl rfl g<|J87 (Value.int _)<|vb (by omega)
 refine OF (Nl<|Uc<|Rg<|Ol<|Uo (vs:=(ec a a1 h i j k l o p)) b ag31<|Ol<|J4p g cb53 rfl rfl (J1i g.bd (Mx a d) (by omega) hok) ?_);intro T U G V H;subst H;exact Ua<|J4y<|Wq rfl rfl G<|J87 (Value.int _)<|Jj5 (by omega)
theorem Jb9{X:Nat→Prop}{w:World}(hX:XB X w){s:List UInt8}(hsl:s.length≤4000)(hrf:RdF s)(hrk:okE (rdT s).1):CRt 10 #[(str s)] w fun v w'=>(∃ L M N,v= .tuple #[L,M,N]∧(RV Jf X w' L ((Yz s).1))∧(M=(.int .i64 ((((Yz s).2.1):Nat):Int)))∧(N=(.int .i64 ((Yz s).2.2)))):=by
 have C:=J4z hX
 have:maxLen=9223372036854775807:=rfl
 refine Cgo (args:=[(str s)]) Tryz.func10 rfl rfl rfl (Rg<|Ol<|J41 C io31 rfl ?_);intro g1 w2 x3 y4 ae J s7 g;refine Oa<|Ua<|Rh<|Ub<|J5x un9 rfl<|Ol<|J5o rfl rfl (fun d=>?_)<|fun d=>?_
 ·refine Nl (Uf<|Ol<|J47 (cs:=zX) rfl (by kernel_rfl)<|On<|Us (cs':=zX) J g io31 ?_);intro af B ag P;refine Oa (Ua<|J4y<|Jd4 rfl (resV.c P rfl ag31 rfl) (J8d rfl) (J8d rfl)<|J4w ?_ B.below);refine⟨_,_,_,rfl,?_,?_,?_⟩
  ·exact J8f (a:=(.mk 0 [] ⟨⟨false,[]⟩,⟨false,[]⟩⟩ [] [])) ((Y5 (by omega) (by omega) (by unfold maxLen;simp) J8g J8g J8g J8g).tr (Tr.weak B.base))<|J87 (·.1)<|Jk7 d
  ·exact J87 (Value.int _)<|J87 Nat.cast<|J87 (·.2.1)<|Jk7 d
  ·exact J87 (Value.int _)<|J87 (·.2.2)<|Jk7 d
 refine Nl (Uc<|Rg<|Ub<|J4p J cb30 rfl rfl (Jw0 J.bd (by omega)) ?_);intro ah ai Q R S;replace g:=g.spn R;obtain⟨aj,ak,am,rfl,T,rfl,rfl⟩:=S;obtain⟨i,j,k,l,m,o,p,r,rfl,h⟩:=J8e T;refine Om (Ol<|St.extract rfl rfl<|Ol<|St.extract rfl rfl<|Ol<|St.extract rfl rfl<|Ol<|J41 Q io31 rfl ?_);intro an ao aq ar K U D V;have Y:=K _ g.blk.lt;refine On (Us (cs':=(ec ((rdT s).1) i j k l m o p r)) U V io31 ?_);intro au y E x;replace h:=(h.sp D).sp E;replace g:=(g.spn D).spo E Y;refine Oa<|Ua<|Rh<|Ub<|J5w rfl rfl (fun b=>?_)<|fun b=>?_
 ·refine Nl (Uf<|Ol<|J47 (cs:=zX) rfl (by kernel_rfl)<|Om<|Om<|On<|Us (cs':=zX) y g io31 ?_);intro av F aw Z;refine Oa (Ua<|J4y<|Jd4 rfl (resV.c Z rfl ag31 rfl) (J8d rfl) (J8d rfl)<|J4w ?_ F.below);refine⟨_,_,_,rfl,?_,?_,?_⟩
  ·exact J8f (a:=(.mk 0 [] ⟨⟨false,[]⟩,⟨false,[]⟩⟩ [] [])) ((Y5 (by omega) (by omega) (by unfold maxLen;simp) J8g J8g J8g J8g).tr (Tr.weak F.base))<|J87 (·.1)<|Jjf hrf d b
  ·exact J87 (Value.int _)<|J87 Nat.cast<|J87 (·.2.1)<|Jjf hrf d b
  ·exact J87 (Value.int _)<|J87 (·.2.2)<|Jjf hrf d b
 refine Nl (Uc<|Rh<|Ol<|Uo (vs:=(ec ((rdT s).1) i j k l m o p r)) x ag31<|Ol<|J4p y cb20 rfl rfl (Jfa y.bd (Mx ((rdT s).1) h) hrk) ?_);intro ax ay G A aa;replace g:=g.spn A;replace x:=x.spn A;subst aa;refine Ua<|Rg<|Ub<|J5w rfl rfl (fun e=>?_)<|fun e=>?_
 ·refine Nl (Uf<|Ol<|J47 (cs:=zX) rfl (by kernel_rfl)<|Om<|On<|Us (cs':=zX) G g io31 ?_);intro az H aA ab;refine Oa (Ua<|J4y<|Jd4 rfl (resV.c ab rfl ag31 rfl) (J8d rfl) (J8d rfl)<|J4w ?_ H.below);refine⟨_,_,_,rfl,?_,?_,?_⟩
  ·exact J8f (a:=(.mk 0 [] ⟨⟨false,[]⟩,⟨false,[]⟩⟩ [] [])) ((Y5 (by omega) (by omega) (by unfold maxLen;simp) J8g J8g J8g J8g).tr (Tr.weak H.base))<|J87 (·.1)<|Jkz hrf d b e
  ·exact J87 (Value.int _)<|J87 Nat.cast<|J87 (·.2.1)<|Jkz hrf d b e
  ·exact J87 (Value.int _)<|J87 (·.2.2)<|Jkz hrf d b e
 refine Nl (Uc<|Rg<|Ol<|Uo (vs:=(ec ((rdT s).1) i j k l m o p r)) x ag31<|On<|Us (cs':=(ec ((rdT s).1) i j k l m o p r)) G g io31 ?_);intro aB I ac ad;replace h:=(h.sp A).sp ac;refine Oa (Ua<|J4y<|Jd4 rfl (resV.c ad rfl ag31 rfl) (J8d rfl) (J8d rfl)<|J4w ?_ I.below);refine⟨_,_,_,rfl,?_,?_,?_⟩
 ·exact J8f (a:=((rdT s).1)) ((Mx ((rdT s).1) h).tr (Tr.weak I.base))<|J87 (·.1)<|Jth hrf d b e
 ·exact J87 (Value.int _)<|J87 Nat.cast<|J87 (·.2.1)<|Jth hrf d b e
 ·exact J87 (Value.int _)<|J87 (·.2.2)<|Jth hrf d b e
end Go.Wf
namespace Go.Wf
open Go Go.Lib
abbrev By:=List UInt8
def qTxt(q:Rat):By:=if q.den=1 then itoa q.num else itoa q.num++[47]++itoa (q.den:Int)
structure Tx where
 op:Int
 q:Rat
 neg:Bool
 w:By
 sg:By
 mi:Bool
 p:By
def Tx.f(t:Tx):By:=if t.op=10∨t.op=11∨t.neg=true then [40]++t.w++[41] else t.p
def za(l:List Int):List By:=l.map itoa
def Y3(l:List Int):By:=join (za l) [44,32]
def Xe(ne:Bool):List Tx→By
 | []=>[]
 | t::l=>(if ne then [44,32] else [])++t.w++Xe true l
def Zf(nm:By)(n:List Int)(ts:List Tx):By:=(nm++[40])++(if n=[] then [] else Y3 n)++Xe (decide (¬ n=[])) ts++[41]
def etaT(nm:By)(n:List Int):By:=nm++itoa (n.getD 0 0)++[41,91]++Y3 (n.drop 1)++[93]
def V2(t:Tx):By:=if t.op=10∨t.op=11∨t.op=12∨t.op=1 then [40]++t.w++[41] else t.w
def Tx0:Tx:=⟨0,0,false,[],[],false,[]⟩
def Qb(op:Int)(n:List Int)(q:Rat)(nm:By)(ts:List Tx):By:=
 if op=1 then qTxt q else if op=2 then [69]++itoa (n.getD 0 0) else if op=3 then Zf [71] n ts
 else if op=4 then etaT [101,116,97,40] n else if op=5 then etaT [116,104,101,116,97,40] n
 else if op=6 then [68,101,108,116,97] else if op=7 then [106] else if op=8 then nm
 else if op=9 then Zf [110,101,119,102,111,114,109] n ts else if op=13 then Zf [86] n ts else if op=14 then Zf [85] n ts
 else if op=15 then Zf [84] n ts else if op=16 then Zf [116,119,105,115,116] n ts else if op=17 then Zf [115,101,114,114,101] n ts
 else if op=18 then Zf [98,114,97,99,107,101,116] n ts
 else V2 (ts.getD 0 Tx0)++[94]++itoa (n.getD 0 0)
def facT(ts:List Tx):List By:=ts.map Tx.f
def Jai(ts:List Tx):By:=
 if(ts.getD 0 Tx0).neg then join ((if ¬ (-(ts.getD 0 Tx0).q=1)∨(ts.getD 1 Tx0).op=1 then [qTxt (-(ts.getD 0 Tx0).q)] else [])++facT (ts.drop 1)) [42] else join (facT ts) [42]
def sumR:List Tx→By
 | []=>[]
 | t::l=>(if t.mi then [32,45,32] else [32,43,32])++t.sg++sumR l
def sumT:List Tx→By
 | []=>[]
 | t::l=>(if t.mi then [45] else [])++t.sg++sumR l
def negB(op:Int)(q:Rat):Bool:=decide (op=1) && decide (K5 q < 0)
def sgT(op:Int)(n:List Int)(q:Rat)(nm:By)(ts:List Tx):By:=
 if op=10 then [40]++sumT ts++[41] else if negB op q=true then qTxt (-q) else if op=11 then Jai ts else Qb op n q nm ts
def miT(op:Int)(q:Rat)(ts:List Tx):Bool:=
 if op=10 then false else if negB op q=true then true else if op=11 then(ts.getD 0 Tx0).neg else false
def mkT(op:Int)(n:List Int)(q:Rat)(nm:By)(ts:List Tx):Tx:=
 ⟨op,q,negB op q,if op=10 then sumT ts else(if miT op q ts then [45] else [])++sgT op n q nm ts,sgT op n q nm ts,miT op q ts,Qb op n q nm ts⟩
mutual
def txE:GExpr→Tx
 | .mk o n c s l=>mkT o n c.q s (txL l)
def txL:List GExpr→List Tx
 | []=>[]
 | a::l=>txE a::txL l
end
theorem V5(a:GExpr):txE a=mkT a.op a.n a.c.q a.name (txL a.args):=by cases a;rw [txE];rfl
theorem Jbk:∀ l:List GExpr,txL l=l.map txE
 | []=>rfl
 | a::l=>by rw [txL,Jbk l];rfl
theorem Jdg{l:List GExpr}{i:Nat}(h:i < l.length):(txL l).getD i Tx0=txE (l.getD i default):=by
 rw [Jbk,J9d,J9d,J94,J9f h];rfl
def wrE(a:GExpr):By:=(txE a).w
def plE(a:GExpr):By:=(txE a).p
def sgE(a:GExpr):By:=(txE a).sg
def miE(a:GExpr):Bool:=(txE a).mi
theorem qp(a:GExpr):(txE a).op=a.op:=by rw [V5];rfl
theorem tx_q(a:GExpr):(txE a).q=a.c.q:=by rw [V5];rfl
theorem Jat(a:GExpr):(txE a).neg=negB a.op a.c.q:=by rw [V5];rfl
theorem vj{a:GExpr}(h:a.op=10):wrE a=sumT (txL a.args):=by unfold wrE;rw [V5];exact if_pos h
theorem Jaa{a:GExpr}(h:¬ a.op=10):wrE a=(if miE a then [45] else [])++sgE a:=by
 unfold wrE miE sgE;rw [V5];exact if_neg h
theorem Jjs(a:GExpr):plE a=Qb a.op a.n a.c.q a.name (txL a.args):=by unfold plE;rw [V5];rfl
theorem Jo4(a:GExpr):sgE a=sgT a.op a.n a.c.q a.name (txL a.args):=by unfold sgE;rw [V5];rfl
theorem Jow(a:GExpr):miE a=miT a.op a.c.q (txL a.args):=by unfold miE;rw [V5];rfl
theorem z6{a:GExpr}(h:a.op=10):sgE a=[40]++wrE a++[41]∧miE a=false:=by
 rw [Jo4,Jow,vj h];exact⟨if_pos h,if_pos h⟩
theorem zp{a:GExpr}(h:negB a.op a.c.q=true):sgE a=qTxt (-a.c.q)∧miE a=true:=by
 have h1:¬ a.op=10:=fun e=>by unfold negB at h;rw [e] at h;cases h
 rw [Jo4,Jow];exact⟨by unfold sgT;rw [if_neg h1,if_pos h],by unfold miT;rw [if_neg h1,if_pos h]⟩
theorem zj{a:GExpr}(h:¬ a.op=10)(h2:negB a.op a.c.q=false)(h3:¬ a.op=11):sgE a=plE a∧miE a=false:=by
 rw [Jo4,Jow,Jjs];exact⟨by unfold sgT;rw [if_neg h,if_neg (by rw [h2];decide),if_neg h3],by unfold miT;rw [if_neg h,if_neg (by rw [h2];decide),if_neg h3]⟩
theorem Jm1{a:GExpr}(h3:a.op=11):sgE a=Jai (txL a.args)∧miE a=((txL a.args).getD 0 Tx0).neg:=by
 have h:¬ a.op=10:=by omega
 have h2:negB a.op a.c.q=false:=by unfold negB;rw [h3];rfl
 rw [Jo4,Jow];exact⟨by unfold sgT;rw [if_neg h,if_neg (by rw [h2];decide),if_pos h3],by unfold miT;rw [if_neg h,if_neg (by rw [h2];decide),if_pos h3]⟩
def dgB(n:Nat):UInt8:=UInt8.ofNat (48+n % 10)
theorem Jbn(n:Nat):(dgB n).toNat=48+n % 10:=by
 have:=J9c n (show 0 < 10 by decide)
 exact UInt8.toNat_ofNat_of_lt' (by show 48+n % 10 < 256;omega)
theorem Jbe{m n:Nat}(h:m % 10=n % 10):dgB m=dgB n:=by unfold dgB;rw [h]
def lsd:Nat→Nat→List UInt8
 | 0,_=>[]
 | k+1,n=>dgB n::lsd k (n / 10)
theorem V6:∀ k n:Nat,(lsd k n).length=k
 | 0,_=>rfl
 | k+1,n=>by rw [lsd,J80,V6]
theorem xa:∀ k n:Nat,lsd (k+1) n=lsd k n++[dgB (n / 10 ^ k)]
 | 0,n=>by rw [lsd,lsd,lsd,Nat.pow_zero,Nat.div_one];rfl
 | k+1,n=>by rw [lsd,xa k,lsd,List.cons_append,Nat.div_div_eq_div_mul,J9p,J90]
theorem Jfy{k n:Nat}(hk:0 < k):(lsd k n).getD (k - 1) 0=dgB (n / 10 ^ (k - 1)):=by
 obtain⟨j,rfl⟩:∃ j,k=j+1:=⟨k - 1,by omega⟩;rw [xa,Nat.add_sub_cancel,J9d,List.getElem?_append_right (by rw [V6];exact J9g _),V6,Nat.sub_self];rfl
theorem Jp7{k n:Nat}(hk:0 < k):(lsd k n).take (k - 1)=lsd (k - 1) n:=by
 obtain⟨j,rfl⟩:∃ j,k=j+1:=⟨k - 1,by omega⟩;rw [xa,Nat.add_sub_cancel,List.take_left' (V6 _ _)]
theorem Jlp:∀ k n:Nat,n < 10 ^ (k+1)→10 ^ k≤n∨k=0→(lsd (k+1) n).reverse=decDigits n
 | 0,n,h,_=>by
  have h:n < 10:=by simpa using h
  rw [lsd,lsd,decDigits_one h,List.reverse_singleton,dgB,Nat.mod_eq_of_lt h]
 | k+1,n,h,h2=>by
  have h2:10 ^ (k+1)≤n:=by rcases h2 with h2 | h2;exact h2;omega
  have hk:0 < 10 ^ k:=Nat.pow_pos (by decide);rw [J9p] at h h2;rw [J9p] at h;have e:decDigits n=decDigits (n / 10)++[UInt8.ofNat (48+n % 10)]:=by
   conv=>lhs;rw [decDigits,dif_neg (by omega)]
  rw [e,lsd,List.reverse_cons,Jlp k (n / 10) (by rw [J9p];omega) (.inl (by omega)),dgB]
theorem J1m(n:Nat):(4294967296:Nat) ^ n≤10 ^ (10 * n):=by rw [Nat.pow_mul];exact Nat.pow_le_pow_left (by decide) n
section
variable {N i j k r:Nat} {m:List Nat} {d:List UInt8}
theorem fm_0(hs:Jn m):trim m=digs (val m / 10 ^ (9 * 0)):=by rw [X5 hs,Nat.mul_zero,Nat.pow_zero,Nat.div_one]
theorem Jx4:(10:Nat) ^ (9 * (i+1))=10 ^ (9 * i) * 1000000000:=by rw [show 9 * (i+1)=9 * i+9 by omega,Nat.pow_add]
theorem fm_q(h:m=digs (N / 10 ^ (9 * i))):trim (Jq m.length (val m / 1000000000))=digs (N / 10 ^ (9 * (i+1))):=by
 subst h;have h1:=Qk (N / 10 ^ (9 * i));rw [Jt,K1 (J91 (Nat.div_le_self _ _) h1),Nat.div_div_eq_div_mul,Jx4]
theorem fm_r(h:m=digs (N / 10 ^ (9 * i))):val m % 1000000000=N / 10 ^ (9 * i) % 1000000000 / 10 ^ 0:=by rw [h,Jt,Nat.pow_zero,Nat.div_one]
theorem Jxx(hr:r=N / 10 ^ (9 * i) % 1000000000 / 10 ^ j)(hj:j < 9):dgB r=dgB (N / 10 ^ (9 * i+j)):=by
 refine Jbe ?_;have e:(1000000000:Nat)=10 ^ j * 10 ^ (9 - j):=by rw [← Nat.pow_add,show j+(9 - j)=9 by omega]
 have e2:(10:Nat) ^ (9 - j)=10 * 10 ^ (8 - j):=by rw [show 9 - j=(8 - j)+1 by omega,J9p,J90]
 rw [hr,e,Nat.mod_mul_right_div_self,e2,Nat.mod_mul_right_mod,Nat.div_div_eq_div_mul,← Nat.pow_add]
theorem Jtk(hr:r=N / 10 ^ (9 * i) % 1000000000 / 10 ^ j)(hj:j < 9)(hd:d=lsd (9 * i+j) N):d++[dgB r]=lsd (9 * i+(j+1)) N:=by
 rw [hd,Jxx hr hj,← Nat.add_assoc,xa]
theorem Jwk(hr:r=N / 10 ^ (9 * i) % 1000000000 / 10 ^ j):r / 10=N / 10 ^ (9 * i) % 1000000000 / 10 ^ (j+1):=by
 rw [hr,Nat.div_div_eq_div_mul,J9p]
theorem Jvl:IntKind.u8.wrap (48+((r % 10 % 256:Nat):Int))=(((dgB r).toNat:Nat):Int):=by
 have:=J9c r (show 0 < 10 by decide)
 rw [Jbn];rw [IntWalk.u8_in _ (by omega)];omega
theorem Jzl{L:Nat}(hN:N < 4294967296 ^ L)(hm:m=digs (N / 10 ^ (9 * i)))(h:(0:Int) < ((m.length:Nat):Int)):9 * i < 10 * L:=by
 have h1:¬ N / 10 ^ (9 * i)=0:=fun e=>by rw [hm,e] at h;simp [xh] at h
 have h2:10 ^ (9 * i)≤N:=by
  rcases J9w N (10 ^ (9 * i)) with h3 | h3
  ·exact absurd (Nat.div_eq_of_lt h3) h1
  ·exact h3
 have h3:=J1m L
 rcases J9w (9 * i) (10 * L) with h4 | h4
 ·exact h4
 ·have:=J9v (show 0 < 10 by decide) h4
  omega
theorem Jz8(hm:m=digs (N / 10 ^ (9 * i)))(h:¬ (0:Int) < ((m.length:Nat):Int)):N < 10 ^ (9 * i):=by
 have h0:m=[]:=J9n (by omega);rw [hm] at h0;have h1:=(X1 _).1 h0;have hp:0 < 10 ^ (9 * i):=Nat.pow_pos (by decide)
 have:=Nat.div_add_mod N (10 ^ (9 * i))
 have:=J9c N hp
 rw [h1,Nat.mul_zero] at *;omega
theorem Jgr(hN:0 < N)(hk:N < 10 ^ k):0 < k:=by
 rcases Nat.eq_zero_or_pos k with h | h
 ·subst h;rw [Nat.pow_zero] at hk;omega
 ·exact h
theorem Jhy(hN:0 < N)(hk:N < 10 ^ k)(hd:d=lsd k N):d.length - 1 < d.length∧d.length=k:=by
 have:=Jgr hN hk
 rw [hd,V6];omega
theorem Jzm(hk:N < 10 ^ k)(h0:0 < k):N / 10 ^ (k - 1) < 10:=by
 obtain⟨j,rfl⟩:∃ j,k=j+1:=⟨k - 1,by omega⟩;rw [Nat.add_sub_cancel];rw [J9p] at hk;exact Nat.div_lt_of_lt_mul hk
theorem fm_z(hN:0 < N)(hk:N < 10 ^ k)(hd:d=lsd k N)(h:(((d.getD (d.length - 1) 0).toNat:Nat):Int)=48):N < 10 ^ (k - 1)∧d.take (d.length - 1)=lsd (k - 1) N:=by
 have h0:=Jgr hN hk;have hl:=(Jhy hN hk hd).2;have hv:=Jzm hk h0;rw [hl] at h ⊢;subst hd;rw [Jfy h0,Jbn,Nat.mod_eq_of_lt hv] at h;refine⟨?_,Jp7 h0⟩;have h1:N / 10 ^ (k - 1)=0:=by omega
 have hp:0 < 10 ^ (k - 1):=Nat.pow_pos (by decide)
 have:=Nat.div_add_mod N (10 ^ (k - 1))
 have:=J9c N hp
 rw [h1,Nat.mul_zero] at *;omega
theorem Jqq(hN:0 < N)(hk:N < 10 ^ k)(hd:d=lsd k N)(h:¬ (((d.getD (d.length - 1) 0).toNat:Nat):Int)=48):d.reverse=decDigits N:=by
 have h0:=Jgr hN hk;have hl:=(Jhy hN hk hd).2;have hv:=Jzm hk h0;rw [hl] at h;subst hd;rw [Jfy h0,Jbn,Nat.mod_eq_of_lt hv] at h;obtain⟨j,rfl⟩:∃ j,k=j+1:=⟨k - 1,by omega⟩;rw [Nat.add_sub_cancel] at h;refine Jlp j N hk (.inl ?_)
 rcases J9w N (10 ^ j) with h3 | h3
 ·rw [Nat.div_eq_of_lt h3] at h;omega
 ·exact h3
end
theorem fm_N{a:GInt}(hs:Jn a.mag)(h:¬ (((trim a.mag).length:Nat):Int)=0):0 < val a.mag:=by
 rcases Nat.eq_zero_or_pos (val a.mag) with e | e
 ·rw [X5 hs,e,xh] at h;exact absurd rfl h
 ·exact e
theorem J0y{a:GInt}(hs:Jn a.mag)(h:(((trim a.mag).length:Nat):Int)=0):[48]=itoa a.toZ:=by
 have h0:trim a.mag=[]:=J9n (by omega);rw [X5 hs] at h0;have h1:=(X1 _).1 h0;unfold GInt.toZ Jl;rw [h1]
 have:(if a.neg=true then -((0:Nat):Int) else((0:Nat):Int))=((0:Nat):Int):=by split <;> rfl
 rw [this,itoa_nonneg,decDigits_one (by decide)];rfl
theorem fm_pl{a:GInt}{d:List UInt8}(hn:a.neg=false)(h:d.reverse=decDigits (val a.mag)):d.reverse=itoa a.toZ:=by
 unfold GInt.toZ Jl;rw [hn,if_neg (by decide),itoa_nonneg];exact h
theorem fm_mi{a:GInt}{d:List UInt8}(hn:a.neg=true)(hN:0 < val a.mag)(h:d.reverse=decDigits (val a.mag)):(d++[45]).reverse=itoa a.toZ:=by
 unfold GInt.toZ Jl;rw [hn,if_pos rfl,itoa_neg _ hN,List.reverse_append,h];rfl
theorem Jwx{m:List Nat}{n q:Nat}(h:m.length≤n):(trim (Jq m.length q)).length≤n:=J86 (Jw _) (by rw [Jg];exact h)
theorem Jr4:∀ k u:Nat,u < 10 ^ (k+1)→(decDigits u).length≤k+1
 | 0,u,h=>by rw [decDigits_one (by simpa using h)];exact J9g _
 | k+1,u,h=>by
  rw [J9p] at h;rw [decDigits]
  split
  ·simp
  ·rw [J8z,J82]
   have:=Jr4 k (u / 10) (by omega)
   omega
theorem Jbq(n:Int)(k:Nat)(h:n.natAbs < 10 ^ (k+1)):(itoa n).length≤k+2:=by
 have:=Jr4 k n.natAbs h
 unfold itoa
 split
 ·rw [J80];omega
 ·rw [show n.toNat=n.natAbs by omega];omega
theorem yv(n:Int):(itoa n).length≤10 * (ofZ n).mag.length+2:=by
 have h:n.natAbs < 4294967296 ^ (ofZ n).mag.length:=by
  have h1:=Jo n;have h2:Jn (ofZ n).mag:=by unfold ofZ;exact Zx _
  have h3:=Zp _ h2;unfold GInt.toZ Jl at h1
  split at h1 <;> omega
 have h2:=J1m (ofZ n).mag.length;refine Jbq n _ (J85 (J85 h h2) (J9v (by decide) (Nat.le_succ _)))
theorem J1c{n:Int}(h0: -9223372036854775808≤n)(h1:n≤9223372036854775807):(itoa n).length≤maxLen:=by
 have:=itoa_length_le n h0 h1
 unfold maxLen;omega
section
variable {q:Rat}
theorem Jkh:(ofQ q).num.toZ=q.num:=Jo _
theorem Jmc:(ofQ q).den.toZ=(q.den:Int):=Jo _
theorem Jqv(h:(ofQ q).den=ofZ 1):itoa (ofQ q).num.toZ=qTxt q:=by
 have h1:(q.den:Int)=1:=by rw [← Jmc,h,Jo]
 unfold qTxt;rw [if_pos (by omega),Jkh]
theorem Jrx(h:¬ (ofQ q).den=ofZ 1):(itoa (ofQ q).num.toZ++[47])++itoa (ofQ q).den.toZ=qTxt q:=by
 have h1:¬ q.den=1:=fun e=>h (by show ofZ (q.den:Int)=ofZ 1;rw [e];rfl);unfold qTxt;rw [if_neg h1,Jkh,Jmc]
theorem Jpp:(itoa (ofQ q).num.toZ).length≤10 * (ofQ q).num.mag.length+2:=by rw [Jkh];exact yv _
theorem Jw5:(itoa (ofQ q).den.toZ).length≤10 * (ofQ q).den.mag.length+2:=by rw [Jmc];exact yv _
end
theorem Jl5{m:List Nat}(hs:Jn m):val m < 4294967296 ^ m.length:=Zp m hs
end Go.Wf
namespace Go.Wf
open Go Go.Proofs Go.RowKit
theorem Jmy{X:Nat→Prop}{w:World}(hX:XB X w){v0:Value}{a:GInt}(r0:RV Jv X w v0 a)(hla:a.mag.length≤100000):CRt 153 #[v0] w fun v w'=>v=(str (Lib.itoa a.toZ)):=by
 obtain⟨a1,Q,rfl,e⟩:=RV.int r0;have C:=J4z hX;have sa:=r0.int_small;refine Cgo (args:=[(.agg #[(.bool a.neg),(.slice a1 a.mag.length Q)])]) Tryz.func153 rfl rfl rfl (Rg<|Ol<|J5a C rfl ?_);intro g4 w5 x6 y7 bH C9 a8 S;replace e:=e.sp a8;refine Oa (Nl<|Rg<|Ol<|J4o J5 rfl<|Ol<|J4t S pl24 rfl rfl<|Ol<|J4p C9 Qr rfl rfl (Zr C9.bd e (by omega)) ?_);intro bI bJ ao aq ar;replace e:=e.sp aq;replace S:=S.spn aq;obtain⟨a9,ba,rfl,_,_⟩:=ar.len;refine Ua<|Rh<|Ub<|St.len sl24 rfl<|Ol<|J42 rfl rfl (fun R=>?_)<|fun R=>?_
 ·exact Nl<|Uf<|Ua<|J4y<|Wq rfl rfl ao<|J87 (str)<|(J0y sa R)
 refine Nl (Uc<|Rg<|Ua<|J40<|W.block<|J5e (fun μ f v=>∃ (x y:Nat→Prop) (i:Nat) (m:List Nat) (ma:Option Addr) (mc:Nat) (d:List UInt8) (da:Option Addr) (dc:Nat),Cx X w x y v∧f 1=(.pointer (some ⟨g4,0,none⟩))∧f 2=(str [])∧f 3=(.slice ma m.length mc)∧f 4=(.slice da d.length dc)∧RS Je x v (.slice a1 a.mag.length Q) a.mag∧RS Je x v (.slice ma m.length mc) m∧OS u8Ty 5 w x y v (.slice da d.length dc) d∧Own w y v g4 [(.bool a.neg),(.slice a1 a.mag.length Q)] 26∧m=digs (val a.mag / 10 ^ (9 * i))∧d=lsd (9 * i) (val a.mag)∧9 * i≤10 * a.mag.length+9∧m.length≤a.mag.length∧μ=(10 * a.mag.length+9 - 9 * i)) _ ⟨_,_,0,(trim a.mag),a9,ba,[],none,0,ao,rfl,rfl,rfl,rfl,e,ar,J8k,S,(fm_0 sa),rfl,(by omega),(Jw _),rfl⟩ ?_);rintro bK bL bM ⟨bN,bO,i,m,ma,mc,d,da,dc,af,au,av,aw,ax,e,hm,hd,U,J,V,hi,hml,bi⟩;obtain⟨bP,rfl⟩:=rebK (aC au<|aC av<|aC aw<|aC ax aN);clear au av aw ax;refine Rh<|Ub<|St.len sl24 rfl<|Ol<|J5o rfl rfl (fun G=>?_)<|fun G=>?_
 ·refine Nl (Ud<|J4v<|W.block<|Rg<|Ub<|J4p af Jxu rfl rfl (Jkx af.bd hm (d:=1000000000) (by omega) (by decide) (by decide)) ?_);intro bQ bR ag Y bb;obtain⟨bS,bT,rfl,g,rfl⟩:=bb;obtain⟨D,E,rfl,_,_⟩:=g.len;refine Om (Ol<|St.extract rfl rfl<|Ol<|St.extract rfl rfl<|Oa<|Ua<|Rg<|Ub<|J4p ag Qr rfl rfl (Zr ag.bd g (by rw [Jg];omega)) ?_);intro bU bV ay K A;replace e:=(e.sp Y).sp K;replace hm:=(hm.sp Y).sp K;replace hd:=(hd.sp Y ag<|fun _ h=>h).sp K ay (fun _ h=>h)
  replace g:=g.sp K;replace U:=(U.spn Y).spn K;obtain⟨Z,aa,rfl,_,_⟩:=A.len;refine Oa (Nl<|Rg<|Om<|Nl<|W.block<|J5e (fun μ f v=>∃ (x y:Nat→Prop) (j:Nat) (r:Nat) (L:List UInt8) (ab:Option Addr) (ac:Nat),Cx X w x y v∧f 1=(.pointer (some ⟨g4,0,none⟩))∧f 2=(str [])∧f 3=(.slice Z (trim<|Jq m.length<|val m / 1000000000).length aa)∧f 5=(.slice D (Jq m.length<|val m / 1000000000).length E)∧f 13=(.slice ma m.length mc)∧f 14=(.int .i64 ((m.length:Nat):Int))∧f 15=(.bool true)∧f 16=(.tuple #[(.slice D (Jq m.length<|val m / 1000000000).length E),(.int .u32 (((val m % 1000000000):Nat):Int))])∧f 17=(.slice ma m.length mc)∧f 18=(.tuple #[(.slice D (Jq m.length<|val m / 1000000000).length E),(.int .u32 (((val m % 1000000000):Nat):Int))])∧f 19=(.slice D (Jq m.length<|val m / 1000000000).length E)∧f 20=(.int .u32 (((val m % 1000000000):Nat):Int))∧f 21=(.slice D (Jq m.length<|val m / 1000000000).length E)∧f 22=(.slice Z (trim<|Jq m.length<|val m / 1000000000).length aa)∧f 23=(.int .i64 ((j:Nat):Int))∧f 6=(.int .u32 ((r:Nat):Int))∧f 4=(.slice ab L.length ac)∧RS Je x v (.slice a1 a.mag.length Q) a.mag∧RS Je x v (.slice ma m.length mc) m∧RS Je x v (.slice D (Jq m.length<|val m / 1000000000).length E) (Jq m.length<|val m / 1000000000)∧RS Je x v (.slice Z (trim<|Jq m.length<|val m / 1000000000).length aa) (trim<|Jq m.length<|val m / 1000000000)∧OS u8Ty 5 w x y v (.slice ab L.length ac) L∧Own w y v g4 [(.bool a.neg),(.slice a1 a.mag.length Q)] 26∧j≤9∧r=val a.mag / 10 ^ (9 * i) % 1000000000 / 10 ^ j∧r < 4294967296∧L=lsd (9 * i+j) (val a.mag)∧L.length=9 * i+j∧μ=(9 - j)) _ ⟨_,_,0,(val m % 1000000000),d,da,dc,ay,rfl,rfl,rfl,rfl,rfl,rfl,rfl,rfl,rfl,rfl,rfl,rfl,rfl,rfl,rfl,rfl,rfl,e,hm,g,A,hd,U,(J9h _),(fm_r J),(by omega),V,(by rw [V,V6];rfl),rfl⟩ ?_);rintro bW bX bY ⟨bZ,b0,j,r,L,ab,ac,az,aA,aB,aD,aE,aF,aG,aH,aI,aJ,aK,aL,aM,aO,aP,aQ,aR,aS,e,hm,g,A,hdf,B,hj,hr,hrb,aT,hdl,bj⟩;obtain⟨b1,rfl⟩:=rebK (aC aA<|aC aB<|aC aD<|aC aE<|aC aF<|aC aG<|aC aH<|aC aI<|aC aJ<|aC aK<|aC aL<|aC aM<|aC aO<|aC aP<|aC aQ<|aC aR<|aC aS aN);clear aA aB aD aE aF aG aH aI aJ aK aL aM aO aP aQ aR aS;refine Rg<|Ol<|J5c rfl rfl (fun aW=>?_)<|fun aW=>?_
  ·refine Nl (J40<|Ud<|J4v<|J40<|W.block<|Rg<|Om<|Ub<|J6p rfl rfl (by decide) (Xr r 10)<|Ol<|J48 (z:=(((r % 10) % 256:Nat):Int)) Z8 un5 rfl (Xm _)<|Ol<|St.add (z:=(((dgB r).toNat:Nat):Int)) rfl rfl Jvl<|Ol<|J5f (T:=u8Ty) (css:=[[(.int .u8 (((dgB r).toNat:Nat):Int))]]) (l:=[(dgB r)]) az Q6 io5 (by decide) (by decide) rfl (by kernel_rfl) ⟨rfl,trivial⟩ ?_);intro b2 b3 aU F bc;replace hdf:=hdf.sp F aU<|fun _ h=>h
   replace B:=B.spn F;refine Ol (J5k (T:=u8Ty) aU Q6 io5 rfl rfl hdf (Yi bc) (by rw [J82];simp only [maxLen];omega) (by rw [J82];omega) rfl ?_);intro b4 b5 b6 be M b7 aV;replace e:=(e.sp F).tr M.tx;replace hm:=(hm.sp F).tr M.tx;replace g:=(g.sp F).tr M.tx;replace A:=(A.sp F).tr M.tx;replace B:=B.ap M B.mem;obtain⟨bf,bg,rfl,_,_⟩:=aV.len;refine Ua<|J4u<|Ub<|J6c rfl rfl (by decide) (xr (a:=r) (b:=10) (by omega))<|Ua<|J4u<|Ol<|St.add rfl rfl (Ja (a:=j) (b:=1) (by omega))<|Om<|Nl<|⟨_,(by omega),_,_,(j+1),r / 10,(L++[(dgB r)]),bf,bg,be,rfl,rfl,rfl,rfl,rfl,rfl,rfl,rfl,rfl,rfl,rfl,rfl,rfl,rfl,rfl,rfl,rfl,e,hm,g,A,aV,B,(by omega),(Jwk hr),(by omega),(Jtk hr (by omega) aT),(by rw [J8z,J82];omega),rfl⟩
  refine Nl<|J40<|Ue<|J5i<|⟨_,(by have:=Jzl (Jl5 sa) J G;omega),_,_,(i+1),(trim<|Jq m.length<|val m / 1000000000),Z,aa,L,ab,ac,az,rfl,rfl,rfl,rfl,e,A,hdf,B,(fm_q J),(by rw [aT,show 9 * i+j=9 * (i+1) by omega]),(by have:=Jzl (Jl5 sa) J G;omega),(Jwx hml),rfl⟩
 refine Nl (Ue<|J5i<|J40<|W.block ?_);have hN:=fm_N sa R;refine J5e (fun μ f v=>∃ (x y:Nat→Prop) (k:Nat) (o:List UInt8) (N:Option Addr) (P:Nat),Cx X w x y v∧f 1=(.pointer (some ⟨g4,0,none⟩))∧f 2=(str [])∧f 4=(.slice N o.length P)∧RS Je x v (.slice a1 a.mag.length Q) a.mag∧OS u8Ty 5 w x y v (.slice N o.length P) o∧Own w y v g4 [(.bool a.neg),(.slice a1 a.mag.length Q)] 26∧val a.mag < 10 ^ k∧o=lsd k (val a.mag)∧o.length≤10 * a.mag.length+9∧μ=k) _ ⟨_,_,(9 * i),d,da,dc,af,rfl,rfl,rfl,e,hd,U,(Jz8 J G),V,(by rw [V,V6];exact hi),rfl⟩ ?_;rintro bk b8 b9 ⟨ca,cb,k,o,N,P,ad,ah,ai,aj,e,hdg,ak,hk,s,bl,bh⟩;obtain⟨bm,rfl⟩:=rebK (aC ah<|aC ai<|aC aj aN);clear ah ai aj;refine Rh (Om<|Ub<|St.len Q6 rfl<|Ol<|St.sub (z:=((o.length - 1:Nat):Int)) rfl rfl (by have:=(Jhy hN hk s).1;rw [J9j _ (by omega)];omega)<|Ol<|J6t (j:=(o.length - 1)) hdg Q6 io5 rfl rfl rfl (Jhy hN hk s).1<|Ol<|J7v (j:=(o.length - 1)) hdg pl5 rfl (Jhy hN hk s).1 ?_);refine Ol<|J42 rfl rfl (fun p=>?_)<|fun p=>?_
 ·refine Nl (Ud<|J4v<|W.block<|J4u<|Om<|Ub<|St.len Q6 rfl<|Ol<|St.sub (z:=((o.length - 1:Nat):Int)) rfl rfl (by have:=(Jhy hN hk s).1;rw [J9j _ (by omega)];omega)<|Ol<|J8x (T:=u8Ty) (j:=(o.length - 1)) hdg Q6 io5 rfl rfl rfl (Nat.sub_le _ _)<|Oa<|Nl ?_);refine⟨_,(by have:=Jgr hN hk;omega),_,_,(k - 1),(o.take<|o.length - 1),N,P,ad,rfl,rfl,(J87 (fun n=>Value.slice N n P) (Jrc<|Nat.sub_le _ _).symm),e,(hdg.tk8 (j:=o.length - 1)<|Nat.sub_le _ _),ak,(fm_z hN hk s p).1,(fm_z hN hk s p).2,(by rw [J9b];omega),rfl⟩
 refine Nl<|Ue<|J5i<|Rh<|Ol<|J4o Zv rfl<|Ol<|J5h<|J4t ak pl4 rfl rfl ⟨_,rfl,fun H=>?_,fun H=>?_⟩
 ·refine Nl (Uk<|Ub<|J5f (T:=u8Ty) (css:=[[(.int .u8 45)]]) (l:=[45]) ad Q6 io5 (by decide) (by decide) rfl (by kernel_rfl) ⟨rfl,trivial⟩ ?_);intro bn bo am aX aY;replace hdg:=hdg.sp aX am<|fun _ h=>h
  refine Ol (J5k (T:=u8Ty) am Q6 io5 rfl rfl hdg (Yi aY) (by rw [J82];simp only [maxLen];omega) (by rw [J82];omega) rfl ?_);intro bp bq br an bs bt I;obtain⟨bu,bv,rfl,_,_⟩:=I.len;refine Oa (Nl<|Rg<|Ub<|J68 an I Jw9 rfl rfl (Jqf an.bd I.ow (fun k hk=>(I.mem k hk).1.1) (by rw [J8z,J82];omega)) ?_);intro bw bx bz aZ bA bB a0;exact Nl<|Rg<|Ub<|J7n a0 Q6 un5 un9 rfl<|Ua<|J4y<|Wq rfl rfl aZ<|J87 (str)<|(fm_mi H hN<|Jqq hN hk s p)
 refine Nl (Uc<|Rg<|Ub<|J68 ad hdg Jw9 rfl rfl (Jqf ad.bd hdg.ow (fun k hk=>(hdg.mem k hk).1.1) (by omega)) ?_);intro bC bD bE a3 bF bG a4;exact Nl<|Rg<|Ub<|J7n a4 Q6 un5 un9 rfl<|Ua<|J4y<|Wq rfl rfl a3<|J87 (str)<|(fm_pl H<|Jqq hN hk s p)
theorem Jhv{X:Nat→Prop}{w:World}(hX:XB X w){F:Value}{a:GRat}(B:RV Yp X w F a)(hln:a.num.mag.length≤10000)(hld:a.den.mag.length≤10000):CRt 105 #[F] w fun v w'=>v=(str (qTxt a.q)):=by
 obtain⟨a1,G,H,I,rfl,D,E⟩:=J8h B;have C:=J4z hX;have sn:=B.rat_small.1;have sd:=B.rat_small.2;have q1:=Kd sn;have q2:=Ke sd;refine Cgo (args:=[(.agg #[(.bool a.num.neg),(.slice a1 a.num.mag.length G),(.bool a.den.neg),(.slice H a.den.mag.length I)])]) Tryz.func105 rfl rfl rfl (Rg<|Ol<|J5a C rfl ?_);intro g7 w8 x9 S R r x g;replace D:=D.sp x;replace E:=E.sp x;refine Oa (Nl<|Rg<|Ol<|Uo (vs:=[(.bool a.num.neg),(.slice a1 a.num.mag.length G),(.bool a.den.neg),(.slice H a.den.mag.length I)]) g ag28<|Ol<|J4p r cb92 rfl rfl (z7 r.bd (a:=a) (Za D E) (by omega) (by omega)) ?_);intro T U J K L;replace g:=g.spn K;obtain⟨j,k,l,m,rfl,i,b⟩:=J8h L;refine On (Us (cs':=[(.bool (ofQ a.q).num.neg),(.slice j (ofQ a.q).num.mag.length k),(.bool (ofQ a.q).den.neg),(.slice l (ofQ a.q).den.mag.length m)]) J g io28 ?_);intro V y A d;replace b:=b.sp A;refine Nl (Rh<|Ol<|J4o Yk rfl<|Ol<|Uo (vs:=[(.bool (ofQ a.q).den.neg),(.slice l (ofQ a.q).den.mag.length m)]) d ag26<|Ol<|J5h<|J4p y Jes rfl rfl (Jep y.bd (a:=(ofQ a.q).den)<|Ji b) ?_);intro Y Z o p M;replace i:=(i.sp A).sp p;replace b:=b.sp p;replace d:=d.spn p;refine⟨_,M,fun e=>?_,fun e=>?_⟩
 ·refine Nl (Uf<|Ol<|J4o Km rfl<|Ol<|Uo (vs:=[(.bool (ofQ a.q).num.neg),(.slice j (ofQ a.q).num.mag.length k)]) d ag26<|Ol<|J4p o Jud rfl rfl (Jmy o.bd (a:=(ofQ a.q).num) (Ji i) (by omega)) ?_);intro aa ab N ac P;subst P;exact Ua<|J4y<|Wq rfl rfl N<|J87 (str)<|(Jqv<|of_decide_eq_true e)
 refine Nl (Uc<|J40<|J52 mixed 7 o<|Qf Km rfl<|Qw (fun w c=>J46 (vs:=[(.bool (ofQ a.q).num.neg),(.slice j (ofQ a.q).num.mag.length k)]) (d.spn c.2) ag26 rfl rfl rfl ⟨rfl,c⟩)<|Qw (fun w c=>J4p c.1 Jud rfl rfl (Jmy c.1.bd (a:=(ofQ a.q).num) (Ji<|i.sp c.2) (by omega)) fun _ _ C s h=>⟨h,C,c.2.trans s⟩) ?_);refine Qp (fun _=>J43 rfl rfl (by have:=Jpp (q:=a.q);rw [J82];omega) ⟨rfl,rfl⟩) (Qf Yk rfl<|Qw (fun w c=>J46 (vs:=[(.bool (ofQ a.q).den.neg),(.slice l (ofQ a.q).den.mag.length m)]) (d.spn c.2) ag26 rfl rfl rfl ⟨rfl,c⟩)<|Qw (fun w c=>J4p c.1 Jud rfl rfl (Jmy c.1.bd (a:=(ofQ a.q).den) (Ji<|b.sp c.2) (by omega)) fun _ _ C s h=>⟨h,C,c.2.trans s⟩) ?_);refine Qz fun ad Q ae=>?_
 exact Ol<|J43 rfl rfl (by have:=Jpp (q:=a.q);have:=Jw5 (q:=a.q);rw [J8z,J82];omega)<|Ua<|J4y<|Wq rfl rfl Q<|J87 (str)<|(Jrx<|of_decide_eq_false e)
end Go.Wf
namespace Go.Wf
open Go Go.Lib
def lnI:List Int→Nat
 | []=>0
 | x::l=>(itoa x).length+2+lnI l
def lnQ(q:Rat):Nat:=(itoa q.num).length+(itoa (-q.num)).length+(itoa (q.den:Int)).length
mutual
def lnE:GExpr→Nat
 | .mk _ n c s l=>60+lnI n+lnQ c.q+s.length+lnL l
def lnL:List GExpr→Nat
 | []=>0
 | a::l=>lnE a+8+lnL l
end
theorem qo(a:GExpr):lnE a=60+lnI a.n+lnQ a.c.q+a.name.length+lnL a.args:=by cases a;rw [lnE];rfl
theorem Jnd:∀ {l:List GExpr} {i:Nat},i < l.length→lnE (l.getD i default)+8≤lnL l
 | [],i,h=>absurd h (J9m _)
 | a::l,0,h=>by rw [lnL,J9u];omega
 | a::l,i+1,h=>by
  rw [lnL]
  have:=Jnd (l:=l) (i:=i) (by simpa using h)
  simp only [List.getD_cons_succ];omega
theorem Jfv(q:Rat):(-q).num= -q.num∧(-q).den=q.den:=⟨Rat.neg_num q,Rat.neg_den q⟩
theorem Jf8(q:Rat):(qTxt q).length≤1+lnQ q∧(qTxt (-q)).length≤1+lnQ q:=by
 unfold qTxt lnQ;rw [(Jfv q).1,(Jfv q).2]
 split
 ·exact⟨by omega,by omega⟩
 ·simp only [J8z,J80,J81];exact⟨by omega,by omega⟩
def lns:List By→Nat
 | []=>0
 | x::l=>x.length+lns l
theorem Ju5(l:List By):Lib.lens l=lns l:=by
 induction l with
 | nil=>rfl
 | cons x l ih=>simp only [Lib.lens,J93,List.sum_cons] at ih ⊢;rw [lns];omega
theorem Jfn(l:List By)(s:By):(join l s).length≤lns l+s.length * l.length:=by
 cases l with
 | nil=>simp [join_nil]
 | cons x r=>
  rw [join_length,Ju5,J80,J9r];omega
theorem Y9(l:List Int):(Y3 l).length≤lnI l:=by
 have h:=Jfn (za l) [44,32];have e:∀ l:List Int,lns (za l)+2 * (za l).length=lnI l:=by
  intro l
  induction l with
  | nil=>rfl
  | cons x l ih=>unfold za at *;rw [J93,lns,lnI,J80];omega
 rw [← e l];exact h
theorem Jsd:∀ {l:List Int} {i:Nat},i < l.length→(itoa (l.getD i 0)).length≤lnI l
 | [],i,h=>absurd h (J9m _)
 | a::l,0,h=>by rw [lnI];simp only [J9u];omega
 | a::l,i+1,h=>by
  rw [lnI]
  have:=Jsd (l:=l) (i:=i) (by simpa using h)
  simp only [List.getD_cons_succ];omega
theorem Vv(l:List Int):lnI (l.drop 1)≤lnI l:=by
 cases l with
 | nil=>exact J9g _
 | cons x l=>rw [List.drop_succ_cons,List.drop_zero,lnI];omega
structure TL (t:Tx) (k:Nat):Prop where
 w:t.w.length+5≤k
 s:t.sg.length+10≤k
 p:¬ t.op=10→¬ t.op=11→t.p.length+10≤k
 q:(qTxt (-t.q)).length+10≤k
theorem TL.f{t:Tx}{k:Nat}(h:TL t k):t.f.length+3≤k:=by
 have h1:=h.w;unfold Tx.f
 split
 ·simp only [J8z,J80,J81];omega
 ·rename_i hh
  have h2:=h.p (fun e=>hh (.inl e)) (fun e=>hh (.inr (.inl e)));omega
section
variable {l:List GExpr} (h:∀ i,i < l.length→TL (txE (l.getD i default)) (lnE (l.getD i default)))
include h
theorem vc{a:GExpr}{r:List GExpr}(e:l=a::r):TL (txE a) (lnE a)∧∀ i,i < r.length→TL (txE (r.getD i default)) (lnE (r.getD i default)):=by
 subst e;exact⟨h 0 (by simp),fun i hi=>h (i+1) (by simpa using hi)⟩
end
theorem Je5:∀ {l:List GExpr},(∀ i,i < l.length→TL (txE (l.getD i default)) (lnE (l.getD i default)))→lns (facT (txL l))+(facT (txL l)).length≤lnL l
 | [],_=>J9g _
 | a::l,h=>by
  obtain⟨h1,h2⟩:=vc h rfl
  have:=Je5 h2
  have h3:=h1.f;rw [txL,facT,J93,lns,lnL,J80];unfold facT at this;omega
theorem Jnb:∀ {l:List GExpr},(∀ i,i < l.length→TL (txE (l.getD i default)) (lnE (l.getD i default)))→(sumR (txL l)).length≤lnL l
 | [],_=>J9g _
 | a::l,h=>by
  obtain⟨h1,h2⟩:=vc h rfl
  have:=Jnb h2
  have h3:=h1.s;rw [txL,sumR,lnL,J8z,J8z]
  have:(if(txE a).mi=true then([32,45,32]:By) else [32,43,32]).length=3:=by split <;> rfl
  omega
theorem Jl7:∀ {l:List GExpr},(∀ i,i < l.length→TL (txE (l.getD i default)) (lnE (l.getD i default)))→(sumT (txL l)).length≤lnL l
 | [],_=>J9g _
 | a::l,h=>by
  obtain⟨h1,h2⟩:=vc h rfl
  have:=Jnb h2
  have h3:=h1.s;rw [txL,sumT,lnL,J8z,J8z]
  have:(if(txE a).mi=true then([45]:By) else []).length≤1:=by split <;> simp
  omega
theorem Jg2:∀ {l:List GExpr} (b:Bool),(∀ i,i < l.length→TL (txE (l.getD i default)) (lnE (l.getD i default)))→(Xe b (txL l)).length≤lnL l
 | [],_,_=>J9g _
 | a::l,b,h=>by
  obtain⟨h1,h2⟩:=vc h rfl
  have:=Jg2 true h2
  have h3:=h1.w;rw [txL,Xe,lnL,J8z,J8z]
  have:(if b=true then([44,32]:By) else []).length≤2:=by split <;> simp
  omega
theorem Jn6{l:List GExpr}(h:∀ i,i < l.length→TL (txE (l.getD i default)) (lnE (l.getD i default)))(hl:0 < l.length):(Jai (txL l)).length≤lnL l:=by
 cases l with
 | nil=>simp at hl
 | cons a l=>
  obtain⟨h1,h2⟩:=vc h rfl;have h4:=Je5 h2;have h5:=Je5 h;unfold Jai
  split
  ·refine J86 (Jfn _ _) ?_;rw [txL,List.drop_succ_cons,List.drop_zero,lnL];have h6:=h1.q;have e1:∀ x y:List By,lns (x++y)=lns x+lns y:=by
    intro x y
    induction x with
    | nil=>simp [lns]
    | cons a x ih=>rw [List.cons_append,lns,lns,ih];omega
   rw [e1,J8z,J9r];simp only [J9u,J82]
   split <;> simp only [lns,J80,J81] <;> omega
  ·refine J86 (Jfn _ _) ?_;rw [J82];omega
theorem Xi{nm:By}{a:GExpr}(h:∀ i,i < a.args.length→TL (txE (a.args.getD i default)) (lnE (a.args.getD i default))):(Zf nm a.n (txL a.args)).length+58≤nm.length+lnE a:=by
 have h1:=Jg2 (decide (¬ a.n=[])) h;have h2:=Y9 a.n;unfold Zf;rw [qo];have h3:(if a.n=[] then [] else Y3 a.n).length≤lnI a.n:=by
  split
  ·exact J9h _
  ·exact h2
 simp only [J8z,J82] at h3 ⊢;omega
theorem Jee{nm:By}{a:GExpr}(hn:0 < a.n.length):(etaT nm a.n).length+50≤nm.length+lnE a:=by
 have e:a.n=a.n.getD 0 0::a.n.drop 1:=by
  cases hh:a.n with
  | nil=>rw [hh] at hn;simp at hn
  | cons x l=>rfl
 have h2:=Y9 (a.n.drop 1);have h3:lnI a.n=(itoa (a.n.getD 0 0)).length+2+lnI (a.n.drop 1):=by conv=>lhs;rw [e,lnI]
 unfold etaT;rw [qo];simp only [J8z,J80,J81];omega
structure Gd (a:GExpr):Prop where
 er:errE a=0
 ok:okE a
 ln:lnE a≤1000000000
 sm:smE a
theorem Jck:∀ {l:List GExpr} {i:Nat},errL l=0→i < l.length→errE (l.getD i default)=0
 | [],i,_,h=>absurd h (J9m _)
 | a::l,i,h0,h=>by
  rw [errL] at h0
  split at h0
  ·rename_i h1
   cases i with
   | zero=>exact h1
   | succ i=>exact Jck (l:=l) (i:=i) h0 (by simpa using h)
  ·rename_i h1;exact absurd h0 h1
section
variable {a:GExpr} {i:Nat}
theorem qy(h:errE a=0):Kx a=0∧errL a.args=0:=by
 rw [yo] at h
 split at h
 ·rename_i h1;exact⟨h1,h⟩
 ·rename_i h1;exact absurd h h1
theorem Jb7(h:Kx a=0):cntOk a∧nameOk a∧Jb2 a:=by
 unfold Kx at h
 split at h
 ·rename_i h1
  split at h
  ·rename_i h2;exact⟨h1.1,h1.2,h2⟩
  ·simp at h
 ·simp at h
theorem Gd.arg(h:Gd a)(hi:i < a.args.length):Gd (a.args.getD i default):=by
 refine⟨Jck (qy h.er).2 hi,xq h.ok hi,?_,Jli h.sm hi⟩
 have:=Jnd hi
 have h2:=h.ln;rw [qo] at h2;omega
theorem Gd.parts(h:Gd a):cntOk a∧nameOk a∧Jb2 a:=Jb7 (qy h.er).1
theorem cn1(h:cntOk a)(ho:a.op=2∨a.op=4∨a.op=5∨(12≤a.op∧a.op≤16)∨a.op=18):0 < a.n.length:=by
 have h1:=h.n1;unfold cA at h1
 (repeat' split at h1) <;> omega
theorem ca2(h:cntOk a)(ho:a.op=10∨a.op=11∨a.op=18):2≤a.args.length:=by
 have h1:=h.a1;unfold cC at h1
 (repeat' split at h1) <;> omega
theorem ca1(h:cntOk a)(ho:12≤a.op):1≤a.args.length:=by
 have h1:=h.a1;have h2:=h.o2;unfold cC at h1
 (repeat' split at h1) <;> omega
theorem Gd.n(h:Gd a)(ho:a.op=2∨a.op=4∨a.op=5∨(12≤a.op∧a.op≤16)∨a.op=18):0 < a.n.length:=cn1 h.parts.1 ho
theorem Gd.a2(h:Gd a)(ho:a.op=11):2≤a.args.length:=ca2 h.parts.1 (.inr (.inl ho))
theorem Gd.a1(h:Gd a)(ho:a.op=12):1≤a.args.length:=ca1 h.parts.1 (by omega)
theorem Gd.m1(h:Gd a):a.c.num.mag.length≤1000:=by have:=h.ok;rw [Xq] at this;exact this.1
theorem Gd.m2(h:Gd a):a.c.den.mag.length≤1000:=by have:=h.ok;rw [Xq] at this;exact this.2.1
theorem ok_n{l:List Int}:l.length≤lnI l:=by
 induction l with
 | nil=>exact J9g _
 | cons x l ih=>rw [lnI,J80];omega
theorem Jak(h:cntOk a)(hq:(a.op=1→True))(hs:∀ i,i < a.args.length→TL (txE (a.args.getD i default)) (lnE (a.args.getD i default)))(h10:¬ a.op=10)(h11:¬ a.op=11):(plE a).length+10≤lnE a:=by
 rw [Jjs];have e:=qo a;have hq:=(Jf8 a.c.q).1;have o1:=h.o1;have o2:=h.o2;have n0:∀ hn:0 < a.n.length,(itoa (a.n.getD 0 0)).length≤lnI a.n:=fun hn=>Jsd hn;unfold Qb
 by_cases h1:a.op=1
 ·rw [if_pos h1];omega
 rw [if_neg h1]
 by_cases h2:a.op=2
 ·rw [if_pos h2];rw [J8z,J82];have:=n0 (cn1 h (by omega));omega
 rw [if_neg h2]
 by_cases h3:a.op=3
 ·rw [if_pos h3]
  have:=Xi (nm:=[71]) hs;simp only [J80,J81] at this;omega
 rw [if_neg h3]
 by_cases h4:a.op=4
 ·rw [if_pos h4]
  have:=Jee (nm:=[101,116,97,40]) (cn1 h (by omega));simp only [J80,J81] at this;omega
 rw [if_neg h4]
 by_cases h5:a.op=5
 ·rw [if_pos h5]
  have:=Jee (nm:=[116,104,101,116,97,40]) (cn1 h (by omega));simp only [J80,J81] at this;omega
 rw [if_neg h5]
 by_cases h6:a.op=6
 ·rw [if_pos h6];simp only [J80,J81];omega
 rw [if_neg h6]
 by_cases h7:a.op=7
 ·rw [if_pos h7];simp only [J80,J81];omega
 rw [if_neg h7]
 by_cases h8:a.op=8
 ·rw [if_pos h8];omega
 rw [if_neg h8]
 by_cases h9:a.op=9
 ·rw [if_pos h9]
  have:=Xi (nm:=[110,101,119,102,111,114,109]) hs;simp only [J80,J81] at this;omega
 rw [if_neg h9]
 by_cases h13:a.op=13
 ·rw [if_pos h13]
  have:=Xi (nm:=[86]) hs;simp only [J80,J81] at this;omega
 rw [if_neg h13]
 by_cases h14:a.op=14
 ·rw [if_pos h14]
  have:=Xi (nm:=[85]) hs;simp only [J80,J81] at this;omega
 rw [if_neg h14]
 by_cases h15:a.op=15
 ·rw [if_pos h15]
  have:=Xi (nm:=[84]) hs;simp only [J80,J81] at this;omega
 rw [if_neg h15]
 by_cases h16:a.op=16
 ·rw [if_pos h16]
  have:=Xi (nm:=[116,119,105,115,116]) hs;simp only [J80,J81] at this;omega
 rw [if_neg h16]
 by_cases h17:a.op=17
 ·rw [if_pos h17]
  have:=Xi (nm:=[115,101,114,114,101]) hs;simp only [J80,J81] at this;omega
 rw [if_neg h17]
 by_cases h18:a.op=18
 ·rw [if_pos h18]
  have:=Xi (nm:=[98,114,97,99,107,101,116]) hs;simp only [J80,J81] at this;omega
 rw [if_neg h18];have hop:a.op=12:=by omega
 have hl:=ca1 h (by omega);rw [Jdg hl];have h1:=(hs 0 hl).w;have h2:=Jnd hl;have h3:=n0 (cn1 h (by omega));unfold V2
 split <;> simp only [J8z,J80,J81] <;> omega
end
theorem Jdy:∀ a:GExpr,errE a=0→TL (txE a) (lnE a):=va fun a ih=>by
 intro h;obtain⟨h1,h2⟩:=qy h;have hc:=(Jb7 h1).1;have hs:∀ i,i < a.args.length→TL (txE (a.args.getD i default)) (lnE (a.args.getD i default)):=fun i hi=>ih i hi (Jck h2 hi);have e:=qo a;have hq:=(Jf8 a.c.q).2;have hs':(sgE a).length+10≤lnE a:=by
  by_cases h10:a.op=10
  ·rw [(z6 h10).1,vj h10]
   have:=Jl7 hs
   simp only [J8z,J80,J81];omega
  by_cases hn:negB a.op a.c.q=true
  ·rw [(zp hn).1];omega
  by_cases h11:a.op=11
  ·rw [(Jm1 h11).1]
   have:=Jn6 hs (by have:=ca2 hc (by omega);omega)
   omega
  ·rw [(zj h10 (by simpa using hn) h11).1];exact Jak hc (fun _=>trivial) hs h10 h11
 refine⟨?_,hs',fun h10 h11=>?_,?_⟩
 ·show(wrE a).length+5≤lnE a
  by_cases h10:a.op=10
  ·rw [vj h10]
   have:=Jl7 hs
   omega
  ·rw [Jaa h10,J8z]
   have:(if miE a=true then([45]:By) else []).length≤1:=by split <;> simp
   omega
 ·rw [qp] at h10 h11;exact Jak hc (fun _=>trivial) hs h10 h11
 ·rw [tx_q];omega
section
variable {a:GExpr} {i:Nat}
theorem Gd.wl(h:Gd a):(wrE a).length≤1000000000:=by have:=(Jdy a h.er).w;have:=h.ln;unfold wrE;omega
theorem Gd.sl(h:Gd a):(sgE a).length≤1000000000:=by have:=(Jdy a h.er).s;have:=h.ln;unfold sgE;omega
theorem Gd.pl(h:Gd a)(h10:¬ a.op=10)(h11:¬ a.op=11):(plE a).length≤1000000000:=by
 have:=(Jdy a h.er).p (by rw [qp];exact h10) (by rw [qp];exact h11);have:=h.ln;unfold plE;omega
theorem Gd.ql(h:Gd a):(qTxt (-a.c.q)).length≤1000000000:=by have:=(Jdy a h.er).q;rw [tx_q] at this;have:=h.ln;omega
theorem Gd.al(h:Gd a):8 * a.args.length≤1000000000:=by
 have h1:=h.ln;rw [qo] at h1
 have:∀ l:List GExpr,8 * l.length≤lnL l:=by
  intro l
  induction l with
  | nil=>exact J9g _
  | cons x l ih=>rw [lnL,J80];omega
 have:=this a.args
 omega
theorem Gd.il(h:Gd a):lnI a.n≤1000000000:=by have h1:=h.ln;rw [qo] at h1;omega
theorem Gd.sms(h:Gd a):Jn a.c.num.mag∧Jn a.c.den.mag:=by
 obtain⟨X,w,v,hr⟩:=h.sm;obtain⟨_,_,_,_,_,_,_,_,_,h'⟩:=J8e hr;exact⟨h'.num.u32_small,h'.den.u32_small⟩
theorem Gd.n1(h:Gd a):(ofQ (-a.c.q)).num.mag.length≤1000:=by rw [K2];exact J86 (Kd h.sms.1) h.m1
theorem Gd.n2(h:Gd a):(ofQ (-a.c.q)).den.mag.length≤1001:=by rw [Qt];exact J86 (Ke h.sms.2) (Nat.succ_le_succ h.m2)
theorem Q5{x y t:By}{k:Nat}(h:x++y=t)(hk:t.length≤k):x.length≤k:=by rw [← h,J8z] at hk;omega
theorem Jvz{l:List Int}{p:List By}(hi:i < l.length)(hp:p=za (l.take i)):p++[itoa (l.getD i 0)]=za (l.take (i+1)):=by
 rw [hp];unfold za;rw [List.take_succ_eq_append_getElem hi,List.map_append,J9d,J9f hi];rfl
theorem Jqy{l:List Int}{p:List By}(hi:l.length≤i)(hp:p=za (l.take i)):join p [44,32]=Y3 l:=by
 rw [hp,J9o hi];rfl
theorem Jls{l:List Int}{p:List By}(hi:i≤l.length)(hp:p=za (l.take i)):p.length=i:=by
 rw [hp];unfold za;rw [List.length_map,J9b];omega
theorem ng_t(h:a.op=1):decide (K5 a.c.q < 0)=negB a.op a.c.q:=by unfold negB;rw [J84 h,Bool.true_and]
theorem ng_f(h:¬ a.op=1):false=negB a.op a.c.q:=by unfold negB;rw [J83 h,Bool.false_and]
def caR(a:GExpr)(i:Nat):By:=Xe (decide (0 < i∨¬ a.n=[])) (txL (a.args.drop i))++[41]
section
variable {nm out T:By}
theorem Jfq:(0:Int) < ((a.n.length:Nat):Int)↔¬ a.n=[]:=by
 have h:0 < a.n.length↔¬ a.n=[]:=List.length_pos_iff;rw [← h];omega
theorem ca_0(h:¬ (0:Int) < ((a.n.length:Nat):Int)):(nm++[40])++caR a 0=Zf nm a.n (txL a.args):=by
 have h1:a.n=[]:=by
  rcases Nat.eq_zero_or_pos a.n.length with e | e
  ·exact J9n e
  ·omega
 unfold caR Zf;rw [h1,if_pos rfl,List.drop_zero,J92,J89 (nm++[40])];rfl
theorem ca_1(h:(0:Int) < ((a.n.length:Nat):Int)):((nm++[40])++Y3 a.n)++caR a 0=Zf nm a.n (txL a.args):=by
 have h1:=Jfq.1 h;unfold caR Zf;rw [if_neg h1,List.drop_zero,← J89];simp [h1]
theorem Jg1(hM:out++caR a i=T)(hi:i < a.args.length)(h:(0:Int) < (i:Int)∨(0:Int) < ((a.n.length:Nat):Int)):((out++[44,32])++wrE (a.args.getD i default))++caR a (i+1)=T:=by
 have h1:0 < i∨¬ a.n=[]:=h.imp (by omega) Jfq.1;rw [← hM];unfold caR;rw [Zt hi,txL,Xe,J84 h1,J84 (show 0 < i+1∨¬ a.n=[] from .inl (Nat.succ_pos _)),if_pos rfl];simp only [J89];rfl
theorem Jqk(hM:out++caR a i=T)(hi:i < a.args.length)(h1:¬ (0:Int) < (i:Int))(h2:¬ (0:Int) < ((a.n.length:Nat):Int)):(out++wrE (a.args.getD i default))++caR a (i+1)=T:=by
 have h3:¬ (0 < i∨¬ a.n=[]):=fun h=>h.elim (by omega) (fun h=>h2 (Jfq.2 h));rw [← hM];unfold caR;rw [Zt hi,txL,Xe,J83 h3,J84 (show 0 < i+1∨¬ a.n=[] from .inl (Nat.succ_pos _)),if_neg (by decide),J9t];simp only [J89];rfl
theorem Jr8(hM:out++caR a i=T)(hi:a.args.length≤i):out++[41]=T:=by
 rw [← hM];unfold caR;rw [J9s hi,txL,Xe,J9t]
theorem Jzo(h:Gd a)(hn:nm.length≤100):(Zf nm a.n (txL a.args)).length≤1000000100:=by
 have h1:=Xi (nm:=nm) (a:=a) fun i hi=>Jdy _ (h.arg hi).er
 have:=h.ln;omega
end
theorem pl_1(h:a.op=1):qTxt a.c.q=plE a:=by rw [Jjs];unfold Qb;rw [if_pos h]
theorem V9{k:Int}(h:a.op=k):Qb k a.n a.c.q a.name (txL a.args)=plE a:=by rw [Jjs,h]
theorem pl_2(h:a.op=2):[69]++itoa (a.n.getD 0 0)=plE a:=by rw [← V9 h];rfl
theorem pl_3(h:a.op=3):Zf [71] a.n (txL a.args)=plE a:=by rw [← V9 h];rfl
theorem pl_4(h:a.op=4):etaT [101,116,97,40] a.n=plE a:=by rw [← V9 h];rfl
theorem pl_5(h:a.op=5):etaT [116,104,101,116,97,40] a.n=plE a:=by rw [← V9 h];rfl
theorem pl_6(h:a.op=6):[68,101,108,116,97]=plE a:=by rw [← V9 h];rfl
theorem pl_7(h:a.op=7):[106]=plE a:=by rw [← V9 h];rfl
theorem pl_8(h:a.op=8):a.name=plE a:=by rw [← V9 h];rfl
theorem pl_9(h:a.op=9):Zf [110,101,119,102,111,114,109] a.n (txL a.args)=plE a:=by rw [← V9 h];rfl
theorem Jol(h:a.op=13):Zf [86] a.n (txL a.args)=plE a:=by rw [← V9 h];rfl
theorem Jpb(h:a.op=14):Zf [85] a.n (txL a.args)=plE a:=by rw [← V9 h];rfl
theorem Jns(h:a.op=15):Zf [84] a.n (txL a.args)=plE a:=by rw [← V9 h];rfl
theorem Jpz(h:a.op=16):Zf [116,119,105,115,116] a.n (txL a.args)=plE a:=by rw [← V9 h];rfl
theorem Jn8(h:a.op=17):Zf [115,101,114,114,101] a.n (txL a.args)=plE a:=by rw [← V9 h];rfl
theorem Jnx(h:a.op=18):Zf [98,114,97,99,107,101,116] a.n (txL a.args)=plE a:=by rw [← V9 h];rfl
theorem Jez(h:a.op=12)(hl:0 < a.args.length){t:By}(ht:t=V2 (txE (a.args.getD 0 default))):(t++[94])++itoa (a.n.getD 0 0)=plE a:=by
 rw [← V9 h,ht,← Jdg hl];rfl
theorem bs_t(h:a.op=10∨a.op=11∨a.op=12∨a.op=1):([40]++wrE a)++[41]=V2 (txE a):=by
 unfold V2;rw [qp,if_pos h];rfl
theorem bs_f(h:¬ (a.op=10∨a.op=11∨a.op=12∨a.op=1)):wrE a=V2 (txE a):=by
 unfold V2;rw [qp,if_neg h];rfl
theorem Jso{nm:By}(h:Gd a)(hn:nm.length≤10)(h0:0 < a.n.length):(etaT nm a.n).length≤1000000000:=by
 have:=Jee (nm:=nm) h0;have:=h.ln;omega
theorem fa_1(h:a.op=10∨a.op=11∨negB a.op a.c.q=true):([40]++wrE a)++[41]=(txE a).f:=by
 unfold Tx.f;rw [qp,Jat,if_pos h];rfl
theorem fa_0(h1:¬ a.op=10)(h2:¬ a.op=11)(h3:negB a.op a.c.q=false):plE a=(txE a).f:=by
 unfold Tx.f;rw [qp,Jat,if_neg (by rw [h3];simp [h1,h2])];rfl
theorem Jhh{p:Rat}:qcmp p (Rat.divInt 1 1)=0↔p=1:=by
 have e:Rat.divInt 1 1=1:=by rfl
 rw [e];unfold qcmp K5;rw [Int.sign_eq_zero_iff_zero,Rat.num_eq_zero]
 constructor
 ·intro h;have h2:p=p - 1+1:=by rw [Rat.sub_eq_add_neg,Rat.add_assoc,Rat.neg_add_cancel,Rat.add_zero]
  rw [h2,h,Rat.zero_add]
 ·intro h;rw [h,Rat.sub_eq_add_neg,Rat.add_neg_cancel]
section
variable {p:List By} {l:List GExpr}
theorem Jc7(h:a.op=11)(hl:2≤a.args.length):((txL a.args).getD 0 Tx0).neg=negB (a.args.getD 0 default).op (a.args.getD 0 default).c.q∧((txL a.args).getD 0 Tx0).q=(a.args.getD 0 default).c.q∧((txL a.args).getD 1 Tx0).op=(a.args.getD 1 default).op:=by
 rw [Jdg (by omega),Jdg (by omega),Jat,tx_q,qp];exact⟨rfl,rfl,rfl⟩
theorem Jc8(h:a.op=11)(hl:2≤a.args.length):negB (a.args.getD 0 default).op (a.args.getD 0 default).c.q=miE a:=by
 rw [(Jm1 h).2,(Jc7 h hl).1]
theorem sg_p(h:a.op=11)(hl:2≤a.args.length)(hn:negB (a.args.getD 0 default).op (a.args.getD 0 default).c.q=false):sgE a=join ([]++facT (txL a.args)) [42]:=by
 rw [(Jm1 h).1];unfold Jai;rw [(Jc7 h hl).1,hn,if_neg (by decide)];rfl
theorem Jhe:(txL a.args).drop 1=txL (a.args.drop 1):=by rw [Jbk,Jbk,List.map_drop]
theorem Jhx(h:a.op=11)(hl:2≤a.args.length)(hn:negB (a.args.getD 0 default).op (a.args.getD 0 default).c.q=true)(hc:¬ (-(a.args.getD 0 default).c.q=1)∨(a.args.getD 1 default).op=1):
  sgE a=join ([qTxt (-(a.args.getD 0 default).c.q)]++facT (txL (a.args.drop 1))) [42]:=by
 rw [(Jm1 h).1];unfold Jai;rw [(Jc7 h hl).1,(Jc7 h hl).2.1,(Jc7 h hl).2.2,hn,if_pos rfl,if_pos hc,Jhe]
theorem Jfd(h:a.op=11)(hl:2≤a.args.length)(hn:negB (a.args.getD 0 default).op (a.args.getD 0 default).c.q=true)(hc: -(a.args.getD 0 default).c.q=1)(hc2:¬ (a.args.getD 1 default).op=1):
  sgE a=join ([]++facT (txL (a.args.drop 1))) [42]:=by
 rw [(Jm1 h).1];unfold Jai;rw [(Jc7 h hl).1,(Jc7 h hl).2.1,(Jc7 h hl).2.2,hn,if_pos rfl,if_neg (fun h=>h.elim (fun k=>k hc) hc2),Jhe]
theorem Jlw(hQ:sgE a=join (p++facT (txL (l.drop i))) [42])(hi:i < l.length){x:By}(hx:x=(txE (l.getD i default)).f):sgE a=join ((p++[x])++facT (txL (l.drop (i+1)))) [42]:=by
 rw [hQ,Zt hi,txL,facT,J93,← hx,J89];rfl
theorem Jhr(hQ:sgE a=join (p++facT (txL (l.drop i))) [42])(hi:l.length≤i):sgE a=join p [42]:=by
 rw [hQ,J9s hi,txL,facT,List.map_nil,J92]
theorem zl{P:GExpr→Prop}(h:∀ i,i < a.args.length→P (a.args.getD i default)):∀ i,i < (a.args.drop 1).length→P ((a.args.drop 1).getD i default):=by
 intro i hi;rw [J9a] at hi
 have:=h (i+1) (by omega)
 rwa [J9d,List.getElem?_drop,Nat.add_comm 1 i,← J9d]
end
def sumX(i:Nat)(l:List GExpr):By:=if i=0 then sumT (txL l) else sumR (txL l)
section
variable {l:List GExpr} {out:By}
theorem Jkm(h:a.op=10):[]++sumX 0 (a.args.drop 0)=wrE a:=by rw [vj h,List.drop_zero];rfl
theorem su_w(h:¬ a.op=10):[]++sumX 0 ([a].drop 0)=wrE a:=by
 rw [Jaa h,List.drop_zero];unfold sumX;rw [if_pos rfl,txL,txL,sumT,sumR,J92,J9t];rfl
theorem Jp3(hM:out++sumX i (l.drop i)=wrE a)(hi:i < l.length)(h0:((i:Nat):Int)=0)(ho:i=0→out=[])(hm:miE (l.getD i default)=true):([45]++sgE (l.getD i default))++sumX (i+1) (l.drop (i+1))=wrE a:=by
 obtain rfl:i=0:=by omega
 rw [← hM,ho rfl];unfold sumX;rw [if_pos rfl,if_neg (by omega),Zt hi,txL,sumT];unfold miE at hm;rw [hm,if_pos rfl];simp only [J9t,J89];rfl
theorem Jpa(hM:out++sumX i (l.drop i)=wrE a)(hi:i < l.length)(h0:((i:Nat):Int)=0)(hm:miE (l.getD i default)=false):(out++sgE (l.getD i default))++sumX (i+1) (l.drop (i+1))=wrE a:=by
 obtain rfl:i=0:=by omega
 rw [← hM];unfold sumX;rw [if_pos rfl,if_neg (by omega),Zt hi,txL,sumT];unfold miE at hm;rw [hm,if_neg (by decide)];simp only [J9t,J89];rfl
theorem Jou(hM:out++sumX i (l.drop i)=wrE a)(hi:i < l.length)(h0:¬ ((i:Nat):Int)=0)(hm:miE (l.getD i default)=true):((out++[32,45,32])++sgE (l.getD i default))++sumX (i+1) (l.drop (i+1))=wrE a:=by
 rw [← hM];unfold sumX;rw [if_neg (show ¬ i=0 by omega),if_neg (by omega),Zt hi,txL,sumR];unfold miE at hm;rw [hm,if_pos rfl];simp only [J89];rfl
theorem Jpm(hM:out++sumX i (l.drop i)=wrE a)(hi:i < l.length)(h0:¬ ((i:Nat):Int)=0)(hm:miE (l.getD i default)=false):((out++[32,43,32])++sgE (l.getD i default))++sumX (i+1) (l.drop (i+1))=wrE a:=by
 rw [← hM];unfold sumX;rw [if_neg (show ¬ i=0 by omega),if_neg (by omega),Zt hi,txL,sumR];unfold miE at hm;rw [hm,if_neg (by decide)];simp only [J89];rfl
theorem Jjm(hM:out++sumX i (l.drop i)=wrE a)(hi:l.length≤i):out=wrE a:=by
 rw [← hM,J9s hi];unfold sumX;rw [txL]
 split <;> simp [sumT,sumR]
end
end
def prE(a:GExpr):By × Int:=if Zs a=0 then(if 4000 < (wrE a).length then([],7) else(wrE a,0)) else([],Zs a)
theorem Jpc{a:GExpr}(h:¬ Zs a=0):([],Zs a)=prE a:=by unfold prE;rw [if_neg h]
theorem Jvh{a:GExpr}(h:Zs a=0)(h2:(4000:Int) < (((wrE a).length:Nat):Int)):([],7)=prE a:=by unfold prE;rw [if_pos h,if_pos (by omega)]
theorem Jt9{a:GExpr}(h:Zs a=0)(h2:¬ (4000:Int) < (((wrE a).length:Nat):Int)):(wrE a,0)=prE a:=by unfold prE;rw [if_pos h,if_neg (by omega)]
theorem Jza(o:Int): -1000000≤lA o:=by unfold lA;(repeat' split) <;> omega
theorem Jx5(o:Int):lB o≤1000000:=by unfold lB;(repeat' split) <;> omega
theorem cB_le{o:Int}(h:1≤o)(h2:o≤18):cB o≤65:=by unfold cB;(repeat' split) <;> omega
theorem Jqb:∀ {l:List Int},(∀ i,i < l.length→ -1000000≤l.getD i 0∧l.getD i 0≤1000000)→lnI l≤12 * l.length
 | [],_=>J9g _
 | x::l,h=>by
  have h0:=h 0 (by simp);simp only [J9u] at h0;have h1:=Jbq x 7 (by have:(10:Nat) ^ (7+1)=100000000:=(by decide);omega)
  have h2:=Jqb (l:=l) fun i hi=>by
   have:=h (i+1) (by simpa using hi)
   simpa only [List.getD_cons_succ] using this
  rw [lnI,J80];omega
theorem J0n{a:GExpr}(h:okE a)(hs:Jn a.c.num.mag∧Jn a.c.den.mag):lnQ a.c.q≤30100:=by
 rw [Xq] at h;have h1:=Kd hs.1;have h2:=Ke hs.2;have e1:(ofZ (a.c.q).num).mag=(ofQ a.c.q).num.mag:=rfl;have e2:(ofZ (-(a.c.q).num)).mag=(ofQ (-a.c.q)).num.mag:=by rw [← (Jfv a.c.q).1];rfl
 have e3:(ofZ ((a.c.q).den:Int)).mag=(ofQ a.c.q).den.mag:=rfl;have i1:=yv (a.c.q).num;have i2:=yv (-(a.c.q).num);have i3:=yv ((a.c.q).den:Int);rw [e1] at i1;rw [e2,K2] at i2;rw [e3] at i3;unfold lnQ;omega
theorem sm_s{a:GExpr}(h:smE a):Jn a.c.num.mag∧Jn a.c.den.mag:=by
 obtain⟨X,w,v,hr⟩:=h;obtain⟨_,_,_,_,_,_,_,_,_,h'⟩:=J8e hr;exact⟨h'.num.u32_small,h'.den.u32_small⟩
theorem Jgu:∀ {l:List GExpr},(∀ i,i < l.length→lnE (l.getD i default)+8≤40000 * cntE (l.getD i default))→lnL l≤40000 * cntL l
 | [],_=>J9g _
 | a::l,h=>by
  have h0:=h 0 (by simp);simp only [J9u] at h0;have h2:=Jgu (l:=l) fun i hi=>by
   have:=h (i+1) (by simpa using hi)
   simpa only [List.getD_cons_succ] using this
  rw [lnL,cntL,J9r];omega
theorem Jtm:∀ a:GExpr,errE a=0→okE a→smE a→lnE a+8≤40000 * cntE a:=va fun a ih=>by
 intro he ho hs;obtain⟨h1,h2⟩:=qy he;obtain⟨hc,_,hr⟩:=Jb7 h1;have hl:=Jgu (l:=a.args) fun i hi=>ih i hi (Jck h2 hi) (xq ho hi) (Jli hs hi);have hq:=J0n ho (sm_s hs);have hn:=Jqb (l:=a.n) fun i hi=>⟨Int.le_trans (Jza _) (hr i hi).1,Int.le_trans (hr i hi).2 (Jx5 _)⟩;have hb:=cB_le hc.o1 hc.o2;have hn2:=hc.n2;have hnm:a.name.length≤1000:=by rw [Xq] at ho;exact ho.2.2.1
 rw [qo,K3,J9r];omega
theorem Jbm{a:GExpr}(h:Zs a=0)(ho:okE a)(hs:smE a):Gd a:=by
 unfold Zs at h
 split at h
 ·rename_i hc
  refine⟨h,ho,?_,hs⟩
  have:=Jtm a h ho hs
  omega
 ·simp at h
end Go.Wf
namespace Go.Wf
open Go Go.Proofs Go.RowKit
abbrev WrA(e:GExpr):Prop:=∀ {X:Nat→Prop} {w:World},(∀ b,X b→b < w.heap.size)→∀ {v:Value},RV Jf X w v e→T10 X w→Calls Tryz.prog 39 #[v] w (Ret w fun v' w'=>v'=str (wrE e))
abbrev PlA(e:GExpr):Prop:=¬ e.op=10→¬ e.op=11→∀ {X:Nat→Prop} {w:World},(∀ b,X b→b < w.heap.size)→∀ {v:Value},RV Jf X w v e→T10 X w→Calls Tryz.prog 107 #[v] w (Ret w fun v' w'=>v'=str (plE e))
abbrev SgA(e:GExpr):Prop:=∀ {X:Nat→Prop} {w:World},(∀ b,X b→b < w.heap.size)→∀ {v:Value},RV Jf X w v e→T10 X w→Calls Tryz.prog 73 #[v] w (Ret w fun v' w'=>∃ v0 v1,v'= .tuple #[v0,v1]∧(v0=str (sgE e))∧(v1= .bool (miE e)))
theorem Jj1{X:Nat→Prop}{w:World}(hX:XB X w){K:Value}{l:List Int}(d:RS Zi X w K l)(hT:T10 X w)(hln:lnI l≤1000000000):CRt 156 #[K] w fun v w'=>v=(str (Y3 l)):=by
 obtain⟨a1,G,rfl,_,_⟩:=d.len;have C:=J4z hX;have ab:=ok_n (l:=l);refine Cgo (args:=[(.slice a1 l.length G)]) Tryz.func156 rfl rfl rfl (Rg<|Ua<|Rg<|Ua<|Rh<|Ub<|St.len sl23 rfl<|Om<|Nl<|W.block<|J5e (fun μ f v=>∃ (x y:Nat→Prop) (i:Nat) (p:List (List UInt8)) (pa:Option Addr) (pc:Nat),Cx X w x y v∧f 2=(str [])∧f 6=(.slice a1 l.length G)∧f 7=(.int .i64 ((l.length:Nat):Int))∧f 8=(.int .i64 ((i:Nat):Int))∧f 3=(.slice pa p.length pc)∧RS Zi x v (.slice a1 l.length G) l∧T10 x v∧OS K6 9 w x y v (.slice pa p.length pc) p∧i≤l.length∧p=za (l.take i)∧μ=(l.length - i)) _ ⟨_,_,0,[],none,0,C,rfl,rfl,rfl,rfl,rfl,d,hT,J8k,(J9h _),rfl,rfl⟩ ?_);rintro ac f3 w4 ⟨x5,y6,i,p,pa,pc,H,L,M,m,o,r,d,hT,hP,hi,hp,Z⟩;obtain⟨ad,rfl⟩:=rebK (aC L<|aC M<|aC m<|aC o<|aC r aN);clear L M m o r;refine Rg<|Ol<|J5c rfl rfl (fun I=>?_)<|fun I=>?_
 ·refine Nl (J40<|Ud<|J4v<|J40<|W.block<|Rg<|Ol<|J49 (j:=i) (u:=(l.getD i 0)) d sl23 io3 rfl rfl rfl (Jc (by omega)) ?_);intro ae af J s;obtain⟨rfl,e⟩:J=_∧_:=s.rd;refine Ol (J44 pl3 rfl (s.cell 0 _ rfl)<|Ua<|J4u<|Om<|Ub<|J4p H Jd3 rfl rfl (Jdq H.bd hT e.1 e.2) ?_);intro ag ah A g N;replace d:=d.sp g;replace hT:=hT.sp g;subst N;refine Ol (J5f (T:=K6) (css:=[[(str<|Lib.itoa<|l.getD i 0)]]) (l:=[(Lib.itoa<|l.getD i 0)]) A sl50 io9 (by decide) (by decide) rfl (by kernel_rfl) ⟨⟨rfl,(J1c e.1 e.2)⟩,trivial⟩ ?_);intro ai aj B k P;replace hP:=(hP.sp g A<|fun _ h=>h).sp k B (fun _ h=>h)
  refine Ol (J5k (T:=K6) B sl50 io9 rfl rfl hP (Yi P) (by rw [J82,Jls (by omega) hp];simp only [maxLen];omega) (by rw [J82,Jls (by omega) hp];omega) rfl ?_);intro ak am an Q D ao E;replace d:=(d.sp k).tr D.tx;replace hT:=(hT.sp k).tr D.tx;obtain⟨R,S,rfl,_,_⟩:=E.len;refine Ua<|J4u<|Ol<|St.add rfl rfl (Ja (a:=i) (b:=1) (by omega))<|Om<|Nl<|⟨_,(by omega),_,_,(i+1),(p++[(Lib.itoa<|l.getD i 0)]),R,S,Q,rfl,rfl,rfl,rfl,rfl,d,hT,E,(by omega),(Jvz (by omega) hp),rfl⟩
 refine Nl (J40<|Ue<|J5i<|Rg<|Om ?_);obtain⟨aq,F,aa,U⟩:=hP.freeze H hX;refine Ol (J4p F Jvf rfl rfl (Jl3 F.bd U (by rw [Jls (by omega) hp];omega) (by rw [Jqy (by omega) hp];exact J86 (Y9 l) (by omega))) ?_);intro ar au V av Y;subst Y;exact Ua<|J4y<|Wq rfl rfl V<|J87 (str)<|(Jqy (by omega) hp)
theorem Je6{X:Nat→Prop}{w:World}(hX:XB X w){h:Value}{a:GExpr}(r:RV Jf X w h a)(B:a.c.num.mag.length≤1000)(D:a.c.den.mag.length≤1000):CRt 104 #[h] w fun v w'=>v=(.bool (negB a.op a.c.q)):=by
 obtain⟨a1,s,i,j,k,l,x,y,rfl,e⟩:=J8e r;have C:=J4z hX;refine Cgo (args:=[(ea a a1 s i j k l x y)]) Tryz.func104 rfl rfl rfl (Rg<|Ol<|J5a C rfl ?_);intro E F G H A d m g;replace e:=e.sp m;refine Ua<|Rg<|Ol<|J4o Js rfl<|Ol<|J4t g pl3 rfl rfl<|Ol<|J42 rfl rfl (fun b=>?_)<|fun b=>?_
 ·refine Om (OgD<|J4o Z6 rfl<|OgD<|Uo (vs:=[(.bool a.c.num.neg),(.slice i a.c.num.mag.length j),(.bool a.c.den.neg),(.slice k a.c.den.mag.length l)]) g ag28<|OgD<|J4p d Jia rfl rfl (ye d.bd (a:=a.c) (Za e.num e.den) (by omega) (by omega)) ?_);intro I J o K p;subst p;exact OgD<|J56 rfl rfl rfl<|OT<|Ua<|J4y<|Wq rfl rfl o<|J87 (Value.bool)<|(ng_t b)
 exact Om<|Oz<|Oz<|Oz<|Oz<|OF<|Ua<|J4y<|Wq rfl rfl d<|J87 (Value.bool)<|(ng_f b)
theorem Jvd{X:Nat→Prop}{w:World}(hX:XB X w){nm:List UInt8}{g:Nat}{cs:List Value}{a:GExpr}(rE:ElAt Jf X w g 0 cs a)(hT:T10 X w)(hg:Gd a)(hnm:nm.length≤100)(hW:∀ i,i < a.args.length→WrA (Ar a i)):CRt 155 #[(str nm),(.pointer (some ⟨g,0,none⟩))] w fun v w'=>v=(str (Zf nm a.n (txL a.args))):=by
 obtain⟨a1,c2,a3,c4,a5,c6,a7,c8,rfl,d⟩:=Jd rE.rd;have C:=J4z hX;have hcl:=Jzo hg hnm;have hal:=hg.al;have hil:=hg.il;have hlt:=Y9 a.n;refine Cgo (args:=[(str nm),(.pointer (some ⟨g,0,none⟩))]) Tryz.func155 rfl rfl rfl (Rg<|Ua<|Rg<|Ub<|J43 rfl rfl (by (try simp only [J8z,J80,J81]);omega)<|Ua<|Rh<|Ol<|J4o Zb rfl ?_);refine Ol<|J44 pl23 rfl (rE.cell 1 _ rfl)<|Ol<|St.len sl23 rfl<|Ol<|J5o rfl rfl (fun S=>?_)<|fun S=>?_
 ·refine Nl (Uk<|Ub<|J4o Zb rfl<|Ol<|J44 pl23 rfl (rE.cell 1 _ rfl)<|Ol<|J4p C Jtg rfl rfl (Jj1 C.bd d.n hT hil) ?_);intro br bs aU ae aV;replace d:=d.sp ae;replace rE:=rE.sp ae;replace hT:=hT.sp ae;subst aV;refine Ol (J43 rfl rfl (by (try simp only [J8z,J80,J81]);omega)<|Ua<|Rh<|Ol<|J4o J1 rfl<|Ol<|J44 pl29 rfl (rE.cell 7 _ rfl)<|Ol<|St.len sl29 rfl<|Om<|Nl<|W.block<|J5e (fun μ f v=>∃ (x y:Nat→Prop) (i:Nat) (out:List UInt8),Cx X w x y v∧f 1=(.pointer (some ⟨g,0,none⟩))∧f 3=(str [])∧f 19=(.slice a7 a.args.length c8)∧f 20=(.int .i64 ((a.args.length:Nat):Int))∧f 21=(.int .i64 ((i:Nat):Int))∧f 4=(str out)∧ExprParts x v a a1 c2 a3 c4 a5 c6 a7 c8∧ElAt Jf x v g 0 (ec a a1 c2 a3 c4 a5 c6 a7 c8) a∧T10 x v∧i≤a.args.length∧out++caR a i=Zf nm a.n (txL a.args)∧μ=(a.args.length - i)) _ ⟨_,_,0,((nm++[40])++(Y3 a.n)),aU,rfl,rfl,rfl,rfl,rfl,rfl,d,rE,hT,(J9h _),(ca_1 S),rfl⟩ ?_);rintro bt bu bv ⟨bw,bx,i,out,aq,ar,au,av,aw,ax,ay,d,rE,hT,hi,hM,a9⟩;obtain⟨bz,rfl⟩:=rebK (aC ar<|aC au<|aC av<|aC aw<|aC ax<|aC ay aN);clear ar au av aw ax ay;refine Rg<|Ol<|J5c rfl rfl (fun aJ=>?_)<|fun aJ=>?_
  ·refine Nl (J40<|Ud<|J4v<|J40<|W.block<|J40 ?_);have hol:=Q5 hM hcl;refine J4u (Ub<|J49 (j:=i) (u:=(Ar a i)) d.args sl29 io31 rfl rfl rfl (Jc (by omega)) ?_);intro bA bB bc az;obtain⟨s,A,B,D,E,F,G,H,rfl,I⟩:=Jd az.rd;refine Ol (J5l (cs:=(ec (Ar a i) s A B D E F G H)) ag31 rfl rfl az.cell<|Ol<|J41 aq io31 rfl ?_);intro bC bD bE bF be aW ab aX;replace d:=d.sp ab;refine Oa (On<|Us (cs':=(ec (Ar a i) s A B D E F G H)) aW aX io31 ?_);intro bG l m af;replace rE:=(rE.sp ab).sp m;replace hT:=(hT.sp ab).sp m;replace I:=(I.sp ab).sp m;refine Nl<|Rh<|Ub<|J5o rfl rfl (fun T=>?_)<|fun T=>?_
   ·refine Om (Oz<|Oz<|Oz<|Oz<|OT<|Nl<|Uk<|Ub<|J43 rfl rfl (by (try simp only [J8z,J80,J81]);omega)<|Oa<|Nl ?_);have hwl:=(hg.arg (i:=i) (by omega)).wl;refine J4u (Ub<|Uo (vs:=(ec (Ar a i) s A B D E F G H)) af ag31<|Ol<|J4p l cb39 rfl rfl (hW i (by omega) l.bd (Mx (Ar a i) I) hT) ?_);intro bH bI aY ag aZ;replace d:=(d.sp m).sp ag;replace rE:=rE.sp ag;replace hT:=hT.sp ag;subst aZ;refine Ol<|J43 rfl rfl (by (try simp only [J8z,J80,J81]);unfold Ar at *;omega)<|Ua<|J4u<|Ol<|St.add rfl rfl (Ja (a:=i) (b:=1) (by omega))<|Om<|Nl<|⟨_,(by omega),_,_,(i+1),((out++[44,32])++(wrE<|Ar a i)),aY,rfl,rfl,rfl,rfl,rfl,rfl,d,rE,hT,(by omega),(Jg1 hM (by omega)<|.inl T),rfl⟩
   refine Om<|OgD<|J4o Zb rfl<|OgD<|J44 pl23 rfl (rE.cell 1 _ rfl)<|OgD<|St.len sl23 rfl<|OgD<|J5o rfl rfl (fun U=>?_)<|fun U=>?_
   ·refine OF (Nl<|Uk<|Ub<|J43 rfl rfl (by (try simp only [J8z,J80,J81]);omega)<|Oa<|Nl ?_);have hwl:=(hg.arg (i:=i) (by omega)).wl;refine J4u (Ub<|Uo (vs:=(ec (Ar a i) s A B D E F G H)) af ag31<|Ol<|J4p l cb39 rfl rfl (hW i (by omega) l.bd (Mx (Ar a i) I) hT) ?_);intro bJ bK a0 ah a4;replace d:=(d.sp m).sp ah;replace rE:=rE.sp ah;replace hT:=hT.sp ah;subst a4;refine Ol<|J43 rfl rfl (by (try simp only [J8z,J80,J81]);unfold Ar at *;omega)<|Ua<|J4u<|Ol<|St.add rfl rfl (Ja (a:=i) (b:=1) (by omega))<|Om<|Nl<|⟨_,(by omega),_,_,(i+1),((out++[44,32])++(wrE<|Ar a i)),a0,rfl,rfl,rfl,rfl,rfl,rfl,d,rE,hT,(by omega),(Jg1 hM (by omega)<|.inr U),rfl⟩
   refine OF (Nl<|Ue<|J4v ?_);have hwl:=(hg.arg (i:=i) (by omega)).wl;refine J4u (Ub<|Uo (vs:=(ec (Ar a i) s A B D E F G H)) af ag31<|Ol<|J4p l cb39 rfl rfl (hW i (by omega) l.bd (Mx (Ar a i) I) hT) ?_);intro bL bM a6 ai a8;replace d:=(d.sp m).sp ai;replace rE:=rE.sp ai;replace hT:=hT.sp ai;subst a8;refine Ol<|J43 rfl rfl (by (try simp only [J8z,J80,J81]);omega)<|Ua<|J4u<|Ol<|St.add rfl rfl (Ja (a:=i) (b:=1) (by omega))<|Om<|Nl<|⟨_,(by omega),_,_,(i+1),(out++(wrE<|Ar a i)),a6,rfl,rfl,rfl,rfl,rfl,rfl,d,rE,hT,(by omega),(Jqk hM (by omega) T U),rfl⟩
  refine Nl (J40<|Ue<|J5i<|J40 ?_);have hol:=Q5 hM hcl;exact J4u<|Ub<|J43 rfl rfl (by (try simp only [J8z,J80,J81]);omega)<|Ua<|J4y<|Wq rfl rfl aq<|J87 (str)<|(Jr8 hM (by omega))
 refine Nl (Uc<|Rh<|Ol<|J4o J1 rfl<|Ol<|J44 pl29 rfl (rE.cell 7 _ rfl)<|Ol<|St.len sl29 rfl<|Om<|Nl<|W.block<|J5e (fun μ f v=>∃ (x y:Nat→Prop) (i:Nat) (out:List UInt8),Cx X w x y v∧f 1=(.pointer (some ⟨g,0,none⟩))∧f 3=(str [])∧f 19=(.slice a7 a.args.length c8)∧f 20=(.int .i64 ((a.args.length:Nat):Int))∧f 21=(.int .i64 ((i:Nat):Int))∧f 4=(str out)∧ExprParts x v a a1 c2 a3 c4 a5 c6 a7 c8∧ElAt Jf x v g 0 (ec a a1 c2 a3 c4 a5 c6 a7 c8) a∧T10 x v∧i≤a.args.length∧out++caR a i=Zf nm a.n (txL a.args)∧μ=(a.args.length - i)) _ ⟨_,_,0,(nm++[40]),C,rfl,rfl,rfl,rfl,rfl,rfl,d,rE,hT,(J9h _),(ca_0 S),rfl⟩ ?_);rintro bN bO bP ⟨bQ,bR,i,out,aA,aB,aD,aE,aF,aG,aH,d,rE,hT,hi,hM,ba⟩;obtain⟨bS,rfl⟩:=rebK (aC aB<|aC aD<|aC aE<|aC aF<|aC aG<|aC aH aN);clear aB aD aE aF aG aH;refine Rg<|Ol<|J5c rfl rfl (fun aK=>?_)<|fun aK=>?_
 ·refine Nl (J40<|Ud<|J4v<|J40<|W.block<|J40 ?_);have hol:=Q5 hM hcl;refine J4u (Ub<|J49 (j:=i) (u:=(Ar a i)) d.args sl29 io31 rfl rfl rfl (Jc (by omega)) ?_);intro bT bU bf aI;obtain⟨J,K,L,M,N,P,Q,R,rfl,k⟩:=Jd aI.rd;refine Ol (J5l (cs:=(ec (Ar a i) J K L M N P Q R)) ag31 rfl rfl aI.cell<|Ol<|J41 aA io31 rfl ?_);intro bg bh bi bj bb aL o aM;replace d:=d.sp o;refine Oa (On<|Us (cs':=(ec (Ar a i) J K L M N P Q R)) aL aM io31 ?_);intro bk e h V;replace rE:=(rE.sp o).sp h;replace hT:=(hT.sp o).sp h;replace k:=(k.sp o).sp h;refine Nl<|Rh<|Ub<|J5o rfl rfl (fun p=>?_)<|fun p=>?_
  ·refine Om (Oz<|Oz<|Oz<|Oz<|OT<|Nl<|Uk<|Ub<|J43 rfl rfl (by (try simp only [J8z,J80,J81]);omega)<|Oa<|Nl ?_);have hwl:=(hg.arg (i:=i) (by omega)).wl;refine J4u (Ub<|Uo (vs:=(ec (Ar a i) J K L M N P Q R)) V ag31<|Ol<|J4p e cb39 rfl rfl (hW i (by omega) e.bd (Mx (Ar a i) k) hT) ?_);intro bl bm aO Y aP;replace d:=(d.sp h).sp Y;replace rE:=rE.sp Y;replace hT:=hT.sp Y;subst aP;refine Ol<|J43 rfl rfl (by (try simp only [J8z,J80,J81]);unfold Ar at *;omega)<|Ua<|J4u<|Ol<|St.add rfl rfl (Ja (a:=i) (b:=1) (by omega))<|Om<|Nl<|⟨_,(by omega),_,_,(i+1),((out++[44,32])++(wrE<|Ar a i)),aO,rfl,rfl,rfl,rfl,rfl,rfl,d,rE,hT,(by omega),(Jg1 hM (by omega)<|.inl p),rfl⟩
  refine Om<|OgD<|J4o Zb rfl<|OgD<|J44 pl23 rfl (rE.cell 1 _ rfl)<|OgD<|St.len sl23 rfl<|OgD<|J5o rfl rfl (fun r=>?_)<|fun r=>?_
  ·refine OF (Nl<|Uk<|Ub<|J43 rfl rfl (by (try simp only [J8z,J80,J81]);omega)<|Oa<|Nl ?_);have hwl:=(hg.arg (i:=i) (by omega)).wl;refine J4u (Ub<|Uo (vs:=(ec (Ar a i) J K L M N P Q R)) V ag31<|Ol<|J4p e cb39 rfl rfl (hW i (by omega) e.bd (Mx (Ar a i) k) hT) ?_);intro bn bo aQ Z aR;replace d:=(d.sp h).sp Z;replace rE:=rE.sp Z;replace hT:=hT.sp Z;subst aR;refine Ol<|J43 rfl rfl (by (try simp only [J8z,J80,J81]);omega)<|Ua<|J4u<|Ol<|St.add rfl rfl (Ja (a:=i) (b:=1) (by omega))<|Om<|Nl<|⟨_,(by omega),_,_,(i+1),((out++[44,32])++(wrE<|Ar a i)),aQ,rfl,rfl,rfl,rfl,rfl,rfl,d,rE,hT,(by omega),(Jg1 hM (by omega)<|.inr r),rfl⟩
  refine OF (Nl<|Ue<|J4v ?_);have hwl:=(hg.arg (i:=i) (by omega)).wl;refine J4u (Ub<|Uo (vs:=(ec (Ar a i) J K L M N P Q R)) V ag31<|Ol<|J4p e cb39 rfl rfl (hW i (by omega) e.bd (Mx (Ar a i) k) hT) ?_);intro bp bq aS aa aT;replace d:=(d.sp h).sp aa;replace rE:=rE.sp aa;replace hT:=hT.sp aa;subst aT;refine Ol<|J43 rfl rfl (by (try simp only [J8z,J80,J81]);unfold Ar at *;omega)<|Ua<|J4u<|Ol<|St.add rfl rfl (Ja (a:=i) (b:=1) (by omega))<|Om<|Nl<|⟨_,(by omega),_,_,(i+1),(out++(wrE<|Ar a i)),aS,rfl,rfl,rfl,rfl,rfl,rfl,d,rE,hT,(by omega),(Jqk hM (by omega) p r),rfl⟩
 refine Nl (J40<|Ue<|J5i<|J40 ?_);have hol:=Q5 hM hcl;exact J4u<|Ub<|J43 rfl rfl (by (try simp only [J8z,J80,J81]);omega)<|Ua<|J4y<|Wq rfl rfl aA<|J87 (str)<|(Jr8 hM (by omega))
theorem qj{X:Nat→Prop}{w:World}(hX:XB X w){nm:List UInt8}{g:Nat}{cs:List Value}{E:TypeId}{a:GExpr}(hB:Blk w g cs E)(hr:Jf.rd X w cs a)(hT:T10 X w)(hg:Gd a)(hnm:nm.length≤100)(hW:∀ i,i < a.args.length→WrA (Ar a i)):
  CRt 155 #[str nm,.pointer (some ⟨g,0,none⟩)] w (fun v w'=>v=str (Zf nm a.n<|txL a.args)):=
 Jvd (X:=fun b=>X b∧¬ b=g) (fun b h=>hX b h.1) (el_of (P:=Tryz.prog) hB (Jf.tr hr<|Tr.weak fun b h=>h.1)<|fun h=>h.2 rfl) (hT.tr<|Tr.weak fun b h=>h.1) hg hnm hW
end Go.Wf
namespace Go.Proofs
open Go.Shelf
def Tryz.lays171_ren:Go.Shelf.Ren:=⟨fun | 171=>157 | 243=>210 | 246=>236 | 283=>249 | 284=>250 | 285=>251 | 286=>252 | 129=>136 | 317=>266 | 318=>267 | 319=>268 | 320=>269 | 337=>274 | 338=>275 | n=>n,fun | 3=>3 | 9=>9 | 2=>2 | 4=>4 | 171=>221 | 0=>0 | 53=>140 | 37=>158 | 5=>5 | 173=>223 | 212=>236 | 51=>118 | 20=>20 | 213=>237 | 46=>110 | 232=>242 | 233=>243 | n=>n,fun | 17=>2 | 18=>3 | 19=>4 | n=>n⟩
theorem Tryz.lays171:Go.Proofs.Lays.n171 Tryz.prog Tryz.lays171_ren:={
 mixed:=by kernel_rfl
 f129:=Tryz.func136.trans (J87 some (by kernel_rfl))
 f171:=Tryz.func157.trans (J87 some (by kernel_rfl))
 f243:=Tryz.func210.trans (J87 some (by kernel_rfl))
 f246:=Tryz.func236.trans (J87 some (by kernel_rfl))
 f283:=Tryz.func249.trans (J87 some (by kernel_rfl))
 f284:=Tryz.func250.trans (J87 some (by kernel_rfl))
 f285:=Tryz.func251.trans (J87 some (by kernel_rfl))
 f286:=Tryz.func252.trans (J87 some (by kernel_rfl))
 f317:=Tryz.func266.trans (J87 some (by kernel_rfl))
 f318:=Tryz.func267.trans (J87 some (by kernel_rfl))
 f319:=Tryz.func268.trans (J87 some (by kernel_rfl))
 f320:=Tryz.func269.trans (J87 some (by kernel_rfl))
 f337:=Tryz.func274.trans (J87 some (by kernel_rfl))
 f338:=Tryz.func275.trans (J87 some (by kernel_rfl))
 t0:=Tryz.underlying0
 a0:=Tryz.isAgg0
 z0:=Tryz.sizeOf0
 v0:=Tryz.zeroValue0
 t2:=Tryz.underlying2
 a2:=Tryz.isAgg2
 z2:=Tryz.sizeOf2
 v2:=Tryz.zeroValue2
 t3:=Tryz.underlying3
 a3:=Tryz.isAgg3
 z3:=Tryz.sizeOf3
 v3:=Tryz.zeroValue3
 t4:=Tryz.underlying4
 a4:=Tryz.isAgg4
 z4:=Tryz.sizeOf4
 v4:=Tryz.zeroValue4
 t5:=Tryz.underlying5
 a5:=Tryz.isAgg5
 z5:=Tryz.sizeOf5
 v5:=Tryz.zeroValue5
 t9:=Tryz.underlying9
 a9:=Tryz.isAgg9
 z9:=Tryz.sizeOf9
 v9:=Tryz.zeroValue9
 t20:=Tryz.underlying20
 a20:=Tryz.isAgg20
 z20:=Tryz.sizeOf20
 v20:=Tryz.zeroValue20
 t37:=Tryz.underlying158
 a37:=Tryz.isAgg158
 z37:=Tryz.sizeOf158
 v37:=Tryz.zeroValue158
 t46:=Tryz.underlying110
 a46:=Tryz.isAgg110
 z46:=Tryz.sizeOf110
 v46:=Tryz.zeroValue110
 t51:=Tryz.underlying118
 a51:=Tryz.isAgg118
 z51:=Tryz.sizeOf118
 v51:=Tryz.zeroValue118
 t53:=Tryz.underlying140
 a53:=Tryz.isAgg140
 z53:=Tryz.sizeOf140
 v53:=Tryz.zeroValue140
 t171:=Tryz.underlying221
 a171:=Tryz.isAgg221
 z171:=Tryz.sizeOf221
 v171:=Tryz.zeroValue221
 t173:=Tryz.underlying223
 a173:=Tryz.isAgg223
 z173:=Tryz.sizeOf223
 v173:=Tryz.zeroValue223
 t212:=Tryz.underlying236
 a212:=Tryz.isAgg236
 z212:=Tryz.sizeOf236
 v212:=Tryz.zeroValue236
 t213:=Tryz.underlying237
 a213:=Tryz.isAgg237
 z213:=Tryz.sizeOf237
 t232:=Tryz.underlying242
 a232:=Tryz.isAgg242
 z232:=Tryz.sizeOf242
 v232:=Tryz.zeroValue242
 t233:=Tryz.underlying243
 a233:=Tryz.isAgg243
 z233:=Tryz.sizeOf243
 v233:=Tryz.zeroValue243
 g17:=by kernel_rfl
 g18:=by kernel_rfl
 g19:=by kernel_rfl}
end Go.Proofs
namespace Go.Wf
open Go Go.Lib
section
variable {a:GExpr}
theorem okm(h:okE a):a.c.num.mag.length≤1000∧a.c.den.mag.length≤1000:=by rw [Xq] at h;exact⟨h.1,h.2.1⟩
theorem d1_at{l:List GExpr}:(l.drop 1).getD 0 default=l.getD 1 default:=by
 rw [J9d,List.getElem?_drop,← J9d]
theorem ngm(h:a.op=1)(hq: -a.c.q=1):negB a.op a.c.q=true:=by
 have e:a.c.q= -1:=by rw [← hq,Rat.neg_neg]
 unfold negB;rw [h,e];rfl
end
end Go.Wf
namespace Go.Wf
open Go Go.Proofs Go.RowKit
theorem Jkp{X:Nat→Prop}{w:World}(hX:XB X w){n:Int}(a:0≤n)(b:n < 100):CRt 157 #[.int .i64 n] w fun v w'=>v=str (Lib.itoa n):=by
 obtain⟨k,rfl⟩:∃ k:Nat,n=k:=⟨n.toNat,by omega⟩
 refine(Any.strconv_Itoa_small Tryz.lays171 k (by omega) w).mono ?_
 rintro e w' ⟨rfl,rfl⟩;rw [Lib.itoa_nonneg];exact⟨rfl,Below.refl _ _⟩
abbrev WrS(e:GExpr):Prop:=∀ {X:Nat→Prop} {w:World},(∀ b,X b→b < w.heap.size)→∀ {v:Value},RV Jf X w v e→Calls Tryz.prog 39 #[v] w (Ret w fun v' w'=>v'=str (wrE e))
abbrev PlS(e:GExpr):Prop:=∀ {X:Nat→Prop} {w:World},(∀ b,X b→b < w.heap.size)→∀ {v:Value},RV Jf X w v e→Calls Tryz.prog 107 #[v] w (Ret w fun v' w'=>v'=str (plE e))
abbrev SgS(e:GExpr):Prop:=∀ {X:Nat→Prop} {w:World},(∀ b,X b→b < w.heap.size)→∀ {v:Value},RV Jf X w v e→Calls Tryz.prog 73 #[v] w (Ret w fun v' w'=>∃ v0 v1,v'= .tuple #[v0,v1]∧(v0=str (sgE e))∧(v1= .bool (miE e)))
theorem Jzr{X:Nat→Prop}{w:World}(hX:XB X w){v0:Value}{a:GExpr}(r0:RV Jf X w v0 a)(hb:a.op=2∨a.op=12)(hpn:0 < a.n.length)(hr:0≤a.n.getD 0 0∧a.n.getD 0 0 < 100)(hq:a.op=12→0 < a.args.length∧WrS (Ar a 0)∧(wrE (Ar a 0)).length≤1000∧(Ar a 0).op=2):CRt 107 #[v0] w fun v w'=>v=(str (plE a)):=by
 obtain⟨a1,P,Q,R,S,T,U,V,rfl,d⟩:=J8e r0;have C:=J4z hX;refine Cgo (args:=[(ea a a1 P Q R S T U V)]) Tryz.func107 rfl rfl rfl (Rg<|Ol<|J5a C rfl ?_);intro g ax ay az ar h ac b;replace d:=d.sp ac;refine Oa (Nl<|Rg<|Ol<|J60 (cs:=[(.pointer (some ⟨g,0,none⟩))]) rfl<|Ua<|Rh<|Ol<|J4o Js rfl<|Ol<|J4t b pl3 rfl rfl<|Nl<|W.block<|Rg<|Ol<|J5y (t:=false) rfl rfl (J83 (by omega))<|Oa<|Nl ?_);refine Ug<|Ol<|J42 rfl rfl (fun i=>?_)<|fun i=>?_
 ·refine Oa (Nl<|Uf<|Ol<|J4o Zb rfl<|Ol<|J4t b pl23 rfl rfl<|Ol<|J49 (j:=0) (u:=(a.n.getD 0 0)) d.n sl23 io3 rfl rfl rfl (Jc (by omega)) ?_);intro aA aB Y G;obtain⟨rfl,au⟩:Y=_∧_:=G.rd;refine Ol (J44 pl3 rfl (G.cell 0 _ rfl)<|Ol<|J4p h Jd3 rfl rfl (Jkp h.bd hr.1 hr.2) ?_);intro aD aE ad aF ae;subst ae;exact Ol<|J43 rfl rfl (by have:=Lib.itoa_length_le (a.n.getD 0 0) (by omega) (by omega);simp only [J8z,J80,J81];omega)<|Ua<|J4y<|Wq rfl rfl ad<|J87 (str)<|(pl_2 i)
 refine Oa (Nl<|Ug<|Ol<|J5y (t:=false) rfl rfl (J83 (by omega))<|Ua<|Ug<|Ol<|J5y (t:=false) rfl rfl (J83 (by omega))<|Ua<|Ug<|Ol<|J5y (t:=false) rfl rfl (J83 (by omega)) ?_);refine Oa (Nl<|Ug<|Ol<|J5y (t:=false) rfl rfl (J83 (by omega))<|Ua<|Ug<|Ol<|J5y (t:=false) rfl rfl (J83 (by omega))<|Ua<|Ug<|Ol<|J5y (t:=false) rfl rfl (J83 (by omega)) ?_);refine Oa (Nl<|Ug<|Ol<|J5y (t:=false) rfl rfl (J83 (by omega))<|Ua<|Ug<|Ol<|J5y (t:=false) rfl rfl (J83 (by omega))<|Ua<|Ug<|Ol<|J5y (t:=false) rfl rfl (J83 (by omega)) ?_);refine Oa (Nl<|Ug<|Ol<|J5y (t:=false) rfl rfl (J83 (by omega))<|Ua<|Ug<|Ol<|J5y (t:=false) rfl rfl (J83 (by omega))<|Ua<|Ug<|Ol<|J5y (t:=false) rfl rfl (J83 (by omega)) ?_);refine Oa (Nl<|Ug<|Ol<|J5y (t:=false) rfl rfl (J83 (by omega))<|Ua<|Uc<|J40 ?_);obtain⟨hpl,af,hwl,aG⟩:=hq (by omega);refine J4u (Ol<|J4o J1 rfl<|Ol<|J4t b pl29 rfl rfl<|Ol<|J49 (j:=0) (u:=(Ar a 0)) d.args sl29 io31 rfl rfl rfl (Jc (by omega)) ?_);intro aH aI av H;obtain⟨k,l,m,o,p,r,s,A,rfl,B⟩:=Jd H.rd;refine Ol (J5l (cs:=(ec (Ar a 0) k l m o p r s A)) ag31 rfl rfl H.cell<|Ol<|J41 h io31 rfl ?_);intro aJ aK aL aM Z ag D ah;have ai:=Z _ b.blk.lt;replace d:=d.sp D;replace b:=b.spn D;refine On (Us (cs':=(ec (Ar a 0) k l m o p r s A)) ag ah io31 ?_);intro aO I E e;replace B:=(B.sp D).sp E;refine Nl (Rg<|Ol<|Uo (vs:=(ec (Ar a 0) k l m o p r s A)) e ag31<|Ol<|J4p I cb39 rfl rfl (af I.bd<|Mx (Ar a 0) B) ?_);intro aP aQ aj F ak;replace d:=(d.sp E).sp F;replace b:=(b.spo E ai).spn F;replace e:=e.spn F;subst ak;refine Ua<|J40<|J55 (fun f v=>∃ (x y:Nat→Prop),Cx X w x y v∧f 1=(.pointer (some ⟨g,0,none⟩))∧f 2=(str [])∧f 5=(str<|wrE<|Ar a 0)∧ExprParts x v a a1 P Q R S T U V∧Own w y v g (ec a a1 P Q R S T U V) 31) ?_ ?_
 ·refine Rg (Ol<|J4o Js rfl<|Ol<|J4t e pl3 rfl rfl<|Ol<|J5y (t:=false) rfl rfl (J83 (by omega))<|Om<|OgD<|J4o Js rfl<|OgD<|J4t e pl3 rfl rfl<|OgD<|J5y (t:=false) rfl rfl (J83 (by omega))<|OF<|Om ?_);refine OgD (J4o Js rfl<|OgD<|J4t e pl3 rfl rfl<|OgD<|J5y (t:=false) rfl rfl (J83 (by omega))<|OF<|Om<|OgD<|J4o Js rfl<|OgD<|J4t e pl3 rfl rfl<|OgD<|J5y (t:=false) rfl rfl (J83 (by omega))<|OF ?_);refine Nl<|Uc<|⟨_,_,aj,rfl,rfl,rfl,d,b⟩
 rintro aR aS ⟨aT,aU,J,K,L,M,d,am⟩;obtain⟨aV,rfl⟩:=rebK (aC K<|aC L<|aC M aN);clear K L M;refine Rg (Ub<|J43 rfl rfl (by (try simp only [J8z,J80,J81]);omega)<|Ol<|J4o Zb rfl<|Ol<|J4t am pl23 rfl rfl<|Ol<|J49 (j:=0) (u:=(a.n.getD 0 0)) d.n sl23 io3 rfl rfl rfl (Jc (by omega)) ?_);intro aW aX aa N;obtain⟨rfl,aw⟩:aa=_∧_:=N.rd;refine Ol (J44 pl3 rfl (N.cell 0 _ rfl)<|Ol<|J4p J Jd3 rfl rfl (Jkp J.bd hr.1 hr.2) ?_);intro aY aZ an a0 ao;subst ao;exact Ol<|J43 rfl rfl (by have:=Lib.itoa_length_le (a.n.getD 0 0) (by omega) (by omega);simp only [J8z,J80,J81];omega)<|Ua<|J4y<|Wq rfl rfl an<|J87 (str)<|(Jez (by omega) hpl<|bs_f (by omega))
theorem Jq6{X:Nat→Prop}{w:World}(hX:XB X w){e:Value}{a:GExpr}(F:RV Jf X w e a)(hb:a.op=12∨a.op=2)(hok:okE a)(hPa:PlS a):CRt 73 #[e] w fun v w'=>(∃ e x,v= .tuple #[e,x]∧(e=(str (sgE a)))∧(x=(.bool (miE a)))):=by
 obtain⟨a1,k,l,m,o,p,r,s,rfl,d⟩:=J8e F;have C:=J4z hX;have y:a.c.num.mag.length≤1000:=by have:=hok;rw [Xq] at this;exact this.1
 have A:a.c.den.mag.length≤1000:=by have:=hok;rw [Xq] at this;exact this.2.1
 have hng:negB a.op a.c.q=false:=by unfold negB;rw [J83 (by omega)];rfl
 refine Cgo (args:=[(ea a a1 k l m o p r s)]) Tryz.func73 rfl rfl rfl (Rg<|Ol<|J5a C rfl ?_);intro H I J K G g B b;replace d:=d.sp B;refine Oa (Ua<|J40<|W.block<|Rg<|Ol<|J4o Js rfl<|Ol<|J4t b pl3 rfl rfl<|Ol<|J5y (t:=false) rfl rfl (J83 (by omega))<|Ua<|Ug<|Ol<|Uo (vs:=(ec a a1 k l m o p r s)) b ag31<|Ol<|J4p g Jeh rfl rfl (Je6 g.bd (Mx a d) y A) ?_);intro L M h i j;replace d:=d.sp i;replace b:=b.spn i;rw [hng] at j;subst j;refine Oa (Nl<|Ug<|Ol<|J4o Js rfl<|Ol<|J4t b pl3 rfl rfl<|Ol<|J58 (t:=true) rfl rfl (by rw [J83 (by omega)];rfl)<|Ua<|Uf<|Ol<|Uo (vs:=(ec a a1 k l m o p r s)) b ag31<|Ol<|J4p h Jn2 rfl rfl (hPa h.bd<|Mx a d) ?_);intro N P D Q E;subst E;refine Oa (Ua<|J4y<|J9 rfl (J8d rfl) (J8d rfl)<|J4w ?_ D.below);refine⟨_,_,rfl,?_,?_⟩
 ·exact J87 (str)<|(zj (by omega) hng (by omega)).1.symm
 ·exact J87 (Value.bool)<|(zj (by omega) hng (by omega)).2.symm
theorem Jxv{X:Nat→Prop}{w:World}(hX:XB X w){v0:Value}{a:GExpr}(r0:RV Jf X w v0 a)(hb:a.op=11)(hok:okE a)(hal:a.args.length=2)(bY:(Ar a 0).op=1)(av: -(Ar a 0).c.q=1)(a8:Jn (Ar a 0).c.num.mag∧Jn (Ar a 0).c.den.mag)(d8:(Ar a 1).op=12)(hP:PlS (Ar a 1))(hpl:(plE (Ar a 1)).length≤1000)(hsl:(sgE a).length≤1000):CRt 73 #[v0] w fun v w'=>(∃ v0 v1,v= .tuple #[v0,v1]∧(v0=(str (sgE a)))∧(v1=(.bool (miE a)))):=by
 obtain⟨a1,c2,a3,c4,a5,c6,a7,c8,rfl,k⟩:=J8e r0;have C:=J4z hX;have a9:2≤a.args.length:=by omega
 have hm:=okm hok;have bi:okE (Ar a 0):=xq hok (by omega);have bj:okE (Ar a 1):=xq hok (by omega);have ao:=okm bi;have ba:=okm bj;have hng:negB a.op a.c.q=false:=by unfold negB;rw [J83 (by omega)];rfl
 have bk:negB (Ar a 1).op (Ar a 1).c.q=false:=by unfold negB;rw [J83 (by omega)];rfl
 have ak:negB (Ar a 0).op (Ar a 0).c.q=true:=ngm bY av;have hdl:(a.args.drop 1).length=1:=by rw [J9a];omega
 have d9:(ofQ<|-(Ar a 0).c.q).num.mag.length≤1000:=by rw [K2];exact J86 (Kd a8.1) ao.1
 have eb:(ofQ<|-(Ar a 0).c.q).den.mag.length≤1001:=by rw [Qt];exact J86 (Ke a8.2)<|Nat.succ_le_succ ao.2
 refine Cgo (args:=[(ea a a1 c2 a3 c4 a5 c6 a7 c8)]) Tryz.func73 rfl rfl rfl (Rg<|Ol<|J5a C rfl ?_);intro aw ed ee ef cE bb b0 g;replace k:=k.sp b0;refine Oa (Ua<|J40<|W.block<|Rg<|Ol<|J4o Js rfl<|Ol<|J4t g pl3 rfl rfl<|Ol<|J5y (t:=false) rfl rfl (J83 (by omega))<|Ua<|Ug<|Ol<|Uo (vs:=(ec a a1 c2 a3 c4 a5 c6 a7 c8)) g ag31<|Ol<|J4p bb Jeh rfl rfl (Je6 bb.bd (Mx a k) hm.1 hm.2) ?_);intro eg eh b1 bc be;replace g:=g.spn bc;rw [hng] at be;subst be;refine Ua<|Ug<|Ol<|J4o Js rfl<|Ol<|J4t g pl3 rfl rfl<|Ol<|J58 (t:=false) rfl rfl (by rw [J84 (by omega)];rfl)<|Ua<|Uc<|J40<|J5g mixed 7 [[],[0],[],[2],[3],[4],[5]] b1 [fx<|.pointer (some ⟨aw,7,none⟩),fx<|.slice a7 a.args.length c8,fx<|.pointer (some ⟨aw,7,none⟩),fx<|.slice a7 a.args.length c8,fE Jf<|Ar a 0,fr Jf<|Ar a 0,fx<|.bool true] (by kernel_rfl) ⟨sx,sx,sx,sx,sE,sr,sx,trivial⟩ fun b2 M ei ⟨D,bf⟩ E=>?_
 replace k:=(k.sp bc).sp bf;replace g:=g.spn bf;have E:Keep [31,32,33,34,35,36,37] _ b2:=E;refine⟨⟨fun _=>?_,fun⟨b3,_⟩=>?_,fun _=>?_,fun⟨b4,_⟩=>?_,fun⟨b5,_⟩=>?_,fun⟨b6,_⟩=>?_,fun⟨b7,_⟩=>?_,trivial⟩,fun⟨b8,b9,ca,cb,cc,cd,ce,_⟩=>?_⟩
 ·exact Sd0 E fun _=>J4o J1 rfl ⟨M,J4q D,rfl⟩
 ·exact Sd1 E b3 fun _=>J4t g pl29 rfl rfl ⟨M,J4q D,rfl⟩
 ·exact Sd0 E fun _=>J4o J1 rfl ⟨M,J4q D,rfl⟩
 ·exact Sd1 E b4 fun _=>J4t g pl29 rfl rfl ⟨M,J4q D,rfl⟩
 ·refine Sd1 E b5 fun _=>J49 (j:=0) (u:=(Ar a 0)) k.args sl29 io31 rfl rfl rfl (Jc (by omega)) ?_;intro ej ek cF bg;obtain⟨el,em,en,eo,ep,eq,es,et,rfl,eu⟩:=Jd bg.rd;exact⟨M,J4q D,⟨_,_,_,rfl,bg⟩⟩
 ·obtain⟨ev,ew,cG,cf,bh⟩:=b6;obtain⟨cg,ch,ci,cj,ck,cl,cm,cn,rfl,co⟩:=Jd bh.rd;exact Sd1 E cf fun _=>J5l (cs:=(ec (Ar a 0) cg ch ci cj ck cl cm cn)) ag31 rfl rfl bh.cell ⟨M,J4q D,(Mx (Ar a 0) co)⟩
 ·obtain⟨ex,ey,ez,eA,eB,eC,eD,eE,cp,cq⟩:=J8e b7;refine Sd1 E cp fun _=>J4p D Jeh rfl rfl (Je6 D.bd (Mx (Ar a 0) cq) ao.1 ao.2) ?_;intro cH cI bl bm ax;rw [ak] at ax;exact⟨M,⟨bl,bm⟩,ax⟩
 obtain⟨cJ,cK,cu,bn,bo⟩:=cc;obtain⟨cL,cM,cN,cO,cP,cQ,cR,cS,rfl,cT⟩:=Jd bo.rd;obtain⟨cU,cV,cW,cX,cY,cZ,c0,c1,bp,c3⟩:=J8e cd;obtain⟨c5,rfl⟩:=mixK E (aC b8<|aC b9<|aC ca<|aC cb<|aC bn<|aC bp<|aC ce aN);refine Oa (Ua<|Rg<|Ua<|Rh<|Om<|Nl<|Uf<|Ub<|J49 (j:=0) (u:=(Ar a 0)) k.args sl29 io31 rfl rfl rfl (Jc (by omega)) ?_);intro c7 c9 cv ay;obtain⟨da,dc,bq,br,bs,bt,dd,de,rfl,az⟩:=Jd ay.rd;refine Ol (J4o Z6 rfl<|Ol<|J5l (cs:=[(.bool (Ar a 0).c.num.neg),(.slice bq (Ar a 0).c.num.mag.length br),(.bool (Ar a 0).c.den.neg),(.slice bs (Ar a 0).c.den.mag.length bt)]) ag28 rfl rfl (zx ay.cell rfl)<|Ol<|J4p D Jjd rfl rfl (Jcr D.bd (a:=(Ar a 0).c) (Za az.num az.den) (by omega) (by omega)) ?_);intro df dg bu aA bv;replace k:=k.sp aA;replace g:=g.spn aA;obtain⟨N,P,Q,R,rfl,d,e⟩:=J8h bv;refine Ol (J41 bu io28 rfl ?_);intro bw dh di dj a4 bx Z bz;have bA:=a4 _ g.blk.lt;replace d:=d.sp Z;replace e:=e.sp Z;refine On (Us (cs':=[(.bool (ofQ<|-(Ar a 0).c.q).num.neg),(.slice N (ofQ<|-(Ar a 0).c.q).num.mag.length P),(.bool (ofQ<|-(Ar a 0).c.q).den.neg),(.slice Q (ofQ<|-(Ar a 0).c.q).den.mag.length R)]) bx bz io28 ?_);intro dk bB aa H;replace k:=(k.sp Z).sp aa;replace g:=(g.spn Z).spo aa bA;refine Nl<|J40<|J40<|J5g mixed 2 [[],[]] bB [fx<|.agg #[(.bool (ofQ<|-(Ar a 0).c.q).num.neg),(.slice N (ofQ<|-(Ar a 0).c.q).num.mag.length P),(.bool (ofQ<|-(Ar a 0).c.q).den.neg),(.slice Q (ofQ<|-(Ar a 0).c.q).den.mag.length R)],fr Yp<|ofQ<|Rat.divInt 1 1] (by kernel_rfl) ⟨sx,sr,trivial⟩ fun bC aB dl ⟨S,U⟩ V=>?_
 replace d:=(d.sp aa).sp U;replace e:=(e.sp aa).sp U;replace H:=H.spn U;have V:Keep [44,45] _ bC:=V;refine⟨⟨fun _=>?_,fun _=>?_,trivial⟩,fun⟨bD,bE,_⟩=>?_⟩
 ·exact Sd0 V fun _=>J46 (vs:=[(.bool (ofQ<|-(Ar a 0).c.q).num.neg),(.slice N (ofQ<|-(Ar a 0).c.q).num.mag.length P),(.bool (ofQ<|-(Ar a 0).c.q).den.neg),(.slice Q (ofQ<|-(Ar a 0).c.q).den.mag.length R)]) H ag28 rfl rfl rfl ⟨aB,J4q S,rfl⟩
 ·refine Sd0 V fun _=>J4p S Jjx rfl rfl (Jkr S.bd (by decide) (by decide)) ?_;intro dm dn bF bG bH;exact⟨aB,⟨bF,bG⟩,bH⟩
 obtain⟨dp,dq,dr,ds,bI,bJ,bK⟩:=J8h bE;obtain⟨dt,rfl⟩:=mixK V (aC bD<|aC bI aN);refine Ol (J4p S cb85 rfl rfl (Jg0 S.bd (a:=(ofQ<|-(Ar a 0).c.q)) (Za d e) (b:=(ofQ<|Rat.divInt 1 1)) (Za bJ bK) (by omega) (by omega) (by decide) (by decide)) ?_);intro du dv bL Y aD;replace k:=(k.sp U).sp Y;replace d:=d.sp Y;replace e:=e.sp Y;replace g:=(g.spn U).spn Y;replace H:=H.spn Y;simp only [Jo,Yb] at aD;subst aD;refine Ol (J58 (t:=false) rfl rfl (by rw [J84<|Jhh.2 av];rfl)<|Om<|OgD<|J4x<|OgD<|J49 (j:=1) (u:=(Ar a 1)) k.args sl29 io31 rfl rfl rfl (Jc (by omega)) ?_);intro dw dx cw aE;obtain⟨dy,dz,dA,dB,dC,dD,dE,dF,rfl,dG⟩:=Jd aE.rd;refine OgD (J4o Js rfl<|OgD<|J44 pl3 rfl (aE.cell 0 _ rfl)<|OgD<|J5y (t:=false) rfl rfl (J83 (by omega))<|OF<|Nl<|Uc<|J4u<|Ub<|J6v (i:=1) k.args sl29 io31 rfl rfl rfl (by omega) ?_);intro aF r;refine Oa (Nl<|Rh<|Ub<|St.len sl29 rfl<|Om<|Nl<|W.block<|J5e (fun μ f v=>∃ (x y:Nat→Prop) (i:Nat) (p:List (List UInt8)) (pa:Option Addr) (pc:Nat),Cx X w x y v∧f 2=(str [])∧f 3=(.bool false)∧f 5=(.bool true)∧f 62=(.slice aF (a.args.length - 1) (c8 - 1))∧f 63=(.int .i64 (((a.args.length - 1):Nat):Int))∧f 64=(.int .i64 ((i:Nat):Int))∧f 6=(.slice pa p.length pc)∧ExprParts x v a a1 c2 a3 c4 a5 c6 a7 c8∧RS Je x v (.slice N (ofQ<|-(Ar a 0).c.q).num.mag.length P) (ofQ<|-(Ar a 0).c.q).num.mag∧RS Je x v (.slice Q (ofQ<|-(Ar a 0).c.q).den.mag.length R) (ofQ<|-(Ar a 0).c.q).den.mag∧RS Jf x v (.slice aF (a.args.length - 1) (c8 - 1)) (a.args.drop 1)∧OS K6 9 w x y v (.slice pa p.length pc) p∧Own w y v aw (ec a a1 c2 a3 c4 a5 c6 a7 c8) 31∧Own w y v bw [(.bool (ofQ<|-(Ar a 0).c.q).num.neg),(.slice N (ofQ<|-(Ar a 0).c.q).num.mag.length P),(.bool (ofQ<|-(Ar a 0).c.q).den.neg),(.slice Q (ofQ<|-(Ar a 0).c.q).den.mag.length R)] 28∧i≤1∧sgE a=Lib.join (p++facT (txL<|(a.args.drop 1).drop i)) [42]∧p.length≤i∧μ=(1 - i)) _ ⟨_,_,0,[],none,0,bL,rfl,rfl,rfl,rfl,rfl,rfl,rfl,k,d,e,r,J8k,g,H,(by omega),(Jfd hb a9 ak av (by unfold Ar at *;omega)),(J9h _),rfl⟩ ?_);rintro dH dI dJ ⟨dK,dL,i,p,pa,pc,aG,aH,aI,aJ,aK,aL,aM,aO,k,d,e,r,L,m,o,hi,hQ,hpi,cr⟩;obtain⟨dM,rfl⟩:=rebK (aC aH<|aC aI<|aC aJ<|aC aK<|aC aL<|aC aM<|aC aO aN);clear aH aI aJ aK aL aM aO;refine Rg<|Ol<|J5c rfl rfl (fun a6=>?_)<|fun a6=>?_
 ·refine Nl (J40<|Ud<|J4v<|J40<|W.block<|J40 ?_);have ct:i=0:=by omega
  have he:(a.args.drop 1).getD i default=(Ar a 1):=by rw [ct];exact d1_at
  have hngi:negB ((a.args.drop 1).getD i default).op ((a.args.drop 1).getD i default).c.q=false:=by rw [he];exact bk
  refine J4u (Ol<|J49 (j:=i) (u:=((a.args.drop 1).getD i default)) r sl29 io31 rfl rfl rfl (Jc (by omega)) ?_);intro dN dO cx aP;obtain⟨ab,ac,ad,ae,af,ag,ah,ai,rfl,I⟩:=Jd aP.rd;refine Ol (J5l (cs:=(ec ((a.args.drop 1).getD i default) ab ac ad ae af ag ah ai)) ag31 rfl rfl aP.cell<|Ol<|J6w aG io31 rfl ?_);intro dP dQ dR dS aq aQ A bM bN;have bO:=aq _ m.blk.lt;have bP:=aq _ o.blk.lt;replace L:=L.sp A aQ bN;replace m:=m.spn A;replace o:=o.spn A;refine On (Us (cs':=(ec ((a.args.drop 1).getD i default) ab ac ad ae af ag ah ai)) aQ bM io31 ?_);intro dT am B J;replace k:=(k.sp A).sp B;replace d:=(d.sp A).sp B;replace e:=(e.sp A).sp B;replace r:=(r.sp A).sp B;replace I:=(I.sp A).sp B;refine Nl (Rh<|Ol<|J4o Js rfl<|Ol<|J4t J pl3 rfl rfl<|Ol<|J5y (t:=false) rfl rfl (J83 (by rw [he];omega))<|Om<|OgD<|J4o Js rfl<|OgD<|J4t J pl3 rfl rfl<|OgD<|J5y (t:=false) rfl rfl (J83 (by rw [he];omega))<|OF ?_);refine Om (OgD<|Uo (vs:=(ec ((a.args.drop 1).getD i default) ab ac ad ae af ag ah ai)) J ag31<|OgD<|J4p am Jeh rfl rfl (Je6 am.bd (Mx ((a.args.drop 1).getD i default) I) (by rw [he];exact ba.1) (by rw [he];exact ba.2)) ?_);intro dU dV an s aR;replace L:=(L.sp B am<|fun _ h=>h).sp s an (fun _ h=>h)
  replace I:=I.sp s;replace m:=(m.spo B bO).spn s;replace o:=(o.spo B bP).spn s;replace J:=J.spn s;rw [hngi] at aR;subst aR;refine OF (Nl<|Uc<|J4u<|Ub<|Uo (vs:=(ec ((a.args.drop 1).getD i default) ab ac ad ae af ag ah ai)) J ag31<|Ol<|J4p an Jn2 rfl rfl ((he.symm ▸ hP:PlS ((a.args.drop 1).getD i default)) an.bd (Mx ((a.args.drop 1).getD i default) I)) ?_);intro dW dX aS F bQ;replace k:=(k.sp s).sp F;replace d:=(d.sp s).sp F;replace e:=(e.sp s).sp F;replace r:=(r.sp s).sp F;subst bQ;refine Ol (J5f (T:=K6) (css:=[[(str<|plE<|(a.args.drop 1).getD i default)]]) (l:=[(plE<|(a.args.drop 1).getD i default)]) aS sl50 io9 (by decide) (by decide) rfl (by kernel_rfl) ⟨⟨rfl,(by rw [he];simp only [maxLen];omega)⟩,trivial⟩ ?_);intro dY dZ aT G bR;replace L:=(L.sp F aS<|fun _ h=>h).sp G aT (fun _ h=>h)
  replace m:=(m.spn F).spn G;replace o:=(o.spn F).spn G;refine Ol (J5k (T:=K6) aT sl50 io9 rfl rfl L (Yi bR) (by rw [J82];simp only [maxLen];omega) (by rw [J82];omega) rfl ?_);intro d0 d1 d2 bS K d3 aU;replace k:=(k.sp G).tr K.tx;replace d:=(d.sp G).tr K.tx;replace e:=(e.sp G).tr K.tx;replace r:=(r.sp G).tr K.tx;replace m:=m.ap K m.mem;replace o:=o.ap K o.mem;obtain⟨bT,bU,rfl,_,_⟩:=aU.len;refine Ua<|J4u<|Ol<|St.add rfl rfl (Ja (a:=i) (b:=1) (by omega))<|Om<|Nl<|⟨_,(by omega),_,_,(i+1),(p++[(plE<|(a.args.drop 1).getD i default)]),bT,bU,bS,rfl,rfl,rfl,rfl,rfl,rfl,rfl,k,d,e,r,aU,m,o,(by omega),(Jlw hQ (by omega)<|fa_0 (by rw [he];omega) (by rw [he];omega) hngi),(by rw [J8z,J82];omega),rfl⟩
 refine Nl (J40<|Ue<|J5i<|Rg<|Om ?_);obtain⟨d4,aV,cy,bV⟩:=L.freeze aG hX;refine Ol (J4p aV Jvf rfl rfl (Jl3 aV.bd bV (by omega) (by rw [← Jhr hQ (by omega)];omega)) ?_);intro d5 d6 bW d7 bX;subst bX;refine Om (Oa<|Ua<|J4y<|J9 rfl (J8d rfl) (J8d rfl)<|J4w ?_ bW.below);refine⟨_,_,rfl,?_,?_⟩
 ·exact J87 (str)<|(Jhr hQ (by omega)).symm
 ·exact J87 (Value.bool)<|((Jc8 hb a9).symm.trans ak).symm
end Go.Wf
namespace Go.Wf
open Go Go.Lib
def tA1:By:=[69,52,94,51,32,45,32,69,54,94,50]
def tA2:By:=[69,52,32,43]
def eA3:GExpr:=eOp 12 [3] [eOp 2 [4] []]
def eA2:GExpr:=eOp 12 [2] [eOp 2 [6] []]
def eAp:GExpr:=eOp 11 [] [eNum (-1) 1,eA2]
def eA1:GExpr:=eOp 10 [] [eA3,eAp]
theorem rdA1:zd tA1= .ok eA1 0:=by kernel_rfl
theorem rdA2:zd tA2= .er 19 4:=by kernel_rfl
section
variable {a:GExpr}
theorem Jm6(h1:cntOk a)(h2:nameOk a)(h3:Jb2 a)(h4:errL a.args=0):errE a=0:=by
 rw [yo]
 have:Kx a=0:=by unfold Kx;rw [if_pos ⟨h1,h2⟩,if_pos h3]
 rw [if_pos this];exact h4
theorem Juk(h:a.n=[]):Jb2 a:=fun i hi=>by rw [h] at hi;simp at hi
theorem Jy4{k:Int}(h:a.n=[k])(h1:lA a.op≤k)(h2:k≤lB a.op):Jb2 a:=fun i hi=>by
 have:i=0:=by rw [h] at hi;simp at hi;exact hi
 subst this;rw [h];exact⟨h1,h2⟩
theorem nm_0(h8:¬ a.op=8)(h:a.name=[])(hc:a.op=1∨a.c=Xb):nameOk a:=
 ⟨by rw [J83 h8,h];rfl,.inr h,hc.imp_right fun e=>by rw [e];rfl⟩
theorem Jse{b:GExpr}(h:errE b=0):errL [b]=0:=by rw [errL,if_pos h,errL]
theorem Jsg{b c:GExpr}(h:errE b=0)(h2:errE c=0):errL [b,c]=0:=by rw [errL,if_pos h];exact Jse h2
end
theorem Jds{a:GExpr}{o:Int}{n l:Nat}(ho:a.op=o)(hn:a.n.length=n)(hl:a.args.length=l)(h:decide (1≤o∧o≤18∧cA o≤(n:Int)∧(n:Int)≤cB o∧cC o≤(l:Int)∧(l:Int)≤cD o)=true):cntOk a:=by
 subst ho;subst hn;subst hl;obtain⟨h1,h2,h3,h4,h5,h6⟩:=of_decide_eq_true h;exact⟨h1,h2,h3,h4,h5,h6⟩
theorem n8{o k:Int}(h:o=k)(hk:decide (k=8)=false):¬ o=8:=by rw [h];exact of_decide_eq_false hk
theorem Jrp:errL []=0:=by rw [errL]
theorem erE4{k:Int}(h0:0≤k)(h1:k≤1000000):errE (eOp 2 [k] [])=0:=
 Jm6 (Jds (o:=2) (n:=1) (l:=0) rfl rfl rfl (by decide)) (nm_0 (n8 (k:=2) rfl rfl) rfl (.inr rfl)) (Jy4 rfl h0 h1) Jrp
theorem erPw{k:Int}{b:GExpr}(h0: -200≤k)(h1:k≤200)(hb:errE b=0):errE (eOp 12 [k] [b])=0:=
 Jm6 (Jds (o:=12) (n:=1) (l:=1) rfl rfl rfl (by decide)) (nm_0 (n8 (k:=12) rfl rfl) rfl (.inr rfl)) (Jy4 rfl h0 h1) (Jse hb)
theorem erNu:errE (eNum (-1) 1)=0:=
 Jm6 (Jds (o:=1) (n:=0) (l:=0) rfl rfl rfl (by decide)) (nm_0 (n8 (k:=1) rfl rfl) rfl (.inl rfl)) (Juk rfl) Jrp
theorem erPr{b c:GExpr}{op:Int}(ho:op=10∨op=11)(hb:errE b=0)(hc:errE c=0):errE (eOp op [] [b,c])=0:=by
 rcases ho with rfl | rfl
 ·exact Jm6 (Jds (o:=10) (n:=0) (l:=2) rfl rfl rfl (by decide)) (nm_0 (n8 (k:=10) rfl rfl) rfl (.inr rfl)) (Juk rfl) (Jsg hb hc)
 ·exact Jm6 (Jds (o:=11) (n:=0) (l:=2) rfl rfl rfl (by decide)) (nm_0 (n8 (k:=11) rfl rfl) rfl (.inr rfl)) (Juk rfl) (Jsg hb hc)
theorem erA1:errE eA1=0:=erPr (.inl rfl) (erPw (by decide) (by decide) (erE4 (by decide) (by decide))) (erPr (.inr rfl) erNu (erPw (by decide) (by decide) (erE4 (by decide) (by decide))))
theorem ckA1:Zs eA1=0:=by
 unfold Zs;rw [if_pos ⟨by decide +kernel,by decide +kernel⟩];exact erA1
theorem it1{n:Nat}(h:n < 10):itoa (n:Int)=[UInt8.ofNat (48+n)]:=by rw [itoa_nonneg,decDigits_one h]
theorem wrA1:wrE eA1=tA1:=by
 have e:wrE eA1=[69]++itoa ((4:Nat):Int)++[94]++itoa ((3:Nat):Int)++([32,45,32]++(([69]++itoa ((6:Nat):Int)++[94]++itoa ((2:Nat):Int))++[])):=by kernel_rfl
 rw [e,it1 (by decide),it1 (by decide),it1 (by decide),it1 (by decide)];rfl
theorem okA1:okE eA1:=by
 have h:∀ op n l,okL l→okE (eOp op n l):=fun op n l h=>Jsw h;have hn:okE (eNum (-1) 1):=by
  rw [Xq];exact⟨by decide +kernel,by decide +kernel,by decide +kernel,by rw [Jau];intro i hi;exact absurd hi (J9m _)⟩
 have h0:okL []:=by rw [Jau];intro i hi;exact absurd hi (J9m _)
 have h1:∀ {b},okE b→okL [b]:=fun hb=>by unfold okL;exact⟨hb,h0⟩
 have h2:∀ {b c},okE b→okE c→okL [b,c]:=fun hb hc=>by unfold okL;exact⟨hb,h1 hc⟩
 exact h _ _ _ (h2 (h _ _ _ (h1 (h _ _ _ h0))) (h _ _ _ (h2 hn (h _ _ _ (h1 (h _ _ _ h0))))))
theorem paA1:Yz tA1=(eA1,0,0):=by
 unfold Yz;rw [if_neg (by decide),rdA1]
 show(if Zs eA1=0 then(eA1,0,0) else(Vj,0,Zs eA1))=_
 rw [if_pos ckA1]
theorem paA2:Yz tA2=(Vj,4,19):=by
 unfold Yz;rw [if_neg (by decide),rdA2]
theorem rfA1:RdF tA1:=by unfold RdF;rw [rdA1];exact J9h _
theorem rfA2:RdF tA2:=by unfold RdF;rw [rdA2];exact⟨by decide,by decide⟩
theorem rkA1:okE (rdT tA1).1:=by unfold rdT;rw [rdA1];exact okA1
theorem rkA2:okE (rdT tA2).1:=by
 unfold rdT;rw [rdA2]
 show okE Vj
 rw [Xq];exact⟨J9h _,J9h _,J9h _,trivial⟩
end Go.Wf
