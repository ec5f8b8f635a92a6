/- Part 2 of the texts for the claim. -/
import Derived.Test.YtjiojpmoleilgaaGreatDoorNames1
set_option linter.unusedVariables false
set_option linter.unusedSimpArgs false
set_option maxRecDepth 100000
set_option maxHeartbeats 4000000
noncomputable section
namespace Go.Proofs.YtjiojpmoleilgaaGreatDoor
open Go Go.Proofs Go.Wf Go.RowKit Go.ChangeShapes Go.WideShapes
theorem Jj0{α:Type}{p:Nat→α→Prop}:∀ (k:Nat) (h:∀ i,i < k→∃ x,p i x),∃ l:List α,l.length=k∧∀ i x,l[i]? =some x→p i x
 | 0,_=>⟨[],rfl,fun i x h=>by simp at h⟩
 | k+1,h=>by
  obtain⟨l,hl,hp⟩:=Jj0 k fun i hi=>h i (by omega);obtain⟨x,hx⟩:=h k (by omega);refine⟨l++[x],by simp [hl],fun i y hy=>?_⟩
  rcases Nat.lt_or_ge i l.length with h1 | h1
  ·rw [List.getElem?_append_left h1] at hy;exact hp i y hy
  ·rw [List.getElem?_append_right h1] at hy;have h2:i - l.length=0:=by
    have:=(List.getElem?_eq_some_iff.1 hy).1
    simp at this;omega
   rw [h2] at hy;simp at hy;subst hy;rw [show i=k by omega];exact hx
abbrev NX:Nat→Prop:=fun _=>False
section
variable {H:Type} {enc:TypeId × Value→H} {w:World} {base:Nat} {sp:Nat→Bool} {held:Bool}
theorem Jmf {α:Type} {T:Ty α} {P:Program} {t e:TypeId} (ht:P.underlying t=some (.slice e)) (hc:P.cellsOf e=T.sz) {fuel:Nat} {cs:List Value} {y:DataW H × List MemPlace}
  (h:DataW.trod enc P w base sp held fuel t cs=some y) (hel:∀ n,fuel=n+1→∀ cs y,DataW.trod enc P w base sp held n e cs=some y→∃ x,T.rd NX w cs x):
  ∃ v l,cs=[v]∧RS T NX w v l:=by
 rcases DataW.trod_slice ht h with ⟨rfl,_⟩ | ⟨a,len,cap,elems,rest,n,hn,rfl,_,hb,hl,hm,hlen,hi,_,_⟩
 ·exact⟨_,[],rfl,RS.nil⟩
 ·obtain⟨l,hll,hp⟩:=Jj0 (p:=fun i x=>∃ cs',T.rd NX w cs' x∧∀ j,j < T.sz→w.cell? ((a.add (i * T.sz)).add j)=cs'[j]?) len (by
   intro i hil;have h1:=hi i hil;rw [List.getElem?_eq_getElem (by omega),hc] at h1;obtain⟨cs',h2,h3⟩:=Option.bind_eq_some_iff.1 h1;obtain⟨_,_,h4⟩:=World.cells?_some h2;obtain⟨x,hx⟩:=hel n hn _ _ h3;exact⟨x,cs',hx,h4⟩)
  refine⟨_,l,rfl,some a,cap,by rw [hll],by omega,hm,?_⟩
  by_cases h0:l=[]
  ·exact .inl h0
  ·have hpos:0 < l.length:=List.length_pos_iff.2 h0;have hsp:a.spot=none:=by
    obtain⟨cs',h1,h2⟩:=hp 0 l[0] (List.getElem?_eq_getElem hpos);have h3:=h2 0 T.pos;rw [List.getElem?_eq_getElem (by rw [T.len h1];exact T.pos)] at h3;have h4:=World.cell?_spot h3;simpa [Addr.add] using h4
   obtain⟨b,o,s⟩:=a;have hsp:s=none:=hsp;subst hsp;refine .inr ⟨b,o,rfl,id,fun i x hx=>?_⟩
   obtain⟨cs',h1,h2⟩:=hp i x hx;refine⟨cs',h1,fun j u hu=>?_⟩
   have hj:j < T.sz:=by
    have:=(List.getElem?_eq_some_iff.1 hu).1
    rwa [T.len h1] at this
   have h3:=h2 j hj;rw [hu] at h3;rw [Addr.add_lit,Addr.add_lit] at h3;exact h3
theorem Jqv:Tryz.prog.cellsOf 3=1:=by kernel_rfl
theorem Jzu:Tryz.prog.cellsOf 4=1:=by kernel_rfl
theorem Jw2:Tryz.prog.cellsOf 9=1:=by kernel_rfl
theorem Ju9:Tryz.prog.cellsOf 23=1:=by kernel_rfl
theorem Jsq:Tryz.prog.cellsOf 24=1:=by kernel_rfl
theorem Jtx:Tryz.prog.cellsOf 29=1:=by kernel_rfl
theorem Jji:Tryz.prog.cellsOf 26=2:=by kernel_rfl
theorem Jk3:Tryz.prog.cellsOf 28=4:=by kernel_rfl
theorem Jkm:Tryz.prog.cellsOf 31=8:=by kernel_rfl
theorem Jow:Tryz.prog.cellsOf 118=1:=by kernel_rfl
theorem und3:Tryz.prog.underlying 3=some (.int .i64):=by kernel_rfl
theorem und4:Tryz.prog.underlying 4=some .bool:=by kernel_rfl
theorem und9:Tryz.prog.underlying 9=some .string:=by kernel_rfl
theorem Jza:Tryz.prog.underlying 118=some (.int .u32):=by kernel_rfl
theorem und23:Tryz.prog.underlying 23=some (.slice 3):=by kernel_rfl
theorem und24:Tryz.prog.underlying 24=some (.slice 118):=by kernel_rfl
theorem und29:Tryz.prog.underlying 29=some (.slice 31):=by kernel_rfl
theorem Jpe{fuel:Nat}{cs:List Value}{y:DataW H × List MemPlace}(h:DataW.trod enc Tryz.prog w base sp held fuel 23 cs=some y):∃ v l,cs=[v]∧RS Y1 NX w v l:=by
 refine Jmf und23 Jqv h fun n _ cs y h=>?_
 obtain⟨z,rfl,_,hw⟩:=DataW.trod_int und3 h;exact⟨z,rfl,by simpa [Lit.wf,IntKind.min,IntKind.max,IntKind.signed,IntKind.bits] using hw⟩
theorem Jil{fuel:Nat}{cs:List Value}{y:DataW H × List MemPlace}(h:DataW.trod enc Tryz.prog w base sp held fuel 24 cs=some y):∃ v l,cs=[v]∧RS Je NX w v l:=by
 refine Jmf und24 Jow h fun n _ cs y h=>?_
 obtain⟨z,rfl,_,hw⟩:=DataW.trod_int Jza h;have hw:0≤z∧z≤4294967295:=by simpa [Lit.wf,IntKind.min,IntKind.max,IntKind.signed,IntKind.bits] using hw
 exact⟨z.toNat,by rw [show((z.toNat:Nat):Int)=z by omega],by omega⟩
theorem Jwg{l:List Value}(h:l.length=2):∃ a b,l=[a,b]:=by
 match l,h with
 | [a,b],_=>exact⟨a,b,rfl⟩
theorem Jv1{l:List Value}(h:l.length=4):∃ a b c d,l=[a,b,c,d]:=by
 match l,h with
 | [a,b,c,d],_=>exact⟨a,b,c,d,rfl⟩
theorem Jpd{l:List Value}(h:l.length=8):∃ a b c d e f g i,l=[a,b,c,d,e,f,g,i]:=by
 match l,h with
 | [a,b,c,d,e,f,g,i],_=>exact⟨a,b,c,d,e,f,g,i,rfl⟩
theorem Jlv{fuel:Nat}{cs:List Value}{y:DataW H × List MemPlace}(h:DataW.trod enc Tryz.prog w base sp held fuel 26 cs=some y):∃ z,Jx.rd NX w cs z:=by
 obtain⟨xs,n,rfl,_,hlen,hxl,hf⟩:=DataW.trod_struct Tryz.underlying26 h;rw [Jji] at hlen;obtain⟨a,b,rfl⟩:=Jwg hlen;have f0:DataW.trod enc Tryz.prog w base sp held n 4 ((List.drop 0 [a,b]).take (Tryz.prog.cellsOf 4))=xs[0]? :=hf 0 _ rfl;have f1:DataW.trod enc Tryz.prog w base sp held n 24 ((List.drop 1 [a,b]).take (Tryz.prog.cellsOf 24))=xs[1]? :=hf 1 _ rfl;rw [List.getElem?_eq_getElem (by rw [hxl];decide)] at f0 f1;rw [Jzu] at f0;rw [Jsq] at f1;obtain⟨b',e0,_⟩:=DataW.trod_bool und4 f0;obtain⟨v,l,e1,h1⟩:=Jil f1
 cases e0
 cases e1
 exact⟨⟨b',l⟩,_,rfl,h1⟩
theorem Jtr{fuel:Nat}{cs:List Value}{y:DataW H × List MemPlace}(h:DataW.trod enc Tryz.prog w base sp held fuel 28 cs=some y):∃ z,Xk.rd NX w cs z:=by
 obtain⟨xs,n,rfl,_,hlen,hxl,hf⟩:=DataW.trod_struct Tryz.underlying28 h;rw [Jk3] at hlen;obtain⟨a,b,c,d,rfl⟩:=Jv1 hlen;have f0:DataW.trod enc Tryz.prog w base sp held n 26 ((List.drop 0 [a,b,c,d]).take (Tryz.prog.cellsOf 26))=xs[0]? :=hf 0 _ rfl;have f1:DataW.trod enc Tryz.prog w base sp held n 26 ((List.drop 2 [a,b,c,d]).take (Tryz.prog.cellsOf 26))=xs[1]? :=hf 1 _ rfl;rw [List.getElem?_eq_getElem (by rw [hxl];decide)] at f0 f1;rw [Jji] at f0 f1;obtain⟨z0,s0,e0,h0⟩:=Jlv f0;obtain⟨z1,s1,e1,h1⟩:=Jlv f1
 cases e0
 cases e1
 exact⟨⟨z0,z1⟩,_,_,rfl,h0,h1⟩
theorem Jok:∀ (fuel:Nat) (cs:List Value) (y:DataW H × List MemPlace),DataW.trod enc Tryz.prog w base sp held fuel 31 cs=some y→∃ e,Jf.rd NX w cs e:=by
 intro fuel
 induction fuel using Nat.strongRecOn with
 | ind fuel ih=>
 intro cs y h;obtain⟨xs,n,rfl,_,hlen,hxl,hf⟩:=DataW.trod_struct Tryz.underlying31 h;rw [Jkm] at hlen;obtain⟨c0,c1,c2,c3,c4,c5,c6,c7,rfl⟩:=Jpd hlen;have f0:DataW.trod enc Tryz.prog w base sp held n 3 ((List.drop 0 [c0,c1,c2,c3,c4,c5,c6,c7]).take (Tryz.prog.cellsOf 3))=xs[0]? :=hf 0 _ rfl;have f1:DataW.trod enc Tryz.prog w base sp held n 23 ((List.drop 1 [c0,c1,c2,c3,c4,c5,c6,c7]).take (Tryz.prog.cellsOf 23))=xs[1]? :=hf 1 _ rfl;have f2:DataW.trod enc Tryz.prog w base sp held n 28 ((List.drop 2 [c0,c1,c2,c3,c4,c5,c6,c7]).take (Tryz.prog.cellsOf 28))=xs[2]? :=hf 2 _ rfl;have f3:DataW.trod enc Tryz.prog w base sp held n 9 ((List.drop 6 [c0,c1,c2,c3,c4,c5,c6,c7]).take (Tryz.prog.cellsOf 9))=xs[3]? :=hf 3 _ rfl;have f4:DataW.trod enc Tryz.prog w base sp held n 29 ((List.drop 7 [c0,c1,c2,c3,c4,c5,c6,c7]).take (Tryz.prog.cellsOf 29))=xs[4]? :=hf 4 _ rfl;rw [List.getElem?_eq_getElem (by rw [hxl];decide)] at f0 f1 f2 f3 f4;rw [Jqv] at f0;rw [Ju9] at f1;rw [Jk3] at f2;rw [Jw2] at f3;rw [Jtx] at f4;obtain⟨op,e0,_,hw⟩:=DataW.trod_int und3 f0;obtain⟨v1,ns,e1,h1⟩:=Jpe f1;obtain⟨r,s0,s1,e2,h2,h3⟩:=Jtr f2;obtain⟨s,e3,_,hs⟩:=DataW.trod_string und9 f3;obtain⟨v4,l,e4,h4⟩:=Jmf (T:=Jf) und29 Jkm f4 fun m hm cs y h=>ih m (by omega) cs y h;have hw: -9223372036854775808≤op∧op≤9223372036854775807:=by simpa [Lit.wf,IntKind.min,IntKind.max,IntKind.signed,IntKind.bits] using hw
 cases e0
 cases e1
 cases e2
 cases e3
 cases e4
 refine⟨.mk op ns r s.data.toList l,jv.2 ⟨_,_,_,_,?_,hw.1,hw.2,?_,h1,h2,h3,h4⟩⟩
 ·obtain⟨⟨d⟩⟩:=s;rfl
 ·obtain⟨⟨d⟩⟩:=s;exact hs
theorem Jqd{r:Reach}{b0:Nat}{v:Value}{d:DataW H}{ps:List MemPlace}(hv:Value.okWide Tryz.prog w r b0 31 v)(hd:DataW.Trod enc Tryz.prog w base sp held 31 v d ps):
  ∃ e,RV Jf NX w v e:=by
 obtain⟨cs,rfl,hcs⟩:=okWide_struct Tryz.underlying31 hv;obtain⟨fuel,hf⟩:=hd;have hc:(Value.agg cs).cells=cs:=by rfl
 rw [hc] at hf;obtain⟨e,he⟩:=Jok fuel _ _ hf;exact⟨e,cs.toList,by simp,he⟩
end
end Go.Proofs.YtjiojpmoleilgaaGreatDoor
namespace Go.Wf
open Go Go.Proofs
theorem io3:J9 Tryz.prog 3=some (.int .i64 0,1,8):=by kernel_rfl
theorem pl3:Yg Tryz.prog 3=true:=by kernel_rfl
theorem pl4:Yg Tryz.prog 4=true:=by kernel_rfl
theorem io9:J9 Tryz.prog 9=some (str [],1,16):=by kernel_rfl
theorem pl9:Yg Tryz.prog 9=true:=by kernel_rfl
theorem pl23:Yg Tryz.prog 23=true:=by kernel_rfl
theorem pl24:Yg Tryz.prog 24=true:=by kernel_rfl
theorem io26:J9 Tryz.prog 26=some (.agg #[.bool false,.slice none 0 0],2,32):=by kernel_rfl
theorem ag26:V3 Tryz.prog 26 2=true:=by kernel_rfl
theorem io28:J9 Tryz.prog 28=some (.agg #[.bool false,.slice none 0 0,.bool false,.slice none 0 0],4,64):=by kernel_rfl
theorem ag28:V3 Tryz.prog 28 4=true:=by kernel_rfl
theorem io29:J9 Tryz.prog 29=some (.slice none 0 0,1,24):=by kernel_rfl
theorem pl29:Yg Tryz.prog 29=true:=by kernel_rfl
theorem io31:J9 Tryz.prog 31=some (.agg #[.int .i64 0,.slice none 0 0,.bool false,.slice none 0 0,.bool false,.slice none 0 0,str [],.slice none 0 0],8,136):=by kernel_rfl
theorem ag31:V3 Tryz.prog 31 8=true:=by kernel_rfl
theorem Ji:J9 Tryz.prog 118=some (.int .u32 0,1,4):=by kernel_rfl
theorem Ze:Yg Tryz.prog 118=true:=by kernel_rfl
theorem sl23:Tryz.prog.underlying 23=some (.slice 3):=by kernel_rfl
theorem sl24:Tryz.prog.underlying 24=some (.slice 118):=by kernel_rfl
theorem sl29:Tryz.prog.underlying 29=some (.slice 31):=by kernel_rfl
theorem sl50:Tryz.prog.underlying 50=some (.slice 9):=by kernel_rfl
theorem un3:Tryz.prog.underlying 3=some (.int .i64):=by kernel_rfl
theorem us3:(Tryz.prog.underlying 3).isSome=true:=by kernel_rfl
theorem un5:Tryz.prog.underlying 5=some (.int .u8):=by kernel_rfl
theorem us5:(Tryz.prog.underlying 5).isSome=true:=by kernel_rfl
theorem Yy:Tryz.prog.underlying 118=some (.int .u32):=by kernel_rfl
theorem Yi:(Tryz.prog.underlying 118).isSome=true:=by kernel_rfl
theorem Yn:Tryz.prog.underlying 140=some (.int .u64):=by kernel_rfl
theorem Yz:(Tryz.prog.underlying 140).isSome=true:=by kernel_rfl
theorem Jpo:Tryz.prog.underlying 110=some (.int .u64):=by kernel_rfl
theorem un9:Tryz.prog.underlying 9=some .string:=by kernel_rfl
theorem un4:Tryz.prog.underlying 4=some .bool:=by kernel_rfl
theorem Zv:Zn Tryz.prog 26 0=some 0:=by kernel_rfl
theorem Jz:Zn Tryz.prog 26 1=some 1:=by kernel_rfl
theorem Qk:Zn Tryz.prog 28 0=some 0:=by kernel_rfl
theorem Qr:Zn Tryz.prog 28 1=some 2:=by kernel_rfl
theorem Zz:Zn Tryz.prog 31 0=some 0:=by kernel_rfl
theorem K0:Zn Tryz.prog 31 1=some 1:=by kernel_rfl
theorem Ky:Zn Tryz.prog 31 2=some 2:=by kernel_rfl
theorem Km:Zn Tryz.prog 31 3=some 6:=by kernel_rfl
theorem J3:Zn Tryz.prog 31 4=some 7:=by kernel_rfl
theorem cb9:Jb Tryz.prog 9=true:=by kernel_rfl
theorem cb12:Jb Tryz.prog 12=true:=by kernel_rfl
theorem cb13:Jb Tryz.prog 13=true:=by kernel_rfl
theorem cb15:Jb Tryz.prog 15=true:=by kernel_rfl
theorem cb17:Jb Tryz.prog 17=true:=by kernel_rfl
theorem cb18:Jb Tryz.prog 18=true:=by kernel_rfl
theorem cb19:Jb Tryz.prog 19=true:=by kernel_rfl
theorem cb20:Jb Tryz.prog 20=true:=by kernel_rfl
theorem cb21:Jb Tryz.prog 21=true:=by kernel_rfl
theorem cb25:Jb Tryz.prog 25=true:=by kernel_rfl
theorem cb26:Jb Tryz.prog 26=true:=by kernel_rfl
theorem cb27:Jb Tryz.prog 27=true:=by kernel_rfl
theorem cb28:Jb Tryz.prog 28=true:=by kernel_rfl
theorem cb34:Jb Tryz.prog 34=true:=by kernel_rfl
theorem cb35:Jb Tryz.prog 35=true:=by kernel_rfl
theorem cb36:Jb Tryz.prog 36=true:=by kernel_rfl
theorem cb37:Jb Tryz.prog 37=true:=by kernel_rfl
theorem cb38:Jb Tryz.prog 38=true:=by kernel_rfl
theorem cb40:Jb Tryz.prog 40=true:=by kernel_rfl
theorem cb42:Jb Tryz.prog 42=true:=by kernel_rfl
theorem cb43:Jb Tryz.prog 43=true:=by kernel_rfl
theorem cb44:Jb Tryz.prog 44=true:=by kernel_rfl
theorem cb45:Jb Tryz.prog 45=true:=by kernel_rfl
theorem cb46:Jb Tryz.prog 46=true:=by kernel_rfl
theorem cb47:Jb Tryz.prog 47=true:=by kernel_rfl
theorem cb48:Jb Tryz.prog 48=true:=by kernel_rfl
theorem cb49:Jb Tryz.prog 49=true:=by kernel_rfl
theorem cb50:Jb Tryz.prog 50=true:=by kernel_rfl
theorem cb51:Jb Tryz.prog 51=true:=by kernel_rfl
theorem cb52:Jb Tryz.prog 52=true:=by kernel_rfl
theorem cb53:Jb Tryz.prog 53=true:=by kernel_rfl
theorem cb58:Jb Tryz.prog 58=true:=by kernel_rfl
theorem cb59:Jb Tryz.prog 59=true:=by kernel_rfl
theorem cb60:Jb Tryz.prog 60=true:=by kernel_rfl
theorem cb61:Jb Tryz.prog 61=true:=by kernel_rfl
theorem cb62:Jb Tryz.prog 62=true:=by kernel_rfl
theorem cb63:Jb Tryz.prog 63=true:=by kernel_rfl
theorem cb64:Jb Tryz.prog 64=true:=by kernel_rfl
theorem cb72:Jb Tryz.prog 72=true:=by kernel_rfl
theorem cb74:Jb Tryz.prog 74=true:=by kernel_rfl
theorem cb77:Jb Tryz.prog 77=true:=by kernel_rfl
theorem cb78:Jb Tryz.prog 78=true:=by kernel_rfl
theorem cb79:Jb Tryz.prog 79=true:=by kernel_rfl
theorem cb80:Jb Tryz.prog 80=true:=by kernel_rfl
theorem cb81:Jb Tryz.prog 81=true:=by kernel_rfl
theorem cb82:Jb Tryz.prog 82=true:=by kernel_rfl
theorem cb83:Jb Tryz.prog 83=true:=by kernel_rfl
theorem cb91:Jb Tryz.prog 91=true:=by kernel_rfl
theorem cb92:Jb Tryz.prog 92=true:=by kernel_rfl
theorem Jo2:Jb Tryz.prog 112=true:=by kernel_rfl
theorem cb113:Jb Tryz.prog 113=true:=by kernel_rfl
theorem cb114:Jb Tryz.prog 114=true:=by kernel_rfl
theorem Jvj:Jb Tryz.prog 115=true:=by kernel_rfl
theorem Jyn:Jb Tryz.prog 116=true:=by kernel_rfl
theorem Jpb:Jb Tryz.prog 117=true:=by kernel_rfl
theorem kz:Jb Tryz.prog 118=true:=by kernel_rfl
theorem Joz:Jb Tryz.prog 119=true:=by kernel_rfl
theorem cb120:Jb Tryz.prog 120=true:=by kernel_rfl
theorem Jou:Jb Tryz.prog 121=true:=by kernel_rfl
theorem cb135:Jb Tryz.prog 135=true:=by kernel_rfl
theorem Jx3:Jb Tryz.prog 137=true:=by kernel_rfl
theorem Jnf:Jb Tryz.prog 152=true:=by kernel_rfl
theorem Jt6:Jb Tryz.prog 154=true:=by kernel_rfl
theorem Jz8:Jb Tryz.prog 158=true:=by kernel_rfl
theorem Jtz:Jb Tryz.prog 165=true:=by kernel_rfl
theorem Jhb:Jb Tryz.prog 166=true:=by kernel_rfl
theorem zt:Jb Tryz.prog 167=true:=by kernel_rfl
theorem Jt7:Jb Tryz.prog 168=true:=by kernel_rfl
theorem Js0:Jb Tryz.prog 169=true:=by kernel_rfl
theorem Jg9:Jb Tryz.prog 170=true:=by kernel_rfl
theorem J0b:Jb Tryz.prog 171=true:=by kernel_rfl
theorem cb174:Jb Tryz.prog 174=true:=by kernel_rfl
theorem Jwc:Jb Tryz.prog 182=true:=by kernel_rfl
theorem Jwx:Jb Tryz.prog 183=true:=by kernel_rfl
theorem Jo3:Jb Tryz.prog 184=true:=by kernel_rfl
theorem jz:Jb Tryz.prog 205=true:=by kernel_rfl
theorem cb206:Jb Tryz.prog 206=true:=by kernel_rfl
theorem qr:Jb Tryz.prog 208=true:=by kernel_rfl
theorem Joo:Jb Tryz.prog 209=true:=by kernel_rfl
theorem Jhl:Jb Tryz.prog 211=true:=by kernel_rfl
theorem cb215:Jb Tryz.prog 215=true:=by kernel_rfl
theorem Jzq:Jb Tryz.prog 216=true:=by kernel_rfl
theorem cb217:Jb Tryz.prog 217=true:=by kernel_rfl
theorem Jvb:Jb Tryz.prog 218=true:=by kernel_rfl
theorem Jof:Jb Tryz.prog 219=true:=by kernel_rfl
theorem cb221:Jb Tryz.prog 221=true:=by kernel_rfl
theorem cb222:Jb Tryz.prog 222=true:=by kernel_rfl
theorem cb235:Jb Tryz.prog 235=true:=by kernel_rfl
theorem Joc:Jb Tryz.prog 239=true:=by kernel_rfl
theorem Jz7:Jb Tryz.prog 240=true:=by kernel_rfl
theorem Jpq:Jb Tryz.prog 241=true:=by kernel_rfl
theorem Jsh:Jb Tryz.prog 242=true:=by kernel_rfl
theorem cb243:Jb Tryz.prog 243=true:=by kernel_rfl
theorem cb244:Jb Tryz.prog 244=true:=by kernel_rfl
theorem cb246:Jb Tryz.prog 246=true:=by kernel_rfl
theorem cb253:Jb Tryz.prog 253=true:=by kernel_rfl
theorem Jz2:Jb Tryz.prog 254=true:=by kernel_rfl
theorem cb255:Jb Tryz.prog 255=true:=by kernel_rfl
theorem cb256:Jb Tryz.prog 256=true:=by kernel_rfl
theorem Ji0:Jb Tryz.prog 257=true:=by kernel_rfl
theorem Jov:Jb Tryz.prog 258=true:=by kernel_rfl
theorem cb260:Jb Tryz.prog 260=true:=by kernel_rfl
theorem J5:Tryz.prog.follows .mixedOrders=true:=by kernel_rfl
end Go.Wf
namespace Go.Wf
open Go Go.Proofs Go.RowKit
theorem Jw7{X:Nat→Prop}{w:World}(hX:XB X w){n:Int}  :Calls Tryz.prog 260 #[(.int .i64 n)] w (Ret w fun v w'=>v=(.int .i64 ((n).sign))):=by
 have C:=Cx.start hX;refine Cgo (args:=[(.int .i64 n)]) Tryz.func260 rfl rfl rfl (Rg (Oa (Nl (W.seq (W.block (Rg (Om (Ol (J3i rfl rfl (fun hc1=>?_) (fun hc1=>?_))))))))))
 ·exact Oa (Nl (J26 rfl (Rg (Oa (Nl (W.ret (Wq rfl rfl C (congrArg (Value.int _) (by rw [Int.sign_eq_neg_one_of_neg (by omega)])))))))))
 refine Oa (Nl (J28 rfl (Rg (Om (Ol (J3u rfl rfl (fun hc2=>?_) (fun hc2=>?_)))))))
 ·exact Oa (Nl (J26 rfl (Rg (Oa (Nl (W.ret (Wq rfl rfl C (congrArg (Value.int _) (by rw [Int.sign_eq_one_of_pos (by omega)])))))))))
 exact Oa (Nl (J28 rfl (W.skip (Rg (Oa (Nl (W.ret (Wq rfl rfl C (congrArg (Value.int _) (by rw [show n=0 by omega];rfl))))))))))
theorem Z6{X:Nat→Prop}{w:World}(hX:XB X w){v0:Value}{m:List Nat}(r0:RS Je X w v0 m)(hm:m.length≤1099511627776):Calls Tryz.prog 205 #[v0] w (Ret w fun v w'=>RS Je X w' v (trim m)):=by
 obtain⟨a1,c2,rfl,_,_⟩:=r0.len;have C:=Cx.start hX;refine Cgo (args:=[(.slice a1 m.length c2)]) Tryz.func205 rfl rfl rfl (Rg (Oa (Nl (W.seq (W.block (J3j (fun μ f v=>∃ (x y:Nat→Prop) (j:Nat),Cx X w x y v∧f 2=(.slice none 0 0)∧f 0=(.slice a1 j c2)∧RS Je x v (.slice a1 j c2) (m.take j)∧j≤m.length∧trim (m.take j)=trim m∧μ=j) _ ⟨_,_,m.length,C,rfl,rfl,(by rw [List.take_length];exact r0),(Nat.le_refl _),(by rw [List.take_length]),rfl⟩ ?_))))));rintro m11 f3 w4 ⟨x5,y6,j,C7,e8,e9,hj,hjl,htr,hmu10⟩;obtain⟨f12,rfl⟩:=rebK (aC e8 (aC e9 aN));clear e8 e9;refine Rh (Om (Ol (St.len sl24 rfl (Ol (J3u rfl rfl (fun hc13=>?_) (fun hc13=>?_))))))
 ·refine Om (Og rfl rfl (St.move (Og rfl rfl (St.move (Og rfl rfl (St.len sl24 rfl (Og rfl rfl (St.sub (z:=(((j:Nat):Int) - 1)) rfl rfl (IntWalk.i64_in _ (by omega)) (Og rfl rfl (J3k (j:=(j - 1)) (u:=(m.getD (j - 1) 0)) hj sl24 Ji rfl rfl (by omega) (Jud hjl (by omega)) ?_))))))))));intro b14 o15 cs16 e17;obtain⟨rfl,bd18⟩:cs16=_∧_:=e17.rd;refine Og rfl rfl (J3e Ze rfl (e17.cell 0 _ rfl) (Og rfl rfl (J3h rfl rfl (fun hc19=>?_) (fun hc19=>?_))))
  ·refine OT (Nl (J26 rfl (W.skip (W.block (W.region (Om (Om (Ol (St.len sl24 rfl (Ol (St.sub (z:=(((j:Nat):Int) - 1)) rfl rfl (IntWalk.i64_in _ (by omega)) (Ol (J4z (j:=(j - 1)) hj sl24 Ji rfl rfl (by omega) (by rw [List.length_take];omega) ?_)))))))))))));intro h20;refine Oa (Nl (⟨_,(by omega),_,_,(j - 1),C7,rfl,rfl,(by rw [List.take_take,Nat.min_eq_left (by omega)] at h20;exact h20),(by omega),(Jcx hjl hc13 hc19 htr),rfl⟩))
  exact OT (Nl (J28 rfl (W.exit (Rg (Om (Oa (Nl (W.ret (Wq rfl rfl C7 (J3s ((hj:RS _ _ _ _ _).tr (Tr.weak C7.base)) ((Jco hjl hc13 hc19 htr))))))))))))
 exact Om (Oz (Oz (Oz (Oz (Oz (Oz (Oz (OF (Nl (J28 rfl (W.exit (Rg (Om (Oa (Nl (W.ret (Wq rfl rfl C7 (J3s ((hj:RS _ _ _ _ _).tr (Tr.weak C7.base)) ((Jgu hjl hc13 htr))))))))))))))))))))
theorem Kk{X:Nat→Prop}{w:World}(hX:XB X w){b:Bool}{v1:Value}{m:List Nat}(r1:RS Je X w v1 m)(hm:m.length≤1099511627776):Calls Tryz.prog 208 #[(.bool b),v1] w (Ret w fun v w'=>RV Jx X w' v (mkSg b m)):=by
 obtain⟨a1,c2,rfl,_,_⟩:=r1.len;have C:=Cx.start hX
 cases b
 ·refine Cgo (args:=[(.bool false),(.slice a1 m.length c2)]) Tryz.func208 rfl rfl rfl (Rg (Ol (J3b C io26 rfl ?_)));intro g3 w4 x5 y6 lt7 C8 s9 o10;replace r1:=r1.sp s9;refine Nl (Rg (Om (Ol (J25 C8 jz rfl rfl (Z6 C8.bd r1 (by omega)) ?_))));intro v11 w12 C13 s14 h15;replace o10:=o10.spn s14;obtain⟨a16,c17,rfl,_,_⟩:=h15.len;refine Oa (Nl (Rg (Om (Om (Oz (Oz (Oz (OF (Om (Ol (St.build (cs:=[(.bool false),(.slice a16 (trim m).length c17)]) rfl (by kernel_rfl) (On (J3a (cs':=[(.bool false),(.slice a16 (trim m).length c17)]) C13 o10 io26 rfl rfl rfl rfl rfl rfl ?_)))))))))))));intro w18 C19 s20 o21;replace h15:=h15.sp s20;refine Nl (W.ret (J7 rfl (resV.c o21 rfl ag26 rfl) (Ret.intro ?_ C19.below)));exact J3l (a:=(⟨false,(trim m)⟩:GInt)) ((Jo h15).tr (Tr.weak C19.base)) (by simp [mkSg])
 refine Cgo (args:=[(.bool true),(.slice a1 m.length c2)]) Tryz.func208 rfl rfl rfl (Rg (Ol (J3b C io26 rfl ?_)));intro g22 w23 x24 y25 lt26 C27 s28 o29;replace r1:=r1.sp s28;refine Nl (Rg (Om (Ol (J25 C27 jz rfl rfl (Z6 C27.bd r1 (by omega)) ?_))));intro v30 w31 C32 s33 h34;replace o29:=o29.spn s33;obtain⟨a35,c36,rfl,_,_⟩:=h34.len;refine Oa (Nl (Rg (Om (Om (Og rfl rfl (St.move (Og rfl rfl (St.len sl24 rfl (Og rfl rfl (St.gtr rfl rfl rfl (OT (Om (Ol (St.build (cs:=[(.bool (decide (0 < (((trim m).length:Nat):Int)))),(.slice a35 (trim m).length c36)]) rfl (by kernel_rfl) (On (J3a (cs':=[(.bool (decide (0 < (((trim m).length:Nat):Int)))),(.slice a35 (trim m).length c36)]) C32 o29 io26 rfl rfl rfl rfl rfl rfl ?_))))))))))))))));intro w37 C38 s39 o40;replace h34:=h34.sp s39;refine Nl (W.ret (J7 rfl (resV.c o40 rfl ag26 rfl) (Ret.intro ?_ C38.below)));exact J3l (a:=(⟨(decide (0 < (((trim m).length:Nat):Int))),(trim m)⟩:GInt)) ((Jo h34).tr (Tr.weak C38.base)) (by simp [mkSg])
theorem yn{X:Nat→Prop}{w:World}(hX:XB X w){v0:Value}{m:List Nat}(r0:RS Je X w v0 m)(hm:m.length≤1099511627776):Calls Tryz.prog 209 #[v0] w (Ret w fun v w'=>RS Je X w' v m):=by
 obtain⟨a1,c2,rfl,_,_⟩:=r0.len;have C:=Cx.start hX;refine Cgo (args:=[(.slice a1 m.length c2)]) Tryz.func209 rfl rfl rfl (Rg (Oa (Nl (Rh (Om (Ol (J4t sl24 r0 rfl rfl (fun hc3=>?_) ?_)))))))
 ·exact Nl (J26 rfl (Rg (Oa (Nl (W.ret (Wq rfl rfl C (J3s ((RS.nil:RS _ _ _ _ _).tr (Tr.weak C.base)) (hc3.symm))))))))
 refine Nl (J28 rfl (W.skip (Rg (Ol (J42 (T:=Je) C sl24 Ji ?_)))));intro g8 w4 x9 C5 s6 u10 h7;replace r0:=r0.sp s6;refine Om (Ol (J3o (T:=Je) C5 sl24 Ji rfl rfl h7 (Xh r0) (by simp only [List.length_nil,maxLen];omega) (by simp only [List.length_nil];omega) rfl ?_));intro v11 w12 x13 C14 s15 u16 h17;rw [List.nil_append] at h17;obtain⟨a18,c19,rfl,_,_⟩:=h17.len;exact Oa (Nl (W.ret (Wq rfl rfl C14 (J3s (h17.toRS C14 hX) (rfl)))))
theorem k9{X:Nat→Prop}{w:World}(hX:XB X w){n:Nat}(hn:n < 18446744073709551616):Calls Tryz.prog 211 #[(.int .u64 ((n:Nat):Int))] w (Ret w fun v w'=>RS Je X w' v (digs n)):=by
 have C:=Cx.start hX;refine Cgo (args:=[(.int .u64 ((n:Nat):Int))]) Tryz.func211 rfl rfl rfl (Rg (Oa (Nl (W.seq (W.block (Rg (Om (Ol (J3h rfl rfl (fun hc1=>?_) (fun hc1=>?_))))))))))
 ·exact Oa (Nl (J26 rfl (Rg (Oa (Nl (W.ret (Wq rfl rfl C (J3s ((RS.nil:RS _ _ _ _ _).tr (Tr.weak C.base)) (by rw [show n=0 by omega];rfl)))))))))
 refine Oa (Nl (J28 rfl (Rg (Om (Ol (J3i rfl rfl (fun hc2=>?_) (fun hc2=>?_)))))))
 ·refine Oa (Nl (J26 rfl (Rg (Om (Ol (J3d (z:=((n % 4294967296:Nat):Int)) Yz Yy rfl (Jn _) (Ol (J3t (T:=Je) (css:=[[(.int .u32 ((n % 4294967296:Nat):Int))]]) (l:=[n % 4294967296]) C sl24 Ji (by decide) (by decide) rfl (by kernel_rfl) ⟨⟨rfl,(by omega)⟩,trivial⟩ ?_))))))));intro g7 w3 C4 s5 h6;exact Oa (Nl (W.ret (Wq rfl rfl C4 (J3s ((h6:RS _ _ _ _ _).tr (Tr.weak C4.base)) (by rw [Jas (by omega) (by omega)];congr 1;omega)))))
 refine Oa (Nl (J28 rfl (W.skip (Rg (Om (Ol (J3d (z:=((n % 4294967296:Nat):Int)) Yz Yy rfl (Jn _) (Om (Ol (St.shr rfl rfl (by decide) (Yx (d:=4294967296) _ (by decide)) (Ol (J3d (z:=(((n / 4294967296) % 4294967296:Nat):Int)) Yz Yy rfl (Jn _) ?_))))))))))));refine Ol (J3t (T:=Je) (css:=[[(.int .u32 ((n % 4294967296:Nat):Int))],[(.int .u32 (((n / 4294967296) % 4294967296:Nat):Int))]]) (l:=[n % 4294967296,(n / 4294967296) % 4294967296]) C sl24 Ji (by decide) (by decide) rfl (by kernel_rfl) ⟨⟨rfl,(by omega)⟩,⟨rfl,(by omega)⟩,trivial⟩ ?_);intro g14 w10 C11 s12 h13;exact Oa (Nl (W.ret (Wq rfl rfl C11 (J3s ((h13:RS _ _ _ _ _).tr (Tr.weak C11.base)) (by rw [Jno (by omega) (by omega)];congr 2;omega)))))
theorem Jgz{X:Nat→Prop}{w:World}(hX:XB X w){v0:Value}{m:List Nat}(r0:RS Je X w v0 m)(hm:m.length≤2):Calls Tryz.prog 241 #[v0] w (Ret w fun v w'=>v=(.int .u64 (((val m):Nat):Int))):=by
 obtain⟨a1,c2,rfl,_,_⟩:=r0.len;have C:=Cx.start hX;have hs:=r0.u32_small;have hs0:=Jm hs 0;have hs1:=Jm hs 1;refine Cgo (args:=[(.slice a1 m.length c2)]) Tryz.func241 rfl rfl rfl (Rg (Oa (Nl (Rh (Om (Ol (St.len sl24 rfl (Nl (W.block (Rg (Ol (J3h rfl rfl (fun hc3=>?_) (fun hc3=>?_)))))))))))))
 ·exact Oa (Nl (J26 rfl (Rg (Oa (Nl (W.ret (Wq rfl rfl C (congrArg (Value.int _) (Jy6 (by omega))))))))))
 refine Oa (Nl (J28 rfl (Rg (Ol (J3h rfl rfl (fun hc4=>?_) (fun hc4=>?_))))))
 ·refine Oa (Nl (J26 rfl (Rg (Om (Ol (J3k (j:=0) (u:=(m.getD 0 0)) r0 sl24 Ji rfl rfl rfl (Jg (by omega)) ?_))))));intro b5 o6 cs7 e8;obtain⟨rfl,bd9⟩:cs7=_∧_:=e8.rd;exact Ol (J3e Ze rfl (e8.cell 0 _ rfl) (Ol (J3d (z:=(((m.getD 0 0):Nat):Int)) Yi Yn rfl (IntWalk.u64_in _ (by omega)) (Oa (Nl (W.ret (Wq rfl rfl C (congrArg (Value.int _) (Jzl (by omega))))))))))
 refine Oa (Nl (J28 rfl (W.skip (W.seq (J3m J5 9 [[],[0],[1],[2],[3],[],[5],[6],[7]] C [fx (.slice a1 m.length c2),fE Je (m.getD 1 0),fx (.int .u32 (((m.getD 1 0):Nat):Int)),fx (.int .u64 (((m.getD 1 0):Nat):Int)),fx (.int .u64 ((m.getD 1 0 * 4294967296:Nat):Int)),fx (.slice a1 m.length c2),fE Je (m.getD 0 0),fx (.int .u32 (((m.getD 0 0):Nat):Int)),fx (.int .u64 (((m.getD 0 0):Nat):Int))] (by kernel_rfl) ⟨sx,sE,sx,sx,sx,sx,sE,sx,sx,trivial⟩ fun f21 s22 w23 ⟨C26,S27⟩ k25=>?_)))))
 replace r0:=r0.sp S27;have k25:Keep [13,14,15,16,17,18,19,20,21] _ f21:=k25;refine⟨⟨fun _=>?_,fun⟨e28,_⟩=>?_,fun⟨d29,_⟩=>?_,fun⟨e30,_⟩=>?_,fun⟨e31,_⟩=>?_,fun _=>?_,fun⟨e32,_⟩=>?_,fun⟨d33,_⟩=>?_,fun⟨e34,_⟩=>?_,trivial⟩,fun⟨e35,d36,e37,e38,e39,e40,d41,e42,e43,_⟩=>?_⟩
 ·exact Ja k25 aN fun _=>OpSt.op (St.move ⟨s22,RC.same C26,rfl⟩)
 ·refine Ja k25 (aC e28 aN) fun _=>OpSt.op (J3k (j:=1) (u:=(m.getD 1 0)) r0 sl24 Ji rfl rfl rfl (Jg (by omega)) ?_);intro b44 o45 cs46 e47;obtain⟨rfl,bd48⟩:cs46=_∧_:=e47.rd;exact⟨s22,RC.same C26,⟨_,_,_,rfl,e47⟩⟩
 ·obtain⟨b50,o51,cs52,e49,e53⟩:=d29;obtain⟨rfl,bd54⟩:cs52=_∧_:=e53.rd;exact Ja k25 (aC e49 aN) fun _=>OpSt.op (J3e Ze rfl (e53.cell 0 _ rfl) ⟨s22,RC.same C26,rfl⟩)
 ·exact Ja k25 (aC e30 aN) fun _=>OpSt.op (J3d (z:=(((m.getD 1 0):Nat):Int)) Yi Yn rfl (IntWalk.u64_in _ (by omega)) ⟨s22,RC.same C26,rfl⟩)
 ·exact Ja k25 (aC e31 aN) fun _=>OpSt.op (St.shl (z:=((m.getD 1 0 * 4294967296:Nat):Int)) rfl rfl (by decide) (Ja5 (Jm hs 1)) ⟨s22,RC.same C26,rfl⟩)
 ·exact Ja k25 aN fun _=>OpSt.op (St.move ⟨s22,RC.same C26,rfl⟩)
 ·refine Ja k25 (aC e32 aN) fun _=>OpSt.op (J3k (j:=0) (u:=(m.getD 0 0)) r0 sl24 Ji rfl rfl rfl (Jg (by omega)) ?_);intro b55 o56 cs57 e58;obtain⟨rfl,bd59⟩:cs57=_∧_:=e58.rd;exact⟨s22,RC.same C26,⟨_,_,_,rfl,e58⟩⟩
 ·obtain⟨b61,o62,cs63,e60,e64⟩:=d33;obtain⟨rfl,bd65⟩:cs63=_∧_:=e64.rd;exact Ja k25 (aC e60 aN) fun _=>OpSt.op (J3e Ze rfl (e64.cell 0 _ rfl) ⟨s22,RC.same C26,rfl⟩)
 ·exact Ja k25 (aC e34 aN) fun _=>OpSt.op (J3d (z:=(((m.getD 0 0):Nat):Int)) Yi Yn rfl (IntWalk.u64_in _ (by omega)) ⟨s22,RC.same C26,rfl⟩)
 obtain⟨b67,o68,cs69,e66,e70⟩:=d36;obtain⟨rfl,bd71⟩:cs69=_∧_:=e70.rd;obtain⟨b73,o74,cs75,e72,e76⟩:=d41;obtain⟨rfl,bd77⟩:cs75=_∧_:=e76.rd;obtain⟨f78,rfl⟩:=mixK k25 (aC e35 (aC e66 (aC e37 (aC e38 (aC e39 (aC e40 (aC e72 (aC e42 (aC e43 aN)))))))));exact Ol (St.or (z:=((m.getD 1 0 * 4294967296+m.getD 0 0:Nat):Int)) rfl rfl (Jac (Jm hs 1) (Jm hs 0)) (Oa (Nl (W.ret (Wq rfl rfl C26 (congrArg (Value.int _) (Jzg (by omega))))))))
theorem Jj9{X:Nat→Prop}{w:World}(hX:XB X w){v0:Value}{a:List Nat}(r0:RS Je X w v0 a){v1:Value}{b:List Nat}(r1:RS Je X w v1 b)(ha:trim a=a)(hb:trim b=b)(hla:a.length≤1099511627776)(hlb:b.length≤1099511627776):Calls Tryz.prog 246 #[v0,v1] w (Ret w fun v w'=>v=(.int .i64 (cmpN (val a) (val b)))):=by
 obtain⟨a1,c2,rfl,_,_⟩:=r0.len;obtain⟨a3,c4,rfl,_,_⟩:=r1.len;have C:=Cx.start hX;have sa:=r0.u32_small;have sb:=r1.u32_small;refine Cgo (args:=[(.slice a1 a.length c2),(.slice a3 b.length c4)]) Tryz.func246 rfl rfl rfl (Rg (Oa (Nl (Rh (Om (Ol (St.len sl24 rfl (Om (Ol (St.len sl24 rfl (Ol (J3q rfl rfl (fun hc5=>?_) (fun hc5=>?_)))))))))))))
 ·refine Nl (J26 rfl (Rg (Om (Ol (St.len sl24 rfl (Om (Ol (St.len sl24 rfl (Ol (St.sub (z:=(((a.length:Nat):Int) - ((b.length:Nat):Int))) rfl rfl (IntWalk.i64_in _ (by omega)) (Ol (J25 C cb260 rfl rfl (Jw7 C.bd) ?_))))))))))));intro v6 w7 C8 s9 h10;subst h10;exact Oa (Nl (W.ret (Wq rfl rfl C8 (congrArg (Value.int _) ((Jte ha hb sa sb (by omega)))))))
 refine Nl (J28 rfl (W.skip (Rh (Om (Ol (St.len sl24 rfl (Ol (St.sub (z:=(((a.length:Nat):Int) - 1)) rfl rfl (IntWalk.i64_in _ (by omega)) (Oa (Nl (W.block (J3j (fun μ f v=>∃ (x y:Nat→Prop) (j:Nat),Cx X w x y v∧f 0=(.slice a1 a.length c2)∧f 1=(.slice a3 b.length c4)∧f 5=(.int .i64 ((j:Int) - 1))∧RS Je x v (.slice a1 a.length c2) a∧RS Je x v (.slice a3 b.length c4) b∧j≤a.length∧a.drop j=b.drop j∧μ=j) _ ⟨_,_,a.length,C,rfl,rfl,rfl,r0,r1,(Nat.le_refl _),(by rw [List.drop_of_length_le (Nat.le_refl _),List.drop_of_length_le (by omega)]),rfl⟩ ?_))))))))))));rintro m20 f11 w12 ⟨x13,y14,j,C15,e16,e17,e18,r0,r1,hj,heq,hmu19⟩;obtain⟨f21,rfl⟩:=rebK (aC e16 (aC e17 (aC e18 aN)));clear e16 e17 e18;refine Rh (Om (Ol (J3w rfl rfl (fun hc22=>?_) (fun hc22=>?_))))
 ·refine Nl (J26 rfl (W.skip (W.seq (W.block (W.seq (J3m J5 8 [[],[],[0,1],[2],[],[],[4,5],[6]] C15 [fx (.slice a1 a.length c2),fx (.int .i64 ((j:Int) - 1)),fE Je (a.getD (j - 1) 0),fx (.int .u32 (((a.getD (j - 1) 0):Nat):Int)),fx (.slice a3 b.length c4),fx (.int .i64 ((j:Int) - 1)),fE Je (b.getD (j - 1) 0),fx (.int .u32 (((b.getD (j - 1) 0):Nat):Int))] (by kernel_rfl) ⟨sx,sx,sE,sx,sx,sx,sE,sx,trivial⟩ fun f34 s35 w36 ⟨C39,S40⟩ k38=>?_))))))
  replace r0:=r0.sp S40;replace r1:=r1.sp S40;have k38:Keep [24,25,26,27,28,29,30,31] _ f34:=k38;refine⟨⟨fun _=>?_,fun _=>?_,fun⟨e41,e42,_⟩=>?_,fun⟨d43,_⟩=>?_,fun _=>?_,fun _=>?_,fun⟨e44,e45,_⟩=>?_,fun⟨d46,_⟩=>?_,trivial⟩,fun⟨e47,e48,d49,e50,e51,e52,d53,e54,_⟩=>?_⟩
  ·exact Ja k38 aN fun _=>OpSt.op (St.move ⟨s35,RC.same C39,rfl⟩)
  ·exact Ja k38 aN fun _=>OpSt.op (St.move ⟨s35,RC.same C39,rfl⟩)
  ·refine Ja k38 (aC e41 (aC e42 aN)) fun _=>OpSt.op (J3k (j:=(j - 1)) (u:=(a.getD (j - 1) 0)) r0 sl24 Ji rfl rfl (by omega) (Jg (by omega)) ?_);intro b55 o56 cs57 e58;obtain⟨rfl,bd59⟩:cs57=_∧_:=e58.rd;exact⟨s35,RC.same C39,⟨_,_,_,rfl,e58⟩⟩
  ·obtain⟨b61,o62,cs63,e60,e64⟩:=d43;obtain⟨rfl,bd65⟩:cs63=_∧_:=e64.rd;exact Ja k38 (aC e60 aN) fun _=>OpSt.op (J3e Ze rfl (e64.cell 0 _ rfl) ⟨s35,RC.same C39,rfl⟩)
  ·exact Ja k38 aN fun _=>OpSt.op (St.move ⟨s35,RC.same C39,rfl⟩)
  ·exact Ja k38 aN fun _=>OpSt.op (St.move ⟨s35,RC.same C39,rfl⟩)
  ·refine Ja k38 (aC e44 (aC e45 aN)) fun _=>OpSt.op (J3k (j:=(j - 1)) (u:=(b.getD (j - 1) 0)) r1 sl24 Ji rfl rfl (by omega) (Jg (by omega)) ?_);intro b66 o67 cs68 e69;obtain⟨rfl,bd70⟩:cs68=_∧_:=e69.rd;exact⟨s35,RC.same C39,⟨_,_,_,rfl,e69⟩⟩
  ·obtain⟨b72,o73,cs74,e71,e75⟩:=d46;obtain⟨rfl,bd76⟩:cs74=_∧_:=e75.rd;exact Ja k38 (aC e71 aN) fun _=>OpSt.op (J3e Ze rfl (e75.cell 0 _ rfl) ⟨s35,RC.same C39,rfl⟩)
  obtain⟨b78,o79,cs80,e77,e81⟩:=d49;obtain⟨rfl,bd82⟩:cs80=_∧_:=e81.rd;obtain⟨b84,o85,cs86,e83,e87⟩:=d53;obtain⟨rfl,bd88⟩:cs86=_∧_:=e87.rd;obtain⟨f89,rfl⟩:=mixK k38 (aC e47 (aC e48 (aC e77 (aC e50 (aC e51 (aC e52 (aC e83 (aC e54 aN))))))));refine Ol (J3q rfl rfl (fun hc90=>?_) (fun hc90=>?_))
  ·refine Nl (J26 rfl (W.seq (W.seq (J3m J5 8 [[],[],[0,1],[2],[],[],[4,5],[6]] C39 [fx (.slice a1 a.length c2),fx (.int .i64 ((j:Int) - 1)),fE Je (a.getD (j - 1) 0),fx (.int .u32 (((a.getD (j - 1) 0):Nat):Int)),fx (.slice a3 b.length c4),fx (.int .i64 ((j:Int) - 1)),fE Je (b.getD (j - 1) 0),fx (.int .u32 (((b.getD (j - 1) 0):Nat):Int))] (by kernel_rfl) ⟨sx,sx,sE,sx,sx,sx,sE,sx,trivial⟩ fun f102 s103 w104 ⟨C107,S108⟩ k106=>?_))))
   replace r0:=r0.sp S108;replace r1:=r1.sp S108;have k106:Keep [33,34,35,36,37,38,39,40] _ f102:=k106;refine⟨⟨fun _=>?_,fun _=>?_,fun⟨e109,e110,_⟩=>?_,fun⟨d111,_⟩=>?_,fun _=>?_,fun _=>?_,fun⟨e112,e113,_⟩=>?_,fun⟨d114,_⟩=>?_,trivial⟩,fun⟨e115,e116,d117,e118,e119,e120,d121,e122,_⟩=>?_⟩
   ·exact Ja k106 aN fun _=>OpSt.op (St.move ⟨s103,RC.same C107,rfl⟩)
   ·exact Ja k106 aN fun _=>OpSt.op (St.move ⟨s103,RC.same C107,rfl⟩)
   ·refine Ja k106 (aC e109 (aC e110 aN)) fun _=>OpSt.op (J3k (j:=(j - 1)) (u:=(a.getD (j - 1) 0)) r0 sl24 Ji rfl rfl (by omega) (Jg (by omega)) ?_);intro b123 o124 cs125 e126;obtain⟨rfl,bd127⟩:cs125=_∧_:=e126.rd;exact⟨s103,RC.same C107,⟨_,_,_,rfl,e126⟩⟩
   ·obtain⟨b129,o130,cs131,e128,e132⟩:=d111;obtain⟨rfl,bd133⟩:cs131=_∧_:=e132.rd;exact Ja k106 (aC e128 aN) fun _=>OpSt.op (J3e Ze rfl (e132.cell 0 _ rfl) ⟨s103,RC.same C107,rfl⟩)
   ·exact Ja k106 aN fun _=>OpSt.op (St.move ⟨s103,RC.same C107,rfl⟩)
   ·exact Ja k106 aN fun _=>OpSt.op (St.move ⟨s103,RC.same C107,rfl⟩)
   ·refine Ja k106 (aC e112 (aC e113 aN)) fun _=>OpSt.op (J3k (j:=(j - 1)) (u:=(b.getD (j - 1) 0)) r1 sl24 Ji rfl rfl (by omega) (Jg (by omega)) ?_);intro b134 o135 cs136 e137;obtain⟨rfl,bd138⟩:cs136=_∧_:=e137.rd;exact⟨s103,RC.same C107,⟨_,_,_,rfl,e137⟩⟩
   ·obtain⟨b140,o141,cs142,e139,e143⟩:=d114;obtain⟨rfl,bd144⟩:cs142=_∧_:=e143.rd;exact Ja k106 (aC e139 aN) fun _=>OpSt.op (J3e Ze rfl (e143.cell 0 _ rfl) ⟨s103,RC.same C107,rfl⟩)
   obtain⟨b146,o147,cs148,e145,e149⟩:=d117;obtain⟨rfl,bd150⟩:cs148=_∧_:=e149.rd;obtain⟨b152,o153,cs154,e151,e155⟩:=d121;obtain⟨rfl,bd156⟩:cs154=_∧_:=e155.rd;obtain⟨f157,rfl⟩:=mixK k106 (aC e115 (aC e116 (aC e145 (aC e118 (aC e119 (aC e120 (aC e151 (aC e122 aN))))))));refine Ol (J3i rfl rfl (fun hc158=>?_) (fun hc158=>?_))
   ·exact Nl (J26 rfl (Rg (Oa (Nl (W.ret (Wq rfl rfl C107 (congrArg (Value.int _) ((Jij sa sb (by omega) (by omega) (by omega) (by omega) heq)))))))))
   exact Nl (J28 rfl (W.skip (Rg (Oa (Nl (W.ret (Wq rfl rfl C107 (congrArg (Value.int _) ((Jq0 sa sb (by omega) (by omega) (by omega) (by omega) (by omega) heq))))))))))
  refine Nl (J28 rfl (W.skip (W.region (Om (Ol (St.sub (z:=(((j:Int) - 1) - 1)) rfl rfl (IntWalk.i64_in _ (by omega)) (Oa (Nl (⟨_,(by omega),_,_,(j - 1),C39,rfl,rfl,(congrArg (Value.int .i64) (by omega)),r0,r1,(by omega),(Jga (by omega) (by omega) (by omega) hc90 heq),rfl⟩)))))))))
 exact Nl (J28 rfl (W.exit (Rg (Oa (Nl (W.ret (Wq rfl rfl C15 (congrArg (Value.int _) ((Jqq (show j=0 by omega) heq))))))))))
end Go.Wf
namespace Go.Wf
open Go Go.Proofs Go.RowKit
theorem yp{X:Nat→Prop}{w:World}(hX:XB X w){x:Nat}{y:Nat}{c:Nat}(hx:x < 4294967296)(hy:y < 4294967296)(hc:c≤1):Calls Tryz.prog 257 #[(.int .u32 ((x:Nat):Int)),(.int .u32 ((y:Nat):Int)),(.int .u32 ((c:Nat):Int))] w (Ret w fun v w'=>∃ v0 v1,v= .tuple #[v0,v1]∧(v0=(.int .u32 ((((x+y+c) % 4294967296):Nat):Int)))∧(v1=(.int .u32 ((((x+y+c) / 4294967296):Nat):Int)))):=by
 have C:=Cx.start hX;refine Cgo (args:=[(.int .u32 ((x:Nat):Int)),(.int .u32 ((y:Nat):Int)),(.int .u32 ((c:Nat):Int))]) Tryz.func257 rfl rfl rfl (Rg (Oa (Oa (Nl (Rg (Om (Ol (J3d (z:=((x:Nat):Int)) Yi Yn rfl (IntWalk.u64_in _ (by omega)) (Om ?_)))))))));refine Ol (J3d (z:=((y:Nat):Int)) Yi Yn rfl (IntWalk.u64_in _ (by omega)) (Ol (St.add rfl rfl (Zj (a:=x) (b:=y) (by omega)) (Om (Ol (J3d (z:=((c:Nat):Int)) Yi Yn rfl (IntWalk.u64_in _ (by omega)) (Ol (St.add rfl rfl (Zj (a:=x+y) (b:=c) (by omega)) (Oa (Nl (W.seq ?_)))))))))));refine W.region (Om (Ol (J3d (z:=((((x+y)+c) % 4294967296:Nat):Int)) Yz Yy rfl (Jn _) (Oa (Nl (Rg (Om (Ol (St.shr rfl rfl (by decide) (Yx (d:=4294967296) _ (by decide)) (Ol (J3d (z:=(((((x+y)+c) / 4294967296) % 4294967296:Nat):Int)) Yz Yy rfl (Jn _) ?_)))))))))));refine Oa (Nl (W.ret (Zh rfl (resV.t rfl) (resV.t rfl) (Ret.intro ?_ C.below))));refine⟨_,_,rfl,?_,?_⟩
 ·skip
  rfl
 ·skip
  exact congrArg (Value.int _) (by omega)
theorem vf{X:Nat→Prop}{w:World}(hX:XB X w){x:Nat}{y:Nat}{b:Nat}(hx:x < 4294967296)(hy:y < 4294967296)(hb:b≤1):Calls Tryz.prog 258 #[(.int .u32 ((x:Nat):Int)),(.int .u32 ((y:Nat):Int)),(.int .u32 ((b:Nat):Int))] w (Ret w fun v w'=>∃ v0 v1,v= .tuple #[v0,v1]∧(v0=(.int .u32 ((((x+8589934592 - y - b) % 4294967296):Nat):Int)))∧(v1=(.int .u32 (((if x < y+b then 1 else 0):Nat):Int)))):=by
 have C:=Cx.start hX;have hxy:x ^^^ y < 4294967296:=Nat.xor_lt_two_pow (n:=32) hx hy;have h1:(4294967295 - x) &&& y < 4294967296:=Nat.and_lt_two_pow _ (n:=32) hy;have h2:∀ d,d < 4294967296→(4294967295 - (x ^^^ y)) &&& d < 4294967296:=fun d hd=>Nat.and_lt_two_pow _ (n:=32) hd;refine Cgo (args:=[(.int .u32 ((x:Nat):Int)),(.int .u32 ((y:Nat):Int)),(.int .u32 ((b:Nat):Int))]) Tryz.func258 rfl rfl rfl (Rg (Oa (Oa (Nl (Rg (Om (Om (Ol (St.sub (z:=(((x+4294967296 - y) % 4294967296:Nat):Int)) rfl rfl (Jqn hy) ?_)))))))));refine Om (Ol (St.sub (z:=(((x+8589934592 - y - b) % 4294967296:Nat):Int)) rfl rfl ((Jqn (by omega)).trans (by omega)) (Oa (Nl (Rg (Om (Ol (J5d rfl (yw (by omega)) (Om (Ol (St.and rfl rfl (qj (a:=4294967295 - x) (b:=y) (by omega) (by omega)) (Om ?_))))))))))));refine Om (Ol (St.xor rfl rfl (Jem (a:=x) (b:=y) (by omega) (by omega)) (Ol (J5d rfl (yw (by omega)) (Om (Ol (St.and rfl rfl (qj (a:=4294967295 - (x ^^^ y)) (b:=(x+8589934592 - y - b) % 4294967296) (by omega) (by omega)) (Ol (St.or rfl rfl (jx (a:=(4294967295 - x) &&& y) (b:=(4294967295 - (x ^^^ y)) &&& ((x+8589934592 - y - b) % 4294967296)) (by omega) (h2 _ (by omega))) ?_)))))))));refine Ol (St.shr rfl rfl (by decide) (Yx (d:=2147483648) _ (by decide)) (Oa (Nl (W.ret (Zh rfl (resV.t rfl) (resV.t rfl) (Ret.intro ?_ C.below))))));refine⟨_,_,rfl,?_,?_⟩
 ·skip
  rfl
 ·skip
  exact congrArg (Value.int _) (congrArg _ (Jg8 hx hy hb rfl))
theorem Jrv{X:Nat→Prop}{w:World}(hX:XB X w){hi:Nat}{lo:Nat}{y:Nat}(hh:hi < y)(hl:lo < 4294967296)(hy:y < 4294967296):Calls Tryz.prog 235 #[(.int .u32 ((hi:Nat):Int)),(.int .u32 ((lo:Nat):Int)),(.int .u32 ((y:Nat):Int))] w (Ret w fun v w'=>∃ v0 v1,v= .tuple #[v0,v1]∧(v0=(.int .u32 ((((hi * 4294967296+lo) / y):Nat):Int)))∧(v1=(.int .u32 ((((hi * 4294967296+lo) % y):Nat):Int)))):=by
 have C:=Cx.start hX;have hq:(hi * 4294967296+lo) / y < 4294967296:=Nat.div_lt_of_lt_mul (by have:=Nat.mul_le_mul_right 4294967296 (show hi+1≤y by omega);omega);have hr:=Nat.mod_lt (hi * 4294967296+lo) (show 0 < y by omega);refine Cgo (args:=[(.int .u32 ((hi:Nat):Int)),(.int .u32 ((lo:Nat):Int)),(.int .u32 ((y:Nat):Int))]) Tryz.func235 rfl rfl rfl (Rg (Oa (Oa (Nl (Rh (Om (Ol (St.neq (t:=true) rfl rfl (by rw [decide_eq_false (by omega)];rfl) (Om ?_)))))))));refine Og rfl rfl (St.move (Og rfl rfl (St.move (Og rfl rfl (St.leq (t:=false) rfl rfl (decide_eq_false (by omega)) (OT (Nl (J28 rfl (W.skip (Rg (Om (Ol (J3d (z:=((hi:Nat):Int)) Yi Yn rfl (IntWalk.u64_in _ (by omega)) (Ol (St.shl rfl rfl (by decide) (Vv (a:=hi) (d:=4294967296) (by decide) (by omega)) ?_)))))))))))))));refine Om (Ol (J3d (z:=((lo:Nat):Int)) Yi Yn rfl (IntWalk.u64_in _ (by omega)) (Ol (St.or (z:=((hi * 4294967296+lo:Nat):Int)) rfl rfl (Jac (by omega) (by omega)) (Oa (Nl (W.seq (J3m J5 11 [[],[],[1],[0,2],[3],[],[],[6],[5,7],[8],[4]] C [fx (.int .u64 ((hi * 4294967296+lo:Nat):Int)),fx (.int .u32 ((y:Nat):Int)),fx (.int .u64 ((y:Nat):Int)),fx (.int .u64 (((hi * 4294967296+lo) / y:Nat):Int)),fx (.int .u32 ((((hi * 4294967296+lo) / y) % 4294967296:Nat):Int)),fx (.int .u64 ((hi * 4294967296+lo:Nat):Int)),fx (.int .u32 ((y:Nat):Int)),fx (.int .u64 ((y:Nat):Int)),fx (.int .u64 (((hi * 4294967296+lo) % y:Nat):Int)),fx (.int .u32 ((((hi * 4294967296+lo) % y) % 4294967296:Nat):Int)),fx (.int .u32 ((((hi * 4294967296+lo) / y) % 4294967296:Nat):Int))] (by kernel_rfl) ⟨sx,sx,sx,sx,sx,sx,sx,sx,sx,sx,sx,trivial⟩ fun f2 s3 w4 ⟨C7,S8⟩ k6=>?_))))))))
 have k6:Keep [23,24,25,26,27,28,29,30,31,32,6] _ f2:=k6;refine⟨⟨fun _=>?_,fun _=>?_,fun⟨e9,_⟩=>?_,fun⟨e10,e11,_⟩=>?_,fun⟨e12,_⟩=>?_,fun _=>?_,fun _=>?_,fun⟨e13,_⟩=>?_,fun⟨e14,e15,_⟩=>?_,fun⟨e16,_⟩=>?_,fun⟨e17,_⟩=>?_,trivial⟩,fun⟨e18,e19,e20,e21,e22,e23,e24,e25,e26,e27,e28,_⟩=>?_⟩
 ·exact Ja k6 aN fun _=>OpSt.op (St.move ⟨s3,RC.same C7,rfl⟩)
 ·exact Ja k6 aN fun _=>OpSt.op (St.move ⟨s3,RC.same C7,rfl⟩)
 ·exact Ja k6 (aC e9 aN) fun _=>OpSt.op (J3d (z:=((y:Nat):Int)) Yi Yn rfl (IntWalk.u64_in _ (by omega)) ⟨s3,RC.same C7,rfl⟩)
 ·exact Ja k6 (aC e10 (aC e11 aN)) fun _=>OpSt.op (St.quo rfl rfl (by omega) (Qd (a:=hi * 4294967296+lo) (b:=y) (by omega)) ⟨s3,RC.same C7,rfl⟩)
 ·exact Ja k6 (aC e12 aN) fun _=>OpSt.op (J3d (z:=((((hi * 4294967296+lo) / y) % 4294967296:Nat):Int)) Yz Yy rfl (Jn _) ⟨s3,RC.same C7,rfl⟩)
 ·exact Ja k6 aN fun _=>OpSt.op (St.move ⟨s3,RC.same C7,rfl⟩)
 ·exact Ja k6 aN fun _=>OpSt.op (St.move ⟨s3,RC.same C7,rfl⟩)
 ·exact Ja k6 (aC e13 aN) fun _=>OpSt.op (J3d (z:=((y:Nat):Int)) Yi Yn rfl (IntWalk.u64_in _ (by omega)) ⟨s3,RC.same C7,rfl⟩)
 ·exact Ja k6 (aC e14 (aC e15 aN)) fun _=>OpSt.op (St.rem rfl rfl (by omega) (X4 (hi * 4294967296+lo) y) ⟨s3,RC.same C7,rfl⟩)
 ·exact Ja k6 (aC e16 aN) fun _=>OpSt.op (J3d (z:=((((hi * 4294967296+lo) % y) % 4294967296:Nat):Int)) Yz Yy rfl (Jn _) ⟨s3,RC.same C7,rfl⟩)
 ·exact Ja k6 (aC e17 aN) fun _=>OpSt.op (St.assign ⟨s3,RC.same C7,rfl⟩)
 obtain⟨f29,rfl⟩:=mixK k6 (aC e18 (aC e19 (aC e20 (aC e21 (aC e22 (aC e23 (aC e24 (aC e25 (aC e26 (aC e27 (aC e28 aN)))))))))));refine Oa (Nl (W.ret (Zh rfl (resV.t rfl) (resV.t rfl) (Ret.intro ?_ C7.below))));refine⟨_,_,rfl,?_,?_⟩
 ·skip
  exact congrArg (Value.int _) (congrArg _ (Nat.mod_eq_of_lt hq))
 ·skip
  exact congrArg (Value.int _) (congrArg _ (Nat.mod_eq_of_lt (Nat.lt_trans hr hy)))
theorem Jx9{X:Nat→Prop}{w:World}(hX:XB X w){v0:Value}{a:List Nat}(r0:RS Je X w v0 a){v1:Value}{b:List Nat}(r1:RS Je X w v1 b)(hla:a.length≤549755813888)(hlb:b.length≤549755813888):Calls Tryz.prog 243 #[v0,v1] w (Ret w fun v w'=>RS Je X w' v (Jt (max a.length b.length+1) (val a+val b))):=by
 obtain⟨a1,c2,rfl,_,_⟩:=r0.len;obtain⟨a3,c4,rfl,_,_⟩:=r1.len;have C:=Cx.start hX;have sa:=r0.u32_small;have sb:=r1.u32_small;refine Cgo (args:=[(.slice a1 a.length c2),(.slice a3 b.length c4)]) Tryz.func243 rfl rfl rfl (Rg (Oa (Nl (Rh (Om (Ol (St.len sl24 rfl (Om (Ol (St.len sl24 rfl (Ol (J3i rfl rfl (fun hc5=>?_) (fun hc5=>?_)))))))))))))
 ·refine Nl (J26 rfl (W.region (Om (Om (Oa (Oa (Nl (Rg (Om (Ol (St.len sl24 rfl (Ol (St.add rfl rfl (Jc (a:=b.length) (b:=1) (by omega)) (Ol (J3y (n:=(b.length+1)) C sl24 rfl rfl rfl (by omega) Ji (by decide) ?_)))))))))))))));intro g6 w7 x8 y9 lt10 C11 s12 o13;replace r0:=r0.sp s12;replace r1:=r1.sp s12;refine Oa (Nl (Rg (Oa (Nl (Rh (Om (Ol (St.len sl24 rfl (Om (Nl (W.block (J3j (fun μ f v=>∃ (x y:Nat→Prop) (i:Nat) (p:List Nat) (c:Nat),Cx X w x y v∧f 0=(.slice a3 b.length c4)∧f 1=(.slice a1 a.length c2)∧f 4=(.slice none 0 0)∧f 5=(.slice (some ⟨g6,0,none⟩) (b.length+1) (b.length+1))∧f 21=(.slice a3 b.length c4)∧f 22=(.int .i64 ((b.length:Nat):Int))∧f 23=(.int .i64 ((i:Nat):Int))∧f 6=(.int .u32 ((c:Nat):Int))∧RS Je x v (.slice a1 a.length c2) a∧RS Je x v (.slice a3 b.length c4) b∧Own w y v g6 ((p++List.replicate ((b.length+1) - i) 0).map u32v) 118∧i≤b.length∧p.length=i∧Jr p∧c≤1∧val p+4294967296 ^ i * c=val (b.take i)+val (a.take i)∧μ=(b.length - i)) _ ⟨_,_,0,[],0,C11,rfl,rfl,rfl,rfl,rfl,rfl,rfl,rfl,r0,r1,o13,(Nat.zero_le _),rfl,J6,(by omega),(by simp [val]),rfl⟩ ?_))))))))))));rintro m29 f14 w15 ⟨x16,y17,i,p,c,C18,e19,e20,e21,e22,e23,e24,e25,e26,r0,r1,o27,hi,hp,hs,hc,hv,hmu28⟩;obtain⟨f30,rfl⟩:=rebK (aC e19 (aC e20 (aC e21 (aC e22 (aC e23 (aC e24 (aC e25 (aC e26 aN))))))));clear e19 e20 e21 e22 e23 e24 e25 e26;refine Rg (Ol (J3i rfl rfl (fun hc31=>?_) (fun hc31=>?_)))
  ·refine Nl (W.seq (J26 rfl (W.skip (W.seq (W.block (Rg (Om (Ol (J3k (j:=i) (u:=(b.getD i 0)) r1 sl24 Ji rfl rfl rfl (Jg (by omega)) ?_)))))))));intro b32 o33 cs34 e35;obtain⟨rfl,bd36⟩:cs34=_∧_:=e35.rd;refine Ol (J3e Ze rfl (e35.cell 0 _ rfl) (Oa (Oa (Nl (Rg (Oa (Nl (Rh (Om (Om (Ol (St.len sl24 rfl (Ol (J3i rfl rfl (fun hc37=>?_) (fun hc37=>?_)))))))))))))))
   ·refine Nl (J26 rfl (W.region (Om (Om (Ol (J3k (j:=i) (u:=(a.getD i 0)) r0 sl24 Ji rfl rfl rfl (Jg (by omega)) ?_))))));intro b38 o39 cs40 e41;obtain⟨rfl,bd42⟩:cs40=_∧_:=e41.rd;refine Ol (J3e Ze rfl (e41.cell 0 _ rfl) (Oa (Nl (W.region (Om (Om (Om (Om (Om (Ol (J25 C18 Ji0 rfl rfl (yp C18.bd (x:=(b.getD i 0)) (y:=(a.getD i 0)) (c:=c) (by omega) (by omega) hc) ?_)))))))))));intro v43 w44 C45 s46 h47;replace o27:=o27.spn s46;obtain⟨v48,v49,rfl,rfl,rfl⟩:=h47;refine Om (Ol (St.extract rfl rfl (Ol (St.extract rfl rfl (Ol (J3r (j:=i) sl24 Ji rfl rfl rfl (by omega) (On (J3n (j:=i) (u:=(((b.getD i 0)+(a.getD i 0)+c) % 4294967296)) C45 o27 Ji rfl rfl (by rw [List.length_append,List.length_replicate,hp];omega) ?_))))))));intro w52 C53 s54 o55;replace r0:=(r0.sp s46).sp s54;replace r1:=(r1.sp s46).sp s54;rw [K5 hp (by omega)] at o55;refine Oa (Nl (W.region (Ol (St.add rfl rfl (Jc (a:=i) (b:=1) (by omega)) (Om (Nl (⟨_,(by omega),_,_,(i+1),(p++[(((b.getD i 0)+(a.getD i 0)+c) % 4294967296)]),(((b.getD i 0)+(a.getD i 0)+c) / 4294967296),C53,rfl,rfl,rfl,rfl,rfl,rfl,rfl,rfl,r0,r1,o55,(by omega),(by rw [List.length_append,hp];rfl),(Ju hs (by omega)),(by omega),(jn hp hv rfl rfl),rfl⟩)))))))
   refine Nl (J28 rfl (W.skip (W.region (Om (Om (Om (Om (Om (Ol (J25 C18 Ji0 rfl rfl (yp C18.bd (x:=(b.getD i 0)) (y:=0) (c:=c) (by omega) (by omega) hc) ?_))))))))));intro v56 w57 C58 s59 h60;replace o27:=o27.spn s59;obtain⟨v61,v62,rfl,rfl,rfl⟩:=h60;refine Om (Ol (St.extract rfl rfl (Ol (St.extract rfl rfl (Ol (J3r (j:=i) sl24 Ji rfl rfl rfl (by omega) (On (J3n (j:=i) (u:=(((b.getD i 0)+0+c) % 4294967296)) C58 o27 Ji rfl rfl (by rw [List.length_append,List.length_replicate,hp];omega) ?_))))))));intro w65 C66 s67 o68;replace r0:=(r0.sp s59).sp s67;replace r1:=(r1.sp s59).sp s67;rw [K5 hp (by omega)] at o68;refine Oa (Nl (W.region (Ol (St.add rfl rfl (Jc (a:=i) (b:=1) (by omega)) (Om (Nl (⟨_,(by omega),_,_,(i+1),(p++[(((b.getD i 0)+0+c) % 4294967296)]),(((b.getD i 0)+0+c) / 4294967296),C66,rfl,rfl,rfl,rfl,rfl,rfl,rfl,rfl,r0,r1,o68,(by omega),(by rw [List.length_append,hp];rfl),(Ju hs (by omega)),(by omega),(jn hp hv rfl (Y6 (by omega))),rfl⟩)))))))
  refine Nl (W.seq (J28 rfl (W.exit (Rg (Om (Om (Ol (St.len sl24 rfl (Om (Ol (J3r (j:=b.length) sl24 Ji rfl rfl rfl (by omega) (On (J3n (j:=b.length) (u:=c) C18 o27 Ji rfl rfl (by rw [List.length_append,List.length_replicate,hp];omega) ?_)))))))))))));intro w69 C70 s71 o72;rw [Jb3 hp (by omega)] at o72;exact Nl (Rg (Om (Oa (Nl (W.ret (Wq rfl rfl C70 (J3s (o72.rowRS C70 hX (by rw [List.length_append,hp];show _=_+1;omega) (by omega) (Ju hs (by omega)) id) (((Jfw (A:=b) (B:=a) hs (by omega) rfl (by omega) hc (by rw [show b.length=i by omega];exact hv)).trans (by rw [Nat.max_eq_right (by omega),Nat.add_comm (val b)]))))))))))
 refine Nl (J28 rfl (W.skip (Rg (Om (Ol (St.len sl24 rfl (Ol (St.add rfl rfl (Jc (a:=a.length) (b:=1) (by omega)) (Ol (J3y (n:=(a.length+1)) C sl24 rfl rfl rfl (by omega) Ji (by decide) ?_))))))))));intro g73 w74 x75 y76 lt77 C78 s79 o80;replace r0:=r0.sp s79;replace r1:=r1.sp s79;refine Oa (Nl (Rg (Oa (Nl (Rh (Om (Ol (St.len sl24 rfl (Om (Nl (W.block (J3j (fun μ f v=>∃ (x y:Nat→Prop) (i:Nat) (p:List Nat) (c:Nat),Cx X w x y v∧f 0=(.slice a1 a.length c2)∧f 1=(.slice a3 b.length c4)∧f 4=(.slice none 0 0)∧f 5=(.slice (some ⟨g73,0,none⟩) (a.length+1) (a.length+1))∧f 21=(.slice a1 a.length c2)∧f 22=(.int .i64 ((a.length:Nat):Int))∧f 23=(.int .i64 ((i:Nat):Int))∧f 6=(.int .u32 ((c:Nat):Int))∧RS Je x v (.slice a1 a.length c2) a∧RS Je x v (.slice a3 b.length c4) b∧Own w y v g73 ((p++List.replicate ((a.length+1) - i) 0).map u32v) 118∧i≤a.length∧p.length=i∧Jr p∧c≤1∧val p+4294967296 ^ i * c=val (a.take i)+val (b.take i)∧μ=(a.length - i)) _ ⟨_,_,0,[],0,C78,rfl,rfl,rfl,rfl,rfl,rfl,rfl,rfl,r0,r1,o80,(Nat.zero_le _),rfl,J6,(by omega),(by simp [val]),rfl⟩ ?_))))))))))));rintro m96 f81 w82 ⟨x83,y84,i,p,c,C85,e86,e87,e88,e89,e90,e91,e92,e93,r0,r1,o94,hi,hp,hs,hc,hv,hmu95⟩;obtain⟨f97,rfl⟩:=rebK (aC e86 (aC e87 (aC e88 (aC e89 (aC e90 (aC e91 (aC e92 (aC e93 aN))))))));clear e86 e87 e88 e89 e90 e91 e92 e93;refine Rg (Ol (J3i rfl rfl (fun hc98=>?_) (fun hc98=>?_)))
 ·refine Nl (W.seq (J26 rfl (W.skip (W.seq (W.block (Rg (Om (Ol (J3k (j:=i) (u:=(a.getD i 0)) r0 sl24 Ji rfl rfl rfl (Jg (by omega)) ?_)))))))));intro b99 o100 cs101 e102;obtain⟨rfl,bd103⟩:cs101=_∧_:=e102.rd;refine Ol (J3e Ze rfl (e102.cell 0 _ rfl) (Oa (Oa (Nl (Rg (Oa (Nl (Rh (Om (Om (Ol (St.len sl24 rfl (Ol (J3i rfl rfl (fun hc104=>?_) (fun hc104=>?_)))))))))))))))
  ·refine Nl (J26 rfl (W.region (Om (Om (Ol (J3k (j:=i) (u:=(b.getD i 0)) r1 sl24 Ji rfl rfl rfl (Jg (by omega)) ?_))))));intro b105 o106 cs107 e108;obtain⟨rfl,bd109⟩:cs107=_∧_:=e108.rd;refine Ol (J3e Ze rfl (e108.cell 0 _ rfl) (Oa (Nl (W.region (Om (Om (Om (Om (Om (Ol (J25 C85 Ji0 rfl rfl (yp C85.bd (x:=(a.getD i 0)) (y:=(b.getD i 0)) (c:=c) (by omega) (by omega) hc) ?_)))))))))));intro v110 w111 C112 s113 h114;replace o94:=o94.spn s113;obtain⟨v115,v116,rfl,rfl,rfl⟩:=h114;refine Om (Ol (St.extract rfl rfl (Ol (St.extract rfl rfl (Ol (J3r (j:=i) sl24 Ji rfl rfl rfl (by omega) (On (J3n (j:=i) (u:=(((a.getD i 0)+(b.getD i 0)+c) % 4294967296)) C112 o94 Ji rfl rfl (by rw [List.length_append,List.length_replicate,hp];omega) ?_))))))));intro w119 C120 s121 o122;replace r0:=(r0.sp s113).sp s121;replace r1:=(r1.sp s113).sp s121;rw [K5 hp (by omega)] at o122;refine Oa (Nl (W.region (Ol (St.add rfl rfl (Jc (a:=i) (b:=1) (by omega)) (Om (Nl (⟨_,(by omega),_,_,(i+1),(p++[(((a.getD i 0)+(b.getD i 0)+c) % 4294967296)]),(((a.getD i 0)+(b.getD i 0)+c) / 4294967296),C120,rfl,rfl,rfl,rfl,rfl,rfl,rfl,rfl,r0,r1,o122,(by omega),(by rw [List.length_append,hp];rfl),(Ju hs (by omega)),(by omega),(jn hp hv rfl rfl),rfl⟩)))))))
  refine Nl (J28 rfl (W.skip (W.region (Om (Om (Om (Om (Om (Ol (J25 C85 Ji0 rfl rfl (yp C85.bd (x:=(a.getD i 0)) (y:=0) (c:=c) (by omega) (by omega) hc) ?_))))))))));intro v123 w124 C125 s126 h127;replace o94:=o94.spn s126;obtain⟨v128,v129,rfl,rfl,rfl⟩:=h127;refine Om (Ol (St.extract rfl rfl (Ol (St.extract rfl rfl (Ol (J3r (j:=i) sl24 Ji rfl rfl rfl (by omega) (On (J3n (j:=i) (u:=(((a.getD i 0)+0+c) % 4294967296)) C125 o94 Ji rfl rfl (by rw [List.length_append,List.length_replicate,hp];omega) ?_))))))));intro w132 C133 s134 o135;replace r0:=(r0.sp s126).sp s134;replace r1:=(r1.sp s126).sp s134;rw [K5 hp (by omega)] at o135;refine Oa (Nl (W.region (Ol (St.add rfl rfl (Jc (a:=i) (b:=1) (by omega)) (Om (Nl (⟨_,(by omega),_,_,(i+1),(p++[(((a.getD i 0)+0+c) % 4294967296)]),(((a.getD i 0)+0+c) / 4294967296),C133,rfl,rfl,rfl,rfl,rfl,rfl,rfl,rfl,r0,r1,o135,(by omega),(by rw [List.length_append,hp];rfl),(Ju hs (by omega)),(by omega),(jn hp hv rfl (Y6 (by omega))),rfl⟩)))))))
 refine Nl (W.seq (J28 rfl (W.exit (Rg (Om (Om (Ol (St.len sl24 rfl (Om (Ol (J3r (j:=a.length) sl24 Ji rfl rfl rfl (by omega) (On (J3n (j:=a.length) (u:=c) C85 o94 Ji rfl rfl (by rw [List.length_append,List.length_replicate,hp];omega) ?_)))))))))))));intro w136 C137 s138 o139;rw [Jb3 hp (by omega)] at o139;exact Nl (Rg (Om (Oa (Nl (W.ret (Wq rfl rfl C137 (J3s (o139.rowRS C137 hX (by rw [List.length_append,hp];show _=_+1;omega) (by omega) (Ju hs (by omega)) id) (((Jfw (A:=a) (B:=b) hs (by omega) rfl (by omega) hc (by rw [show a.length=i by omega];exact hv)).trans (by rw [Nat.max_eq_left (by omega)]))))))))))
theorem Jw9{X:Nat→Prop}{w:World}(hX:XB X w){v0:Value}{a:List Nat}(r0:RS Je X w v0 a){v1:Value}{b:List Nat}(r1:RS Je X w v1 b)(hla:a.length≤1099511627776)(hlb:b.length≤a.length)(hle:val b≤val a):Calls Tryz.prog 244 #[v0,v1] w (Ret w fun v w'=>RS Je X w' v (Jt a.length (val a - val b))):=by
 obtain⟨a1,c2,rfl,_,_⟩:=r0.len;obtain⟨a3,c4,rfl,_,_⟩:=r1.len;have C:=Cx.start hX;have sa:=r0.u32_small;have sb:=r1.u32_small;refine Cgo (args:=[(.slice a1 a.length c2),(.slice a3 b.length c4)]) Tryz.func244 rfl rfl rfl (Rg (Oa (Nl (Rg (Om (Ol (St.len sl24 rfl (Ol (J3y (n:=a.length) C sl24 rfl rfl rfl (by omega) Ji (by decide) ?_)))))))));intro g5 w6 x7 y8 lt9 C10 s11 o12;replace r0:=r0.sp s11;replace r1:=r1.sp s11;refine Oa (Nl (Rg (Oa (Nl (Rh (Om (Ol (St.len sl24 rfl (Om (Nl (W.block (J3j (fun μ f v=>∃ (x y:Nat→Prop) (i:Nat) (p:List Nat) (c:Nat),Cx X w x y v∧f 1=(.slice a3 b.length c4)∧f 4=(.slice none 0 0)∧f 5=(.slice (some ⟨g5,0,none⟩) a.length a.length)∧f 13=(.slice a1 a.length c2)∧f 14=(.int .i64 ((a.length:Nat):Int))∧f 15=(.int .i64 ((i:Nat):Int))∧f 6=(.int .u32 ((c:Nat):Int))∧RS Je x v (.slice a1 a.length c2) a∧RS Je x v (.slice a3 b.length c4) b∧Own w y v g5 ((p++List.replicate (a.length - i) 0).map u32v) 118∧i≤a.length∧p.length=i∧Jr p∧c≤1∧val p+val (b.take i)=val (a.take i)+4294967296 ^ i * c∧μ=(a.length - i)) _ ⟨_,_,0,[],0,C10,rfl,rfl,rfl,rfl,rfl,rfl,rfl,r0,r1,o12,(Nat.zero_le _),rfl,J6,(by omega),(by simp [val]),rfl⟩ ?_))))))))))));rintro m27 f13 w14 ⟨x15,y16,i,p,c,C17,e18,e19,e20,e21,e22,e23,e24,r0,r1,o25,hi,hp,hs,hc,hv,hmu26⟩;obtain⟨f28,rfl⟩:=rebK (aC e18 (aC e19 (aC e20 (aC e21 (aC e22 (aC e23 (aC e24 aN)))))));clear e18 e19 e20 e21 e22 e23 e24;refine Rg (Ol (J3i rfl rfl (fun hc29=>?_) (fun hc29=>?_)))
 ·refine Nl (W.seq (J26 rfl (W.skip (W.seq (W.block (Rg (Om (Ol (J3k (j:=i) (u:=(a.getD i 0)) r0 sl24 Ji rfl rfl rfl (Jg (by omega)) ?_)))))))));intro b30 o31 cs32 e33;obtain⟨rfl,bd34⟩:cs32=_∧_:=e33.rd;refine Ol (J3e Ze rfl (e33.cell 0 _ rfl) (Oa (Oa (Nl (Rg (Oa (Nl (Rh (Om (Om (Ol (St.len sl24 rfl (Ol (J3i rfl rfl (fun hc35=>?_) (fun hc35=>?_)))))))))))))))
  ·refine Nl (J26 rfl (W.region (Om (Om (Ol (J3k (j:=i) (u:=(b.getD i 0)) r1 sl24 Ji rfl rfl rfl (Jg (by omega)) ?_))))));intro b36 o37 cs38 e39;obtain⟨rfl,bd40⟩:cs38=_∧_:=e39.rd;refine Ol (J3e Ze rfl (e39.cell 0 _ rfl) (Oa (Nl (W.region (Om (Om (Om (Om (Om (Ol (J25 C17 Jov rfl rfl (vf C17.bd (x:=(a.getD i 0)) (y:=(b.getD i 0)) (b:=c) (by omega) (by omega) hc) ?_)))))))))));intro v41 w42 C43 s44 h45;replace o25:=o25.spn s44;obtain⟨v46,v47,rfl,rfl,rfl⟩:=h45;refine Om (Ol (St.extract rfl rfl (Ol (St.extract rfl rfl (Ol (J3r (j:=i) sl24 Ji rfl rfl rfl (by omega) (On (J3n (j:=i) (u:=(((a.getD i 0)+8589934592 - (b.getD i 0) - c) % 4294967296)) C43 o25 Ji rfl rfl (by rw [List.length_append,List.length_replicate,hp];omega) ?_))))))));intro w50 C51 s52 o53;replace r0:=(r0.sp s44).sp s52;replace r1:=(r1.sp s44).sp s52;rw [K5 hp (by omega)] at o53;refine Oa (Nl (W.region (Ol (St.add rfl rfl (Jc (a:=i) (b:=1) (by omega)) (Om (Nl (⟨_,(by omega),_,_,(i+1),(p++[(((a.getD i 0)+8589934592 - (b.getD i 0) - c) % 4294967296)]),(if(a.getD i 0) < (b.getD i 0)+c then 1 else 0),C51,rfl,rfl,rfl,rfl,rfl,rfl,rfl,r0,r1,o53,(by omega),(by rw [List.length_append,hp];rfl),(Ju hs (by omega)),(by split <;> omega),(Jc2 hp hc (Jm sa _) (Jm sb _) hv rfl rfl),rfl⟩)))))))
  refine Nl (J28 rfl (W.skip (W.region (Om (Om (Om (Om (Om (Ol (J25 C17 Jov rfl rfl (vf C17.bd (x:=(a.getD i 0)) (y:=0) (b:=c) (by omega) (by omega) hc) ?_))))))))));intro v54 w55 C56 s57 h58;replace o25:=o25.spn s57;obtain⟨v59,v60,rfl,rfl,rfl⟩:=h58;refine Om (Ol (St.extract rfl rfl (Ol (St.extract rfl rfl (Ol (J3r (j:=i) sl24 Ji rfl rfl rfl (by omega) (On (J3n (j:=i) (u:=(((a.getD i 0)+8589934592 - 0 - c) % 4294967296)) C56 o25 Ji rfl rfl (by rw [List.length_append,List.length_replicate,hp];omega) ?_))))))));intro w63 C64 s65 o66;replace r0:=(r0.sp s57).sp s65;replace r1:=(r1.sp s57).sp s65;rw [K5 hp (by omega)] at o66;refine Oa (Nl (W.region (Ol (St.add rfl rfl (Jc (a:=i) (b:=1) (by omega)) (Om (Nl (⟨_,(by omega),_,_,(i+1),(p++[(((a.getD i 0)+8589934592 - 0 - c) % 4294967296)]),(if(a.getD i 0) < 0+c then 1 else 0),C64,rfl,rfl,rfl,rfl,rfl,rfl,rfl,r0,r1,o66,(by omega),(by rw [List.length_append,hp];rfl),(Ju hs (by omega)),(by split <;> omega),(Jc2 hp hc (Jm sa _) (by omega) hv rfl (Y6 (by omega))),rfl⟩)))))))
 exact Nl (W.seq (J28 rfl (W.exit (Rg (Om (Oa (Nl (W.ret (Wq rfl rfl C17 (J3s (o25.rowRS C17 hX (by rw [List.length_append,List.length_replicate,hp];omega) (by omega) (Z8 hs (Xf _)) id) ((by rw [show a.length - i=0 by omega,List.replicate_zero,List.append_nil];exact Jg1 hs hp (by omega) hlb hle hv))))))))))))
end Go.Wf
namespace Go.Wf
open Go Go.Proofs Go.RowKit
theorem Js3{X:Nat→Prop}{w:World}(hX:XB X w){v0:Value}{a:List Nat}(r0:RS Je X w v0 a){d:Nat}(hla:a.length≤1099511627776)(hd:0 < d)(hd2:d < 4294967296):Calls Tryz.prog 206 #[v0,(.int .u32 ((d:Nat):Int))] w (Ret w fun v w'=>∃ v0 v1,v= .tuple #[v0,v1]∧(RS Je X w' v0 (Jt a.length (val a / d)))∧(v1=(.int .u32 (((val a % d):Nat):Int)))):=by
 obtain⟨a1,c2,rfl,_,_⟩:=r0.len;have C:=Cx.start hX;have sa:=r0.u32_small;refine Cgo (args:=[(.slice a1 a.length c2),(.int .u32 ((d:Nat):Int))]) Tryz.func206 rfl rfl rfl (Rg (Oa (Oa (Nl (Rg (Om (Ol (St.len sl24 rfl (Ol (J3y (n:=a.length) C sl24 rfl rfl rfl (by omega) Ji (by decide) ?_))))))))));intro g3 w4 x5 y6 lt7 C8 s9 o10;replace r0:=r0.sp s9;refine Oa (Nl (Rg (Oa (Nl (Rh (Om (Ol (St.len sl24 rfl (Ol (St.sub (z:=(((a.length:Nat):Int) - 1)) rfl rfl (IntWalk.i64_in _ (by omega)) (Oa (Nl (W.block ?_)))))))))))));rw [← List.append_nil (List.replicate a.length 0)] at o10;refine J3j (fun μ f v=>∃ (x y:Nat→Prop) (j:Nat) (q:List Nat) (r:Nat),Cx X w x y v∧f 0=(.slice a1 a.length c2)∧f 1=(.int .u32 ((d:Nat):Int))∧f 4=(.slice none 0 0)∧f 5=(.int .u32 0)∧f 6=(.slice (some ⟨g3,0,none⟩) a.length a.length)∧f 8=(.int .i64 ((j:Int) - 1))∧f 7=(.int .u32 ((r:Nat):Int))∧RS Je x v (.slice a1 a.length c2) a∧Own w y v g3 ((List.replicate j 0++q).map u32v) 118∧j≤a.length∧j+q.length=a.length∧Jr q∧r < d∧val q * d+r=val (a.drop j)∧μ=j) _ ⟨_,_,a.length,[],0,C8,rfl,rfl,rfl,rfl,rfl,rfl,rfl,r0,o10,(Nat.le_refl _),rfl,J6,hd,(by rw [List.drop_of_length_le (Nat.le_refl _)];simp [val]),rfl⟩ ?_;rintro m25 f11 w12 ⟨x13,y14,j,q,r,C15,e16,e17,e18,e19,e20,e21,e22,r0,o23,hj,hl,hq,hr,hv,hmu24⟩;obtain⟨f26,rfl⟩:=rebK (aC e16 (aC e17 (aC e18 (aC e19 (aC e20 (aC e21 (aC e22 aN)))))));clear e16 e17 e18 e19 e20 e21 e22;have hQ:(r * 4294967296+a.getD (j - 1) 0) / d < 4294967296:=Nat.div_lt_of_lt_mul (by have:=Nat.mul_le_mul_right 4294967296 (show r+1≤d by omega);have:=Jm sa (j - 1);omega);refine Rh (Om (Ol (J3w rfl rfl (fun hc27=>?_) (fun hc27=>?_))))
 ·refine Nl (J26 rfl (W.skip (W.seq (W.block (W.region (Om (Om (Om (Om (Om (Ol (J3k (j:=(j - 1)) (u:=(a.getD (j - 1) 0)) r0 sl24 Ji rfl rfl (by omega) (Jg (by omega)) ?_))))))))))));intro b28 o29 cs30 e31;obtain⟨rfl,bd32⟩:cs30=_∧_:=e31.rd;refine Ol (J3e Ze rfl (e31.cell 0 _ rfl) (Om (Ol (J25 C15 cb235 rfl rfl (Jrv C15.bd (hi:=r) (lo:=(a.getD (j - 1) 0)) (y:=d) hr (Jm sa _) hd2) ?_))));intro v33 w34 C35 s36 h37;replace o23:=o23.spn s36;obtain⟨v38,v39,rfl,rfl,rfl⟩:=h37;refine Om (Ol (St.extract rfl rfl (Ol (St.extract rfl rfl (Ol (J3r (j:=(j - 1)) sl24 Ji rfl rfl (by omega) (by omega) (On (J3n (j:=(j - 1)) (u:=((r * 4294967296+(a.getD (j - 1) 0)) / d)) C35 o23 Ji rfl rfl (by rw [List.length_append,List.length_replicate];omega) ?_))))))));intro w42 C43 s44 o45;replace r0:=(r0.sp s36).sp s44;rw [Jfc (by omega)] at o45;refine Oa (Nl (W.region (Om (Ol (St.sub (z:=(((j:Int) - 1) - 1)) rfl rfl (IntWalk.i64_in _ (by omega)) (Oa (Nl (⟨_,(by omega),_,_,(j - 1),(((r * 4294967296+(a.getD (j - 1) 0)) / d)::q),((r * 4294967296+(a.getD (j - 1) 0)) % d),C43,rfl,rfl,rfl,rfl,rfl,(congrArg (Value.int .i64) (by omega)),rfl,r0,o45,(by omega),(by rw [List.length_cons];omega),(Zt (by omega) hq),(Nat.mod_lt _ hd),(Jhu (by omega) hj hv),rfl⟩))))))))
 refine Nl (J28 rfl (W.exit (Rg (Om (Om (Oa (Oa (Nl (W.ret (Zh rfl (resV.t rfl) (resV.t rfl) (Ret.intro ?_ C15.below)))))))))));refine⟨_,_,rfl,?_,?_⟩
 ·skip
  exact J3s (o23.rowRS C15 hX (by rw [List.length_append,List.length_replicate];omega) (by omega) (Z8 (Xf _) hq) id) ((Jdl (by omega) hq hl hr hv).1)
 ·skip
  exact congrArg (Value.int _) ((congrArg _ (Jdl (by omega) hq hl hr hv).2))
theorem Jkv{X:Nat→Prop}{w:World}(hX:XB X w){v0:Value}{a:List Nat}(r0:RS Je X w v0 a){s:Nat}(hla:a.length < 1099511627776)(hs:s < 32):Calls Tryz.prog 254 #[v0,(.int .u64 ((s:Nat):Int))] w (Ret w fun v w'=>RS Je X w' v (Jt (a.length+1) (val a * 2 ^ s))):=by
 obtain⟨a1,c2,rfl,_,_⟩:=r0.len;have C:=Cx.start hX;have sa:=r0.u32_small;have hps:=Vu hs;refine Cgo (args:=[(.slice a1 a.length c2),(.int .u64 ((s:Nat):Int))]) Tryz.func254 rfl rfl rfl (Rg (Oa (Nl (Rg (Om (Ol (St.len sl24 rfl (Ol (St.add rfl rfl (Jc (a:=a.length) (b:=1) (by omega)) (Ol (J3y (n:=(a.length+1)) C sl24 rfl rfl rfl (by omega) Ji (by decide) ?_)))))))))));intro g3 w4 x5 y6 lt7 C8 s9 o10;replace r0:=r0.sp s9;refine Oa (Nl (Rh (Om (Ol (St.len sl24 rfl (Om (Nl (W.block (J3j (fun μ f v=>∃ (x y:Nat→Prop) (i:Nat) (p:List Nat) (h:Nat),Cx X w x y v∧f 1=(.int .u64 ((s:Nat):Int))∧f 4=(.slice none 0 0)∧f 5=(.slice (some ⟨g3,0,none⟩) (a.length+1) (a.length+1))∧f 13=(.slice a1 a.length c2)∧f 14=(.int .i64 ((a.length:Nat):Int))∧f 15=(.int .i64 ((i:Nat):Int))∧RS Je x v (.slice a1 a.length c2) a∧Own w y v g3 ((p++h::List.replicate (a.length - i) 0).map u32v) 118∧i≤a.length∧p.length=i∧Jr p∧h < 2 ^ s∧val p+4294967296 ^ i * h=val (a.take i) * 2 ^ s∧μ=(a.length - i)) _ ⟨_,_,0,[],0,C8,rfl,rfl,rfl,rfl,rfl,rfl,r0,o10,(Nat.zero_le _),rfl,J6,(Nat.two_pow_pos s),(by simp [val]),rfl⟩ ?_)))))))));rintro m24 f11 w12 ⟨x13,y14,i,p,h,C15,e16,e17,e18,e19,e20,e21,r0,o22,hi,hp,hq,hh,hv,hmu23⟩;obtain⟨f25,rfl⟩:=rebK (aC e16 (aC e17 (aC e18 (aC e19 (aC e20 (aC e21 aN))))));clear e16 e17 e18 e19 e20 e21;have hx:=Jm sa i;have hxd:=Jmw (s:=s) hx;refine Rg (Ol (J3i rfl rfl (fun hc26=>?_) (fun hc26=>?_)))
 ·refine Nl (W.seq (J26 rfl (W.skip (W.seq (W.block (Rg (Om (Ol (J3k (j:=i) (u:=(a.getD i 0)) r0 sl24 Ji rfl rfl rfl (Jg (by omega)) ?_)))))))));intro b27 o28 cs29 e30;obtain⟨rfl,bd31⟩:cs29=_∧_:=e30.rd;refine Ol (J3e Ze rfl (e30.cell 0 _ rfl) (Oa (Oa (Nl (Rg (Om (Ol (J3d (z:=(((a.getD i 0):Nat):Int)) Yi Yn rfl (IntWalk.u64_in _ (by omega)) (Om (Ol (St.shl rfl rfl (by omega) (Qs (Jjm hx hs)) (Oa (Nl (Rg (Om ?_)))))))))))))));refine Om (Ol (J3r (j:=i) sl24 Ji rfl rfl rfl (by omega) (Ol (J39 (j:=i) (u:=h) o22 Ze rfl (Jkb hp) (Om (Ol (J3d (z:=((((a.getD i 0) * 2 ^ s) % 4294967296:Nat):Int)) Yz Yy rfl (Jn _) (Ol (St.or (z:=((h+a.getD i 0 * 2 ^ s % 4294967296:Nat):Int)) rfl rfl ((jx (a:=h) (b:=a.getD i 0 * 2 ^ s % 4294967296) (by omega) (by omega)).trans (congrArg _ (Jii hs hh))) ?_)))))))));refine Ol (J3r (j:=i) sl24 Ji rfl rfl rfl (by omega) (On (J3n (j:=i) (u:=h+a.getD i 0 * 2 ^ s % 4294967296) C15 o22 Ji rfl rfl (by simp only [List.length_append,List.length_cons,List.length_replicate,List.length_nil];omega) ?_)));intro w32 C33 s34 o35;rw [Jqm hp] at o35;refine Nl (W.region (Om (Om (Ol (St.add rfl rfl (Jc (a:=i) (b:=1) (by omega)) (Om (Ol (St.shr rfl rfl (by decide) (Yx (d:=4294967296) _ (by decide)) (Ol (J3d (z:=((a.getD i 0 * 2 ^ s / 4294967296:Nat):Int)) Yz Yy rfl (IntWalk.u32_in _ (by omega)) (Ol (J3r (j:=i+1) sl24 Ji rfl rfl rfl (by omega) ?_))))))))))));refine On (J3n (j:=i+1) (u:=a.getD i 0 * 2 ^ s / 4294967296) C33 o35 Ji rfl rfl (by simp only [List.length_append,List.length_cons,List.length_replicate,List.length_nil];omega) ?_);intro w36 C37 s38 o39;replace r0:=(r0.sp s34).sp s38;rw [Jig hp (by omega)] at o39;refine Nl (W.region (Ol (St.add rfl rfl (Jc (a:=i) (b:=1) (by omega)) (Om (Nl (⟨_,(by omega),_,_,(i+1),(p++[h+a.getD i 0 * 2 ^ s % 4294967296]),(a.getD i 0 * 2 ^ s / 4294967296),C37,rfl,rfl,rfl,rfl,rfl,rfl,r0,o39,(by omega),(by rw [List.length_append,hp];rfl),(Ju hq (Jct hs hh)),hxd,(zk hp hv),rfl⟩))))))
 exact Nl (W.seq (J28 rfl (W.exit (Rg (Om (Oa (Nl (W.ret (Wq rfl rfl C15 (J3s (o22.rowRS C15 hX (by simp only [List.length_append,List.length_cons,List.length_replicate,List.length_nil];omega) (by omega) (Z8 hq (Zt (by omega) (Xf _))) id) ((q8 hq hs hh hp (by omega) hv))))))))))))
theorem Jd1{X:Nat→Prop}{w:World}(hX:XB X w){v0:Value}{a:List Nat}(r0:RS Je X w v0 a){s:Nat}(hla:a.length≤1099511627776)(hs:s < 32):Calls Tryz.prog 256 #[v0,(.int .u64 ((s:Nat):Int))] w (Ret w fun v w'=>RS Je X w' v (Jt a.length (val a / 2 ^ s))):=by
 obtain⟨a1,c2,rfl,_,_⟩:=r0.len;have C:=Cx.start hX;have sa:=r0.u32_small;refine Cgo (args:=[(.slice a1 a.length c2),(.int .u64 ((s:Nat):Int))]) Tryz.func256 rfl rfl rfl (Rg (Oa (Nl (Rg (Om (Ol (St.len sl24 rfl (Ol (J3y (n:=a.length) C sl24 rfl rfl rfl (by omega) Ji (by decide) ?_)))))))));intro g3 w4 x5 y6 lt7 C8 s9 o10;replace r0:=r0.sp s9;refine Oa (Nl (Rh (Om (Ol (St.len sl24 rfl (Om (Nl (W.block (J3j (fun μ f v=>∃ (x y:Nat→Prop) (i:Nat),Cx X w x y v∧f 0=(.slice a1 a.length c2)∧f 1=(.int .u64 ((s:Nat):Int))∧f 4=(.slice none 0 0)∧f 5=(.slice (some ⟨g3,0,none⟩) a.length a.length)∧f 12=(.int .i64 ((a.length:Nat):Int))∧f 13=(.int .i64 ((i:Nat):Int))∧RS Je x v (.slice a1 a.length c2) a∧Own w y v g3 ((Jt i (val a / 2 ^ s)++List.replicate (a.length - i) 0).map u32v) 118∧i≤a.length∧μ=(a.length - i)) _ ⟨_,_,0,C8,rfl,rfl,rfl,rfl,rfl,rfl,r0,o10,(Nat.zero_le _),rfl⟩ ?_)))))))));rintro m24 f11 w12 ⟨x13,y14,i,C15,e16,e17,e18,e19,e20,e21,r0,o22,hi,hmu23⟩;obtain⟨f25,rfl⟩:=rebK (aC e16 (aC e17 (aC e18 (aC e19 (aC e20 (aC e21 aN))))));clear e16 e17 e18 e19 e20 e21;have hx:=Jm sa i;have hx1:=Jm sa (i+1);have hlN:=Jj i (val a / 2 ^ s);refine Rg (Ol (J3i rfl rfl (fun hc26=>?_) (fun hc26=>?_)))
 ·refine Nl (W.seq (J26 rfl (W.skip (W.seq (W.block (Rg (Om (Oa (Nl (Rg (Om (Om (Ol (J3k (j:=i) (u:=(a.getD i 0)) r0 sl24 Ji rfl rfl rfl (Jg (by omega)) ?_))))))))))))));intro b27 o28 cs29 e30;obtain⟨rfl,bd31⟩:cs29=_∧_:=e30.rd;refine Ol (J3e Ze rfl (e30.cell 0 _ rfl) (Ol (J3d (z:=(((a.getD i 0):Nat):Int)) Yi Yn rfl (IntWalk.u64_in _ (by omega)) (Oa (Nl (Rh (Om (Ol (St.add rfl rfl (Jc (a:=i) (b:=1) (by omega)) (Om (Ol (St.len sl24 rfl (Ol (J3i rfl rfl (fun hc32=>?_) (fun hc32=>?_)))))))))))))))
  ·refine Nl (J26 rfl (W.region (Om (Om (Om (Ol (St.add rfl rfl (Jc (a:=i) (b:=1) (by omega)) (Ol (J3k (j:=i+1) (u:=(a.getD (i+1) 0)) r0 sl24 Ji rfl rfl rfl (Jg (by omega)) ?_)))))))));intro b33 o34 cs35 e36;obtain⟨rfl,bd37⟩:cs35=_∧_:=e36.rd;refine Ol (J3e Ze rfl (e36.cell 0 _ rfl) (Ol (J3d (z:=(((a.getD (i+1) 0):Nat):Int)) Yi Yn rfl (IntWalk.u64_in _ (by omega)) (Ol (St.shl rfl rfl (by decide) (Vv (a:=(a.getD (i+1) 0)) (d:=4294967296) (by decide) (by omega)) (Ol (St.or (z:=((a.getD i 0+a.getD (i+1) 0 * 4294967296:Nat):Int)) rfl rfl ((Jhc (a:=a.getD i 0) (b:=a.getD (i+1) 0 * 4294967296) (by omega) (by omega)).trans (congrArg _ (Jyx hx))) ?_)))))));refine Oa (Nl (W.region (Om (Om (Om (Om (Ol (St.shr rfl rfl (by omega) (zq (by omega)) (Ol (J3d (z:=((((a.getD i 0+a.getD (i+1) 0 * 4294967296) / 2 ^ s) % 4294967296:Nat):Int)) Yz Yy rfl (Jn _) (Ol (J3r (j:=i) sl24 Ji rfl rfl rfl (by omega) ?_))))))))))));refine On (J3n (j:=i) (u:=((a.getD i 0+a.getD (i+1) 0 * 4294967296) / 2 ^ s) % 4294967296) C15 o22 Ji rfl rfl (by rw [List.length_append,List.length_replicate,hlN];omega) ?_);intro w38 C39 s40 o41;replace r0:=r0.sp s40;rw [K5 hlN (by omega),Jdo sa hs (by omega) rfl] at o41;refine Nl (W.region (Ol (St.add rfl rfl (Jc (a:=i) (b:=1) (by omega)) (Om (Nl (⟨_,(by omega),_,_,(i+1),C39,rfl,rfl,rfl,rfl,rfl,rfl,r0,o41,(by omega),rfl⟩))))))
  refine Nl (J28 rfl (W.skip (W.region (Om (Om (Om (Om (Ol (St.shr rfl rfl (by omega) (zq (by omega)) (Ol (J3d (z:=((((a.getD i 0) / 2 ^ s) % 4294967296:Nat):Int)) Yz Yy rfl (Jn _) (Ol (J3r (j:=i) sl24 Ji rfl rfl rfl (by omega) (On (J3n (j:=i) (u:=((a.getD i 0) / 2 ^ s) % 4294967296) C15 o22 Ji rfl rfl (by rw [List.length_append,List.length_replicate,hlN];omega) ?_)))))))))))))));intro w42 C43 s44 o45;replace r0:=r0.sp s44;rw [K5 hlN (by omega),Jht sa hs (by omega) (by omega)] at o45;refine Nl (W.region (Ol (St.add rfl rfl (Jc (a:=i) (b:=1) (by omega)) (Om (Nl (⟨_,(by omega),_,_,(i+1),C43,rfl,rfl,rfl,rfl,rfl,rfl,r0,o45,(by omega),rfl⟩))))))
 exact Nl (W.seq (J28 rfl (W.exit (Rg (Om (Oa (Nl (W.ret (Wq rfl rfl C15 (J3s (o22.rowRS C15 hX (by rw [List.length_append,List.length_replicate,Jj];omega) (by omega) (Z8 (J0 _ _) (Xf _)) id) ((by rw [show a.length - i=0 by omega,List.replicate_zero,List.append_nil,show i=a.length by omega]))))))))))))
end Go.Wf
namespace Go.Wf
open Go Go.Proofs Go.RowKit
theorem Jsd{X:Nat→Prop}{w:World}(hX:XB X w){x:Nat}(hx:x < 4294967296):Calls Tryz.prog 135 #[(.int .u32 ((x:Nat):Int))] w (Ret w fun v w'=>v=(.int .i64 (((blen x):Nat):Int))):=by
 have C:=Cx.start hX;refine Cgo (args:=[(.int .u32 ((x:Nat):Int))]) Tryz.func135 rfl rfl rfl (Rg (Oa (Nl (Rh (Om (Ol (J3w rfl rfl (fun hc1=>?_) (fun hc1=>?_))))))))
 ·refine Nl (J26 rfl (Rg (Om (Ol (St.shr rfl rfl (by decide) (Yx (d:=65536) _ (by decide)) (Oa (Nl (W.region (Oa (Nl (Rh (Om (Ol (J3w rfl rfl (fun hc2=>?_) (fun hc2=>?_)))))))))))))))
  ·refine Nl (J26 rfl (Rg (Om (Ol (St.shr rfl rfl (by decide) (Yx (d:=256) _ (by decide)) (Oa (Nl (W.region (Om (Ol (St.add (z:=(16+8)) rfl rfl (IntWalk.i64_in _ (by omega)) (Oa (Nl (W.seq ?_))))))))))))));have hb8:=UInt8.toNat_lt (UInt8.ofNat (blen ((x / 65536) / 256 % 256)));refine W.region (Om (Om (Ol (J3d (z:=((((x / 65536) / 256) % 256:Nat):Int)) Yi un5 rfl (Qc _) (Ol (J30 (j:=((x / 65536) / 256) % 256) (c:=(UInt8.ofNat (blen (((x / 65536) / 256) % 256)))) un9 rfl rfl rfl (Q7 (Nat.mod_lt _ (by decide))) (Ol (J3d (z:=(((UInt8.ofNat (blen (((x / 65536) / 256) % 256))).toNat:Nat):Int)) us5 un3 rfl (IntWalk.i64_in _ (by omega)) ?_))))))));exact Ol (St.add (z:=((16+8)+(((UInt8.ofNat (blen (((x / 65536) / 256) % 256))).toNat:Nat):Int))) rfl rfl (IntWalk.i64_in _ (by omega)) (Oa (Nl (W.ret (Wq rfl rfl C (congrArg (Value.int _) ((by rw [tabv (Nat.mod_lt _ (by decide)),Jv0 (x:=x) (by omega) (by omega) hx];omega))))))))
  refine Nl (J28 rfl (W.skip (W.seq ?_)));have hb8:=UInt8.toNat_lt (UInt8.ofNat (blen (x / 65536 % 256)));refine W.region (Om (Om (Ol (J3d (z:=(((x / 65536) % 256:Nat):Int)) Yi un5 rfl (Qc _) (Ol (J30 (j:=(x / 65536) % 256) (c:=(UInt8.ofNat (blen ((x / 65536) % 256)))) un9 rfl rfl rfl (Q7 (Nat.mod_lt _ (by decide))) (Ol (J3d (z:=(((UInt8.ofNat (blen ((x / 65536) % 256))).toNat:Nat):Int)) us5 un3 rfl (IntWalk.i64_in _ (by omega)) ?_))))))));exact Ol (St.add rfl rfl (Jc (a:=16) (b:=(UInt8.ofNat (blen ((x / 65536) % 256))).toNat) (by omega)) (Oa (Nl (W.ret (Wq rfl rfl C (congrArg (Value.int _) ((by rw [tabv (Nat.mod_lt _ (by decide)),Juq (x:=x) (by omega) (by omega)];omega))))))))
 refine Nl (J28 rfl (W.skip (Rh (Om (Ol (J3w rfl rfl (fun hc3=>?_) (fun hc3=>?_)))))))
 ·refine Nl (J26 rfl (Rg (Om (Ol (St.shr rfl rfl (by decide) (Yx (d:=256) _ (by decide)) (Oa (Nl (W.region (Om (Ol (St.add (z:=(0+8)) rfl rfl (IntWalk.i64_in _ (by omega)) (Oa (Nl (W.seq ?_))))))))))))));have hb8:=UInt8.toNat_lt (UInt8.ofNat (blen (x / 256 % 256)));refine W.region (Om (Om (Ol (J3d (z:=(((x / 256) % 256:Nat):Int)) Yi un5 rfl (Qc _) (Ol (J30 (j:=(x / 256) % 256) (c:=(UInt8.ofNat (blen ((x / 256) % 256)))) un9 rfl rfl rfl (Q7 (Nat.mod_lt _ (by decide))) (Ol (J3d (z:=(((UInt8.ofNat (blen ((x / 256) % 256))).toNat:Nat):Int)) us5 un3 rfl (IntWalk.i64_in _ (by omega)) ?_))))))));exact Ol (St.add (z:=((0+8)+(((UInt8.ofNat (blen ((x / 256) % 256))).toNat:Nat):Int))) rfl rfl (IntWalk.i64_in _ (by omega)) (Oa (Nl (W.ret (Wq rfl rfl C (congrArg (Value.int _) ((by rw [tabv (Nat.mod_lt _ (by decide)),Js2 (x:=x) (by omega) (by omega)];omega))))))))
 refine Nl (J28 rfl (W.skip (W.seq ?_)));have hb8:=UInt8.toNat_lt (UInt8.ofNat (blen (x % 256)));refine W.region (Om (Om (Ol (J3d (z:=((x % 256:Nat):Int)) Yi un5 rfl (Qc _) (Ol (J30 (j:=x % 256) (c:=(UInt8.ofNat (blen (x % 256)))) un9 rfl rfl rfl (Q7 (Nat.mod_lt _ (by decide))) (Ol (J3d (z:=(((UInt8.ofNat (blen (x % 256))).toNat:Nat):Int)) us5 un3 rfl (IntWalk.i64_in _ (by omega)) ?_))))))));exact Ol (St.add rfl rfl (Jc (a:=0) (b:=(UInt8.ofNat (blen (x % 256))).toNat) (by omega)) (Oa (Nl (W.ret (Wq rfl rfl C (congrArg (Value.int _) ((by rw [tabv (Nat.mod_lt _ (by decide)),Jsg (x:=x) (by omega)];omega))))))))
theorem Jxj{X:Nat→Prop}{w:World}(hX:XB X w){x:Nat}(hx:x < 4294967296):Calls Tryz.prog 253 #[(.int .u32 ((x:Nat):Int))] w (Ret w fun v w'=>v=(.int .i64 (((32 - blen x):Nat):Int))):=by
 have C:=Cx.start hX;have hb:=Jab hx;refine Cgo (args:=[(.int .u32 ((x:Nat):Int))]) Tryz.func253 rfl rfl rfl (Rg (Oa (Nl (Rg (Om (Ol (J25 C cb135 rfl rfl (Jsd C.bd (x:=x) (by omega)) ?_)))))));intro v1 w2 C3 s4 h5;subst h5;exact Ol (St.sub (z:=(32 - (((blen x):Nat):Int))) rfl rfl (IntWalk.i64_in _ (by omega)) (Oa (Nl (W.ret (Wq rfl rfl C3 (congrArg (Value.int _) ((by omega))))))))
theorem Jsw{X:Nat→Prop}{w:World}(hX:XB X w){g j c:Nat}{A U Z:List Nat}(hA:A.length=j)(hB:Blk w g ((A++U++Z).map u32v) 118)(hXg:X g){v1:Value}{V:List Nat}(r1:RS Je X w v1 V)(sU:Jr U)(hn:2≤V.length)(hnB:V.length≤1099511627776)(hU:U.length=V.length+1)(htop:0 < (V.getD (V.length - 1) 0))(hlt:val U < val V * 4294967296):Calls Tryz.prog 255 #[(.slice (some ⟨g,j,none⟩) U.length c),v1] w (RetM w g fun v w'=>v=(.int .u32 (((val U / val V):Nat):Int))∧Blk w' g ((A++(Jt (V.length+1) (val U % val V))++Z).map u32v) 118):=by
 obtain⟨a1,c2,rfl,_,_⟩:=r1.len;have C:=J4s g hX hXg;have o0:=J4m hB;have sv:=r1.u32_small;have hUe:=kn_hU hn hU;have hVe:=kn_hV hn;have hu2:=Jm sU (V.length - 2);have hun:=Jm sU V.length;have hu1:=Jm sU (V.length - 1);have hv1:=Jm sv (V.length - 1);have hv2:=Jm sv (V.length - 2);have hUl:=Qb (k:=V.length - 2) sU (by omega);have hVl:=Qb (k:=V.length - 2) sv (by omega);have htopb:=Jsf hVl hv2 hu1 (by rw [← hUe,← hVe];exact hlt);have hVpos:0 < val V:=by rw [hVe];exact Nat.lt_of_lt_of_le (Nat.mul_pos (Nat.pow_pos (by decide)) (show 0 < (V.getD (V.length - 2) 0)+4294967296 * (V.getD (V.length - 1) 0) by omega)) (Nat.le_add_left _ _)
 refine Cgo (args:=[(.slice (some ⟨g,j,none⟩) U.length c),(.slice a1 V.length c2)]) Tryz.func255 rfl rfl rfl (Rg (Oa (Nl (Rg (Om (Ol (St.len sl24 rfl (Oa (Nl (W.seq (J3m J5 12 [[],[],[0,1],[2],[3],[4],[],[],[7],[6,8],[9],[10]] C [fx (.slice (some ⟨g,j,none⟩) U.length c),fx (.int .i64 ((V.length:Nat):Int)),fx (.pointer (some ⟨g,j+V.length,none⟩)),fx (.int .u32 (((U.getD V.length 0):Nat):Int)),fx (.int .u64 (((U.getD V.length 0):Nat):Int)),fx (.int .u64 (((U.getD V.length 0) * 4294967296:Nat):Int)),fx (.slice (some ⟨g,j,none⟩) U.length c),fx (.int .i64 ((V.length:Nat):Int)),fx (.int .i64 ((V.length - 1:Nat):Int)),fx (.pointer (some ⟨g,j+(V.length - 1),none⟩)),fx (.int .u32 (((U.getD (V.length - 1) 0):Nat):Int)),fx (.int .u64 (((U.getD (V.length - 1) 0):Nat):Int))] (by kernel_rfl) ⟨sx,sx,sx,sx,sx,sx,sx,sx,sx,sx,sx,sx,trivial⟩ fun f4 s5 w6 ⟨C9,S10⟩ k8=>?_)))))))))))
 replace o0:=o0.spn S10;have k8:Keep [19,20,21,22,23,24,25,26,27,28,29,30] _ f4:=k8;refine⟨⟨fun _=>?_,fun _=>?_,fun⟨e12,e13,_⟩=>?_,fun⟨e14,_⟩=>?_,fun⟨e15,_⟩=>?_,fun⟨e16,_⟩=>?_,fun _=>?_,fun _=>?_,fun⟨e17,_⟩=>?_,fun⟨e18,e19,_⟩=>?_,fun⟨e20,_⟩=>?_,fun⟨e21,_⟩=>?_,trivial⟩,fun⟨e22,e23,e24,e25,e26,e27,e28,e29,e30,e31,e32,e33,_⟩=>?_⟩
 ·exact Ja k8 aN fun _=>OpSt.op (St.move ⟨s5,RC.same C9,rfl⟩)
 ·exact Ja k8 aN fun _=>OpSt.op (St.move ⟨s5,RC.same C9,rfl⟩)
 ·exact Ja k8 (aC e12 (aC e13 aN)) fun _=>OpSt.op (J3x (j:=V.length) sl24 Ji rfl rfl rfl (by omega) ⟨s5,RC.same C9,rfl⟩)
 ·exact Ja k8 (aC e14 aN) fun _=>OpSt.op (J32 (j:=V.length) (u:=(U.getD V.length 0)) hA o0 Ze rfl (Jg (by omega)) ⟨s5,RC.same C9,rfl⟩)
 ·exact Ja k8 (aC e15 aN) fun _=>OpSt.op (J3d (z:=(((U.getD V.length 0):Nat):Int)) Yi Yn rfl (IntWalk.u64_in _ (by omega)) ⟨s5,RC.same C9,rfl⟩)
 ·exact Ja k8 (aC e16 aN) fun _=>OpSt.op (St.shl (z:=(((U.getD V.length 0) * 4294967296:Nat):Int)) rfl rfl (by decide) (Ja5 hun) ⟨s5,RC.same C9,rfl⟩)
 ·exact Ja k8 aN fun _=>OpSt.op (St.move ⟨s5,RC.same C9,rfl⟩)
 ·exact Ja k8 aN fun _=>OpSt.op (St.move ⟨s5,RC.same C9,rfl⟩)
 ·exact Ja k8 (aC e17 aN) fun _=>OpSt.op (St.sub rfl rfl (Zx (a:=V.length) (b:=1) (by omega) (by omega)) ⟨s5,RC.same C9,rfl⟩)
 ·exact Ja k8 (aC e18 (aC e19 aN)) fun _=>OpSt.op (J3x (j:=V.length - 1) sl24 Ji rfl rfl rfl (by omega) ⟨s5,RC.same C9,rfl⟩)
 ·exact Ja k8 (aC e20 aN) fun _=>OpSt.op (J32 (j:=V.length - 1) (u:=(U.getD (V.length - 1) 0)) hA o0 Ze rfl (Jg (by omega)) ⟨s5,RC.same C9,rfl⟩)
 ·exact Ja k8 (aC e21 aN) fun _=>OpSt.op (J3d (z:=(((U.getD (V.length - 1) 0):Nat):Int)) Yi Yn rfl (IntWalk.u64_in _ (by omega)) ⟨s5,RC.same C9,rfl⟩)
 obtain⟨f34,rfl⟩:=mixK k8 (aC e22 (aC e23 (aC e24 (aC e25 (aC e26 (aC e27 (aC e28 (aC e29 (aC e30 (aC e31 (aC e32 (aC e33 aN))))))))))));refine Ol (St.or (z:=(((U.getD V.length 0) * 4294967296+(U.getD (V.length - 1) 0):Nat):Int)) rfl rfl (Jac hun hu1) (Oa (Nl (W.seq (J3m J5 17 [[],[],[],[2],[1,3],[4],[5],[0,6],[],[],[],[10],[9,11],[12],[13],[8,14],[7]] C9 [fx (.int .u64 (((U.getD V.length 0) * 4294967296+(U.getD (V.length - 1) 0):Nat):Int)),fx (.slice a1 V.length c2),fx (.int .i64 ((V.length:Nat):Int)),fx (.int .i64 ((V.length - 1:Nat):Int)),fE Je (V.getD (V.length - 1) 0),fx (.int .u32 (((V.getD (V.length - 1) 0):Nat):Int)),fx (.int .u64 (((V.getD (V.length - 1) 0):Nat):Int)),fx (.int .u64 ((((U.getD V.length 0) * 4294967296+(U.getD (V.length - 1) 0)) / (V.getD (V.length - 1) 0):Nat):Int)),fx (.int .u64 (((U.getD V.length 0) * 4294967296+(U.getD (V.length - 1) 0):Nat):Int)),fx (.slice a1 V.length c2),fx (.int .i64 ((V.length:Nat):Int)),fx (.int .i64 ((V.length - 1:Nat):Int)),fE Je (V.getD (V.length - 1) 0),fx (.int .u32 (((V.getD (V.length - 1) 0):Nat):Int)),fx (.int .u64 (((V.getD (V.length - 1) 0):Nat):Int)),fx (.int .u64 ((((U.getD V.length 0) * 4294967296+(U.getD (V.length - 1) 0)) % (V.getD (V.length - 1) 0):Nat):Int)),fx (.int .u64 ((((U.getD V.length 0) * 4294967296+(U.getD (V.length - 1) 0)) / (V.getD (V.length - 1) 0):Nat):Int))] (by kernel_rfl) ⟨sx,sx,sx,sx,sE,sx,sx,sx,sx,sx,sx,sx,sE,sx,sx,sx,sx,trivial⟩ fun f46 s47 w48 ⟨C51,S52⟩ k50=>?_)))))
 replace r1:=(r1.sp S10).sp S52;replace o0:=o0.spn S52;have k50:Keep [32,33,34,35,36,37,38,39,40,41,42,43,44,45,46,47,7] _ f46:=k50;refine⟨⟨fun _=>?_,fun _=>?_,fun _=>?_,fun⟨e54,_⟩=>?_,fun⟨e55,e56,_⟩=>?_,fun⟨d57,_⟩=>?_,fun⟨e58,_⟩=>?_,fun⟨e59,e60,_⟩=>?_,fun _=>?_,fun _=>?_,fun _=>?_,fun⟨e61,_⟩=>?_,fun⟨e62,e63,_⟩=>?_,fun⟨d64,_⟩=>?_,fun⟨e65,_⟩=>?_,fun⟨e66,e67,_⟩=>?_,fun⟨e68,_⟩=>?_,trivial⟩,fun⟨e69,e70,e71,e72,d73,e74,e75,e76,e77,e78,e79,e80,d81,e82,e83,e84,e85,_⟩=>?_⟩
 ·exact Ja k50 aN fun _=>OpSt.op (St.move ⟨s47,RC.same C51,rfl⟩)
 ·exact Ja k50 aN fun _=>OpSt.op (St.move ⟨s47,RC.same C51,rfl⟩)
 ·exact Ja k50 aN fun _=>OpSt.op (St.move ⟨s47,RC.same C51,rfl⟩)
 ·exact Ja k50 (aC e54 aN) fun _=>OpSt.op (St.sub rfl rfl (Zx (a:=V.length) (b:=1) (by omega) (by omega)) ⟨s47,RC.same C51,rfl⟩)
 ·refine Ja k50 (aC e55 (aC e56 aN)) fun _=>OpSt.op (J3k (j:=V.length - 1) (u:=(V.getD (V.length - 1) 0)) r1 sl24 Ji rfl rfl rfl (Jg (by omega)) ?_);intro b86 o87 cs88 e89;obtain⟨rfl,bd90⟩:cs88=_∧_:=e89.rd;exact⟨s47,RC.same C51,⟨_,_,_,rfl,e89⟩⟩
 ·obtain⟨b92,o93,cs94,e91,e95⟩:=d57;obtain⟨rfl,bd96⟩:cs94=_∧_:=e95.rd;exact Ja k50 (aC e91 aN) fun _=>OpSt.op (J3e Ze rfl (e95.cell 0 _ rfl) ⟨s47,RC.same C51,rfl⟩)
 ·exact Ja k50 (aC e58 aN) fun _=>OpSt.op (J3d (z:=(((V.getD (V.length - 1) 0):Nat):Int)) Yi Yn rfl (IntWalk.u64_in _ (by omega)) ⟨s47,RC.same C51,rfl⟩)
 ·exact Ja k50 (aC e59 (aC e60 aN)) fun _=>OpSt.op (St.quo rfl rfl (by omega) (Qd (a:=(U.getD V.length 0) * 4294967296+(U.getD (V.length - 1) 0)) (b:=(V.getD (V.length - 1) 0)) (by omega)) ⟨s47,RC.same C51,rfl⟩)
 ·exact Ja k50 aN fun _=>OpSt.op (St.move ⟨s47,RC.same C51,rfl⟩)
 ·exact Ja k50 aN fun _=>OpSt.op (St.move ⟨s47,RC.same C51,rfl⟩)
 ·exact Ja k50 aN fun _=>OpSt.op (St.move ⟨s47,RC.same C51,rfl⟩)
 ·exact Ja k50 (aC e61 aN) fun _=>OpSt.op (St.sub rfl rfl (Zx (a:=V.length) (b:=1) (by omega) (by omega)) ⟨s47,RC.same C51,rfl⟩)
 ·refine Ja k50 (aC e62 (aC e63 aN)) fun _=>OpSt.op (J3k (j:=V.length - 1) (u:=(V.getD (V.length - 1) 0)) r1 sl24 Ji rfl rfl rfl (Jg (by omega)) ?_);intro b97 o98 cs99 e100;obtain⟨rfl,bd101⟩:cs99=_∧_:=e100.rd;exact⟨s47,RC.same C51,⟨_,_,_,rfl,e100⟩⟩
 ·obtain⟨b103,o104,cs105,e102,e106⟩:=d64;obtain⟨rfl,bd107⟩:cs105=_∧_:=e106.rd;exact Ja k50 (aC e102 aN) fun _=>OpSt.op (J3e Ze rfl (e106.cell 0 _ rfl) ⟨s47,RC.same C51,rfl⟩)
 ·exact Ja k50 (aC e65 aN) fun _=>OpSt.op (J3d (z:=(((V.getD (V.length - 1) 0):Nat):Int)) Yi Yn rfl (IntWalk.u64_in _ (by omega)) ⟨s47,RC.same C51,rfl⟩)
 ·exact Ja k50 (aC e66 (aC e67 aN)) fun _=>OpSt.op (St.rem rfl rfl (by omega) (X4 ((U.getD V.length 0) * 4294967296+(U.getD (V.length - 1) 0)) (V.getD (V.length - 1) 0)) ⟨s47,RC.same C51,rfl⟩)
 ·exact Ja k50 (aC e68 aN) fun _=>OpSt.op (St.assign ⟨s47,RC.same C51,rfl⟩)
 obtain⟨b109,o110,cs111,e108,e112⟩:=d73;obtain⟨rfl,bd113⟩:cs111=_∧_:=e112.rd;obtain⟨b115,o116,cs117,e114,e118⟩:=d81;obtain⟨rfl,bd119⟩:cs117=_∧_:=e118.rd;obtain⟨f120,rfl⟩:=mixK k50 (aC e69 (aC e70 (aC e71 (aC e72 (aC e108 (aC e74 (aC e75 (aC e76 (aC e77 (aC e78 (aC e79 (aC e80 (aC e114 (aC e82 (aC e83 (aC e84 (aC e85 aN)))))))))))))))));refine Oa (Nl (W.seq (J4d (fun f v=>∃ (x y:Nat→Prop) (q:Nat),Cx X ⟨w,(· =g)⟩ x y v∧f 0=(.slice (some ⟨g,j,none⟩) U.length c)∧f 1=(.slice a1 V.length c2)∧f 4=(.int .u32 0)∧f 5=(.int .i64 ((V.length:Nat):Int))∧f 7=(.int .u64 ((q:Nat):Int))∧RS Je x v (.slice a1 V.length c2) V∧Own ⟨w,(· =g)⟩ y v g ((A++U++Z).map u32v) 118∧val U / val V≤q∧q≤val U / val V+1∧q < 4294967296) ?_ ?_)))
 ·refine W.block (J3j (fun μ f v=>∃ (x y:Nat→Prop) (k:Nat) (r:Nat),Cx X ⟨w,(· =g)⟩ x y v∧f 0=(.slice (some ⟨g,j,none⟩) U.length c)∧f 1=(.slice a1 V.length c2)∧f 4=(.int .u32 0)∧f 5=(.int .i64 ((V.length:Nat):Int))∧f 7=(.int .u64 ((k:Nat):Int))∧f 8=(.int .u64 ((r:Nat):Int))∧RS Je x v (.slice a1 V.length c2) V∧Own ⟨w,(· =g)⟩ y v g ((A++U++Z).map u32v) 118∧val U / val V≤k∧k * (V.getD (V.length - 1) 0)+r=(U.getD V.length 0) * 4294967296+(U.getD (V.length - 1) 0)∧r < 4294967296∧μ=k) _ ⟨_,_,((U.getD V.length 0) * 4294967296+(U.getD (V.length - 1) 0)) / (V.getD (V.length - 1) 0),((U.getD V.length 0) * 4294967296+(U.getD (V.length - 1) 0)) % (V.getD (V.length - 1) 0),C51,rfl,rfl,rfl,rfl,rfl,rfl,r1,o0,(by rw [hUe,hVe];exact(kn_g0 hUl hu2).resolve_right (by omega)),(by rw [Nat.mul_comm];exact Nat.div_add_mod _ _),(Nat.lt_trans (Nat.mod_lt _ htop) hv1),rfl⟩ ?_);rintro m134 f121 w122 ⟨x123,y124,k,r,C125,e126,e127,e128,e129,e130,e131,r1,o132,hk,hkr,hr,hmu133⟩;obtain⟨f135,rfl⟩:=rebK (aC e126 (aC e127 (aC e128 (aC e129 (aC e130 (aC e131 aN))))));clear e126 e127 e128 e129 e130 e131;have hkb:=kn_kb htop hkr;refine W.seq (W.seq ?_)
  by_cases hgB:4294967296≤k
  ·refine J3m J5 20 [[],[0],[1],[2],[2],[2],[2,5],[2,4,6],[2,7],[2,8],[2,3,9],[2],[2,11],[2],[2],[2,14],[2,13,15],[2,16],[2,17],[2,12,18]] C125 [fx (.int .u64 ((k:Nat):Int)),fx (.bool true),fx (.bool true),noG,noG,noG,noG,noG,noG,noG,noG,noG,noG,noG,noG,noG,noG,noG,noG,noG] (by kernel_rfl) ⟨sx,sx,sx,(fun _ _ _ _ _ h _=>h),(fun _ _ _ _ _ h _=>h),(fun _ _ _ _ _ h _=>h),(fun _ _ _ _ _ h _=>h),(fun _ _ _ _ _ h _=>h),(fun _ _ _ _ _ h _=>h),(fun _ _ _ _ _ h _=>h),(fun _ _ _ _ _ h _=>h),(fun _ _ _ _ _ h _=>h),(fun _ _ _ _ _ h _=>h),(fun _ _ _ _ _ h _=>h),(fun _ _ _ _ _ h _=>h),(fun _ _ _ _ _ h _=>h),(fun _ _ _ _ _ h _=>h),(fun _ _ _ _ _ h _=>h),(fun _ _ _ _ _ h _=>h),(fun _ _ _ _ _ h _=>h),trivial⟩ fun f137 s138 w139 ⟨C142,S143⟩ k141=>?_
   replace r1:=r1.sp S143;replace o132:=o132.spn S143;have k141:Keep [48,49,50,51,52,53,54,55,56,57,58,59,60,61,62,63,64,65,66,67] _ f137:=k141;refine⟨⟨fun _=>?_,fun⟨e145,_⟩=>?_,fun⟨e146,_⟩=>?_,fun⟨e147,_⟩=>?_,fun⟨e148,_⟩=>?_,fun⟨e149,_⟩=>?_,fun⟨e150,d151,_⟩=>?_,fun⟨e152,d153,d154,_⟩=>?_,fun⟨e155,d156,_⟩=>?_,fun⟨e157,d158,_⟩=>?_,fun⟨e159,d160,d161,_⟩=>?_,fun⟨e162,_⟩=>?_,fun⟨e163,d164,_⟩=>?_,fun⟨e165,_⟩=>?_,fun⟨e166,_⟩=>?_,fun⟨e167,d168,_⟩=>?_,fun⟨e169,d170,d171,_⟩=>?_,fun⟨e172,d173,_⟩=>?_,fun⟨e174,d175,_⟩=>?_,fun⟨e176,d177,d178,_⟩=>?_,trivial⟩,fun⟨e179,e180,e181,d182,d183,d184,d185,d186,d187,d188,d189,d190,d191,d192,d193,d194,d195,d196,d197,d198,_⟩=>?_⟩
   ·exact Ja k141 aN fun _=>OpSt.op (St.move ⟨s138,RC.same C142,rfl⟩)
   ·exact Ja k141 (aC e145 aN) fun _=>OpSt.op (St.geq (t:=true) rfl rfl (decide_eq_true (by omega)) ⟨s138,RC.same C142,rfl⟩)
   ·exact Ja k141 (aC e146 aN) fun _=>OpSt.op (St.move ⟨s138,RC.same C142,rfl⟩)
   ·exact Ja k141 (aC e147 aN) fun _=>OpSt.opn rfl rfl ⟨s138,RC.same C142,trivial⟩
   ·exact Ja k141 (aC e148 aN) fun _=>OpSt.opn rfl rfl ⟨s138,RC.same C142,trivial⟩
   ·exact Ja k141 (aC e149 aN) fun _=>OpSt.opn rfl rfl ⟨s138,RC.same C142,trivial⟩
   ·exact Ja k141 (aC e150 aN) fun _=>OpSt.opn rfl rfl ⟨s138,RC.same C142,trivial⟩
   ·exact Ja k141 (aC e152 aN) fun _=>OpSt.opn rfl rfl ⟨s138,RC.same C142,trivial⟩
   ·exact Ja k141 (aC e155 aN) fun _=>OpSt.opn rfl rfl ⟨s138,RC.same C142,trivial⟩
   ·exact Ja k141 (aC e157 aN) fun _=>OpSt.opn rfl rfl ⟨s138,RC.same C142,trivial⟩
   ·exact Ja k141 (aC e159 aN) fun _=>OpSt.opn rfl rfl ⟨s138,RC.same C142,trivial⟩
   ·exact Ja k141 (aC e162 aN) fun _=>OpSt.opn rfl rfl ⟨s138,RC.same C142,trivial⟩
   ·exact Ja k141 (aC e163 aN) fun _=>OpSt.opn rfl rfl ⟨s138,RC.same C142,trivial⟩
   ·exact Ja k141 (aC e165 aN) fun _=>OpSt.opn rfl rfl ⟨s138,RC.same C142,trivial⟩
   ·exact Ja k141 (aC e166 aN) fun _=>OpSt.opn rfl rfl ⟨s138,RC.same C142,trivial⟩
   ·exact Ja k141 (aC e167 aN) fun _=>OpSt.opn rfl rfl ⟨s138,RC.same C142,trivial⟩
   ·exact Ja k141 (aC e169 aN) fun _=>OpSt.opn rfl rfl ⟨s138,RC.same C142,trivial⟩
   ·exact Ja k141 (aC e172 aN) fun _=>OpSt.opn rfl rfl ⟨s138,RC.same C142,trivial⟩
   ·exact Ja k141 (aC e174 aN) fun _=>OpSt.opn rfl rfl ⟨s138,RC.same C142,trivial⟩
   ·exact Ja k141 (aC e176 aN) fun _=>OpSt.opn rfl rfl ⟨s138,RC.same C142,trivial⟩
   obtain⟨f199,rfl⟩:=mixK k141 (aC e179 (aC e180 (aC e181 aN)));refine Oz (OT (Nl (J26 rfl (W.skip (W.block (W.seq ?_))))));have hq:val U / val V < k:=by rw [hUe,hVe];exact Jxt (by rw [← hUe,← hVe];exact hlt) hgB
   have hk1:0 < k:=by omega
   refine W.region (Om (Ol (St.sub rfl rfl (Y3 (a:=k) (b:=1) (by omega) (by omega)) (Oa (Nl (Rg (Om (Om (Om (Ol (St.sub rfl rfl (Zx (a:=V.length) (b:=1) (by omega) (by omega)) (Ol (J3k (j:=V.length - 1) (u:=(V.getD (V.length - 1) 0)) r1 sl24 Ji rfl rfl rfl (Jg (by omega)) ?_)))))))))))));intro b200 o201 cs202 e203;obtain⟨rfl,bd204⟩:cs202=_∧_:=e203.rd;refine Ol (J3e Ze rfl (e203.cell 0 _ rfl) (Ol (J3d (z:=(((V.getD (V.length - 1) 0):Nat):Int)) Yi Yn rfl (IntWalk.u64_in _ (by omega)) (Ol (St.add rfl rfl (Zj (a:=r) (b:=(V.getD (V.length - 1) 0)) (by omega)) (Oa (Nl (Rg (Om (Ol (J3w rfl rfl (fun hc205=>?_) (fun hc205=>?_))))))))))))
   ·refine Nl (J26 rfl (W.exit (⟨_,_,(k - 1),C142,rfl,rfl,rfl,rfl,rfl,r1,o132,(Jbq hq),(by rw [hUe,hVe];exact Nat.le_succ_of_le (Jpl hVl hv2 htop htopb (Jia hk1 hkr) (by omega)).1),(Jpl (Ul:=0) (u2:=0) hVl hv2 htop htopb (Jia hk1 hkr) (by omega)).2⟩)))
   refine Nl (J28 rfl (W.skip (⟨_,(by omega),_,_,(k - 1),(r+(V.getD (V.length - 1) 0)),C142,rfl,rfl,rfl,rfl,rfl,rfl,r1,o132,(Jbq hq),(Jia hk1 hkr),(by omega),rfl⟩)))
  refine J3m J5 20 [[],[0],[1],[2],[2],[2],[2,5],[2,4,6],[2,7],[2,8],[2,3,9],[2],[2,11],[2],[2],[2,14],[2,13,15],[2,16],[2,17],[2,12,18]] C125 [fx (.int .u64 ((k:Nat):Int)),fx (.bool false),fx (.bool false),fx (.int .u64 ((k:Nat):Int)),fx (.slice a1 V.length c2),fx (.int .i64 ((V.length:Nat):Int)),fx (.int .i64 ((V.length - 2:Nat):Int)),fE Je (V.getD (V.length - 2) 0),fx (.int .u32 (((V.getD (V.length - 2) 0):Nat):Int)),fx (.int .u64 (((V.getD (V.length - 2) 0):Nat):Int)),fx (.int .u64 ((k * (V.getD (V.length - 2) 0):Nat):Int)),fx (.int .u64 ((r:Nat):Int)),fx (.int .u64 ((r * 4294967296:Nat):Int)),fx (.slice (some ⟨g,j,none⟩) U.length c),fx (.int .i64 ((V.length:Nat):Int)),fx (.int .i64 ((V.length - 2:Nat):Int)),fx (.pointer (some ⟨g,j+(V.length - 2),none⟩)),fx (.int .u32 (((U.getD (V.length - 2) 0):Nat):Int)),fx (.int .u64 (((U.getD (V.length - 2) 0):Nat):Int)),fx (.int .u64 ((r * 4294967296+(U.getD (V.length - 2) 0):Nat):Int))] (by kernel_rfl) ⟨sx,sx,sx,sx,sx,sx,sx,sE,sx,sx,sx,sx,sx,sx,sx,sx,sx,sx,sx,sx,trivial⟩ fun f212 s213 w214 ⟨C217,S218⟩ k216=>?_
  replace r1:=r1.sp S218;replace o132:=o132.spn S218;have k216:Keep [48,49,50,51,52,53,54,55,56,57,58,59,60,61,62,63,64,65,66,67] _ f212:=k216;refine⟨⟨fun _=>?_,fun⟨e220,_⟩=>?_,fun⟨e221,_⟩=>?_,fun⟨e222,_⟩=>?_,fun⟨e223,_⟩=>?_,fun⟨e224,_⟩=>?_,fun⟨e225,e226,_⟩=>?_,fun⟨e227,e228,e229,_⟩=>?_,fun⟨e230,d231,_⟩=>?_,fun⟨e232,e233,_⟩=>?_,fun⟨e234,e235,e236,_⟩=>?_,fun⟨e237,_⟩=>?_,fun⟨e238,e239,_⟩=>?_,fun⟨e240,_⟩=>?_,fun⟨e241,_⟩=>?_,fun⟨e242,e243,_⟩=>?_,fun⟨e244,e245,e246,_⟩=>?_,fun⟨e247,e248,_⟩=>?_,fun⟨e249,e250,_⟩=>?_,fun⟨e251,e252,e253,_⟩=>?_,trivial⟩,fun⟨e254,e255,e256,e257,e258,e259,e260,d261,e262,e263,e264,e265,e266,e267,e268,e269,e270,e271,e272,e273,_⟩=>?_⟩
  ·exact Ja k216 aN fun _=>OpSt.op (St.move ⟨s213,RC.same C217,rfl⟩)
  ·exact Ja k216 (aC e220 aN) fun _=>OpSt.op (St.geq (t:=false) rfl rfl (decide_eq_false (by omega)) ⟨s213,RC.same C217,rfl⟩)
  ·exact Ja k216 (aC e221 aN) fun _=>OpSt.op (St.move ⟨s213,RC.same C217,rfl⟩)
  ·exact Ja k216 (aC e222 aN) fun _=>J3p rfl (St.move ⟨s213,RC.same C217,rfl⟩)
  ·exact Ja k216 (aC e223 aN) fun _=>J3p rfl (St.move ⟨s213,RC.same C217,rfl⟩)
  ·exact Ja k216 (aC e224 aN) fun _=>J3p rfl (St.move ⟨s213,RC.same C217,rfl⟩)
  ·exact Ja k216 (aC e225 (aC e226 aN)) fun _=>J3p rfl (St.sub rfl rfl (Zx (a:=V.length) (b:=2) (by omega) (by omega)) ⟨s213,RC.same C217,rfl⟩)
  ·refine Ja k216 (aC e227 (aC e228 (aC e229 aN))) fun _=>J3p rfl (J3k (j:=V.length - 2) (u:=(V.getD (V.length - 2) 0)) r1 sl24 Ji rfl rfl rfl (Jg (by omega)) ?_);intro b274 o275 cs276 e277;obtain⟨rfl,bd278⟩:cs276=_∧_:=e277.rd;exact⟨s213,RC.same C217,⟨_,_,_,rfl,e277⟩⟩
  ·obtain⟨b280,o281,cs282,e279,e283⟩:=d231;obtain⟨rfl,bd284⟩:cs282=_∧_:=e283.rd;exact Ja k216 (aC e230 (aC e279 aN)) fun _=>J3p rfl (J3e Ze rfl (e283.cell 0 _ rfl) ⟨s213,RC.same C217,rfl⟩)
  ·exact Ja k216 (aC e232 (aC e233 aN)) fun _=>J3p rfl (J3d (z:=(((V.getD (V.length - 2) 0):Nat):Int)) Yi Yn rfl (IntWalk.u64_in _ (by omega)) ⟨s213,RC.same C217,rfl⟩)
  ·exact Ja k216 (aC e234 (aC e235 (aC e236 aN))) fun _=>J3p rfl (St.mul rfl rfl (kr (a:=k) (b:=(V.getD (V.length - 2) 0)) (by have hmu:=Jx6 (show k < 4294967296 by omega) hv2;omega)) ⟨s213,RC.same C217,rfl⟩)
  ·exact Ja k216 (aC e237 aN) fun _=>J3p rfl (St.move ⟨s213,RC.same C217,rfl⟩)
  ·exact Ja k216 (aC e238 (aC e239 aN)) fun _=>J3p rfl (St.shl (z:=((r * 4294967296:Nat):Int)) rfl rfl (by decide) (Ja5 hr) ⟨s213,RC.same C217,rfl⟩)
  ·exact Ja k216 (aC e240 aN) fun _=>J3p rfl (St.move ⟨s213,RC.same C217,rfl⟩)
  ·exact Ja k216 (aC e241 aN) fun _=>J3p rfl (St.move ⟨s213,RC.same C217,rfl⟩)
  ·exact Ja k216 (aC e242 (aC e243 aN)) fun _=>J3p rfl (St.sub rfl rfl (Zx (a:=V.length) (b:=2) (by omega) (by omega)) ⟨s213,RC.same C217,rfl⟩)
  ·exact Ja k216 (aC e244 (aC e245 (aC e246 aN))) fun _=>J3p rfl (J3x (j:=V.length - 2) sl24 Ji rfl rfl rfl (by omega) ⟨s213,RC.same C217,rfl⟩)
  ·exact Ja k216 (aC e247 (aC e248 aN)) fun _=>J3p rfl (J32 (j:=V.length - 2) (u:=(U.getD (V.length - 2) 0)) hA o132 Ze rfl (Jg (by omega)) ⟨s213,RC.same C217,rfl⟩)
  ·exact Ja k216 (aC e249 (aC e250 aN)) fun _=>J3p rfl (J3d (z:=(((U.getD (V.length - 2) 0):Nat):Int)) Yi Yn rfl (IntWalk.u64_in _ (by omega)) ⟨s213,RC.same C217,rfl⟩)
  ·exact Ja k216 (aC e251 (aC e252 (aC e253 aN))) fun _=>J3p rfl (St.or (z:=((r * 4294967296+(U.getD (V.length - 2) 0):Nat):Int)) rfl rfl (Jac hr hu2) ⟨s213,RC.same C217,rfl⟩)
  obtain⟨b286,o287,cs288,e285,e289⟩:=d261;obtain⟨rfl,bd290⟩:cs288=_∧_:=e289.rd;obtain⟨f291,rfl⟩:=mixK k216 (aC e254 (aC e255 (aC e256 (aC e257 (aC e258 (aC e259 (aC e260 (aC e285 (aC e262 (aC e263 (aC e264 (aC e265 (aC e266 (aC e267 (aC e268 (aC e269 (aC e270 (aC e271 (aC e272 (aC e273 aN))))))))))))))))))));refine Og rfl rfl (J3u rfl rfl (fun hc292=>?_) (fun hc292=>?_))
  ·refine OF (Nl (J26 rfl (W.skip (W.block (W.seq ?_)))));have hlt2:r * 4294967296+(U.getD (V.length - 2) 0) < k * (V.getD (V.length - 2) 0):=Int.ofNat_lt.1 hc292;have hq:val U / val V < k:=by rw [hUe,hVe];exact Jxk hUl hkr hlt2
   have hk1:0 < k:=Jzx hlt2;refine W.region (Om (Ol (St.sub rfl rfl (Y3 (a:=k) (b:=1) (by omega) (by omega)) (Oa (Nl (Rg (Om (Om (Om (Ol (St.sub rfl rfl (Zx (a:=V.length) (b:=1) (by omega) (by omega)) (Ol (J3k (j:=V.length - 1) (u:=(V.getD (V.length - 1) 0)) r1 sl24 Ji rfl rfl rfl (Jg (by omega)) ?_)))))))))))));intro b293 o294 cs295 e296;obtain⟨rfl,bd297⟩:cs295=_∧_:=e296.rd;refine Ol (J3e Ze rfl (e296.cell 0 _ rfl) (Ol (J3d (z:=(((V.getD (V.length - 1) 0):Nat):Int)) Yi Yn rfl (IntWalk.u64_in _ (by omega)) (Ol (St.add rfl rfl (Zj (a:=r) (b:=(V.getD (V.length - 1) 0)) (by omega)) (Oa (Nl (Rg (Om (Ol (J3w rfl rfl (fun hc298=>?_) (fun hc298=>?_))))))))))))
   ·refine Nl (J26 rfl (W.exit (⟨_,_,(k - 1),C217,rfl,rfl,rfl,rfl,rfl,r1,o132,(Jbq hq),(by rw [hUe,hVe];exact Nat.le_succ_of_le (Jpl hVl hv2 htop htopb (Jia hk1 hkr) (by omega)).1),(Jpl (Ul:=0) (u2:=0) hVl hv2 htop htopb (Jia hk1 hkr) (by omega)).2⟩)))
   refine Nl (J28 rfl (W.skip (⟨_,(by omega),_,_,(k - 1),(r+(V.getD (V.length - 1) 0)),C217,rfl,rfl,rfl,rfl,rfl,rfl,r1,o132,(Jbq hq),(Jia hk1 hkr),(by omega),rfl⟩)))
  refine OF (Nl (J28 rfl (W.exit (⟨_,_,k,C217,rfl,rfl,rfl,rfl,rfl,r1,o132,hk,(by rw [hUe,hVe];exact kn_e2 (Nat.pow_pos (by decide)) hVl htop (by omega) hkr (by omega)),(by omega)⟩))))
 rintro f299 w300 ⟨x301,y302,q,C303,e304,e305,e306,e307,e308,r1,o309,hq1,hq2,hqb⟩;obtain⟨f310,rfl⟩:=rebK (aC e304 (aC e305 (aC e306 (aC e307 (aC e308 aN)))));clear e304 e305 e306 e307 e308;refine Rg (Oa (Nl (Rg (Oa (Nl (Rh (Om (Ol (St.len sl24 rfl (Om (Nl (W.block (J3j (fun μ f v=>∃ (x y:Nat→Prop) (i:Nat) (p:List Nat) (cy:Nat) (bo:Nat),Cx X ⟨w,(· =g)⟩ x y v∧f 0=(.slice (some ⟨g,j,none⟩) U.length c)∧f 1=(.slice a1 V.length c2)∧f 4=(.int .u32 0)∧f 5=(.int .i64 ((V.length:Nat):Int))∧f 7=(.int .u64 ((q:Nat):Int))∧f 82=(.slice a1 V.length c2)∧f 83=(.int .i64 ((V.length:Nat):Int))∧f 84=(.int .i64 ((i:Nat):Int))∧f 9=(.int .u64 ((cy:Nat):Int))∧f 10=(.int .u32 ((bo:Nat):Int))∧RS Je x v (.slice a1 V.length c2) V∧Own ⟨w,(· =g)⟩ y v g ((A++(p++U.drop i)++Z).map u32v) 118∧i≤V.length∧p.length=i∧Jr p∧cy < 4294967296∧bo≤1∧val p+q * val (V.take i)=val (U.take i)+4294967296 ^ i * (cy+bo)∧μ=(V.length - i)) _ ⟨_,_,0,[],0,0,C303,rfl,rfl,rfl,rfl,rfl,rfl,rfl,rfl,rfl,rfl,r1,o309,(Nat.zero_le _),rfl,J6,(by omega),(by omega),(by simp [val]),rfl⟩ ?_)))))))))))));rintro m328 f311 w312 ⟨x313,y314,i,p,cy,bo,C315,e316,e317,e318,e319,e320,e321,e322,e323,e324,e325,r1,o326,hi,hp,hsp,hcy,hbo,hv2,hmu327⟩;obtain⟨f329,rfl⟩:=rebK (aC e316 (aC e317 (aC e318 (aC e319 (aC e320 (aC e321 (aC e322 (aC e323 (aC e324 (aC e325 aN))))))))));clear e316 e317 e318 e319 e320 e321 e322 e323 e324 e325;have hx:=Jm sv i;have hui:=Jm sU i;have hcar:=Jzd hqb hx hcy;refine Rg (Ol (J3i rfl rfl (fun hc330=>?_) (fun hc330=>?_)))
 ·refine Nl (W.seq (J26 rfl (W.skip (W.seq (W.block (Rg (Om (Ol (J3k (j:=i) (u:=(V.getD i 0)) r1 sl24 Ji rfl rfl rfl (Jg (by omega)) ?_)))))))));intro b331 o332 cs333 e334;obtain⟨rfl,bd335⟩:cs333=_∧_:=e334.rd;refine Ol (J3e Ze rfl (e334.cell 0 _ rfl) (Oa (Oa (Nl (Rg (Om (Om (Ol (J3d (z:=(((V.getD i 0):Nat):Int)) Yi Yn rfl (IntWalk.u64_in _ (by omega)) (Ol (St.mul rfl rfl (kr (a:=q) (b:=(V.getD i 0)) (by omega)) (Om (Ol (St.add rfl rfl (Zj (a:=q * (V.getD i 0)) (b:=cy) (by omega)) ?_))))))))))))));refine Oa (Nl (Rg (Om (Om (Om (Om (Ol (J3x (j:=i) sl24 Ji rfl rfl rfl (by omega) (Ol (J32 (j:=i) (u:=(U.getD i 0)) hA o326 Ze rfl (Jn2 hp rfl (by omega)) (Om (Ol (J3d (z:=((((q * (V.getD i 0))+cy) % 4294967296:Nat):Int)) Yz Yy rfl (Jn _) ?_)))))))))))));refine Om (Ol (J25 C315 Jov rfl rfl (vf C315.bd (x:=(U.getD i 0)) (y:=((q * (V.getD i 0))+cy) % 4294967296) (b:=bo) hui (Nat.mod_lt _ (by decide)) hbo) ?_));intro v336 w337 C338 s339 h340;replace o326:=o326.spn s339;obtain⟨v341,v342,rfl,rfl,rfl⟩:=h340;refine Om (Ol (St.extract rfl rfl (Ol (St.extract rfl rfl (Ol (J3x (j:=i) sl24 Ji rfl rfl rfl (by omega) (On (J37 (j:=i) (u:=(((U.getD i 0)+8589934592 - (((q * (V.getD i 0))+cy) % 4294967296) - bo) % 4294967296)) hA C338 o326 Ji rfl rfl (by rw [List.length_append,List.length_drop,hp];omega) ?_))))))));intro w345 C346 s347 o348;replace r1:=(r1.sp s339).sp s347;rw [Jsk hp (by omega)] at o348;refine Oa (Nl (W.region (Om (Ol (St.shr rfl rfl (by decide) (Yx (d:=4294967296) _ (by decide)) (Oa (Nl (W.region (Ol (St.add rfl rfl (Jc (a:=i) (b:=1) (by omega)) (Om (Nl (⟨_,(by omega),_,_,(i+1),(p++[(((U.getD i 0)+8589934592 - (((q * (V.getD i 0))+cy) % 4294967296) - bo) % 4294967296)]),((q * (V.getD i 0))+cy) / 4294967296,(if(U.getD i 0) < (((q * (V.getD i 0))+cy) % 4294967296)+bo then 1 else 0),C346,rfl,rfl,rfl,rfl,rfl,rfl,rfl,rfl,rfl,rfl,r1,o348,(by omega),(by rw [List.length_append,hp];rfl),(Ju hsp (by omega)),hcar.2,(by split <;> omega),(Jwt hp hqb hx hcy hbo hui hv2 (Jp V i)),rfl⟩)))))))))))))
 refine Nl (W.seq (J28 rfl (W.exit (W.seq (J4d (fun f v=>∃ (x y:Nat→Prop) (R:List Nat) (e:Nat),Cx X ⟨w,(· =g)⟩ x y v∧f 0=(.slice (some ⟨g,j,none⟩) U.length c)∧f 1=(.slice a1 V.length c2)∧f 4=(.int .u32 0)∧f 5=(.int .i64 ((V.length:Nat):Int))∧f 7=(.int .u64 ((q:Nat):Int))∧f 10=(.int .u32 ((e:Nat):Int))∧RS Je x v (.slice a1 V.length c2) V∧Own ⟨w,(· =g)⟩ y v g ((A++R++Z).map u32v) 118∧R.length=V.length+1∧Jr R∧e≤1∧val R+q * val V=val U+4294967296 ^ (V.length+1) * e) ?_ ?_)))))
 ·refine W.region (Om (Om (Om (Om (Ol (J3x (j:=V.length) sl24 Ji rfl rfl rfl (by omega) (Ol (J32 (j:=V.length) (u:=(U.getD V.length 0)) hA o326 Ze rfl (Jn2 hp (by omega) (by omega)) (Om (Ol (J3d (z:=((cy:Nat):Int)) Yz Yy rfl (IntWalk.u32_in _ (by omega)) ?_)))))))))));refine Om (Ol (J25 C315 Jov rfl rfl (vf C315.bd (x:=(U.getD V.length 0)) (y:=cy) (b:=bo) hun hcy hbo) ?_));intro v349 w350 C351 s352 h353;replace o326:=o326.spn s352;obtain⟨v354,v355,rfl,rfl,rfl⟩:=h353;refine Om (Ol (St.extract rfl rfl (Ol (St.extract rfl rfl (Ol (J3x (j:=V.length) sl24 Ji rfl rfl rfl (by omega) (On (J37 (j:=V.length) (u:=(((U.getD V.length 0)+8589934592 - cy - bo) % 4294967296)) hA C351 o326 Ji rfl rfl (by rw [List.length_append,List.length_drop,hp];omega) ?_))))))));intro w358 C359 s360 o361;replace r1:=(r1.sp s352).sp s360;rw [Jq7 hp (by omega) (by omega)] at o361;refine Oa (Nl (⟨_,_,(p++[(((U.getD V.length 0)+8589934592 - cy - bo) % 4294967296)]),(if(U.getD V.length 0) < cy+bo then 1 else 0),C359,rfl,rfl,rfl,rfl,rfl,rfl,r1,o361,(by rw [List.length_append,hp];show i+1=_;omega),(Ju hsp (by omega)),(by split <;> omega),(Jty (by omega) hcy hbo hun hU (by have hh:=hv2;rw [show i=V.length by omega,List.take_length] at hh;exact hh))⟩))
 rintro f362 w363 ⟨x364,y365,R,e,C366,e367,e368,e369,e370,e371,e372,r1,o373,hR,hRs,he,hRv⟩;obtain⟨f374,rfl⟩:=rebK (aC e367 (aC e368 (aC e369 (aC e370 (aC e371 (aC e372 aN))))));clear e367 e368 e369 e370 e371 e372;refine Rh (Om (Ol (J3q rfl rfl (fun hc375=>?_) (fun hc375=>?_))))
 ·refine Nl (J26 rfl (W.seq ?_));obtain⟨hb3,hq0,hb5⟩:=Juo (U:=val U) (V:=val V) (R:=val R) (M:=4294967296 ^ (V.length+1)) (g:=q) hVpos hq2 (by have hh:=Zs R hRs;rwa [hR] at hh) (by rw [hRv,show e=1 by omega,Nat.mul_one]);refine W.region (Om (Ol (St.sub rfl rfl (Y3 (a:=q) (b:=1) (by omega) (by omega)) (Oa (Nl (Rg (Oa (Nl (Rh (Om (Ol (St.len sl24 rfl (Om (Nl (W.block (J3j (fun μ f v=>∃ (x y:Nat→Prop) (i:Nat) (p:List Nat) (cy:Nat),Cx X ⟨w,(· =g)⟩ x y v∧f 0=(.slice (some ⟨g,j,none⟩) U.length c)∧f 4=(.int .u32 0)∧f 5=(.int .i64 ((V.length:Nat):Int))∧f 7=(.int .u64 ((q - 1:Nat):Int))∧f 130=(.slice a1 V.length c2)∧f 131=(.int .i64 ((V.length:Nat):Int))∧f 132=(.int .i64 ((i:Nat):Int))∧f 14=(.int .u32 ((cy:Nat):Int))∧RS Je x v (.slice a1 V.length c2) V∧Own ⟨w,(· =g)⟩ y v g ((A++(p++R.drop i)++Z).map u32v) 118∧i≤V.length∧p.length=i∧Jr p∧cy≤1∧val p+4294967296 ^ i * cy=val (R.take i)+val (V.take i)∧μ=(V.length - i)) _ ⟨_,_,0,[],0,C366,rfl,rfl,rfl,rfl,rfl,rfl,rfl,rfl,r1,o373,(Nat.zero_le _),rfl,J6,(by omega),(by simp [val]),rfl⟩ ?_))))))))))))))));rintro m391 f376 w377 ⟨x378,y379,i,p,cy,C380,e381,e382,e383,e384,e385,e386,e387,e388,r1,o389,hi,hp,hsp,hcy,hv3,hmu390⟩;obtain⟨f392,rfl⟩:=rebK (aC e381 (aC e382 (aC e383 (aC e384 (aC e385 (aC e386 (aC e387 (aC e388 aN))))))));clear e381 e382 e383 e384 e385 e386 e387 e388;have hx:=Jm sv i;have hri:=Jm hRs i;refine Rg (Ol (J3i rfl rfl (fun hc393=>?_) (fun hc393=>?_)))
  ·refine Nl (W.seq (J26 rfl (W.skip (W.seq (W.block (Rg (Om (Ol (J3k (j:=i) (u:=(V.getD i 0)) r1 sl24 Ji rfl rfl rfl (Jg (by omega)) ?_)))))))));intro b394 o395 cs396 e397;obtain⟨rfl,bd398⟩:cs396=_∧_:=e397.rd;refine Ol (J3e Ze rfl (e397.cell 0 _ rfl) (Oa (Oa (Nl (W.region (Om (Om (Om (Om (Ol (J3x (j:=i) sl24 Ji rfl rfl rfl (by omega) (Ol (J32 (j:=i) (u:=(R.getD i 0)) hA o389 Ze rfl (Jn2 hp rfl (by omega)) (Om (Om ?_)))))))))))))));refine Ol (J25 C380 Ji0 rfl rfl (yp C380.bd (x:=(R.getD i 0)) (y:=(V.getD i 0)) (c:=cy) hri hx hcy) ?_);intro v399 w400 C401 s402 h403;replace o389:=o389.spn s402;obtain⟨v404,v405,rfl,rfl,rfl⟩:=h403;refine Om (Ol (St.extract rfl rfl (Ol (St.extract rfl rfl (Ol (J3x (j:=i) sl24 Ji rfl rfl rfl (by omega) (On (J37 (j:=i) (u:=(((R.getD i 0)+(V.getD i 0)+cy) % 4294967296)) hA C401 o389 Ji rfl rfl (by rw [List.length_append,List.length_drop,hp];omega) ?_))))))));intro w408 C409 s410 o411;replace r1:=(r1.sp s402).sp s410;rw [Jsk hp (by omega)] at o411;refine Oa (Nl (W.region (Ol (St.add rfl rfl (Jc (a:=i) (b:=1) (by omega)) (Om (Nl (⟨_,(by omega),_,_,(i+1),(p++[(((R.getD i 0)+(V.getD i 0)+cy) % 4294967296)]),(((R.getD i 0)+(V.getD i 0)+cy) / 4294967296),C409,rfl,rfl,rfl,rfl,rfl,rfl,rfl,rfl,r1,o411,(by omega),(by rw [List.length_append,hp];rfl),(Ju hsp (by omega)),(by omega),(Jhg hp hv3 (Jp V i)),rfl⟩)))))))
  refine Nl (W.seq (J28 rfl (W.exit (W.region (Om (Om (Ol (J3x (j:=V.length) sl24 Ji rfl rfl rfl (by omega) (Ol (J32 (j:=V.length) (u:=(R.getD V.length 0)) hA o389 Ze rfl (Jn2 hp (by omega) (by omega)) (Om (Ol (St.add (z:=(((R.getD V.length 0+cy) % 4294967296:Nat):Int)) rfl rfl (by rw [← Int.natCast_add];exact Jn _) ?_)))))))))))));refine Ol (J3x (j:=V.length) sl24 Ji rfl rfl rfl (by omega) (On (J37 (j:=V.length) (u:=(R.getD V.length 0+cy) % 4294967296) hA C380 o389 Ji rfl rfl (by rw [List.length_append,List.length_drop,hp];omega) ?_)));intro w412 C413 s414 o415;rw [Jq7 hp (by omega) (by omega)] at o415;refine Nl (Rg (Om (Ol (J3d (z:=((q - 1:Nat):Int)) Yz Yy rfl (IntWalk.u32_in _ (by omega)) (Oa (Nl (W.ret (J7 rfl (resV.t rfl) (RetM.intro ⟨?_,?_⟩ C413.below)))))))))
  ·exact congrArg (Value.int _) (congrArg _ hb3)
  have hh:=o415.blk;rw [Jha (by omega) hsp hcy hR (kn_T sv hVpos) (by have hh:=hv3;rw [show i=V.length by omega,List.take_length] at hh;exact hh) hb5] at hh;exact hh
 refine Nl (J28 rfl (W.skip (Rg (Om (Ol (J3d (z:=((q:Nat):Int)) Yz Yy rfl (IntWalk.u32_in _ (by omega)) (Oa (Nl (W.ret (J7 rfl (resV.t rfl) (RetM.intro ⟨?_,?_⟩ C366.below)))))))))))
 ·exact congrArg (Value.int _) (congrArg _ (Jwn hVpos hq1 (by rw [hRv,show e=0 by omega,Nat.mul_zero,Nat.add_zero])).1)
 have hh:=o373.blk;rw [show R=Jt (V.length+1) (val U % val V) from Yr hRs hR (Jwn hVpos hq1 (by rw [hRv,show e=0 by omega,Nat.mul_zero,Nat.add_zero])).2] at hh;exact hh
end Go.Wf
namespace Go.Wf
open Go Go.Proofs Go.RowKit
section
variable {P:Program} {ρ:Operand→Value} {dst:Option Tmp} {ty:TypeId} {pos:String} {after:Array Edge} {gd:Option (Nat × Bool)}
 {w:World} {K:Value→World→Prop} {Kp:List PanicEntry→World→Prop}
theorem J4u {a lo r:Operand} {t e:TypeId} {z:Value} {by_ g n c:Nat} {k k':IntKind} {m m':Int} {i j u:Nat} (hu:j - i=u)
  (ht:P.underlying t=some (.slice e)) (hi:J9 P e=some (z,1,by_)) (hx:ρ a= .slice (some ⟨g,0,none⟩) n c) (hy:ρ lo= .int k m) (hm:m=i) (hy':ρ r= .int k' m') (hm':m'=j) (hij:i≤j) (hj:j≤c) (hic:i < c)
  (h:K (.slice (some ⟨g,i,none⟩) u (c - i)) w):St P ρ ⟨dst,.slice t a (some lo) (some r) none,ty,pos,after,gd⟩ w K Kp:=
 J4w ht hi hx hy hm hy' hm' hij hj hic (by rw [hu];exact h)
end
theorem Jhk{X:Nat→Prop}{w:World}(hX:XB X w){v0:Value}{a:List Nat}(r0:RS Je X w v0 a){s:Nat}(hla:a.length < 1099511627776)(hs:s < 32):Calls Tryz.prog 254 #[v0,(.int .u64 ((s:Nat):Int))] w (Ret w fun v w'=>Jwi w ((Jt (a.length+1) (val a * 2 ^ s)).map u32v) (a.length+1) 118 v w'):=by
 obtain⟨a1,c2,rfl,_,_⟩:=r0.len;have C:=Cx.start hX;have sa:=r0.u32_small;have hps:=Vu hs;refine Cgo (args:=[(.slice a1 a.length c2),(.int .u64 ((s:Nat):Int))]) Tryz.func254 rfl rfl rfl (Rg (Oa (Nl (Rg (Om (Ol (St.len sl24 rfl (Ol (St.add rfl rfl (Jc (a:=a.length) (b:=1) (by omega)) (Ol (J3y (n:=(a.length+1)) C sl24 rfl rfl rfl (by omega) Ji (by decide) ?_)))))))))));intro g3 w4 x5 y6 lt7 C8 s9 o10;replace r0:=r0.sp s9;refine Oa (Nl (Rh (Om (Ol (St.len sl24 rfl (Om (Nl (W.block (J3j (fun μ f v=>∃ (x y:Nat→Prop) (i:Nat) (p:List Nat) (h:Nat),Cx X w x y v∧f 1=(.int .u64 ((s:Nat):Int))∧f 4=(.slice none 0 0)∧f 5=(.slice (some ⟨g3,0,none⟩) (a.length+1) (a.length+1))∧f 13=(.slice a1 a.length c2)∧f 14=(.int .i64 ((a.length:Nat):Int))∧f 15=(.int .i64 ((i:Nat):Int))∧RS Je x v (.slice a1 a.length c2) a∧Own w y v g3 ((p++h::List.replicate (a.length - i) 0).map u32v) 118∧i≤a.length∧p.length=i∧Jr p∧h < 2 ^ s∧val p+4294967296 ^ i * h=val (a.take i) * 2 ^ s∧μ=(a.length - i)) _ ⟨_,_,0,[],0,C8,rfl,rfl,rfl,rfl,rfl,rfl,r0,o10,(Nat.zero_le _),rfl,J6,(Nat.two_pow_pos s),(by simp [val]),rfl⟩ ?_)))))))));rintro m24 f11 w12 ⟨x13,y14,i,p,h,C15,e16,e17,e18,e19,e20,e21,r0,o22,hi,hp,hq,hh,hv,hmu23⟩;obtain⟨f25,rfl⟩:=rebK (aC e16 (aC e17 (aC e18 (aC e19 (aC e20 (aC e21 aN))))));clear e16 e17 e18 e19 e20 e21;have hx:=Jm sa i;have hxd:=Jmw (s:=s) hx;refine Rg (Ol (J3i rfl rfl (fun hc26=>?_) (fun hc26=>?_)))
 ·refine Nl (W.seq (J26 rfl (W.skip (W.seq (W.block (Rg (Om (Ol (J3k (j:=i) (u:=(a.getD i 0)) r0 sl24 Ji rfl rfl rfl (Jg (by omega)) ?_)))))))));intro b27 o28 cs29 e30;obtain⟨rfl,bd31⟩:cs29=_∧_:=e30.rd;refine Ol (J3e Ze rfl (e30.cell 0 _ rfl) (Oa (Oa (Nl (Rg (Om (Ol (J3d (z:=(((a.getD i 0):Nat):Int)) Yi Yn rfl (IntWalk.u64_in _ (by omega)) (Om (Ol (St.shl rfl rfl (by omega) (Qs (Jjm hx hs)) (Oa (Nl (Rg (Om ?_)))))))))))))));refine Om (Ol (J3r (j:=i) sl24 Ji rfl rfl rfl (by omega) (Ol (J39 (j:=i) (u:=h) o22 Ze rfl (Jkb hp) (Om (Ol (J3d (z:=((((a.getD i 0) * 2 ^ s) % 4294967296:Nat):Int)) Yz Yy rfl (Jn _) (Ol (St.or (z:=((h+a.getD i 0 * 2 ^ s % 4294967296:Nat):Int)) rfl rfl ((jx (a:=h) (b:=a.getD i 0 * 2 ^ s % 4294967296) (by omega) (by omega)).trans (congrArg _ (Jii hs hh))) ?_)))))))));refine Ol (J3r (j:=i) sl24 Ji rfl rfl rfl (by omega) (On (J3n (j:=i) (u:=h+a.getD i 0 * 2 ^ s % 4294967296) C15 o22 Ji rfl rfl (by simp only [List.length_append,List.length_cons,List.length_replicate,List.length_nil];omega) ?_)));intro w32 C33 s34 o35;rw [Jqm hp] at o35;refine Nl (W.region (Om (Om (Ol (St.add rfl rfl (Jc (a:=i) (b:=1) (by omega)) (Om (Ol (St.shr rfl rfl (by decide) (Yx (d:=4294967296) _ (by decide)) (Ol (J3d (z:=((a.getD i 0 * 2 ^ s / 4294967296:Nat):Int)) Yz Yy rfl (IntWalk.u32_in _ (by omega)) (Ol (J3r (j:=i+1) sl24 Ji rfl rfl rfl (by omega) ?_))))))))))));refine On (J3n (j:=i+1) (u:=a.getD i 0 * 2 ^ s / 4294967296) C33 o35 Ji rfl rfl (by simp only [List.length_append,List.length_cons,List.length_replicate,List.length_nil];omega) ?_);intro w36 C37 s38 o39;replace r0:=(r0.sp s34).sp s38;rw [Jig hp (by omega)] at o39;refine Nl (W.region (Ol (St.add rfl rfl (Jc (a:=i) (b:=1) (by omega)) (Om (Nl (⟨_,(by omega),_,_,(i+1),(p++[h+a.getD i 0 * 2 ^ s % 4294967296]),(a.getD i 0 * 2 ^ s / 4294967296),C37,rfl,rfl,rfl,rfl,rfl,rfl,r0,o39,(by omega),(by rw [List.length_append,hp];rfl),(Ju hq (Jct hs hh)),hxd,(zk hp hv),rfl⟩))))))
 refine Nl (W.seq (J28 rfl (W.exit (Rg (Om (Oa (Nl (W.ret (J7 rfl (resV.t rfl) (Ret.intro ?_ C15.below))))))))));refine⟨_,rfl,o22.ge.resolve_right id,?_⟩;have hblk:=o22.blk;rw [q8 hq hs hh hp (by omega) hv] at hblk;exact hblk
theorem vn{X:Nat→Prop}{w:World}(hX:XB X w){v0:Value}{a:List Nat}(r0:RS Je X w v0 a){v1:Value}{b:List Nat}(r1:RS Je X w v1 b)(ha:trim a=a)(hb:trim b=b)(hne:b≠[])(hla:a.length≤549755813888)(hlb:b.length≤549755813888):Calls Tryz.prog 242 #[v0,v1] w (Ret w fun v w'=>∃ v0 v1,v= .tuple #[v0,v1]∧(RS Je X w' v0 (digs (val a / val b)))∧(RS Je X w' v1 (digs (val a % val b)))):=by
 obtain⟨a1,c2,rfl,_,_⟩:=r0.len;obtain⟨a3,c4,rfl,_,_⟩:=r1.len;have C:=Cx.start hX;have sa:=r0.u32_small;have sb:=r1.u32_small;have hbpos:0 < val b:=Nat.lt_of_lt_of_le (Nat.pow_pos (by decide)) (Xn hb hne);have hbl0:=List.length_pos_iff.2 hne;refine Cgo (args:=[(.slice a1 a.length c2),(.slice a3 b.length c4)]) Tryz.func242 rfl rfl rfl (Rg (Oa (Oa (Nl (Rh (Om (Om (Ol (J25 C cb246 rfl rfl (Jj9 C.bd r0 r1 ha hb (by omega) (by omega)) ?_)))))))));intro v5 w6 C7 s8 h9;replace r0:=r0.sp s8;replace r1:=r1.sp s8;subst h9;refine Ol (J3i rfl rfl (fun hc10=>?_) (fun hc10=>?_))
 ·refine Nl (J26 rfl (Rg (Om (Ol (J25 C7 Joo rfl rfl (yn C7.bd r0 (by omega)) ?_)))));intro v11 w12 C13 s14 h15;obtain⟨a16,c17,rfl,_,_⟩:=h15.len;refine Oa (Oa (Nl (W.ret (Zh rfl (resV.t rfl) (resV.t rfl) (Ret.intro ?_ C13.below)))));refine⟨_,_,rfl,?_,?_⟩
  ·skip
   exact J3s ((RS.nil:RS _ _ _ _ _).tr (Tr.weak C13.base)) ((dv_lt (Jmh hc10)))
  ·skip
   exact J3s ((h15:RS _ _ _ _ _).tr (Tr.weak C13.base)) ((Jlh ha sa (Jmh hc10)))
 refine Nl (J28 rfl (W.skip (Rh (Om (Ol (St.len sl24 rfl (Ol (J38 rfl rfl (fun hc18=>?_) (fun hc18=>?_)))))))))
 ·refine Nl (J26 rfl (W.seq ?_));have hlab:=Ka hb sa (Jlg hc10);refine W.region (Om (Ol (J25 C7 Jpq rfl rfl (Jgz C7.bd r0 (by omega)) ?_)));intro v19 w20 C21 s22 h23;replace r1:=r1.sp s22;subst h23;refine Om (Ol (J25 C21 Jpq rfl rfl (Jgz C21.bd r1 (by omega)) ?_));intro v24 w25 C26 s27 h28;subst h28;refine Oa (Oa (Nl (W.seq ?_)));have hva64:=Kb sa (by omega);refine J3m J5 7 [[],[],[0,1],[2],[],[],[4,5]] C26 [fx (.int .u64 (((val a):Nat):Int)),fx (.int .u64 (((val b):Nat):Int)),fx (.int .u64 (((val a) / (val b):Nat):Int)),fs Je (digs ((val a) / (val b))),fx (.int .u64 (((val a):Nat):Int)),fx (.int .u64 (((val b):Nat):Int)),fx (.int .u64 (((val a) % (val b):Nat):Int))] (by kernel_rfl) ⟨sx,sx,sx,ss,sx,sx,sx,trivial⟩ fun f37 s38 w39 ⟨C42,S43⟩ k41=>?_
  have k41:Keep [28,29,30,31,32,33,34] _ f37:=k41;refine⟨⟨fun _=>?_,fun _=>?_,fun⟨e44,e45,_⟩=>?_,fun⟨e46,_⟩=>?_,fun _=>?_,fun _=>?_,fun⟨e47,e48,_⟩=>?_,trivial⟩,fun⟨e49,e50,e51,d52,e53,e54,e55,_⟩=>?_⟩
  ·exact Ja k41 aN fun _=>OpSt.op (St.move ⟨s38,RC.same C42,rfl⟩)
  ·exact Ja k41 aN fun _=>OpSt.op (St.move ⟨s38,RC.same C42,rfl⟩)
  ·exact Ja k41 (aC e44 (aC e45 aN)) fun _=>OpSt.op (St.quo rfl rfl (by omega) (Qd (a:=(val a)) (b:=(val b)) (by omega)) ⟨s38,RC.same C42,rfl⟩)
  ·refine Ja k41 (aC e46 aN) fun _=>OpSt.op (J25 C42 Jhl rfl rfl (k9 C42.bd (n:=(val a) / (val b)) (Jgb (Kb sa (by omega)))) ?_);intro v56 w57 C58 s59 h60;exact⟨s38,⟨C58,s59⟩,h60⟩
  ·exact Ja k41 aN fun _=>OpSt.op (St.move ⟨s38,RC.same C42,rfl⟩)
  ·exact Ja k41 aN fun _=>OpSt.op (St.move ⟨s38,RC.same C42,rfl⟩)
  ·exact Ja k41 (aC e47 (aC e48 aN)) fun _=>OpSt.op (St.rem rfl rfl (by omega) (X4 (val a) (val b)) ⟨s38,RC.same C42,rfl⟩)
  obtain⟨a62,c63,e61,d52⟩:=RS.opn d52;obtain⟨f64,rfl⟩:=mixK k41 (aC e49 (aC e50 (aC e51 (aC e61 (aC e53 (aC e54 (aC e55 aN)))))));refine Ol (J25 C42 Jhl rfl rfl (k9 C42.bd (n:=(val a) % (val b)) (Jgv (Kb sa (by omega)))) ?_);intro v65 w66 C67 s68 h69;replace d52:=d52.sp s68;obtain⟨a70,c71,rfl,_,_⟩:=h69.len;refine Oa (Oa (Nl (W.ret (Zh rfl (resV.t rfl) (resV.t rfl) (Ret.intro ?_ C67.below)))));refine⟨_,_,rfl,?_,?_⟩
  ·skip
   exact J3s ((d52:RS _ _ _ _ _).tr (Tr.weak C67.base)) (rfl)
  ·skip
   exact J3s ((h69:RS _ _ _ _ _).tr (Tr.weak C67.base)) (rfl)
 refine Nl (J28 rfl (W.skip (W.seq (W.seq ?_))));have hlab:=Ka hb sa (Jlg hc10);refine W.region (Om (Ol (St.len sl24 rfl (Ol (J3h rfl rfl (fun hc72=>?_) (fun hc72=>?_))))))
 ·refine Nl (J26 rfl (W.seq ?_));have h1v:=Jrr (a:=b) (by omega);refine W.region (Om (Om (Ol (J3k (j:=0) (u:=(b.getD 0 0)) r1 sl24 Ji rfl rfl rfl (Jg (by omega)) ?_))));intro b73 o74 cs75 e76;obtain⟨rfl,bd77⟩:cs75=_∧_:=e76.rd;refine Ol (J3e Ze rfl (e76.cell 0 _ rfl) (Ol (J25 C7 cb206 rfl rfl (Js3 C7.bd r0 (d:=(b.getD 0 0)) (by omega) (by rw [h1v];exact hbpos) (Jm sb _)) ?_)));intro v78 w79 C80 s81 h82;obtain⟨v83,v84,rfl,h85,rfl⟩:=h82;obtain⟨a87,c88,rfl,_,_⟩:=h85.len;refine Om (Ol (St.extract rfl rfl (Ol (St.extract rfl rfl (Oa (Oa (Nl (Rg (Om (Ol (J25 C80 jz rfl rfl (Z6 C80.bd h85 (by rw [Jj];omega)) ?_)))))))))));intro v89 w90 C91 s92 h93;obtain⟨a94,c95,rfl,_,_⟩:=h93.len;refine Om (Ol (J3d (z:=((val a % b.getD 0 0:Nat):Int)) Yi Yn rfl (IntWalk.u64_in _ (by have:=Jm sb 0;have:=Nat.mod_lt (val a) (show 0 < b.getD 0 0 by rw [h1v];exact hbpos);omega)) (Ol (J25 C91 Jhl rfl rfl (k9 C91.bd (n:=val a % b.getD 0 0) (by have:=Jm sb 0;have:=Nat.mod_lt (val a) (show 0 < b.getD 0 0 by rw [h1v];exact hbpos);omega)) ?_))));intro v96 w97 C98 s99 h100;replace h93:=h93.sp s99;obtain⟨a101,c102,rfl,_,_⟩:=h100.len;refine Oa (Oa (Nl (W.ret (Zh rfl (resV.t rfl) (resV.t rfl) (Ret.intro ?_ C98.below)))));refine⟨_,_,rfl,?_,?_⟩
  ·skip
   exact J3s ((h93:RS _ _ _ _ _).tr (Tr.weak C98.base)) ((by rw [h1v];exact Xw (Nat.lt_of_le_of_lt (Nat.div_le_self _ _) (Zs a sa))))
  ·skip
   exact J3s ((h100:RS _ _ _ _ _).tr (Tr.weak C98.base)) ((by rw [h1v]))
 refine Nl (J28 rfl (W.skip (Rg (Om (Om (Ol (St.len sl24 rfl (Ol (St.sub (z:=(((b.length:Nat):Int) - 1)) rfl rfl (IntWalk.i64_in _ (by omega)) (Ol (J3k (j:=(b.length - 1)) (u:=(b.getD (b.length - 1) 0)) r1 sl24 Ji rfl rfl (by omega) (Jg (by omega)) ?_)))))))))));intro b103 o104 cs105 e106;obtain⟨rfl,bd107⟩:cs105=_∧_:=e106.rd;refine Ol (J3e Ze rfl (e106.cell 0 _ rfl) (Ol (J25 C7 cb253 rfl rfl (Jxj C7.bd (x:=(b.getD (b.length - 1) 0)) (Jm sb _)) ?_)));intro v108 w109 C110 s111 h112;replace r0:=r0.sp s111;subst h112;refine Ol (J3d (z:=(((32 - blen (b.getD (b.length - 1) 0)):Nat):Int)) us3 Jpo rfl (IntWalk.u64_in _ (by omega)) (Oa (Nl (W.seq ?_))));have hbl:=jh (Jd4 hb sb hne);refine W.region (Om (Om (Ol (J5h C110 Jz2 rfl rfl (Jhk C110.bd r0 (s:=(32 - blen (b.getD (b.length - 1) 0))) (by omega) (by omega)) ?_))));intro g113 w114 x115 y116 lt117 C118 s119 o120;replace r1:=(r1.sp s111).sp s119;refine Om (Om (Ol (J25 C118 Jz2 rfl rfl (Jkv C118.bd r1 (s:=(32 - blen (b.getD (b.length - 1) 0))) (by omega) (by omega)) ?_)));intro v121 w122 C123 s124 h125;obtain⟨a126,c127,rfl,_,_⟩:=h125.len;refine Ol (J25 C123 jz rfl rfl (Z6 C123.bd h125 (by rw [Jj];omega)) ?_);intro v128 w129 C130 s131 h132;replace o120:=(o120.spn s124).spn s131;obtain⟨a133,c134,rfl,_,_⟩:=h132.len;refine Oa (Oa (Nl (W.seq ?_)));have hs32:(32 - blen (b.getD (b.length - 1) 0)) < 32:=by omega
 obtain⟨hVl,hVv,hVt⟩:=Jvn hb sb hne (Nat.le_refl (32 - blen (b.getD (b.length - 1) 0)));have hVs:=h132.u32_small;have hi0:=Jsc sa hb hne (s:=(32 - blen (b.getD (b.length - 1) 0))) hlab (Jj (a.length+1) (val a * 2 ^ (32 - blen (b.getD (b.length - 1) 0)))) (J0 _ _) (Zi _ _ (Jq4 sa (Nat.le_of_lt hs32)));have hva:=Zi (a.length+1) (val a * 2 ^ (32 - blen (b.getD (b.length - 1) 0))) (Jq4 sa (Nat.le_of_lt hs32))
 generalize (trim (Jt (b.length+1) (val b * 2 ^ (32 - blen (b.getD (b.length - 1) 0)))))=V at *
 generalize (32 - blen (b.getD (b.length - 1) 0))=s at *
 rw [← hVl,← hVv] at hi0;have hVD:=Zs V hVs;have hVpos:0 < val V:=by rw [hVv];exact Nat.mul_pos hbpos (Nat.two_pow_pos s)
 have hVne:V≠[]:=by rintro rfl;simp at hVl;omega
 refine W.region (Om (Ol (St.len sl24 rfl (Oa (Nl (Rg (Om (Ol (St.len sl24 rfl (Om (Ol (St.sub rfl rfl (Zx (a:=(a.length+1)) (b:=V.length) (by omega) (by omega)) (Ol (J3y (n:=(a.length+1 - V.length)) C130 sl24 rfl rfl rfl (by omega) Ji (by decide) ?_))))))))))))));intro g135 w136 x137 y138 lt139 C140 s141 o142;have n143:=lt139 _ o120.blk.lt;replace h132:=h132.sp s141;replace o120:=o120.spn s141;refine Oa (Nl (Rh (Om (Ol (St.len sl24 rfl (Ol (St.sub (z:=((((a.length+1 - V.length):Nat):Int) - 1)) rfl rfl (IntWalk.i64_in _ (by omega)) (Oa (Nl (W.block ?_))))))))));rw [← List.append_nil (List.replicate (a.length+1 - V.length) 0)] at o142;refine J3j (fun μ f v=>∃ (x y:Nat→Prop) (J:Nat) (Q:List Nat) (L:List Nat),Cx X w x y v∧f 4=(.slice (some ⟨g135,0,none⟩) (a.length+1 - V.length) (a.length+1 - V.length))∧f 5=(.slice none 0 0)∧f 10=(.int .u64 ((s:Nat):Int))∧f 11=(.slice (some ⟨g113,0,none⟩) (a.length+1) (a.length+1))∧f 12=(.slice a133 V.length c134)∧f 13=(.int .i64 ((V.length:Nat):Int))∧f 14=(.int .i64 ((J:Int) - 1))∧RS Je x v (.slice a133 V.length c134) V∧Own w y v g113 (L.map u32v) 118∧Own w y v g135 ((List.replicate J 0++Q).map u32v) 118∧J≤a.length+1 - V.length∧J+Q.length=a.length+1 - V.length∧Jr Q∧L.length=a.length+1∧Jr L∧val (L.drop J) < val V∧val a * 2 ^ s=val Q * val V * 4294967296 ^ J+val L∧μ=J) _ ⟨_,_,(a.length+1 - V.length),[],(Jt (a.length+1) (val a * 2 ^ s)),C140,rfl,rfl,rfl,rfl,rfl,rfl,(congrArg (Value.int .i64) (by omega)),h132,o120,o142,(Nat.le_refl _),rfl,J6,(Jj _ _),(J0 _ _),hi0,(by rw [hva];simp [val]),rfl⟩ ?_;rintro m159 f144 w145 ⟨x146,y147,J,Q,L,C148,e149,e150,e151,e152,e153,e154,e155,h132,o156,o157,hJ,hQl,hQs,hLl,hLs,hlo,hN,hmu158⟩;obtain⟨f160,rfl⟩:=rebK (aC e149 (aC e150 (aC e151 (aC e152 (aC e153 (aC e154 (aC e155 aN)))))));clear e149 e150 e151 e152 e153 e154 e155;have hJL:0 < J→J+V.length≤L.length:=fun _=>by omega
 refine Rh (Om (Ol (J3w rfl rfl (fun hc161=>?_) (fun hc161=>?_))))
 ·refine Nl (J26 rfl (W.skip (W.seq (W.block (W.region (Om (Om (Om (Om (Om (Om (Ol (St.add (z:=(((J:Int) - 1)+((V.length:Nat):Int))) rfl rfl (IntWalk.i64_in _ (by omega)) (Ol (St.add (z:=((((J:Int) - 1)+((V.length:Nat):Int))+1)) rfl rfl (IntWalk.i64_in _ (by omega)) ?_)))))))))))))));refine Ol (J4u (i:=(J - 1)) (j:=(J+V.length)) (by rw [Ji9 (by omega) (by omega)];omega) sl24 Ji rfl rfl (by omega) rfl (by omega) (by omega) (by omega) (by omega) (Om (Ol (J4o C148 o156 cb255 rfl rfl (Jsw C148.bd (A:=(L.take (J - 1))) (U:=((L.drop (J - 1)).take (V.length+1))) (Z:=(L.drop (J+V.length))) (by rw [List.length_take];omega) (by have hh:=o156.blk;rw [Jon (L:=L) (J:=J) (n:=V.length) (by omega) (by omega)] at hh;exact hh) (C148.yx _ o156.mem) h132 (Ve (jr hLs _) _) (by omega) (by omega) (Ji9 (by omega) (by omega)) (Jd4 hVt hVs hVne) (Jri hLs (by omega) (by omega) hVD hlo)) ?_))));intro v162 w163 C164 s165 o166 h167;replace o157:=o157.spo s165 (Ne.symm n143);subst h167;refine Ol (J3r (j:=(J - 1)) sl24 Ji rfl rfl (by omega) (by omega) (On (J3n (j:=(J - 1)) (u:=(val ((L.drop (J - 1)).take (V.length+1)) / val V)) C164 o157 Ji rfl rfl (by rw [List.length_append,List.length_replicate];omega) ?_)));intro w168 C169 s170 o171;replace h132:=(h132.sp s165).sp s170;replace o166:=o166.spo s170 n143;rw [Jfc (by omega)] at o171;refine Nl (W.region (Om (Ol (St.sub (z:=(((J:Int) - 1) - 1)) rfl rfl (IntWalk.i64_in _ (by omega)) (Oa (Nl (⟨_,(by omega),_,_,(J - 1),((val ((L.drop (J - 1)).take (V.length+1))) / val V::Q),(L.take (J - 1)++Jt (V.length+1) ((val ((L.drop (J - 1)).take (V.length+1))) % val V)++L.drop (J+V.length)),C169,rfl,rfl,rfl,rfl,rfl,rfl,(congrArg (Value.int .i64) (by omega)),h132,o166,o171,(by omega),(by rw [List.length_cons];omega),(Zt (Jn8 (Jri hLs (by omega) (by omega) hVD hlo)) hQs),((Jra (by omega) (by omega)).trans hLl),(Jlc hLs),(by rw [Jfk (by omega) (by omega) hVD hlo];exact Nat.mod_lt _ hVpos),(Ju0 (by omega) (by omega) hVD hlo hN),rfl⟩)))))))
 refine Nl (J28 rfl (W.exit (W.seq ?_)));have hJ0:J=0:=by omega
 rw [hVv,hJ0] at hN;rw [hVv,hJ0] at hlo;have h172:=o157.frRS (x:=x146) (n:=(a.length+1 - V.length)) (c:=(a.length+1 - V.length)) (by rw [List.length_append,List.length_replicate];omega) (Nat.le_refl _) (by omega) (Z8 (Xf _) hQs);rw [hJ0,List.replicate_zero,List.nil_append,List.take_of_length_le (by omega)] at h172;have C173:=C148.freeze hX o157 id;replace o156:=o156.frz n143;have h174:=o156.frRS (x:=(Jhf x146 g135)) (n:=(a.length+1)) (c:=(a.length+1)) (by omega) (Nat.le_refl _) (by omega) hLs;rw [List.take_of_length_le (by omega)] at h174;have C175:=C173.freeze hX o156 id;refine J3m J5 6 [[],[0],[],[],[2,3],[]] C175 [fx (.slice (some ⟨g135,0,none⟩) (a.length+1 - V.length) (a.length+1 - V.length)),fs Je (trim Q),fx (.slice (some ⟨g113,0,none⟩) (a.length+1) (a.length+1)),fx (.int .i64 ((V.length:Nat):Int)),fs Je (L.take V.length),fx (.int .u64 ((s:Nat):Int))] (by kernel_rfl) ⟨sx,ss,sx,sx,ss,sx,trivial⟩ fun f185 s186 w187 ⟨C190,S191⟩ k189=>?_
 replace h172:=(h172.tr (Tr.frz (g:=g113))).sp S191;replace h174:=h174.sp S191;have k189:Keep [93,94,95,96,97,98] _ f185:=k189;refine⟨⟨fun _=>?_,fun⟨e192,_⟩=>?_,fun _=>?_,fun _=>?_,fun⟨e193,e194,_⟩=>?_,fun _=>?_,trivial⟩,fun⟨e195,d196,e197,e198,d199,e200,_⟩=>?_⟩
 ·exact Ja k189 aN fun _=>OpSt.op (St.move ⟨s186,RC.same C190,rfl⟩)
 ·refine Ja k189 (aC e192 aN) fun _=>OpSt.op (J25 C190 jz rfl rfl (Z6 C190.bd h172 (by omega)) ?_);intro v201 w202 C203 s204 h205;exact⟨s186,⟨C203,s204⟩,h205⟩
 ·exact Ja k189 aN fun _=>OpSt.op (St.move ⟨s186,RC.same C190,rfl⟩)
 ·exact Ja k189 aN fun _=>OpSt.op (St.move ⟨s186,RC.same C190,rfl⟩)
 ·refine Ja k189 (aC e193 (aC e194 aN)) fun _=>OpSt.op (J4z (j:=V.length) h174 sl24 Ji rfl rfl rfl (by omega) ?_);intro h206;exact⟨s186,RC.same C190,h206⟩
 ·exact Ja k189 aN fun _=>OpSt.op (St.move ⟨s186,RC.same C190,rfl⟩)
 obtain⟨a208,c209,e207,d196⟩:=RS.opn d196;obtain⟨a211,c212,e210,d199⟩:=RS.opn d199;obtain⟨f213,rfl⟩:=mixK k189 (aC e195 (aC e207 (aC e197 (aC e198 (aC e210 (aC e200 aN))))));refine Ol (J25 C190 cb256 rfl rfl (Jd1 C190.bd d199 (s:=s) (by rw [List.length_take];omega) hs32) ?_);intro v214 w215 C216 s217 h218;obtain⟨a219,c220,rfl,_,_⟩:=h218.len;refine Ol (J25 C216 jz rfl rfl (Z6 C216.bd h218 (by rw [Jj,List.length_take];omega)) ?_);intro v221 w222 C223 s224 h225;replace d196:=(d196.sp s217).sp s224;obtain⟨a226,c227,rfl,_,_⟩:=h225.len;refine Oa (Oa (Nl (W.ret (Zh rfl (resV.t rfl) (resV.t rfl) (Ret.intro ?_ C223.below)))));refine⟨_,_,rfl,?_,?_⟩
 ·skip
  exact J3s ((d196:RS _ _ _ _ _).tr (Tr.weak C223.base)) ((dv_q hQs hbpos hN hlo))
 ·skip
  exact J3s ((h225:RS _ _ _ _ _).tr (Tr.weak C223.base)) ((dv_r hLs hbpos (by omega) (by rw [← hVv];exact hVD) hN hlo))
end Go.Wf
namespace Go.Wf
open Go Go.Proofs Go.RowKit
theorem RV.int_small{X:Nat→Prop}{w:World}{v:Value}{a:GInt}(h:RV Jx X w v a):Jr a.mag:=by
 obtain⟨s,c,rfl,h2⟩:=RV.int h;exact h2.u32_small
theorem Jeb{a b:List Nat}(sa:Jr a)(sb:Jr b):val a+val b < 4294967296 ^ (max a.length b.length+1):=by
 have h1:=Zs a sa;have h2:=Zs b sb;have h3:4294967296 ^ a.length≤4294967296 ^ max a.length b.length:=Nat.pow_le_pow_right (by omega) (Nat.le_max_left _ _);have h4:4294967296 ^ b.length≤4294967296 ^ max a.length b.length:=Nat.pow_le_pow_right (by omega) (Nat.le_max_right _ _);rw [Nat.pow_succ];omega
theorem Jfm{X:Nat→Prop}{w:World}(hX:XB X w){v0:Value}{a:GInt}(r0:RV Jx X w v0 a)(hl:a.mag.length≤1099511627776):Calls Tryz.prog 182 #[v0] w (Ret w fun v w'=>RV Jx X w' v (ofZ a.toZ)):=by
 obtain⟨a1,c2,rfl,h3⟩:=RV.int r0;have C:=Cx.start hX;have sa:=r0.int_small;refine Cgo (args:=[(.agg #[(.bool a.neg),(.slice a1 a.mag.length c2)])]) Tryz.func182 rfl rfl rfl (Rg (Ol (J3g C rfl ?_)));intro g4 w5 x6 y7 lt8 C9 s10 o11;replace h3:=h3.sp s10;refine Ol (J3b C9 io26 rfl ?_);intro g12 w13 x14 y15 lt16 C17 s18 o19;refine Nl (W.seq (J3m J5 6 [[],[0],[],[2],[3],[4]] C17 [fx (.pointer (some ⟨g4,0,none⟩)),fx (.bool a.neg),fx (.pointer (some ⟨g4,1,none⟩)),fx (.slice a1 a.mag.length c2),fs Je (trim a.mag),fs Je (trim a.mag)] (by kernel_rfl) ⟨sx,sx,sx,sx,ss,ss,trivial⟩ fun f36 s37 w38 ⟨C41,S42⟩ k40=>?_))
 replace h3:=(h3.sp s18).sp S42;replace o11:=(o11.spn s18).spn S42;have k40:Keep [3,4,5,6,7,8] _ f36:=k40;refine⟨⟨fun _=>?_,fun⟨e45,_⟩=>?_,fun _=>?_,fun⟨e46,_⟩=>?_,fun⟨e47,_⟩=>?_,fun⟨d48,_⟩=>?_,trivial⟩,fun⟨e49,e50,e51,e52,d53,d54,_⟩=>?_⟩
 ·exact Ja k40 aN fun _=>OpSt.op (St.fieldAddr Zv rfl ⟨s37,RC.same C41,rfl⟩)
 ·exact Ja k40 (aC e45 aN) fun _=>OpSt.op (J27 o11 pl4 rfl rfl ⟨s37,RC.same C41,rfl⟩)
 ·exact Ja k40 aN fun _=>OpSt.op (St.fieldAddr Jz rfl ⟨s37,RC.same C41,rfl⟩)
 ·exact Ja k40 (aC e46 aN) fun _=>OpSt.op (J27 o11 pl24 rfl rfl ⟨s37,RC.same C41,rfl⟩)
 ·refine Ja k40 (aC e47 aN) fun _=>OpSt.op (J25 C41 jz rfl rfl (Z6 C41.bd h3 (by omega)) ?_);intro v55 w56 C57 s58 h59;exact⟨s37,⟨C57,s58⟩,h59⟩
 ·obtain⟨a61,c62,e60,d48⟩:=RS.opn d48;refine Ja k40 (aC e60 aN) fun _=>OpSt.op (J25 C41 Joo rfl rfl (yn C41.bd d48 (Nat.le_trans (J2 _) (by omega))) ?_);intro v63 w64 C65 s66 h67;exact⟨s37,⟨C65,s66⟩,h67⟩
 obtain⟨a69,c70,e68,d53⟩:=RS.opn d53;obtain⟨a72,c73,e71,d54⟩:=RS.opn d54;obtain⟨f74,rfl⟩:=mixK k40 (aC e49 (aC e50 (aC e51 (aC e52 (aC e68 (aC e71 aN))))));refine Ol (J25 C41 qr rfl rfl (Kk C41.bd d54 (Nat.le_trans (J2 _) (by omega))) ?_);intro v75 w76 C77 s78 h79;replace o19:=(o19.spn S42).spn s78;obtain⟨a80,c81,rfl,h82⟩:=RV.int h79;refine On (J3a (cs':=[(.bool (mkSg a.neg (trim a.mag)).neg),(.slice a80 (mkSg a.neg (trim a.mag)).mag.length c81)]) C77 o19 io26 rfl rfl rfl rfl rfl rfl ?_);intro w83 C84 s85 o86;replace h82:=h82.sp s85;refine Nl (W.ret (J7 rfl (resV.c o86 rfl ag26 rfl) (Ret.intro ?_ C84.below)));exact J3l (a:=(mkSg a.neg (trim a.mag))) ((Jo h82).tr (Tr.weak C84.base)) (Kf (Yf sa) (by rw [K7];rfl))
theorem Ji5{X:Nat→Prop}{w:World}(hX:XB X w){v0:Value}{a:GInt}(r0:RV Jx X w v0 a)(hl:a.mag.length≤1099511627776):Calls Tryz.prog 171 #[v0] w (Ret w fun v w'=>v=(.int .i64 a.toZ.sign)):=by
 obtain⟨a1,c2,rfl,h3⟩:=RV.int r0;have C:=Cx.start hX;have sa:=r0.int_small;refine Cgo (args:=[(.agg #[(.bool a.neg),(.slice a1 a.mag.length c2)])]) Tryz.func171 rfl rfl rfl (Rg (Ol (J3g C rfl ?_)));intro g4 w5 x6 y7 lt8 C9 s10 o11;replace h3:=h3.sp s10;refine Oa (Nl (W.seq (W.block (Rg (Ol (St.fieldAddr Jz rfl (Ol (J27 o11 pl24 rfl rfl (Ol (J25 C9 jz rfl rfl (Z6 C9.bd h3 (by omega)) ?_))))))))));intro v12 w13 C14 s15 h16;replace o11:=o11.spn s15;obtain⟨a17,c18,rfl,_,_⟩:=h16.len;refine Ol (St.len sl24 rfl (Ol (J3h rfl rfl (fun hc19=>?_) (fun hc19=>?_))))
 ·exact Oa (Nl (J26 rfl (Rg (Oa (Nl (W.ret (Wq rfl rfl C14 (congrArg (Value.int _) ((Jlf ((Xa sa).1 (by omega))))))))))))
 refine Oa (Nl (J28 rfl (Rg (Ol (St.fieldAddr Zv rfl (Ol (St.bool (J27 o11 pl4 rfl rfl ⟨_,rfl,fun hb20=>?_,fun hb20=>?_⟩))))))))
 ·exact Oa (Nl (J26 rfl (Rg (Oa (Nl (W.ret (Wq rfl rfl C14 (congrArg (Value.int _) ((Jgi hb20 (fun h=>hc19 (by rw [(Xa sa).2 h];rfl))))))))))))
 exact Oa (Nl (J28 rfl (W.skip (Rg (Oa (Nl (W.ret (Wq rfl rfl C14 (congrArg (Value.int _) ((Jm9 hb20 (fun h=>hc19 (by rw [(Xa sa).2 h];rfl)))))))))))))
theorem Jmi{X:Nat→Prop}{w:World}(hX:XB X w){v0:Value}{a:GInt}(r0:RV Jx X w v0 a)(hl:a.mag.length≤1099511627776):Calls Tryz.prog 154 #[v0] w (Ret w fun v w'=>RV Jx X w' v (ofZ (-a.toZ))):=by
 obtain⟨a1,c2,rfl,h3⟩:=RV.int r0;have C:=Cx.start hX;have sa:=r0.int_small;refine Cgo (args:=[(.agg #[(.bool a.neg),(.slice a1 a.mag.length c2)])]) Tryz.func154 rfl rfl rfl (Rg (Ol (J3g C rfl ?_)));intro g4 w5 x6 y7 lt8 C9 s10 o11;replace h3:=h3.sp s10;refine Ol (J3b C9 io26 rfl ?_);intro g12 w13 x14 y15 lt16 C17 s18 o19;refine Nl (W.seq (J3m J5 7 [[],[0],[1],[],[3],[4],[5]] C17 [fx (.pointer (some ⟨g4,0,none⟩)),fx (.bool a.neg),fx (.bool (!a.neg)),fx (.pointer (some ⟨g4,1,none⟩)),fx (.slice a1 a.mag.length c2),fs Je (trim a.mag),fs Je (trim a.mag)] (by kernel_rfl) ⟨sx,sx,sx,sx,sx,ss,ss,trivial⟩ fun f36 s37 w38 ⟨C41,S42⟩ k40=>?_))
 replace h3:=(h3.sp s18).sp S42;replace o11:=(o11.spn s18).spn S42;have k40:Keep [3,4,5,6,7,8,9] _ f36:=k40;refine⟨⟨fun _=>?_,fun⟨e45,_⟩=>?_,fun⟨e46,_⟩=>?_,fun _=>?_,fun⟨e47,_⟩=>?_,fun⟨e48,_⟩=>?_,fun⟨d49,_⟩=>?_,trivial⟩,fun⟨e50,e51,e52,e53,e54,d55,d56,_⟩=>?_⟩
 ·exact Ja k40 aN fun _=>OpSt.op (St.fieldAddr Zv rfl ⟨s37,RC.same C41,rfl⟩)
 ·exact Ja k40 (aC e45 aN) fun _=>OpSt.op (J27 o11 pl4 rfl rfl ⟨s37,RC.same C41,rfl⟩)
 ·exact Ja k40 (aC e46 aN) fun _=>OpSt.op (St.not rfl ⟨s37,RC.same C41,rfl⟩)
 ·exact Ja k40 aN fun _=>OpSt.op (St.fieldAddr Jz rfl ⟨s37,RC.same C41,rfl⟩)
 ·exact Ja k40 (aC e47 aN) fun _=>OpSt.op (J27 o11 pl24 rfl rfl ⟨s37,RC.same C41,rfl⟩)
 ·refine Ja k40 (aC e48 aN) fun _=>OpSt.op (J25 C41 jz rfl rfl (Z6 C41.bd h3 (by omega)) ?_);intro v57 w58 C59 s60 h61;exact⟨s37,⟨C59,s60⟩,h61⟩
 ·obtain⟨a63,c64,e62,d49⟩:=RS.opn d49;refine Ja k40 (aC e62 aN) fun _=>OpSt.op (J25 C41 Joo rfl rfl (yn C41.bd d49 (Nat.le_trans (J2 _) (by omega))) ?_);intro v65 w66 C67 s68 h69;exact⟨s37,⟨C67,s68⟩,h69⟩
 obtain⟨a71,c72,e70,d55⟩:=RS.opn d55;obtain⟨a74,c75,e73,d56⟩:=RS.opn d56;obtain⟨f76,rfl⟩:=mixK k40 (aC e50 (aC e51 (aC e52 (aC e53 (aC e54 (aC e70 (aC e73 aN)))))));refine Ol (J25 C41 qr rfl rfl (Kk C41.bd d56 (Nat.le_trans (J2 _) (by omega))) ?_);intro v77 w78 C79 s80 h81;replace o19:=(o19.spn S42).spn s80;obtain⟨a82,c83,rfl,h84⟩:=RV.int h81;refine On (J3a (cs':=[(.bool (mkSg (!a.neg) (trim a.mag)).neg),(.slice a82 (mkSg (!a.neg) (trim a.mag)).mag.length c83)]) C79 o19 io26 rfl rfl rfl rfl rfl rfl ?_);intro w85 C86 s87 o88;replace h84:=h84.sp s87;refine Nl (W.ret (J7 rfl (resV.c o88 rfl ag26 rfl) (Ret.intro ?_ C86.below)));exact J3l (a:=(mkSg (!a.neg) (trim a.mag))) ((Jo h84).tr (Tr.weak C86.base)) (Kf (Yf sa) (by rw [K7,Jde];rfl))
end Go.Wf
namespace Go.Wf
open Go Go.Proofs Go.RowKit
theorem Jtb{a b:List Nat}(sa:Jr a)(sb:Jr b):(digs (Nat.gcd (val a) (val b))).length≤a.length+b.length:=by
 refine J1 ?_;have h1:=Zs a sa;have h2:=Zs b sb;have h3:4294967296 ^ a.length≤4294967296 ^ (a.length+b.length):=Nat.pow_le_pow_right (by omega) (by omega);have h4:4294967296 ^ b.length≤4294967296 ^ (a.length+b.length):=Nat.pow_le_pow_right (by omega) (by omega)
 rcases Nat.eq_zero_or_pos (val a) with e | e
 ·rw [e,Nat.gcd_zero_left];omega
 ·have:=Nat.gcd_le_left (val b) e;omega
theorem z6(x y:Nat):Nat.gcd y (x % y)=Nat.gcd x y:=by rw [Nat.gcd_comm x y,Nat.gcd_rec y x,Nat.gcd_comm]
theorem Ql{a b:List Nat}(sb:Jr b)(h:0 < val b):(digs (val a % val b)).length≤b.length:=J1 (Nat.lt_trans (Nat.mod_lt _ h) (Zs b sb))
theorem Jcq{a:List Nat}(sa:Jr a)(n:Nat):(digs (val a / n)).length≤a.length:=J1 (Nat.lt_of_le_of_lt (Nat.div_le_self _ _) (Zs a sa))
theorem Jkn:Jr [1]:=Zt (by decide) J6
theorem Jkp{X:Nat→Prop}{w:World}(hX:XB X w){v0:Value}{a:GInt}(r0:RV Jx X w v0 a){v1:Value}{b:GInt}(r1:RV Jx X w v1 b)(hla:a.mag.length≤274877906944)(hlb:b.mag.length≤274877906944)(hb0:val b.mag≠0):Calls Tryz.prog 222 #[v0,v1] w (Ret w fun v w'=>∃ v0 v1 v2,v= .tuple #[v0,v1,v2]∧(RV Jx X w' v0 (ofZ (a.toZ / b.toZ)))∧(RV Jx X w' v1 (ofZ (a.toZ % b.toZ)))∧(v2=(.int .i64 0))):=by
 obtain⟨a1,c2,rfl,h3⟩:=RV.int r0;obtain⟨a4,c5,rfl,h6⟩:=RV.int r1;have C:=Cx.start hX;have sa:=r0.int_small;have sb:=r1.int_small;have tla:=J2 a.mag;have tlb:=J2 b.mag;have tb:(trim b.mag).length≠0:=fun h=>hb0 ((Xa sb).1 h);have tva:=K7 a.mag;have tvb:=K7 b.mag;have hbp:0 < val (trim b.mag):=by omega
 have hdl:=Jcq (Yf sa) (val (trim b.mag));have hml:=Ql (a:=trim a.mag) (Yf sb) hbp;have hmz:¬ (digs (val (trim a.mag) % val (trim b.mag))).length > 0↔val a.mag % val b.mag=0:=by rw [tva,tvb];have:=zr (val a.mag % val b.mag);simp only [decide_eq_decide] at this;omega
 refine Cgo (args:=[(.agg #[(.bool a.neg),(.slice a1 a.mag.length c2)]),(.agg #[(.bool b.neg),(.slice a4 b.mag.length c5)])]) Tryz.func222 rfl rfl rfl (Rg (Ol (J3g C rfl ?_)));intro g7 w8 x9 y10 lt11 C12 s13 o14;replace h3:=h3.sp s13;refine Ol (J3g C12 rfl ?_);intro g15 w16 x17 y18 lt19 C20 s21 o22;replace h6:=(h6.sp s13).sp s21;refine Ol (J3b C20 io26 rfl ?_);intro g24 w25 x26 y27 lt28 C29 s30 o31;replace h3:=(h3.sp s21).sp s30;replace o14:=(o14.spn s21).spn s30;refine Ol (J3b C29 io26 rfl ?_);intro g34 w35 x36 y37 lt38 C39 s40 o41;have n44:=lt38 _ o31.blk.lt;replace h6:=(h6.sp s30).sp s40;replace o22:=(o22.spn s30).spn s40;refine Oa (Nl (Rg (Ol (St.fieldAddr Jz rfl (Ol (J27 o22 pl24 rfl rfl (Ol (J25 C39 jz rfl rfl (Z6 C39.bd h6 (by omega)) ?_))))))));intro v45 w46 C47 s48 h49;replace h3:=(h3.sp s40).sp s48;replace o14:=(o14.spn s40).spn s48;replace o22:=o22.spn s48;replace o31:=(o31.spn s40).spn s48;replace o41:=o41.spn s48;obtain⟨a50,c51,rfl,_,_⟩:=h49.len;refine Oa (Nl (Rh (Om (Ol (St.len sl24 rfl (Ol (St.eql (t:=false) rfl rfl (decide_eq_false (by omega)) (Nl (J28 rfl (W.skip (Rg (Ol (St.fieldAddr Jz rfl (Ol (J27 o14 pl24 rfl rfl (Ol (J25 C47 jz rfl rfl (Z6 C47.bd h3 (by omega)) ?_)))))))))))))))));intro v52 w53 C54 s55 h56;replace h49:=h49.sp s55;obtain⟨a57,c58,rfl,_,_⟩:=h56.len;refine Om (Ol (J25 C54 Jsh rfl rfl (vn C54.bd h56 h49 (Qp sa) (Qp sb) (by intro e;rw [e] at tb;exact tb rfl) (by omega) (by omega)) ?_));intro v59 w60 C61 s62 h63;replace h49:=h49.sp s62;replace o14:=(o14.spn s55).spn s62;replace o22:=(o22.spn s55).spn s62;replace o31:=(o31.spn s55).spn s62;replace o41:=(o41.spn s55).spn s62;obtain⟨v64,v65,rfl,h66,h67⟩:=h63;obtain⟨a68,c69,rfl,_,_⟩:=h66.len;obtain⟨a70,c71,rfl,_,_⟩:=h67.len;refine Om (Ol (St.extract rfl rfl (Ol (St.extract rfl rfl (Oa (Oa (Nl (Rh (Ol (St.fieldAddr Zv rfl (Ol (St.bool (J27 o14 pl4 rfl rfl ⟨_,rfl,fun hb72=>?_,fun hb72=>?_⟩)))))))))))))
 ·refine Om (Og rfl rfl (St.move (Og rfl rfl (St.len sl24 rfl (Og rfl rfl (J3u rfl rfl (fun hc73=>?_) (fun hc73=>?_)))))))
  ·refine OT (Nl (J26 rfl (W.region (Om (Ol (J3t (T:=Je) (css:=[[(.int .u32 1)]]) (l:=[1]) C61 sl24 Ji (by decide) (by decide) rfl (by kernel_rfl) ⟨⟨rfl,(by omega)⟩,trivial⟩ ?_))))));intro g78 w74 C75 s76 h77;replace h66:=h66.sp s76;replace o14:=o14.spn s76;replace o22:=o22.spn s76;replace o31:=o31.spn s76;refine Ol (J25 C75 cb243 rfl rfl (Jx9 C75.bd h66 h77 (by omega) (by simp)) ?_);intro v81 w82 C83 s84 h85;replace h49:=(h49.sp s76).sp s84;replace h67:=(h67.sp s76).sp s84;replace o41:=(o41.spn s76).spn s84;obtain⟨a86,c87,rfl,_,_⟩:=h85.len;refine Om (Om (Ol (J25 C83 cb244 rfl rfl (Jw9 C83.bd h49 h67 (by omega) (by omega) (by rw [Js];exact Nat.le_of_lt (Nat.mod_lt _ hbp))) ?_)));intro v88 w89 C90 s91 h92;replace h85:=h85.sp s91;replace o14:=(o14.spn s84).spn s91;replace o22:=(o22.spn s84).spn s91;replace o31:=(o31.spn s84).spn s91;obtain⟨a93,c94,rfl,_,_⟩:=h92.len;refine Oa (Oa (Nl (Rg (Ol (St.fieldAddr Zv rfl (Ol (J27 o14 pl4 rfl rfl (Ol (St.fieldAddr Zv rfl (Ol (J27 o22 pl4 rfl rfl (Ol (J4b un4 rfl rfl rfl (Om (Ol (J25 C90 qr rfl rfl (Kk C90.bd h85 (by first | omega | (rw [Jj];simp;omega))) ?_))))))))))))))));intro v95 w96 C97 s98 h99;replace h92:=h92.sp s98;replace o41:=(o41.spn s91).spn s98;obtain⟨a100,c101,rfl,h102⟩:=RV.int h99;refine Om (Ol (J25 C97 qr rfl rfl (Kk C97.bd h92 (by first | omega | (rw [Jj];omega))) ?_));intro v103 w104 C105 s106 h107;replace h102:=h102.sp s106;replace o31:=(o31.spn s98).spn s106;obtain⟨a108,c109,rfl,h110⟩:=RV.int h107;refine On (J3a (cs':=[(.bool (mkSg (a.neg != b.neg) (Jt (max (digs (val (trim a.mag) / val (trim b.mag))).length [1].length+1) (val (digs (val (trim a.mag) / val (trim b.mag)))+val [1]))).neg),(.slice a100 (mkSg (a.neg != b.neg) (Jt (max (digs (val (trim a.mag) / val (trim b.mag))).length [1].length+1) (val (digs (val (trim a.mag) / val (trim b.mag)))+val [1]))).mag.length c101)]) C105 o31 io26 rfl rfl rfl rfl rfl rfl ?_);intro w111 C112 s113 o114;replace o41:=(o41.spn s106).spo s113 (Ne.symm n44);refine On (J3a (cs':=[(.bool (mkSg false (Jt (trim b.mag).length (val (trim b.mag) - val (digs (val (trim a.mag) % val (trim b.mag)))))).neg),(.slice a108 (mkSg false (Jt (trim b.mag).length (val (trim b.mag) - val (digs (val (trim a.mag) % val (trim b.mag)))))).mag.length c109)]) C112 o41 io26 rfl rfl rfl rfl rfl rfl ?_);intro w115 C116 s117 o118;replace h102:=(h102.sp s113).sp s117;replace h110:=(h110.sp s113).sp s117;replace o114:=o114.spo s117 n44;refine Oa (Nl (W.ret (Jtg rfl (resV.c o114 rfl ag26 rfl) (resV.c o118 rfl ag26 rfl) (resV.t rfl) (Ret.intro ?_ C116.below))));refine⟨_,_,_,rfl,?_,?_,?_⟩
   ·skip
    exact J3l (a:=(mkSg (a.neg != b.neg) (Jt (max (digs (val (trim a.mag) / val (trim b.mag))).length [1].length+1) (val (digs (val (trim a.mag) / val (trim b.mag)))+val [1])))) ((Jo h102).tr (Tr.weak C116.base)) (by exact Kf (J0 _ _) (by rw [Zi _ _ (Jeb (Z0 _) Jkn),Js,tva,tvb,show val [1]=1 from rfl];exact(Jbn hb0 hb72 (fun h=>by have:=hmz.2 h;omega)).1))
   ·skip
    exact J3l (a:=(mkSg false (Jt (trim b.mag).length (val (trim b.mag) - val (digs (val (trim a.mag) % val (trim b.mag))))))) ((Jo h110).tr (Tr.weak C116.base)) (by exact Kf (J0 _ _) (by rw [Zi _ _ (Nat.lt_of_le_of_lt (Nat.sub_le _ _) (Zs _ (Yf sb))),Js,tva,tvb,Z9];exact(Jbn hb0 hb72 (fun h=>by have:=hmz.2 h;omega)).2))
   ·skip
    rfl
  refine OT (Nl (J28 rfl (W.skip (Rg (Ol (St.fieldAddr Zv rfl (Ol (J27 o14 pl4 rfl rfl (Ol (St.fieldAddr Zv rfl (Ol (J27 o22 pl4 rfl rfl (Ol (J4b un4 rfl rfl rfl (Om (Ol (J25 C61 qr rfl rfl (Kk C61.bd h66 (by first | omega | (rw [Jj];simp;omega))) ?_)))))))))))))))));intro v119 w120 C121 s122 h123;replace h67:=h67.sp s122;replace o41:=o41.spn s122;obtain⟨a124,c125,rfl,h126⟩:=RV.int h123;refine Om (Ol (J25 C121 qr rfl rfl (Kk C121.bd h67 (by first | omega | (rw [Jj];omega))) ?_));intro v127 w128 C129 s130 h131;replace h126:=h126.sp s130;replace o31:=(o31.spn s122).spn s130;obtain⟨a132,c133,rfl,h134⟩:=RV.int h131;refine On (J3a (cs':=[(.bool (mkSg (a.neg != b.neg) (digs (val (trim a.mag) / val (trim b.mag)))).neg),(.slice a124 (mkSg (a.neg != b.neg) (digs (val (trim a.mag) / val (trim b.mag)))).mag.length c125)]) C129 o31 io26 rfl rfl rfl rfl rfl rfl ?_);intro w135 C136 s137 o138;replace o41:=(o41.spn s130).spo s137 (Ne.symm n44);refine On (J3a (cs':=[(.bool (mkSg false (digs (val (trim a.mag) % val (trim b.mag)))).neg),(.slice a132 (mkSg false (digs (val (trim a.mag) % val (trim b.mag)))).mag.length c133)]) C136 o41 io26 rfl rfl rfl rfl rfl rfl ?_);intro w139 C140 s141 o142;replace h126:=(h126.sp s137).sp s141;replace h134:=(h134.sp s137).sp s141;replace o138:=o138.spo s141 n44;refine Oa (Nl (W.ret (Jtg rfl (resV.c o138 rfl ag26 rfl) (resV.c o142 rfl ag26 rfl) (resV.t rfl) (Ret.intro ?_ C140.below))));refine⟨_,_,_,rfl,?_,?_,?_⟩
  ·skip
   exact J3l (a:=(mkSg (a.neg != b.neg) (digs (val (trim a.mag) / val (trim b.mag))))) ((Jo h126).tr (Tr.weak C140.base)) (by exact Kf (Z0 _) (by rw [Js,tva,tvb];exact(jb hb0 (.inr (hmz.1 (by omega)))).1))
  ·skip
   exact J3l (a:=(mkSg false (digs (val (trim a.mag) % val (trim b.mag))))) ((Jo h134).tr (Tr.weak C140.base)) (by exact Kf (Z0 _) (by rw [Js,tva,tvb,Z9];exact(jb hb0 (.inr (hmz.1 (by omega)))).2))
  ·skip
   rfl
 refine Om (Oz (Oz (Oz (OF (Nl (J28 rfl (W.skip (Rg (Ol (St.fieldAddr Zv rfl (Ol (J27 o14 pl4 rfl rfl (Ol (St.fieldAddr Zv rfl (Ol (J27 o22 pl4 rfl rfl (Ol (J4b un4 rfl rfl rfl (Om (Ol (J25 C61 qr rfl rfl (Kk C61.bd h66 (by first | omega | (rw [Jj];simp;omega))) ?_)))))))))))))))))))));intro v143 w144 C145 s146 h147;replace h67:=h67.sp s146;replace o41:=o41.spn s146;obtain⟨a148,c149,rfl,h150⟩:=RV.int h147;refine Om (Ol (J25 C145 qr rfl rfl (Kk C145.bd h67 (by first | omega | (rw [Jj];omega))) ?_));intro v151 w152 C153 s154 h155;replace h150:=h150.sp s154;replace o31:=(o31.spn s146).spn s154;obtain⟨a156,c157,rfl,h158⟩:=RV.int h155;refine On (J3a (cs':=[(.bool (mkSg (a.neg != b.neg) (digs (val (trim a.mag) / val (trim b.mag)))).neg),(.slice a148 (mkSg (a.neg != b.neg) (digs (val (trim a.mag) / val (trim b.mag)))).mag.length c149)]) C153 o31 io26 rfl rfl rfl rfl rfl rfl ?_);intro w159 C160 s161 o162;replace o41:=(o41.spn s154).spo s161 (Ne.symm n44);refine On (J3a (cs':=[(.bool (mkSg false (digs (val (trim a.mag) % val (trim b.mag)))).neg),(.slice a156 (mkSg false (digs (val (trim a.mag) % val (trim b.mag)))).mag.length c157)]) C160 o41 io26 rfl rfl rfl rfl rfl rfl ?_);intro w163 C164 s165 o166;replace h150:=(h150.sp s161).sp s165;replace h158:=(h158.sp s161).sp s165;replace o162:=o162.spo s165 n44;refine Oa (Nl (W.ret (Jtg rfl (resV.c o162 rfl ag26 rfl) (resV.c o166 rfl ag26 rfl) (resV.t rfl) (Ret.intro ?_ C164.below))));refine⟨_,_,_,rfl,?_,?_,?_⟩
 ·skip
  exact J3l (a:=(mkSg (a.neg != b.neg) (digs (val (trim a.mag) / val (trim b.mag))))) ((Jo h150).tr (Tr.weak C164.base)) (by exact Kf (Z0 _) (by rw [Js,tva,tvb];exact(jb hb0 (.inl hb72)).1))
 ·skip
  exact J3l (a:=(mkSg false (digs (val (trim a.mag) % val (trim b.mag))))) ((Jo h158).tr (Tr.weak C164.base)) (by exact Kf (Z0 _) (by rw [Js,tva,tvb,Z9];exact(jb hb0 (.inl hb72)).2))
 ·skip
  rfl
end Go.Wf
namespace Go.Ev
open Go Go.Wf
inductive I16 | a0 | a1 | a2 | a3 | a4 | a5 | a6 | a7 | a8 | a9 | a10 | a11 | a12 | a13 | a14 | a15
 deriving DecidableEq
structure N16 (α:Type) where
 x0:α
 x1:α
 x2:α
 x3:α
 x4:α
 x5:α
 x6:α
 x7:α
 x8:α
 x9:α
 x10:α
 x11:α
 x12:α
 x13:α
 x14:α
 x15:α
def N16.get{α:Type}(i:I16):N16 α→α:=I16.rec (motive:=fun _=>N16 α→α) N16.x0 N16.x1 N16.x2 N16.x3 N16.x4 N16.x5 N16.x6 N16.x7 N16.x8 N16.x9 N16.x10 N16.x11 N16.x12 N16.x13 N16.x14 N16.x15 i
def N16.set0{α:Type}(v:α)(t:N16 α):N16 α:=N16.rec (fun _ x1 x2 x3 x4 x5 x6 x7 x8 x9 x10 x11 x12 x13 x14 x15=>⟨v,x1,x2,x3,x4,x5,x6,x7,x8,x9,x10,x11,x12,x13,x14,x15⟩) t
def N16.set1{α:Type}(v:α)(t:N16 α):N16 α:=N16.rec (fun x0 _ x2 x3 x4 x5 x6 x7 x8 x9 x10 x11 x12 x13 x14 x15=>⟨x0,v,x2,x3,x4,x5,x6,x7,x8,x9,x10,x11,x12,x13,x14,x15⟩) t
def N16.set2{α:Type}(v:α)(t:N16 α):N16 α:=N16.rec (fun x0 x1 _ x3 x4 x5 x6 x7 x8 x9 x10 x11 x12 x13 x14 x15=>⟨x0,x1,v,x3,x4,x5,x6,x7,x8,x9,x10,x11,x12,x13,x14,x15⟩) t
def N16.set3{α:Type}(v:α)(t:N16 α):N16 α:=N16.rec (fun x0 x1 x2 _ x4 x5 x6 x7 x8 x9 x10 x11 x12 x13 x14 x15=>⟨x0,x1,x2,v,x4,x5,x6,x7,x8,x9,x10,x11,x12,x13,x14,x15⟩) t
def N16.set4{α:Type}(v:α)(t:N16 α):N16 α:=N16.rec (fun x0 x1 x2 x3 _ x5 x6 x7 x8 x9 x10 x11 x12 x13 x14 x15=>⟨x0,x1,x2,x3,v,x5,x6,x7,x8,x9,x10,x11,x12,x13,x14,x15⟩) t
def N16.set5{α:Type}(v:α)(t:N16 α):N16 α:=N16.rec (fun x0 x1 x2 x3 x4 _ x6 x7 x8 x9 x10 x11 x12 x13 x14 x15=>⟨x0,x1,x2,x3,x4,v,x6,x7,x8,x9,x10,x11,x12,x13,x14,x15⟩) t
def N16.set6{α:Type}(v:α)(t:N16 α):N16 α:=N16.rec (fun x0 x1 x2 x3 x4 x5 _ x7 x8 x9 x10 x11 x12 x13 x14 x15=>⟨x0,x1,x2,x3,x4,x5,v,x7,x8,x9,x10,x11,x12,x13,x14,x15⟩) t
def N16.set7{α:Type}(v:α)(t:N16 α):N16 α:=N16.rec (fun x0 x1 x2 x3 x4 x5 x6 _ x8 x9 x10 x11 x12 x13 x14 x15=>⟨x0,x1,x2,x3,x4,x5,x6,v,x8,x9,x10,x11,x12,x13,x14,x15⟩) t
def N16.set8{α:Type}(v:α)(t:N16 α):N16 α:=N16.rec (fun x0 x1 x2 x3 x4 x5 x6 x7 _ x9 x10 x11 x12 x13 x14 x15=>⟨x0,x1,x2,x3,x4,x5,x6,x7,v,x9,x10,x11,x12,x13,x14,x15⟩) t
def N16.set9{α:Type}(v:α)(t:N16 α):N16 α:=N16.rec (fun x0 x1 x2 x3 x4 x5 x6 x7 x8 _ x10 x11 x12 x13 x14 x15=>⟨x0,x1,x2,x3,x4,x5,x6,x7,x8,v,x10,x11,x12,x13,x14,x15⟩) t
def N16.set10{α:Type}(v:α)(t:N16 α):N16 α:=N16.rec (fun x0 x1 x2 x3 x4 x5 x6 x7 x8 x9 _ x11 x12 x13 x14 x15=>⟨x0,x1,x2,x3,x4,x5,x6,x7,x8,x9,v,x11,x12,x13,x14,x15⟩) t
def N16.set11{α:Type}(v:α)(t:N16 α):N16 α:=N16.rec (fun x0 x1 x2 x3 x4 x5 x6 x7 x8 x9 x10 _ x12 x13 x14 x15=>⟨x0,x1,x2,x3,x4,x5,x6,x7,x8,x9,x10,v,x12,x13,x14,x15⟩) t
def N16.set12{α:Type}(v:α)(t:N16 α):N16 α:=N16.rec (fun x0 x1 x2 x3 x4 x5 x6 x7 x8 x9 x10 x11 _ x13 x14 x15=>⟨x0,x1,x2,x3,x4,x5,x6,x7,x8,x9,x10,x11,v,x13,x14,x15⟩) t
def N16.set13{α:Type}(v:α)(t:N16 α):N16 α:=N16.rec (fun x0 x1 x2 x3 x4 x5 x6 x7 x8 x9 x10 x11 x12 _ x14 x15=>⟨x0,x1,x2,x3,x4,x5,x6,x7,x8,x9,x10,x11,x12,v,x14,x15⟩) t
def N16.set14{α:Type}(v:α)(t:N16 α):N16 α:=N16.rec (fun x0 x1 x2 x3 x4 x5 x6 x7 x8 x9 x10 x11 x12 x13 _ x15=>⟨x0,x1,x2,x3,x4,x5,x6,x7,x8,x9,x10,x11,x12,x13,v,x15⟩) t
def N16.set15{α:Type}(v:α)(t:N16 α):N16 α:=N16.rec (fun x0 x1 x2 x3 x4 x5 x6 x7 x8 x9 x10 x11 x12 x13 x14 _=>⟨x0,x1,x2,x3,x4,x5,x6,x7,x8,x9,x10,x11,x12,x13,x14,v⟩) t
def N16.set{α:Type}(i:I16):α→N16 α→N16 α:=I16.rec (motive:=fun _=>α→N16 α→N16 α) N16.set0 N16.set1 N16.set2 N16.set3 N16.set4 N16.set5 N16.set6 N16.set7 N16.set8 N16.set9 N16.set10 N16.set11 N16.set12 N16.set13 N16.set14 N16.set15 i
def i16c0(_:Nat):I16:= .a0
def i16c1(_:Nat):I16:= .a1
def Ju5(n:Nat):I16:=Bool.rec (motive:=fun _=>Nat→I16) i16c1 i16c0 (Nat.beq (Nat.land n 1) 0) n
def i16c2(_:Nat):I16:= .a2
def i16c3(_:Nat):I16:= .a3
def Jve(n:Nat):I16:=Bool.rec (motive:=fun _=>Nat→I16) i16c3 i16c2 (Nat.beq (Nat.land n 1) 0) n
def Juh(n:Nat):I16:=Bool.rec (motive:=fun _=>Nat→I16) Jve Ju5 (Nat.beq (Nat.land n 2) 0) n
def i16c4(_:Nat):I16:= .a4
def i16c5(_:Nat):I16:= .a5
def Jr1(n:Nat):I16:=Bool.rec (motive:=fun _=>Nat→I16) i16c5 i16c4 (Nat.beq (Nat.land n 1) 0) n
def i16c6(_:Nat):I16:= .a6
def i16c7(_:Nat):I16:= .a7
def Jvg(n:Nat):I16:=Bool.rec (motive:=fun _=>Nat→I16) i16c7 i16c6 (Nat.beq (Nat.land n 1) 0) n
def Jt8(n:Nat):I16:=Bool.rec (motive:=fun _=>Nat→I16) Jvg Jr1 (Nat.beq (Nat.land n 2) 0) n
def Jtu(n:Nat):I16:=Bool.rec (motive:=fun _=>Nat→I16) Jt8 Juh (Nat.beq (Nat.land n 4) 0) n
def i16c8(_:Nat):I16:= .a8
def i16c9(_:Nat):I16:= .a9
def Jtq(n:Nat):I16:=Bool.rec (motive:=fun _=>Nat→I16) i16c9 i16c8 (Nat.beq (Nat.land n 1) 0) n
def Jxf(_:Nat):I16:= .a10
def Jzb(_:Nat):I16:= .a11
def Jpj(n:Nat):I16:=Bool.rec (motive:=fun _=>Nat→I16) Jzb Jxf (Nat.beq (Nat.land n 1) 0) n
def Jsm(n:Nat):I16:=Bool.rec (motive:=fun _=>Nat→I16) Jpj Jtq (Nat.beq (Nat.land n 2) 0) n
def Jwv(_:Nat):I16:= .a12
def Jxx(_:Nat):I16:= .a13
def Jo4(n:Nat):I16:=Bool.rec (motive:=fun _=>Nat→I16) Jxx Jwv (Nat.beq (Nat.land n 1) 0) n
def Jx8(_:Nat):I16:= .a14
def Jyu(_:Nat):I16:= .a15
def Jn0(n:Nat):I16:=Bool.rec (motive:=fun _=>Nat→I16) Jyu Jx8 (Nat.beq (Nat.land n 1) 0) n
def Jnn(n:Nat):I16:=Bool.rec (motive:=fun _=>Nat→I16) Jn0 Jo4 (Nat.beq (Nat.land n 2) 0) n
def Jrq(n:Nat):I16:=Bool.rec (motive:=fun _=>Nat→I16) Jnn Jsm (Nat.beq (Nat.land n 4) 0) n
def i16(n:Nat):I16:=Bool.rec (motive:=fun _=>Nat→I16) Jrq Jtu (Nat.beq (Nat.land n 8) 0) n
def I16.toNat:I16→Nat
 | .a0=>0
 | .a1=>1
 | .a2=>2
 | .a3=>3
 | .a4=>4
 | .a5=>5
 | .a6=>6
 | .a7=>7
 | .a8=>8
 | .a9=>9
 | .a10=>10
 | .a11=>11
 | .a12=>12
 | .a13=>13
 | .a14=>14
 | .a15=>15
theorem Jcf(n:Nat)(h:n < 16):(i16 n).toNat=n:=by
 have:∀ k,k < 16→(i16 k).toNat=k:=by decide
 exact this n h
theorem N16.get_set{α:Type}(i j:I16)(v:α)(t:N16 α):N16.get i (N16.set j v t)=if i=j then v else N16.get i t:=by
 cases t;cases i <;> cases j <;> simp [N16.get,N16.set,N16.set0,N16.set1,N16.set2,N16.set3,N16.set4,N16.set5,N16.set6,N16.set7,N16.set8,N16.set9,N16.set10,N16.set11,N16.set12,N16.set13,N16.set14,N16.set15]
abbrev T2(α:Type):=N16 (N16 α)
def get2{α:Type}(n:Nat)(t:T2 α):α:=N16.get (i16 (Nat.land n 15)) (N16.get (i16 (Nat.shiftRight n 4)) t)
def set2{α:Type}(n:Nat)(v:α)(t:T2 α):T2 α:=N16.set (i16 (Nat.shiftRight n 4)) (N16.set (i16 (Nat.land n 15)) v (N16.get (i16 (Nat.shiftRight n 4)) t)) t
theorem Jbd{a b:Nat}(ha:a < 16)(hb:b < 16)(h:i16 a=i16 b):a=b:=by rw [← Jcf a ha,← Jcf b hb,h]
theorem xq(n:Nat):Nat.land n 15=n % 16:=Nat.and_two_pow_sub_one_eq_mod n 4
theorem shr4(n:Nat):Nat.shiftRight n 4=n / 16:=Nat.shiftRight_eq_div_pow n 4
theorem jj{α:Type}(n m:Nat)(v:α)(t:T2 α)(hn:n < 256)(hm:m < 256):get2 n (set2 m v t)=if n=m then v else get2 n t:=by
 unfold get2 set2;rw [N16.get_set,xq,shr4,xq,shr4]
 by_cases h1:i16 (n / 16)=i16 (m / 16)
 ·have e1:=Jbd (by omega) (by omega) h1;rw [if_pos h1,N16.get_set,h1]
  by_cases h2:i16 (n % 16)=i16 (m % 16)
  ·have e2:=Jbd (by omega) (by omega) h2;rw [if_pos h2,if_pos (by omega)]
  ·rw [if_neg h2,if_neg (fun e=>h2 (by rw [e]))]
 ·rw [if_neg h1,if_neg (fun e=>h1 (by rw [e]))]
def K3{α:Type}(v:α):N16 α:=⟨v,v,v,v,v,v,v,v,v,v,v,v,v,v,v,v⟩
theorem Va{α:Type}(i:I16)(v:α):N16.get i (K3 v)=v:=by cases i <;> rfl
theorem jd{α:Type}(n:Nat)(v:α):get2 n (K3 (K3 v))=v:=by unfold get2;rw [Va,Va]
abbrev T5(α:Type):=N16 (T2 (T2 α))
def Jd5{α:Type}(n:Nat)(t:T5 α):α:=get2 (Nat.land n 255) (get2 (Nat.land (Nat.shiftRight n 8) 255) (N16.get (i16 (Nat.shiftRight n 16)) t))
def Jpg{α:Type}(n:Nat)(v:α)(t:T5 α):T5 α:=
 N16.set (i16 (Nat.shiftRight n 16)) (set2 (Nat.land (Nat.shiftRight n 8) 255) (set2 (Nat.land n 255) v (get2 (Nat.land (Nat.shiftRight n 8) 255) (N16.get (i16 (Nat.shiftRight n 16)) t))) (N16.get (i16 (Nat.shiftRight n 16)) t)) t
theorem qb(n:Nat):Nat.land n 255=n % 256:=Nat.and_two_pow_sub_one_eq_mod n 8
theorem shr8(n:Nat):Nat.shiftRight n 8=n / 256:=Nat.shiftRight_eq_div_pow n 8
theorem shr16(n:Nat):Nat.shiftRight n 16=n / 65536:=Nat.shiftRight_eq_div_pow n 16
def big5:Nat:=1048576
theorem Jeq{α:Type}(n m:Nat)(v:α)(t:T5 α)(hn:n < big5)(hm:m < big5):Jd5 n (Jpg m v t)=if n=m then v else Jd5 n t:=by
 unfold big5 at hn hm;unfold Jd5 Jpg;simp only [qb,shr8,shr16];rw [N16.get_set]
 by_cases h1:i16 (n / 65536)=i16 (m / 65536)
 ·have e1:=Jbd (by omega) (by omega) h1;rw [if_pos h1,h1,jj _ _ _ _ (by omega) (by omega)]
  by_cases h2:n / 256 % 256=m / 256 % 256
  ·rw [if_pos h2,jj _ _ _ _ (by omega) (by omega),h2]
   by_cases h3:n % 256=m % 256
   ·rw [if_pos h3,if_pos (by omega)]
   ·rw [if_neg h3,if_neg (fun e=>h3 (by rw [e]))]
  ·rw [if_neg h2,if_neg (fun e=>h2 (by rw [e]))]
 ·rw [if_neg h1,if_neg (fun e=>h1 (by rw [e]))]
def Jny{α:Type}(v:α):T5 α:=K3 (K3 (K3 (K3 (K3 v))))
theorem Jhy{α:Type}(n:Nat)(v:α):Jd5 n (Jny v)=v:=by unfold Jd5 Jny;rw [Va,jd,jd]
structure TF (α:Type) where
 lo:T2 α
 hi:N16 (T2 α)
inductive AV
 | u
 | b (x:Bool)
 | i (k:IntKind) (n:Int)
 | s (l:List Nat)
 | np
 | p (id off:Nat)
 | ns
 | sl (id off len z:Nat) (cap:Option Nat)
 | z0
 | ag (l:List AV)
 | tp (l:List AV)
 | fn (k:FuncId) (cap:List AV)
 | nf
 | ifc (t:TypeId) (v:AV)
 | nif
 | mp (id:Nat)
 | nm
 | yv (id:Nat)
 | gp (g off:Nat)
structure En where
 k:AV
 v:AV
 b:Nat
inductive Ob
 | row
 | map (es:List En) (clock:Nat)
 | sit (l:List Nat) (pos:Nat)
 | mit (m:Option Nat) (since:Nat) (seen:List Nat) (last:Nat)
 | glb
 | lp (busy:Bool) (n:Nat) (ps:List Tmp) (a b:Code) (f:TF AV)
structure Blk where
 ty:TypeId
 ex:Bool
 ro:Bool
 cs:List AV
 ob:Ob
structure Hp where
 t:T5 (Option Blk)
 n:Nat
abbrev Fr:=TF AV
def gK{α:Type}:I16→N16 α→α:=I16.rec (motive:=fun _=>N16 α→α) N16.x0 N16.x1 N16.x2 N16.x3 N16.x4 N16.x5 N16.x6 N16.x7 N16.x8 N16.x9 N16.x10 N16.x11 N16.x12 N16.x13 N16.x14 N16.x15
def pK0{α:Type}:N16 α→α→N16 α:=N16.rec (motive:=fun _=>α→N16 α) fun x0 x1 x2 x3 x4 x5 x6 x7 x8 x9 x10 x11 x12 x13 x14 x15 v=>⟨v,x1,x2,x3,x4,x5,x6,x7,x8,x9,x10,x11,x12,x13,x14,x15⟩
def pK1{α:Type}:N16 α→α→N16 α:=N16.rec (motive:=fun _=>α→N16 α) fun x0 x1 x2 x3 x4 x5 x6 x7 x8 x9 x10 x11 x12 x13 x14 x15 v=>⟨x0,v,x2,x3,x4,x5,x6,x7,x8,x9,x10,x11,x12,x13,x14,x15⟩
def pK2{α:Type}:N16 α→α→N16 α:=N16.rec (motive:=fun _=>α→N16 α) fun x0 x1 x2 x3 x4 x5 x6 x7 x8 x9 x10 x11 x12 x13 x14 x15 v=>⟨x0,x1,v,x3,x4,x5,x6,x7,x8,x9,x10,x11,x12,x13,x14,x15⟩
def pK3{α:Type}:N16 α→α→N16 α:=N16.rec (motive:=fun _=>α→N16 α) fun x0 x1 x2 x3 x4 x5 x6 x7 x8 x9 x10 x11 x12 x13 x14 x15 v=>⟨x0,x1,x2,v,x4,x5,x6,x7,x8,x9,x10,x11,x12,x13,x14,x15⟩
def pK4{α:Type}:N16 α→α→N16 α:=N16.rec (motive:=fun _=>α→N16 α) fun x0 x1 x2 x3 x4 x5 x6 x7 x8 x9 x10 x11 x12 x13 x14 x15 v=>⟨x0,x1,x2,x3,v,x5,x6,x7,x8,x9,x10,x11,x12,x13,x14,x15⟩
def pK5{α:Type}:N16 α→α→N16 α:=N16.rec (motive:=fun _=>α→N16 α) fun x0 x1 x2 x3 x4 x5 x6 x7 x8 x9 x10 x11 x12 x13 x14 x15 v=>⟨x0,x1,x2,x3,x4,v,x6,x7,x8,x9,x10,x11,x12,x13,x14,x15⟩
def pK6{α:Type}:N16 α→α→N16 α:=N16.rec (motive:=fun _=>α→N16 α) fun x0 x1 x2 x3 x4 x5 x6 x7 x8 x9 x10 x11 x12 x13 x14 x15 v=>⟨x0,x1,x2,x3,x4,x5,v,x7,x8,x9,x10,x11,x12,x13,x14,x15⟩
def pK7{α:Type}:N16 α→α→N16 α:=N16.rec (motive:=fun _=>α→N16 α) fun x0 x1 x2 x3 x4 x5 x6 x7 x8 x9 x10 x11 x12 x13 x14 x15 v=>⟨x0,x1,x2,x3,x4,x5,x6,v,x8,x9,x10,x11,x12,x13,x14,x15⟩
def pK8{α:Type}:N16 α→α→N16 α:=N16.rec (motive:=fun _=>α→N16 α) fun x0 x1 x2 x3 x4 x5 x6 x7 x8 x9 x10 x11 x12 x13 x14 x15 v=>⟨x0,x1,x2,x3,x4,x5,x6,x7,v,x9,x10,x11,x12,x13,x14,x15⟩
def pK9{α:Type}:N16 α→α→N16 α:=N16.rec (motive:=fun _=>α→N16 α) fun x0 x1 x2 x3 x4 x5 x6 x7 x8 x9 x10 x11 x12 x13 x14 x15 v=>⟨x0,x1,x2,x3,x4,x5,x6,x7,x8,v,x10,x11,x12,x13,x14,x15⟩
def pK10{α:Type}:N16 α→α→N16 α:=N16.rec (motive:=fun _=>α→N16 α) fun x0 x1 x2 x3 x4 x5 x6 x7 x8 x9 x10 x11 x12 x13 x14 x15 v=>⟨x0,x1,x2,x3,x4,x5,x6,x7,x8,x9,v,x11,x12,x13,x14,x15⟩
def pK11{α:Type}:N16 α→α→N16 α:=N16.rec (motive:=fun _=>α→N16 α) fun x0 x1 x2 x3 x4 x5 x6 x7 x8 x9 x10 x11 x12 x13 x14 x15 v=>⟨x0,x1,x2,x3,x4,x5,x6,x7,x8,x9,x10,v,x12,x13,x14,x15⟩
def pK12{α:Type}:N16 α→α→N16 α:=N16.rec (motive:=fun _=>α→N16 α) fun x0 x1 x2 x3 x4 x5 x6 x7 x8 x9 x10 x11 x12 x13 x14 x15 v=>⟨x0,x1,x2,x3,x4,x5,x6,x7,x8,x9,x10,x11,v,x13,x14,x15⟩
def pK13{α:Type}:N16 α→α→N16 α:=N16.rec (motive:=fun _=>α→N16 α) fun x0 x1 x2 x3 x4 x5 x6 x7 x8 x9 x10 x11 x12 x13 x14 x15 v=>⟨x0,x1,x2,x3,x4,x5,x6,x7,x8,x9,x10,x11,x12,v,x14,x15⟩
def pK14{α:Type}:N16 α→α→N16 α:=N16.rec (motive:=fun _=>α→N16 α) fun x0 x1 x2 x3 x4 x5 x6 x7 x8 x9 x10 x11 x12 x13 x14 x15 v=>⟨x0,x1,x2,x3,x4,x5,x6,x7,x8,x9,x10,x11,x12,x13,v,x15⟩
def pK15{α:Type}:N16 α→α→N16 α:=N16.rec (motive:=fun _=>α→N16 α) fun x0 x1 x2 x3 x4 x5 x6 x7 x8 x9 x10 x11 x12 x13 x14 x15 v=>⟨x0,x1,x2,x3,x4,x5,x6,x7,x8,x9,x10,x11,x12,x13,x14,v⟩
def sK{α:Type}:I16→N16 α→α→N16 α:=I16.rec (motive:=fun _=>N16 α→α→N16 α) pK0 pK1 pK2 pK3 pK4 pK5 pK6 pK7 pK8 pK9 pK10 pK11 pK12 pK13 pK14 pK15
theorem Jdp{α:Type}(i:I16)(t:N16 α):gK i t=N16.get i t:=by cases i <;> rfl
theorem Jdg{α:Type}(i:I16)(t:N16 α)(v:α):sK i t v=N16.set i v t:=by cases i <;> cases t <;> rfl
def gA0:I16→N16 (AV)→AV:=gK
def sA0:I16→N16 (AV)→(AV)→N16 (AV):=sK
theorem Jrj(i:I16)(t:N16 (AV)):gA0 i t=N16.get i t:=Jdp i t
theorem Jz6(i:I16)(t:N16 (AV))(v:AV):sA0 i t v=N16.set i v t:=Jdg i t v
def gA1:I16→N16 (N16 AV)→N16 AV:=gK
def sA1:I16→N16 (N16 AV)→(N16 AV)→N16 (N16 AV):=sK
theorem Jmj(i:I16)(t:N16 (N16 AV)):gA1 i t=N16.get i t:=Jdp i t
theorem Jyo(i:I16)(t:N16 (N16 AV))(v:N16 AV):sA1 i t v=N16.set i v t:=Jdg i t v
def gA2:I16→N16 (N16 (N16 AV))→N16 (N16 AV):=gK
def sA2:I16→N16 (N16 (N16 AV))→(N16 (N16 AV))→N16 (N16 (N16 AV)):=sK
theorem Jqu(i:I16)(t:N16 (N16 (N16 AV))):gA2 i t=N16.get i t:=Jdp i t
theorem Jzj(i:I16)(t:N16 (N16 (N16 AV)))(v:N16 (N16 AV)):sA2 i t v=N16.set i v t:=Jdg i t v
def gB0:I16→N16 (Option Blk)→Option Blk:=gK
def sB0:I16→N16 (Option Blk)→(Option Blk)→N16 (Option Blk):=sK
theorem Jq6(i:I16)(t:N16 (Option Blk)):gB0 i t=N16.get i t:=Jdp i t
theorem Jzo(i:I16)(t:N16 (Option Blk))(v:Option Blk):sB0 i t v=N16.set i v t:=Jdg i t v
def gB1:I16→N16 (N16 (Option Blk))→N16 (Option Blk):=gK
def sB1:I16→N16 (N16 (Option Blk))→(N16 (Option Blk))→N16 (N16 (Option Blk)):=sK
theorem Jq3(i:I16)(t:N16 (N16 (Option Blk))):gB1 i t=N16.get i t:=Jdp i t
theorem Jwa(i:I16)(t:N16 (N16 (Option Blk)))(v:N16 (Option Blk)):sB1 i t v=N16.set i v t:=Jdg i t v
def gB2:I16→N16 (N16 (N16 (Option Blk)))→N16 (N16 (Option Blk)):=gK
def sB2:I16→N16 (N16 (N16 (Option Blk)))→(N16 (N16 (Option Blk)))→N16 (N16 (N16 (Option Blk))):=sK
theorem Jq2(i:I16)(t:N16 (N16 (N16 (Option Blk)))):gB2 i t=N16.get i t:=Jdp i t
theorem Jxz(i:I16)(t:N16 (N16 (N16 (Option Blk))))(v:N16 (N16 (Option Blk))):sB2 i t v=N16.set i v t:=Jdg i t v
def gB3:I16→N16 (N16 (N16 (N16 (Option Blk))))→N16 (N16 (N16 (Option Blk))):=gK
def sB3:I16→N16 (N16 (N16 (N16 (Option Blk))))→(N16 (N16 (N16 (Option Blk))))→N16 (N16 (N16 (N16 (Option Blk)))):=sK
theorem Jqj(i:I16)(t:N16 (N16 (N16 (N16 (Option Blk))))):gB3 i t=N16.get i t:=Jdp i t
theorem Jzy(i:I16)(t:N16 (N16 (N16 (N16 (Option Blk)))))(v:N16 (N16 (N16 (Option Blk)))):sB3 i t v=N16.set i v t:=Jdg i t v
def gB4:I16→N16 (N16 (N16 (N16 (N16 (Option Blk)))))→N16 (N16 (N16 (N16 (Option Blk)))):=gK
def sB4:I16→N16 (N16 (N16 (N16 (N16 (Option Blk)))))→(N16 (N16 (N16 (N16 (Option Blk)))))→N16 (N16 (N16 (N16 (N16 (Option Blk))))):=sK
theorem Jrn(i:I16)(t:N16 (N16 (N16 (N16 (N16 (Option Blk)))))):gB4 i t=N16.get i t:=Jdp i t
theorem Jz0(i:I16)(t:N16 (N16 (N16 (N16 (N16 (Option Blk))))))(v:N16 (N16 (N16 (N16 (Option Blk))))):sB4 i t v=N16.set i v t:=Jdg i t v
def Jvv(n:Nat)(f:TF AV):AV:=gA0 (i16 (Nat.land n 15)) (gA1 (i16 (Nat.shiftRight n 4)) f.lo)
def Jr9(n:Nat)(f:TF AV):AV:=gA0 (i16 (Nat.land n 15)) (gA1 (i16 (Nat.land (Nat.shiftRight n 4) 15)) (gA2 (i16 (Nat.shiftRight n 8)) f.hi))
def getF(n:Nat):TF AV→AV:=Bool.rec (motive:=fun _=>Nat→TF AV→AV) Jr9 Jvv (Nat.blt n 256) n
def Jmz(i j:I16)(t:N16 (N16 AV))(v:AV):N16 (N16 AV):=sA1 i t (sA0 j (gA1 i t) v)
def Jt2(n:Nat)(v:AV)(f:TF AV):TF AV:=⟨Jmz (i16 (Nat.shiftRight n 4)) (i16 (Nat.land n 15)) f.lo v,f.hi⟩
def Jtf(n:Nat)(v:AV)(f:TF AV):TF AV:=⟨f.lo,sA2 (i16 (Nat.shiftRight n 8)) f.hi (Jmz (i16 (Nat.land (Nat.shiftRight n 4) 15)) (i16 (Nat.land n 15)) (gA2 (i16 (Nat.shiftRight n 8)) f.hi) v)⟩
def setF(n:Nat):AV→TF AV→TF AV:=Bool.rec (motive:=fun _=>Nat→AV→TF AV→TF AV) Jtf Jt2 (Nat.blt n 256) n
def Jot(v:AV):TF AV:=⟨K3 (K3 v),K3 (K3 (K3 v))⟩
theorem Jo7(n:Nat)(f:TF AV):Jvv n f=get2 n f.lo:=by unfold Jvv get2;rw [Jrj,Jmj]
theorem nib(n:Nat):Nat.land (Nat.shiftRight n 4) 15=Nat.shiftRight (Nat.land n 255) 4:=by rw [xq,shr4,qb,shr4];omega
theorem nib0(n:Nat):Nat.land n 15=Nat.land (Nat.land n 255) 15:=by rw [xq,qb,xq];omega
theorem Jmy(n:Nat)(f:TF AV):Jr9 n f=get2 (Nat.land n 255) (N16.get (i16 (Nat.shiftRight n 8)) f.hi):=by unfold Jr9 get2;rw [Jrj,Jmj,Jqu,nib,nib0]
theorem Jf5(n:Nat)(t:N16 (N16 AV))(v:AV):Jmz (i16 (Nat.shiftRight n 4)) (i16 (Nat.land n 15)) t v=set2 n v t:=by unfold Jmz set2;rw [Jyo,Jz6,Jmj]
theorem Jm2(n:Nat)(v:AV)(f:TF AV):Jtf n v f=⟨f.lo,N16.set (i16 (Nat.shiftRight n 8)) (set2 (Nat.land n 255) v (N16.get (i16 (Nat.shiftRight n 8)) f.hi)) f.hi⟩:=by
 unfold Jtf;rw [Jzj,Jqu,nib,nib0,Jf5]
theorem Jm1(n:Nat)(v:AV)(f:TF AV):Jt2 n v f=⟨set2 n v f.lo,f.hi⟩:=by unfold Jt2;rw [Jf5]
theorem Jee(n:Nat)(f:TF AV):getF n f=Bool.rec (get2 (Nat.land n 255) (N16.get (i16 (Nat.shiftRight n 8)) f.hi)) (get2 n f.lo) (Nat.blt n 256):=by
 unfold getF;cases Nat.blt n 256
 ·exact Jmy n f
 ·exact Jo7 n f
theorem Ju8(n:Nat)(v:AV)(f:TF AV):setF n v f=Bool.rec ⟨f.lo,N16.set (i16 (Nat.shiftRight n 8)) (set2 (Nat.land n 255) v (N16.get (i16 (Nat.shiftRight n 8)) f.hi)) f.hi⟩ ⟨set2 n v f.lo,f.hi⟩ (Nat.blt n 256):=by
 unfold setF;cases Nat.blt n 256
 ·exact Jm2 n v f
 ·exact Jm1 n v f
theorem Xt(n m:Nat)(v:AV)(f:TF AV)(hn:n < 4096)(hm:m < 4096):getF n (setF m v f)=if n=m then v else getF n f:=by
 have hb:∀ k,Nat.blt k 256=decide (k < 256):=fun k=>by
  cases h:Nat.blt k 256 with
  | true=>exact(decide_eq_true (Nat.le_of_ble_eq_true h)).symm
  | false=>exact(decide_eq_false (fun hk=>by have h2:Nat.blt k 256=true:=Nat.ble_eq_true_of_le hk;rw [h2] at h;cases h)).symm
 rw [Ju8,Jee,Jee];rw [hb n,hb m]
 by_cases h1:n < 256
 ·rw [decide_eq_true h1]
  by_cases h2:m < 256
  ·rw [decide_eq_true h2];exact jj n m v f.lo h1 h2
  ·rw [decide_eq_false h2,if_neg (by omega)]
 ·rw [decide_eq_false h1]
  by_cases h2:m < 256
  ·rw [decide_eq_true h2,if_neg (by omega)]
  ·rw [decide_eq_false h2]
   show get2 (Nat.land n 255) (N16.get (i16 (Nat.shiftRight n 8)) (N16.set (i16 (Nat.shiftRight m 8)) _ f.hi))=if n=m then v else get2 (Nat.land n 255) (N16.get (i16 (Nat.shiftRight n 8)) f.hi)
   simp only [qb,shr8];rw [N16.get_set]
   by_cases h3:i16 (n / 256)=i16 (m / 256)
   ·have e3:=Jbd (by omega) (by omega) h3;rw [if_pos h3,h3,jj _ _ _ _ (by omega) (by omega)]
    by_cases h4:n % 256=m % 256
    ·rw [if_pos h4,if_pos (by omega)]
    ·rw [if_neg h4,if_neg (fun e=>h4 (by rw [e]))]
   ·rw [if_neg h3,if_neg (fun e=>h3 (by rw [e]))]
theorem Jbu(n:Nat)(v:AV):getF n (Jot v)=v:=by
 rw [Jee];unfold Jot
 cases Nat.blt n 256
 ·show get2 _ (N16.get _ (K3 (K3 (K3 v))))=v;rw [Va,jd]
 ·exact jd _ _
def get5(n:Nat)(t:T5 (Option Blk)):Option Blk:=
 gB0 (i16 (Nat.land n 15)) (gB1 (i16 (Nat.land (Nat.shiftRight n 4) 15)) (gB2 (i16 (Nat.land (Nat.shiftRight n 8) 15)) (gB3 (i16 (Nat.land (Nat.shiftRight n 12) 15)) (gB4 (i16 (Nat.shiftRight n 16)) t))))
def put2(d e:I16)(t:N16 (N16 (Option Blk)))(v:Option Blk):N16 (N16 (Option Blk)):=sB1 d t (sB0 e (gB1 d t) v)
def put3(c d e:I16)(t:N16 (N16 (N16 (Option Blk))))(v:Option Blk):N16 (N16 (N16 (Option Blk))):=sB2 c t (put2 d e (gB2 c t) v)
def put4(b c d e:I16)(t:N16 (N16 (N16 (N16 (Option Blk)))))(v:Option Blk):N16 (N16 (N16 (N16 (Option Blk)))):=sB3 b t (put3 c d e (gB3 b t) v)
def put5(a b c d e:I16)(t:T5 (Option Blk))(v:Option Blk):T5 (Option Blk):=sB4 a t (put4 b c d e (gB4 a t) v)
def set5(n:Nat)(v:Option Blk)(t:T5 (Option Blk)):T5 (Option Blk):=
 put5 (i16 (Nat.shiftRight n 16)) (i16 (Nat.land (Nat.shiftRight n 12) 15)) (i16 (Nat.land (Nat.shiftRight n 8) 15)) (i16 (Nat.land (Nat.shiftRight n 4) 15)) (i16 (Nat.land n 15)) t v
theorem sh12(n:Nat):Nat.shiftRight n 12=n / 4096:=Nat.shiftRight_eq_div_pow n 12
theorem nib3(n:Nat):Nat.shiftRight (Nat.land (Nat.shiftRight n 8) 255) 4=Nat.land (Nat.shiftRight n 12) 15:=by rw [qb,shr4,shr8,xq,sh12];omega
theorem nib2(n:Nat):Nat.land (Nat.land (Nat.shiftRight n 8) 255) 15=Nat.land (Nat.shiftRight n 8) 15:=(nib0 _).symm
theorem Jen(n:Nat)(t:T5 (Option Blk)):get5 n t=Jd5 n t:=by
 unfold get5 Jd5 get2;rw [Jq6,Jq3,Jq2,Jqj,Jrn,nib3,nib2,← nib,← nib0]
theorem Jtl(n:Nat)(v:Option Blk)(t:T5 (Option Blk)):set5 n v t=Jpg n v t:=by
 unfold set5 Jpg put5 put4 put3 put2 get2 set2;simp only [Jzo,Jwa,Jxz,Jzy,Jz0,Jq3,Jq2,Jqj,Jrn,Jq6];rw [nib3,nib2,← nib,← nib0]
theorem Zo(n m:Nat)(v:Option Blk)(t:T5 (Option Blk))(hn:n < big5)(hm:m < big5):get5 n (set5 m v t)=if n=m then v else get5 n t:=by
 rw [Jen,Jtl,Jen];exact Jeq n m v t hn hm
theorem Jk5(n:Nat)(v:Option Blk):get5 n (Jny v)=v:=by rw [Jen];exact Jhy n v
inductive Res | ok (v:AV) (h:Hp) | no (n:Nat) | pn (v:AV) (h:Hp)
inductive Out | nx (f:Fr) (h:Hp) | ex (i:Nat) (f:Fr) (h:Hp) | rt (f:Fr) (h:Hp) | no (n:Nat) | pn (v:AV) (f:Fr) (h:Hp)
def fz{α:Type}(n:Nat)(k:Nat→α):α:=Nat.rec (k 0) (fun m _=>k (Nat.succ m)) n
theorem Xr{α:Type}(n:Nat)(k:Nat→α):fz n k=k n:=by cases n <;> rfl
def fI{α:Type}(z:Int)(k:Int→α):α:=Int.rec (fun n=>fz n fun n=>k (Int.ofNat n)) (fun n=>fz n fun n=>k (Int.negSucc n)) z
theorem fI_eq{α:Type}(z:Int)(k:Int→α):fI z k=k z:=by cases z <;> simp [fI,Xr]
def okI(k:IntKind)(z:Int)(h:Hp):Res:=fI z fun z=> .ok (.i k z) h
theorem Jxn(k:IntKind)(z:Int)(h:Hp):okI k z h= .ok (.i k z) h:=fI_eq _ _
def okB(t:Bool)(h:Hp):Res:=Bool.rec (.ok (.b false) h) (.ok (.b true) h) t
theorem Jv9(t:Bool)(h:Hp):okB t h= .ok (.b t) h:=by cases t <;> rfl
def nth{α:Type}(l:List α):Nat→Option α:=List.rec (fun _=>none) (fun x _ ih n=>Nat.rec (some x) (fun m _=>ih m) n) l
theorem V1{α:Type}(l:List α)(n:Nat):nth l n=l[n]? :=by
 induction l generalizing n with
 | nil=>rfl
 | cons x l ih=>cases n with
  | zero=>rfl
  | succ n=>exact ih n
def len{α:Type}(l:List α):Nat:=List.rec 0 (fun _ _ ih=>Nat.succ ih) l
theorem Qe{α:Type}(l:List α):len l=l.length:=by
 induction l with
 | nil=>rfl
 | cons x l ih=>exact congrArg Nat.succ ih
def tk{α:Type}(l:List α):Nat→List α:=List.rec (fun _=>[]) (fun x _ ih n=>Nat.rec [] (fun m _=>x::ih m) n) l
theorem Js8{α:Type}(l:List α)(n:Nat):tk l n=l.take n:=by
 induction l generalizing n with
 | nil=>cases n <;> rfl
 | cons x l ih=>cases n with
  | zero=>rfl
  | succ n=>exact congrArg (x:: ·) (ih n)
def dr{α:Type}(l:List α):Nat→List α:=List.rec (fun _=>[]) (fun x t ih n=>Nat.rec (x::t) (fun m _=>ih m) n) l
theorem vg{α:Type}(l:List α)(n:Nat):dr l n=l.drop n:=by
 induction l generalizing n with
 | nil=>cases n <;> rfl
 | cons x l ih=>cases n with
  | zero=>rfl
  | succ n=>exact ih n
def putK{α:Type}(cs:List α):Nat→List α→(List α→Res)→Res:=
 List.rec (fun off vs k=>List.rec (Nat.rec (k []) (fun _ _=> .no 21) off) (fun _ _ _=> .no 20) vs)
  (fun c t ih off vs k=>Nat.rec (List.rec (k (c::t)) (fun v vs' _=>ih 0 vs' fun t'=>k (v::t')) vs) (fun m _=>ih m vs fun t'=>k (c::t')) off) cs
theorem Jk1{α:Type}(cs:List α)(off:Nat)(vs:List α)(k:List α→Res):(putK cs off vs k=k (cs.take off++vs++cs.drop (off+vs.length))∧off+vs.length≤cs.length)∨∃ n,putK cs off vs k= .no n:=by
 induction cs generalizing off vs k with
 | nil=>
  cases vs with
  | nil=>cases off with
   | zero=>exact .inl ⟨rfl,Nat.le_refl _⟩
   | succ n=>exact .inr ⟨_,rfl⟩
  | cons v vs=>exact .inr ⟨_,rfl⟩
 | cons c t ih=>
  cases off with
  | zero=>
   cases vs with
   | nil=>exact .inl ⟨rfl,Nat.zero_le _⟩
   | cons v vs=>
    rcases ih 0 vs (fun t'=>k (v::t')) with ⟨h,hl⟩ | ⟨n,h⟩
    ·refine .inl ⟨?_,by simp at hl ⊢;exact hl⟩
     have:putK (c::t) 0 (v::vs) k=putK t 0 vs fun t'=>k (v::t'):=rfl
     rw [this,h];simp
    ·exact .inr ⟨n,h⟩
  | succ m=>
   rcases ih m vs (fun t'=>k (c::t')) with ⟨h,hl⟩ | ⟨n,h⟩
   ·refine .inl ⟨?_,by simp at hl ⊢;omega⟩
    have:putK (c::t) (m+1) vs k=putK t m vs fun t'=>k (c::t'):=rfl
    rw [this,h];have e:m+1+vs.length=(m+vs.length)+1:=by omega
    rw [e];simp
   ·exact .inr ⟨n,h⟩
def appK{α:Type}(l:List α):List α→(List α→Res)→Res:=List.rec (fun m k=>k m) (fun c _ ih m k=>ih m fun t=>k (c::t)) l
theorem Vs{α:Type}(l m:List α)(k:List α→Res):appK l m k=k (l++m):=by
 induction l generalizing k with
 | nil=>rfl
 | cons c t ih=>exact(ih fun t'=>k (c::t')).trans rfl
def tkK{α:Type}(l:List α):Nat→(List α→Res)→Res:=List.rec (fun n k=>Nat.rec (k []) (fun _ _=> .no 22) n) (fun c _ ih n k=>Nat.rec (k []) (fun m _=>ih m fun t=>k (c::t)) n) l
theorem Jcn{α:Type}(l:List α)(n:Nat)(k:List α→Res):(tkK l n k=k (l.take n)∧n≤l.length)∨∃ e,tkK l n k= .no e:=by
 induction l generalizing n k with
 | nil=>cases n with
  | zero=>exact .inl ⟨rfl,Nat.le_refl _⟩
  | succ n=>exact .inr ⟨_,rfl⟩
 | cons c t ih=>cases n with
  | zero=>exact .inl ⟨rfl,Nat.zero_le _⟩
  | succ n=>
   rcases ih n (fun t'=>k (c::t')) with ⟨h,hl⟩ | ⟨e,h⟩
   ·exact .inl ⟨h,by simp;exact hl⟩
   ·exact .inr ⟨e,h⟩
def repl{α:Type}(n:Nat)(l:List α):List α:=(List.replicate n l).flatten
theorem Jnx{n h:Nat}(hn:n < h):Nat.blt n h=true:=Nat.ble_eq_true_of_le hn
theorem Yc{n h:Nat}(e:Nat.blt n h=true):n < h:=Nat.le_of_ble_eq_true e
theorem Jpa{n h:Nat}(hn:¬ n < h):Nat.blt n h=false:=by
 cases e:Nat.blt n h with
 | false=>rfl
 | true=>exact absurd (Yc e) hn
theorem Jlu(n h:Nat):Nat.blt n h=decide (n < h):=by
 by_cases hn:n < h
 ·rw [Jnx hn,decide_eq_true hn]
 ·rw [Jpa hn,decide_eq_false hn]
theorem ze(n h:Nat):Nat.beq n h=decide (n=h):=by
 by_cases hn:n=h
 ·rw [decide_eq_true hn];subst hn;exact Nat.beq_refl n
 ·rw [decide_eq_false hn]
  cases e:Nat.beq n h with
  | false=>rfl
  | true=>exact absurd (Nat.eq_of_beq_eq_true e) hn
def ikN:IntKind→Nat | .i8=>0 | .i16=>1 | .i32=>2 | .i64=>3 | .u8=>4 | .u16=>5 | .u32=>6 | .u64=>7
def ikEq(a b:IntKind):Bool:=Nat.beq (ikN a) (ikN b)
theorem Ks{a b:IntKind}(h:ikEq a b=true):a=b:=by cases a <;> cases b <;> first | rfl | cases h
def Jbv(m:Nat)(z:Int):Int:=Int.casesOn z (fun n=>Int.ofNat (Nat.mod n m)) (fun n=>Int.ofNat (Nat.sub (Nat.sub m 1) (Nat.mod n m)))
def sgn(m h n:Nat):Int:=bif Nat.blt n h then Int.ofNat n else Int.negSucc (Nat.sub (Nat.sub m 1) n)
def Jbk(m h:Nat)(z:Int):Int:=Int.casesOn z (fun n=>bif Nat.blt n h then Int.ofNat n else sgn m h (Nat.mod n m)) (fun n=>bif Nat.blt n h then Int.negSucc n else sgn m h (Nat.sub (Nat.sub m 1) (Nat.mod n m)))
def jf(k:IntKind):Int→Int:=
 IntKind.casesOn (motive:=fun _=>Int→Int) k (Jbk 256 128) (Jbk 65536 32768) (Jbk 4294967296 2147483648) (Jbk 18446744073709551616 9223372036854775808)
  (Jbv 256) (Jbv 65536) (Jbv 4294967296) (Jbv 18446744073709551616)
theorem Jgt(m:Nat)(hm:0 < m)(z:Int):Jbv m z=z % (m:Int):=by
 cases z with
 | ofNat n=>rfl
 | negSucc n=>
  have h:=Nat.mod_lt n hm;have hq:=Nat.div_add_mod n m
  show((m - 1 - n % m:Nat):Int)=_
  have e:Int.negSucc n=((m - 1 - n % m:Nat):Int)+(m:Int) * (-((n / m:Nat):Int) - 1):=by
   rw [Int.negSucc_eq,Int.mul_sub,Int.mul_neg,Int.mul_one]
   have:((m * (n / m):Nat):Int)=(m:Int) * ((n / m:Nat):Int):=by rw [Int.natCast_mul]
   rw [← this];omega
  rw [e,Int.add_mul_emod_self_left,Int.emod_eq_of_lt (by omega) (by omega)]
theorem Jqk(m h n:Nat)(hm:n < m)(hh:h≤m):sgn m h n=if(n:Int)≥(h:Int) then(n:Int) - (m:Int) else(n:Int):=by
 unfold sgn
 by_cases hn:n < h
 ·rw [Jnx hn];rw [if_neg (by omega)];rfl
 ·rw [Jpa hn];rw [if_pos (by omega)]
  show Int.negSucc (m - 1 - n)=_
  rw [Int.negSucc_eq];omega
theorem Jn9(m h:Nat)(hm:0 < m)(hh:h+h=m)(z:Int):Jbk m h z=if z % (m:Int)≥(h:Int) then z % (m:Int) - (m:Int) else z % (m:Int):=by
 cases z with
 | ofNat n=>
  show(bif Nat.blt n h then Int.ofNat n else sgn m h (n % m))=_
  have e:(Int.ofNat n) % (m:Int)=((n % m:Nat):Int):=rfl;rw [e]
  by_cases hn:n < h
  ·rw [Jnx hn];rw [Nat.mod_eq_of_lt (by omega),if_neg (by omega)];rfl
  ·rw [Jpa hn];exact Jqk m h _ (Nat.mod_lt _ hm) (by omega)
 | negSucc n=>
  show(bif Nat.blt n h then Int.negSucc n else sgn m h (m - 1 - n % m))=_
  have e:=Jgt m hm (Int.negSucc n);have e2:Jbv m (Int.negSucc n)=((m - 1 - n % m:Nat):Int):=rfl;rw [e2] at e;rw [← e];have hlt:=Nat.mod_lt n hm
  by_cases hn:n < h
  ·rw [Jnx hn];rw [Nat.mod_eq_of_lt (by omega),if_pos (by omega)]
   show Int.negSucc n=_
   rw [Int.negSucc_eq];omega
  ·rw [Jpa hn];exact Jqk m h _ (by omega) (by omega)
theorem K8(k:IntKind)(z:Int):jf k z=k.wrap z:=by
 cases k
 all_goals first
  | exact(Jn9 _ _ (by decide) (by decide) z).trans (by unfold IntKind.wrap IntKind.signed IntKind.bits;simp)
  | exact(Jgt _ (by decide) z).trans (by unfold IntKind.wrap IntKind.signed IntKind.bits;simp)
def ilt(a b:Int):Bool:=Int.casesOn a (fun m=>Int.casesOn b (fun n=>Nat.blt m n) (fun _=>false)) (fun m=>Int.casesOn b (fun _=>true) (fun n=>Nat.blt n m))
theorem xl(a b:Int):ilt a b=decide (a < b):=by
 cases a <;> cases b
 ·rename_i m n;show Nat.blt m n=_;rw [Jlu];simp only [Int.ofNat_eq_natCast,Int.ofNat_lt]
 ·rename_i m n;show false=_;symm;rw [decide_eq_false_iff_not,Int.negSucc_eq];simp only [Int.ofNat_eq_natCast];omega
 ·rename_i m n;show true=_;symm;rw [decide_eq_true_iff,Int.negSucc_eq];simp only [Int.ofNat_eq_natCast];omega
 ·rename_i m n;show Nat.blt n m=_;rw [Jlu,Int.negSucc_eq,Int.negSucc_eq];apply decide_eq_decide.2;omega
def ieq(a b:Int):Bool:=Int.casesOn a (fun m=>Int.casesOn b (fun n=>Nat.beq m n) (fun _=>false)) (fun m=>Int.casesOn b (fun _=>false) (fun n=>Nat.beq m n))
theorem Jgq(a b:Int):ieq a b=decide (a=b):=by
 cases a <;> cases b
 ·rename_i m n;show Nat.beq m n=_;rw [ze];apply decide_eq_decide.2;simp only [Int.ofNat_eq_natCast,Int.negSucc.injEq];omega
 ·rename_i m n;show false=_;symm;rw [decide_eq_false_iff_not];simp
 ·rename_i m n;show false=_;symm;rw [decide_eq_false_iff_not];simp
 ·rename_i m n;show Nat.beq m n=_;rw [ze];apply decide_eq_decide.2;simp only [Int.ofNat_eq_natCast,Int.negSucc.injEq]
end Go.Ev
