/- Part 26 of the texts for the claim. -/
import Derived.Test.YtnaegfdjkncaoaaGreatDoorFt25
set_option linter.unusedVariables false
set_option linter.unusedSimpArgs false
set_option maxRecDepth 100000
set_option maxHeartbeats 4000000
noncomputable section
namespace Go.Proofs.YtnaegfdjkncaoaaGreatDoor
open Go Go.Proofs
theorem OP:Rows.congruenceFiltrationsRow.wf (OpenSpec.ofChange Rows.congruenceFiltrationsSpec)=true:=by kernel_rfl
theorem QB:(Tryz.f3.params.all (Tryz.prog.readableRec ·)&&namedTie Tryz.prog Rows.congruenceFiltrationsRow.named Rows.congruenceFiltrationsSpec.vars&&(Rows.congruenceFiltrationsRow.stops==[])&&(Tryz.prog.stops==[])&&(Rows.congruenceFiltrationsRow.knobs==[])&&(Tryz.prog.stopKnobs==[]))=true:=by kernel_rfl
theorem Oh:((Rows.congruenceFiltrationsRow.maps==(Tryz.f3.params.toList++Rows.congruenceFiltrationsSpec.plain.varTypes Tryz.prog).any (Tryz.prog.mapsRec ·))&&(Rows.congruenceFiltrationsRow.ifaces==(Tryz.f3.params.toList++Rows.congruenceFiltrationsSpec.plain.varTypes Tryz.prog).any (Tryz.prog.ifacesRec ·))&&(Rows.congruenceFiltrationsRow.mapsOut==Tryz.prog.mapsAmong Tryz.f3.resultTypes.toList)&&(Rows.congruenceFiltrationsRow.loops==(Tryz.f3.params.toList++Rows.congruenceFiltrationsSpec.plain.varTypes Tryz.prog).any (Tryz.prog.loopsFrom ·))&&(Rows.congruenceFiltrationsRow.wideKeys==(Tryz.f3.params.toList++Rows.congruenceFiltrationsSpec.plain.varTypes Tryz.prog++Tryz.f3.resultTypes.toList).any (Tryz.prog.wideKeysFrom ·)))=true:=by kernel_rfl
theorem Lu:(Rows.congruenceFiltrationsSpec.vars.all (Tryz.prog.varReadable ·)&&Tryz.f3.resultTypes.all (fun t=>Tryz.prog.readableRec t&&decide (t<Tryz.prog.types.size))&&(Rows.congruenceFiltrationsRow.ifacesOut==Tryz.f3.resultTypes.toList.any (Tryz.prog.ifacesRec ·))&&(Rows.congruenceFiltrationsRow.loopsOut==Tryz.f3.resultTypes.toList.any (Tryz.prog.loopsFrom ·)))=true:=by kernel_rfl
theorem Md:(Rows.congruenceFiltrationsRow.lifted==Tryz.prog.liftsFinal&&(Tryz.prog.make==some Rows.congruenceFiltrationsRow.make))=true:=by kernel_rfl
theorem HQ:((Rows.congruenceFiltrationsRow.kinds==(if Rows.congruenceFiltrationsRow.domain.isEmpty then [] else Tryz.f3.params.toList.map fun t=>match Tryz.prog.underlying t with|some (.int k)=>some k|_=>none))&&(Rows.congruenceFiltrationsRow.pinned==Rows.congruenceFiltrationsRow.pinnedBy))=true:=by kernel_rfl
theorem Mh:((Rows.congruenceFiltrationsRow.veiled==(Tryz.f3.params.toList++Rows.congruenceFiltrationsSpec.plain.varTypes Tryz.prog++Tryz.f3.resultTypes.toList).any (Tryz.prog.veiledRec ·))&&Rows.congruenceFiltrationsRow.veiledFits Tryz.prog Tryz.f3.params.toList (Tryz.f3.params.toList++Rows.congruenceFiltrationsSpec.plain.varTypes Tryz.prog++Tryz.f3.resultTypes.toList))=true:=by kernel_rfl
theorem KW:joinedFacts Tryz.prog 3 Tryz.f3 Rows.congruenceFiltrationsSpec Rows.congruenceFiltrationsRow=true:=
 Go.Joint.HO OP js mM QB ND unf3 rec3 HL Oh Lu Mo (by rw[Hj];rfl) Gz Md HQ Mh
end Go.Proofs.YtnaegfdjkncaoaaGreatDoor
namespace Go.Proofs.YtnaegfdjkncaoaaGreatDoor
open Go Go.Proofs Go.Wf Go.Ev Go.RowKit Go.ChangeShapes Go.WideShapes Go.ChangeAt
theorem Gk:Tryz.prog.inits.idxOf? 3=none:=by kernel_rfl
def qx:Array Value:= #[.slice none 0 0,.agg #[.int .i64 0,.int .i64 0],.int .i64 0]
theorem wOk3(os:Os):Input.okWideB Tryz.prog ((World.laidAll Tryz.prog os za).forCall (fun _ _=>0) ⟨#[],qx,[]⟩) 3 ⟨#[],qx,[]⟩=true:=by kernel_rfl
theorem PK(os:Os)(H:Type)(enc:TypeId×Value→H):Rows.congruenceFiltrationsSpec.preB enc Tryz.prog Tryz.f3 [] false ((World.laidAll Tryz.prog os za).forCall (fun _ _=>0) ⟨#[],qx,[]⟩).memory qx 8=true:=by kernel_rfl
theorem D6(os:Os)(H:Type)(enc:TypeId×Value→H):Rows.congruenceFiltrationsSpec.sizedB enc Tryz.prog Tryz.f3 false ((World.laidAll Tryz.prog os za).forCall (fun _ _=>0) ⟨#[],qx,[]⟩).memory qx 8=true:=by kernel_rfl
theorem OG:Tryz.prog.readableRec 3=true:=by kernel_rfl
theorem lt3:3<Tryz.prog.types.size:=of_decide_eq_true (by kernel_rfl)
theorem Na:Tryz.prog.readableRec 22=true:=by kernel_rfl
theorem lt22:22<Tryz.prog.types.size:=of_decide_eq_true (by kernel_rfl)
theorem Lo:Tryz.prog.readableRec 23=true:=by kernel_rfl
theorem lt23:23<Tryz.prog.types.size:=of_decide_eq_true (by kernel_rfl)
theorem HB:Tryz.prog.cellsOf 4=1:=by kernel_rfl
theorem FO:Tryz.prog.cellsOf 23=2:=by kernel_rfl
theorem EJ:Tryz.prog.cellsOf 38=1:=by kernel_rfl
theorem tZ:Tryz.prog.cellsOf 40=2:=by kernel_rfl
theorem EC:Tryz.prog.cellsOf 96=1:=by kernel_rfl
theorem JU:Tryz.prog.underlying 22=some (.slice 40):=by kernel_rfl
theorem LS:Tryz.prog.underlying 23=some (.array 2 3):=by kernel_rfl
theorem Ns:Tryz.prog.underlying 38=some (.slice 96):=by kernel_rfl
theorem QX:Tryz.prog.underlying 96=some (.int .u32):=by kernel_rfl
theorem FW{α:Type}{l:List α}(h:l.length=2):∃a b,l=[a,b]:=by
 match l,h with
 |[a,b],_=>exact⟨a,b,rfl⟩
theorem uT{α:Type}{p:Nat→α→Prop}:∀(k:Nat) (h:∀i,i<k→∃x,p i x),∃l:List α,l.length=k∧∀i x,l[i]? =some x→p i x
 |0,_=>⟨[],rfl,fun i x h=>by simp at h⟩
 |k+1,h=>by
  obtain⟨l,hl,hp⟩:=uT k fun i hi=>h i (by omega);obtain⟨x,hx⟩:=h k (by omega);refine⟨l++[x],by simp[hl],fun i y hy=>?_⟩
  rcases U2 i l.length with a|a
  ·rw[WT a] at hy;exact hp i y hy
  ·rw[WU a] at hy;have b:i-l.length=0:=by
    have:=(WY.1 hy).1
    simp at this;omega
   rw[b] at hy;simp at hy;subst hy;rw[show i=k by omega];exact hx
abbrev NX:Nat→Prop:=fun _=>False
section
variable {H:Type} {enc:TypeId×Value→H} {w:World} {base:Nat} {sp:Nat→Bool} {held:Bool}
theorem Ck {α:Type} {T:Ty α} {P:Program} {t e:TypeId} (ht:P.underlying t=some (.slice e)) (hc:P.cellsOf e=T.sz) {fuel:Nat} {cs:List Value} {y:DataW H×List MemPlace}
  (h:DataW.trod enc P w base sp held fuel t cs=some y) (hel:∀n,fuel=n+1→∀cs y,DataW.trod enc P w base sp held n e cs=some y→∃x,T.rd NX w cs x):
  ∃v l,cs=[v]∧RS T NX w v l:=by
 rcases DataW.trod_slice ht h with ⟨rfl,_⟩|⟨a,len,cap,elems,rest,n,hn,rfl,_,hb,hl,hm,hlen,hi,_,_⟩
 ·exact⟨_,[],rfl,RS.nil⟩
 ·obtain⟨l,hll,hp⟩:=uT (p:=fun i x=>∃cs',T.rd NX w cs' x∧∀j,j<T.sz→w.cell? ((a.add (i*T.sz)).add j)=cs'[j]?) len (by
   intro i hil;have f:=hi i hil;rw[UL (by omega),hc] at f;obtain⟨cs',g,d⟩:=Jad.1 f;obtain⟨_,_,k⟩:=World.cells?_some g;obtain⟨x,hx⟩:=hel n hn _ _ d;exact⟨x,cs',hx,k⟩)
  refine⟨_,l,rfl,some a,cap,by rw[hll],by omega,hm,?_⟩;by_cases m:l=[]
  ·exact .inl m
  ·have hpos:0<l.length:=W5.2 m;have hsp:a.spot=none:=by
    obtain⟨cs',f,g⟩:=hp 0 l[0] (UL hpos);have d:=g 0 T.pos;rw[UL (by rw[T.len f];exact T.pos)] at d;have k:=World.cell?_spot d;simpa[Addr.add] using k
   obtain⟨b,o,s⟩:=a;have hsp:s=none:=hsp;subst hsp;refine .inr ⟨b,o,rfl,id,fun i x hx=>?_⟩
   obtain⟨cs',f,g⟩:=hp i x hx;refine⟨cs',f,fun j u hu=>?_⟩
   have hj:j<T.sz:=by
    have:=(WY.1 hu).1
    rwa [T.len f] at this
   have d:=g j hj;rw[hu] at d;rw[Addr.add_lit,Addr.add_lit] at d;exact d
theorem ux{fuel:Nat}{cs:List Value}{y:DataW H×List MemPlace}(h:DataW.trod enc Tryz.prog w base sp held fuel 38 cs=some y):∃v l,cs=[v]∧RS Jd NX w v l:=by
 refine Ck Ns EC h fun n _ cs y h=>?_
 obtain⟨z,rfl,_,hw⟩:=DataW.trod_int QX h;have hw:0≤z∧z≤4294967295:=by simpa[Lit.wf,IntKind.min,IntKind.max,IntKind.signed,IntKind.bits] using hw
 exact⟨z.toNat,by rw[show((z.toNat:Nat):Int)=z by omega],by omega⟩
theorem CX{l:List Value}(h:l.length=2):∃a b,l=[a,b]:=by
 match l,h with
 |[a,b],_=>exact⟨a,b,rfl⟩
theorem E4{fuel:Nat}{cs:List Value}{y:DataW H×List MemPlace}(h:DataW.trod enc Tryz.prog w base sp held fuel 40 cs=some y):∃z,Jo.rd NX w cs z:=by
 obtain⟨xs,n,rfl,_,hlen,hxl,hf⟩:=DataW.trod_struct Tryz.underlying40 h;rw[tZ] at hlen;obtain⟨a,b,rfl⟩:=CX hlen;have d:DataW.trod enc Tryz.prog w base sp held n 4 ((List.drop 0 [a,b]).take (Tryz.prog.cellsOf 4))=xs[0]? :=hf 0 _ rfl;have e:DataW.trod enc Tryz.prog w base sp held n 38 ((List.drop 1 [a,b]).take (Tryz.prog.cellsOf 38))=xs[1]? :=hf 1 _ rfl;rw[UL (by rw[hxl];decide)] at d e;rw[HB] at d;rw[EJ] at e;obtain⟨b',f,_⟩:=DataW.trod_bool und4 d;obtain⟨v,l,g,i⟩:=ux e;cases f;cases g;exact⟨⟨b',l⟩,_,rfl,i⟩
theorem zG{r:Reach}{f:Nat}{v:Value}{d:DataW H}{ps:List MemPlace}(hv:Value.okWide Tryz.prog w r f 22 v)(hd:DataW.Trod enc Tryz.prog w base sp held 22 v d ps):∃l,RS Jo NX w v l:=by
 obtain⟨g,a,b,rfl⟩:=okWide_slice JU hv;obtain⟨fuel,hf⟩:=hd;have hf:DataW.trod enc Tryz.prog w base sp held fuel 22 [Value.slice g a b]=some (d,ps):=hf;obtain⟨v',l,e,h⟩:=Ck (T:=Jo) JU tZ hf fun n _ cs y h=>E4 h;cases e;exact⟨l,h⟩
theorem wW{r:Reach}{h:Nat}{v:Value}{d:DataW H}{ps:List MemPlace}(hv:Value.okWide Tryz.prog w r h 23 v)(hd:DataW.Trod enc Tryz.prog w base sp held 23 v d ps):
  ∃k0 k1,v= .agg #[.int .i64 k0,.int .i64 k1]∧ps=[]∧(-9223372036854775808≤k0∧k0≤9223372036854775807)∧(-9223372036854775808≤k1∧k1≤9223372036854775807):=by
 simp only[Value.okWide,LS] at hv;obtain⟨cs,rfl,hs,_⟩:=hv;rw[FO] at hs;obtain⟨fuel,hf⟩:=hd;have hc:(Value.agg cs).cells=cs:=by rfl
 rw[hc] at hf;obtain⟨xs,n,_,e,hlen,hxl,hg⟩:=DataW.trod_array LS hf;obtain⟨a,b,hab⟩:=CX (l:=cs.toList) (by simpa using hs);rw[hab] at hg;have f:DataW.trod enc Tryz.prog w base sp held n 3 ((List.drop (0*Tryz.prog.cellsOf 3) [a,b]).take (Tryz.prog.cellsOf 3))=xs[0]? :=hg 0 (by decide);have g:DataW.trod enc Tryz.prog w base sp held n 3 ((List.drop (1*Tryz.prog.cellsOf 3) [a,b]).take (Tryz.prog.cellsOf 3))=xs[1]? :=hg 1 (by decide);obtain⟨s,u,rfl⟩:=FW hxl;rw[IV] at f g;obtain⟨k0,i,j,k⟩:=DataW.trod_int und3 f;obtain⟨k1,m,o,p⟩:=DataW.trod_int und3 g;cases i;cases m;subst j o;refine⟨k0,k1,?_,?_,by simpa[Lit.wf,IntKind.min,IntKind.max,IntKind.signed,IntKind.bits] using k,by simpa[Lit.wf,IntKind.min,IntKind.max,IntKind.signed,IntKind.bits] using p⟩
 ·obtain⟨l⟩:=cs;have hab:l=[.int .i64 k0,.int .i64 k1]:=hab;subst hab
  rfl
 ·cases e
  rfl
end
set_option linter.unusedVariables false in
theorem EA(os:Os)(started:os.Started)(H:Type)(enc:TypeId×Value→H):
  ReturnsInHanded {} Tryz.checked os 3 .any (fun w args=>(Rows.congruenceFiltrationsSpec.pre enc Tryz.prog Tryz.f3 [] false w args∧laidMetH Tryz.prog za w)∧sizedMet enc Tryz.prog Tryz.f3 (OpenSpec.ofChange Rows.congruenceFiltrationsSpec) false w args)
   (Rows.congruenceFiltrationsSpec.post enc Tryz.prog Tryz.f3 false true false false):=by
 refine returnsInHanded_of_change_and (C:=Tryz.checked) (X:=fun w _=>laidMetH Tryz.prog za w) (fun _ _ _ hh h=>h.of_heap hh) QV started Gk Tryz.func3
  (ChangeSpec.witness_shaped (enc:=enc) (C:=Tryz.checked) (os:=os) (X:=fun w _=>laidMetH Tryz.prog za w) false (World.laidAll Tryz.prog os za) qx 8 (World.laidAll_os _ _ _)
   (World.shaped_of_ZipB (wZip os _) (QJ os _)) (wOk3 os) (PK os H enc) (D6 os H enc)
   (by rw[MakeChecks.laidMetH_plain _ _ _ Ic];exact laidMet_laidAll _ (Ok os) (Fj os))) ?_
 intro W base args ds gs before a hW _ _ hL _;have hval:∀(j:Nat) t v,Tryz.f3.params[j]? =some t→args[j]? =some v→Value.okWide Tryz.prog W .any base t v:=a;have hW':=hW;obtain⟨p,q,b,hV,rfl,_,_⟩:=hW;have hA:DataW.TrodAll enc Tryz.prog W 0 (fun _=>true) true Tryz.f3.params.toList args.toList ds p:=b;rw[Tryz.params3] at hA hval;obtain⟨k,l,n,s,u,y,d,A,B,rfl,rfl,rfl,f,g,i⟩:=trodAll_three hA;obtain⟨rfl,rfl⟩:=trodVars_none hV;obtain⟨m,hm⟩:=zG (hval 0 22 k rfl rfl) f;obtain⟨k0,k1,rfl,rfl,o,r⟩:=wW (hval 1 23 l rfl rfl) g;obtain⟨z,rfl,rfl,rfl,wz⟩:=open_int und3 (hval 2 3 n rfl rfl) i;simp only[U8] at hW';have hlt:∀x∈d,x.block<W.heap.size:=fun x hx=>by simpa using hW'.lt x hx
 refine(Hi (X:=fun _=>False) (fun _ h=>h.elim) hm (hT:=⟨I4 hL,id⟩) o r).mono fun e W' hr=>?_
 cases e with
 |returned v=>
  obtain⟨rfl,hb⟩:=hr;exact⟨_,rfl,_,_,_,[],d++([]++[]),[],hW',trodAll_mk1 (shut_bool und4 _),
   trodAll_mk3 (Below.trod js Na lt22 f hb hlt) (Below.trod js Lo lt23 g hb (fun _ h=>by cases h)) (Below.trod js OG lt3 i hb (fun _ h=>by cases h)),rfl,hb.frame _,fun h=>by cases h⟩
 |panicked ch=>exact hr.elim
 |outgrown=>exact hr.elim
theorem rZ:Tryz.prog.funcNamed "halfplane/halfplanelaw57.CongruenceFiltrations" =some 3:=by kernel_rfl
theorem PD:Tryz.f3.isInstance Tryz.prog Rows.congruenceFiltrationsRow.origin Rows.congruenceFiltrationsRow.targs:=of_decide_eq_true (by kernel_rfl)
theorem FP:Rows.CongruenceFiltrationsSaid:=
 OpenClaim.holds_of_wide 3 Tryz.f3 rfl rfl rfl rfl rfl rfl rfl ⟨rfl,rfl,rfl,rfl,rfl⟩ rfl rfl rfl rfl rfl rZ Tryz.func3 KW
  PD (by unfold Func.isWrapper;first|(rw[if_pos (by decide +kernel)];kernel_rfl)|(rw[if_neg (by decide +kernel)];exact⟨rfl,rfl⟩))
  (fun os started H enc _=>EA os started H enc)
end Go.Proofs.YtnaegfdjkncaoaaGreatDoor
