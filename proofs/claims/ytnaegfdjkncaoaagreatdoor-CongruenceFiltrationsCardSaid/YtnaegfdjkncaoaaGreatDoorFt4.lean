/- Part 4 of the texts for the claim. -/
import Derived.Test.YtnaegfdjkncaoaaGreatDoorFt3
set_option linter.unusedVariables false
set_option linter.unusedSimpArgs false
set_option maxRecDepth 100000
set_option maxHeartbeats 4000000
noncomputable section
namespace Go.Ev
open Go Go.Wf
structure Ent where
 g:Nat
 base:Nat
 k:Nat
inductive Lab|out|ro|own (id:Nat)
abbrev Phi:=Nat→Option Ent
abbrev Tau:=Nat→Lab
def xG(cap:Option Nat)(c:Nat):Prop:=match cap with|none=>True|some k=>c=k
mutual
def Rv(Φ:Phi):AV→Value→Prop
 |.u,_=>True
 |.b x,v=>v= .bool x
 |.i k n,v=>v= .int k n
 |.s l,v=>(∀n∈l,n<256)∧v=str (l.map UInt8.ofNat)
 |.np,v=>v= .pointer none
 |.p id off,v=>∃e,Φ id=some e∧v= .pointer (some ⟨e.g,e.base+off,none⟩)
 |.ns,v=>v= .slice none 0 0
 |.sl id off n z cap,v=>∃e c,Φ id=some e∧v= .slice (some ⟨e.g,e.base+off,none⟩) n c∧n≤c∧c≤maxLen∧off+c*z≤e.k∧xG cap c
 |.z0,v=>∃a c,v= .slice a 0 c∧c≤maxLen
 |.ag l,v=>∃vs:List Value,v= .agg vs.toArray∧RvL Φ l vs
 |.tp l,v=>∃vs:List Value,v= .tuple vs.toArray∧RvL Φ l vs
 |.fn k cap,v=>∃vs:List Value,v= .func (.func k) #[] vs.toArray∧RvL Φ cap vs
 |.nf,v=>v= .nilFunc
 |.ifc t a,v=>∃x,v= .iface t x∧Rv Φ a x
 |.nif,v=>v= .nilIface
 |.mp id,v=>∃e,Φ id=some e∧v= .map (some e.g)
 |.nm,v=>v= .map none
 |.yv id,v=>∃e,Φ id=some e∧v= .func (.yield e.g) #[] #[]
 |.gp g off,v=>v= .pointer (some ⟨g,off,none⟩)
def RvL(Φ:Phi):List AV→List Value→Prop
 |[],vs=>vs=[]
 |a::l,vs=>∃v r,vs=v::r∧Rv Φ a v∧RvL Φ l r
end
def Sub(Φ Φ':Phi):Prop:=∀id e,Φ id=some e→Φ' id=some e
theorem Sub.refl(Φ:Phi):Sub Φ Φ:=fun _ _ h=>h
theorem Sub.trans{Φ Ψ Χ:Phi}(a:Sub Φ Ψ)(b:Sub Ψ Χ):Sub Φ Χ:=fun id e h=>b id e (a id e h)
mutual
theorem Rv.mono{Φ Φ':Phi}(s:Sub Φ Φ'):∀(a:AV) (v:Value),Rv Φ a v→Rv Φ' a v
 |.u,_,_=>by simp only[Rv]
 |.b _,_,h=>by simp only[Rv] at h ⊢;exact h
 |.i _ _,_,h=>by simp only[Rv] at h ⊢;exact h
 |.s _,_,h=>by simp only[Rv] at h ⊢;exact h
 |.np,_,h=>by simp only[Rv] at h ⊢;exact h
 |.p _ _,_,h=>by simp only[Rv] at h ⊢;obtain⟨e,d,f⟩:=h;exact⟨e,s _ _ d,f⟩
 |.ns,_,h=>by simp only[Rv] at h ⊢;exact h
 |.sl _ _ _ _ _,_,h=>by simp only[Rv] at h ⊢;obtain⟨e,c,d,f⟩:=h;exact⟨e,c,s _ _ d,f⟩
 |.z0,_,h=>by simp only[Rv] at h ⊢;exact h
 |.ag l,_,h=>by simp only[Rv] at h ⊢;obtain⟨vs,d,f⟩:=h;exact⟨vs,d,RvL.mono s l vs f⟩
 |.tp l,_,h=>by simp only[Rv] at h ⊢;obtain⟨vs,d,f⟩:=h;exact⟨vs,d,RvL.mono s l vs f⟩
 |.fn _ l,_,h=>by simp only[Rv] at h ⊢;obtain⟨vs,d,f⟩:=h;exact⟨vs,d,RvL.mono s l vs f⟩
 |.nf,_,h=>by simp only[Rv] at h ⊢;exact h
 |.ifc _ a,_,h=>by simp only[Rv] at h ⊢;obtain⟨x,d,f⟩:=h;exact⟨x,d,Rv.mono s a x f⟩
 |.nif,_,h=>by simp only[Rv] at h ⊢;exact h
 |.mp _,_,h=>by simp only[Rv] at h ⊢;obtain⟨e,d,f⟩:=h;exact⟨e,s _ _ d,f⟩
 |.nm,_,h=>by simp only[Rv] at h ⊢;exact h
 |.yv _,_,h=>by simp only[Rv] at h ⊢;obtain⟨e,d,f⟩:=h;exact⟨e,s _ _ d,f⟩
 |.gp _ _,_,h=>by simp only[Rv] at h ⊢;exact h
theorem RvL.mono{Φ Φ':Phi}(s:Sub Φ Φ'):∀(a:List AV) (v:List Value),RvL Φ a v→RvL Φ' a v
 |[],_,h=>by simp only[RvL] at h ⊢;exact h
 |a::l,_,h=>by simp only[RvL] at h ⊢;obtain⟨v,r,b,d,e⟩:=h;exact⟨v,r,b,Rv.mono s a v d,RvL.mono s l r e⟩
end
section
variable {Φ:Phi}
theorem RvL.len:∀ {l:List AV} {vs:List Value},RvL Φ l vs→vs.length=l.length:=by
 intro l
 induction l with
 |nil=>intro vs h;simp only[RvL] at h;subst h;rfl
 |cons a l ih=>intro vs h;simp only[RvL] at h;obtain⟨v,r,rfl,_,h⟩:=h;simp[ih h]
theorem RvL.at:∀ {l:List AV} {vs:List Value} {i:Nat} {a:AV},RvL Φ l vs→l[i]? =some a→∃v,vs[i]? =some v∧Rv Φ a v:=by
 intro l
 induction l with
 |nil=>intro vs i a _ hi;simp at hi
 |cons x l ih=>
  intro vs i a h hi;simp only[RvL] at h;obtain⟨v,r,rfl,b,d⟩:=h;cases i with
  |zero=>simp at hi;subst hi;exact⟨v,rfl,b⟩
  |succ i=>
   obtain⟨u,hu,hr⟩:=ih (i:=i) d (by simpa using hi);exact⟨u,by simpa using hu,hr⟩
theorem RvL.mk:∀ {l:List AV} {vs:List Value},vs.length=l.length→(∀(i:Nat) a v,l[i]? =some a→vs[i]? =some v→Rv Φ a v)→RvL Φ l vs:=by
 intro l
 induction l with
 |nil=>intro vs h _;simp only[RvL];exact UT h
 |cons x l ih=>
  intro vs h hh;cases vs with
  |nil=>simp at h
  |cons v r=>
   simp only[RvL];exact⟨v,r,rfl,hh 0 x v rfl rfl,ih (by simpa using h) fun i a u hi hu=>hh (i+1) a u (by simpa using hi) (by simpa using hu)⟩
theorem RvL.app{l m:List AV}{vs us:List Value}(h:RvL Φ l vs)(k:RvL Φ m us):RvL Φ (l++m) (vs++us):=by
 refine RvL.mk (by rw[Uv,Uv,h.len,k.len]) ?_;intro i a v hi hv;rw[WS] at hi hv;rw[h.len] at hv;split at hi<;>rename_i hlt
 ·rw[if_pos hlt] at hv;obtain⟨u,hu,hr⟩:=h.at hi;rw[hu] at hv;cases hv;exact hr
 ·rw[if_neg hlt] at hv;obtain⟨u,hu,hr⟩:=k.at hi;rw[hu] at hv;cases hv;exact hr
theorem RvL.take{l:List AV}{vs:List Value}(h:RvL Φ l vs)(n:Nat):RvL Φ (l.take n) (vs.take n):=by
 refine RvL.mk (by rw[UH,UH,h.len]) ?_;intro i a v hi hv;rw[W1] at hi hv;split at hi<;>rename_i hlt
 ·rw[if_pos hlt] at hv;obtain⟨u,hu,hr⟩:=h.at hi;rw[hu] at hv;cases hv;exact hr
 ·cases hi
theorem RvL.drop{l:List AV}{vs:List Value}(h:RvL Φ l vs)(n:Nat):RvL Φ (l.drop n) (vs.drop n):=by
 refine RvL.mk (by rw[UG,UG,h.len]) ?_;intro i a v hi hv;rw[WX] at hi hv;obtain⟨u,hu,hr⟩:=h.at hi;rw[hu] at hv;cases hv;exact hr
theorem Rv.scal{a:AV}{v:Value}(h:Rv Φ a v)(hs:scal a=true):v.oneCell'=true:=by
 cases a<;>simp only[Rv] at h<;>first
  |(simp only[Ev.scal] at hs;done)
  |(cases hs;done)
  |(subst h;rfl)
  |(obtain⟨_,rfl⟩:=h;rfl)
  |(obtain⟨_,_,rfl⟩:=h;rfl;done)
  |(obtain⟨_,rfl,_⟩:=h;rfl)
  |(obtain⟨_,_,rfl,_⟩:=h;rfl)
  |(obtain⟨_,_,_,rfl,_⟩:=h;rfl)
end
def CR(Φ:Phi)(C:Array Value)(base:Nat)(cs:List AV):Prop:=∀(i:Nat) a,cs[i]? =some a→∃v,C[base+i]? =some v∧Rv Φ a v
def fo:TypeId:=1000000000
structure BR (Φ:Phi) (τ:Tau) (w:World) (b:Blk) (e:Ent) (id:Nat) (C:Array Value) (T:TypeId):Prop where
 ent:Φ id=some e
 lab:τ e.g=if b.ro then .ro else .own id
 row:b.ob= .row
 fx:(T=b.ty∧C.size=e.base+e.k)∨(b.ro=true∧b.ex=false)
 obj:∃fr,w.heap[e.g]? =some (.cells C T fr)∧(b.ro=false→fr=(0,0))
 le:b.cs.length≤e.k
 exact_:b.ex=true→e.base=0∧b.cs.length=e.k
 cr:CR Φ C e.base b.cs
theorem BR.own_{Φ:Phi}{τ:Tau}{w:World}{b:Blk}{e:Ent}{id:Nat}{C:Array Value}{T:TypeId}(r:BR Φ τ w b e id C T)(h:b.ro=false):T=b.ty∧C.size=e.base+e.k:=by
 rcases r.fx with q|⟨q,_⟩
 ·exact q
 ·rw[h] at q;cases q
theorem BR.exk{Φ:Phi}{τ:Tau}{w:World}{b:Blk}{e:Ent}{id:Nat}{C:Array Value}{T:TypeId}(r:BR Φ τ w b e id C T)(h:b.ex=true):T=b.ty∧C.size=e.base+e.k:=by
 rcases r.fx with q|⟨_,q⟩
 ·exact q
 ·rw[h] at q;cases q
theorem BR.room{Φ:Phi}{τ:Tau}{w:World}{b:Blk}{e:Ent}{id:Nat}{C:Array Value}{T:TypeId}(r:BR Φ τ w b e id C T){n:Nat}(h:n<b.cs.length):e.base+n<C.size:=by
 obtain⟨v,hv,_⟩:=r.cr n b.cs[n] (UL h)
 exact(VE.1 hv).1
def FR(Φ:Phi)(f:Fr)(F:Wf.Fr):Prop:=∀t,t<4096→Rv Φ (getF t f) (F t)
theorem FR.mono{Φ Φ':Phi}{f:Fr}{F:Wf.Fr}(h:FR Φ f F)(s:Sub Φ Φ'):FR Φ' f F:=fun t ht=>(h t ht).mono s
def EnR(Φ:Phi)(e:En)(m:MapEntry):Prop:=Rv Φ e.k m.key∧Rv Φ e.v m.val∧m.born=e.b
def EsR(Φ:Phi):List En→List MapEntry→Prop
 |[],ms=>ms=[]
 |e::l,ms=>∃m r,ms=m::r∧EnR Φ e m∧EsR Φ l r
theorem EsR.mono{Φ Φ':Phi}(s:Sub Φ Φ'):∀ {l:List En} {ms:List MapEntry},EsR Φ l ms→EsR Φ' l ms:=by
 intro l
 induction l with
 |nil=>intro ms h;exact h
 |cons e l ih=>
  rintro ms ⟨m,r,d,⟨a,b,c⟩,f⟩;exact⟨m,r,d,⟨a.mono s,b.mono s,c⟩,ih f⟩
def ObR(Φ:Phi):Ob→Obj→Prop
 |.row,_=>False
 |.map es c,o=>∃E:List MapEntry,o= .map E.toArray c∧EsR Φ es E
 |.sit l pos,o=>(∀n∈l,n<256)∧o= .stringIter ⟨(l.map UInt8.ofNat).toArray⟩ pos
 |.glb,_=>False
 |.lp ..,_=>False
 |.mit none since seen last,o=>o= .mapIter none since seen.toArray last
 |.mit (some i) since seen last,o=>∃e,Φ i=some e∧o= .mapIter (some e.g) since seen.toArray last
theorem ObR.mono{Φ Φ':Phi}(s:Sub Φ Φ'){b:Ob}{o:Obj}(h:ObR Φ b o):ObR Φ' b o:=by
 cases b with
 |row=>exact h
 |map es c=>obtain⟨E,a,d⟩:=h;exact⟨E,a,d.mono s⟩
 |sit l pos=>exact h
 |glb=>exact h
 |lp _ _ _ _ _ _=>exact h
 |mit m since seen last=>
  cases m with
  |none=>exact h
  |some i=>obtain⟨e,a,d⟩:=h;exact⟨e,s _ _ a,d⟩
structure OR (Φ:Phi) (τ:Tau) (w:World) (b:Blk) (e:Ent) (id:Nat) (O:Obj):Prop where
 ent:Φ id=some e
 lab:τ e.g= .own id
 ro:b.ro=false
 base:e.base=0
 obj:w.heap[e.g]? =some O
 ob:ObR Φ b.ob O
structure GR (Φ:Phi) (τ:Tau) (w:World) (b:Blk) (e:Ent) (id:Nat) (C:Array Value):Prop where
 ent:Φ id=some e
 at_:e.g=id
 lab:τ e.g= .ro
 ro:b.ro=true
 glb:b.ob= .glb
 obj:∃T fr,w.heap[e.g]? =some (.cells C T fr)
 cr:CR Φ C 0 b.cs
structure LR (Φ:Phi) (τ:Tau) (w:World) (b:Blk) (e:Ent) (id:Nat) (r:Loop):Prop where
 ent:Φ id=some e
 lab:τ e.g= .own id
 ro:b.ro=false
 obj:w.heap[e.g]? =some (.loop r)
 ob:∃busy n ps a bb f,b.ob= .lp busy n ps a bb f∧r.state=(if busy then .busy else .ready)∧r.pending=none∧r.params.toList=ps∧r.assign=a∧r.body=bb∧r.tmps.size=n∧n≤4096∧FR Φ f fun t=>r.tmps.getD t undef
def Kf(Φ:Phi)(τ:Tau)(w:World)(id:Nat)(b:Blk):Prop:=(∃e C T,BR Φ τ w b e id C T)∨(∃e O,OR Φ τ w b e id O)∨(∃e C,GR Φ τ w b e id C)∨∃e r,LR Φ τ w b e id r
def isOb:Ob→Bool
 |.map .. | .sit .. | .mit .. =>true
 |_=>false
theorem LR.is{Φ:Phi}{τ:Tau}{w:World}{b:Blk}{e:Ent}{id:Nat}{r:Loop}(h:LR Φ τ w b e id r){o:Ob}(hb:b.ob=o)(ho:∀a b c d e f,o≠ .lp a b c d e f):False:=by
 obtain⟨busy,n,ps,a,bb,f,g,_⟩:=h.ob;exact ho busy n ps a bb f (hb.symm.trans g)
theorem Kf.row{Φ:Phi}{τ:Tau}{w:World}{id:Nat}{b:Blk}(h:Kf Φ τ w id b)(hb:b.ob= .row):∃e C T,BR Φ τ w b e id C T:=by
 rcases h with h|⟨e,O,h⟩|⟨e,C,h⟩|⟨e,r,h⟩
 ·exact h
 ·have:=h.ob;rw[hb] at this;exact this.elim
 ·have:=h.glb;rw[hb] at this;cases this
 ·exact(h.is hb (by intros;intro hq;cases hq)).elim
theorem Kf.obj{Φ:Phi}{τ:Tau}{w:World}{id:Nat}{b:Blk}(h:Kf Φ τ w id b)(hb:isOb b.ob=true):∃e O,OR Φ τ w b e id O:=by
 rcases h with ⟨e,C,T,h⟩|h|⟨e,C,h⟩|⟨e,r,h⟩
 ·rw[h.row] at hb;cases hb
 ·exact h
 ·rw[h.glb] at hb;cases hb
 ·obtain⟨busy,n,ps,a,bb,f,d,_⟩:=h.ob;rw[d] at hb;cases hb
theorem Kf.tab{Φ:Phi}{τ:Tau}{w:World}{id:Nat}{b:Blk}(h:Kf Φ τ w id b)(hb:b.ob= .glb):∃e C,GR Φ τ w b e id C:=by
 rcases h with ⟨e,C,T,h⟩|⟨e,O,h⟩|h|⟨e,r,h⟩
 ·have:=h.row;rw[hb] at this;cases this
 ·have:=h.ob;rw[hb] at this;exact this.elim
 ·exact h
 ·exact(h.is hb (by intros;intro hq;cases hq)).elim
theorem Kf.loop{Φ:Phi}{τ:Tau}{w:World}{id:Nat}{b:Blk}(h:Kf Φ τ w id b){busy:Bool}{n:Nat}{ps:List Tmp}{a bb:Code}{f:TF AV}(hb:b.ob= .lp busy n ps a bb f):∃e r,LR Φ τ w b e id r:=by
 rcases h with ⟨e,C,T,h⟩|⟨e,O,h⟩|⟨e,C,h⟩|h
 ·have:=h.row;rw[hb] at this;cases this
 ·have:=h.ob;rw[hb] at this;exact this.elim
 ·have:=h.glb;rw[hb] at this;cases this
 ·exact h
theorem BR.obj0{Φ:Phi}{τ:Tau}{w:World}{b:Blk}{e:Ent}{id:Nat}{C:Array Value}{T:TypeId}(r:BR Φ τ w b e id C T)(hro:b.ro=false):w.heap[e.g]? =some (.cells C T (0,0)):=by
 obtain⟨fr,a,d⟩:=r.obj;rw[d hro] at a;exact a
structure Rel (Φ:Phi) (τ:Tau) (h:Hp) (w:World):Prop where
 lim:h.n≤big5
 blk:∀id b,id<h.n→get5 id h.t=some b→Kf Φ τ w id b
 fin:∀id,h.n≤id→id<big5→get5 id h.t=none
def Fre(Φ:Phi)(a b:Nat):Prop:=∀id,a≤id→id<b→Φ id=none
structure Grow (h h':Hp):Prop where
 le:h.n≤h'.n
 none_:∀id,id<big5→¬(h.n≤id∧id<h'.n)→get5 id h.t=none→get5 id h'.t=none
 lim:h.n≤big5→h'.n≤big5
theorem Grow.refl(h:Hp):Grow h h:=⟨UM _,fun _ _ _ h=>h,id⟩
theorem Grow.trans{a b c:Hp}(x:Grow a b)(y:Grow b c):Grow a c:=⟨UC x.le y.le,fun id d e f=>y.none_ id d (fun hh=>e ⟨UC x.le hh.1,hh.2⟩) (x.none_ id d (fun hh=>e ⟨hh.1,UB hh.2 y.le⟩) f),fun h=>y.lim (x.lim h)⟩
def Gw(h h':Hp):Prop:=h.n≤big5→Grow h h'
theorem Gw.trans{a b c:Hp}(x:Gw a b)(y:Gw b c):Gw a c:=fun h=>(x h).trans (y ((x h).lim h))
theorem Gw.refl(h:Hp):Gw h h:=fun _=>Grow.refl h
def Kp(h:Hp)(n':Nat)(l:Lab):Prop:=∀id,l= .own id→(id<h.n→get5 id h.t=none)∧¬(h.n≤id∧id<n')
structure Tw (Φ:Phi) (τ:Tau) (h:Hp) (w:World) (Φ':Phi) (τ':Tau) (n':Nat) (w':World):Prop where
 os:w'.os=w.os
 tape:w'.tape=w.tape
 output:w'.output=w.output
 size:w.heap.size≤w'.heap.size
 sub:Sub Φ Φ'
 same:∀id,¬(h.n≤id∧id<n')→Φ' id=Φ id
 keep:∀g,g<w.heap.size→Kp h n' (τ g)→w'.heap[g]? =w.heap[g]? ∧τ' g=τ g
section
variable {Φ Φ' Φ'':Phi} {τ τ' τ'':Tau} {h h' h'':Hp} {w w' w'':World}
theorem Tw.refl(Φ:Phi)(τ:Tau)(h:Hp)(w:World)(n:Nat):Tw Φ τ h w Φ τ n w:=⟨rfl,rfl,rfl,UM _,Sub.refl _,fun _ _=>rfl,fun _ _ _=>⟨rfl,rfl⟩⟩
theorem Tw.trans{n:Nat}(a:Tw Φ τ h w Φ' τ' h'.n w')(g:Grow h h')(hn:h'.n≤n)(k:h'.n≤big5)(b:Tw Φ' τ' h' w' Φ'' τ'' n w''):Tw Φ τ h w Φ'' τ'' n w'':=by
 refine⟨b.os.trans a.os,b.tape.trans a.tape,b.output.trans a.output,UC a.size b.size,a.sub.trans b.sub,?_,?_⟩
 ·intro id hid;rw[b.same id (fun hh=>hid ⟨UC g.le hh.1,hh.2⟩),a.same id (fun hh=>hid ⟨hh.1,UB hh.2 hn⟩)]
 ·intro x hx hk;obtain⟨f,d⟩:=a.keep x hx (fun id e=>⟨(hk id e).1,fun hh=>(hk id e).2 ⟨hh.1,UB hh.2 hn⟩⟩);obtain⟨i,j⟩:=b.keep x (UB hx a.size) (fun id e=>by
   rw[d] at e;refine⟨fun hid=>?_,fun hh=>(hk id e).2 ⟨UC g.le hh.1,hh.2⟩⟩;rcases U2 id h.n with hl|hl
   ·exact g.none_ id (by omega) (fun hh=>by omega) ((hk id e).1 hl)
   ·exact absurd ⟨hl,UB hid hn⟩ (hk id e).2)
  exact⟨i.trans f,j.trans d⟩
theorem BR.lt{b:Blk}{e:Ent}{id:Nat}{C:Array Value}{T:TypeId}(r:BR Φ τ w b e id C T):e.g<w.heap.size:=by
 obtain⟨fr,a,_⟩:=r.obj
 exact(VE.1 a).1
theorem OR.lt{b:Blk}{e:Ent}{id:Nat}{O:Obj}(r:OR Φ τ w b e id O):e.g<w.heap.size:=(VE.1 r.obj).1
theorem CR.mono{C:Array Value}{base:Nat}{cs:List AV}(h:CR Φ C base cs)(s:Sub Φ Φ'):CR Φ' C base cs:=fun i a hi=>let ⟨v,b,d⟩:=h i a hi;⟨v,b,d.mono s⟩
theorem BR.kept{b:Blk}{e:Ent}{id:Nat}{C:Array Value}{T:TypeId}(r:BR Φ τ w b e id C T)(s:Sub Φ Φ')(ho:w'.heap[e.g]? =w.heap[e.g]?)(hl:τ' e.g=τ e.g):BR Φ' τ' w' b e id C T:=
 ⟨s _ _ r.ent,hl.trans r.lab,r.row,r.fx,(by obtain⟨fr,a,d⟩:=r.obj;exact⟨fr,ho.trans a,d⟩),r.le,r.exact_,r.cr.mono s⟩
theorem OR.kept{b:Blk}{e:Ent}{id:Nat}{O:Obj}(r:OR Φ τ w b e id O)(s:Sub Φ Φ')(ho:w'.heap[e.g]? =w.heap[e.g]?)(hl:τ' e.g=τ e.g):OR Φ' τ' w' b e id O:=
 ⟨s _ _ r.ent,hl.trans r.lab,r.ro,r.base,ho.trans r.obj,r.ob.mono s⟩
theorem Kf.at_{b:Blk}{id:Nat}(r:Kf Φ τ w id b):∃e,Φ id=some e∧e.g<w.heap.size∧(τ e.g=if b.ro then .ro else .own id)∧
  ∀ {Φ':Phi} {τ':Tau} {w':World},Sub Φ Φ'→w'.heap[e.g]? =w.heap[e.g]? →τ' e.g=τ e.g→Kf Φ' τ' w' id b:=by
 rcases r with ⟨e,C,T,r⟩|⟨e,O,r⟩|⟨e,C,r⟩|⟨e,l,r⟩
 ·exact⟨e,r.ent,r.lt,r.lab,fun s ho hl=> .inl ⟨e,C,T,r.kept s ho hl⟩⟩
 ·exact⟨e,r.ent,r.lt,by rw[r.ro];exact r.lab,fun s ho hl=> .inr (.inl ⟨e,O,r.kept s ho hl⟩)⟩
 ·obtain⟨T,fr,ho⟩:=r.obj;exact⟨e,r.ent,(VE.1 ho).1,by rw[r.ro];exact r.lab,fun s h hl=> .inr (.inr (.inl ⟨e,C,s _ _ r.ent,r.at_,hl.trans r.lab,r.ro,r.glb,⟨T,fr,h.trans ho⟩,r.cr.mono s⟩))⟩
 ·refine⟨e,r.ent,(VE.1 r.obj).1,by rw[r.ro];exact r.lab,fun s h hl=> .inr (.inr (.inr ⟨e,l,s _ _ r.ent,hl.trans r.lab,r.ro,h.trans r.obj,?_⟩))⟩;obtain⟨busy,n,ps,a,bb,f,d,i,j,k,m,o,p,u,v⟩:=r.ob;exact⟨busy,n,ps,a,bb,f,d,i,j,k,m,o,p,u,v.mono s⟩
theorem Rel.kept{h:Hp}(r:Rel Φ τ h w)(s:Sub Φ Φ')(ho:∀g,g<w.heap.size→w'.heap[g]? =w.heap[g]? ∧τ' g=τ g):Rel Φ' τ' h w':=
 ⟨r.lim,fun id b hid hb=>let ⟨e,_,hlt,_,k⟩:=(r.blk id b hid hb).at_;k s (ho _ hlt).1 (ho _ hlt).2,r.fin⟩
theorem FR.set{f:Fr}{F:Wf.Fr}{t:Nat}{a:AV}{v:Value}(h:FR Φ f F)(ht:t<4096)(hv:Rv Φ a v):FR Φ (setF t a f) (upd F t v):=by
 intro s hs;rw[Xe _ _ _ _ hs ht];unfold upd;by_cases e:s=t
 ·rw[if_pos e,if_pos e];exact hv
 ·rw[if_neg e,if_neg e];exact h s hs
theorem qj(v:Value):Rv Φ (cv v) v:=by
 unfold cv;split
 ·simp only[Rv]
 ·simp only[Rv]
 ·rename_i s;simp only[Rv];refine⟨?_,?_⟩
  ·intro n hn;obtain⟨c,_,rfl⟩:=XM.1 hn;exact c.toNat_lt
  ·rw[XD]
   have:(UInt8.ofNat ∘ UInt8.toNat)=id:=by funext c;simp
   rw[this,List.map_id];unfold str
   congr 1
 ·simp only[Rv]
 ·simp only[Rv]
 ·simp only[Rv]
 ·simp only[Rv]
 ·simp only[Rv]
 ·simp only[Rv]
theorem Jb{f:Fr}{F:Wf.Fr}(h:FR Φ f F)(o:Operand):Rv Φ (opd f o) (fe F o):=by
 cases o with
 |tmp t=>
  show Rv Φ (Bool.rec .u (getF t f) (Nat.ble (Nat.succ t) 4096)) (F t);cases e:Nat.ble (Nat.succ t) 4096 with
  |false=>simp only[Rv]
  |true=>exact h t (UW e)
 |const v=>exact qj v
 |global g=>show Rv Φ (.gp g 0) _;simp only[Rv];rfl
 |func k=>show Rv Φ (.fn k []) _;simp only[Rv];exact⟨[],rfl,by simp only[RvL]⟩
theorem K7{f:Fr}{F:Wf.Fr}(h:FR Φ f F)(l:List Operand):RvL Φ (opds f l) (l.map (fe F)):=by
 induction l with
 |nil=>show RvL Φ [] _;simp only[RvL,XE]
 |cons o l ih=>show RvL Φ (opd f o::opds f l) _;simp only[RvL,U9];exact⟨_,_,rfl,Jb h o,ih⟩
end
end Go.Ev
namespace Go.Ev
open Go Go.Wf Go.RowKit
theorem recB{n:Nat}{r:Res}{b:Bool}{v:AV}{h:Hp}(e:(Bool.rec (Res.no n) r b:Res)= .ok v h):b=true∧r= .ok v h:=by
 cases b
 ·cases e
 ·exact⟨rfl,e⟩
theorem Xx{α:Type}{b:Bool}{x y:α}:(Bool.rec x y b:α)=if b then y else x:=by cases b<;>rfl
theorem Ju{v v':AV}{h h':Hp}(e:Res.ok v h= .ok v' h'):v=v'∧h=h':=by cases e;exact⟨rfl,rfl⟩
theorem recN{n:Nat}{r:Nat→Res}{v:AV}{h:Hp}{a:AV}(e:jj a r (.no n)= .ok v h):∃k m,a= .i k (Int.ofNat m)∧r m= .ok v h:=by
 unfold jj at e;split at e
 ·rename_i k z;cases z with
  |ofNat m=>exact⟨k,m,rfl,e⟩
  |negSucc m=>cases e
 ·cases e
section
variable {P:Program} {Φ:Phi} {ρ:Operand→Value} {dst:Option Tmp} {ty yt t:TypeId} {pos:String} {after:Array Edge} {gd:Option (Nat×Bool)} {w:World} {a b v:AV} {h h':Hp} {x y:Operand}
abbrev KP(Φ:Phi)(w:World)(v:AV):Value→World→Prop:=fun u w'=>w'=w∧Rv Φ v u
abbrev KF:List PanicEntry→World→Prop:=fun _ _=>False
theorem Rv.iI{k:IntKind}{n:Int}{u:Value}(h:Rv Φ (.i k n) u):u= .int k n:=by simp only[Rv] at h;exact h
theorem Rv.mi{k:IntKind}{n:Int}:Rv Φ (.i k n) (.int k n):=by simp only[Rv]
theorem Rv.bI{n:Bool}{u:Value}(h:Rv Φ (.b n) u):u= .bool n:=by simp only[Rv] at h;exact h
theorem Rv.mb{n:Bool}:Rv Φ (.b n) (.bool n):=by simp only[Rv]
theorem Rv.sI{l:List Nat}{u:Value}(h:Rv Φ (.s l) u):(∀n∈l,n<256)∧u=str (l.map UInt8.ofNat):=by simp only[Rv] at h;exact h
theorem Rv.ms{l:List Nat}(hl:∀n∈l,n<256):Rv Φ (.s l) (str (l.map UInt8.ofNat)):=by simp only[Rv];exact⟨hl,trivial⟩
theorem Rv.pI{id off:Nat}{u:Value}(h:Rv Φ (.p id off) u):∃e,Φ id=some e∧u= .pointer (some ⟨e.g,e.base+off,none⟩):=by simp only[Rv] at h;exact h
theorem Rv.mp{id off:Nat}{e:Ent}(h:Φ id=some e):Rv Φ (.p id off) (.pointer (some ⟨e.g,e.base+off,none⟩)):=by simp only[Rv];exact⟨e,h,rfl⟩
theorem Rv.slI{id off n z:Nat}{cap:Option Nat}{v:Value}(h:Rv Φ (.sl id off n z cap) v):∃e c,Φ id=some e∧v= .slice (some ⟨e.g,e.base+off,none⟩) n c∧n≤c∧c≤maxLen∧off+c*z≤e.k∧xG cap c:=by simp only[Rv] at h;exact h
theorem Rv.msl{id off n z:Nat}{cap:Option Nat}{e:Ent}{c:Nat}(h:Φ id=some e)(d:n≤c)(f:c≤maxLen)(i:off+c*z≤e.k)(j:xG cap c):Rv Φ (.sl id off n z cap) (.slice (some ⟨e.g,e.base+off,none⟩) n c):=by
 simp only[Rv];exact⟨e,c,h,rfl,d,f,i,j⟩
theorem Rv.fnI{k:FuncId}{cap:List AV}{v:Value}(h:Rv Φ (.fn k cap) v):∃vs:List Value,v= .func (.func k) #[] vs.toArray∧RvL Φ cap vs:=by simp only[Rv] at h;exact h
theorem Q5{k:IntKind}{z:Int}(e:okI k z h= .ok v h'):v= .i k z∧h=h':=by rw[I8] at e;obtain⟨rfl,rfl⟩:=Ju e;exact⟨rfl,rfl⟩
theorem ym{t:Bool}(e:okB t h= .ok v h'):v= .b t∧h=h':=by rw[LE] at e;obtain⟨rfl,rfl⟩:=Ju e;exact⟨rfl,rfl⟩
theorem Za{p q:Bool}(h:(p&&q)=true):p=true∧q=true:=by simpa using h
theorem nv{p:Bool}(h:(!p)=true):p=false:=by simpa using h
theorem kr{l:List Nat}(hl:∀n∈l,n<256):(l.map UInt8.ofNat).map UInt8.toNat=l:=by
 rw[XD]
 conv=>rhs;rw[←List.map_id l]
 apply XC;intro n hn;simp[UInt8.toNat_ofNat,ZG (hl n hn)]
theorem nM{l m:List Nat}(hl:∀n∈l,n<256)(hm:∀n∈m,n<256)(h:l.map UInt8.ofNat=m.map UInt8.ofNat):l=m:=by
 rw[←kr hl,←kr hm,h]
theorem zf:∀(a b:List Nat),leqL a b=decide (a=b):=by
 intro a
 induction a with
 |nil=>intro b;cases b<;>rfl
 |cons x a ih=>
  intro b;cases b with
  |nil=>rfl
  |cons y b=>
   show(Bool.rec false (leqL a b) (Nat.beq x y):Bool)=_
   rw[yc,ih];by_cases e:x=y
   ·rw[decide_eq_true e];subst e;show decide (a=b)=_;simp
   ·rw[decide_eq_false e];show false=_;simp[e]
theorem binS{op:BinOp}{u:Value}(hg:eqGuard op t x y (ρ x) (ρ y)=pure ())(hr:(binOp op t (ρ x) (ρ y)).run P w= .ok u w)(h:Rv Φ v u):
  St P ρ ⟨dst,.binOp op t x y yt,ty,pos,after,gd⟩ w (KP Φ w v) KF:=J7 hg hr ⟨rfl,h⟩
theorem L6(e:bAdd a b h= .ok v h'):h'=h∧(Rv Φ a (ρ x)→Rv Φ b (ρ y)→St P ρ ⟨dst,.binOp .add t x y yt,ty,pos,after,gd⟩ w (KP Φ w v) KF):=by
 unfold bAdd at e;split at e
 ·obtain⟨he,e⟩:=recB e;obtain⟨rfl,rfl⟩:=Q5 e;refine⟨rfl,fun hx hy=>?_⟩
  have:=Y2 he;subst this
  exact St.add hx.iI hy.iI (K3 _ _).symm ⟨rfl,Rv.mi⟩
 ·rename_i l m;obtain⟨he,e⟩:=recB e;rw[K9] at e;obtain⟨rfl,rfl⟩:=Ju e;refine⟨rfl,fun hx hy=>?_⟩
  obtain⟨d,hx⟩:=hx.sI;obtain⟨f,hy⟩:=hy.sI;refine Ui hx hy ?_ ⟨rfl,?_⟩
  ·have:=Zx he
   rw[Y4,Y4] at this
   have:l.length+m.length<1000000:=this
   rw[W4,W4];omega
  ·rw[←XA];exact Rv.ms fun n hn=>(List.mem_append.1 hn).elim (d n) (f n)
 ·cases e
theorem Iy(e:bSub a b h= .ok v h'):h'=h∧(Rv Φ a (ρ x)→Rv Φ b (ρ y)→St P ρ ⟨dst,.binOp .sub t x y yt,ty,pos,after,gd⟩ w (KP Φ w v) KF):=by
 unfold bSub at e;split at e
 ·obtain⟨he,e⟩:=recB e;obtain⟨rfl,rfl⟩:=Q5 e;refine⟨rfl,fun hx hy=>?_⟩
  have:=Y2 he;subst this
  exact St.sub hx.iI hy.iI (K3 _ _).symm ⟨rfl,Rv.mi⟩
 ·cases e
theorem Lj(e:bMul a b h= .ok v h'):h'=h∧(Rv Φ a (ρ x)→Rv Φ b (ρ y)→St P ρ ⟨dst,.binOp .mul t x y yt,ty,pos,after,gd⟩ w (KP Φ w v) KF):=by
 unfold bMul at e;split at e
 ·obtain⟨he,e⟩:=recB e;obtain⟨rfl,rfl⟩:=Q5 e;refine⟨rfl,fun hx hy=>?_⟩
  have:=Y2 he;subst this
  exact SO hx.iI hy.iI (K3 _ _).symm ⟨rfl,Rv.mi⟩
 ·cases e
theorem nz{b:Int}(h:(!ieq b 0)=true):b≠0:=by
 have:=nv h
 rw[vy] at this;exact of_decide_eq_false this
theorem MN(e:bQuo a b h= .ok v h'):h'=h∧(Rv Φ a (ρ x)→Rv Φ b (ρ y)→St P ρ ⟨dst,.binOp .quo t x y yt,ty,pos,after,gd⟩ w (KP Φ w v) KF):=by
 unfold bQuo at e;split at e
 ·obtain⟨he,e⟩:=recB e;obtain⟨he,hb⟩:=Za he;obtain⟨rfl,rfl⟩:=Q5 e;refine⟨rfl,fun hx hy=>?_⟩
  have:=Y2 he;subst this
  exact SF hx.iI hy.iI (nz hb) (K3 _ _).symm ⟨rfl,Rv.mi⟩
 ·cases e
theorem HT(e:bRem a b h= .ok v h'):h'=h∧(Rv Φ a (ρ x)→Rv Φ b (ρ y)→St P ρ ⟨dst,.binOp .rem t x y yt,ty,pos,after,gd⟩ w (KP Φ w v) KF):=by
 unfold bRem at e;split at e
 ·obtain⟨he,e⟩:=recB e;obtain⟨he,hb⟩:=Za he;obtain⟨rfl,rfl⟩:=Q5 e;refine⟨rfl,fun hx hy=>?_⟩
  have:=Y2 he;subst this
  exact Sz hx.iI hy.iI (nz hb) rfl ⟨rfl,Rv.mi⟩
 ·cases e
theorem nneg{b:Int}(h:(!ilt b 0)=true):0≤b:=by
 have:=nv h
 rw[kn] at this
 have:=of_decide_eq_false this
 omega
theorem E0(n:Nat):((Nat.pow 2 n:Nat):Int)=(2:Int)^n:=by show((2^n:Nat):Int)=_;rw[Int.natCast_pow];rfl
theorem Me(e:bShl a b h= .ok v h'):h'=h∧(Rv Φ a (ρ x)→Rv Φ b (ρ y)→St P ρ ⟨dst,.binOp .shl t x y yt,ty,pos,after,gd⟩ w (KP Φ w v) KF):=by
 unfold bShl at e;split at e
 ·obtain⟨he,e⟩:=recB e;obtain⟨rfl,rfl⟩:=Q5 e;refine⟨rfl,fun hx hy=>?_⟩
  refine SP hx.iI hy.iI (nneg he) ?_ ⟨rfl,Rv.mi⟩;rw[K3]
  congr 1
 ·cases e
theorem M2(e:bShr a b h= .ok v h'):h'=h∧(Rv Φ a (ρ x)→Rv Φ b (ρ y)→St P ρ ⟨dst,.binOp .shr t x y yt,ty,pos,after,gd⟩ w (KP Φ w v) KF):=by
 unfold bShr at e;split at e
 ·obtain⟨he,e⟩:=recB e;obtain⟨rfl,rfl⟩:=Q5 e;refine⟨rfl,fun hx hy=>?_⟩
  refine SC hx.iI hy.iI (nneg he) ?_ ⟨rfl,Rv.mi⟩;show _=_/((Nat.pow 2 _:Nat):Int);rw[E0]
 ·cases e
theorem lA(k m:Nat):(BitVec.ofInt k (Int.ofNat m)).toNat=m%2^k:=by
 show(BitVec.ofInt k (m:Int)).toNat=_
 rw[BitVec.ofInt_natCast,BitVec.toNat_ofNat]
theorem bitS {op:BinOp} {g:Nat→Nat→Nat} {k:IntKind} {m n:Nat} (hop:∀(p q:Value),binOp op t p q=match p,q with | .int k a,.int k' b=>if k≠k' then stuck "BinOp: operands of different kinds" else Op.intBits op k a b|_,_=>binOp op t p q)
  (hb:∀m n,Op.intBits op k (Int.ofNat m) (Int.ofNat n)=pure (.int k (k.wrap (Int.ofNat (g (m%2^k.bits) (n%2^k.bits))))))
  (hg:∀p q,eqGuard op t x y p q=pure ()) (hx:ρ x= .int k (Int.ofNat m)) (hy:ρ y= .int k (Int.ofNat n)):
  St P ρ ⟨dst,.binOp op t x y yt,ty,pos,after,gd⟩ w (KP Φ w (.i k (jv k (Int.ofNat (g (Nat.mod m (Nat.pow 2 k.bits)) (Nat.mod n (Nat.pow 2 k.bits))))))) KF:=by
 refine binS (u:= .int k (k.wrap (Int.ofNat (g (m%2^k.bits) (n%2^k.bits))))) (hg _ _) ?_ ?_
 ·rw[hx,hy,hop];simp only[ne_eq,not_true_eq_false,if_false];rw[hb];rfl
 ·rw[K3];exact Rv.mi
theorem iu {op:BinOp} {g:Nat→Nat→Nat} (hop:∀(p q:Value),binOp op t p q=match p,q with | .int k a,.int k' b=>if k≠k' then stuck "BinOp: operands of different kinds" else Op.intBits op k a b|_,_=>binOp op t p q)
  (hb:∀(k:IntKind) m n,Op.intBits op k (Int.ofNat m) (Int.ofNat n)=pure (.int k (k.wrap (Int.ofNat (g (m%2^k.bits) (n%2^k.bits))))))
  (hg:∀p q,eqGuard op t x y p q=pure ()) (e:Vr g a b h= .ok v h'):h'=h∧(Rv Φ a (ρ x)→Rv Φ b (ρ y)→St P ρ ⟨dst,.binOp op t x y yt,ty,pos,after,gd⟩ w (KP Φ w v) KF):=by
 unfold Vr at e;split at e
 ·rename_i k a' k' b';obtain⟨he,d⟩:=recB e;clear e
  have:=Y2 he;subst this
  cases a' with
  |negSucc m=>cases d
  |ofNat m=>
   cases b' with
   |negSucc n=>cases d
   |ofNat n=>
    obtain⟨rfl,rfl⟩:=Q5 d;exact⟨rfl,fun hx hy=>bitS hop (hb k) hg hx.iI hy.iI⟩
 ·cases e
theorem LY(e:Vr Nat.land a b h= .ok v h'):h'=h∧(Rv Φ a (ρ x)→Rv Φ b (ρ y)→St P ρ ⟨dst,.binOp .and t x y yt,ty,pos,after,gd⟩ w (KP Φ w v) KF):=by
 refine iu ?_ ?_ (fun _ _=>rfl) e
 ·intro p q;cases p<;>cases q<;>rfl
 ·intro k m n;simp only[Op.intBits,BitVec.toNat_and,lA];rfl
theorem Ra(e:Vr Nat.lor a b h= .ok v h'):h'=h∧(Rv Φ a (ρ x)→Rv Φ b (ρ y)→St P ρ ⟨dst,.binOp .or t x y yt,ty,pos,after,gd⟩ w (KP Φ w v) KF):=by
 refine iu ?_ ?_ (fun _ _=>rfl) e
 ·intro p q;cases p<;>cases q<;>rfl
 ·intro k m n;simp only[Op.intBits,VI,lA];rfl
theorem HH(e:Vr Nat.xor a b h= .ok v h'):h'=h∧(Rv Φ a (ρ x)→Rv Φ b (ρ y)→St P ρ ⟨dst,.binOp .xor t x y yt,ty,pos,after,gd⟩ w (KP Φ w v) KF):=by
 refine iu ?_ ?_ (fun _ _=>rfl) e
 ·intro p q;cases p<;>cases q<;>rfl
 ·intro k m n;simp only[Op.intBits,BitVec.toNat_xor,lA];rfl
theorem rn(k m n:Nat)(hm:m<2^k):(BitVec.ofNat k m &&& ~~~ BitVec.ofNat k n).toNat=Nat.xor m (Nat.land m (n%2^k)):=by
 show _=m ^^^ (m &&& (n%2^k));apply Nat.eq_of_testBit_eq;intro i;rw[Nat.testBit_xor,ZX,Nat.testBit_mod_two_pow,←BitVec.getLsbD];simp only[BitVec.getLsbD_and,BitVec.getLsbD_not,BitVec.getLsbD_ofNat];by_cases hi:i<k
 ·simp[hi];cases Nat.testBit m i<;>cases Nat.testBit n i<;>rfl
 ·have:Nat.testBit m i=false:=Nat.testBit_lt_two_pow (UB hm (U1 (by omega) (by omega)))
  simp[hi,this]
theorem sM(e:Vr (fun m n=>Nat.xor m (Nat.land m n)) a b h= .ok v h'):h'=h∧(Rv Φ a (ρ x)→Rv Φ b (ρ y)→St P ρ ⟨dst,.binOp .andNot t x y yt,ty,pos,after,gd⟩ w (KP Φ w v) KF):=by
 refine iu ?_ ?_ (fun _ _=>rfl) e
 ·intro p q;cases p<;>cases q<;>rfl
 ·intro k m n;have d:(BitVec.ofInt k.bits (Int.ofNat m))=BitVec.ofNat k.bits (m%2^k.bits):=by
   apply BitVec.eq_of_toNat_eq;rw[lA,BitVec.toNat_ofNat,Nat.mod_mod]
  have f:(BitVec.ofInt k.bits (Int.ofNat n))=BitVec.ofNat k.bits n:=by
   apply BitVec.eq_of_toNat_eq;rw[lA,BitVec.toNat_ofNat]
  simp only[Op.intBits];rw[d,f,rn _ _ _ (UI _ (Jaa _))];rfl
end
section
variable {P:Program} {Φ:Phi} {ρ:Operand→Value} {dst:Option Tmp} {ty yt t:TypeId} {pos:String} {after:Array Edge} {gd:Option (Nat×Bool)} {w:World} {a b v:AV} {h h':Hp} {x y:Operand}
theorem n6{t:TypeId}(h:rF P t=true):P.underlying t=some .bool:=by unfold rF at h;split at h<;>first|assumption|cases h
theorem mw{t:TypeId}(h:uS P t=true):∃e,P.underlying t=some (.pointer e):=by unfold uS at h;split at h<;>first|exact⟨_,by assumption⟩|cases h
theorem vj{t:TypeId}(h:isSl P t=true):∃e,P.underlying t=some (.slice e):=by unfold isSl at h;split at h<;>first|exact⟨_,by assumption⟩|cases h
theorem rH{t:TypeId}(h:isFn P t=true):∃a b c,P.underlying t=some (.func a b c):=by unfold isFn at h;split at h<;>first|exact⟨_,_,_,by assumption⟩|cases h
theorem V1{t:TypeId}(h:X4 P t=true):P.underlying t=some .string:=by unfold X4 at h;split at h<;>first|assumption|cases h
theorem jk{t e:TypeId}(h:slOf P t=some e):P.underlying t=some (.slice e):=by unfold slOf at h;split at h<;>first|(cases h;assumption)|cases h
theorem tB{t:TypeId}{k:IntKind}(h:lC P t=some k):P.underlying t=some (.int k):=by unfold lC at h;split at h<;>first|(cases h;assumption)|cases h
theorem Qo{t sz:Nat}(h:szOf P t=some sz):∃z by_,Zf P t=some (z,sz,by_):=by
 unfold szOf at h;rw[Jah] at h;obtain⟨⟨z,s,b⟩,e,rfl⟩:=h;exact⟨z,b,e⟩
theorem lH{t:TypeId}{l:List AV}(h:zcOf P t=some l):∃z sz by_,Zf P t=some (z,sz,by_)∧l=z.cells.toList.map cv:=by
 unfold zcOf at h;rw[Jah] at h;obtain⟨⟨z,s,b⟩,e,rfl⟩:=h;exact⟨z,s,b,e,rfl⟩
theorem qv(l:List Value):RvL Φ (l.map cv) l:=by
 refine RvL.mk (by simp) fun i a v hi hv=>?_
 rw[VA,hv] at hi;simp at hi;subst hi;exact qj v
theorem Xy{p q:Bool}{r:Bool}(h:(Bool.rec none (some p) q:Option Bool)=some r):q=true∧p=r:=by cases q;cases h;cases h;exact⟨rfl,rfl⟩
theorem eqIn(t:TypeId)(a b:Value):Op.equal t a b=Op.equalIn (9999+1) t a b:=rfl
def iT:Value→Value→Bool
 |.nilIface,.nilIface=>false
 |.agg _,.agg _=>false
 |_,_=>true
theorem p0{op:BinOp}{p q:Value}(h:iT p q=true):eqGuard op t x y p q=pure ():=by
 unfold eqGuard;cases op<;>first|rfl|(cases p<;>cases q<;>first|rfl|cases h)
theorem u8n{n:Nat}(h:n<256):(UInt8.ofNat n).toNat=n:=by simp[ZG h]
section
variable {d:Nat} {p q:Value} {el:TypeId}
theorem eqP1{c:Option Addr}(hq:P.underlying t=some (.pointer el)):(Op.equalIn (d+1) t (.pointer none) (.pointer c)).run P w= .ok c.isNone w:=by simp[Op.equalIn,run_underlying hq]
theorem eqP2{c:Addr}(hq:P.underlying t=some (.pointer el)):(Op.equalIn (d+1) t (.pointer (some c)) (.pointer none)).run P w= .ok false w:=by simp[Op.equalIn,run_underlying hq]
theorem eqS1{c:Option Addr}{n m k l:Nat}(hq:P.underlying t=some (.slice el)):(Op.equalIn (d+1) t (.slice none n m) (.slice c k l)).run P w= .ok c.isNone w:=by simp[Op.equalIn,run_underlying hq]
theorem eqS2{c:Addr}{n m k l:Nat}(hq:P.underlying t=some (.slice el)):(Op.equalIn (d+1) t (.slice (some c) n m) (.slice none k l)).run P w= .ok false w:=by simp[Op.equalIn,run_underlying hq]
theorem eqF0{a b:Array TypeId}{c:Bool}(hq:P.underlying t=some (.func a b c)):(Op.equalIn (d+1) t .nilFunc .nilFunc).run P w= .ok true w:=by simp[Op.equalIn,run_underlying hq]
theorem eqF1{a b:Array TypeId}{c:Bool}{f:Fn}{u v:Array Value}(hq:P.underlying t=some (.func a b c)):(Op.equalIn (d+1) t .nilFunc (.func f u v)).run P w= .ok false w:=by simp[Op.equalIn,run_underlying hq]
theorem eqF2{a b:Array TypeId}{c:Bool}{f:Fn}{u v:Array Value}(hq:P.underlying t=some (.func a b c)):(Op.equalIn (d+1) t (.func f u v) .nilFunc).run P w= .ok false w:=by simp[Op.equalIn,run_underlying hq]
theorem eq2{r:Bool}(hg:iT p q=true)(hb:binOp .eql t p q=(do pure (.bool (←Op.equal t p q))):=by rfl)(hb':binOp .neq t p q=(do pure (.bool (!(←Op.equal t p q)))):=by rfl)(hr:(Op.equalIn (9999+1) t p q).run P w= .ok r w):
  iT p q=true∧(binOp .eql t p q).run P w= .ok (.bool r) w∧(binOp .neq t p q).run P w= .ok (.bool (!r)) w:=by
 refine⟨hg,?_,?_⟩
 ·rw[hb,eqIn,Sem.run_bind,hr];rfl
 ·rw[hb',eqIn,Sem.run_bind,hr];rfl
end
theorem iW{t:TypeId}(h:lkOf P t= .one):Yo P t=true:=by
 unfold lkOf at h;cases hp:Yo P t with
 |true=>rfl
 |false=>
  rw[hp] at h;simp only[cond_false] at h;split at h
  ·rename_i s hs;cases hb:V8 P t s with
   |true=>rw[hb] at h;cases h
   |false=>rw[hb] at h;cases h
  ·cases h
theorem iA{t:TypeId}{sz:Nat}(h:lkOf P t= .agg sz):V8 P t sz=true:=by
 unfold lkOf at h;cases hp:Yo P t with
 |true=>rw[hp] at h;cases h
 |false=>
  rw[hp] at h;simp only[cond_false] at h;split at h
  ·rename_i s hs;cases hb:V8 P t s with
   |true=>rw[hb] at h;cases h;exact hb
   |false=>rw[hb] at h;cases h
  ·cases h
theorem kb{cs:List AV}{off:Nat}{Cs:List Value}(e:zy P t cs off=some a)(h:RvL Φ cs Cs):∃A,(part t Cs.toArray off).run P w= .ok A w∧Rv Φ a A:=by
 unfold zy at e;split at e
 ·rename_i hl;rw[jy] at e;obtain⟨v,hv,hr⟩:=h.at e;refine⟨v,?_,hr⟩;simp[part,K8 (iW hl),hv]
 ·rename_i sz hl;cases e;rw[ly,V6];refine⟨.agg ((Cs.drop off).take sz).toArray,?_,?_⟩
  ·simp[part,Ky (iA hl)]
  ·simp only[Rv];exact⟨_,rfl,(h.drop off).take sz⟩
 ·cases e
theorem ub{xs ys:List AV}{off:Nat}{Xs Ys:List Value}{k:AV→AV→Option Bool}{r:Bool}(e:ry P t xs ys off k none=some r)(hx:RvL Φ xs Xs)(hy:RvL Φ ys Ys):
  ∃a b A B,(part t Xs.toArray off).run P w= .ok A w∧(part t Ys.toArray off).run P w= .ok B w∧Rv Φ a A∧Rv Φ b B∧k a b=some r:=by
 unfold ry at e;split at e
 ·rename_i a ha;split at e
  ·rename_i b hb;obtain⟨A,g,i⟩:=kb (w:=w) ha hx;obtain⟨B,j,l⟩:=kb (w:=w) hb hy;exact⟨a,b,A,B,g,j,i,l,e⟩
  ·cases e
 ·cases e
theorem CT{p q:Option Bool}{r:Bool}(e:andO p q=some r):(p=some false∧r=false)∨(p=some true∧q=some r):=by
 unfold andO at e;cases p with
 |none=>cases e
 |some b=>cases b with
  |false=>cases e;exact .inl ⟨rfl,rfl⟩
  |true=>exact .inr ⟨rfl,e⟩
def nu(d:Nat)(e n:Nat)(xs ys:Array Value):List Nat→Sem Bool
 |[]=>pure true
 |i::l=>do
  let a ←part e xs (i*n)
  let b ←part e ys (i*n)
  let r ←Op.equalIn d e a b
  if(!r)=true then pure false else nu d e n xs ys l
theorem ke(d:Nat){n e sz:Nat}(xs ys:Array Value)(ht:P.underlying t=some (.array n e))(hs:(sizeOf e).run P w= .ok sz w):
  (Op.equalIn (d+1) t (.agg xs) (.agg ys)).run P w=(nu d e sz xs ys (List.range' 0 n)).run P w:=by
 simp only[Op.equalIn,Sem.run_bind,run_underlying ht,Result.andThen_ok,hs];rw[Std.Legacy.Range.forIn_eq_forIn_range']
 have:(Std.Legacy.Range.mk 0 n 1 (by omega)).size=n:=by simp[Std.Legacy.Range.size]
 simp only[this];generalize List.range' 0 n=l;clear ht hs
 induction l generalizing w with
 |nil=>simp[nu]
 |cons i l ih=>
  simp only[List.forIn_cons,nu,Sem.run_bind];generalize (part e xs (i*sz)).run P w=k;cases k with
  |ok a g=>
   simp only[Result.andThen_ok];generalize (part e ys (i*sz)).run P g=m;cases m with
   |ok b j=>
    simp only[Result.andThen_ok];generalize (Op.equalIn d e a b).run P j=o;cases o with
    |ok r s=>
     cases r
     ·simp only[Result.andThen_ok,Bool.not_false,if_true,Sem.run_pure]
     ·simp only[Result.andThen_ok,Bool.not_true,VM,if_false,Sem.run_pure];exact ih
    |halt x s=>simp[Result.andThen]
   |halt x j=>simp[Result.andThen]
  |halt x g=>simp[Result.andThen]
theorem Rv.agI{l:List AV}{v:Value}(h:Rv Φ (.ag l) v):∃vs:List Value,v= .agg vs.toArray∧RvL Φ l vs:=by simp only[Rv] at h;exact h
theorem H1:∀(d:Nat) (t:TypeId) (x y:AV) (X Y:Value) (r:Bool) (D:Nat),d≤D→eqT P d t x y=some r→Rv Φ x X→Rv Φ y Y→(Op.equalIn D t X Y).run P w= .ok r w:=by
 intro d
 induction d with
 |zero=>intro t x y X Y r D _ e;cases e
 |succ d ih=>
  intro t x y X Y r D hD e hx hy;obtain⟨D,rfl⟩:∃D',D=D'+1:=⟨D-1,by omega⟩;have hD:d≤D:=by omega
  replace e:eqT1 P (eqT P d) t x y=some r:=e;unfold eqT1 at e;split at e
  ·rename_i k hu;split at e
   ·obtain⟨he,rfl⟩:=Xy e
    have:=Y2 he;subst this
    rw[hx.iI,hy.iI,run_equalIn_int w D t _ _ _ _ hu,vy];rfl
   ·cases e
  ·rename_i hu;split at e
   ·rename_i l m;cases e;obtain⟨g,hx⟩:=hx.sI;obtain⟨j,hy⟩:=hy.sI;rw[hx,hy,zf];unfold str;rw[run_equalIn_string w D t _ _ hu,ByteArray.toList_eq,ByteArray.toList_eq]
    have:(l.map UInt8.ofNat==m.map UInt8.ofNat)=decide (l=m):=by
     rw[VL];simp only[decide_eq_true_iff,beq_iff_eq];exact⟨fun e=>nM g j e,fun e=>by rw[e]⟩
    rw[this]
   ·cases e
  ·rename_i hu;split at e
   ·cases e;rw[hx.bI,hy.bI,run_equalIn_bool' w D t _ _ hu]
   ·cases e
  ·rename_i fs hu;split at e
   ·rename_i xs ys;obtain⟨Xs,rfl,hX⟩:=hx.agI;obtain⟨Ys,rfl,hY⟩:=hy.agI;have hfs:P.fieldsOf t=fs:=by simp[Program.fieldsOf,hu]
    cases hp:P.stoodInHeld t with
    |true=>rw[hp] at e;cases e
    |false=>
     rw[hp] at e;replace e:eqFs P (eqT P d) xs ys fs.toList=some r:=e;rw[run_equalIn_agg w D t _ _ (by rw[hfs];exact hu) hp,hfs];revert e;generalize fs.toList=l;intro e;clear hu hfs hp
     induction l with
     |nil=>cases e;simp[Op.eqFields]
     |cons f l ihl=>
      replace e:(Bool.rec (ry P f.type xs ys f.offset (fun a b=>andO (eqT P d f.type a b) (eqFs P (eqT P d) xs ys l)) none) (eqFs P (eqT P d) xs ys l) (f.name == "_"):Option Bool)=some r:=e;cases hn:(f.name == "_") with
      |true=>
       rw[hn] at e;have hn:f.name= "_" :=by simpa using hn
       simp only[Op.eqFields,hn,ne_eq,not_true_eq_false,if_false];exact ihl e
      |false=>
       rw[hn] at e;have hn:¬f.name= "_" :=by simpa using hn
       obtain⟨a,b,A,B,g,j,o,s,C⟩:=ub (w:=w) e hX hY;simp only[Op.eqFields,ne_eq,hn,not_false_eq_true,if_true,Sem.run_bind,g,j,Result.andThen_ok];rcases CT C with ⟨q,rfl⟩|⟨q,u⟩
       ·rw[ih _ _ _ _ _ _ D hD q o s];simp
       ·rw[ih _ _ _ _ _ _ D hD q o s];simp only[Result.andThen_ok,Bool.not_true,VM,if_false];exact ihl u
   ·cases e
  ·rename_i n el hu;split at e
   ·rename_i xs ys;obtain⟨Xs,rfl,hX⟩:=hx.agI;obtain⟨Ys,rfl,hY⟩:=hy.agI;cases hs:szOf P el with
    |none=>rw[hs] at e;cases e
    |some sz=>
     rw[hs] at e;replace e:eqAr P (eqT P d el) el sz xs ys n 0=some r:=e;obtain⟨z,by_,hinf⟩:=Qo hs;obtain⟨inf,hi',_,hsz,_⟩:=Jk hinf;rw[ke (w:=w) D (sz:=sz) _ _ hu (by simp[sizeOf,typeInfo,hi',hsz])];have key:∀(n i:Nat),eqAr P (eqT P d el) el sz xs ys n (i*sz)=some r→(nu D el sz Xs.toArray Ys.toArray (List.range' i n)).run P w= .ok r w:=by
      intro n
      induction n with
      |zero=>intro i e;cases e;simp[nu]
      |succ n ihn=>
       intro i e;replace e:ry P el xs ys (i*sz) (fun a b=>andO (eqT P d el a b) (fz (Nat.add (i*sz) sz) (eqAr P (eqT P d el) el sz xs ys n))) none=some r:=e;obtain⟨a,b,A,B,g,j,o,s,C⟩:=ub (w:=w) e hX hY;rw[List.range'_succ];simp only[nu,Sem.run_bind,g,j,Result.andThen_ok];rcases CT C with ⟨q,rfl⟩|⟨q,u⟩
       ·rw[ih _ _ _ _ _ _ D hD q o s];simp
       ·rw[ih _ _ _ _ _ _ D hD q o s];simp only[Result.andThen_ok,Bool.not_true,VM,if_false];rw[Yx] at u;refine ihn (i+1) ?_;rw[ZW];exact u
     refine key n 0 ?_;rw[Jac];exact e
   ·cases e
  ·cases e
theorem rY{t:TypeId}(h:isIf P t=true):∃m,P.underlying t=some (.interface m):=by unfold isIf at h;split at h<;>first|exact⟨_,by assumption⟩|cases h
theorem jI{t:TypeId}(h:mE P t=true):∃a b,P.underlying t=some (.map a b):=by unfold mE at h;split at h<;>first|exact⟨_,_,by assumption⟩|cases h
theorem Fi{t e:TypeId}(h:rP P t=some e):P.underlying t=some (.pointer e):=by unfold rP at h;split at h<;>first|(cases h;assumption)|cases h
theorem vQ{o:Operand}(h:Z6 o=true):∃v,o= .const v:=by cases o<;>first|exact⟨_,rfl⟩|cases h
theorem eqI1{m:Array (String×TypeId)}{d:Nat}{u:TypeId}{p:Value}(hq:P.underlying t=some (.interface m)):(Op.equalIn (d+1) t .nilIface (.iface u p)).run P w= .ok false w:=by simp[Op.equalIn,run_underlying hq]
theorem eqI2{m:Array (String×TypeId)}{d:Nat}{u:TypeId}{p:Value}(hq:P.underlying t=some (.interface m)):(Op.equalIn (d+1) t (.iface u p) .nilIface).run P w= .ok false w:=by simp[Op.equalIn,run_underlying hq]
theorem eqI0{m:Array (String×TypeId)}{d:Nat}(hq:P.underlying t=some (.interface m)):(Op.equalIn (d+1) t .nilIface .nilIface).run P w= .ok true w:=by simp[Op.equalIn,run_underlying hq]
theorem eqM1{k e:TypeId}{d:Nat}{c:Option Nat}(hq:P.underlying t=some (.map k e)):(Op.equalIn (d+1) t (.map none) (.map c)).run P w= .ok c.isNone w:=by simp[Op.equalIn,run_underlying hq]
theorem eqM2{k e:TypeId}{d:Nat}{c:Nat}(hq:P.underlying t=some (.map k e)):(Op.equalIn (d+1) t (.map (some c)) (.map none)).run P w= .ok false w:=by simp[Op.equalIn,run_underlying hq]
def EqS(P:Program)(t:TypeId)(x y:Operand)(p q:Value)(r:Bool)(w:World):Prop:=
 (∀op,op= .eql∨op= .neq→(eqGuard op t x y p q).run P w= .ok () w)∧(binOp .eql t p q).run P w= .ok (.bool r) w∧(binOp .neq t p q).run P w= .ok (.bool (!r)) w
theorem EqS.of{p q:Value}{r:Bool}(h:iT p q=true∧(binOp .eql t p q).run P w= .ok (.bool r) w∧(binOp .neq t p q).run P w= .ok (.bool (!r)) w):EqS P t x y p q r w:=
 ⟨fun op _=>by rw[p0 h.1];rfl,h.2⟩
theorem MK{c:Bool}(hc:c=(Z6 x||Z6 y)){r:Bool}(e:eqV P c t a b=some r)(hx:Rv Φ a (ρ x))(hy:Rv Φ b (ρ y)):EqS P t x y (ρ x) (ρ y) r w:=by
 unfold eqV at e;split at e
 ·obtain⟨he,rfl⟩:=Xy e
  have:=Y2 he;subst this
  rw[hx.iI,hy.iI,vy];refine EqS.of ⟨rfl,?_,?_⟩
  ·rw[binOp_eql];rfl
  ·rw[binOp_neq];rfl
 ·obtain⟨he,rfl⟩:=Xy e;rw[hx.bI,hy.bI];exact EqS.of ⟨rfl,run_eql_bool w t _ _ (n6 he),by rw[run_neq_bool w t _ _ (n6 he)]⟩
 ·rename_i l m;cases e;obtain⟨i,hx⟩:=hx.sI;obtain⟨g,hy⟩:=hy.sI;rw[hx,hy,zf]
  have:decide (l=m)=(l.map UInt8.ofNat==m.map UInt8.ofNat):=by
   rw[VL];simp only[decide_eq_true_iff,beq_iff_eq];exact⟨fun e=>by rw[e],fun e=>nM i g e⟩
  refine EqS.of ⟨rfl,?_,?_⟩
  ·unfold str;rw[binOp_string_eql,ByteArray.toList_eq,ByteArray.toList_eq,this];rfl
  ·unfold str;rw[binOp_string_neq,ByteArray.toList_eq,ByteArray.toList_eq,this];rfl
 ·obtain⟨he,rfl⟩:=Xy e;obtain⟨q,hq⟩:=mw he;simp only[Rv] at hx hy;rw[hx,hy];exact EqS.of <| eq2 rfl (hr:=eqP1 hq)
 ·obtain⟨he,rfl⟩:=Xy e;obtain⟨q,hq⟩:=mw he;obtain⟨_,_,hy⟩:=hy.pI;simp only[Rv] at hx;rw[hx,hy];exact EqS.of <| eq2 rfl (hr:=eqP1 hq)
 ·obtain⟨he,rfl⟩:=Xy e;obtain⟨q,hq⟩:=mw he;obtain⟨_,_,hx⟩:=hx.pI;simp only[Rv] at hy;rw[hx,hy];exact EqS.of <| eq2 rfl (hr:=eqP2 hq)
 ·obtain⟨he,rfl⟩:=Xy e;obtain⟨q,hq⟩:=vj he;simp only[Rv] at hx hy;rw[hx,hy];exact EqS.of <| eq2 rfl (hr:=eqS1 hq)
 ·obtain⟨he,rfl⟩:=Xy e;obtain⟨q,hq⟩:=vj he;obtain⟨_,_,_,hy,_⟩:=hy.slI;simp only[Rv] at hx;rw[hx,hy];exact EqS.of <| eq2 rfl (hr:=eqS1 hq)
 ·obtain⟨he,rfl⟩:=Xy e;obtain⟨q,hq⟩:=vj he;obtain⟨_,_,_,hx,_⟩:=hx.slI;simp only[Rv] at hy;rw[hx,hy];exact EqS.of <| eq2 rfl (hr:=eqS2 hq)
 ·obtain⟨he,rfl⟩:=Xy e;obtain⟨_,_,_,hq⟩:=rH he;simp only[Rv] at hx hy;rw[hx,hy];exact EqS.of <| eq2 rfl (hr:=eqF0 hq)
 ·obtain⟨he,rfl⟩:=Xy e;obtain⟨_,_,_,hq⟩:=rH he;obtain⟨_,hy,_⟩:=hy.fnI;simp only[Rv] at hx;rw[hx,hy];exact EqS.of <| eq2 rfl (hr:=eqF1 hq)
 ·obtain⟨he,rfl⟩:=Xy e;obtain⟨_,_,_,hq⟩:=rH he;obtain⟨_,hx,_⟩:=hx.fnI;simp only[Rv] at hy;rw[hx,hy];exact EqS.of <| eq2 rfl (hr:=eqF2 hq)
 ·obtain⟨he,rfl⟩:=Xy e;obtain⟨i,g⟩:=Za he;obtain⟨_,hq⟩:=rY i;have hcc:Z6 x=true∨Z6 y=true:=by rw[hc] at g;simpa using g
  simp only[Rv] at hx hy;refine⟨fun op ho=>?_,?_⟩
  ·rw[hx,hy];rcases hcc with h|h<;>obtain⟨v,rfl⟩:=vQ h
   ·rcases ho with rfl|rfl<;>simp[eqGuard]
   ·rcases ho with rfl|rfl<;>cases x<;>simp[eqGuard]
  ·rw[hx,hy];refine⟨?_,?_⟩
   ·rw[show binOp .eql t .nilIface .nilIface=(do pure (.bool (←Op.equal t .nilIface .nilIface))) from rfl,eqIn,Sem.run_bind,eqI0 hq];rfl
   ·rw[show binOp .neq t .nilIface .nilIface=(do pure (.bool (!(←Op.equal t .nilIface .nilIface)))) from rfl,eqIn,Sem.run_bind,eqI0 hq];rfl
 ·obtain⟨he,rfl⟩:=Xy e;obtain⟨_,hq⟩:=rY he;simp only[Rv] at hx hy;obtain⟨_,hy,_⟩:=hy;rw[hx,hy];exact EqS.of <| eq2 rfl (hr:=eqI1 hq)
 ·obtain⟨he,rfl⟩:=Xy e;obtain⟨_,hq⟩:=rY he;simp only[Rv] at hx hy;obtain⟨_,hx,_⟩:=hx;rw[hx,hy];exact EqS.of <| eq2 rfl (hr:=eqI2 hq)
 ·obtain⟨he,rfl⟩:=Xy e;obtain⟨_,_,hq⟩:=jI he;simp only[Rv] at hx hy;rw[hx,hy];exact EqS.of <| eq2 rfl (hr:=eqM1 hq)
 ·obtain⟨he,rfl⟩:=Xy e;obtain⟨_,_,hq⟩:=jI he;simp only[Rv] at hx hy;obtain⟨_,_,hy⟩:=hy;rw[hx,hy];exact EqS.of <| eq2 rfl (hr:=eqM1 hq)
 ·obtain⟨he,rfl⟩:=Xy e;obtain⟨_,_,hq⟩:=jI he;simp only[Rv] at hx hy;obtain⟨_,_,hx⟩:=hx;rw[hx,hy];exact EqS.of <| eq2 rfl (hr:=eqM2 hq)
 ·obtain⟨he,rfl⟩:=Xy e;obtain⟨he,g⟩:=Za he;obtain⟨s,i⟩:=Za he;obtain⟨inf,hinf⟩:=Jag.1 s;obtain⟨el,hel,hte⟩:=Jad.1 hinf;have hq:=Fi hel;have k:=YT i;have n:=YT g;subst k;subst n;obtain⟨k,o,hx⟩:=hx.pI;obtain⟨n,j,hy⟩:=hy.pI;rw[o] at j;cases j;rw[hx,hy];have hall:∀(A:Addr) (d:Nat),(Op.equalIn (d+1) t (.pointer (some A)) (.pointer (some A))).run P w= .ok true w:=fun A d=>by
   simp[Op.equalIn,run_underlying hq,sizeOf,typeInfo,hte,run_sameAddr_same]
  exact EqS.of <| eq2 rfl (hr:=hall _ 9999)
 ·rename_i xs ys;cases hg:P.eqGuardType P.depth t with
  |true=>rw[hg] at e;cases e
  |false=>
   rw[hg] at e;have hr:=H1 (w:=w) 4 t _ _ _ _ _ 10000 (by omega) e hx hy;obtain⟨Xs,hX,_⟩:=hx.agI;obtain⟨Ys,hY,_⟩:=hy.agI;rw[hX,hY] at hr ⊢;refine⟨fun op _=>run_eqGuard_agg w op t x y _ _ hg,?_,?_⟩
   ·rw[run_eql_struct,hr];rfl
   ·rw[run_neq_struct,hr];rfl
 ·cases e
theorem binE{op:BinOp}{u:Value}(hg:(eqGuard op t x y (ρ x) (ρ y)).run P w= .ok () w)(hr:(binOp op t (ρ x) (ρ y)).run P w= .ok u w)(h:Rv Φ v u):
  St P ρ ⟨dst,.binOp op t x y yt,ty,pos,after,gd⟩ w (KP Φ w v) KF:=by
 refine R7 (v:=u) ?_ ⟨rfl,h⟩;simp[execOp,hg,hr]
theorem Ih(e:bEql P (Z6 x||Z6 y) t a b h= .ok v h'):h'=h∧(Rv Φ a (ρ x)→Rv Φ b (ρ y)→St P ρ ⟨dst,.binOp .eql t x y yt,ty,pos,after,gd⟩ w (KP Φ w v) KF):=by
 unfold bEql at e;split at e
 ·rename_i r hr;obtain⟨rfl,rfl⟩:=ym e;refine⟨rfl,fun hx hy=>?_⟩
  obtain⟨g,i,_⟩:=MK (w:=w) rfl hr hx hy;exact binE (g _ (.inl rfl)) i Rv.mb
 ·cases e
theorem L8(e:bNeq P (Z6 x||Z6 y) t a b h= .ok v h'):h'=h∧(Rv Φ a (ρ x)→Rv Φ b (ρ y)→St P ρ ⟨dst,.binOp .neq t x y yt,ty,pos,after,gd⟩ w (KP Φ w v) KF):=by
 unfold bNeq at e;split at e
 ·rename_i r hr;obtain⟨rfl,rfl⟩:=ym e;refine⟨rfl,fun hx hy=>?_⟩
  obtain⟨g,_,i⟩:=MK (w:=w) rfl hr hx hy;exact binE (g _ (.inr rfl)) i Rv.mb
 ·cases e
theorem M4:∀(a b:List Nat),(∀n∈a,n<256)→(∀n∈b,n<256)→ltL a b=Op.bytesLess (a.map UInt8.ofNat) (b.map UInt8.ofNat):=by
 intro a
 induction a with
 |nil=>intro b _ _;cases b<;>rfl
 |cons x a ih=>
  intro b ha hb;cases b with
  |nil=>rfl
  |cons y b=>
   have hx:=ha x (by simp);have hy:=hb y (by simp);have ih:=ih b (fun n hn=>ha n (by simp[hn])) (fun n hn=>hb n (by simp[hn]))
   show(Bool.rec (Bool.rec false (ltL a b) (Nat.beq x y)) true (Nat.blt x y):Bool)=_
   rw[U9,U9,sg,yc,ih];have i:(UInt8.ofNat x<UInt8.ofNat y)↔x<y:=by
    rw[UInt8.lt_iff_toNat_lt,u8n hx,u8n hy]
   have j:(UInt8.ofNat x=UInt8.ofNat y)↔x=y:=by
    rw[←UInt8.toNat_inj,u8n hx,u8n hy]
   by_cases e:x<y
   ·rw[decide_eq_true e];show true=_;simp[Op.bytesLess,i,e]
   ·rw[decide_eq_false e]
    show(Bool.rec false _ (decide (x=y)):Bool)=_
    by_cases g:x=y
    ·rw[decide_eq_true g];subst g;simp[Op.bytesLess]
    ·rw[decide_eq_false g];simp[Op.bytesLess,i,j,e,g]
theorem JD(e:bLss a b h= .ok v h'):h'=h∧(Rv Φ a (ρ x)→Rv Φ b (ρ y)→St P ρ ⟨dst,.binOp .lss t x y yt,ty,pos,after,gd⟩ w (KP Φ w v) KF):=by
 unfold bLss at e;split at e
 ·obtain⟨he,e⟩:=recB e;obtain⟨rfl,rfl⟩:=ym e;refine⟨rfl,fun hx hy=>?_⟩
  have:=Y2 he;subst this
  exact SG hx.iI hy.iI (kn _ _).symm ⟨rfl,Rv.mb⟩
 ·obtain⟨rfl,rfl⟩:=ym e;refine⟨rfl,fun hx hy=>?_⟩
  obtain⟨g,hx⟩:=hx.sI;obtain⟨i,hy⟩:=hy.sI;exact Um hx hy (M4 _ _ g i).symm ⟨rfl,Rv.mb⟩
 ·cases e
theorem L1(e:bLeq a b h= .ok v h'):h'=h∧(Rv Φ a (ρ x)→Rv Φ b (ρ y)→St P ρ ⟨dst,.binOp .leq t x y yt,ty,pos,after,gd⟩ w (KP Φ w v) KF):=by
 unfold bLeq at e;split at e
 ·obtain⟨he,e⟩:=recB e;obtain⟨rfl,rfl⟩:=ym e;refine⟨rfl,fun hx hy=>?_⟩
  have:=Y2 he;subst this
  exact SU hx.iI hy.iI (by rw[kn,←decide_not,decide_eq_decide];omega) ⟨rfl,Rv.mb⟩
 ·cases e
theorem H5(e:bGtr a b h= .ok v h'):h'=h∧(Rv Φ a (ρ x)→Rv Φ b (ρ y)→St P ρ ⟨dst,.binOp .gtr t x y yt,ty,pos,after,gd⟩ w (KP Φ w v) KF):=by
 unfold bGtr at e;split at e
 ·obtain⟨he,e⟩:=recB e;obtain⟨rfl,rfl⟩:=ym e;refine⟨rfl,fun hx hy=>?_⟩
  have:=Y2 he;subst this
  exact SM hx.iI hy.iI (kn _ _).symm ⟨rfl,Rv.mb⟩
 ·cases e
theorem Iu(e:bGeq a b h= .ok v h'):h'=h∧(Rv Φ a (ρ x)→Rv Φ b (ρ y)→St P ρ ⟨dst,.binOp .geq t x y yt,ty,pos,after,gd⟩ w (KP Φ w v) KF):=by
 unfold bGeq at e;split at e
 ·obtain⟨he,e⟩:=recB e;obtain⟨rfl,rfl⟩:=ym e;refine⟨rfl,fun hx hy=>?_⟩
  have:=Y2 he;subst this
  exact SV hx.iI hy.iI (by rw[kn,←decide_not,decide_eq_decide];omega) ⟨rfl,Rv.mb⟩
 ·cases e
end
theorem wj(k:IntKind){z z':Int}(h:z%2^k.bits=z'%2^k.bits):k.wrap z=k.wrap z':=by unfold IntKind.wrap;simp only[h]
theorem Bb(k:IntKind)(a:Int):k.wrap ((BitVec.ofInt k.bits (if k.signed then -1 else k.max) ^^^ BitVec.ofInt k.bits a).toNat:Int)=k.wrap (-1-a):=by
 have e:BitVec.ofInt k.bits (if k.signed then -1 else k.max)=BitVec.allOnes k.bits:=by cases k<;>rfl
 rw[e,BitVec.allOnes_xor,BitVec.toNat_not,VH];apply wj;have hN:(0:Int)<2^k.bits:=Int.pow_pos (by omega);generalize hn:(2:Int)^k.bits=N at *;have hc:((2^k.bits:Nat):Int)=N:=by rw[←hn];simp
 have i:=Int.emod_add_mul_ediv a N;have j:=VX a (show N≠0 by omega);have l:=VW a hN;have g:((2^k.bits-1-(a%((2^k.bits:Nat):Int)).toNat:Nat):Int)=(-1-a)+N*(a/N+1):=by
  rw[Int.mul_add,Wl,hc]
  have:((2^k.bits-1-(a%N).toNat:Nat):Int)=N-1-a%N:=by omega
  rw[this];omega
 rw[g,VS]
def Pu(P:Program)(op:Op)(f:Fr)(v:AV):Prop:=∀(Φ:Phi) (F:Wf.Fr) (w:World) (dst:Option Tmp) (ty:TypeId) (pos:String) (after:Array Edge) (gd:Option (Nat×Bool)),FR Φ f F→
 St P (fe F) ⟨dst,op,ty,pos,after,gd⟩ w (KP Φ w v) KF
section
variable {P:Program} {f:Fr} {v:AV} {h h':Hp}
theorem GD{op:BinOp}{t yt:TypeId}{x y:Operand}(e:mz P op t x y f h= .ok v h'):h'=h∧Pu P (.binOp op t x y yt) f v:=by
 have key:∀ {g:AV→AV→Hp→Res},g (opd f x) (opd f y) h= .ok v h'→(∀ {Φ:Phi} {ρ:Operand→Value} {dst:Option Tmp} {ty:TypeId} {pos:String} {after:Array Edge} {gd:Option (Nat×Bool)} {w:World},
   g (opd f x) (opd f y) h= .ok v h'→h'=h∧(Rv Φ (opd f x) (ρ x)→Rv Φ (opd f y) (ρ y)→St P ρ ⟨dst,.binOp op t x y yt,ty,pos,after,gd⟩ w (KP Φ w v) KF))→h'=h∧Pu P (.binOp op t x y yt) f v:=by
  intro g hg hh;refine⟨(hh (Φ:=fun _=>none) (ρ:=fun _=> .nilFunc) (dst:=none) (ty:=0) (pos:= "") (after:= #[]) (gd:=none) (w:=default) hg).1,?_⟩;intro Φ F w dst ty pos after gd hF
  exact(hh hg).2 (Jb hF x) (Jb hF y)
 cases op
 ·exact key (g:=bAdd) e L6
 ·exact key (g:=bSub) e Iy
 ·exact key (g:=bMul) e Lj
 ·exact key (g:=bQuo) e MN
 ·exact key (g:=bRem) e HT
 all_goals first
  |exact key (g:=Vr fun m n=>Nat.xor m (Nat.land m n)) e sM
  |exact key (g:=Vr Nat.land) e LY
  |exact key (g:=Vr Nat.lor) e Ra
  |exact key (g:=Vr Nat.xor) e HH
  |exact key (g:=bShl) e Me
  |exact key (g:=bShr) e M2
  |exact key (g:=bEql P (Z6 x||Z6 y) t) e Ih
  |exact key (g:=bNeq P (Z6 x||Z6 y) t) e L8
  |exact key (g:=bLss) e JD
  |exact key (g:=bLeq) e L1
  |exact key (g:=bGtr) e H5
  |exact key (g:=bGeq) e Iu
  |cases e
theorem qp{x:Operand}(e:mj x f h= .ok v h'):h'=h∧Pu P (.move x) f v∧Pu P (.assign x) f v:=by
 obtain⟨rfl,rfl⟩:=Ju e;exact⟨rfl,fun Φ F w dst ty pos after gd hF=>RP ⟨rfl,Jb hF x⟩,fun Φ F w dst ty pos after gd hF=>St.assign ⟨rfl,Jb hF x⟩⟩
theorem wU{c a b:Operand}(e:yl c a b f h= .ok v h'):h'=h∧Pu P (.pick c a b) f v:=by
 unfold yl at e;split at e
 ·rename_i t ht;cases t
  ·obtain⟨rfl,rfl⟩:=Ju e;refine⟨rfl,fun Φ F w dst ty pos after gd hF=>?_⟩
   have:=Jb hF c
   rw[ht] at this;exact Sy this.bI ⟨rfl,Jb hF b⟩
  ·obtain⟨rfl,rfl⟩:=Ju e;refine⟨rfl,fun Φ F w dst ty pos after gd hF=>?_⟩
   have:=Jb hF c
   rw[ht] at this;exact Sy this.bI ⟨rfl,Jb hF a⟩
 ·cases e
theorem mh{x:Operand}(e:Y6 x f h= .ok v h'):h'=h∧Pu P (.nilCheck x) f v:=by
 unfold Y6 at e;split at e
 ·rename_i id off hx;obtain⟨rfl,rfl⟩:=Ju e;refine⟨rfl,fun Φ F w dst ty pos after gd hF=>?_⟩
  have:=Jb hF x
  rw[hx] at this;obtain⟨e,he,hv⟩:=this.pI;exact S0 hv ⟨rfl,Rv.mp he⟩
 ·rename_i k c hx;obtain⟨rfl,rfl⟩:=Ju e;refine⟨rfl,fun Φ F w dst ty pos after gd hF=>?_⟩
  have hr:=Jb hF x;rw[hx] at hr;obtain⟨vs,hv,_⟩:=hr.fnI;refine R7 (v:=fe F x) (w':=w) ?_ ⟨rfl,hr⟩;simp[execOp,hv]
 ·rename_i g off hx;obtain⟨rfl,rfl⟩:=Ju e;refine⟨rfl,fun Φ F w dst ty pos after gd hF=>?_⟩
  have hr:=Jb hF x;rw[hx] at hr;have hv:=hr;simp only[Rv] at hv;exact S0 hv ⟨rfl,by rw[←hv];exact hr⟩
 ·cases e
theorem LD{op:UnOp}{t:TypeId}{x:Operand}(e:evUn op x f h= .ok v h'):h'=h∧Pu P (.unOp op t x) f v:=by
 unfold evUn at e;split at e
 ·rename_i hx;obtain⟨rfl,rfl⟩:=ym e;refine⟨rfl,fun Φ F w dst ty pos after gd hF=>?_⟩
  have:=Jb hF x
  rw[hx] at this;exact Sr this.bI ⟨rfl,Rv.mb⟩
 ·rename_i hx;obtain⟨rfl,rfl⟩:=Q5 e;refine⟨rfl,fun Φ F w dst ty pos after gd hF=>?_⟩
  have:=Jb hF x
  rw[hx] at this;exact St.neg this.iI (K3 _ _).symm ⟨rfl,Rv.mi⟩
 ·rename_i k a hx;obtain⟨rfl,rfl⟩:=Q5 e;refine⟨rfl,fun Φ F w dst ty pos after gd hF=>?_⟩
  have hr:=Jb hF x;rw[hx] at hr;refine R7 (v:= .int k (jv k (Int.sub (Int.negSucc 0) a))) (w':=w) ?_ ⟨rfl,Rv.mi⟩;rw[K3];have g:Op.intBits .xor k (if k.signed then -1 else k.max) a=pure (.int k (k.wrap ((Int.negSucc 0).sub a))):=by
   show pure (Value.int k (k.wrap ((BitVec.ofInt k.bits (if k.signed then -1 else k.max) ^^^ BitVec.ofInt k.bits a).toNat:Int)))=_;rw[Bb];rfl
  simp[execOp,hr.iI,Op.unary,g]
 ·cases e
theorem ua{s d:TypeId}{x:Operand}(e:Qu P s d x f h= .ok v h'):h'=h∧Pu P (.convert s d x) f v:=by
 unfold Qu at e;split at e
 ·rename_i hx;split at e
  ·rename_i j hj;obtain⟨hs,e⟩:=recB e;obtain⟨rfl,rfl⟩:=Q5 e;refine⟨rfl,fun Φ F w dst ty pos after gd hF=>?_⟩
   have:=Jb hF x
   rw[hx] at this;exact R2 hs (tB hj) this.iI (K3 _ _).symm ⟨rfl,Rv.mi⟩
  ·cases e
 ·rename_i l hx;obtain⟨hs,e⟩:=recB e;obtain⟨rfl,rfl⟩:=Ju e;obtain⟨g,i⟩:=Za hs;refine⟨rfl,fun Φ F w dst ty pos after gd hF=>?_⟩
  have hr:=Jb hF x;rw[hx] at hr;refine R7 (v:=fe F x) (w':=w) ?_ ⟨rfl,hr⟩;obtain⟨_,hv⟩:=hr.sI;simp[execOp,hv,str,convert,run_underlying (V1 g),run_underlying (V1 i)]
 ·cases e
theorem i6{s:TypeId}{x:Operand}{i:Nat}(e:Yp P s x i f h= .ok v h'):h'=h∧Pu P (.fieldAddr s x i) f v:=by
 unfold Yp at e;split at e
 ·rename_i id off hx;split at e
  ·rename_i o ho;rw[Yx] at e;obtain⟨rfl,rfl⟩:=Ju e;refine⟨rfl,fun Φ F w dst ty pos after gd hF=>?_⟩
   have:=Jb hF x
   rw[hx] at this;obtain⟨e,he,hv⟩:=this.pI;exact RI ho hv ⟨rfl,by rw[YD];exact Rv.mp he⟩
  ·cases e
 ·rename_i g off hx;split at e
  ·rename_i o ho;rw[Yx] at e;obtain⟨rfl,rfl⟩:=Ju e;refine⟨rfl,fun Φ F w dst ty pos after gd hF=>?_⟩
   have hr:=Jb hF x;rw[hx] at hr;simp only[Rv] at hr;exact RI ho hr ⟨rfl,by simp only[Rv];rfl⟩
  ·cases e
 ·cases e
theorem gY{t n e:Nat}(h:nF P t=some (n,e)):P.underlying t=some (.array n e):=by unfold nF at h;split at h<;>first|(cases h;assumption)|cases h
theorem S2 {ρ:Operand→Value} {dst:Option Tmp} {ty:TypeId} {pos:String} {after:Array Edge} {gd:Option (Nat×Bool)} {w:World} {K:Value→World→Prop} {Kp:List PanicEntry→World→Prop}
  {x i:Operand} {t e n:Nat} {b o:Nat} {k:IntKind} {a:Int} {j:Nat} {inf:TypeInfo} (ht:P.underlying t=some (.array n e)) (hi:P.info? e=some inf)
  (hx:ρ x= .pointer (some ⟨b,o,none⟩)) (hy:ρ i= .int k a) (ha:a=j) (hj:j<n) (h:K (.pointer (some ⟨b,o+j*inf.size,none⟩)) w):
  St P ρ ⟨dst,.indexAddr t x i,ty,pos,after,gd⟩ w K Kp:=by
 subst ha;refine R7 (v:= .pointer (some ⟨b,o+j*inf.size,none⟩)) ?_ h;simp[execOp,hx,hy,Instr.indexAt,Instr.sureAddr,asIntOf,run_underlying ht,sizeOf,typeInfo,hi,hj,Addr.add_lit]
theorem jB{t:TypeId}{x i:Operand}(e:Zz P t x i f h= .ok v h'):h'=h∧Pu P (.indexAddr t x i) f v:=by
 unfold Zz at e;split at e
 ·rename_i id off n z cap hx;split at e
  ·cases e
  ·rename_i sz hsz;obtain⟨k,j,hi,e⟩:=recN e;obtain⟨hc,e⟩:=recB e;obtain⟨g,l⟩:=Za hc;rw[Yx] at e;obtain⟨rfl,rfl⟩:=Ju e;have hz:sz=z:=YT l;subst hz;refine⟨rfl,fun Φ F w dst ty pos after gd hF=>?_⟩
   have hxs:=Jb hF x;have his:=Jb hF i;rw[hx] at hxs;rw[hi] at his;obtain⟨e,c,he,hv,_⟩:=hxs.slI;rw[Jad] at hsz;obtain⟨el,hel,hsz⟩:=hsz;obtain⟨zv,by_,hinf⟩:=Qo hsz;obtain⟨inf,hi',_,hs,_⟩:=Jk hinf;refine SI (jk hel) hi' hs hv his.iI rfl (Zx g) ⟨rfl,?_⟩;rw[YD];exact Rv.mp he
 ·rename_i id off hx;split at e
  ·cases e
  ·rename_i q hq;split at e
   ·cases e
   ·rename_i sz hsz;obtain⟨k,j,hi,e⟩:=recN e;obtain⟨hc,e⟩:=recB e;obtain⟨g,l⟩:=Za hc;rw[Yx] at e;obtain⟨rfl,rfl⟩:=Ju e;refine⟨rfl,fun Φ F w dst ty pos after gd hF=>?_⟩
    have hxs:=Jb hF x;have his:=Jb hF i;rw[hx] at hxs;rw[hi] at his;obtain⟨e,he,hv⟩:=hxs.pI;obtain⟨zv,by_,hinf⟩:=Qo hsz;obtain⟨inf,hi',_,hs,_⟩:=Jk hinf;subst hs;refine S2 (gY hq) hi' hv his.iI rfl (Zx g) ⟨rfl,?_⟩;rw[YD];exact Rv.mp he
 ·rename_i id off hx;split at e
  ·cases e
  ·rename_i q hq;split at e
   ·cases e
   ·rename_i sz hsz;obtain⟨k,j,hi,e⟩:=recN e;obtain⟨hc,e⟩:=recB e;obtain⟨g,l⟩:=Za hc;rw[Yx] at e;obtain⟨rfl,rfl⟩:=Ju e;refine⟨rfl,fun Φ F w dst ty pos after gd hF=>?_⟩
    have hxs:=Jb hF x;have his:=Jb hF i;rw[hx] at hxs;rw[hi] at his;simp only[Rv] at hxs;obtain⟨zv,by_,hinf⟩:=Qo hsz;obtain⟨inf,hi',_,hs,_⟩:=Jk hinf;subst hs;exact S2 (gY hq) hi' hxs his.iI rfl (Zx g) ⟨rfl,by simp only[Rv];rfl⟩
 ·cases e
theorem sD{t:TypeId}{x i:Operand}(e:Xr P t x i f h= .ok v h'):h'=h∧Pu P (.index t x i) f v:=by
 unfold Xr at e;split at e
 ·rename_i l hx;obtain⟨ht,e⟩:=recB e;obtain⟨k,j,hi,e⟩:=recN e;split at e
  ·rename_i c hc;obtain⟨rfl,rfl⟩:=Ju e;rw[jy] at hc;refine⟨rfl,fun Φ F w dst ty pos after gd hF=>?_⟩
   have hxs:=Jb hF x;have his:=Jb hF i;rw[hx] at hxs;rw[hi] at his;obtain⟨hl,hv⟩:=hxs.sI;have hcl:=hl c (XO hc);refine SR (c:=UInt8.ofNat c) (V1 ht) hv his.iI rfl (by rw[VA,hc];rfl) ⟨rfl,?_⟩;rw[u8n hcl];exact Rv.mi
  ·cases e
 ·rename_i cs hx;split at e
  ·cases e
  ·rename_i q hq;split at e
   ·cases e
   ·rename_i sz hsz;obtain⟨k,j,hi,e⟩:=recN e;obtain⟨hc,e⟩:=recB e;split at e
    ·rename_i r hr;obtain⟨rfl,rfl⟩:=Ju e;refine⟨rfl,fun Φ F w dst ty pos after gd hF=>?_⟩
     have hxs:=Jb hF x;have his:=Jb hF i;rw[hx] at hxs;rw[hi] at his;obtain⟨Cs,hv,hC⟩:=hxs.agI;obtain⟨A,g,m⟩:=kb (w:=w) hr hC;obtain⟨zv,by_,hinf⟩:=Qo hsz;obtain⟨inf,hi',_,hs,_⟩:=Jk hinf;subst hs;refine R7 (v:=A) (w':=w) ?_ ⟨rfl,m⟩;have hlt:j<q.1:=Zx hc;have h1':(part q.2 Cs.toArray (j*inf.size)).run P w= .ok A w:=g;simp[execOp,hv,his.iI,Instr.index,asIntOf,run_underlying (gY hq),sizeOf,typeInfo,hi',hlt,h1']
    ·cases e
 ·cases e
theorem FK{s i:Nat}{q:TypeId×Nat}(h:qW P s i=some q):∃fs:Array Field,∃fl,P.underlying s=some (.struct fs)∧fs[i]? =some fl∧q=(fl.type,fl.offset):=by
 unfold qW at h;split at h
 ·rename_i fs hu;rw[Jah] at h;obtain⟨fl,e,g⟩:=h;exact⟨fs,fl,hu,e,g.symm⟩
 ·cases h
theorem uJ{s:TypeId}{x:Operand}{i:Nat}(e:Q4 P s x i f h= .ok v h'):h'=h∧Pu P (.field s x i) f v:=by
 unfold Q4 at e;split at e
 ·rename_i cs hx;split at e
  ·cases e
  ·rename_i q hq;split at e
   ·rename_i r hr;obtain⟨rfl,rfl⟩:=Ju e;refine⟨rfl,fun Φ F w dst ty pos after gd hF=>?_⟩
    have hxs:=Jb hF x;rw[hx] at hxs;obtain⟨Cs,hv,hC⟩:=hxs.agI;obtain⟨A,g,j⟩:=kb (w:=w) hr hC;obtain⟨fs,fl,hu,hf,rfl⟩:=FK hq;refine R7 (v:=A) (w':=w) ?_ ⟨rfl,j⟩;have h1':(part fl.type Cs.toArray fl.offset).run P w= .ok A w:=g;simp[execOp,hv,Instr.field,run_underlying hu,hf,asAgg,h1']
   ·cases e
 ·cases e
theorem zt{t:TypeId}{x:Operand}(e:Xf P t x f h= .ok v h'):h'=h∧Pu P (.makeInterface t x) f v:=by
 have e:Res.no 999=Res.ok v h':=e;cases e
theorem KJ{Φ:Phi}{w:World}{t:TypeId}{z:AV}(h:zvOf P t=some z):∃Z,(zeroValue t).run P w= .ok Z w∧Rv Φ z Z:=by
 unfold zvOf at h;rw[Jah] at h;obtain⟨⟨Z,s,b⟩,e,g⟩:=h;obtain⟨inf,hi,hz,_,_⟩:=Jk e;refine⟨Z,by simp[zeroValue,typeInfo,hi,hz],?_⟩;subst g;dsimp only;split
 ·rename_i cs;simp only[Rv];exact⟨cs.toList,rfl,qv _⟩
 ·exact qj _
theorem mG{x:Operand}{i:Nat}(e:Kn x i f h= .ok v h'):h'=h∧Pu P (.extract x i) f v:=by
 unfold Kn at e;split at e
 ·rename_i l hx;split at e
  ·rename_i r hu;obtain⟨rfl,rfl⟩:=Ju e;rw[jy] at hu;refine⟨rfl,fun Φ F w dst ty pos after gd hF=>?_⟩
   have hxs:=Jb hF x;rw[hx] at hxs;simp only[Rv] at hxs;obtain⟨vs,hv,hl⟩:=hxs;obtain⟨y,hy,hr⟩:=hl.at hu;exact St.extract hv (by simpa using hy) ⟨rfl,hr⟩
  ·cases e
 ·cases e
theorem lN{fn:Fn}{first cap:Array Operand}(e:Ki fn first cap f h= .ok v h'):h'=h∧Pu P (.makeFunc fn first cap) f v:=by
 unfold Ki at e;split at e
 ·rename_i k;split at e
  ·rename_i hf;obtain⟨rfl,rfl⟩:=Ju e;refine⟨rfl,fun Φ F w dst ty pos after gd hF=>?_⟩
   refine R7 (v:= .func (.func k) #[] (cap.toList.map (fe F)).toArray) (w':=w) ?_ ⟨rfl,?_⟩
   ·have g:first= #[]:=by apply VC;rw[hf]
    have i:cap.map (fe F)=(cap.toList.map (fe F)).toArray:=by apply VC;simp
    subst g;simp[execOp,Instr.makeFunc,i]
   ·simp only[Rv];exact⟨_,rfl,K7 hF _⟩
  ·cases e
 ·cases e
theorem Nj{ok:Bool}{at_:TypeId}(e:(Bool.rec (Res.no 171) (match zvOf P at_ with|some z=>Res.ok (.tp [z,.b false]) h|none=>Res.no 171) ok:Res)= .ok v h'):
  h'=h∧ok=true∧∃z,zvOf P at_=some z∧v= .tp [z,.b false]:=by
 cases ok with
 |false=>cases e
 |true=>
  have e:(match zvOf P at_ with|some z=>Res.ok (.tp [z,.b false]) h|none=>Res.no 171)= .ok v h':=e;split at e
  ·rename_i z hz;obtain⟨rfl,rfl⟩:=Ju e;exact⟨rfl,rfl,z,hz,rfl⟩
  ·cases e
theorem Rv.tp2{Φ:Phi}{a b:AV}{A B:Value}(e:Rv Φ a A)(g:Rv Φ b B):Rv Φ (.tp [a,b]) (.tuple #[A,B]):=by
 simp only[Rv];exact⟨[A,B],rfl,by simp only[RvL];exact⟨A,[B],rfl,e,B,[],rfl,g,rfl⟩⟩
theorem vb{x:Operand}{xt at_:TypeId}{ok:Bool}(e:Q0 P x at_ ok f h= .ok v h'):h'=h∧Pu P (.typeAssert x xt at_ ok) f v:=by
 have e:Res.no 999=Res.ok v h':=e;cases e
end
section
variable {P:Program} {f:Fr} {v:AV} {h h':Hp}
theorem ku{Φ:Phi}{a:AV}{l:List AV}{v:Value}(hc:Zn a=some l)(h:Rv Φ a v):∃vs:List Value,v.cells=vs.toArray∧RvL Φ l vs:=by
 unfold Zn at hc;split at hc
 ·cases hc
 ·cases hc
 ·cases hc;simp only[Rv] at h;obtain⟨vs,rfl,hl⟩:=h;exact⟨vs,rfl,hl⟩
 ·rename_i b d e;cases hc;refine⟨[v],?_,by simp only[RvL];exact⟨v,[],rfl,h,rfl⟩⟩;cases a<;>first
   |(exact absurd rfl b;done)
   |(exact absurd rfl (d _);done)
   |(exact absurd rfl (e _);done)
   |(simp only[Rv] at h;first
     |(subst h;rfl)
     |(obtain⟨_,rfl⟩:=h;rfl)
     |(obtain⟨_,_,rfl⟩:=h;rfl)
     |(obtain⟨_,rfl,_⟩:=h;rfl)
     |(obtain⟨_,_,rfl,_⟩:=h;rfl)
     |(obtain⟨_,_,_,rfl,_⟩:=h;rfl))
theorem tT(vs:List Value)(off:Nat)(C:Array Value)(hf:off+vs.length≤C.size):
  (vs.toArray.zipIdx.foldl (fun cs (c,j)=>cs.setIfInBounds (off+j) c) C)=(C.toList.take off++vs++C.toList.drop (off+vs.length)).toArray:=by
 have key:∀(vs:List Value) (k off:Nat) (C:List Value),off+k+vs.length≤C.length→
   ((vs.zipIdx k).foldl (fun(cs:Array Value) p=>cs.setIfInBounds (off+p.2) p.1) C.toArray)=(C.take (off+k)++vs++C.drop (off+k+vs.length)).toArray:=by
  intro vs
  induction vs with
  |nil=>intro k off C h;simp
  |cons v vs ih=>
   intro k off C h;rw[Uw] at h;rw[List.zipIdx_cons,List.foldl_cons];have b:(C.toArray.setIfInBounds (off+k) v)=(C.set (off+k) v).toArray:=by simp
   rw[b,ih (k+1) off (C.set (off+k) v) (by rw[W7];omega)]
   congr 1
   have hlt:off+k<C.length:=by omega
   rw[XY,if_pos hlt];have a:(C.take (off+k)).length=off+k:=by rw[UH];omega
   rw[show off+(k+1)=(C.take (off+k)).length+1 by rw[a];omega];rw[List.take_append,List.drop_append];simp only[a,Uw];rw[UU (by rw[a];omega)];have d:off+k+1-(off+k)=1:=by omega
   have e:off+k+1+vs.length-(off+k)=vs.length+1:=by omega
   rw[d,e,UY (l:=C.take (off+k)) (by rw[a];omega)];simp only[List.take_succ_cons,List.take_zero,UZ,List.drop_succ_cons,UF,WE];rw[List.drop_drop]
   congr 4
   omega
 have:=key vs 0 off C.toList (by simpa using hf)
 simp only[YH] at this;rw[←this];rw[←Array.foldl_toList];simp
theorem sL{place:Nat→Option (Nat×Nat)}{k:List AV→Res}:∀(l:List (Nat×Operand)) (cs:List AV),jx place f l cs k= .ok v h'→
  ∃cs',k cs'= .ok v h'∧∀(Φ:Phi) (F:Wf.Fr) (C:List Value),FR Φ f F→RvL Φ cs C→∃C',Instr.fill place C.toArray (l.map fun p=>(p.1,fe F p.2))=some C'.toArray∧RvL Φ cs' C':=by
 intro l
 induction l with
 |nil=>intro cs e;exact⟨cs,e,fun Φ F C _ hC=>⟨C,rfl,hC⟩⟩
 |cons p l ih=>
  intro cs e;unfold jx at e;simp only at e;split at e
  ·cases e
  ·rename_i q hq;split at e
   ·cases e
   ·rename_i vs hvs;obtain⟨hl,e⟩:=recB e;have hl:=YT hl;rw[Y4] at hl;have e':(putK cs q.1 vs fun cs'=>jx place f l cs' k)= .ok v h':=e;rcases tU cs q.1 vs (fun cs'=>jx place f l cs' k) with ⟨b,hle⟩|⟨n,b⟩
    ·have g:jx place f l (cs.take q.1++vs++cs.drop (q.1+vs.length)) k= .ok v h':=b▸e';obtain⟨cs',i,j⟩:=ih _ g;refine⟨cs',i,fun Φ F C hF hC=>?_⟩
     obtain⟨us,d,a⟩:=ku hvs (Jb hF p.2);have hul:=a.len;have hcl:=hC.len;obtain⟨C',m,o⟩:=j Φ F (C.take q.1++us++C.drop (q.1+us.length)) hF (by
      rw[hul]
      exact(((hC.take _).app a).app (hC.drop _)))
     refine⟨C',?_,o⟩;rw[U9,Instr.fill,hq];simp only;rw[d]
     have:¬(us.toArray.size≠q.2∨q.1+us.toArray.size>C.toArray.size):=by simp;omega
     simp only[VP,decide_eq_true_eq];rw[if_neg this,tT us q.1 C.toArray (by simp;omega)];exact m
    ·rw[b] at e';cases e'
theorem p9{t:TypeId}{pl:List (Nat×Nat)}(h:iB P t=some pl):∃fs,P.underlying t=some (.struct fs)∧fs.toList.mapM (fun f=>(P.info? f.type).map fun i=>(f.offset,i.size))=some pl:=by
 unfold iB at h;split at h
 ·rename_i fs hu;exact⟨fs,hu,h⟩
 ·cases h
theorem uR{t:TypeId}{ps:Array (Nat×Operand)}(e:V9 P t ps f h= .ok v h'):h'=h∧Pu P (.build t ps) f v:=by
 unfold V9 at e;split at e
 ·rename_i pl z hpl hz;obtain⟨cs',b,d⟩:=sL _ _ e;obtain⟨rfl,rfl⟩:=Ju b;refine⟨rfl,fun Φ F w dst ty pos after gd hF=>?_⟩
  obtain⟨zv,sz,by_,hinf,rfl⟩:=lH hz;obtain⟨inf,hi',hzz,_,_⟩:=Jk hinf;obtain⟨C',a,g⟩:=d Φ F zv.cells.toList hF (qv _);obtain⟨fs,hu,hpl⟩:=p9 hpl;refine Si (cs:=C') rfl ?_ ⟨rfl,by simp only[Rv];exact⟨C',rfl,g⟩⟩;unfold Program.built;rw[hi',hu];simp only[hzz,hpl];have j:(fun x=>pl.toArray[x]?)=nth pl:=by funext i;rw[jy];simp
  rw[j];have k:zv.cells.toList.toArray=zv.cells:=by simp
  rw[k] at a;exact a
 ·cases e
theorem DK{ts:Array TypeId}{args:Array Operand}(e:tL P ts.toList (opds f args.toList) h= .ok v h'):h'=h∧Pu P (.call {callee:= .builtin .len,args:=args,argTypes:=ts}) f v:=by
 have key:∀ {t:TypeId} {a:AV},ts.toList=[t]→opds f args.toList=[a]→∃x,args= #[x]∧ts= #[t]∧opd f x=a:=by
  intro t a d b;have i:ts= #[t]:=by apply VC;rw[d]
  cases hx:args.toList with
  |nil=>rw[hx] at b;cases b
  |cons x r=>
   rw[hx] at b;have g:opd f x::opds f r=[a]:=b;cases r with
   |cons y r=>cases g
   |nil=>
    refine⟨x,?_,i,?_⟩
    ·apply VC;rw[hx]
    ·exact(List.cons.inj g).1
 unfold tL at e;split at e
 ·rename_i t id off n z cap d b;obtain⟨x,rfl,rfl,hx⟩:=key d b;obtain⟨ht,e⟩:=recB e;obtain⟨rfl,rfl⟩:=Ju e;refine⟨rfl,fun Φ F w dst ty pos after gd hF=>?_⟩
  have hr:=Jb hF x;rw[hx] at hr;obtain⟨_,_,_,hv,_⟩:=hr.slI;obtain⟨el,hel⟩:=vj ht;exact St.len hel hv ⟨rfl,Rv.mi⟩
 ·rename_i t d b;obtain⟨x,rfl,rfl,hx⟩:=key d b;obtain⟨ht,e⟩:=recB e;obtain⟨rfl,rfl⟩:=Ju e;refine⟨rfl,fun Φ F w dst ty pos after gd hF=>?_⟩
  have hr:=Jb hF x;rw[hx] at hr;simp only[Rv] at hr;obtain⟨el,hel⟩:=vj ht;exact St.len hel hr ⟨rfl,Rv.mi⟩
 ·rename_i t d b;obtain⟨x,rfl,rfl,hx⟩:=key d b;obtain⟨ht,e⟩:=recB e;obtain⟨rfl,rfl⟩:=Ju e;refine⟨rfl,fun Φ F w dst ty pos after gd hF=>?_⟩
  have hr:=Jb hF x;rw[hx] at hr;simp only[Rv] at hr;obtain⟨_,_,hr,_⟩:=hr;obtain⟨el,hel⟩:=vj ht;exact St.len hel hr ⟨rfl,Rv.mi⟩
 ·rename_i t l d b;obtain⟨x,rfl,rfl,hx⟩:=key d b;obtain⟨ht,e⟩:=recB e;rw[Yx] at e;obtain⟨rfl,rfl⟩:=Ju e;refine⟨rfl,fun Φ F w dst ty pos after gd hF=>?_⟩
  have hr:=Jb hF x;rw[hx] at hr;obtain⟨_,hv⟩:=hr.sI;refine T9 (V1 ht) hv ⟨rfl,?_⟩;rw[Y4,W4];exact Rv.mi
 ·cases e
theorem two{l:List Operand}{a b:AV}(h:opds f l=[a,b]):∃x y,l=[x,y]∧opd f x=a∧opd f y=b:=by
 cases l with
 |nil=>cases h
 |cons x l=>
  cases l with
  |nil=>cases h
  |cons y l=>
   cases l with
   |cons z l=>cases h
   |nil=>
    have d:[opd f x,opd f y]=[a,b]:=h;exact⟨x,y,rfl,(List.cons.inj d).1,(List.cons.inj (List.cons.inj d).2).1⟩
theorem Lx{Φ:Phi}{w:World}{k:IntKind}:∀(l:List AV) (a:Int) (vs:List Value),minL k h l a= .ok v h'→RvL Φ l vs→∃z,v= .i k z∧h'=h∧(vs.foldlM Builtin.min2 (.int k a)).run P w= .ok (.int k z) w:=by
 intro l
 induction l with
 |nil=>
  intro a vs e hl;simp only[RvL] at hl;subst hl;obtain⟨rfl,rfl⟩:=Ju e;exact⟨a,rfl,rfl,by simp⟩
 |cons x l ih=>
  intro a vs e hl;simp only[RvL] at hl;obtain⟨y,r,rfl,hy,hr⟩:=hl;cases x with
  |i k' b=>
   have e:(Bool.rec (minL k h l a) (minL k h l b) (ilt b a):Res)= .ok v h':=e;rw[Xx,kn] at e;rw[hy.iI];have hstep:(Builtin.min2 (.int k a) (.int k' b))=pure (.int k (if b<a then b else a)):=rfl;simp only[List.foldlM_cons,hstep,pure_bind];by_cases hb:b<a
   ·rw[if_pos (by simpa using hb)] at e;rw[if_pos hb];exact ih b r e hr
   ·rw[if_neg (by simpa using hb)] at e;rw[if_neg hb];exact ih a r e hr
  |_=>cases e
theorem HG{k:IntKind}:∀(l:List AV) (a:Int),minL k h l a= .ok v h'→h'=h:=by
 intro l
 induction l with
 |nil=>intro a e;exact(Ju e).2.symm
 |cons x l ih=>
  intro a e;cases x with
  |i k' b=>
   have e:(Bool.rec (minL k h l a) (minL k h l b) (ilt b a):Res)= .ok v h':=e;rw[Xx] at e;split at e
   ·exact ih b e
   ·exact ih a e
  |_=>cases e
theorem Hc{ts:Array TypeId}{args:Array Operand}(e:As (opds f args.toList) h= .ok v h'):h'=h∧Pu P (.call {callee:= .builtin .min,args:=args,argTypes:=ts}) f v:=by
 unfold As at e;split at e
 ·rename_i k a l g;have key:∀(Φ:Phi) (F:Wf.Fr),FR Φ f F→∃vs:List Value,args.toList.map (fe F)= .int k a::vs∧RvL Φ l vs:=by
   intro Φ F hF
   have:=K7 hF args.toList
   rw[g] at this;simp only[RvL] at this;obtain⟨x,r,b,i,d⟩:=this;rw[i.iI] at b;exact⟨r,b,d⟩
  refine⟨?_,fun Φ F w dst ty pos after gd hF=>?_⟩
  ·exact HG l a e
  ·obtain⟨vs,b,d⟩:=key Φ F hF;obtain⟨z,rfl,_,hz⟩:=Lx (P:=P) (w:=w) l a vs e d;refine R7 (v:= .int k z) (w':=w) ?_ ⟨rfl,Rv.mi⟩;have j:(args.map (fe F))=(Value.int k a::vs).toArray:=by apply VC;simp[b]
   have m:(Builtin.min_ ts ty (Value.int k a::vs).toArray).run P w= .ok (.int k z) w:=hz;simp[execOp,resolve,invoke,builtin,j,m]
 ·cases e
theorem LV{Φ:Phi}{w:World}{k:IntKind}:∀(l:List AV) (a:Int) (vs:List Value),maxL k h l a= .ok v h'→RvL Φ l vs→∃z,v= .i k z∧h'=h∧(vs.foldlM Builtin.max2 (.int k a)).run P w= .ok (.int k z) w:=by
 intro l
 induction l with
 |nil=>
  intro a vs e hl;simp only[RvL] at hl;subst hl;obtain⟨rfl,rfl⟩:=Ju e;exact⟨a,rfl,rfl,by simp⟩
 |cons x l ih=>
  intro a vs e hl;simp only[RvL] at hl;obtain⟨y,r,rfl,hy,hr⟩:=hl;cases x with
  |i k' b=>
   have e:(Bool.rec (maxL k h l a) (maxL k h l b) (ilt a b):Res)= .ok v h':=e;rw[Xx,kn] at e;rw[hy.iI];have hstep:(Builtin.max2 (.int k a) (.int k' b))=pure (.int k (if b>a then b else a)):=rfl;simp only[List.foldlM_cons,hstep,pure_bind];by_cases hb:b>a
   ·rw[if_pos (by simpa using hb)] at e;rw[if_pos hb];exact ih b r e hr
   ·rw[if_neg (by simpa using hb)] at e;rw[if_neg hb];exact ih a r e hr
  |_=>cases e
theorem KM{k:IntKind}:∀(l:List AV) (a:Int),maxL k h l a= .ok v h'→h'=h:=by
 intro l
 induction l with
 |nil=>intro a e;exact(Ju e).2.symm
 |cons x l ih=>
  intro a e;cases x with
  |i k' b=>
   have e:(Bool.rec (maxL k h l a) (maxL k h l b) (ilt a b):Res)= .ok v h':=e;rw[Xx] at e;split at e
   ·exact ih b e
   ·exact ih a e
  |_=>cases e
theorem GZ{ts:Array TypeId}{args:Array Operand}(e:yE (opds f args.toList) h= .ok v h'):h'=h∧Pu P (.call {callee:= .builtin .max,args:=args,argTypes:=ts}) f v:=by
 unfold yE at e;split at e
 ·rename_i k a l g;have key:∀(Φ:Phi) (F:Wf.Fr),FR Φ f F→∃vs:List Value,args.toList.map (fe F)= .int k a::vs∧RvL Φ l vs:=by
   intro Φ F hF
   have:=K7 hF args.toList
   rw[g] at this;simp only[RvL] at this;obtain⟨x,r,b,i,d⟩:=this;rw[i.iI] at b;exact⟨r,b,d⟩
  refine⟨?_,fun Φ F w dst ty pos after gd hF=>?_⟩
  ·exact KM l a e
  ·obtain⟨vs,b,d⟩:=key Φ F hF;obtain⟨z,rfl,_,hz⟩:=LV (P:=P) (w:=w) l a vs e d;refine R7 (v:= .int k z) (w':=w) ?_ ⟨rfl,Rv.mi⟩;have j:(args.map (fe F))=(Value.int k a::vs).toArray:=by apply VC;simp[b]
   have m:(Builtin.max_ ts ty (Value.int k a::vs).toArray).run P w= .ok (.int k z) w:=hz;simp[execOp,resolve,invoke,builtin,j,m]
 ·cases e
theorem xb{id:Nat}{k:Blk→Res}{n:Nat}(e:getB h id k (.no n)= .ok v h'):∃b,id<h.n∧get5 id h.t=some b∧b.ob= .row∧k b= .ok v h':=by
 unfold getB at e;obtain⟨a,e⟩:=recB e;cases hb:get5 id h.t with
 |none=>rw[hb] at e;cases e
 |some b=>
  rw[hb] at e;obtain⟨ty,ex,ro,cs,ob⟩:=b;cases ob<;>first|exact⟨_,Zx a,rfl,rfl,e⟩|cases e
theorem lj{id:Nat}{k:List En→Nat→Res}{n:Nat}(e:getM h id k (.no n)= .ok v h'):∃b es c,id<h.n∧get5 id h.t=some b∧b.ob= .map es c∧k es c= .ok v h':=by
 unfold getM at e;obtain⟨a,e⟩:=recB e;cases hb:get5 id h.t with
 |none=>rw[hb] at e;cases e
 |some b=>
  rw[hb] at e;obtain⟨ty,ex,ro,cs,ob⟩:=b;cases ob<;>first|exact⟨_,_,_,Zx a,rfl,rfl,e⟩|cases e
theorem Lv{id:Nat}{k:List AV→Res}{n:Nat}(e:getG h id k (.no n)= .ok v h'):∃b,id<h.n∧get5 id h.t=some b∧b.ob= .glb∧k b.cs= .ok v h':=by
 unfold getG at e;obtain⟨a,e⟩:=recB e;cases hb:get5 id h.t with
 |none=>rw[hb] at e;cases e
 |some b=>
  rw[hb] at e;obtain⟨ty,ex,ro,cs,ob⟩:=b;cases ob<;>first|exact⟨_,Zx a,rfl,rfl,e⟩|cases e
theorem JS{id:Nat}{k:Ob→Res}{n:Nat}(e:getO h id k (.no n)= .ok v h'):∃b,id<h.n∧get5 id h.t=some b∧k b.ob= .ok v h':=by
 unfold getO at e;obtain⟨a,e⟩:=recB e;cases hb:get5 id h.t with
 |none=>rw[hb] at e;cases e
 |some b=>rw[hb] at e;exact⟨b,Zx a,rfl,e⟩
theorem BR.cell{Φ:Phi}{τ:Tau}{w:World}{b:Blk}{e:Ent}{id:Nat}{C:Array Value}{T:TypeId}(r:BR Φ τ w b e id C T){o:Nat}{a:AV}(ha:b.cs[o]? =some a):∃x,w.cell? ⟨e.g,e.base+o,none⟩=some x∧Rv Φ a x:=by
 obtain⟨x,d,i⟩:=r.cr o a ha;obtain⟨fr,ho,_⟩:=r.obj;exact⟨x,by rw[cell_of_row w e.g (e.base+o) C T fr ho];exact d,i⟩
theorem BR.cells{Φ:Phi}{τ:Tau}{w:World}{b:Blk}{e:Ent}{id:Nat}{C:Array Value}{T:TypeId}(r:BR Φ τ w b e id C T)(o n:Nat)(hn:n≤(b.cs.drop o).length):
  ∃vs:List Value,vs.length=n∧RvL Φ ((b.cs.drop o).take n) vs∧∀j u,vs[j]? =some u→w.cell? ⟨e.g,e.base+o+j,none⟩=some u:=by
 have hroom:n=0∨e.base+o+n≤C.size:=by
  rw[UG] at hn;rcases YV n with h|h
  ·exact .inl h
  ·have:=r.room (n:=o+n-1) (by omega)
   exact .inr (by omega)
 refine⟨(C.toList.drop (e.base+o)).take n,?_,?_,?_⟩
 ·rw[UH,UG,VG];omega
 ·refine RvL.mk ?_ fun i a x hi hx=>?_
  ·rw[UH,UH,UG,VG];rw[UG] at hn;rw[UG];omega
  ·rw[W1] at hi hx;split at hi<;>rename_i hlt
   ·rw[if_pos hlt,WX] at hx;rw[WX] at hi;obtain⟨y,d,k⟩:=r.cr _ _ hi;have l:C.toList[e.base+o+i]? =some y:=by rw[←d];simp[YD]
    rw[l] at hx;cases hx;exact k
   ·cases hi
 ·intro j x hj;rw[W1] at hj;split at hj
  ·rw[WX] at hj;obtain⟨fr,ho,_⟩:=r.obj;rw[cell_of_row w e.g (e.base+o+j) C T fr ho];simpa using hj
  ·cases hj
def Rd(P:Program)(op:Op)(f:Fr)(v:AV)(h:Hp):Prop:=∀(Φ:Phi) (τ:Tau) (F:Wf.Fr) (w:World) (dst:Option Tmp) (ty:TypeId) (pos:String) (after:Array Edge) (gd:Option (Nat×Bool)),FR Φ f F→Rel Φ τ h w→
 St P (fe F) ⟨dst,op,ty,pos,after,gd⟩ w (KP Φ w v) KF
theorem pO{t:TypeId}{a:Operand}(e:Q1 P t a f h= .ok v h'):h'=h∧Rd P (.load t a) f v h:=by
 unfold Q1 at e;split at e
 ·rename_i id off ha;obtain⟨b,hid,hb,hrow,e⟩:=xb e;split at e
  ·rename_i hk;split at e
   ·rename_i x hx;obtain⟨rfl,rfl⟩:=Ju e;rw[jy] at hx;refine⟨rfl,fun Φ τ F w dst ty pos after gd hF hR=>?_⟩
    have hr:=Jb hF a;rw[ha] at hr;obtain⟨en,hen,hv⟩:=hr.pI;obtain⟨e',C,T,br⟩:=(hR.blk id b hid hb).row hrow
    have:=br.ent
    rw[hen] at this;cases this;obtain⟨y,hy,hry⟩:=br.cell hx;exact Sa (iW hk) hv hy ⟨rfl,hry⟩
   ·cases e
  ·rename_i sz hk;rcases vf (dr b.cs off) sz (fun l=>Res.ok (.ag l) h) with ⟨d,hle⟩|⟨n,d⟩
   ·rw[d] at e;obtain⟨rfl,rfl⟩:=Ju e;rw[V6] at hle ⊢;refine⟨rfl,fun Φ τ F w dst ty pos after gd hF hR=>?_⟩
    have hr:=Jb hF a;rw[ha] at hr;obtain⟨en,hen,hv⟩:=hr.pI;obtain⟨e',C,T,br⟩:=(hR.blk id b hid hb).row hrow
    have:=br.ent
    rw[hen] at this;cases this;obtain⟨vs,hl,hrv,hc⟩:=br.cells off sz hle;exact Sv (iA hk) hv hl hc ⟨rfl,by simp only[Rv];exact⟨vs,rfl,hrv⟩⟩
   ·rw[d] at e;cases e
  ·cases e
 ·rename_i g off ha;obtain⟨b,hid,hb,hglb,e⟩:=Lv e;split at e
  ·rename_i hk;split at e
   ·rename_i x hx;obtain⟨rfl,rfl⟩:=Ju e;rw[jy] at hx;refine⟨rfl,fun Φ τ F w dst ty pos after gd hF hR=>?_⟩
    have hr:=Jb hF a;rw[ha] at hr;simp only[Rv] at hr;obtain⟨e',C,gr⟩:=(hR.blk _ b hid hb).tab hglb;obtain⟨T,fr,ho⟩:=gr.obj;obtain⟨y,hy,hry⟩:=gr.cr _ _ hx;rw[Jab] at hy;refine Sa (iW hk) hr ?_ ⟨rfl,hry⟩;rw[gr.at_] at ho;rw[cell_of_row w g off C T fr ho];exact hy
   ·cases e
  ·rename_i sz hk;rcases vf (dr b.cs off) sz (fun l=>Res.ok (.ag l) h) with ⟨d,hle⟩|⟨n,d⟩
   ·rw[d] at e;obtain⟨rfl,rfl⟩:=Ju e;rw[V6] at hle ⊢;refine⟨rfl,fun Φ τ F w dst ty pos after gd hF hR=>?_⟩
    have hr:=Jb hF a;rw[ha] at hr;simp only[Rv] at hr;obtain⟨e',C,gr⟩:=(hR.blk _ b hid hb).tab hglb;obtain⟨T,fr,ho⟩:=gr.obj;rw[gr.at_] at ho;have hle:sz≤(b.cs.drop off).length:=hle;have hC:∀i a,((b.cs.drop off).take sz)[i]? =some a→∃y,C[off+i]? =some y∧Rv Φ a y:=by
     intro i a hi;rw[W1] at hi;split at hi
     ·rw[WX] at hi;obtain⟨y,k,m⟩:=gr.cr _ _ hi;rw[Jab] at k;exact⟨y,k,m⟩
     ·cases hi
    have hlen:((C.toList.drop off).take sz).length=sz:=by
     rw[UH,UG,VG];rw[UG] at hle;rcases YV sz with o|o
     ·omega
     ·obtain⟨y,k,_⟩:=hC (sz-1) _ (UL (by rw[UH,UG];omega))
      have:=(VE.1 k).1
      omega
    refine Sv (cs:=(C.toList.drop off).take sz) (iA hk) hr hlen ?_ ⟨rfl,?_⟩
    ·intro j x hj;rw[W1] at hj;split at hj
     ·rw[WX] at hj;rw[cell_of_row w g (off+j) C T fr ho];simpa using hj
     ·cases hj
    ·simp only[Rv];refine⟨_,rfl,RvL.mk ?_ fun i a x hi hx=>?_⟩
     ·rw[hlen,UH];omega
     ·obtain⟨y,k,m⟩:=hC i a hi;rw[W1] at hx;split at hx
      ·rw[WX] at hx
       have:C.toList[off+i]? =some y:=by rw[←k];simp
       rw[this] at hx;cases hx;exact m
      ·cases hx
   ·rw[d] at e;cases e
  ·cases e
 ·cases e
end
section
variable {P:Program} {f:Fr} {v:AV} {h h':Hp}
theorem mg{α:Type}{o:Option Operand}{d:Nat}{k:Nat→Res}{n:Nat}{v:AV}(e:bnd f o d k (.no n)= .ok v h'):
  ∃j,k j= .ok v h'∧((o=none∧j=d)∨∃x kk,o=some x∧opd f x= .i kk (Int.ofNat j)):=by
 unfold bnd at e;split at e
 ·exact⟨d,e,.inl ⟨rfl,rfl⟩⟩
 ·obtain⟨kk,m,hx,e⟩:=recN e;rw[Yx] at e;exact⟨m,e,.inr ⟨_,kk,rfl,hx⟩⟩
theorem iE {Φ:Phi} {F:Wf.Fr} {w:World} {t:TypeId} {lo hi:Option Operand} {x:Value} {s:List UInt8} {i j:Nat} (hF:FR Φ f F) (ht:P.underlying t=some .string) (hx:x=str s)
  (hhi:(hi=none∧j=s.length)∨∃y kk,hi=some y∧opd f y= .i kk (Int.ofNat j)) (hlo:(lo=none∧i=0)∨∃y kk,lo=some y∧opd f y= .i kk (Int.ofNat i)) (hij:i≤j) (hj:j≤s.length):
  (Instr.sliceAt t x (lo.map (fe F)) (hi.map (fe F)) none).run P w= .ok (str ((s.take j).drop i)) w:=by
 subst hx;have hsz:(⟨s.toArray⟩:ByteArray).size=s.length:=by simp[ByteArray.size]
 have e:=Q6 s i j;have key:∀y kk m,opd f y=AV.i kk (Int.ofNat m)→fe F y= .int kk (Int.ofNat m):=fun y kk m hy=>by have:=Jb hF y;rw[hy] at this;exact this.iI
 rcases hhi with ⟨rfl,rfl⟩|⟨y,kk,rfl,hy⟩<;>rcases hlo with ⟨rfl,rfl⟩|⟨y',kk',rfl,hy'⟩
 ·simp[str,Instr.sliceAt,Instr.slice,run_underlying ht,Instr.sliceBounds,hsz] at e ⊢
 ·have:=key _ _ _ hy'
  simp[str,Instr.sliceAt,Instr.slice,run_underlying ht,Instr.sliceBounds,Instr.sliceBound,asIntOf,this,hsz,hij,hj] at e ⊢
  try exact e
 ·have:=key _ _ _ hy
  simp[str,Instr.sliceAt,Instr.slice,run_underlying ht,Instr.sliceBounds,Instr.sliceBound,asIntOf,this,hsz,hij,hj] at e ⊢
  try exact e
 ·have a:=key _ _ _ hy;have b:=key _ _ _ hy';simp[str,Instr.sliceAt,Instr.slice,run_underlying ht,Instr.sliceBounds,Instr.sliceBound,asIntOf,a,b,hsz,hij,hj] at e ⊢
  try exact e
theorem yg {Φ:Phi} {F:Wf.Fr} {w:World} {t el:TypeId} {lo hi:Option Operand} {a:Option Addr} {n c sz i j:Nat} (hF:FR Φ f F) (ht:P.underlying t=some (.slice el)) (hsz:szOf P el=some sz)
  (hhi:(hi=none∧j=n)∨∃y kk,hi=some y∧opd f y= .i kk (Int.ofNat j)) (hlo:(lo=none∧i=0)∨∃y kk,lo=some y∧opd f y= .i kk (Int.ofNat i)) (hij:i≤j) (hj:j≤c):
  (Instr.sliceAt t (.slice a n c) (lo.map (fe F)) (hi.map (fe F)) none).run P w= .ok (.slice (if c=i then a else a.map (·.add (i*sz))) (j-i) (c-i)) w:=by
 have key:∀y kk m,opd f y=AV.i kk (Int.ofNat m)→fe F y= .int kk (Int.ofNat m):=fun y kk m hy=>by have:=Jb hF y;rw[hy] at this;exact this.iI
 obtain⟨z,by_,hinf⟩:=Qo hsz;obtain⟨inf,hi',_,hs,_⟩:=Jk hinf;rcases hhi with ⟨rfl,rfl⟩|⟨y,kk,rfl,hy⟩<;>rcases hlo with ⟨rfl,rfl⟩|⟨y',kk',rfl,hy'⟩
 ·simp[Instr.sliceAt,Instr.slice,run_underlying ht,Instr.sliceBounds,sizeOf,typeInfo,hi',hs]
 ·have:=key _ _ _ hy'
  simp[Instr.sliceAt,Instr.slice,run_underlying ht,Instr.sliceBounds,Instr.sliceBound,asIntOf,this,sizeOf,typeInfo,hi',hs,hij]
 ·have:=key _ _ _ hy
  simp[Instr.sliceAt,Instr.slice,run_underlying ht,Instr.sliceBounds,Instr.sliceBound,asIntOf,this,sizeOf,typeInfo,hi',hs,hj]
 ·have b:=key _ _ _ hy;have d:=key _ _ _ hy';simp[Instr.sliceAt,Instr.slice,run_underlying ht,Instr.sliceBounds,Instr.sliceBound,asIntOf,b,d,sizeOf,typeInfo,hi',hs,hij,hj]
theorem rp{t:TypeId}{x:Operand}{lo hi mx:Option Operand}(e:K4 P t x lo hi mx f h= .ok v h'):h'=h∧Pu P (.slice t x lo hi mx) f v:=by
 unfold K4 at e;split at e
 ·cases e
 ·split at e
  ·rename_i l hx;obtain⟨ht,e⟩:=recB e;obtain⟨j,e,hjl⟩:=mg (α:=Nat) e;obtain⟨i,e,hil⟩:=mg (α:=Nat) e;obtain⟨hc,e⟩:=recB e;obtain⟨d,b⟩:=Za hc;have d:=UW d;have b:=UW b;obtain⟨rfl,rfl⟩:=Ju e;refine⟨rfl,fun Φ F w dst ty pos after gd hF=>?_⟩
   have hr:=Jb hF x;rw[hx] at hr;obtain⟨hl,hv⟩:=hr.sI;rw[Y4] at b hjl;have hrun:=iE (w:=w) hF (V1 ht) hv (by rw[W4];exact hjl) hil d (by rw[W4];exact b);refine R7 (v:=str ((((l.map UInt8.ofNat).take j).drop i))) (w':=w) ?_ ⟨rfl,?_⟩
   ·simp[execOp,hrun]
   ·rw[V6,ly,←List.map_take,←List.map_drop];exact Rv.ms fun n hn=>hl n (XP (List.mem_of_mem_drop hn))
  ·rename_i hx;obtain⟨ht,e⟩:=recB e;obtain⟨j,e,hjl⟩:=mg (α:=Nat) e;obtain⟨i,e,hil⟩:=mg (α:=Nat) e;obtain⟨hc,e⟩:=recB e;obtain⟨d,b⟩:=Za hc;have d:=YT d;have b:=YT b;subst d;subst b;obtain⟨rfl,rfl⟩:=Ju e;refine⟨rfl,fun Φ F w dst ty pos after gd hF=>?_⟩
   have hr:=Jb hF x;rw[hx] at hr;simp only[Rv] at hr;obtain⟨sz,hsz⟩:=Jag.1 (Za ht).2;rw[Jad] at hsz;obtain⟨el,hel,hsz⟩:=hsz;have hrun:=yg (w:=w) (n:=0) (c:=0) (a:=none) hF (jk hel) hsz hjl hil (UM 0) (UM 0);refine R7 (v:= .slice none 0 0) (w':=w) ?_ ⟨rfl,by simp only[Rv]⟩;simp[execOp,hr,hrun]
  ·rename_i id off n z cap hx;split at e
   ·cases e
   ·rename_i sz hsz;rw[Jad] at hsz;obtain⟨el,hel,hsz⟩:=hsz;obtain⟨j,e,hjl⟩:=mg (α:=Nat) e;obtain⟨i,e,hil⟩:=mg (α:=Nat) e;obtain⟨hc,e⟩:=recB e;obtain⟨d,b⟩:=Za hc;have d:=UW d;have b:=YT b;subst b;have go:∀(Φ:Phi) (F:Wf.Fr) (w:World) (dst:Option Tmp) (ty:TypeId) (pos:String) (after:Array Edge) (gd:Option (Nat×Bool)),FR Φ f F→
      (∀en c,Φ id=some en→n≤c→c≤maxLen→off+c*sz≤en.k→xG cap c→j≤c∧Rv Φ v (.slice (if c=i then some ⟨en.g,en.base+off,none⟩ else some ⟨en.g,en.base+off+i*sz,none⟩) (j-i) (c-i)))→
      St P (fe F) ⟨dst,.slice t x lo hi none,ty,pos,after,gd⟩ w (KP Φ w v) KF:=by
     intro Φ F w dst ty pos after gd hF hh;have hr:=Jb hF x;rw[hx] at hr;obtain⟨en,c,hen,hv,s,u,y,A⟩:=hr.slI;obtain⟨hjc,hrv⟩:=hh en c hen s u y A;have hrun:=yg (w:=w) (n:=n) (c:=c) (a:=some ⟨en.g,en.base+off,none⟩) hF (jk hel) hsz hjl hil d hjc;refine R7 (w':=w) ?_ ⟨rfl,hrv⟩;simp[execOp,hv,hrun,Addr.add_lit]
    cases cap with
    |some c=>
     obtain⟨hjc,e⟩:=recB e;have hjc:=UW hjc;rw[Xx] at e;split at e
     ·rename_i hci;have hci:=YT hci;obtain⟨rfl,rfl⟩:=Ju e;refine⟨rfl,fun Φ F w dst ty pos after gd hF=>go Φ F w dst ty pos after gd hF ?_⟩;intro en c' hen o p r m
      have:c'=c:=m
      subst this;refine⟨hjc,?_⟩;rw[if_pos hci,show j-i=0 by omega,show c'-i=0 by omega];exact Rv.msl hen (UM _) (UN _) (by simp only[Jac];omega) rfl
     ·rename_i hci;have hci:¬c=i:=fun e=>hci (by subst e;exact YK c);simp only[Yx] at e;obtain⟨rfl,rfl⟩:=Ju e;refine⟨rfl,fun Φ F w dst ty pos after gd hF=>go Φ F w dst ty pos after gd hF ?_⟩;intro en c' hen o p r m
      have:c'=c:=m
      subst this;refine⟨hjc,?_⟩;rw[if_neg hci,YD];refine Rv.msl hen (Nat.sub_le_sub_right hjc i) (by omega) ?_ rfl;show off+i*sz+(c'-i)*sz≤en.k
      have:(c'-i)*sz+i*sz=c'*sz:=by rw[←YE];congr 1;omega
      omega
    |none=>
     obtain⟨hjc,e⟩:=recB e;have hjn:=UW hjc;rw[Xx] at e;split at e
     ·rename_i hci;have hci:=YT hci;obtain⟨rfl,rfl⟩:=Ju e;refine⟨rfl,fun Φ F w dst ty pos after gd hF=>go Φ F w dst ty pos after gd hF ?_⟩;intro en c' hen o p r m;refine⟨by omega,?_⟩;rw[show j-i=0 by omega];simp only[Rv];exact⟨_,_,rfl,by omega⟩
     ·rename_i hci;have hci:¬n=i:=fun e=>hci (by subst e;exact YK n);simp only[Yx] at e;obtain⟨rfl,rfl⟩:=Ju e;refine⟨rfl,fun Φ F w dst ty pos after gd hF=>go Φ F w dst ty pos after gd hF ?_⟩;intro en c' hen o p r m;refine⟨by omega,?_⟩;have hne:¬c'=i:=by omega
      rw[if_neg hne,YD];refine Rv.msl hen (Nat.sub_le_sub_right (by omega) i) (by omega) ?_ trivial;show off+i*sz+(c'-i)*sz≤en.k
      have:(c'-i)*sz+i*sz=c'*sz:=by rw[←YE];congr 1;omega
      omega
  ·cases e
theorem jS {Φ:Phi} {F:Wf.Fr} {w:World} {t el:TypeId} {lo hi:Option Operand} {a:Addr} {n sz i j:Nat} (hF:FR Φ f F) (ht:P.underlying t=some (.array n el)) (hsz:szOf P el=some sz)
  (hhi:(hi=none∧j=n)∨∃y kk,hi=some y∧opd f y= .i kk (Int.ofNat j)) (hlo:(lo=none∧i=0)∨∃y kk,lo=some y∧opd f y= .i kk (Int.ofNat i)) (hij:i≤j) (hj:j≤n):
  (Instr.sliceAt t (.pointer (some a)) (lo.map (fe F)) (hi.map (fe F)) none).run P w= .ok (.slice (some (if n=i then a else a.add (i*sz))) (j-i) (n-i)) w:=by
 have key:∀y kk m,opd f y=AV.i kk (Int.ofNat m)→fe F y= .int kk (Int.ofNat m):=fun y kk m hy=>by have:=Jb hF y;rw[hy] at this;exact this.iI
 obtain⟨z,by_,hinf⟩:=Qo hsz;obtain⟨inf,hi',_,hs,_⟩:=Jk hinf;rcases hhi with ⟨rfl,rfl⟩|⟨y,kk,rfl,hy⟩<;>rcases hlo with ⟨rfl,rfl⟩|⟨y',kk',rfl,hy'⟩
 ·simp[Instr.sliceAt,Instr.sureAddr,run_underlying ht,Instr.sliceBounds,sizeOf,typeInfo,hi',hs]
 ·have:=key _ _ _ hy'
  simp[Instr.sliceAt,Instr.sureAddr,run_underlying ht,Instr.sliceBounds,Instr.sliceBound,asIntOf,this,sizeOf,typeInfo,hi',hs,hij]
 ·have:=key _ _ _ hy
  simp[Instr.sliceAt,Instr.sureAddr,run_underlying ht,Instr.sliceBounds,Instr.sliceBound,asIntOf,this,sizeOf,typeInfo,hi',hs,hj]
 ·have b:=key _ _ _ hy;have d:=key _ _ _ hy';simp[Instr.sliceAt,Instr.sureAddr,run_underlying ht,Instr.sliceBounds,Instr.sliceBound,asIntOf,b,d,sizeOf,typeInfo,hi',hs,hij,hj]
theorem qQ{t:TypeId}{x:Operand}{lo hi mx:Option Operand}(e:jf P t x lo hi mx f h= .ok v h'):h'=h∧Rd P (.slice t x lo hi mx) f v h:=by
 unfold jf at e;split at e
 ·cases e
 ·split at e
  ·rename_i id off hx;split at e
   ·cases e
   ·rename_i q hq;split at e
    ·cases e
    ·rename_i sz hsz;obtain⟨b,hid,hb,hrow,e⟩:=xb e;obtain⟨j,e,hjl⟩:=mg (α:=Nat) e;obtain⟨i,e,hil⟩:=mg (α:=Nat) e;obtain⟨hc,e⟩:=recB e;obtain⟨hc,d⟩:=Za hc;obtain⟨hc,n⟩:=Za hc;obtain⟨m,l⟩:=Za hc;have m:=UW m;have l:=UW l;have n:=UW n;have d:=UW d;rw[Y4] at d;have d:off+q.1*sz≤b.cs.length:=d;have go:∀(Φ:Phi) (τ:Tau) (F:Wf.Fr) (w:World) (dst:Option Tmp) (ty:TypeId) (pos:String) (after:Array Edge) (gd:Option (Nat×Bool)),FR Φ f F→Rel Φ τ h w→
       (∀en,Φ id=some en→off+q.1*sz≤en.k→Rv Φ v (.slice (some (if q.1=i then⟨en.g,en.base+off,none⟩ else⟨en.g,en.base+off+i*sz,none⟩)) (j-i) (q.1-i)))→
       St P (fe F) ⟨dst,.slice t x lo hi none,ty,pos,after,gd⟩ w (KP Φ w v) KF:=by
      intro Φ τ F w dst ty pos after gd hF hR hh;have hr:=Jb hF x;rw[hx] at hr;obtain⟨en,hen,hv⟩:=hr.pI;obtain⟨e',C,T,br⟩:=(hR.blk id b hid hb).row hrow
      have:=br.ent
      rw[hen] at this;cases this;have hrv:=hh en hen (UC d br.le);have hrun:=jS (w:=w) (a:=⟨en.g,en.base+off,none⟩) hF (gY hq) hsz hjl hil m l;refine R7 (w':=w) ?_ ⟨rfl,hrv⟩;simp[execOp,hv,hrun,Addr.add_lit]
     rw[Xx] at e;split at e
     ·rename_i hci;have hci:=YT hci;obtain⟨rfl,rfl⟩:=Ju e;refine⟨rfl,fun Φ τ F w dst ty pos after gd hF hR=>go Φ τ F w dst ty pos after gd hF hR ?_⟩;intro en hen o;rw[if_pos hci,show j-i=0 by omega,show q.1-i=0 by omega];exact Rv.msl hen (UM _) (UN _) (by simp only[Jac];omega) rfl
     ·rename_i hci;have hci:¬q.1=i:=fun e=>hci (by rw[e];exact YK _);simp only[Yx] at e;obtain⟨rfl,rfl⟩:=Ju e;refine⟨rfl,fun Φ τ F w dst ty pos after gd hF hR=>go Φ τ F w dst ty pos after gd hF hR ?_⟩;intro en hen o;rw[if_neg hci,YD];refine Rv.msl hen (Nat.sub_le_sub_right l i) (by unfold maxLen;omega) ?_ rfl;show off+i*sz+(q.1-i)*sz≤en.k
      have:(q.1-i)*sz+i*sz=q.1*sz:=by rw[←YE];congr 1;omega
      omega
  ·cases e
theorem lI{t:TypeId}{x:Operand}{lo hi mx:Option Operand}(e:Qx P t x lo hi mx f h= .ok v h'):
  (xz P t=false→h'=h∧Pu P (.slice t x lo hi mx) f v)∧(xz P t=true→h'=h∧Rd P (.slice t x lo hi mx) f v h):=by
 unfold Qx at e;cases hb:xz P t with
 |false=>
  rw[hb] at e;constructor
  ·intro _;exact rp e
  ·intro hq;cases hq
 |true=>
  rw[hb] at e;constructor
  ·intro hq;cases hq
  ·intro _;exact qQ e
theorem Hq{e:TypeId}(h:mA P e=true):P.underlying e=some (.int .u8)∧szOf P e=some 1:=by
 unfold mA at h;obtain⟨a,b⟩:=Za h;constructor
 ·split at a
  ·rename_i hh;exact tB hh
  ·cases a
 ·split at b
  ·assumption
  ·cases b
theorem Nn{t:TypeId}(h:Cu P t=true):∃e,P.underlying t=some (.slice e)∧P.underlying e=some (.int .u8)∧szOf P e=some 1:=by
 unfold Cu at h;split at h
 ·rename_i e he;exact⟨e,jk he,Hq h⟩
 ·cases h
theorem MF{k:List Nat→Res}:∀(l:List AV),s3 l k= .ok v h'→∃ns:List Nat,k ns= .ok v h'∧(∀n∈ns,n<256)∧l=ns.map fun n=>AV.i .u8 (Int.ofNat n):=by
 intro l
 induction l generalizing k with
 |nil=>intro e;exact⟨[],e,by simp,rfl⟩
 |cons a l ih=>
  intro e;cases a with
  |i kk n=>
   cases kk with
   |u8=>
    cases n with
    |ofNat c=>
     have e:(Bool.rec (Res.no 17) (s3 l fun l'=>k (c::l')) (Nat.blt c 256):Res)= .ok v h':=e;obtain⟨hc,e⟩:=recB e;obtain⟨ns,b,d,g⟩:=ih e;refine⟨c::ns,b,?_,by rw[g];rfl⟩;intro n hn;rcases XF.1 hn with rfl|hn
     ·exact Zx hc
     ·exact d n hn
    |negSucc c=>cases e
   |_=>cases e
  |_=>cases e
theorem p8(ns:List Nat)(s:ByteArray):(ns.map Int.ofNat).foldl (fun r n=>r.push (UInt8.ofNat n.toNat)) s=⟨(s.data.toList++ns.map UInt8.ofNat).toArray⟩:=by
 induction ns generalizing s with
 |nil=>simp
 |cons n ns ih=>
  simp only[U9,List.foldl_cons];rw[ih]
  congr 1
  apply VC;simp[ByteArray.push]
theorem isUns_u{t:TypeId}(h:pZ P t=true):P.underlying t=some .unsafePointer:=by unfold pZ at h;split at h<;>first|assumption|cases h
theorem BR.shape{Φ:Phi}{τ:Tau}{w:World}{b:Blk}{e:Ent}{id:Nat}{C:Array Value}{T:TypeId}(r:BR Φ τ w b e id C T):w.shape? e.g=some (T,C.size):=by
 obtain⟨fr,ho,_⟩:=r.obj;simp[World.shape?,ho]
theorem Lq {w:World} {src dst t e:TypeId} {j:TypeInfo} {cells:Nat} (a:Addr) (hs:P.underlying src=some (.pointer t)) (hd:P.underlying dst=some .unsafePointer) (ht:P.info? t=some j) (hj:j.size≠0)
  (hsh:w.shape? a.block=some (e,cells)) (hoff:a.off<cells):(convert src dst (.pointer (some a))).run P w= .ok (.pointer (some a)) w:=by
 simp[convert,run_underlying hs,run_underlying hd,Conv.unsafePointer,Conv.seenAt,viewAt,cellsIn,hsh,sizeOf,typeInfo,ht,hj];intro h;omega
theorem MU {w:World} {src dst u e:TypeId} {j:TypeInfo} {cells:Nat} (a:Addr) (hs:P.underlying src=some .unsafePointer) (hd:P.underlying dst=some (.pointer u)) (hu:P.info? u=some j)
  (hsh:w.shape? a.block=some (e,cells)) (hlies:liesAt P P.depth e (cells/P.cellsOf e) a.off u 1=true):(convert src dst (.pointer (some a))).run P w= .ok (.pointer (some a)) w:=by
 simp[convert,run_underlying hs,run_underlying hd,Conv.unsafePointer,Conv.seenAt,viewAt,hsh,variablesAt,hlies,sizeOf,typeInfo,hu]
theorem zE{Φ:Phi}:∀ {ns:List Nat} {vs:List Value},RvL Φ (ns.map fun n=>AV.i .u8 (Int.ofNat n)) vs→vs=(ns.map Int.ofNat).map (Value.int .u8):=by
 intro ns
 induction ns with
 |nil=>intro vs h;simp only[XE,RvL] at h ⊢;exact h
 |cons n ns ih=>
  intro vs h;simp only[U9,RvL] at h ⊢;obtain⟨v,r,rfl,a,b⟩:=h;rw[a.iI,ih b]
theorem KU{Φ:Phi}{τ:Tau}{w:World}{b:Blk}{e:Ent}{id:Nat}{C:Array Value}{T:TypeId}(r:BR Φ τ w b e id C T){off n:Nat}{ns:List Nat}(hn:n≤(b.cs.drop off).length)(hns:(b.cs.drop off).take n=ns.map fun n=>AV.i .u8 (Int.ofNat n)):
  (loadCells ⟨e.g,e.base+off,none⟩ n).run P w= .ok ((ns.map Int.ofNat).map (Value.int .u8)).toArray w∧
  ∀c,(Conv.bytesToString (.slice (some ⟨e.g,e.base+off,none⟩) n c)).run P w= .ok (str (ns.map UInt8.ofNat)) w:=by
 obtain⟨vs,hl,hrv,hc⟩:=r.cells off n hn;rw[hns] at hrv;have hvs:=zE hrv;have hld:(loadCells ⟨e.g,e.base+off,none⟩ n).run P w= .ok ((ns.map Int.ofNat).map (Value.int .u8)).toArray w:=by
  have:=run_loadCells_list (P:=P) (w:=w) ⟨e.g,e.base+off,none⟩ vs (fun j v hj=>by rw[Addr.add_lit];exact hc j v hj)
  rw[hl,hvs] at this;exact this
 refine⟨hld,fun c=>?_⟩
 rw[run_bytesToString w _ n c (ns.map Int.ofNat) hld,p8];simp[str]
theorem vP{s d:TypeId}{x:Operand}(e:jN P s d x f h= .ok v h'):h'=h∧Rd P (.convert s d x) f v h:=by
 have e:Res.no 999=Res.ok v h':=e;cases e
end
def ext(Φ:Phi)(id:Nat)(e:Ent):Phi:=fun i=>if i=id then some e else Φ i
theorem Kc(Φ:Phi)(id:Nat)(e:Ent):ext Φ id e id=some e:=if_pos rfl
theorem Sub.ext{Φ:Phi}{id:Nat}{e:Ent}(h:Φ id=none):Sub Φ (ext Φ id e):=by
 intro i x hi;unfold Ev.ext;by_cases hx:i=id
 ·subst hx;rw[h] at hi;cases hi
 ·rw[if_neg hx];exact hi
def NB(Φ:Phi)(id:Nat)(b:Blk)(e:Ent)(O:Obj):Prop:=∀(Φ':Phi) (τ':Tau) (w':World),Sub Φ Φ'→Φ' id=some e→w'.heap[e.g]? =some O→(τ' e.g=if b.ro then .ro else .own id)→Kf Φ' τ' w' id b
theorem NB.row{Φ:Phi}{id:Nat}{b:Blk}{C:Array Value}{T:TypeId}{g:Nat}{fr:Nat×Nat}(hrow:b.ob= .row)(hfr:b.ro=false→fr=(0,0))(ht:T=b.ty)(hle:b.cs.length≤C.size)(hex:b.ex=true→b.cs.length=C.size)(hcr:CR Φ C 0 b.cs):
  NB Φ id b ⟨g,0,C.size⟩ (.cells C T fr):=fun Φ' τ' w' s he ho hl=> .inl ⟨_,C,T,he,hl,hrow,.inl ⟨ht,by simp⟩,⟨fr,ho,hfr⟩,hle,fun hx=>⟨rfl,hex hx⟩,hcr.mono s⟩
theorem NB.obj{Φ:Phi}{id:Nat}{b:Blk}{g k:Nat}{O:Obj}(hro:b.ro=false)(hb:ObR Φ b.ob O):NB Φ id b ⟨g,0,k⟩ O:=fun Φ' τ' w' s he ho hl=>
 .inr (.inl ⟨_,O,he,by rw[hl,hro];rfl,hro,rfl,ho,hb.mono s⟩)
structure Wn (w:World) (O:Obj) (w':World):Prop where
 os:w'.os=w.os
 tape:w'.tape=w.tape
 output:w'.output=w.output
 size:w'.heap.size=w.heap.size+1
 old:∀k,k<w.heap.size→w'.heap[k]? =w.heap[k]?
 new_:w'.heap[w.heap.size]? =some O
theorem Wn.alloc(w:World)(O:Obj):Wn w O (w.alloc O):=⟨rfl,rfl,rfl,by simp,fun k hk=>Yz hk,heap_alloc_new w _⟩
theorem Wn.drew(w:World)(O:Obj):Wn w O (w.drew.alloc O):=⟨rfl,rfl,rfl,by simp,fun k hk=>Below.heap_alloc w.drew _ k hk,heap_alloc_new w.drew _⟩
section
variable {P:Program} {f:Fr} {v:AV} {h h':Hp} {Φ:Phi} {τ:Tau} {w w':World}
theorem Rel.new{b:Blk}{k:Nat}{O:Obj}(r:Rel Φ τ h w)(hb:h.n<big5)(hf:Φ h.n=none)(nb:NB Φ h.n b ⟨w.heap.size,0,k⟩ O)(wn:Wn w O w'):
  ∃τ',Rel (ext Φ h.n ⟨w.heap.size,0,k⟩) τ' ⟨set5 h.n (some b) h.t,h.n+1⟩ w'∧Tw Φ τ h w (ext Φ h.n ⟨w.heap.size,0,k⟩) τ' (h.n+1) w':=by
 refine⟨fun g=>if g=w.heap.size then(if b.ro then .ro else .own h.n) else τ g,⟨hb,?_,?_⟩,⟨wn.os,wn.tape,wn.output,by rw[wn.size];omega,Sub.ext hf,?_,?_⟩⟩
 ·intro id b' hid hb';have hid:id<h.n+1:=hid;have hb':get5 id (set5 h.n (some b) h.t)=some b':=hb';rw[J8 _ _ _ _ (by omega) hb] at hb';by_cases e:id=h.n
  ·rw[if_pos e] at hb';cases hb';subst e;exact nb _ _ _ (Sub.ext hf) (Kc _ _ _) wn.new_ (if_pos rfl)
  ·rw[if_neg e] at hb';obtain⟨en,_,hlt,_,k⟩:=(r.blk id b' (by omega) hb').at_;exact k (Sub.ext hf) (wn.old _ hlt) (if_neg (by omega))
 ·intro id hid a;have hid:h.n+1≤id:=hid;show get5 id (set5 h.n (some b) h.t)=none;rw[J8 _ _ _ _ a hb,if_neg (by omega)];exact r.fin id (by omega) a
 ·intro id hid;unfold Ev.ext;rw[if_neg (by omega)]
 ·intro g hg _;refine⟨wn.old g hg,?_⟩;exact if_neg (by omega)
theorem Qh{id:Nat}(r:Rel Φ τ h w)(hid:id<h.n):id<big5:=UB hid r.lim
theorem Rel.turn {id:Nat} {b b':Blk} {en:Ent} (r:Rel Φ τ h w) (hid:id<h.n) (hb:get5 id h.t=some b) (hlab:τ en.g= .own id) (hos:w'.os=w.os) (htp:w'.tape=w.tape) (hou:w'.output=w.output)
  (hsz:w'.heap.size=w.heap.size) (hoth:∀g,g≠en.g→w'.heap[g]? =w.heap[g]?) (hnew:Kf Φ τ w' id b'):Rel Φ τ (putB h id (some b')) w'∧Tw Φ τ h w Φ τ h.n w':=by
 refine⟨⟨r.lim,?_,?_⟩,⟨hos,htp,hou,by rw[hsz];exact UM _,Sub.refl _,fun _ _=>rfl,?_⟩⟩
 ·intro id' b'' hid' hb'';have hid':id'<h.n:=hid';have hb'':get5 id' (set5 id (some b') h.t)=some b'':=hb'';rw[J8 _ _ _ _ (Qh r hid') (Qh r hid)] at hb'';by_cases e:id'=id
  ·rw[if_pos e] at hb'';cases hb'';subst e;exact hnew
  ·rw[if_neg e] at hb'';obtain⟨j,_,_,a,k⟩:=(r.blk id' b'' hid' hb'').at_;have hne:j.g≠en.g:=by
    intro hg;rw[hg,hlab] at a;split at a
    ·cases a
    ·cases a;exact e rfl
   exact k (Sub.refl _) (hoth _ hne) rfl
 ·intro i hi d;have hi:h.n≤i:=hi;show get5 i (set5 id (some b') h.t)=none;rw[J8 _ _ _ _ d (Qh r hid),if_neg (by omega)];exact r.fin i hi d
 ·intro g hg hk;refine⟨hoth g ?_,rfl⟩;intro e;subst e
  have:=(hk id hlab).1 hid
  rw[hb] at this;cases this
theorem BR.own{b:Blk}{en:Ent}{id:Nat}{C:Array Value}{T:TypeId}(br:BR Φ τ w b en id C T)(hro:b.ro=false):τ en.g= .own id:=by
 have:=br.lab
 rw[hro] at this;exact this
theorem Rel.put {id:Nat} {b b':Blk} {en:Ent} {C C':Array Value} {T:TypeId} (r:Rel Φ τ h w) (hid:id<h.n) (hb:get5 id h.t=some b) (br:BR Φ τ w b en id C T) (hro:b.ro=false)
  (hb':b'.ro=false) (hrow:b'.ob= .row) (hty:b'.ty=b.ty) (hex:b'.ex=b.ex) (hl:b'.cs.length=b.cs.length) (hsz:C'.size=C.size) (hcr:CR Φ C' en.base b'.cs) (hw:w'=w.setRow en.g C'):
  Rel Φ τ (putB h id (some b')) w'∧Tw Φ τ h w Φ τ h.n w':=by
 subst hw;have hnew:(w.setRow en.g C').heap[en.g]? =some (.cells C' T (0,0)):=setRow_heap w en.g C C' T (0,0) (br.obj0 hro);refine r.turn (en:=en) hid hb (br.own hro) rfl rfl rfl (by simp[World.setRow]) (fun g hg=>setRow_other w en.g g C' hg) (.inl ⟨en,C',T,br.ent,?_,hrow,.inl ⟨by rw[hty];exact(br.own_ hro).1,by rw[hsz];exact(br.own_ hro).2⟩,⟨(0,0),hnew,fun _=>rfl⟩,by rw[hl];exact br.le,fun hx=>?_,hcr⟩)
 ·rw[hb'];exact br.own hro
 ·rw[hl];exact br.exact_ (hex▸hx)
def Qt(P:Program)(op:Op)(f:Fr)(v:AV)(h h':Hp):Prop:=∃b,h.n<big5∧h'=⟨set5 h.n (some b) h.t,h.n+1⟩∧
 ∀(Φ:Phi) (F:Wf.Fr) (w:World) (dst:Option Tmp) (ty:TypeId) (pos:String) (after:Array Edge) (gd:Option (Nat×Bool)),FR Φ f F→Φ h.n=none→
  St P (fe F) ⟨dst,op,ty,pos,after,gd⟩ w (fun x w'=>∃k O,Wn w O w'∧Rv (ext Φ h.n ⟨w.heap.size,0,k⟩) v x∧NB Φ h.n b ⟨w.heap.size,0,k⟩ O) KF
def Mv(P:Program)(op:Op)(f:Fr)(v:AV)(h h':Hp):Prop:=Grow h h'∧
 ∀(Φ:Phi) (τ:Tau) (F:Wf.Fr) (w:World) (dst:Option Tmp) (ty:TypeId) (pos:String) (after:Array Edge) (gd:Option (Nat×Bool)),FR Φ f F→Rel Φ τ h w→Fre Φ h.n h'.n→
  St P (fe F) ⟨dst,op,ty,pos,after,gd⟩ w (fun x w'=>∃Φ' τ',Rv Φ' v x∧Rel Φ' τ' h' w'∧Tw Φ τ h w Φ' τ' h'.n w') KF
theorem Grow.new{b:Blk}(hb:h.n<big5):Grow h ⟨set5 h.n (some b) h.t,h.n+1⟩:=⟨Nat.le_succ _,fun id a hid hn=>by
 have hid:¬(h.n≤id∧id<h.n+1):=hid;show get5 id (set5 h.n (some b) h.t)=none;rw[J8 _ _ _ _ a hb,if_neg (by omega)];exact hn,fun _=>hb⟩
theorem Grow.put{id:Nat}{b:Blk}{o:Option Blk}(hl:h.n≤big5)(hid:id<h.n)(hb:get5 id h.t=some b):Grow h (putB h id o):=⟨UM _,fun i a hi hn=>by
 show get5 i (set5 id o h.t)=none
 have:¬i=id:=fun e=>by rw[e,hb] at hn;cases hn
 rw[J8 _ _ _ _ a (by omega),if_neg this];exact hn,fun h=>h⟩
theorem Qt.mv{op:Op}(q:Qt P op f v h h'):Mv P op f v h h':=by
 obtain⟨b,hb,rfl,hst⟩:=q;refine⟨Grow.new hb,fun Φ τ F w dst ty pos after gd hF hR hFr=>?_⟩
 have hn:=hFr h.n (UM _) (ZE _)
 refine(hst Φ F w dst ty pos after gd hF hn).mono ?_ fun _ _ h=>h
 rintro x w' ⟨k,O,wn,hv,nb⟩;obtain⟨τ',a,d⟩:=hR.new hb hn nb wn;exact⟨_,τ',hv,a,d⟩
theorem Qi{b:Blk}{k:Nat→Hp→Res}(e:newB h b k= .ok v h'):h.n<big5∧k h.n ⟨set5 h.n (some b) h.t,h.n+1⟩= .ok v h':=by
 unfold newB at e;obtain⟨a,e⟩:=recB e;rw[Yx] at e;exact⟨Zx a,e⟩
theorem vK{e:TypeId}(he:iq P e f h= .ok v h'):Qt P (.alloc e) f v h h':=by
 unfold iq at he;split at he
 ·rename_i l hl;obtain⟨hb,he⟩:=Qi he;obtain⟨rfl,rfl⟩:=Ju he;obtain⟨z,sz,by_,hinf,rfl⟩:=lH hl;obtain⟨inf,hi',hz,_,_⟩:=Jk hinf;refine⟨_,hb,rfl,fun Φ F w dst ty pos after gd hF hn=>?_⟩
  refine St.alloc (vs:=z.cells.toList) hi' hz (by simp) ⟨_,_,Wn.alloc _ _,Rv.mp (Kc _ _ _),NB.row rfl (fun _=>rfl) rfl (by simp) (fun _=>by simp) ?_⟩;intro i a hi;obtain⟨x,b,d⟩:=(qv (Φ:=Φ) z.cells.toList).at hi;exact⟨x,by rw[Jab];simpa using b,d⟩
 ·cases he
theorem CR.ofL{l:List AV}{vs:List Value}(hr:RvL Φ l vs):CR Φ vs.toArray 0 l:=by
 intro i a hi;obtain⟨x,b,d⟩:=hr.at hi;exact⟨x,by rw[Jab];simpa using b,d⟩
theorem Hg{e:TypeId}{x:Operand}(he:lk e x f h= .ok v h'):Qt P (.box e x) f v h h':=by
 unfold lk at he;split at he
 ·rename_i l hl;obtain⟨hb,he⟩:=Qi he;obtain⟨rfl,rfl⟩:=Ju he;refine⟨_,hb,rfl,fun Φ F w dst ty pos after gd hF hn=>?_⟩
  obtain⟨vs,b,a⟩:=ku hl (Jb hF x);exact TH b ⟨_,_,Wn.alloc _ _,Rv.mp (Kc _ _ _),NB.row rfl (fun _=>rfl) rfl (by simp[a.len]) (fun _=>by simp[a.len]) (CR.ofL a)⟩
 ·cases he
def zrow(z:Array Value)(m:Nat):Array Value:=(Array.range m).map (z[· % z.size]!)
theorem yT{α:Type}(l:List α):∀(n i:Nat),(repl n l)[i]? =if i<n*l.length then l[i%l.length]? else none:=by
 intro n
 induction n with
 |zero=>intro i;simp[repl]
 |succ n ih=>
  intro i;have e:repl (n+1) l=l++repl n l:=by unfold repl;rw[XU,WQ]
  rw[e,WS,ih,ZW];by_cases h:i<l.length
  ·rw[if_pos h,if_pos (by omega),ZG h]
  ·rw[if_neg h];have b:(i-l.length)%l.length=i%l.length:=by
    conv=>rhs;rw[show i=(i-l.length)+l.length by omega]
    rw[Nat.add_mod_right]
   rw[b];by_cases a:i-l.length<n*l.length
   ·rw[if_pos a,if_pos (by omega)]
   ·rw[if_neg a,if_neg (by omega)]
theorem qr{α:Type}(l:List α)(n:Nat):(repl n l).length=n*l.length:=by unfold repl;simp[List.length_flatten]
theorem sK(z:Array Value)(n sz:Nat)(hz:z.size=sz)(hp:0<sz):RvL Φ (repl n (z.toList.map cv)) (zrow z (n*sz)).toList:=by
 refine RvL.mk (by simp[zrow,qr,hz]) fun i a x hi hx=>?_
 rw[yT] at hi;split at hi<;>rename_i hlt
 ·have hlt:i<n*sz:=by simpa[hz] using hlt
  have hm:i%sz<z.size:=by rw[hz];exact UI _ hp
  have b:z.toList[i%sz]? =some z[i%sz]:=by simp[hm]
  rw[VA,W4,VG,hz,b] at hi;have d:(zrow z (n*sz)).toList[i]? =some z[i%sz]:=by
   simp only[zrow,Array.toList_map,Array.toList_range,VA];rw[WZ hlt];simp only[Jai,hz];rw[getElem!_pos z _ hm]
  rw[d] at hx;cases hx;simp at hi;subst hi;exact qj _
 ·cases hi
theorem qZ(off:Nat):∀(L:List (Value×Nat)) (C:Array Value),(L.foldl (fun cs (c,j)=>cs.setIfInBounds (off+j) c) C).size=C.size:=by
 intro L
 induction L with
 |nil=>intro C;rfl
 |cons q L ih=>intro C;rw[List.foldl_cons,ih];exact Array.size_setIfInBounds
theorem xy{t:TypeId}{n:Nat}{ps:Array (Nat×Operand)}(he:Yq P t n ps f h= .ok v h'):Qt P (.buildSlice t n ps) f v h h':=by
 unfold Yq at he;split at he
 ·cases he
 ·rename_i el hel;split at he
  ·rename_i sz z hsz hz;obtain⟨hc,he⟩:=recB he;obtain⟨hc,b⟩:=Za hc;obtain⟨a,j⟩:=Za hc;have a:0<sz:=Zx a;have j:n*sz≤16777216:=UW j;have b:=YT b;obtain⟨cs,he,hfill⟩:=sL _ _ he;obtain⟨hb,he⟩:=Qi he;obtain⟨rfl,rfl⟩:=Ju he;refine⟨_,hb,rfl,fun Φ F w dst ty pos after gd hF hn=>?_⟩
   obtain⟨zv,sz',by',hinf',rfl⟩:=lH hz;obtain⟨y,A,hinf⟩:=Qo hsz;rw[hinf'] at hinf;simp only[Jak,Jal] at hinf;obtain⟨rfl,rfl,rfl⟩:=hinf;obtain⟨inf,hi',hzz,hs,_⟩:=Jk hinf';rw[Y4,W4,VG] at b;obtain⟨C',d,m⟩:=hfill Φ F (zrow zv.cells (n*sz')).toList hF (sK zv.cells n sz' b a);have hC'len:=m.len;have hpe:(ps.map fun(i,x)=>(i,fe F x)).toList=ps.toList.map fun p=>(p.1,fe F p.2):=by simp
   have hlen:cs.length=n*sz':=by
    have key:∀(l:List (Nat×Value)) (C:Array Value) (D:Array Value),Instr.fill (fun i=>some (Nat.mul i sz',sz')) C l=some D→D.size=C.size:=by
     intro l
     induction l with
     |nil=>intro C D hh;cases hh;rfl
     |cons p l ih=>
      intro C D hh;obtain⟨i,x⟩:=p;rw[Instr.fill] at hh;simp only at hh;split at hh
      ·cases hh
      ·have:=ih _ _ hh
       rw[this,←Array.foldl_toList];exact qZ _ _ _
    have:=key _ _ _ d
    rw[←hC'len];have s:C'.toArray.size=(zrow zv.cells (n*sz')).toList.toArray.size:=this;simpa[zrow] using s
   have hrun:(Instr.buildSlice t n (ps.map fun(i,x)=>(i,fe F x))).run P w= .ok (.slice (some ⟨w.heap.size,0,none⟩) n n) (w.alloc (.cells C'.toArray el (0,0))):=by
    have o:¬(n*inf.size>2^24):=by rw[hs];omega
    by_cases g:n=0
    ·subst g;have r:C'=[]:=UT (by rw[hC'len,hlen];simp);subst r;have g1':Instr.fill (fun i=>some (i*inf.size,inf.size)) #[] (ps.map fun(i,x)=>(i,fe F x)).toList=some #[]:=by
      rw[hpe,hs];simpa[zrow] using d
     have u:∀k:Nat→Value,Array.map k (Array.range 0)= #[]:=fun k=>by apply VC;simp
     generalize (ps.map fun(i,x)=>(i,fe F x))=L at g1' ⊢;simp[Instr.buildSlice,run_underlying (jk hel),sizeOf,typeInfo,hi',u,g1',newRow]
    ·have hne:¬(n*inf.size=0):=by rw[hs];exact Nat.ne_of_gt (ZM (Nat.pos_of_ne_zero g) a)
     have g1':Instr.fill (fun i=>some (i*inf.size,inf.size)) ((Array.range (n*inf.size)).map (zv.cells[· % zv.cells.size]!)) (ps.map fun(i,x)=>(i,fe F x)).toList=some C'.toArray:=by
      rw[hpe,hs]
      have:(zrow zv.cells (n*sz')).toList.toArray=(Array.range (n*sz')).map (zv.cells[· % zv.cells.size]!):=by rw[Array.toArray_toList];rfl
      rw[this] at d;exact d
     generalize (ps.map fun(i,x)=>(i,fe F x))=L at g1' ⊢;simp[Instr.buildSlice,run_underlying (jk hel),sizeOf,typeInfo,hi',o,hne,zeroValue,hzz,g1',newRow]
   refine R7 (v:= .slice (some ⟨w.heap.size,0,none⟩) n n) (w':=w.alloc (.cells C'.toArray el (0,0))) (by simp[execOp,hrun]) ⟨_,_,Wn.alloc _ _,?_,NB.row rfl (fun _=>rfl) rfl (by simp[hC'len]) (fun _=>by simp[hC'len]) (CR.ofL m)⟩;refine Rv.msl (e:=⟨w.heap.size,0,C'.toArray.size⟩) (c:=n) (Kc _ _ _) (UM _) ?_ ?_ rfl
   ·have:=YZ n a;unfold maxLen;omega
   ·show 0+n*sz'≤C'.toArray.size;simp[hC'len,hlen]
  ·cases he
theorem g8{t:TypeId}{l c:Operand}(he:Yy P t l c f h= .ok v h'):Qt P (.makeSlice t l c) f v h h':=by
 unfold Yy at he;split at he
 ·cases he
 ·rename_i el hel;split at he
  ·rename_i sz z hsz hz;obtain⟨kl,n,hl,he⟩:=recN he;obtain⟨kc,m,hm,he⟩:=recN he;rw[Yx,Yx] at he;obtain⟨hc,he⟩:=recB he;obtain⟨hc,a⟩:=Za hc;obtain⟨hc,b⟩:=Za hc;obtain⟨hc,i⟩:=Za hc;obtain⟨j,d⟩:=Za hc;have j:0<sz:=Zx j;have d:=UW d;have i:=UW i;have b:=YT b;have a:=UW a;rw[K9,U8] at he;obtain⟨hb,he⟩:=Qi he;obtain⟨rfl,rfl⟩:=Ju he;refine⟨_,hb,rfl,fun Φ F w dst ty pos after gd hF hn=>?_⟩
   obtain⟨zv,sz',by',hinf',rfl⟩:=lH hz;obtain⟨p,r,hinf⟩:=Qo hsz;rw[hinf'] at hinf;simp only[Jak,Jal] at hinf;obtain⟨rfl,rfl,rfl⟩:=hinf;have hby:byOf P el=some by':=by unfold byOf;rw[hinf'];rfl
   rw[hby] at a;simp only[Jaf] at a;obtain⟨inf,hi',hzz,hs,hbb⟩:=Jk hinf';rw[Y4,W4,VG] at b;have hls:=Jb hF l;have hms:=Jb hF c;rw[hl] at hls;rw[hm] at hms;have hrun:=run_make (P:=P) w t el inf zv (jk hel) hi' hzz kl kc (Int.ofNat n) (Int.ofNat m) (Wu n) (Int.ofNat_le.2 d) (by
    have k:inf.bytes*m≤65536*65536:=ZH (hbb▸a) i
    have:((inf.bytes*m:Nat):Int)≤((65536*65536:Nat):Int):=Int.ofNat_le.2 k
    rw[Wt] at this;simp only[Wx];omega) (by simp only[Wx];omega)
   have hmc:madeCells zv.cells ((Int.ofNat m).toNat*inf.size)=zrow zv.cells (m*sz'):=by
    rw[hs]
    rfl
   rw[hmc] at hrun;have o:=sK (Φ:=Φ) zv.cells m sz' b j;have hsize:(zrow zv.cells (m*sz')).size=m*sz':=by simp[zrow]
   have g:(repl m (zv.cells.toList.map cv)).length=m*sz':=by rw[qr,W4,VG,b]
   refine R7 (v:= .slice (some ⟨w.heap.size,0,none⟩) n m) (w':=w.alloc (.cells (zrow zv.cells (m*sz')) el (0,0))) ?_ ⟨_,_,Wn.alloc _ _,?_,NB.row rfl (fun _=>rfl) rfl ?_ (fun _=>?_) ?_⟩
   ·simp only[execOp];rw[hls.iI,hms.iI];simp only[Sem.run_bind,hrun]
    rfl
   ·refine Rv.msl (e:=⟨w.heap.size,0,(zrow zv.cells (m*sz')).size⟩) (c:=m) (Kc _ _ _) d (by unfold maxLen;omega) ?_ rfl;show 0+m*sz'≤(zrow zv.cells (m*sz')).size;rw[hsize];omega
   ·show(repl m (zv.cells.toList.map cv)).length≤_
    rw[g,hsize];exact UM _
   ·show(repl m (zv.cells.toList.map cv)).length=_
    rw[g,hsize]
   ·have:=CR.ofL o
    simpa using this
  ·cases he
theorem H2(l:List Nat):(AF l).length=l.length:=by
 induction l with
 |nil=>rfl
 |cons c l ih=>exact congrArg Nat.succ ih
theorem pE(l:List Nat):AF l=l.map fun c=>AV.i .u8 (Int.ofNat c):=by
 induction l with
 |nil=>rfl
 |cons c l ih=>exact congrArg (_:: ·) ih
theorem uy{s d:TypeId}{x:Operand}(he:jT P s d x f h= .ok v h'):Qt P (.convert s d x) f v h h':=by
 have he:Res.no 999=Res.ok v h':=he;cases he
theorem qz{t:TypeId}{p:TypeId×TypeId}(h:nS P t=some p):P.underlying t=some (.map p.1 p.2):=by unfold nS at h;split at h<;>first|(cases h;assumption)|cases h
theorem Rv.mmp{id:Nat}{e:Ent}(h:Φ id=some e):Rv Φ (.mp id) (.map (some e.g)):=by simp only[Rv];exact⟨e,h,rfl⟩
theorem Rv.mpI{id:Nat}{v:Value}(h:Rv Φ (.mp id) v):∃e,Φ id=some e∧v= .map (some e.g):=by simp only[Rv] at h;exact h
theorem mO{t:TypeId}{r:Option Operand}(he:Xi P t r f h= .ok v h'):Qt P (.makeMap t r) f v h h':=by
 unfold Xi at he;have nb:∀(Φ:Phi) (g:Nat),NB Φ h.n (itB (.map [] 0)) ⟨g,0,0⟩ (.map #[] 0):=fun Φ g=>NB.obj rfl ⟨[],rfl,rfl⟩;split at he
 ·obtain⟨hb,he⟩:=Qi he;obtain⟨rfl,rfl⟩:=Ju he;refine⟨_,hb,rfl,fun Φ F w dst ty pos after gd hF hn=>?_⟩
  exact R7 (v:= .map (some w.heap.size)) (w':=w.alloc (.map #[] 0)) (by simp[execOp,Instr.makeMap]) ⟨0,_,Wn.alloc _ _,Rv.mmp (Kc Φ h.n ⟨w.heap.size,0,0⟩),nb _ _⟩
 ·rename_i x;split at he
  ·rename_i k z hx;obtain⟨hm,he⟩:=recB he;obtain⟨p,hp⟩:=Jag.1 hm;obtain⟨hb,he⟩:=Qi he;obtain⟨rfl,rfl⟩:=Ju he;refine⟨_,hb,rfl,fun Φ F w dst ty pos after gd hF hn=>?_⟩
   have hr:=Jb hF x;rw[hx] at hr;have hv:=hr.iI;exact R7 (v:= .map (some w.heap.size)) (w':=w.alloc (.map #[] 0)) (by simp[execOp,Instr.makeMap,hv,run_underlying (qz hp),asInt,asIntOf]) ⟨0,_,Wn.alloc _ _,Rv.mmp (Kc Φ h.n ⟨w.heap.size,0,0⟩),nb _ _⟩
  ·cases he
end
section
variable {P:Program} {f:Fr} {v:AV} {h h':Hp} {Φ:Phi} {τ:Tau} {w w':World}
theorem km{vs:List AV}{us:List Value}(ha:Va vs=true)(hr:RvL Φ vs us):us.all Value.oneCell'=true:=by
 induction vs generalizing us with
 |nil=>simp only[RvL] at hr;subst hr;rfl
 |cons a vs ih=>
  simp only[RvL] at hr;obtain⟨u,r,rfl,b,d⟩:=hr;have ha:(bif scal a then Va vs else false)=true:=ha;cases hs:scal a with
  |false=>rw[hs] at ha;cases ha
  |true=>
   rw[hs] at ha;rw[List.all_cons,b.scal hs,ih ha d];rfl
theorem CR.put{C:Array Value}{base off:Nat}{cs vs:List AV}{us:List Value}(hc:CR Φ C base cs)(hr:RvL Φ vs us)(hl:off+vs.length≤cs.length)(hs:base+cs.length≤C.size):
  CR Φ (C.toList.take (base+off)++us++C.toList.drop (base+off+us.length)).toArray base (cs.take off++vs++cs.drop (off+vs.length)):=by
 intro i a hi;have hul:=hr.len;have hgetC:∀j x,C[j]? =some x→C.toList[j]? =some x:=fun j x hx=>by rw[VF];exact hx
 have e:(C.toList.take (base+off)).length=base+off:=by rw[UH,VG];omega
 have g:(cs.take off).length=off:=by rw[UH];omega
 rw[UF,WS] at hi;rw[g] at hi;simp only[W2,UF];rw[WS,e];by_cases b:i<off
 ·rw[if_pos b,W1,if_pos b] at hi;obtain⟨x,hx,hxr⟩:=hc i a hi;rw[if_pos (by omega),W1,if_pos (by omega)];exact⟨x,hgetC _ _ hx,hxr⟩
 ·rw[if_neg b,WS] at hi;rw[if_neg (by omega),WS,hul];have k:base+i-(base+off)=i-off:=by omega
  rw[k];by_cases d:i-off<vs.length
  ·rw[if_pos d] at hi ⊢;exact hr.at hi
  ·rw[if_neg d] at hi ⊢;rw[WX] at hi ⊢;obtain⟨x,hx,hxr⟩:=hc _ a hi;refine⟨x,?_,hxr⟩;rw[←hgetC _ _ hx]
   congr 1
   omega
theorem Lm{id off:Nat}{vs:List AV}{k:Hp→Res}(e:wrB h id off vs k= .ok v h'):∃b,id<h.n∧get5 id h.t=some b∧b.ob= .row∧b.ro=false∧Va vs=true∧off+vs.length≤b.cs.length∧
  k (putB h id (some ⟨b.ty,b.ex,false,b.cs.take off++vs++b.cs.drop (off+vs.length),.row⟩))= .ok v h':=by
 unfold wrB at e;obtain⟨b,hid,hb,hrow,e⟩:=xb e;obtain⟨d,e⟩:=recB e;obtain⟨g,e⟩:=recB e;rcases tU b.cs off vs (fun cs=>k (putB h id (some ⟨b.ty,b.ex,false,cs,.row⟩))) with ⟨a,hl⟩|⟨n,a⟩
 ·rw[a] at e;exact⟨b,hid,hb,hrow,nv d,g,hl,e⟩
 ·rw[a] at e;cases e
theorem Rel.wr {id off:Nat} {b:Blk} {en:Ent} {C:Array Value} {T:TypeId} {vs:List AV} {us:List Value} (r:Rel Φ τ h w) (hid:id<h.n) (hb:get5 id h.t=some b) (br:BR Φ τ w b en id C T) (hro:b.ro=false)
  (hr:RvL Φ vs us) (hl:off+vs.length≤b.cs.length):
  Rel Φ τ (putB h id (some ⟨b.ty,b.ex,false,b.cs.take off++vs++b.cs.drop (off+vs.length),.row⟩)) (w.setRow en.g (C.toList.take (en.base+off)++us++C.toList.drop (en.base+off+us.length)).toArray)∧
  Tw Φ τ h w Φ τ h.n (w.setRow en.g (C.toList.take (en.base+off)++us++C.toList.drop (en.base+off+us.length)).toArray):=by
 have hle:=br.le;have hsz:=(br.own_ hro).2;have hul:=hr.len;refine r.put hid hb br hro rfl rfl rfl rfl ?_ ?_ (br.cr.put hr hl (by omega)) rfl
 ·simp only[Uv,UH,UG];omega
 ·simp only[XZ,Uv,UH,UG,VG];omega
theorem r8{t:TypeId}{a x:Operand}(e:Qs P t a x f h= .ok v h')(hlim:h.n≤big5→True:=fun _=>trivial):(h.n≤big5→Grow h h')∧
  ∀(Φ:Phi) (τ:Tau) (F:Wf.Fr) (w:World) (dst:Option Tmp) (ty:TypeId) (pos:String) (after:Array Edge) (gd:Option (Nat×Bool)),FR Φ f F→Rel Φ τ h w→
  St P (fe F) ⟨dst,.store t a x,ty,pos,after,gd⟩ w (fun x w'=>Rv Φ v x∧Rel Φ τ h' w'∧Tw Φ τ h w Φ τ h'.n w') KF:=by
 unfold Qs at e;split at e
 ·rename_i id off ha;split at e
  ·rename_i vs hvs;split at e
   ·rename_i sz hsz;obtain⟨hl,e⟩:=recB e;have hl:=YT hl;rw[Y4] at hl;obtain⟨b,hid,hb,hrow,hro,hsc,hle,e⟩:=Lm e;obtain⟨rfl,rfl⟩:=Ju e;refine⟨fun hn=>Grow.put hn hid hb,fun Φ τ F w dst ty pos after gd hF hR=>?_⟩
    have hr:=Jb hF a;rw[ha] at hr;obtain⟨en,hen,hv⟩:=hr.pI;obtain⟨e',C,T,br⟩:=(hR.blk id b hid hb).row hrow
    have:=br.ent
    rw[hen] at this;cases this;obtain⟨us,g,d⟩:=ku hvs (Jb hF x);obtain⟨z,by_,hinf⟩:=Qo hsz;obtain⟨inf,hi',_,hs,_⟩:=Jk hinf;have hble:=br.le;have hbs:=(br.own_ hro).2;have hul:=d.len;obtain⟨i,j⟩:=hR.wr hid hb br hro d hle;refine S5 (C:=C.toList) (T:=T) hi' hs hv g (by rw[hul,hl]) ?_ (by rw[VG];omega) (km hsc d) ?_
    ·unfold Wf.Blk;rw[br.obj0 hro]
    ·intro C' hC';subst hC';exact⟨by simp only[Rv],i,j⟩
   ·cases e
  ·cases e
 ·cases e
structure SrcW (P:Program) (t':TypeId) (w:World) (size n:Nat) (y:Value) (ys:List Value):Prop where
 ty:P.underlying t'=some .string∨∃e,P.underlying t'=some (.slice e)
 len:∀w',(Builtin.lenOf y).run P w'= .ok n w'
 cells:∀w',w'.heap=w.heap→(Builtin.firstCells size n y).run P w'= .ok ys.toArray w'
theorem kx{t t' ty e:TypeId}{i:TypeInfo}(ht:P.underlying t=some (.slice e))(hi:P.info? e=some i){s y:Value}{n c:Nat}{a:Option Addr}(hs:s= .slice a n c)(hn:n≤c)(S:SrcW P t' w i.size 0 y []):
  (Builtin.append_ #[t,t'] ty #[s,y]).run P w= .ok s w:=by
 subst hs;have b:=S.len w;have d:=S.cells w rfl;rcases S.ty with hu|⟨e',hu⟩<;>cases a<;>simp[Builtin.append_,run_underlying ht,run_underlying hu,sizeOf,typeInfo,hi,b,d,hn,storeCells]
theorem xd {t t' ty e:TypeId} {i:TypeInfo} (ht:P.underlying t=some (.slice e)) (hi:P.info? e=some i) {g o sLen sCap:Nat} {T:TypeId} {cur:Array Value} (hg:w.heap[g]? =some (.cells cur T (0,0)))
  {y:Value} {m:Nat} {news:List Value} (S:SrcW P t' w i.size m y news) (a:∀u∈news,u.oneCell'=true) (hroom:sLen+m≤sCap) (hfit:o+sLen*i.size+news.length≤cur.size):
  (Builtin.append_ #[t,t'] ty #[.slice (some ⟨g,o,none⟩) sLen sCap,y]).run P w=
   .ok (.slice (some ⟨g,o,none⟩) (sLen+m) sCap) (w.setRow g (cur.toList.take (o+sLen*i.size)++news++cur.toList.drop (o+sLen*i.size+news.length)).toArray):=by
 have hl:=S.len w;have hf:=S.cells w rfl;have hst:=run_storeCells_at P g (o+sLen*i.size) T news 0 cur w hg (by simpa using hfit) a;simp only[YH] at hst;rcases S.ty with hu|⟨e',hu⟩<;>simp[Builtin.append_,run_underlying ht,run_underlying hu,sizeOf,typeInfo,hi,hl,hroom,hf,Addr.add_lit,hst]
theorem rq {t t' ty e:TypeId} {i:TypeInfo} {z:Value} (ht:P.underlying t=some (.slice e)) (hi:P.info? e=some i) (hz:i.zero=some z) {y:Value} {n:Nat} {news:List Value} (S:SrcW P t' w i.size n y news)
  (a:0<n) (b:(n:Int)≤9223372036854775807) (d:n*i.bytes≤281474976710656):
  (Builtin.append_ #[t,t'] ty #[.slice none 0 0,y]).run P w=
   .ok (.slice (some ⟨w.heap.size,0,none⟩) n (grownCap w n 0 e)) (w.drew.alloc (.cells (news.toArray++Builtin.zeroCells z.cells (grownCap w n 0 e-n)) e)):=by
 have hn:n≠0:=by omega
 have h63':¬(9223372036854775807<(n:Int)):=by omega
 have h48':¬(281474976710656<Builtin.nextslicecap n 0*i.bytes):=by rw[nextslicecap_zero a];omega
 have hl:=S.len w;have hf:=S.cells w.drew rfl;rcases S.ty with hu|⟨e',hu⟩<;>simp[Builtin.append_,run_underlying ht,run_underlying hu,sizeOf,typeInfo,zeroValue,hi,hz,hl,hn,h63',h48',Question.forced,run_firstCells_none,hf,newRow,grownCap]
theorem kf {t t' ty e:TypeId} {i:TypeInfo} {z:Value} (ht:P.underlying t=some (.slice e)) (hi:P.info? e=some i) (hz:i.zero=some z)
  {b:Addr} {sLen sCap:Nat} {olds:List Value} (hlo:olds.length=sLen*i.size) (holds:∀j v,olds[j]? =some v→w.cell? (b.add j)=some v) {y:Value} {n:Nat} {news:List Value} (S:SrcW P t' w i.size n y news)
  (hg:sCap<sLen+n) (a:((sLen+n:Nat):Int)≤9223372036854775807) (hfit:Builtin.nextslicecap (sLen+n) sCap*i.bytes≤281474976710656):
  (Builtin.append_ #[t,t'] ty #[.slice (some b) sLen sCap,y]).run P w=
   .ok (.slice (some ⟨w.heap.size,0,none⟩) (sLen+n) (grownCap w (sLen+n) sCap e))
    (w.drew.alloc (.cells (olds.toArray++news.toArray++Builtin.zeroCells z.cells (grownCap w (sLen+n) sCap e-(sLen+n))) e)):=by
 have hn:¬(sLen+n≤sCap):=by omega
 have h63':¬(9223372036854775807<((sLen:Int)+(n:Int))):=by omega
 have h48':¬(281474976710656<Builtin.nextslicecap (sLen+n) sCap*i.bytes):=by omega
 have hl:=S.len w;have hf:=S.cells w.drew rfl;have hfo:=run_firstCells_some (P:=P) w.drew i.size sLen b sLen sCap olds hlo (by simpa using holds);rcases S.ty with hu|⟨e',hu⟩
 all_goals
  simp[Builtin.append_,run_underlying ht,run_underlying hu,sizeOf,typeInfo,zeroValue,hi,hz,hl,hn,h63',h48',Question.forced,hf,hfo,newRow,grownCap]
  congr 2
  apply VC;simp[UF]
theorem SE {ρ:Operand→Value} {a b:Operand} {t t':TypeId} {dst:Option Tmp} {ty:TypeId} {pos:String} {after:Array Edge} {gd:Option (Nat×Bool)} {K:Value→World→Prop} {Kp:List PanicEntry→World→Prop} {x:Value}
  (hr:(Builtin.append_ #[t,t'] ty #[ρ a,ρ b]).run P w= .ok x w') (hk:K x w'):St P ρ ⟨dst,.call {callee:= .builtin .append,args:= #[a,b],argTypes:= #[t,t']},ty,pos,after,gd⟩ w K Kp:=by
 refine R7 (v:=x) (w':=w') ?_ hk;simp[execOp,resolve,invoke,builtin,hr]
theorem ko{e m n:Nat}{k:Nat→Res}(he:rb P e m n k= .ok v h'):m+n≤1000000∧(∀z sz by_,Zf P e=some (z,sz,by_)→by_≤65536)∧k (m+n)= .ok v h':=by
 unfold rb at he;rw[Yx] at he;obtain⟨hc,he⟩:=recB he;obtain⟨b,a⟩:=Za hc;refine⟨UW b,fun z sz by_ hi=>?_,he⟩
 have a:=UW a;unfold byOf at a;rw[hi] at a;exact a
theorem mU {el sz:Nat} {b:Hp} {m n:Nat} {us vs:List AV} {xs ys:List Value} {z:Value} {by_ G:Nat} {T:TypeId} {d:World} (he:V2 P el sz b m n us vs= .ok v h') (hR:Rel Φ τ b w) (hf:Φ b.n=none)
  (hu:RvL Φ us xs) (hv:RvL Φ vs ys) (hxl:xs.length=m*sz) (hyl:ys.length=n*sz) (hz:z.cells.size=sz) (hG:m+n≤G) (hGm:G≤maxLen)
  (hT:T=el) (hw:Wn w (.cells (xs.toArray++ys.toArray++Builtin.zeroCells z.cells (G-(m+n))) T (0,0)) d):
  Grow b h'∧∃Φ' τ',Rv Φ' v (.slice (some ⟨w.heap.size,0,none⟩) (m+n) G)∧Rel Φ' τ' h' d∧Tw Φ τ b w Φ' τ' h'.n d:=by
 unfold V2 at he;obtain⟨k,l,he⟩:=ko he;rw[K9] at he;obtain⟨hb,he⟩:=Qi he;obtain⟨rfl,rfl⟩:=Ju he;have hCs:(xs.toArray++ys.toArray++Builtin.zeroCells z.cells (G-(m+n))).size=G*sz:=by
  simp only[Array.size_append,XZ,size_zeroCells,hz,hxl,hyl,←YE]
  congr 1;omega
 have hap:=hu.app hv;have nb:NB Φ b.n ⟨el,false,false,us++vs,.row⟩ ⟨w.heap.size,0,(xs.toArray++ys.toArray++Builtin.zeroCells z.cells (G-(m+n))).size⟩ (.cells (xs.toArray++ys.toArray++Builtin.zeroCells z.cells (G-(m+n))) T (0,0)):=by
  refine NB.row rfl (fun _=>rfl) hT ?_ (fun hx=>by cases hx) ?_
  ·show(us++vs).length≤_
   rw[hCs,←hap.len,Uv,hxl,hyl,←YE];exact ZI _ hG
  ·intro i a hi;obtain⟨x,hx,hr⟩:=hap.at hi;refine⟨x,?_,hr⟩;have hlt:=(WY.1 hx).1;rw[Jab,Array.getElem?_append_left (by simp at hlt ⊢;exact hlt)];simpa using hx
 obtain⟨τ',g,j⟩:=hR.new hb hf nb hw;refine⟨Grow.new hb,_,τ',?_,g,j⟩;refine Rv.msl (e:=⟨w.heap.size,0,_⟩) (c:=G) (Kc _ _ _) hG hGm ?_ trivial;show 0+G*sz≤(xs.toArray++ys.toArray++Builtin.zeroCells z.cells (G-(m+n))).size;rw[hCs];omega
theorem j8{id i:Nat}(r:Rel Φ τ h w)(hid:id<h.n)(hi:i<h.n):get5 i (putB h id none).t=if i=id then none else get5 i h.t:=J8 _ _ _ _ (Qh r hi) (Qh r hid)
theorem ia{id i:Nat}(r:Rel Φ τ h w)(hid:id<h.n)(hi:h.n≤i)(a:i<big5):get5 i (putB h id none).t=none:=by
 have:get5 i (putB h id none).t=if i=id then none else get5 i h.t:=J8 _ _ _ _ a (Qh r hid)
 rw[this,if_neg (by omega)];exact r.fin i hi a
theorem Rel.kill{id:Nat}(r:Rel Φ τ h w)(hid:id<h.n):Rel Φ τ (putB h id none) w:=by
 refine⟨r.lim,fun i b hi hb=>?_,fun i hi a=>ia r hid hi a⟩;have hi:i<h.n:=hi;rw[j8 r hid hi] at hb;split at hb
 ·cases hb
 ·exact r.blk i b hi hb
theorem Tw.kill{id n:Nat}{Φ':Phi}{τ':Tau}(r:Rel Φ τ h w)(hid:id<h.n)(t:Tw Φ τ (putB h id none) w Φ' τ' n w'):Tw Φ τ h w Φ' τ' n w':=
 ⟨t.os,t.tape,t.output,t.size,t.sub,t.same,fun g hg hk=>t.keep g hg fun i e=>⟨fun hi=>by
  rw[j8 r hid hi];split
  ·rfl
  ·exact(hk i e).1 hi,(hk i e).2⟩⟩
theorem Rel.stay {id off m n sz:Nat} {b:Blk} {en:Ent} {C:Array Value} {T:TypeId} {el:TypeId} {us vs:List AV} {ys:List Value} {c:Nat} (r:Rel Φ τ h w) (hid:id<h.n) (hb:get5 id h.t=some b) (br:BR Φ τ w b en id C T) (hro:b.ro=false) (hbt:b.ty=el) (hlim:h.n<big5) (hf:Φ h.n=none)
  (hus:us=(b.cs.drop off).take (m*sz)) (hul:m*sz≤(b.cs.drop off).length) (hv:RvL Φ vs ys) (hyl:ys.length=n*sz) (hc:m+n≤c) (hcm:c≤maxLen) (hck:off+c*sz≤en.k):
  ∃Φ' τ',Rv Φ' (.sl h.n 0 (m+n) sz none) (.slice (some ⟨en.g,en.base+off,none⟩) (m+n) c)∧
   Rel Φ' τ' ⟨set5 h.n (some ⟨el,false,false,us++vs,.row⟩) (putB h id none).t,h.n+1⟩ (w.setRow en.g (C.toList.take (en.base+off+m*sz)++ys++C.toList.drop (en.base+off+m*sz+ys.length)).toArray)∧
   Tw Φ τ h w Φ' τ' (h.n+1) (w.setRow en.g (C.toList.take (en.base+off+m*sz)++ys++C.toList.drop (en.base+off+m*sz+ys.length)).toArray):=by
 have hnew:∀D,(w.setRow en.g D).heap[en.g]? =some (.cells D T (0,0)):=fun D=>setRow_heap w en.g C D T (0,0) (br.obj0 hro);have hlab:=br.lab;rw[hro] at hlab;simp only[VM,if_false] at hlab;have hsz:=(br.own_ hro).2;have hle:=br.le;rw[UG] at hul;have hmc:(m+n)*sz≤c*sz:=ZI _ hc;rw[YE] at hmc;generalize hD:(C.toList.take (en.base+off+m*sz)++ys++C.toList.drop (en.base+off+m*sz+ys.length)).toArray=D;have hDs:D.size=C.size:=by
  subst hD;simp only[XZ,Uv,UH,UG,VG];omega
 have hvl:=hv.len;have husl:us.length=m*sz:=by rw[hus,UH,UG];omega
 have hcr:CR Φ D (en.base+off) (us++vs):=by
  intro i a hi;subst hD;have u:(C.toList.take (en.base+off+m*sz)).length=en.base+off+m*sz:=by rw[UH,VG];omega
  simp only[W2,UF];rw[WS,u];rw[WS,husl] at hi;by_cases l:i<m*sz
  ·rw[if_pos l,hus,W1,if_pos l,WX] at hi;obtain⟨x,hx,hxr⟩:=br.cr _ a hi;rw[if_pos (by omega),W1,if_pos (by omega)];refine⟨x,?_,hxr⟩;rw[←hx,YD];simp
  ·rw[if_neg l] at hi;rw[if_neg (by omega),WS,if_pos (by have:=(WY.1 hi).1;omega)];rw[show en.base+off+i-(en.base+off+m*sz)=i-m*sz by omega];exact hv.at hi
 refine⟨ext Φ h.n ⟨en.g,en.base+off,en.k-off⟩,fun g=>if g=en.g then .own h.n else τ g,?_,⟨hlim,?_,?_⟩,⟨rfl,rfl,rfl,by simp[World.setRow],Sub.ext hf,?_,?_⟩⟩
 ·have:=Rv.msl (id:=h.n) (off:=0) (z:=sz) (cap:=none) (e:=⟨en.g,en.base+off,en.k-off⟩) (c:=c) (Kc Φ h.n _) hc hcm (by show 0+c*sz≤en.k-off;omega) trivial
  simpa using this
 ·intro i b' hi hb';have hi:i<h.n+1:=hi;have hb':get5 i (set5 h.n (some ⟨el,false,false,us++vs,.row⟩) (putB h id none).t)=some b':=hb';rw[J8 _ _ _ _ (by omega) hlim] at hb';by_cases e:i=h.n
  ·rw[if_pos e] at hb';cases hb';subst e;refine .inl ⟨⟨en.g,en.base+off,en.k-off⟩,D,T,Kc _ _ _,?_,rfl,.inl ⟨(br.own_ hro).1.trans hbt,?_⟩,⟨(0,0),hnew D,fun _=>rfl⟩,?_,(fun hx=>by cases hx),hcr.mono (Sub.ext hf)⟩
   ·show(if en.g=en.g then Lab.own h.n else τ en.g)=_
    rw[if_pos rfl];rfl
   ·show D.size=en.base+off+(en.k-off);rw[hDs];omega
   ·show(us++vs).length≤en.k-off
    rw[Uv,husl,←hvl,hyl];omega
  ·rw[if_neg e,j8 r hid (by omega)] at hb';split at hb'
   ·cases hb'
   ·rename_i hne;obtain⟨o,_,_,p,k⟩:=(r.blk i b' (by omega) hb').at_;have j:o.g≠en.g:=by
     intro hg;have d:=p;rw[hg,hlab] at d;split at d
     ·cases d
     ·cases d;exact hne rfl
    exact k (Sub.ext hf) (setRow_other w en.g _ D j) (if_neg j)
 ·intro i hi s;have hi:h.n+1≤i:=hi;show get5 i (set5 h.n (some ⟨el,false,false,us++vs,.row⟩) (putB h id none).t)=none;rw[J8 _ _ _ _ s hlim,if_neg (by omega)];exact ia r hid (by omega) s
 ·intro i hi;unfold Ev.ext;rw[if_neg (by omega)]
 ·intro g hg hk;have hne:g≠en.g:=by
   rintro rfl
   have:=(hk id hlab).1 hid
   rw[hb] at this;cases this
  refine⟨setRow_other w en.g g D hne,?_⟩
  show(if g=en.g then Lab.own h.n else τ g)=τ g
  rw[if_neg hne]
end
section
variable {P:Program} {f:Fr} {v:AV} {h h':Hp} {Φ:Phi} {τ:Tau} {w w':World}
theorem uk{w w':World}(h:w'.heap=w.heap)(a:Addr):w'.cell? a=w.cell? a:=by unfold World.cell?;rw[h]
def SlTy(P:Program)(t:TypeId):Prop:=P.underlying t=some .string∨∃e,P.underlying t=some (.slice e)
theorem M5{sz:Nat}{x:AV}{k:Nat→List AV→Res}(e:srcK h sz x k= .ok v h'):∃n vs,0<n∧k n vs= .ok v h'∧
  ∀(Φ:Phi) (τ:Tau) (w:World) (y:Value) (t':TypeId),Rv Φ x y→Rel Φ τ h w→SlTy P t'→∃ys,ys.length=n*sz∧RvL Φ vs ys∧SrcW P t' w sz n y ys:=by
 unfold srcK at e;split at e
 ·rename_i id off n z cap;obtain⟨hc,g⟩:=recB e;clear e;obtain⟨o,d⟩:=Za hc
  have:=YT o
  subst this;obtain⟨b,hid,hb,hrow,e⟩:=xb g;clear g;rcases vf (dr b.cs off) (Nat.mul n z) (k n) with ⟨p,hl⟩|⟨m,p⟩
  ·rw[p,V6] at e;rw[V6] at hl;refine⟨n,_,Zx d,e,fun Φ τ w y t' hr hR ht=>?_⟩
   obtain⟨en,c,hen,rfl,_⟩:=hr.slI;obtain⟨e',C,T,br⟩:=(hR.blk id b hid hb).row hrow
   have:=br.ent
   rw[hen] at this;cases this;obtain⟨ys,k1,r,s⟩:=br.cells off (n*z) hl;refine⟨ys,k1,r,ht,fun w'=>rfl,fun w' hw=>?_⟩
   exact run_firstCells_some (P:=P) w' z n _ n c ys k1 fun j u hj=>by rw[uk hw,Addr.add_lit];exact s j u hj
  ·rw[p] at e;cases e
 ·rename_i l;obtain⟨hc,g⟩:=recB e;clear e;have e:=g;clear g;obtain⟨o,d⟩:=Za hc
  have:=YT o
  subst this;rw[Yx,K9,U8] at e;have d:=Zx d;rw[Y4] at e d;refine⟨_,_,d,e,fun Φ τ w y t' hr hR ht=>?_⟩
  obtain⟨hl,rfl⟩:=hr.sI;have hsize:(⟨(l.map UInt8.ofNat).toArray⟩:ByteArray).size=l.length:=by simp[ByteArray.size]
  refine⟨l.map fun c=> .int .u8 (Int.ofNat c),by simp,?_,ht,fun w'=>?_,fun w' hw=>?_⟩
  ·rw[pE];refine RvL.mk (by simp) fun i a u ha hu=>?_
   rw[VA] at ha hu;cases hli:l[i]? with
   |none=>rw[hli] at ha;cases ha
   |some c=>rw[hli] at ha hu;cases ha;cases hu;exact Rv.mi
  ·simp[str,Builtin.lenOf,hsize]
  ·have hcs:(l.map UInt8.ofNat).map (fun b:UInt8=>Value.int .u8 (b.toNat:Int))=l.map fun c=>Value.int .u8 (Int.ofNat c):=by
    rw[XD];apply XC;intro c hc;simp[ZG (hl c hc)]
   have hex:(⟨(l.map UInt8.ofNat).toArray⟩:ByteArray).extract 0 l.length=⟨(l.map UInt8.ofNat).toArray⟩:=by
    have:=Q6 (l.map UInt8.ofNat) 0 l.length
    rw[WN,UU (by simp)] at this;exact this
   have hq:(Builtin.firstCells 1 l.length (str (l.map UInt8.ofNat))).run P w'= .ok ((⟨(l.map UInt8.ofNat).toArray⟩:ByteArray).data.map fun b=>Value.int .u8 (b.toNat:Int)) w':=by
    simp only[str,Builtin.firstCells,hex,Sem.run_pure]
   rw[hq]
   congr 1
   apply VC;rw[←hcs];simp
 ·cases e
theorem xV{x:AV}(hx:oi x=true){Φ:Phi}{y:Value}{t':TypeId}{sz:Nat}(hr:Rv Φ x y)(ht:SlTy P t'):SrcW P t' w sz 0 y []:=by
 have key:∀(a:Option Addr) (c:Nat),SrcW P t' w sz 0 (.slice a 0 c) []:=fun a c=>⟨ht,fun w'=>rfl,fun w' _=>by cases a<;>simp[Builtin.firstCells,loadCells,loadCellsFrom]⟩;unfold oi at hx;split at hx
 ·simp only[Rv] at hr;subst hr;exact key _ _
 ·simp only[Rv] at hr;obtain⟨a,c,rfl,_⟩:=hr;exact key _ _
 ·obtain⟨_,c,_,rfl,_⟩:=hr.slI;exact key _ _
 ·obtain⟨_,rfl⟩:=hr.sI;exact⟨ht,fun w'=>rfl,fun w' _=>by simp[str,Builtin.firstCells]⟩
 ·cases hx
theorem nU{el sz:Nat}{a:Hp}{m n:Nat}{us vs:List AV}(he:V2 P el sz a m n us vs= .ok v h'):h'.n=a.n+1∧a.n<big5∧m+n≤1000000∧(∀z sz by_,Zf P el=some (z,sz,by_)→by_≤65536):=by
 unfold V2 at he;obtain⟨b,d,he⟩:=ko he;rw[K9] at he;obtain⟨hb,he⟩:=Qi he;obtain⟨rfl,rfl⟩:=Ju he;exact⟨rfl,hb,b,d⟩
theorem nK{el sz:Nat}{a:Hp}{m n:Nat}{us vs:List AV}(he:V2 P el sz a m n us vs= .ok v h'):Grow a h':=by
 unfold V2 at he;obtain⟨b,d,he⟩:=ko he;rw[K9] at he;obtain⟨hb,he⟩:=Qi he;obtain⟨rfl,rfl⟩:=Ju he;exact Grow.new hb
theorem Il{u:Value}{id off n sz:Nat}{cap:Option Nat}{b:Blk}(hr:Rv Φ (.sl id off n sz cap) u)(hR:Rel Φ τ h w)(hid:id<h.n)(hb:get5 id h.t=some b)(hrow:b.ob= .row)(hl:n*sz≤(b.cs.drop off).length):
  ∃A c ys,u= .slice (some A) n c∧ys.length=n*sz∧RvL Φ ((b.cs.drop off).take (n*sz)) ys∧∀j y,ys[j]? =some y→w.cell? (A.add j)=some y:=by
 obtain⟨en,c,hen,rfl,_⟩:=hr.slI;obtain⟨e',C,T,br⟩:=(hR.blk id b hid hb).row hrow
 have:=br.ent
 rw[hen] at this;cases this;obtain⟨ys,a,d,e⟩:=br.cells off (n*sz) hl;exact⟨_,c,ys,rfl,a,d,fun j y hj=>by rw[Addr.add_lit];exact e j y hj⟩
def MvB(P:Program)(op:Op)(f:Fr)(v:AV)(h h':Hp):Prop:=(h.n≤big5→Grow h h')∧
  ∀(Φ:Phi) (τ:Tau) (F:Wf.Fr) (w:World) (dst:Option Tmp) (ty:TypeId) (pos:String) (after:Array Edge) (gd:Option (Nat×Bool)),FR Φ f F→Rel Φ τ h w→Fre Φ h.n h'.n→
  St P (fe F) ⟨dst,op,ty,pos,after,gd⟩ w (fun x w'=>∃Φ' τ',Rv Φ' v x∧Rel Φ' τ' h' w'∧Tw Φ τ h w Φ' τ' h'.n w') KF
theorem qU{ts:Array TypeId}{args:Array Operand}(e:jd P ts.toList (opds f args.toList) h= .ok v h'):MvB P (.call {callee:= .builtin .append,args:=args,argTypes:=ts}) f v h h':=by
 unfold jd at e;split at e
 ·rename_i t t' s x hts hxs;obtain⟨a,b,hal,ha,hb⟩:=two hxs;have hargs:args= #[a,b]:=by apply VC;rw[hal]
  subst hargs;have hts':ts= #[t,t']:=by apply VC;rw[hts]
  subst hts';split at e
  ·cases e
  ·rename_i el hel;split at e
   ·rename_i sz zc hsz hzc;obtain⟨hc,A⟩:=recB e;clear e;obtain⟨hc,hzl⟩:=Za hc;obtain⟨hpos,htt⟩:=Za hc;have hpos:0<sz:=Zx hpos;have hu:=jk hel;have htt:SlTy P t':=by
     rcases Bool.or_eq_true_iff.1 htt with Q|Q
     ·have:=YT Q;subst this;exact .inr ⟨el,hu⟩
     ·exact .inl (V1 (Za Q).1)
    have hzl:=YT hzl;obtain⟨zv,sz',by_,hinf,rfl⟩:=lH hzc;obtain⟨ab,ac,y⟩:=Qo hsz;rw[hinf] at y;simp only[Jak,Jal] at y;obtain⟨rfl,rfl,rfl⟩:=y;rw[Y4,W4,VG] at hzl;obtain⟨inf,hi',hz,hs,hby⟩:=Jk hinf;rw[Xx] at A;split at A
    ·
     rename_i hE;have fin:∀ {s':AV},opd f a=s'→(s'= .ns∨∃id off n z cap,s'= .sl id off n z cap)→Res.ok s' h= .ok v h'→MvB P (.call {callee:= .builtin .append,args:= #[a,b],argTypes:= #[t,t']}) f v h h':=by
      intro s' hs' hk he;obtain⟨rfl,rfl⟩:=Ju he;refine⟨fun _=>Grow.refl _,fun Φ τ F w dst ty pos after gd hF hR hFr=>?_⟩
      have hra:=Jb hF a;have hrb:=Jb hF b;rw[hs'] at hra;rw[hb] at hrb;have S:=xV (P:=P) (w:=w) (sz:=inf.size) hE hrb htt;refine SE (x:=fe F a) (w':=w) ?_ ⟨Φ,τ,hra,hR,Tw.refl _ _ _ _ _⟩;rcases hk with rfl|⟨id,off,n,z,cap,rfl⟩
      ·simp only[Rv] at hra;exact kx hu hi' hra (UM _) S
      ·obtain⟨en,c,_,hv,hn,_⟩:=hra.slI;exact kx hu hi' hv hn S
     split at A
     ·exact fin ha (.inl rfl) A
     ·exact fin ha (.inr ⟨_,_,_,_,_,rfl⟩) A
     ·cases A
    ·obtain⟨n,vs,hn,I,hsrc⟩:=M5 (P:=P) A;clear A;cases s with
     |ns=>
      have p:V2 P el sz' h 0 n [] vs= .ok v h':=I;clear I;have hg:=nK p;obtain⟨H,hlim,hmn,hbb⟩:=nU p;refine⟨fun _=>hg,fun Φ τ F w dst ty pos after gd hF hR hFr=>?_⟩
      have hra:=Jb hF a;have hrb:=Jb hF b;rw[ha] at hra;rw[hb] at hrb;simp only[Rv] at hra;obtain⟨ys,hyl,hyr,S⟩:=hsrc Φ τ w _ t' hrb hR htt;have hby':=hbb _ _ _ hinf;have hnb:n*by_≤1000000*65536:=ZH (by omega) hby';rw[←hs] at S;have hrun:=rq (P:=P) (w:=w) (ty:=ty) hu hi' hz S hn (by omega) (by rw[hby];omega);have hge:=grownCap_ge w n 0 el;have hgm:=grownCap_le_maxLen w n 0 el (by unfold maxLen;omega);obtain⟨_,Φ',τ',k1,D,E⟩:=mU (G:=grownCap w n 0 el) (z:=zv) (by_:=by_) (xs:=[]) p hR (hFr _ (UM _) (by omega)) (by simp only[RvL]) hyr (by simp) hyl hzl (by omega) hgm rfl (Wn.drew w _);refine SE (w':=w.drew.alloc (.cells (ys.toArray++Builtin.zeroCells zv.cells (grownCap w n 0 el-n)) el)) (by rw[hra];exact hrun) ⟨Φ',τ',?_,?_,?_⟩
      ·simpa using k1
      ·simpa using D
      ·simpa using E
     |sl id off m z cap=>
      unfold apTo at I;obtain⟨hzz,p⟩:=recB I;clear I;have hzz:=YT hzz;subst hzz;cases cap with
      |some J=>
       simp only at p;rw[Xx] at p;split at p
       ·
        rename_i hfit;have hfit:m+n≤J:=UW hfit;obtain⟨B,d,l,j,hro,hsc,hle,r⟩:=Lm p;clear p;obtain⟨hmn,hbb,k⟩:=ko r;clear r;obtain⟨rfl,rfl⟩:=Ju k;refine⟨fun hl=>Grow.put hl d l,fun Φ τ F w dst ty pos after gd hF hR hFr=>?_⟩
        have hra:=Jb hF a;have hrb:=Jb hF b;rw[ha] at hra;rw[hb] at hrb;obtain⟨ys,hyl,hyr,S⟩:=hsrc Φ τ w _ t' hrb hR htt;obtain⟨en,i,hen,hv,X,L,M,N⟩:=hra.slI
        have:i=J:=N
        subst this;obtain⟨e',C,T,br⟩:=(hR.blk id B d l).row j
        have:=br.ent
        rw[hen] at this;cases this;have hvl:=hyr.len;obtain⟨Y,Z⟩:=hR.wr d l br hro hyr hle;have hble:=br.le;have hbs:=(br.own_ hro).2;have hle':off+m*z+vs.length≤B.cs.length:=hle;rw[←hs] at S;have hrun:=xd (P:=P) (w:=w) (ty:=ty) hu hi' (g:=en.g) (o:=en.base+off) (sLen:=m) (sCap:=i) (br.obj0 hro) S (fun u hu=>by have:=km hsc hyr;exact WD.1 this u hu) hfit (by rw[hs];omega);rw[hs] at hrun;refine SE (by rw[hv];exact hrun) ⟨Φ,τ,?_,?_,?_⟩
        ·exact Rv.msl hen hfit L M rfl
        ·rw[YD en.base off];exact Y
        ·rw[YD en.base off];exact Z
       ·
        rename_i hfit;have hfit:J<m+n:=by
         rcases U2 J (m+n) with h|h
         ·exact h
         ·exact absurd (YL h) hfit
        obtain⟨B,d,l,j,r⟩:=xb p;clear p;rcases vf (dr B.cs off) (Nat.mul m z) (fun us=>V2 P el z h m n us vs) with ⟨k,hl⟩|⟨q,k⟩
        ·rw[k] at r;rw[V6] at r hl;have hg:=nK r;obtain⟨H,hlim,hmn,hbb⟩:=nU r;refine⟨fun _=>hg,fun Φ τ F w dst ty pos after gd hF hR hFr=>?_⟩
         have hra:=Jb hF a;have hrb:=Jb hF b;rw[ha] at hra;rw[hb] at hrb;obtain⟨ys,hyl,hyr,S⟩:=hsrc Φ τ w _ t' hrb hR htt;obtain⟨R,i,xs,hv,hxl,hxr,hxc⟩:=Il hra hR d l j hl;obtain⟨en,c1',hen,hv',X,L,M,N⟩:=hra.slI
         have:c1'=J:=N
         subst this;have hcc:i=c1':=by rw[hv] at hv';cases hv';rfl
         subst hcc;have hby':=hbb _ _ _ hinf;have hnb:(m+n)*by_≤1000000*65536:=ZH (by omega) hby';rw[←hs] at S;have hrun:=kf (P:=P) (w:=w) (ty:=ty) hu hi' hz (b:=R) (sLen:=m) (sCap:=i) (olds:=xs) (by rw[hxl,hs]) hxc S hfit (by omega) (growslice_fits hfit (by rw[hby];omega));have hge:=grownCap_ge w (m+n) i el;have hgm:=grownCap_le_maxLen w (m+n) i el (by unfold maxLen;omega);obtain⟨_,Φ',τ',k1,D,E⟩:=mU (G:=grownCap w (m+n) i el) (z:=zv) (by_:=by_) r hR (hFr _ (UM _) (by omega)) hxr hyr hxl hyl hzl (by omega) hgm rfl (Wn.drew w _);exact SE (by rw[hv];exact hrun) ⟨Φ',τ',k1,D,E⟩
        ·rw[k] at r;cases r
      |none=>
       obtain⟨B,d,l,j,r⟩:=xb p;clear p;obtain⟨K,k⟩:=recB r;clear r;obtain⟨K,hbt⟩:=Za K;have hbt:=YT hbt;obtain⟨hro,hsc⟩:=Za K;have hro:=nv hro;rcases vf (dr B.cs off) (Nat.mul m z) (fun us=>V2 P el z (putB h id none) m n us vs) with ⟨U,hl⟩|⟨q,U⟩
       ·rw[U] at k;rw[V6] at k hl;have hg:=nK k;obtain⟨H,hlim,hmn,hbb⟩:=nU k;have hlim:h.n<big5:=hlim;have H:h'.n=h.n+1:=H;refine⟨fun hl=>(Grow.put hl d l).trans hg,fun Φ τ F w dst ty pos after gd hF hR hFr=>?_⟩
        have hra:=Jb hF a;have hrb:=Jb hF b;rw[ha] at hra;rw[hb] at hrb;obtain⟨ys,hyl,hyr,S⟩:=hsrc Φ τ w _ t' hrb hR htt;obtain⟨R,i,xs,hv,hxl,hxr,hxc⟩:=Il hra hR d l j hl;obtain⟨en,c1',hen,hv',X,L,M,N⟩:=hra.slI;have hcc:i=c1':=by rw[hv] at hv';cases hv';rfl
        subst hcc;have hf:Φ h.n=none:=hFr _ (UM _) (by omega);rw[←hs] at S;by_cases hfit:m+n≤i
        ·obtain⟨e',C,T,br⟩:=(hR.blk id B d l).row j
         have:=br.ent
         rw[hen] at this;cases this;have hble:=br.le;have hbs:=(br.own_ hro).2;have hmc:(m+n)*z≤i*z:=ZI _ hfit;rw[YE] at hmc;have hl':m*z≤(B.cs.drop off).length:=hl;rw[UG] at hl';have hrun:=xd (P:=P) (w:=w) (ty:=ty) hu hi' (g:=en.g) (o:=en.base+off) (sLen:=m) (sCap:=i) (br.obj0 hro) S (fun u hu=>by
          have:=km hsc hyr;exact WD.1 this u hu) hfit (by rw[hs,hyl];omega)
         rw[hs] at hrun;obtain⟨Φ',τ',k1,D,E⟩:=hR.stay (el:=el) d l br hro hbt hlim hf rfl hl hyr hyl hfit L M;unfold V2 at k;obtain⟨_,_,V⟩:=ko k;clear k;rw[K9] at V;obtain⟨_,e7⟩:=Qi V;clear V;obtain⟨rfl,rfl⟩:=Ju e7;exact SE (by rw[hv'];exact hrun) ⟨Φ',τ',k1,D,E⟩
        ·have hfit:i<m+n:=by omega
         have hby':=hbb _ _ _ hinf;have hnb:(m+n)*by_≤1000000*65536:=ZH (by omega) hby';have hrun:=kf (P:=P) (w:=w) (ty:=ty) hu hi' hz (b:=R) (sLen:=m) (sCap:=i) (olds:=xs) (by rw[hxl,hs]) hxc S hfit (by omega) (growslice_fits hfit (by rw[hby];omega));have hge:=grownCap_ge w (m+n) i el;have hgm:=grownCap_le_maxLen w (m+n) i el (by unfold maxLen;omega);obtain⟨_,Φ',τ',k1,D,E⟩:=mU (G:=grownCap w (m+n) i el) (z:=zv) (by_:=by_) k (hR.kill d) hf hxr hyr hxl hyl hzl (by omega) hgm rfl (Wn.drew w _);exact SE (by rw[hv];exact hrun) ⟨Φ',τ',k1,D,E.kill hR d⟩
       ·rw[U] at k;cases k
     |_=>cases I
   ·cases e
 ·cases e
end
section
variable {P:Program} {f:Fr} {v:AV} {h h':Hp} {Φ:Phi} {τ:Tau} {w w':World}
theorem tW(a b:Array UInt8):((⟨a⟩:ByteArray)==⟨b⟩)=(a==b):=rfl
theorem KC{t:TypeId}{x y:AV}{X Y:Value}{b:Bool}{D:TypeDesc}(hk:Kr P t x=true)(e:eqT P 4 t x y=some b)(hx:Rv Φ x X)(hy:Rv Φ y Y)(hD:P.underlying t=some D):
  Instr.sameNow D X Y=some b∧(b=true→X=Y):=by
 have e:eqT1 P (eqT P 3) t x y=some b:=e;unfold Kr at hk;rw[hD] at hk;unfold eqT1 at e;rw[hD] at e;cases D with
 |int k=>
  cases x with
  |i kk n=>
   cases y with
   |i k' m=>
    simp only at e;obtain⟨he,a⟩:=Xy e;clear e
    have:=Y2 he;subst this
    rw[vy] at a;have e:=a;clear a;rw[hx.iI,hy.iI];refine⟨?_,fun hb=>?_⟩
    ·simp only[Instr.sameNow,if_true];rw[←e]
     congr 1
    ·rw[hb] at e;rw[of_decide_eq_true e]
   |_=>cases e
  |_=>cases hk
 |string=>
  cases x with
  |s l=>
   cases y with
   |s m=>
    simp only at e;rw[zf] at e;simp only[Jak] at e;obtain⟨d,hx⟩:=hx.sI;obtain⟨g,hy⟩:=hy.sI;rw[hx,hy];refine⟨?_,fun hb=>?_⟩
    ·unfold str;simp only[Instr.sameNow];rw[←e]
     congr 1
     rw[VL,tW];constructor
     ·intro hq;have hq:=congrArg Array.toList (beq_iff_eq.1 hq);simp only at hq;exact decide_eq_true (nM d g hq)
     ·intro hq;rw[of_decide_eq_true hq];simp
    ·rw[hb] at e;rw[of_decide_eq_true e]
   |_=>cases e
  |_=>cases hk
 |bool=>
  cases x with
  |b p=>
   cases y with
   |b q=>
    simp only at e;simp only[Jak] at e;rw[hx.bI,hy.bI];refine⟨?_,fun hb=>?_⟩
    ·rw[←e];rfl
    ·rw[hb] at e;rw[beq_iff_eq.1 e]
   |_=>cases e
  |_=>cases hk
 |_=>cases x<;>cases hk
theorem iS{t:TypeId}{x:AV}{X:Value}{em:Bool}(hk:Kr P t x=true)(hx:Rv Φ x X)(d:Nat):(Instr.checkKey em (d+1) t X).run P w= .ok () w:=by
 unfold Kr at hk;split at hk
 ·rename_i hu;rw[hx.iI];simp[Instr.checkKey,run_underlying hu]
 ·rename_i hu;rw[hx.sI.2];simp[str,Instr.checkKey,run_underlying hu]
 ·rename_i hu;rw[hx.bI];simp[Instr.checkKey,run_underlying hu]
 ·cases hk
theorem rk{xs:List AV}{f:Field}{fs:List Field}(h:td P xs (f::fs)=true):∃a,zy P f.type xs f.offset=some a∧Kr P f.type a=true∧td P xs fs=true:=by
 have h:(Option.rec false (fun a=>Bool.rec false (td P xs fs) (Kr P f.type a)) (zy P f.type xs f.offset):Bool)=true:=h;cases hp:zy P f.type xs f.offset with
 |none=>rw[hp] at h;cases h
 |some a=>
  rw[hp] at h;simp only at h;cases hk:Kr P f.type a with
  |false=>rw[hk] at h;cases h
  |true=>rw[hk] at h;exact⟨a,rfl,hk,h⟩
theorem xC{α:Type}{b:α→Unit→Sem (ForInStep Unit)}:∀(l:List α),(∀f∈l,(b f ()).run P w= .ok (.yield ()) w)→(forIn l () b).run P w= .ok () w:=by
 intro l
 induction l with
 |nil=>intro _;simp
 |cons f l ih=>
  intro h;rw[List.forIn_cons];simp only[Sem.run_bind,h f (by simp),Result.andThen];exact ih fun g hg=>h g (by simp[hg])
theorem uN{xs:List AV}:∀ {fs:List Field},td P xs fs=true→∀f∈fs,∃a,zy P f.type xs f.offset=some a∧Kr P f.type a=true:=by
 intro fs
 induction fs with
 |nil=>intro _ f hf;cases hf
 |cons g fs ih=>
  intro h f hf;obtain⟨a,b,d,e⟩:=rk h;rcases XF.1 hf with rfl|hf
  ·exact⟨a,b,d⟩
  ·exact ih e f hf
theorem Xn{t:TypeId}{x:AV}{X:Value}{em:Bool}(hk:xu P t x=true)(hx:Rv Φ x X):(Instr.checkKey em 10000 t X).run P w= .ok () w:=by
 suffices H:∀d:Nat,(Instr.checkKey em (d+1+1) t X).run P w= .ok () w from H 9998
 intro d;unfold xu at hk;split at hk
 ·rename_i fs xs hu;obtain⟨Xs,rfl,hX⟩:=hx.agI;have b:∀(f:TypeId) (a:AV) (A:Value),Kr P f a=true→Rv Φ a A→(Instr.checkKey em (d+1) f A).run P w= .ok () w:=fun f a A g i=>iS g i d;generalize d+1=e at b ⊢;simp only[Instr.checkKey,Sem.run_bind,run_underlying hu,Result.andThen];rw[←Array.forIn_toList,xC fs.toList]
  ·rfl
  ·intro f hf;obtain⟨a,g,i⟩:=uN hk f hf;obtain⟨A,hA,hr⟩:=kb (P:=P) (w:=w) g hX;have hc:=b f.type a A i hr;by_cases hn:f.name= "_"
   ·simp[hn]
   ·simp[hn,hA,hc]
 ·rename_i k n hu;rw[hx.iI];simp[Instr.checkKey,run_underlying hu]
 ·rename_i l hu;rw[hx.sI.2];simp[str,Instr.checkKey,run_underlying hu]
 ·rename_i c hu;rw[hx.bI];simp[Instr.checkKey,run_underlying hu]
 ·cases hk
theorem EsR.len:∀ {l:List En} {ms:List MapEntry},EsR Φ l ms→ms.length=l.length:=by
 intro l
 induction l with
 |nil=>intro ms h;have h:ms=[]:=h;subst h;rfl
 |cons a l ih=>rintro ms ⟨m,r,rfl,d,b⟩;simp[ih b]
theorem EsR.app:∀ {l:List En} {ms:List MapEntry} {e:En} {m:MapEntry},EsR Φ l ms→EnR Φ e m→EsR Φ (l++[e]) (ms++[m]):=by
 intro l
 induction l with
 |nil=>intro ms e m h hm;have h:ms=[]:=h;subst h;exact⟨m,[],rfl,hm,rfl⟩
 |cons a l ih=>rintro ms e m ⟨m',r,rfl,b,d⟩ hm;exact⟨m',r++[m],rfl,b,ih d hm⟩
theorem Ea{t:TypeId}{x:AV}{X:Value}(hx:Rv Φ x X):∀(es:List En) (ms:List MapEntry) (i:Nat) (r:Option (Nat×En)),EsR Φ es ms→va P t x es i=some r→
  match r with
  |none=>(Instr.findAsking t X ms i).run P w= .ok none w
  |some q=>∃m,i≤q.1∧es[q.1-i]? =some q.2∧ms[q.1-i]? =some m∧EnR Φ q.2 m∧eqT P 4 t x q.2.k=some true∧(Instr.findAsking t X ms i).run P w= .ok (some (q.1,m.val)) w:=by
 intro es
 induction es with
 |nil=>
  intro ms i r h e;have h:ms=[]:=h;subst h;have e:some none=some r:=e;cases e;simp[Instr.findAsking]
 |cons a es ih=>
  rintro ms i r ⟨m,rest,rfl,d,j⟩ e;have e:(match eqT P 4 t x a.k with|none=>none|some b=>(Bool.rec (va P t x es (Nat.succ i)) (some (some (i,a))) b:Option (Option (Nat×En))))=some r:=e;cases hb:eqT P 4 t x a.k with
  |none=>rw[hb] at e;cases e
  |some b=>
   rw[hb] at e;have k1:(Op.equal t X m.key).run P w= .ok b w:=by rw[eqIn];exact H1 4 t x a.k X m.key b 10000 (by omega) hb hx d.1
   cases b with
   |true=>
    cases e;refine⟨m,UM _,by simp,by simp,d,hb,?_⟩;simp[Instr.findAsking,k1]
   |false=>
    have e:va P t x es (i+1)=some r:=e
    have:=ih rest (i+1) r j e
    cases r with
    |none=>simp only at this ⊢;simp[Instr.findAsking,k1,this]
    |some q=>
     simp only at this ⊢;obtain⟨m',u,l,n,o,p,s⟩:=this;have g:q.1-i=(q.1-(i+1))+1:=by omega
     refine⟨m',by omega,by rw[g];simpa using l,by rw[g];simpa using n,o,p,?_⟩;simp[Instr.findAsking,k1,s]
theorem G4{t:TypeId}{x:AV}{X:Value}{D:TypeDesc}(hk:Kr P t x=true)(hx:Rv Φ x X)(hD:P.underlying t=some D):∀(es:List En) (ms:List MapEntry) (i:Nat) (r:Option (Nat×En)),EsR Φ es ms→va P t x es i=some r→
  match r with
  |none=>Instr.findNow D X ms i=some none
  |some q=>∃m,i≤q.1∧ms[q.1-i]? =some m∧Instr.findNow D X ms i=some (some (q.1,m.val)):=by
 intro es
 induction es with
 |nil=>
  intro ms i r h e;have h:ms=[]:=h;subst h;have e:some none=some r:=e;cases e
  rfl
 |cons a es ih=>
  rintro ms i r ⟨m,rest,rfl,d,g⟩ e;have e:(match eqT P 4 t x a.k with|none=>none|some b=>(Bool.rec (va P t x es (Nat.succ i)) (some (some (i,a))) b:Option (Option (Nat×En))))=some r:=e;cases hb:eqT P 4 t x a.k with
  |none=>rw[hb] at e;cases e
  |some b=>
   rw[hb] at e;obtain⟨k1,o⟩:=KC hk hb hx d.1 hD;cases b with
   |true=>
    cases e;refine⟨m,UM _,by simp,?_⟩;simp[Instr.findNow,k1]
   |false=>
    have e:va P t x es (i+1)=some r:=e
    have:=ih rest (i+1) r g e
    cases r with
    |none=>simp only at this ⊢;simp[Instr.findNow,k1,this]
    |some q=>
     simp only at this ⊢;obtain⟨m',p,j,l⟩:=this;have n:q.1-i=(q.1-(i+1))+1:=by omega
     refine⟨m',by omega,by rw[n];simpa using j,?_⟩;simp[Instr.findNow,k1,l]
theorem vB{t:TypeId}{x:AV}(hk:xu P t x=true):∃D,P.underlying t=some D∧((∃fs,D= .struct fs)∨Kr P t x=true):=by
 unfold xu at hk;split at hk
 ·rename_i h;exact⟨_,h,.inl ⟨_,rfl⟩⟩
 ·rename_i h;exact⟨_,h,.inr (by unfold Kr;rw[h])⟩
 ·rename_i h;exact⟨_,h,.inr (by unfold Kr;rw[h])⟩
 ·rename_i h;exact⟨_,h,.inr (by unfold Kr;rw[h])⟩
 ·cases hk
theorem jK{t:TypeId}{x:AV}{X:Value}(hk:xu P t x=true)(hx:Rv Φ x X){es:List En}{ms:List MapEntry}{r:Option (Nat×En)}(hE:EsR Φ es ms)(e:va P t x es 0=some r):
  match r with
  |none=>(Instr.findKey t X ms).run P w= .ok none w
  |some q=>∃m,ms[q.1]? =some m∧EnR Φ q.2 m∧eqT P 4 t x q.2.k=some true∧(Instr.findKey t X ms).run P w= .ok (some (q.1,m.val)) w:=by
 have hA:=Ea (P:=P) (w:=w) hx es ms 0 r hE e;obtain⟨D,hD,hs|i⟩:=vB hk
 ·obtain⟨fs,rfl⟩:=hs;have hN:Instr.findNow (.struct fs) X ms 0=match ms with|[]=>some none|_::_=>none:=by
   cases ms with
   |nil=>rfl
   |cons m ms=>simp[Instr.findNow,Instr.sameNow]
  cases r with
  |none=>
   simp only at hA ⊢;cases ms with
   |nil=>simp[Instr.findKey,run_underlying hD,hN]
   |cons m ms=>simp[Instr.findKey,run_underlying hD,hN,hA]
  |some q=>
   simp only at hA ⊢;obtain⟨m,_,_,a,b,d,j⟩:=hA;rw[Nat.sub_zero] at a;refine⟨m,a,b,d,?_⟩;cases ms with
   |nil=>simp at a
   |cons m ms=>simp[Instr.findKey,run_underlying hD,hN,j]
 ·have hB:=G4 i hx hD es ms 0 r hE e;cases r with
  |none=>simp only at hB ⊢;simp[Instr.findKey,run_underlying hD,hB]
  |some q=>
   simp only at hA hB ⊢;obtain⟨m,_,_,a,b,d,_⟩:=hA;obtain⟨m',_,g,l⟩:=hB;rw[a] at g;cases g;rw[Nat.sub_zero] at a;exact⟨m,a,b,d,by simp[Instr.findKey,run_underlying hD,l]⟩
theorem OR.map{id:Nat}{b:Blk}{es:List En}{c:Nat}(r:Kf Φ τ w id b)(hb:b.ob= .map es c):∃e E,OR Φ τ w b e id (.map E.toArray c)∧EsR Φ es E:=by
 obtain⟨e,O,h⟩:=r.obj (by rw[hb];rfl)
 have:=h.ob
 rw[hb] at this;obtain⟨E,rfl,hE⟩:=this;exact⟨e,E,h,hE⟩
theorem xB{t:TypeId}{z:AV}(hz:zvOf P t=some z):∃Z,(zeroValue t).run P w= .ok Z w∧Rv Φ z Z:=KJ hz
theorem p4{t:TypeId}{x i:Operand}{ok:Bool}(e:X3 P t x i ok f h= .ok v h'):h'=h∧Rd P (.lookup t x i ok) f v h:=by
 unfold X3 at e;split at e
 ·cases e
 ·rename_i p hp;have hu:=qz hp;have core:∀(es:List En),((Bool.rec (.no 153) (match va P p.1 (opd f i) es 0 with
   |none=> .no 154
   |some none=>(match zvOf P p.2 with
    |none=> .no 154
    |some z=> .ok (Bool.rec z (.tp [z,.b false]) ok) h)
   |some (some q)=> .ok (Bool.rec q.2.v (.tp [q.2.v,.b true]) ok) h) (xu P p.1 (opd f i)):Res)= .ok v h')→h'=h∧
    ∀(Φ:Phi) (F:Wf.Fr) (w:World) (ms:List MapEntry),FR Φ f F→EsR Φ es ms→(Instr.checkKey ms.toArray.isEmpty 10000 p.1 (fe F i)).run P w= .ok () w∧
     ((∃j V,(Instr.findKey p.1 (fe F i) ms).run P w= .ok (some (j,V)) w∧Rv Φ v (if ok then .tuple #[V,.bool true] else V))∨
      ((Instr.findKey p.1 (fe F i) ms).run P w= .ok none w∧∃Z,(zeroValue p.2).run P w= .ok Z w∧Rv Φ v (if ok then .tuple #[Z,.bool false] else Z))):=by
   intro es e;obtain⟨hk,e⟩:=recB e;split at e
   ·cases e
   ·rename_i hf;split at e
    ·cases e
    ·rename_i z hz;obtain⟨rfl,rfl⟩:=Ju e;refine⟨rfl,fun Φ F w ms hF hE=>?_⟩
     have hr:=Jb hF i;have hfk:=jK (P:=P) (w:=w) hk hr hE hf;obtain⟨Z,hZ,hZr⟩:=xB (P:=P) (w:=w) (Φ:=Φ) hz;refine⟨Xn hk hr,.inr ⟨hfk,Z,hZ,?_⟩⟩;cases ok with
     |false=>exact hZr
     |true=>simp only[Rv,if_true];exact⟨[Z,.bool false],rfl,by simp only[RvL];exact⟨_,_,rfl,hZr,_,_,rfl,Rv.mb,rfl⟩⟩
   ·rename_i q hf;obtain⟨rfl,rfl⟩:=Ju e;refine⟨rfl,fun Φ F w ms hF hE=>?_⟩
    have hr:=Jb hF i;obtain⟨m,n,l,o,hfk⟩:=jK (P:=P) (w:=w) hk hr hE hf;refine⟨Xn hk hr,.inl ⟨_,m.val,hfk,?_⟩⟩;cases ok with
    |false=>exact l.2.1
    |true=>simp only[Rv,if_true];exact⟨[m.val,.bool true],rfl,by simp only[RvL];exact⟨_,_,rfl,l.2.1,_,_,rfl,Rv.mb,rfl⟩⟩
  unfold mapK at e;split at e
  ·rename_i hx;obtain⟨rfl,hs⟩:=core [] e;refine⟨rfl,fun Φ τ F w dst ty pos after gd hF hR=>?_⟩
   obtain⟨hck,hh⟩:=hs Φ F w [] hF rfl;have hck:(Instr.checkKey (#[]:Array MapEntry).isEmpty 10000 p.1 (fe F i)).run P w= .ok () w:=hck;have hr:=Jb hF x;rw[hx] at hr;have hv:fe F x= .map none:=by simpa only[Rv] using hr
   rcases hh with ⟨j,V,a,d⟩|⟨a,Z,d,k⟩
   ·refine R7 (v:=if ok then .tuple #[V,.bool true] else V) (w':=w) ?_ ⟨rfl,d⟩;simp only[execOp,Instr.lookup,Sem.run_bind,run_underlying hu,Result.andThen,hv,Sem.run_pure,hck,a]
   ·refine R7 (v:=if ok then .tuple #[Z,.bool false] else Z) (w':=w) ?_ ⟨rfl,k⟩;simp only[execOp,Instr.lookup,Sem.run_bind,run_underlying hu,Result.andThen,hv,Sem.run_pure,hck,a,d]
  ·rename_i id hx;obtain⟨b,es,c,hid,hb,hob,e⟩:=lj e;obtain⟨rfl,hs⟩:=core es e;refine⟨rfl,fun Φ τ F w dst ty pos after gd hF hR=>?_⟩
   obtain⟨en,E,hO,hE⟩:=OR.map (hR.blk id b hid hb) hob;obtain⟨hck,hh⟩:=hs Φ F w E hF hE;have hr:=Jb hF x;rw[hx] at hr;obtain⟨en',hen,hv⟩:=hr.mpI
   have:=hO.ent
   rw[hen] at this;cases this;have hg:=hO.obj;have hgo:(getObj en.g).run P w= .ok (.map E.toArray c) w:=by simp[getObj,Sem.run,hg]
   rcases hh with ⟨j,V,a,d⟩|⟨a,Z,d,k⟩
   ·refine R7 (v:=if ok then .tuple #[V,.bool true] else V) (w':=w) ?_ ⟨rfl,d⟩;simp only[execOp,Instr.lookup,Sem.run_bind,run_underlying hu,Result.andThen,hv,hgo,Sem.run_pure,hck,a]
   ·refine R7 (v:=if ok then .tuple #[Z,.bool false] else Z) (w':=w) ?_ ⟨rfl,k⟩;simp only[execOp,Instr.lookup,Sem.run_bind,run_underlying hu,Result.andThen,hv,hgo,Sem.run_pure,hck,a,d]
  ·cases e
theorem yF{t:TypeId}{ts:Array TypeId}{args:Array Operand}(hm:mE P t=true)(hts:ts= #[t])(e:oE (opds f args.toList) h= .ok v h'):h'=h∧Rd P (.call {callee:= .builtin .len,args:=args,argTypes:=ts}) f v h:=by
 subst hts;obtain⟨ka,el,hu⟩:=jI hm;unfold oE at e;have one:∀ {l:List Operand} {a:AV},opds f l=[a]→∃x,l=[x]∧opd f x=a:=by
  intro l a hl;cases l with
  |nil=>cases hl
  |cons x l=>
   have hl:opd f x::opds f l=[a]:=hl;cases l with
   |nil=>simp only[List.cons.injEq] at hl;exact⟨x,rfl,hl.1⟩
   |cons y l=>have hl:opd f x::opd f y::opds f l=[a]:=hl;simp at hl
 split at e
 ·rename_i hx;obtain⟨x,hal,d⟩:=one hx;clear hx;have hargs:args= #[x]:=by apply VC;rw[hal]
  subst hargs;obtain⟨rfl,rfl⟩:=Ju e;refine⟨rfl,fun Φ τ F w dst ty pos after gd hF hR=>?_⟩
  have hr:=Jb hF x;rw[d] at hr;have hv:fe F x= .map none:=by simpa only[Rv] using hr
  refine R7 (v:= .int .i64 0) (w':=w) ?_ ⟨rfl,Rv.mi⟩;simp[execOp,resolve,invoke,builtin,Builtin.len_,run_underlying hu,hv,goInt]
 ·rename_i id hx;obtain⟨x,hal,d⟩:=one hx;clear hx;have hargs:args= #[x]:=by apply VC;rw[hal]
  subst hargs;obtain⟨b,es,c,hid,hb,hob,e⟩:=lj e;rw[Yx,Y4] at e;obtain⟨rfl,rfl⟩:=Ju e;refine⟨rfl,fun Φ τ F w dst ty pos after gd hF hR=>?_⟩
  have hr:=Jb hF x;rw[d] at hr;obtain⟨en,E,hO,hE⟩:=OR.map (hR.blk id b hid hb) hob;obtain⟨en',hen,hv⟩:=hr.mpI
  have:=hO.ent
  rw[hen] at this;cases this;have hg:=hO.obj;have hgo:(getObj en.g).run P w= .ok (.map E.toArray c) w:=by simp[getObj,Sem.run,hg]
  refine R7 (v:= .int .i64 (Int.ofNat es.length)) (w':=w) ?_ ⟨rfl,Rv.mi⟩;simp[execOp,resolve,invoke,builtin,Builtin.len_,run_underlying hu,hv,hgo,goInt,hE.len]
 ·cases e
end
section
variable {P:Program} {f:Fr} {v:AV} {h h':Hp} {Φ:Phi} {τ:Tau} {w w':World}
def Xl(w:World)(g:Nat)(O:Obj):World:={w with heap:=w.heap.setIfInBounds g O}
theorem Xa{g:Nat}{O O':Obj}(h:w.heap[g]? =some O')(hn:∀c t f,O'≠ .cells c t f:=by intro _ _ _ h;cases h):(setObj g O).run P w= .ok () (Xl w g O):=by
 cases O' with
 |cells c t f=>exact absurd rfl (hn c t f)
 |_=>simp[setObj,Sem.run,h,Xl]
theorem n0{g:Nat}{O:Obj}(h:g<w.heap.size):(Xl w g O).heap[g]? =some O:=by simp[Xl,h]
theorem Kh{g k:Nat}{O:Obj}(h:k≠g):(Xl w g O).heap[k]? =w.heap[k]? :=by
 simp only[Xl,UR];rw[if_neg (fun e=>h e.symm)]
theorem Xz{g:Nat}{O:Obj}:(Xl w g O).heap.size=w.heap.size:=by simp[Xl]
theorem Rel.ob{id:Nat}{b b':Blk}{en:Ent}{O O':Obj}(r:Rel Φ τ h w)(hid:id<h.n)(hb:get5 id h.t=some b)(br:OR Φ τ w b en id O)(hro:b'.ro=false)(hO:ObR Φ b'.ob O'):
  Rel Φ τ (putB h id (some b')) (Xl w en.g O')∧Tw Φ τ h w Φ τ h.n (Xl w en.g O'):=
 r.turn (en:=en) hid hb br.lab rfl rfl rfl Xz (fun g hg=>Kh hg) (.inr (.inl ⟨en,O',br.ent,br.lab,hro,br.base,n0 br.lt,hO⟩))
theorem Ay{α:Type}(l:List α)(x:α)(k:List α→Res):Mz l x k=k (l++[x]):=K9 l [x] k
theorem Ig{x:AV}:∀(es:List En) (i:Nat) (k:List En→Res),setE es i x k= .ok v h'→∃es',k es'= .ok v h'∧
  ∀(Φ:Phi) (E:List MapEntry) (X V:Value),EsR Φ es E→(∀m,E[i]? =some m→m.key=X)→Rv Φ x V→EsR Φ es' (E.modify i fun e=>{e with key:=X,val:=V}):=by
 intro es
 induction es with
 |nil=>intro i k e;cases e
 |cons a es ih=>
  intro i k e;cases i with
  |zero=>
   have e:k (⟨a.k,x,a.b⟩::es)= .ok v h':=e;refine⟨_,e,?_⟩;rintro Φ E X V ⟨m,r,rfl,d,g⟩ hX hV;refine⟨{m with key:=X,val:=V},r,by simp,⟨?_,hV,d.2.2⟩,g⟩
   have:=hX m rfl
   subst this;exact d.1
  |succ i=>
   have e:setE es i x (fun t'=>k (a::t'))= .ok v h':=e;obtain⟨es',j,l⟩:=ih i _ e;refine⟨_,j,?_⟩;rintro Φ E X V ⟨m,r,rfl,d,g⟩ hX hV;exact⟨m,_,by simp,d,l Φ r X V g (fun m' hm=>hX m' (by simpa using hm)) hV⟩
theorem r6{t:TypeId}{x:AV}{X:Value}(hk:Kr P t x=true)(hx:Rv Φ x X)(d:Nat):Instr.sameBits d X X=true:=by
 unfold Kr at hk;split at hk
 ·rw[hx.iI];simp[Instr.sameBits]
 ·rw[hx.sI.2];simp[str,Instr.sameBits,tW]
 ·rw[hx.bI];simp[Instr.sameBits]
 ·cases hk
theorem DZ:∀(a b:List AV) (X Y:List Value),vN a b=true→RvL Φ a X→RvL Φ b Y→X=Y∧(X.toArray.toList.zip X.toArray.toList).all (fun(x,y)=>Instr.sameBits 9999 x y)=true:=by
 intro a
 induction a with
 |nil=>
  intro b X Y h hX hY;cases b with
  |nil=>simp only[RvL] at hX hY;subst hX;subst hY;exact⟨rfl,rfl⟩
  |cons y b=>cases h
 |cons x a ih=>
  intro b X Y h hX hY;cases b with
  |nil=>cases h
  |cons y b=>
   have h:(Bool.rec false (vN a b) (E1 x y):Bool)=true:=h;simp only[RvL] at hX hY;obtain⟨u,r,rfl,e,j⟩:=hX;obtain⟨u',r',rfl,g,k⟩:=hY;have key:∀ {c:Bool},(Bool.rec false (vN a b) c:Bool)=true→c=true∧vN a b=true:=by
    intro c hc;cases c
    ·cases hc
    ·exact⟨rfl,hc⟩
   obtain⟨d,l⟩:=key h;obtain⟨m,n⟩:=ih b r r' l j k;subst m;have o:u=u'∧Instr.sameBits 9999 u u=true:=by
    unfold E1 at d;split at d
    ·obtain⟨p,i⟩:=Za d
     have:=Y2 p;subst this
     rw[vy] at i
     have:=of_decide_eq_true i;subst this
     rw[e.iI,g.iI];exact⟨rfl,by simp[Instr.sameBits]⟩
    ·have:=beq_iff_eq.1 d;subst this
     rw[e.bI,g.bI];exact⟨rfl,by simp[Instr.sameBits]⟩
    ·rw[zf] at d
     have:=of_decide_eq_true d;subst this
     rw[e.sI.2,g.sI.2];exact⟨rfl,by simp[str,Instr.sameBits,tW]⟩
    ·cases d
   obtain⟨rfl,s⟩:=o;refine⟨rfl,?_⟩;simp only[List.zip_cons_cons,List.all_cons,s,VQ];exact n
theorem Fu{t:TypeId}{x y:AV}{X Y:Value}(hk:xu P t x=true)(he:eqT P 4 t x y=some true)(hs:MX x y=true)(hx:Rv Φ x X)(hy:Rv Φ y Y):X=Y∧Instr.sameBits 10000 X X=true:=by
 obtain⟨D,hD,hst|a⟩:=vB hk
 ·obtain⟨fs,rfl⟩:=hst;unfold xu at hk;rw[hD] at hk;cases x with
  |ag l=>
   cases y with
   |ag m=>
    obtain⟨Xs,rfl,hX⟩:=hx.agI;obtain⟨Ys,rfl,hY⟩:=hy.agI;obtain⟨b,e⟩:=DZ l m Xs Ys hs hX hY;subst b;refine⟨rfl,?_⟩;show Instr.sameBits (9999+1) (.agg Xs.toArray) (.agg Xs.toArray)=true;have g:∀d:Nat,(Xs.toArray.toList.zip Xs.toArray.toList).all (fun(x,y)=>Instr.sameBits d x y)=true→Instr.sameBits (d+1) (.agg Xs.toArray) (.agg Xs.toArray)=true:=by
     intro d hd;simp only[Instr.sameBits,beq_self_eq_true,VQ];exact hd
    exact g 9999 e
   |_=>cases hs
  |_=>cases hk
 ·have:=(KC a he hx hy hD).2 rfl
  exact⟨this,r6 a hx 10000⟩
theorem jt{t:TypeId}{m k x:Operand}(e:Zl P t m k x f h= .ok v h'):(h.n≤big5→Grow h h')∧v= .u∧
  ∀(Φ:Phi) (τ:Tau) (F:Wf.Fr) (w:World),FR Φ f F→Rel Φ τ h w→∃w',(Instr.mapUpdate t (fe F m) (fe F k) (fe F x)).run P w= .ok () w'∧Rel Φ τ h' w'∧Tw Φ τ h w Φ τ h'.n w':=by
 unfold Zl at e;split at e
 ·cases e
 ·rename_i p hp;have hu:=qz hp;split at e
  ·rename_i id hm;obtain⟨b,es,c,hid,hb,hob,e⟩:=lj e;obtain⟨hk,e⟩:=recB e;split at e
   ·cases e
   ·rename_i hf;rw[Ay,Yx] at e;obtain⟨rfl,rfl⟩:=Ju e;refine⟨fun hl=>Grow.put hl hid hb,rfl,fun Φ τ F w hF hR=>?_⟩
    have hr:=Jb hF m;rw[hm] at hr;obtain⟨en',hen,hv⟩:=hr.mpI;obtain⟨en,E,hO,hE⟩:=OR.map (hR.blk id b hid hb) hob
    have:=hO.ent
    rw[hen] at this;cases this;have hrk:=Jb hF k;have hrx:=Jb hF x;have hfk:=jK (P:=P) (w:=w) hk hrk hE hf;have hgo:(getObj en'.g).run P w= .ok (.map E.toArray c) w:=by simp[getObj,Sem.run,hO.obj]
    have hck:=Xn (P:=P) (w:=w) (em:=false) hk hrk;obtain⟨d,i⟩:=hR.ob (b':=⟨0,true,false,[],.map (es++[⟨opd f k,opd f x,c⟩]) (c+1)⟩) (O':= .map (E.toArray.push {key:=fe F k,val:=fe F x,born:=c}) (c+1)) hid hb hO rfl
     ⟨E++[{key:=fe F k,val:=fe F x,born:=c}],by simp,hE.app ⟨hrk,hrx,rfl⟩⟩
    refine⟨_,?_,d,i⟩;rw[hv];have hst:=Xa (P:=P) (O:= .map (E.toArray.push {key:=fe F k,val:=fe F x,born:=c}) (c+1)) hO.obj;simp only[Instr.mapUpdate,Sem.run_bind,run_underlying hu,Result.andThen,hgo,hck,hfk,hst]
   ·rename_i q hf;obtain⟨hsk,e⟩:=recB e;obtain⟨es',e,hes⟩:=Ig es q.1 _ e;obtain⟨rfl,rfl⟩:=Ju e;refine⟨fun hl=>Grow.put hl hid hb,rfl,fun Φ τ F w hF hR=>?_⟩
    have hr:=Jb hF m;rw[hm] at hr;obtain⟨en',hen,hv⟩:=hr.mpI;obtain⟨en,E,hO,hE⟩:=OR.map (hR.blk id b hid hb) hob
    have:=hO.ent
    rw[hen] at this;cases this;have hrk:=Jb hF k;have hrx:=Jb hF x;obtain⟨me,l,o,a,hfk⟩:=jK (P:=P) (w:=w) hk hrk hE hf;obtain⟨a,hsb⟩:=Fu hk a hsk hrk o.1;have hgo:(getObj en'.g).run P w= .ok (.map E.toArray c) w:=by simp[getObj,Sem.run,hO.obj]
    have hck:=Xn (P:=P) (w:=w) (em:=false) hk hrk;have j:((E.toArray[q.1]?).map (·.key)).getD (fe F k)=fe F k:=by simp[l,a]
    have hks:(Instr.keyThatStays (fe F k) (fe F k)).run P w= .ok (fe F k) w:=by simp[Instr.keyThatStays,hsb]
    obtain⟨d,i⟩:=hR.ob (b':=⟨0,true,false,[],.map es' c⟩) (O':= .map (E.toArray.modify q.1 fun e=>{e with key:=fe F k,val:=fe F x}) c) hid hb hO rfl
     ⟨E.modify q.1 (fun e=>{e with key:=fe F k,val:=fe F x}),by apply congrArg (Obj.map · c);apply VC;simp,hes Φ E (fe F k) (fe F x) hE (fun m hm=>by rw[l] at hm;cases hm;exact a.symm) hrx⟩
    refine⟨_,?_,d,i⟩;rw[hv];have hst:=Xa (P:=P) (O:= .map (E.toArray.modify q.1 fun e=>{e with key:=fe F k,val:=fe F x}) c) hO.obj;simp only[Instr.mapUpdate,Sem.run_bind,run_underlying hu,Result.andThen,hgo,hck,hfk,j,hks,hst]
  ·cases e
theorem Mv.skip {op:Op} {g:Wf.Fr→Sem Unit} (hop:∀(F:Wf.Fr) (dst:Option Tmp) (ty:TypeId) (pos:String) (after:Array Edge) (gd:Option (Nat×Bool)),execOp (fe F) ⟨dst,op,ty,pos,after,gd⟩=(do g F;pure .skip)) (e:(h.n≤big5→Grow h h')∧v= .u∧
  ∀(Φ:Phi) (τ:Tau) (F:Wf.Fr) (w:World),FR Φ f F→Rel Φ τ h w→∃w',(g F).run P w= .ok () w'∧Rel Φ τ h' w'∧Tw Φ τ h w Φ τ h'.n w'):MvB P op f v h h':=by
 obtain⟨a,rfl,b⟩:=e;refine⟨a,fun Φ τ F w dst ty pos after gd hF hR _=>?_⟩
 obtain⟨w',r,d,i⟩:=b Φ τ F w hF hR;unfold St;rw[hop];simp only[Sem.run_bind,r,Result.andThen,Sem.run_pure];exact⟨Φ,τ,by simp only[Rv],d,i⟩
theorem jR{t:TypeId}{m k x:Operand}(e:Zl P t m k x f h= .ok v h'):MvB P (.mapUpdate t m k x) f v h h':=Mv.skip (fun _ _ _ _ _ _=>rfl) (jt e)
theorem qE{t:TypeId}{m k x:Operand}(e:Zl P t m k x f h= .ok v h'):MvB P (.insert t m k x) f v h h':=Mv.skip (fun _ _ _ _ _ _=>rfl) (jt e)
theorem Mv.val {op:Op} {g:Wf.Fr→Sem Value} (hop:∀(F:Wf.Fr) (dst:Option Tmp) (ty:TypeId) (pos:String) (after:Array Edge) (gd:Option (Nat×Bool)),execOp (fe F) ⟨dst,op,ty,pos,after,gd⟩=(do pure (.value (←g F)))) (e:(h.n≤big5→Grow h h')∧
  ∀(Φ:Phi) (τ:Tau) (F:Wf.Fr) (w:World),FR Φ f F→Rel Φ τ h w→Fre Φ h.n h'.n→∃x w',(g F).run P w= .ok x w'∧∃Φ' τ',Rv Φ' v x∧Rel Φ' τ' h' w'∧Tw Φ τ h w Φ' τ' h'.n w'):MvB P op f v h h':=by
 obtain⟨a,b⟩:=e;refine⟨a,fun Φ τ F w dst ty pos after gd hF hR hFr=>?_⟩
 obtain⟨x,w',r,d⟩:=b Φ τ F w hF hR hFr;unfold St;rw[hop];simp only[Sem.run_bind,r,Result.andThen,Sem.run_pure];exact d
theorem wd{t:TypeId}{x:Operand}(e:V0 P t x f h= .ok v h'):MvB P (.range t x) f v h h':=by
 have key:∀ {o:Ob} {O:Obj},newB h (itB o) (fun id h=> .ok (.p id 0) h)= .ok v h'→(∀(Φ:Phi) (τ:Tau) (F:Wf.Fr) (w:World),FR Φ f F→Rel Φ τ h w→∃O,ObR Φ o O∧(Instr.range t (fe F x)).run P w= .ok (.pointer (some ⟨w.heap.size,0,none⟩)) (w.alloc O))→MvB P (.range t x) f v h h':=by
  intro o _ e hr;obtain⟨hb,e⟩:=Qi e;obtain⟨rfl,rfl⟩:=Ju e;refine Mv.val (g:=fun F=>Instr.range t (fe F x)) (fun _ _ _ _ _ _=>rfl) ⟨fun _=>Grow.new hb,fun Φ τ F w hF hR hFr=>?_⟩
  obtain⟨O,hO,hrun⟩:=hr Φ τ F w hF hR;have hf:=hFr h.n (UM _) (ZE _);obtain⟨τ',a,d⟩:=hR.new (k:=0) hb hf (NB.obj (b:=itB o) (g:=w.heap.size) (k:=0) rfl hO) (Wn.alloc w O);exact⟨_,_,hrun,_,τ',Rv.mp (Kc _ _ _),a,d⟩
 unfold V0 at e;split at e
 ·rename_i l hx;obtain⟨hs,e⟩:=recB e;refine key (O:= .stringIter ⟨(l.map UInt8.ofNat).toArray⟩ 0) e fun Φ τ F w hF hR=>?_
  have hr:=Jb hF x;rw[hx] at hr;obtain⟨hl,hv⟩:=hr.sI;exact⟨_,⟨hl,rfl⟩,by rw[hv];unfold str;simp[Instr.range,run_underlying (V1 hs)]⟩
 ·rename_i hx;obtain⟨hs,e⟩:=recB e;obtain⟨p,hp⟩:=Jag.1 hs;refine key (O:= .mapIter none 0 #[] 0) e fun Φ τ F w hF hR=>?_
  have hr:=Jb hF x;rw[hx] at hr;have hv:fe F x= .map none:=by simpa only[Rv] using hr
  exact⟨_,rfl,by rw[hv];simp[Instr.range,run_underlying (qz hp)]⟩
 ·rename_i m hx;obtain⟨hs,e⟩:=recB e;obtain⟨p,hp⟩:=Jag.1 hs;obtain⟨b,es,c,hid,hb,hob,e⟩:=lj e;refine key (O:= .mapIter none 0 #[] 0) e fun Φ τ F w hF hR=>?_
  have hr:=Jb hF x;rw[hx] at hr;obtain⟨en',hen,hv⟩:=hr.mpI;obtain⟨en,E,hO,hE⟩:=OR.map (hR.blk m b hid hb) hob
  have:=hO.ent
  rw[hen] at this;cases this;have hgo:(getObj en'.g).run P w= .ok (.map E.toArray c) w:=by simp[getObj,Sem.run,hO.obj]
  exact⟨_,⟨en',hen,rfl⟩,by rw[hv];simp[Instr.range,run_underlying (qz hp),hgo]⟩
 ·cases e
theorem tp3{Φ:Phi}{a b c:AV}{x y z:Value}(d:Rv Φ a x)(e:Rv Φ b y)(g:Rv Φ c z):Rv Φ (.tp [a,b,c]) (.tuple #[x,y,z]):=by
 simp only[Rv];exact⟨[x,y,z],rfl,by simp only[RvL];exact⟨_,_,rfl,d,_,_,rfl,e,_,_,rfl,g,rfl⟩⟩
theorem tp1{Φ:Phi}{a:AV}{x:Value}(b:Rv Φ a x):Rv Φ (.tp [a]) (.tuple #[x]):=by
 simp only[Rv];exact⟨[x],rfl,by simp only[RvL];exact⟨_,_,rfl,b,rfl⟩⟩
theorem wy{it:Operand}{st:Bool}(e:kd it st f h= .ok v h'):MvB P (.next it st) f v h h':=by
 unfold kd at e;split at e
 ·rename_i id off hit;obtain⟨hoff,i⟩:=recB e;clear e;have hoff:=YT hoff;subst hoff;obtain⟨b,hid,hb,e⟩:=JS i;clear i;have stay:h'=h→(∀(Φ:Phi) (τ:Tau) (F:Wf.Fr) (w:World) (ty:TypeId),FR Φ f F→Rel Φ τ h w→∃x,(Instr.next (fe F it) st ty).run P w= .ok x w∧Rv Φ v x)→MvB P (.next it st) f v h h':=by
   rintro rfl hs;refine⟨fun _=>Grow.refl _,fun Φ τ F w dst ty pos after gd hF hR _=>?_⟩
   obtain⟨x,r,hv⟩:=hs Φ τ F w ty hF hR;unfold St;have hop:execOp (fe F) ⟨dst,.next it st,ty,pos,after,gd⟩=(do pure (.value (←Instr.next (fe F it) st ty))):=rfl;rw[hop];simp only[Sem.run_bind,r,Result.andThen,Sem.run_pure];exact⟨Φ,τ,hv,hR,Tw.refl _ _ _ _ _⟩
  split at e
  ·rename_i l pos hob;obtain⟨hst,i⟩:=recB e;clear e;subst hst;have e:=i;clear i;have obj:∀ {Φ:Phi} {τ:Tau} {F:Wf.Fr} {w:World},FR Φ f F→Rel Φ τ h w→∃en,Φ id=some en∧fe F it= .pointer (some ⟨en.g,0,none⟩)∧(∀n∈l,n<256)∧OR Φ τ w b en id (.stringIter ⟨(l.map UInt8.ofNat).toArray⟩ pos):=by
    intro Φ τ F w hF hR;have hr:=Jb hF it;rw[hit] at hr;obtain⟨en,hen,hv⟩:=hr.pI;obtain⟨e',O,hO⟩:=(hR.blk id b hid hb).obj (by rw[hob];rfl)
    have:=hO.ent
    rw[hen] at this;cases this;have a:=hO.ob;rw[hob] at a;obtain⟨hl,rfl⟩:=a;rw[hO.base] at hv;exact⟨en,hen,hv,hl,hO⟩
   have hsize:(⟨(l.map UInt8.ofNat).toArray⟩:ByteArray).size=l.length:=by simp[ByteArray.size]
   unfold u6 at e;rw[jy] at e;split at e
   ·rename_i hn;obtain⟨rfl,rfl⟩:=Ju e;refine stay rfl fun Φ τ F w ty hF hR=>?_
    obtain⟨en,hen,hv,hl,hO⟩:=obj hF hR;have hge:=List.getElem?_eq_none_iff.1 hn;refine⟨.tuple #[.bool false],?_,tp1 Rv.mb⟩;rw[hv]
    have:¬pos<l.length:=by omega
    simp[Instr.next,getObj,Sem.run,hO.obj,hsize,this]
   ·rename_i c hc;obtain⟨d,e⟩:=recB e;have d:=Zx d;rw[Yx] at e;obtain⟨rfl,rfl⟩:=Ju e;refine⟨fun hl=>Grow.put hl hid hb,fun Φ τ F w dst ty pos' after gd hF hR _=>?_⟩
    obtain⟨en,hen,hv,hl,hO⟩:=obj hF hR;obtain⟨k,o⟩:=hR.ob (b':=itB (.sit l (pos+1))) (O':= .stringIter ⟨(l.map UInt8.ofNat).toArray⟩ (pos+1)) hid hb hO rfl ⟨hl,rfl⟩;have hlt:=(WY.1 hc).1;have hlt':pos<(⟨(l.map UInt8.ofNat).toArray⟩:ByteArray).size:=by rw[hsize];exact hlt
    have hget:((⟨(l.map UInt8.ofNat).toArray⟩:ByteArray)[pos]'hlt').toNat=c:=by
     have p:(l.map UInt8.ofNat).toArray[pos]? =some (UInt8.ofNat c):=by simp[hc]
     have s:(⟨(l.map UInt8.ofNat).toArray⟩:ByteArray)[pos]'hlt'=UInt8.ofNat c:=(VE.1 p).2;rw[s];exact u8n (by omega)
    have hdec:=decode_ascii ⟨(l.map UInt8.ofNat).toArray⟩ pos hlt' (by rw[hget];exact d);rw[hget] at hdec;have hst:=Xa (P:=P) (O:= .stringIter ⟨(l.map UInt8.ofNat).toArray⟩ (pos+1)) hO.obj;have hgo:(getObj en.g).run P w= .ok (.stringIter ⟨(l.map UInt8.ofNat).toArray⟩ pos) w:=by simp[getObj,Sem.run,hO.obj]
    unfold St;have hop:execOp (fe F) ⟨dst,.next it true,ty,pos',after,gd⟩=(do pure (.value (←Instr.next (fe F it) true ty))):=rfl;have hrun:(Instr.next (fe F it) true ty).run P w= .ok (.tuple #[.bool true,.int .i64 (Int.ofNat pos),.int .i32 (Int.ofNat c)]) (Xl w en.g (.stringIter ⟨(l.map UInt8.ofNat).toArray⟩ (pos+1))):=by
     rw[hv];simp only[Instr.next,Sem.run_bind,hgo,Result.andThen,hlt',if_true,hdec,hst]
     rfl
    rw[hop];simp only[Sem.run_bind,hrun,Result.andThen,Sem.run_pure];exact⟨Φ,τ,tp3 Rv.mb Rv.mi Rv.mi,k,o⟩
  ·rename_i j sn ls hob;rw[Xx] at e;split at e
   ·cases e
   ·rename_i hst;have hst:st=false:=by simpa using hst
    subst hst;obtain⟨rfl,rfl⟩:=Ju e;refine stay rfl fun Φ τ F w ty hF hR=>?_
    have hr:=Jb hF it;rw[hit] at hr;obtain⟨en,hen,hv⟩:=hr.pI;obtain⟨e',O,hO⟩:=(hR.blk id b hid hb).obj (by rw[hob];rfl)
    have:=hO.ent
    rw[hen] at this;cases this;have a:=hO.ob;rw[hob] at a;have a:O= .mapIter none j sn.toArray ls:=a;subst a;rw[hO.base] at hv;refine⟨.tuple #[.bool false],?_,tp1 Rv.mb⟩;rw[hv];simp[Instr.next,getObj,Sem.run,hO.obj]
  ·rename_i m j sn ls hob;rw[Xx] at e;split at e
   ·cases e
   ·rename_i hst;have hst:st=false:=by simpa using hst
    subst hst;unfold um at e;obtain⟨bm,es,c,hidm,hbm,hobm,e⟩:=lj e;split at e
    ·obtain⟨rfl,rfl⟩:=Ju e;refine stay rfl fun Φ τ F w ty hF hR=>?_
     have hr:=Jb hF it;rw[hit] at hr;obtain⟨en,hen,hv⟩:=hr.pI;obtain⟨e',O,hO⟩:=(hR.blk id b hid hb).obj (by rw[hob];rfl)
     have:=hO.ent
     rw[hen] at this;cases this;have a:=hO.ob;rw[hob] at a;obtain⟨em,hem,rfl⟩:=a;obtain⟨em',E,hOm,hE⟩:=OR.map (hR.blk m bm hidm hbm) hobm
     have:=hOm.ent
     rw[hem] at this;cases this;have hE:E=[]:=hE;subst hE;rw[hO.base] at hv;refine⟨.tuple #[.bool false],?_,tp1 Rv.mb⟩;rw[hv];simp[Instr.next,getObj,Sem.run,hO.obj,hOm.obj,choose,Question.forced]
    ·cases e
  ·cases e
 ·cases e
end
section
variable {P:Program} {f:Fr} {v:AV} {h h':Hp} {Φ:Phi} {τ:Tau} {w w':World}
theorem lenA_s{x:AV}{k:Nat→Res}{n:Nat}(e:lenA x k (.no n)= .ok v h'):∃m,k m= .ok v h'∧(∀l,x= .s l→m=l.length)∧∀(Φ:Phi) (y:Value),Rv Φ x y→(∀w,(Builtin.lenOf y).run P w= .ok m w)∧(NY x=true→∃a c,y= .slice a m c):=by
 unfold lenA at e;split at e
 ·refine⟨_,e,(fun l hl=>by cases hl),fun Φ y hr=>?_⟩
  obtain⟨en,c,_,rfl,_⟩:=hr.slI;exact⟨fun w=>rfl,fun _=>⟨_,_,rfl⟩⟩
 ·refine⟨_,e,(fun l hl=>by cases hl),fun Φ y hr=>?_⟩
  simp only[Rv] at hr;subst hr;exact⟨fun w=>rfl,fun _=>⟨_,_,rfl⟩⟩
 ·refine⟨_,e,(fun l hl=>by cases hl),fun Φ y hr=>?_⟩
  simp only[Rv] at hr;obtain⟨a,c,rfl,_⟩:=hr;exact⟨fun w=>rfl,fun _=>⟨_,_,rfl⟩⟩
 ·rename_i l;rw[Yx,Y4] at e;refine⟨_,e,fun l' hl=>by cases hl;rfl,fun Φ y hr=>?_⟩
  obtain⟨_,rfl⟩:=hr.sI;refine⟨fun w=>?_,fun hq=>by cases hq⟩;have hsize:(⟨(l.map UInt8.ofNat).toArray⟩:ByteArray).size=l.length:=by simp[ByteArray.size]
  simp[str,Builtin.lenOf,hsize]
 ·cases e
theorem Np{sz n:Nat}{x:AV}{k:List AV→Res}(hn:∀l,x= .s l→n≤l.length)(e:Dc h sz n x k= .ok v h'):∃vs,k vs= .ok v h'∧
  ∀(Φ:Phi) (τ:Tau) (w:World) (y:Value),Rv Φ x y→Rel Φ τ h w→∃ys,ys.length=n*sz∧RvL Φ vs ys∧(Builtin.firstCells sz n y).run P w= .ok ys.toArray w:=by
 unfold Dc at e;split at e
 ·rename_i id off m z cap;obtain⟨g,d⟩:=recB e;clear e
  have:=YT g
  subst this;obtain⟨b,hid,hb,hrow,e⟩:=xb d;clear d;rcases vf (dr b.cs off) (Nat.mul n z) k with ⟨o,hl⟩|⟨q,o⟩
  ·rw[o,V6] at e;rw[V6] at hl;refine⟨_,e,fun Φ τ w y hr hR=>?_⟩
   obtain⟨en,c,hen,rfl,_⟩:=hr.slI;obtain⟨e',C,T,br⟩:=(hR.blk id b hid hb).row hrow
   have:=br.ent
   rw[hen] at this;cases this;obtain⟨ys,k1,p,r⟩:=br.cells off (n*z) hl;exact⟨ys,k1,p,run_firstCells_some (P:=P) w z n _ m c ys k1 fun j u hj=>by rw[Addr.add_lit];exact r j u hj⟩
  ·rw[o] at e;cases e
 ·rename_i l;obtain⟨g,d⟩:=recB e;clear e
  have:=YT g
  subst this;rw[K9,U8,ly] at d;refine⟨_,d,fun Φ τ w y hr hR=>?_⟩
  obtain⟨hl,rfl⟩:=hr.sI;have hnl:=hn l rfl;refine⟨(l.take n).map fun c=> .int .u8 (Int.ofNat c),by simp;omega,?_,?_⟩
  ·rw[pE];refine RvL.mk (by simp) fun i a u ha hu=>?_
   rw[VA] at ha hu;cases hli:(l.take n)[i]? with
   |none=>rw[hli] at ha;cases ha
   |some c=>rw[hli] at ha hu;cases ha;cases hu;exact Rv.mi
  ·have hcs:((l.take n).map UInt8.ofNat).map (fun b:UInt8=>Value.int .u8 (b.toNat:Int))=(l.take n).map fun c=>Value.int .u8 (Int.ofNat c):=by
    rw[XD];apply XC;intro c hc;simp[ZG (hl c (XP hc))]
   have hex:(⟨(l.map UInt8.ofNat).toArray⟩:ByteArray).extract 0 n=⟨((l.take n).map UInt8.ofNat).toArray⟩:=by
    have:=Q6 (l.map UInt8.ofNat) 0 n
    rw[WN,←List.map_take] at this;exact this
   have hq:(Builtin.firstCells 1 n (str (l.map UInt8.ofNat))).run P w= .ok ((⟨((l.take n).map UInt8.ofNat).toArray⟩:ByteArray).data.map fun b=>Value.int .u8 (b.toNat:Int)) w:=by
    simp only[str,Builtin.firstCells,hex,Sem.run_pure]
   rw[hq]
   congr 1
   apply VC;rw[←hcs];simp
 ·cases e
theorem two_s{ts:List TypeId}{t u:TypeId}{a b:AV}{args:Array Operand}{tys:Array TypeId}(d:tys.toList=[t,u])(e:opds f args.toList=[a,b]):tys= #[t,u]∧∃x y,args= #[x,y]∧opd f x=a∧opd f y=b:=by
 obtain⟨x,y,hl,hx,hy⟩:=two e;exact⟨by apply VC;rw[d],x,y,by apply VC;rw[hl],hx,hy⟩
theorem one_s{a:AV}{args:Array Operand}(b:opds f args.toList=[a]):∃x,args= #[x]∧opd f x=a:=by
 have one:∀ {l:List Operand} {a:AV},opds f l=[a]→∃x,l=[x]∧opd f x=a:=by
  intro l a hl;cases l with
  |nil=>cases hl
  |cons x l=>
   have hl:opd f x::opds f l=[a]:=hl;cases l with
   |nil=>simp only[List.cons.injEq] at hl;exact⟨x,rfl,hl.1⟩
   |cons y l=>have hl:opd f x::opd f y::opds f l=[a]:=hl;simp at hl
 obtain⟨x,hl,hx⟩:=one b;exact⟨x,by apply VC;rw[hl],hx⟩
theorem AE{ts:Array TypeId}{args:Array Operand}(e:ti P ts.toList (opds f args.toList) h= .ok v h'):MvB P (.call {callee:= .builtin .copy,args:=args,argTypes:=ts}) f v h h':=by
 have e:Res.no 999=Res.ok v h':=e;cases e
theorem D9{ts:Array TypeId}{args:Array Operand}(e:EP P ts.toList (opds f args.toList) h= .ok v h'):MvB P (.call {callee:= .builtin .cap,args:=args,argTypes:=ts}) f v h h':=by
 have e:Res.no 999=Res.ok v h':=e;cases e
theorem qG{ts:Array TypeId}{args:Array Operand}(e:jA (opds f args.toList) h= .ok v h'):MvB P (.call {callee:= .builtin .unsafeSliceData,args:=args,argTypes:=ts}) f v h h':=by
 have e:Res.no 999=Res.ok v h':=e;cases e
theorem ri{e:TypeId}(hc:P.cellsOf e=1)(count o n:Nat)(hn:o+n≤count):liesAt P P.depth e count o e n=true:=by
 have hd:P.depth=(2*(P.types.size+Made.depth)+1)+1:=rfl;rw[hd];simp only[liesAt,VP];left;rw[hd];simp[rowAt,hc,hn,sameLayout,Nat.mod_one]
theorem Nk {pt it ty e:TypeId} (hp:P.underlying pt=some (.pointer e)) (hc:P.cellsOf e=1) {g o cells:Nat} {k:IntKind} (hsh:w.shape? g=some (e,cells)) (l:List UInt8) (a:l.length≠0) (hn:o+l.length≤cells) (b:l.length≤1000000)
  (hcell:∀j x,l[j]? =some x→w.cell? ((⟨g,o,none⟩:Addr).add j)=some (.int .u8 x.toNat)):
  (Builtin.unsafeString_ #[pt,it] ty #[.pointer (some ⟨g,o,none⟩),.int k l.length]).run P w= .ok (.string ⟨l.toArray⟩) (w.freeze ⟨g,o,none⟩ l.length):=by
 have hlb:=Lib.run_loadBytes (P:=P) w l ⟨g,o,none⟩ .empty hcell;have hlies:=ri (P:=P) hc (cells/P.cellsOf e) o l.length (by rw[hc];simpa using hn);have h63':¬(9223372036854775807:Int)<(l.length:Int):=by omega
 have hdef:Builtin.unsafeString_ #[pt,it] ty #[.pointer (some ⟨g,o,none⟩),.int k l.length]=
   (do
    let n ←asInt (.int k l.length)
    if n<0 then runtimePanic _
    if n>IntKind.i64.max then unsupported _
    if n=0 then pure (.string .empty)
    else if ←variablesAt ⟨g,o,none⟩ (←elemOf pt) n.toNat then do
     let s ←loadBytes ⟨g,o,none⟩ .empty n.toNat
     freeze ⟨g,o,none⟩ n.toNat
     pure (.string s)
    else unsupported _):=rfl
 rw[hdef];have hmax:IntKind.i64.max=9223372036854775807:=rfl;have hneg:¬(l.length:Int)<0:=by omega
 simp[asInt,asIntOf,hmax,h63',hneg,a,variablesAt,hsh,elemOf,run_underlying hp,hlies,hlb]
theorem KN{pt it ty:TypeId}{k:IntKind}(p:Option Addr):(Builtin.unsafeString_ #[pt,it] ty #[.pointer p,.int k 0]).run P w= .ok (.string .empty) w:=by
 have hmax:IntKind.i64.max=9223372036854775807:=rfl;cases p with
 |none=>
  have hdef:Builtin.unsafeString_ #[pt,it] ty #[.pointer none,.int k 0]=
    (do
     let n ←asInt (.int k 0)
     if n<0 then runtimePanic _
     if n>IntKind.i64.max then unsupported _
     if n=0 then pure (.string .empty)
     else runtimePanic _):=rfl
  rw[hdef];simp[asInt,asIntOf,hmax]
 |some a=>
  have hdef:Builtin.unsafeString_ #[pt,it] ty #[.pointer (some a),.int k 0]=
    (do
     let n ←asInt (.int k 0)
     if n<0 then runtimePanic _
     if n>IntKind.i64.max then unsupported _
     if n=0 then pure (.string .empty)
     else if ←variablesAt a (←elemOf pt) n.toNat then do
      let s ←loadBytes a .empty n.toNat
      freeze a n.toNat
      pure (.string s)
     else unsupported _):=rfl
  rw[hdef];simp[asInt,asIntOf,hmax]
theorem Rel.lose {id:Nat} {b:Blk} {en:Ent} (r:Rel Φ τ h w) (hid:id<h.n) (hb:get5 id h.t=some b) (hlab:τ en.g= .own id) (hos:w'.os=w.os) (htp:w'.tape=w.tape) (hou:w'.output=w.output)
  (hsz:w'.heap.size=w.heap.size) (hoth:∀g,g≠en.g→w'.heap[g]? =w.heap[g]?):Rel Φ τ (putB h id none) w'∧Tw Φ τ h w Φ τ h.n w':=by
 refine⟨⟨r.lim,?_,fun i hi j=>ia r hid hi j⟩,⟨hos,htp,hou,by rw[hsz];exact UM _,Sub.refl _,fun _ _=>rfl,?_⟩⟩
 ·intro i b' hi hb';have hi:i<h.n:=hi;rw[j8 r hid hi] at hb';split at hb'
  ·cases hb'
  ·rename_i hne;obtain⟨d,_,_,a,k⟩:=(r.blk i b' hi hb').at_;have hg:d.g≠en.g:=by
    intro hg;rw[hg,hlab] at a;split at a
    ·cases a
    ·cases a;exact hne rfl
   exact k (Sub.refl _) (hoth _ hg) rfl
 ·intro g hg hk;refine⟨hoth g ?_,rfl⟩;intro e;subst e
  have:=(hk id hlab).1 hid
  rw[hb] at this;cases this
theorem Nm(w:World)(g o n:Nat):(w.freeze ⟨g,o,none⟩ n).os=w.os∧(w.freeze ⟨g,o,none⟩ n).tape=w.tape∧(w.freeze ⟨g,o,none⟩ n).output=w.output∧(w.freeze ⟨g,o,none⟩ n).heap.size=w.heap.size∧∀k,k≠g→(w.freeze ⟨g,o,none⟩ n).heap[k]? =w.heap[k]? :=by
 unfold World.freeze;split
 ·exact⟨rfl,rfl,rfl,rfl,fun _ _=>rfl⟩
 ·refine⟨rfl,rfl,rfl,by simp,fun k hk=>?_⟩
  simp only[Array.getElem?_modify];rw[if_neg (fun e=>hk e.symm)]
theorem BZ{ts:Array TypeId}{args:Array Operand}(e:vV P ts.toList (opds f args.toList) h= .ok v h'):MvB P (.call {callee:= .builtin .unsafeString,args:=args,argTypes:=ts}) f v h h':=by
 have e:Res.no 999=Res.ok v h':=e;cases e
def ExK(P:Program)(k m:Nat):Prop:=∃fn e,P.funcs[k]? =some fn∧(fn.name == "runtime.NumGoroutine")=false∧fn.body.isNone=true∧Extern.findNext fn=none∧Extern.find fn=some e∧
 ((m=1∧e=Extern.AbiNoEscape.same)∨(m=2∧e=Extern.BytealgMakeNoZero.makeNoZero fn.params fn.resultTypes∧∃t,fn.resultTypes= #[t]))
theorem Gr{k m:Nat}{l:List AV}(hx:ExK P k m)(e:i9 P k m l h= .ok v h'):(h.n≤big5→Grow h h')∧
  ∀(Φ:Phi) (τ:Tau) (w:World) (vs:List Value),Rel Φ τ h w→Fre Φ h.n h'.n→RvL Φ l vs→∃x w',(callFunc k vs.toArray).run P w= .ok (.value x) w'∧∃Φ' τ',Rv Φ' v x∧Rel Φ' τ' h' w'∧Tw Φ τ h w Φ' τ' h'.n w':=by
 obtain⟨fn,en,o,s,y,A,B,d⟩:=hx;unfold i9 at e;split at e
 ·rename_i x;obtain⟨rfl,rfl⟩:=Ju e;rcases d with ⟨_,rfl⟩|⟨d,_⟩
  ·refine⟨fun _=>Grow.refl _,fun Φ τ w vs hR _ hv=>?_⟩
   simp only[RvL] at hv;obtain⟨u,r,rfl,hu,rfl⟩:=hv;refine⟨u,w,?_,Φ,τ,hu,hR,Tw.refl _ _ _ _ _⟩;rw[run_callFunc_extern o s y A B]
   rfl
  ·cases d
 ·rename_i z;cases z with
  |negSucc n=>cases e
  |ofNat n=>
   simp only at e;rcases d with ⟨d,_⟩|⟨_,rfl,t,ht⟩
   ·cases d
   ·split at e
    ·rename_i el hel;rw[o] at hel;simp only[Jae,ht] at hel;have hel:slOf P t=some el:=hel;have hu:=jk hel;obtain⟨hc,p⟩:=recB e;clear e;obtain⟨hn,hb⟩:=Za hc;have hn:=UW hn;rw[K9,U8] at p;obtain⟨h5b,D⟩:=Qi p;clear p;obtain⟨rfl,rfl⟩:=Ju D;refine⟨fun _=>Grow.new h5b,fun Φ τ w vs hR hFr hv=>?_⟩
     simp only[RvL] at hv;obtain⟨u,r,rfl,j,rfl⟩:=hv;have j:=j.iI;subst j;obtain⟨cs,E,C,F⟩:=Lib.run_makeNoZero (P:=P) w fn.params t el hu n (by omega);have hf:=hFr h.n (UM _) (ZE _);obtain⟨τ',G,H⟩:=hR.new (k:=cs.size) (w':=w.drew.drew.alloc (.cells cs el (0,0))) h5b hf (NB.row (b:=⟨el,false,false,repl n [AV.u],.row⟩) (g:=w.heap.size) (fr:=(0,0)) rfl (fun _=>rfl) rfl (by
       show(repl n [AV.u]).length≤_
       rw[qr];simpa using C) (fun hx=>by cases hx) (by
       intro i a hi;have hi:(repl n [AV.u])[i]? =some a:=hi;have hlt:=(WY.1 hi).1;have ha:a= .u:=by
        have:=XO hi
        unfold repl at this;simp at this;exact this.2
       subst ha;rw[qr] at hlt;simp at hlt;exact⟨cs[0+i]'(by omega),by simp[show 0+i<cs.size by omega],by simp only[Rv]⟩)) ⟨rfl,rfl,rfl,by simp,fun k hk=>Below.heap_alloc w.drew.drew _ k hk,heap_alloc_new w.drew.drew _⟩
     refine⟨.slice (some ⟨w.heap.size,0,none⟩) n cs.size,w.drew.drew.alloc (.cells cs el),?_,_,τ',?_,G,H⟩
     ·rw[run_callFunc_extern o s y A B,ht];have hq:([Value.int IntKind.i64 (Int.ofNat n)]:List Value).toArray= #[.int .i64 (n:Int)]:=rfl;rw[hq,E]
      rfl
     ·exact Rv.msl (e:=⟨w.heap.size,0,cs.size⟩) (c:=cs.size) (Kc _ _ _) C (F (by unfold maxLen;omega)) (by show 0+cs.size*1≤cs.size;omega) trivial
    ·cases e
 ·cases e
theorem GF{k m:Nat}{l:List AV}:i9 P k m l h≠ .pn v h':=by
 intro e;unfold i9 at e;split at e
 ·cases e
 ·rename_i z;cases z with
  |negSucc n=>cases e
  |ofNat n=>
   simp only at e;split at e
   ·rename_i el _;cases hb:(Nat.ble n 1000000&&mA P el) with
    |false=>rw[hb] at e;cases e
    |true=>
     rw[hb] at e;simp only at e;rw[K9] at e;unfold newB at e;cases hq:Nat.blt h.n big5 with
     |false=>rw[hq] at e;cases e
     |true=>rw[hq] at e;simp only[Yx] at e;cases e
   ·cases e
 ·cases e
end
def hpR:Res→Hp→Hp
 |.ok _ h,_=>h
 |.pn _ h,_=>h
 |.no _,h=>h
def okR:Res→Prop
 |.no _=>False
 |_=>True
def RetE(Φ:Phi)(τ:Tau)(h:Hp)(w:World)(r:Res):Ending→World→Prop
 |.returned x,w'=>∃v h',r= .ok v h'∧∃Φ' τ',Rv Φ' v x∧Rel Φ' τ' h' w'∧Tw Φ τ h w Φ' τ' h'.n w'
 |.panicked ch,w'=>∃v h',r= .pn v h'∧∃x Φ' τ',ch=[{v:=x,recovered:=false}]∧Rv Φ' v x∧Rel Φ' τ' h' w'∧Tw Φ τ h w Φ' τ' h'.n w'
 |.outgrown,_=>False
structure CallS (P:Program) (call:CallF):Prop where
 ex:∀k,call.ex k≠0→ExK P k (call.ex k)
 run:∀k args h r,call.run k args h=r→okR r→
  (∃fn,P.funcs[k]? =some fn∧(fn.name == "runtime.NumGoroutine")=false∧fn.body.isNone=false)∧(h.n≤big5→Grow h (hpR r h))∧
  ∀Φ τ w vs,Rel Φ τ h w→Fre Φ h.n (hpR r h).n→RvL Φ args vs→Calls P k vs.toArray w (RetE Φ τ h w r)
 rd:∀id args h r,call.rd id args h=r→okR r→∃v h',r= .ok v h'∧(h.n≤big5→Grow h h')∧
  ∀Φ τ w vs e,Rel Φ τ h w→Fre Φ h.n h'.n→RvL Φ args vs→Φ id=some e→∃l g tmps as0 bo,(Instr.yield e.g vs.toArray).run P w= .ok (.round l g tmps as0 bo) w∧
   RoundIn Fence.wide 0 P l g tmps as0 bo w fun en w'=>∃x,en= .returned x∧∃Φ' τ',Rv Φ' v x∧Rel Φ' τ' h' w'∧Tw Φ τ h w Φ' τ' h'.n w'
def OpS(P:Program)(op:Op)(f:Fr)(h:Hp)(v:AV)(h':Hp):Prop:=(h.n≤big5→Grow h h')∧
 ∀(Φ:Phi) (τ:Tau) (F:Wf.Fr) (w:World) (dst:Option Tmp) (ty:TypeId) (pos:String) (after:Array Edge) (gd:Option (Nat×Bool)),FR Φ f F→Rel Φ τ h w→Fre Φ h.n h'.n→
  St P (fe F) ⟨dst,op,ty,pos,after,gd⟩ w (fun x w'=>∃Φ' τ',Rv Φ' v x∧Rel Φ' τ' h' w'∧Tw Φ τ h w Φ' τ' h'.n w') KF
def OpP(P:Program)(op:Op)(f:Fr)(h:Hp)(v:AV)(h':Hp):Prop:=(h.n≤big5→Grow h h')∧
 ∀(Φ:Phi) (τ:Tau) (F:Wf.Fr) (w:World) (dst:Option Tmp) (ty:TypeId) (pos:String) (after:Array Edge) (gd:Option (Nat×Bool)),FR Φ f F→Rel Φ τ h w→Fre Φ h.n h'.n→
  St P (fe F) ⟨dst,op,ty,pos,after,gd⟩ w (fun _ _=>False) (fun ch w'=>∃x Φ' τ',ch=[{v:=x,recovered:=false}]∧Rv Φ' v x∧Rel Φ' τ' h' w'∧Tw Φ τ h w Φ' τ' h'.n w')
section
variable {P:Program} {call:CallF} {op:Op} {f f':Fr} {v:AV} {h h':Hp}
theorem Pu.opS(p:h'=h∧Pu P op f v):OpS P op f h v h':=by
 obtain⟨rfl,p⟩:=p;refine⟨fun _=>Grow.refl _,fun Φ τ F w dst ty pos after gd hF hR _=>(p Φ F w dst ty pos after gd hF).mono ?_ fun _ _ h=>h⟩
 rintro x w' ⟨rfl,hv⟩;exact⟨Φ,τ,hv,hR,Tw.refl _ _ _ _ _⟩
theorem Rd.opS(p:h'=h∧Rd P op f v h):OpS P op f h v h':=by
 obtain⟨rfl,p⟩:=p;refine⟨fun _=>Grow.refl _,fun Φ τ F w dst ty pos after gd hF hR _=>(p Φ τ F w dst ty pos after gd hF hR).mono ?_ fun _ _ h=>h⟩
 rintro x w' ⟨rfl,hv⟩;exact⟨Φ,τ,hv,hR,Tw.refl _ _ _ _ _⟩
theorem Qt.opS(p:Qt P op f v h h'):OpS P op f h v h':=⟨fun _=>p.mv.1,p.mv.2⟩
theorem bifK{α:Type}{b:Bool}{x y z:α}(h:(bif b then x else y)=z):(b=true∧x=z)∨(b=false∧y=z):=by cases b<;>simp at h<;>simp[h]
theorem ip{s d:TypeId}{x:Operand}{k:Kd}(hk:kdOf P (.convert s d x)=k):(k= .pure∧cvKd P s d=0)∨(k= .read∧cvKd P s d=1)∨(k= .quiet∧cvKd P s d=2)∨(k= .move∧3≤cvKd P s d):=by
 have hk:(match cvKd P s d with|0=>Kd.pure|1=> .read|2=> .quiet|_=> .move)=k:=hk
 match hc:cvKd P s d with
 |0=>rw[hc] at hk;exact .inl ⟨hk.symm,rfl⟩
 |1=>rw[hc] at hk;exact .inr (.inl ⟨hk.symm,rfl⟩)
 |2=>rw[hc] at hk;exact .inr (.inr (.inl ⟨hk.symm,rfl⟩))
 |n+3=>rw[hc] at hk;exact .inr (.inr (.inr ⟨hk.symm,by omega⟩))
theorem jo{s d:TypeId}{x:Operand}{r:Res}(e:j7 P s d x f h=r):(cvKd P s d=0→Qu P s d x f h=r)∧(cvKd P s d=1→jN P s d x f h=r)∧(cvKd P s d=2→jT P s d x f h=r)∧(3≤cvKd P s d→r= .no 17):=by
 unfold j7 at e;refine⟨fun hc=>?_,fun hc=>?_,fun hc=>?_,fun hc=>?_⟩
 ·rw[hc] at e;exact e
 ·rw[hc] at e;exact e
 ·rw[hc] at e;exact e
 ·split at e
  ·omega
  ·omega
  ·omega
  ·exact e.symm
theorem lZ(hk:kdOf P op= .pure)(e:evOp P call op f h= .ok v h'):h'=h∧Pu P op f v:=by
 rw[zk] at e;cases op with
 |move x=>exact⟨(qp (P:=P) e).1,(qp e).2.1⟩
 |assign x=>exact⟨(qp (P:=P) e).1,(qp e).2.2⟩
 |pick c a b=>exact wU e
 |build t ps=>exact uR e
 |nilCheck x=>exact mh e
 |binOp o t x y yt=>exact GD e
 |unOp o t x=>exact LD e
 |convert s d x=>
  rcases ip hk with ⟨_,hc⟩|⟨g,_⟩|⟨g,_⟩|⟨g,_⟩
  ·exact ua ((jo (r:= .ok v h') e).1 hc)
  ·cases g
  ·cases g
  ·cases g
 |slice t x lo hi mx=>
  have hk:(bif xz P t then Kd.read else Kd.pure)= .pure:=hk;rcases bifK hk with ⟨_,g⟩|⟨g,_⟩
  ·cases g
  ·exact(lI e).1 g
 |fieldAddr s x i=>exact i6 e
 |field s x i=>exact uJ e
 |index t x i=>exact sD e
 |indexAddr t x i=>exact jB e
 |extract x i=>exact mG e
 |makeFunc fn a b=>exact lN e
 |makeInterface t x=>exact zt e
 |typeAssert x xt at_ ok=>exact vb e
 |call c=>
  obtain⟨ce,args,ts⟩:=c;cases ce with
  |value x=>cases hk
  |invoke r m=>cases hk
  |builtin b=>
   cases b<;>first|(cases hk;done)|exact Hc e|exact GZ e|skip
   have hk:(bif ix P ts.toList then Kd.read else Kd.pure)= .pure:=hk;rcases bifK hk with ⟨_,g⟩|⟨g,_⟩
   ·cases g
   ·have e:xl P ts.toList (opds f args.toList) h= .ok v h':=e;unfold xl at e;rw[g] at e;exact DK e
 |_=>first|(cases hk;done)|cases e
theorem kM(hk:kdOf P op= .read)(e:evOp P call op f h= .ok v h'):h'=h∧Rd P op f v h:=by
 rw[zk] at e;cases op with
 |load t a=>exact pO e
 |lookup t x i ok=>exact p4 e
 |convert s d x=>
  rcases ip hk with ⟨g,_⟩|⟨_,hc⟩|⟨g,_⟩|⟨g,_⟩
  ·cases g
  ·exact vP ((jo (r:= .ok v h') e).2.1 hc)
  ·cases g
  ·cases g
 |slice t x lo hi mx=>
  have hk:(bif xz P t then Kd.read else Kd.pure)= .read:=hk;rcases bifK hk with ⟨g,_⟩|⟨_,g⟩
  ·exact(lI e).2 g
  ·cases g
 |call c=>
  obtain⟨ce,args,ts⟩:=c;cases ce with
  |value x=>cases hk
  |invoke r m=>cases hk
  |builtin b=>
   cases b<;>first|(cases hk;done)|skip
   have hk:(bif ix P ts.toList then Kd.read else Kd.pure)= .read:=hk;rcases bifK hk with ⟨g,_⟩|⟨_,g⟩
   ·have e:xl P ts.toList (opds f args.toList) h= .ok v h':=e;unfold xl at e;rw[g] at e;unfold ix at g;split at g
    ·rename_i t hts;exact yF g (by apply VC;rw[hts]) e
    ·cases g
   ·cases g
 |_=>first|(cases hk;done)|cases e
theorem Xw(hk:kdOf P op= .quiet)(e:evOp P call op f h= .ok v h'):Qt P op f v h h':=by
 rw[zk] at e;cases op with
 |alloc t=>exact vK e
 |box t x=>exact Hg e
 |buildSlice t n ps=>exact xy e
 |makeSlice t l c=>exact g8 e
 |makeMap t r=>exact mO e
 |slice t x lo hi mx=>
  have hk:(bif xz P t then Kd.read else Kd.pure)= .quiet:=hk;rcases bifK hk with ⟨_,a⟩|⟨_,a⟩<;>cases a
 |convert s d x=>
  rcases ip hk with ⟨a,_⟩|⟨a,_⟩|⟨_,hc⟩|⟨a,_⟩
  ·cases a
  ·cases a
  ·exact uy ((jo (r:= .ok v h') e).2.2.1 hc)
  ·cases a
 |call c=>
  obtain⟨ce,args,ts⟩:=c;cases ce with
  |value x=>cases hk
  |invoke r m=>cases hk
  |builtin b=>
   cases b<;>first|(cases hk;done)|skip
   have hk:(bif ix P ts.toList then Kd.read else Kd.pure)= .quiet:=hk;rcases bifK hk with ⟨_,a⟩|⟨_,a⟩<;>cases a
 |_=>first|(cases hk;done)|cases e
theorem vR(l m:List AV):appL l m=l++m:=by
 induction l with
 |nil=>rfl
 |cons a l ih=>exact congrArg (a:: ·) ih
theorem rJ{x:Operand}{args:Array Operand}{ts:Array TypeId}{r:Res}(hc:CallS P call)(e:KV P call (.call {callee:= .value x,args:=args,argTypes:=ts}) f h=r)(hr:okR r):
  (∃v h',r= .ok v h'∧OpS P (.call {callee:= .value x,args:=args,argTypes:=ts}) f h v h')∨∃v h',r= .pn v h'∧OpP P (.call {callee:= .value x,args:=args,argTypes:=ts}) f h v h':=by
 have a:(match opd f x with | .fn k cap=>(Nat.rec (call.run k (appL (opds f args.toList) cap) h) (fun m _=>i9 P k (Nat.succ m) (appL (opds f args.toList) cap) h) (call.ex k):Res) | .yv id=>call.rd id (opds f args.toList) h|_=> .no 37)=r:=e;clear e;split at a
 ·rename_i k cap hx;cases hm:call.ex k with
  |zero=>
   rw[hm] at a;have a:call.run k (appL (opds f args.toList) cap) h=r:=a;obtain⟨⟨fn,hf,hn,hb⟩,hg,hs⟩:=hc.run _ _ _ _ a hr;have ha:∀ {Φ:Phi} {F:Wf.Fr},FR Φ f F→∃cv:List Value,fe F x= .func (.func k) #[] cv.toArray∧RvL Φ (appL (opds f args.toList) cap) (args.toList.map (fe F)++cv):=by
    intro Φ F hF;have hr:=Jb hF x;rw[hx] at hr;obtain⟨cv,hv,hcv⟩:=hr.fnI;have hap:=(K7 hF args.toList).app hcv;rw[←vR] at hap;exact⟨cv,hv,hap⟩
   cases r with
   |no m=>exact hr.elim
   |ok v h'=>
    refine .inl ⟨v,h',rfl,hg,fun Φ τ F w dst ty pos after gd hF hR hFr=>?_⟩
    obtain⟨cv,hv,hap⟩:=ha hF;refine Ti hv hf hn hb rfl ((hs Φ τ w _ hR hFr hap).mono ?_);intro en w' hh;cases en with
    |returned y=>obtain⟨i,j,b,hh⟩:=hh;cases b;exact hh
    |panicked ch=>obtain⟨i,j,b,hh⟩:=hh;cases b
    |outgrown=>exact hh
   |pn v h'=>
    refine .inr ⟨v,h',rfl,hg,fun Φ τ F w dst ty pos after gd hF hR hFr=>?_⟩
    obtain⟨cv,hv,hap⟩:=ha hF;refine Ti hv hf hn hb rfl ((hs Φ τ w _ hR hFr hap).mono ?_);intro en w' hh;cases en with
    |returned y=>obtain⟨i,j,b,hh⟩:=hh;cases b
    |panicked ch=>obtain⟨i,j,b,hh⟩:=hh;cases b;exact hh
    |outgrown=>exact hh
  |succ m=>
   rw[hm] at a;have a:i9 P k (m+1) (appL (opds f args.toList) cap) h=r:=a;have hX:=hc.ex k (by rw[hm];omega);rw[hm] at hX;cases r with
   |no m=>exact hr.elim
   |pn v h'=>exact absurd a GF
   |ok v h'=>
    obtain⟨g,s⟩:=Gr hX a;refine .inl ⟨v,h',rfl,g,fun Φ τ F w dst ty pos after gd hF hR hFr=>?_⟩
    have hr:=Jb hF x;rw[hx] at hr;obtain⟨cv,hv,hcv⟩:=hr.fnI;have hap:=(K7 hF args.toList).app hcv;rw[←vR] at hap;obtain⟨y,w',n,o⟩:=s Φ τ w _ hR hFr hap;unfold St;have hrun:(execOp (fe F) ⟨dst,.call {callee:= .value x,args:=args,argTypes:=ts},ty,pos,after,gd⟩).run P w= .ok (.value y) w':=by
     have p:execOp (fe F) ⟨dst,.call {callee:= .value x,args:=args,argTypes:=ts},ty,pos,after,gd⟩=(do let d ←Deferred.ofValue (fe F x) (args.map (fe F));invoke d.target d.args):=rfl;rw[p,hv];have u:args.map (fe F)++cv.toArray=(args.toList.map (fe F)++cv).toArray:=by apply VC;simp
     simp only[Deferred.ofValue,Sem.run_bind,Sem.run_pure,Result.andThen,invoke];simp only[Array.empty_append,u];exact n
    rw[hrun];exact o
 ·rename_i id hx;obtain⟨v,h',rfl,g,s⟩:=hc.rd _ _ _ _ a hr;refine .inl ⟨v,h',rfl,g,fun Φ τ F w dst ty pos after gd hF hR hFr=>?_⟩
  have hrx:=Jb hF x;rw[hx] at hrx;simp only[Rv] at hrx;obtain⟨en,hen,hv⟩:=hrx;obtain⟨l,gf,tmps,z,bo,n,o⟩:=s Φ τ w _ en hR hFr (K7 hF args.toList) hen;unfold St;have hrun:(execOp (fe F) ⟨dst,.call {callee:= .value x,args:=args,argTypes:=ts},ty,pos,after,gd⟩).run P w= .ok (.round l gf tmps z bo) w:=by
   have p:execOp (fe F) ⟨dst,.call {callee:= .value x,args:=args,argTypes:=ts},ty,pos,after,gd⟩=(do let d ←Deferred.ofValue (fe F x) (args.map (fe F));invoke d.target d.args):=rfl;rw[p,hv];have u:args.map (fe F)=(args.toList.map (fe F)).toArray:=by apply VC;simp
   simp only[Deferred.ofValue,Sem.run_bind,Sem.run_pure,Result.andThen,invoke];simp only[Array.empty_append,u];exact n
  rw[hrun];refine RoundIn.mono o ?_;rintro e w' ⟨y,rfl,hh⟩;exact hh
 ·subst a;exact hr.elim
theorem lO(hc:CallS P call)(e:evOp P call op f h= .ok v h'):OpS P op f h v h':=by
 cases hk:kdOf P op with
 |pure=>exact Pu.opS (lZ hk e)
 |read=>exact Rd.opS (kM hk e)
 |quiet=>exact(Xw hk e).opS
 |move=>
  rw[zk] at e;cases op with
  |store t a x=>
   obtain⟨g,s⟩:=r8 e;refine⟨g,fun Φ τ F w dst ty pos after gd hF hR _=>(s Φ τ F w dst ty pos after gd hF hR).mono ?_ fun _ _ h=>h⟩
   rintro x w' ⟨i,j,n⟩;exact⟨Φ,τ,i,j,n⟩
  |mapUpdate t m k x=>exact jR e
  |insert t m k x=>exact qE e
  |range t x=>exact wd e
  |next it st=>exact wy e
  |call c=>
   obtain⟨ce,args,ts⟩:=c;cases ce with
   |invoke r m=>cases e
   |builtin b=>
    cases b<;>first|(cases hk;done)|exact qU e|exact AE e|exact D9 e|exact qG e|exact BZ e|(cases e;done)|skip
    have hk:(bif ix P ts.toList then Kd.read else Kd.pure)= .move:=hk;rcases bifK hk with ⟨_,i⟩|⟨_,i⟩<;>cases i
   |value x=>
    rcases rJ hc e trivial with ⟨o,j,l,s⟩|⟨o,j,l,s⟩
    ·cases l;exact s
    ·cases l
  |convert s d x=>
   rcases ip hk with ⟨i,_⟩|⟨i,_⟩|⟨i,_⟩|⟨_,hc⟩
   ·cases i
   ·cases i
   ·cases i
   ·have:=(jo (r:= .ok v h') e).2.2.2 hc
    cases this
  |slice t x lo hi mx=>
   have hk:(bif xz P t then Kd.read else Kd.pure)= .move:=hk;rcases bifK hk with ⟨_,i⟩|⟨_,i⟩<;>cases i
  |panic x=>
   have e:X5 x f h= .ok v h':=e;unfold X5 at e;split at e<;>cases e
  |_=>first|(cases hk;done)|cases e
theorem MG(hc:CallS P call)(hp:nl op=true)(e:evOp P call op f h= .pn v h'):OpP P op f h v h':=by
 rw[zk] at e;cases op with
 |panic x=>
  have e:X5 x f h= .pn v h':=e;unfold X5 at e;split at e
  ·rename_i t a hx;cases e;refine⟨fun _=>Grow.refl _,fun Φ τ F w dst ty pos after gd hF hR hFr=>?_⟩
   have hr:=Jb hF x;rw[hx] at hr;have hr':=hr;simp only[Rv] at hr;obtain⟨y,hy,_⟩:=hr;unfold St;have hrun:(execOp (fe F) ⟨dst,.panic x,ty,pos,after,gd⟩).run P w= .halt (.panic (fe F x)) w:=by
    have g:execOp (fe F) ⟨dst,.panic x,ty,pos,after,gd⟩=(do pure (.value (←Instr.panic (fe F x)))):=rfl;rw[g,hy]
    rfl
   rw[hrun];exact⟨_,Φ,τ,rfl,hr',hR,Tw.refl _ _ _ _ _⟩
  ·cases e
 |call c=>
  obtain⟨ce,args,ts⟩:=c;cases ce with
  |invoke r m=>cases hp
  |builtin b=>cases hp
  |value x=>
   rcases rJ hc e trivial with ⟨i,j,d,s⟩|⟨i,j,d,s⟩
   ·cases d
   ·cases d;exact s
 |_=>cases hp
theorem qP{l:List Operand}{t:Tmp}(h:Operand.tmp t∈l):t∈xg l:=by
 induction l with
 |nil=>cases h
 |cons o l ih=>
  cases h with
  |head=>exact XH
  |tail _ h=>
   have:=ih h
   cases o with
   |tmp s=>exact XG _ this
   |const _=>exact this
   |global _=>exact this
   |func _=>exact this
def Agr(f f':Fr)(l:List Operand):Prop:=∀t,Operand.tmp t∈l→t<4096→getF t f=getF t f'
theorem Agr.opd{l:List Operand}{o:Operand}(a:Agr f f' l)(ho:o∈l):Ev.opd f o=Ev.opd f' o:=by
 cases o with
 |tmp t=>
  show(Bool.rec AV.u (getF t f) (Nat.ble (Nat.succ t) 4096):AV)=Bool.rec AV.u (getF t f') (Nat.ble (Nat.succ t) 4096)
  cases e:Nat.ble (Nat.succ t) 4096 with
  |false=>rfl
  |true=>exact a t ho (UW e)
 |const v=>rfl
 |global g=>rfl
 |func k=>rfl
theorem Agr.opds{l m:List Operand}(a:Agr f f' l)(hm:∀o∈m,o∈l):Ev.opds f m=Ev.opds f' m:=by
 induction m with
 |nil=>rfl
 |cons o m ih=>
  show Ev.opd f o::Ev.opds f m=Ev.opd f' o::Ev.opds f' m;rw[a.opd (hm o (by simp)),ih fun o ho=>hm o (by simp[ho])]
theorem Agr.fill{l:List Operand}{place:Nat→Option (Nat×Nat)}{m:List (Nat×Operand)}(a:Agr f f' l)(hm:∀p∈m,p.2∈l):jx place f m=jx place f' m:=by
 induction m with
 |nil=>rfl
 |cons p m ih=>
  have d:=a.opd (hm p (by simp));have b:=ih fun q hq=>hm q (by simp[hq])
  funext cs k
  unfold jx at b ⊢;simp only;rw[d,b]
theorem Agr.bnd{α:Type}{l:List Operand}{o:Option Operand}{d:Nat}{k:Nat→α}{no:α}(a:Agr f f' l)(ho:∀x,o=some x→x∈l):Ev.bnd f o d k no=Ev.bnd f' o d k no:=by
 unfold Ev.bnd;cases o with
 |none=>rfl
 |some x=>simp only;rw[a.opd (ho x rfl)]
theorem Bd(a:Agr f f' op.operands.toList):evOp P call op f h=evOp P call op f' h:=by
 rw[zk];cases op with
 |move x=>show Res.ok (opd f x) h=Res.ok (opd f' x) h;rw[a.opd (by simp[Op.operands])]
 |assign x=>show Res.ok (opd f x) h=Res.ok (opd f' x) h;rw[a.opd (by simp[Op.operands])]
 |pick c x y=>
  show yl c x y f h=yl c x y f' h;unfold yl;rw[a.opd (o:=c) (by simp[Op.operands]),a.opd (o:=x) (by simp[Op.operands]),a.opd (o:=y) (by simp[Op.operands])]
 |alloc t=>rfl
 |box t x=>
  show lk t x f h=lk t x f' h;unfold lk;rw[a.opd (o:=x) (by simp[Op.operands])]
 |build t ps=>
  show V9 P t ps f h=V9 P t ps f' h;unfold V9;simp only[show ∀pl,jx pl f ps.toList=jx pl f' ps.toList from fun pl=>a.fill fun p hp=>by simp[Op.operands];exact⟨p.1,by simpa using hp⟩]
 |buildSlice t n ps=>
  show Yq P t n ps f h=Yq P t n ps f' h;unfold Yq;simp only[show ∀pl,jx pl f ps.toList=jx pl f' ps.toList from fun pl=>a.fill fun p hp=>by simp[Op.operands];exact⟨p.1,by simpa using hp⟩]
 |load t x=>
  show Q1 P t x f h=Q1 P t x f' h;unfold Q1;rw[a.opd (o:=x) (by simp[Op.operands])]
 |store t x y=>
  show Qs P t x y f h=Qs P t x y f' h;unfold Qs;rw[a.opd (o:=x) (by simp[Op.operands]),a.opd (o:=y) (by simp[Op.operands])]
 |nilCheck x=>
  show Y6 x f h=Y6 x f' h;unfold Y6;rw[a.opd (o:=x) (by simp[Op.operands])]
 |binOp o t x y yt=>
  show mz P o t x y f h=mz P o t x y f' h;unfold mz;rw[a.opd (o:=x) (by simp[Op.operands]),a.opd (o:=y) (by simp[Op.operands])]
 |unOp o t x=>
  show evUn o x f h=evUn o x f' h;unfold evUn;rw[a.opd (o:=x) (by simp[Op.operands])]
 |convert s d x=>
  show j7 P s d x f h=j7 P s d x f' h;unfold j7 Qu jN jT;rw[a.opd (o:=x) (by simp[Op.operands])]
 |makeFunc fn x y=>
  show Ki fn x y f h=Ki fn x y f' h;unfold Ki;rw[a.opds (m:=y.toList) fun o ho=>by simp[Op.operands];exact .inr (by simpa using ho)]
 |makeSlice t x y=>
  show Yy P t x y f h=Yy P t x y f' h;unfold Yy;rw[a.opd (o:=x) (by simp[Op.operands]),a.opd (o:=y) (by simp[Op.operands])]
 |slice t x lo hi mx=>
  show Qx P t x lo hi mx f h=Qx P t x lo hi mx f' h;have e:∀ {α:Type} {d:Nat} {k:Nat→α} {no:α},bnd f lo d k no=bnd f' lo d k no:=a.bnd fun x hx=>by simp[Op.operands,hx]
  have g:∀ {α:Type} {d:Nat} {k:Nat→α} {no:α},bnd f hi d k no=bnd f' hi d k no:=a.bnd fun x hx=>by simp[Op.operands,hx]
  unfold Qx K4 jf;rw[a.opd (o:=x) (by simp[Op.operands])];simp only[e,g]
 |fieldAddr s x i=>
  show Yp P s x i f h=Yp P s x i f' h;unfold Yp;rw[a.opd (o:=x) (by simp[Op.operands])]
 |indexAddr t x i=>
  show Zz P t x i f h=Zz P t x i f' h;unfold Zz;rw[a.opd (o:=x) (by simp[Op.operands]),a.opd (o:=i) (by simp[Op.operands])]
 |index t x i=>
  show Xr P t x i f h=Xr P t x i f' h;unfold Xr;rw[a.opd (o:=x) (by simp[Op.operands]),a.opd (o:=i) (by simp[Op.operands])]
 |field s x i=>
  show Q4 P s x i f h=Q4 P s x i f' h;unfold Q4;rw[a.opd (o:=x) (by simp[Op.operands])]
 |makeInterface t x=>
  rfl
 |typeAssert x xt at_ ok=>
  rfl
 |panic x=>
  show X5 x f h=X5 x f' h;unfold X5;rw[a.opd (o:=x) (by simp[Op.operands])]
 |range t x=>
  show V0 P t x f h=V0 P t x f' h;unfold V0;rw[a.opd (o:=x) (by simp[Op.operands])]
 |next x st=>
  show kd x st f h=kd x st f' h;unfold kd;rw[a.opd (o:=x) (by simp[Op.operands])]
 |lookup t x i ok=>
  show X3 P t x i ok f h=X3 P t x i ok f' h;unfold X3;rw[a.opd (o:=x) (by simp[Op.operands]),a.opd (o:=i) (by simp[Op.operands])]
 |mapUpdate t x y z=>
  show Zl P t x y z f h=Zl P t x y z f' h;unfold Zl;rw[a.opd (o:=x) (by simp[Op.operands]),a.opd (o:=y) (by simp[Op.operands]),a.opd (o:=z) (by simp[Op.operands])]
 |insert t x y z=>
  show Zl P t x y z f h=Zl P t x y z f' h;unfold Zl;rw[a.opd (o:=x) (by simp[Op.operands]),a.opd (o:=y) (by simp[Op.operands]),a.opd (o:=z) (by simp[Op.operands])]
 |makeMap t r=>
  show Xi P t r f h=Xi P t r f' h;unfold Xi;cases r with
  |none=>rfl
  |some x=>simp only;rw[a.opd (o:=x) (by simp[Op.operands])]
 |extract x i=>
  show Kn x i f h=Kn x i f' h;unfold Kn;rw[a.opd (o:=x) (by simp[Op.operands])]
 |call c=>
  show Vk P call c f h=Vk P call c f' h;have e:opds f c.args.toList=opds f' c.args.toList:=a.opds fun o ho=>by simp only[Op.operands,Call.operands,Array.toList_append];exact List.mem_append_right _ ho
  unfold Vk;cases hce:c.callee with
  |builtin b=>simp only;rw[e]
  |invoke r m=>rfl
  |value x=>
   simp only;rw[e,a.opd (o:=x) (by simp[Op.operands,Call.operands,hce])]
 |_=>rfl
end
def yo(ops:Array Oper)(g:Option (Nat×Bool))(f:Fr):Option Bool:=match g with
 |none=>some true
 |some p=>match (ops[p.1]?).bind (·.dst) with
  |some d=>match opd f (.tmp d) with
   |.b c=>some (c==p.2)
   |.tp []=>some false
   |_=>none
  |none=>none
theorem yu{α:Type}(ops:Array Oper)(g:Option (Nat×Bool))(f:Fr)(yes no bad:α):jM ops g f yes no bad=match yo ops g f with|some true=>yes|some false=>no|none=>bad:=by
 unfold jM yo;cases g with
 |none=>rfl
 |some p=>
  simp only;cases (ops[p.1]?).bind (·.dst) with
  |none=>rfl
  |some d=>
   simp only;cases opd f (.tmp d) with
   |b c=>simp only;cases (c==p.2)<;>rfl
   |tp l=>cases l<;>rfl
   |_=>rfl
theorem iU {ops:Array Oper} {o:Oper} {f:Fr} {F:Wf.Fr} {Φ:Phi} {b:Bool} (h:yo ops o.guard f=some b)
  (hF:∀p d,o.guard=some p→(ops[p.1]?).bind (·.dst)=some d→Rv Φ (opd f (.tmp d)) (F d)):Region.wanted o (Zb ops F)=b:=by
 unfold yo at h;unfold Region.wanted;cases hg:o.guard with
 |none=>rw[hg] at h;simp only at h;cases h;rfl
 |some p=>
  rw[hg] at h;obtain⟨j,a⟩:=p;simp only at h ⊢;cases hd:(ops[j]?).bind (·.dst) with
  |none=>rw[hd] at h;cases h
  |some d=>
   have hr:=hF _ d hg hd;rw[hd] at h;simp only at h;split at h
   ·rename_i c hc;rw[hc] at hr;cases h
    have:=hr.bI
    unfold Zb;rw[hd];simp only[Jai,this];cases c<;>cases a<;>rfl
   ·rename_i hc;rw[hc] at hr;cases h;have hv:F d= .tuple #[]:=by
     simp only[Rv,RvL] at hr;obtain⟨vs,e,rfl⟩:=hr;exact e
    unfold Zb;rw[hd];simp only[Jai,hv];cases a<;>rfl
   ·cases h
theorem mV{f:Fr}{F:Wf.Fr}{Φ:Phi}(h:FR Φ f F)(d:Tmp):Rv Φ (opd f (.tmp d)) (F d):=Jb h (.tmp d)
def okO:Out→Prop
 |.no _=>False
 |_=>True
theorem uo{n:Nat}{d:Option Tmp}{v:AV}{f:Fr}{k:Fr→Out}(e:okO (setO n d v f k)):∃f',setO n d v f k=k f'∧lo n d∧((d=none∧f'=f)∨∃t,d=some t∧t<n∧f'=setF t v f):=by
 unfold setO at e ⊢;cases d with
 |none=>exact⟨f,rfl,trivial,.inl ⟨rfl,rfl⟩⟩
 |some t=>
  simp only at e ⊢;cases hb:Nat.blt t n with
  |false=>rw[hb] at e;exact e.elim
  |true=>exact⟨_,rfl,Zx hb,.inr ⟨t,rfl,Zx hb,rfl⟩⟩
theorem FR.updO{n:Nat}(hn:n≤4096){d:Option Tmp}{v:AV}{x:Value}{f f':Fr}{F:Wf.Fr}{Φ:Phi}(h:FR Φ f F)(hv:Rv Φ v x)(hd:(d=none∧f'=f)∨∃t,d=some t∧t<n∧f'=setF t v f):FR Φ f' (Wf.updO F d x):=by
 rcases hd with ⟨rfl,rfl⟩|⟨t,rfl,ht,rfl⟩
 ·exact h
 ·exact h.set (UB ht hn) hv
section
variable {P:Program} {call:CallF} {n:Nat}
def OutQ(Φ:Phi)(τ:Tau)(h:Hp)(w:World):Out→Wf.Post
 |.nx f' h',.normal,F',w'=>∃Φ' τ',FR Φ' f' F'∧Rel Φ' τ' h' w'∧Tw Φ τ h w Φ' τ' h'.n w'
 |.ex i f' h',.exit j,F',w'=>i=j∧∃Φ' τ',FR Φ' f' F'∧Rel Φ' τ' h' w'∧Tw Φ τ h w Φ' τ' h'.n w'
 |.rt f' h',.ret,F',w'=>∃Φ' τ',FR Φ' f' F'∧Rel Φ' τ' h' w'∧Tw Φ τ h w Φ' τ' h'.n w'
 |.pn v f' h',.panic ch,F',w'=>∃x Φ' τ',ch=[{v:=x,recovered:=false}]∧Rv Φ' v x∧FR Φ' f' F'∧Rel Φ' τ' h' w'∧Tw Φ τ h w Φ' τ' h'.n w'
 |_,_,_,_=>False
def hpO:Out→Hp→Hp
 |.nx _ h,_=>h
 |.ex _ _ h,_=>h
 |.rt _ h,_=>h
 |.pn _ _ h,_=>h
 |.no _,h=>h
theorem vY{o:Out}(e:okO o)(a b:Hp):hpO o a=hpO o b:=by cases o<;>first|rfl|exact e.elim
theorem OutQ.trans{Φ Φ1:Phi}{τ τ1:Tau}{h f:Hp}{w k:World}{o:Out}(g:Tw Φ τ h w Φ1 τ1 f.n k)(k1:Grow h f)(hl:f.n≤big5)(hn:f.n≤(hpO o f).n){ex:Exit}{F:Wf.Fr}{l:World}(q:OutQ Φ1 τ1 f k o ex F l):OutQ Φ τ h w o ex F l:=by
 cases o with
 |nx f' h'=>cases ex with
  |normal=>obtain⟨Φ',τ',a,b,c⟩:=q;exact⟨Φ',τ',a,b,g.trans k1 hn hl c⟩
  |_=>exact q.elim
 |ex i f' h'=>cases ex with
  |exit j=>obtain⟨e,Φ',τ',a,b,c⟩:=q;exact⟨e,Φ',τ',a,b,g.trans k1 hn hl c⟩
  |_=>exact q.elim
 |rt f' h'=>cases ex with
  |ret=>obtain⟨Φ',τ',a,b,c⟩:=q;exact⟨Φ',τ',a,b,g.trans k1 hn hl c⟩
  |_=>exact q.elim
 |pn v f' h'=>cases ex with
  |panic ch=>obtain⟨x,Φ',τ',e,d,a,b,c⟩:=q;exact⟨x,Φ',τ',e,d,a,b,g.trans k1 hn hl c⟩
  |_=>exact q.elim
 |no m=>exact q.elim
theorem recR{r:Res}{k kp:AV→Hp→Out}(e:okO (Res.rec k Out.no kp r:Out)):(∃v h',r= .ok v h'∧(Res.rec k Out.no kp r:Out)=k v h')∨∃v h',r= .pn v h'∧(Res.rec k Out.no kp r:Out)=kp v h':=by
 cases r with
 |ok v h'=>exact .inl ⟨v,h',rfl,rfl⟩
 |no m=>exact e.elim
 |pn v h'=>exact .inr ⟨v,h',rfl,rfl⟩
theorem vW{r:Res}{k:AV→Hp→Out}{m:Nat}(e:okO (Res.rec k Out.no (fun _ _=> .no m) r:Out)):∃v h',r= .ok v h'∧(Res.rec k Out.no (fun _ _=> .no m) r:Out)=k v h':=by
 rcases recR e with h|⟨v,h',_,a⟩
 ·exact h
 ·rw[a] at e;exact e.elim
theorem G6(hc:CallS P call)(hn:n≤4096){ops:Array Oper}:∀(l:List Oper) (f:Fr) (h:Hp),okO (jn P call n ops l f h)→
  Gw h (hpO (jn P call n ops l f h) h)∧
  ∀(Φ:Phi) (τ:Tau) (F:Wf.Fr) (w:World) (Q:Wf.Post),FR Φ f F→Rel Φ τ h w→Fre Φ h.n (hpO (jn P call n ops l f h) h).n→
   (∀ex F' w',OutQ Φ τ h w (jn P call n ops l f h) ex F' w'→Q ex F' w')→Sq P ops n Q l F w:=by
 intro l
 induction l with
 |nil=>intro f h e;exact⟨Gw.refl _,fun Φ τ F w Q hF hR _ hQ=>hQ .normal F w ⟨Φ,τ,hF,hR,Tw.refl _ _ _ _ _⟩⟩
 |cons o l ih=>
  intro f h e;have B:jn P call n ops (o::l) f h=jM ops o.guard f (Res.rec (fun v h'=>setO n o.dst v f fun f'=>jn P call n ops l f' h') Out.no (fun v h'=>Bool.rec (.no 61) (.pn v f h') (nl o.op&&loB n o.dst)) (evOp P call o.op f h)) (setO n o.dst (.tp []) f fun f'=>jn P call n ops l f' h) (.no 41):=rfl;rw[B,yu] at e;rw[B,yu];cases hw:yo ops o.guard f with
  |none=>rw[hw] at e;exact e.elim
  |some b=>
   rw[hw] at e;cases b with
   |true=>
    simp only at e ⊢;rcases recR e with ⟨v,g,hop,s⟩|⟨v,g,hop,s⟩
    ·rw[s] at e ⊢;obtain⟨u,y,hlo,hd⟩:=uo e;rw[y] at e ⊢;obtain⟨k,z⟩:=ih u g e;obtain⟨a,A⟩:=lO hc hop;have a:Gw h g:=a;rw[vY e h g];refine⟨a.trans k,fun Φ τ F w Q hF hR hFr hQ=>?_⟩
     have k1:=a hR.lim;have C:=k (k1.lim hR.lim);have hw':=iU (Φ:=Φ) hw fun p d _ _=>mV hF d;obtain⟨dst,op,ty,pos,after,gd⟩:=o;refine⟨hlo,?_⟩;rw[if_pos hw']
     refine(A Φ τ F w dst ty pos after gd hF hR fun id g G=>hFr id g (UB G C.le)).mono ?_ fun _ _ h=>h.elim
     rintro x E ⟨Φ1,τ1,hv,j,i⟩;refine z Φ1 τ1 _ E Q ((hF.mono i.sub).updO hn hv hd) j ?_ ?_
     ·intro id H I;rw[i.same id (by omega)];exact hFr id (UC k1.le H) I
     ·intro ex F' w' q;exact hQ ex F' w' (q.trans i k1 (k1.lim hR.lim) C.le)
    ·rw[s] at e ⊢;cases m:(nl o.op&&loB n o.dst) with
     |false=>rw[m] at e;exact e.elim
     |true=>
      simp only;obtain⟨hp,r⟩:=Za m;obtain⟨a,A⟩:=MG hc hp hop;have a:Gw h g:=a;refine⟨a,fun Φ τ F w Q hF hR hFr hQ=>?_⟩
      have hw':=iU (Φ:=Φ) hw fun p d _ _=>mV hF d;have hlo:lo n o.dst:=by
       cases hd:o.dst with
       |none=>trivial
       |some t=>rw[hd] at r;exact Zx r
      obtain⟨dst,op,ty,pos,after,gd⟩:=o;refine⟨hlo,?_⟩;rw[if_pos hw']
      refine(A Φ τ F w dst ty pos after gd hF hR hFr).mono (fun _ _ h=>h.elim) ?_
      rintro ch E ⟨x,Φ1,τ1,rfl,hv,j,i⟩;exact hQ _ _ _ ⟨x,Φ1,τ1,rfl,hv,hF.mono i.sub,j,i⟩
   |false=>
    simp only at e ⊢;obtain⟨u,y,hlo,hd⟩:=uo e;rw[y] at e ⊢;obtain⟨k,z⟩:=ih u h e;refine⟨k,fun Φ τ F w Q hF hR hFr hQ=>?_⟩
    have hw':=iU (Φ:=Φ) hw fun p d _ _=>mV hF d;refine⟨hlo,?_⟩;rw[if_neg (by rw[hw'];simp)];exact z Φ τ _ w Q (hF.updO hn (by simp only[Rv,RvL];exact⟨[],rfl,rfl⟩) hd) hR hFr hQ
end
section
variable {fc:Fence} [Fw fc] {P:Program} {ops:Array Oper} {n:Nat} {D:List Deferred} {Q:Wf.Post} {f0:Wf.Fr} {w0:World}
theorem yJ (Inv:Array Bool→Wf.Fr→World→Prop) (back:∀(k:Nat) (o:Oper),ops[k]? =some o→∀e∈o.after,Region.binds .any e=true→e.on<k)
  (hstep:∀(L:Array Bool) (i:Nat) (o:Oper) (f:Wf.Fr) (w:World),L.size=ops.size→Yf ops L→ops[i]? =some o→L.getD i true=false→(∀e∈o.after,Region.binds .any e=true→L.getD e.on false=true)→Inv L f w→
   lo n o.dst∧OpSt P ops f o w (fun v w'=>Inv (L.setIfInBounds i true) (updO f o.dst v) w') (fun _ _=>False))
  (hfin:∀L f w,L.size=ops.size→(∀i,i<ops.size→L.getD i true=true)→Inv L f w→Q .normal f w):
  ∀(fuel:Nat) (L:Array Bool) (a:Act) (w:World),unl ops.size L=fuel→L.size=ops.size→Yf ops L→Wf.Good n D a→Inv L (frOf a) w→
   wpAnyIn fc 0 P .any ops (fun e a' w'=>Wf.Good n D a'∧Q e (frOf a') w') fuel L a w:=by
 intro fuel;have bridge:∀(L:Array Bool),L.size=ops.size→∀i,i<ops.size→L.getD i false=L.getD i true:=by
  intro L hs i hi
  have:L[i]? =some L[i]:=by simp[hs,hi]
  simp[UK,this]
 induction fuel with
 |zero=>
  intro L a w hu hs hc ha hI;have hall:=jg hu;refine⟨?_,⟨ha,hfin L _ w hs hall hI⟩⟩;rw[WO];intro i hi;obtain⟨g,b,_⟩:=J3.1 hi;rw[hall i g] at b;cases b
 |succ fuel ih=>
  intro L a w hu hs hc ha hI;refine⟨?_,?_⟩
  ·intro hnil;refine⟨ha,hfin L _ w hs ?_ hI⟩;intro i hi;refine VR fun hne=>?_
   have hex:∃i,i<ops.size∧L.getD i true=false:=⟨i,hi,by cases hb:L.getD i true with|false=>rfl|true=>exact absurd hb hne⟩;have hmin:∃i,i<ops.size∧L.getD i true=false∧∀j,j<i→L.getD j true=true:=by
    obtain⟨i,hi,hb⟩:=hex;clear hne
    induction i using Nat.strongRecOn with
    |_ i ihh=>
     by_cases h:∃j,j<i∧L.getD j true=false
     ·obtain⟨j,hj,hjb⟩:=h;exact ihh j hj (by omega) hjb
     ·refine⟨i,hi,hb,fun j hj=>?_⟩
      cases hjb:L.getD j true with
      |true=>rfl
      |false=>exact absurd ⟨j,hj,hjb⟩ h
   obtain⟨d,l,p,hlow⟩:=hmin;have m:d∈Region.ready .any ops L:=by
    have hok:ops[d]? =some ops[d]:=by simp[l]
    refine J3.2 ⟨l,p,ops[d],hok,?_⟩;intro e he hbe;have hlt:=back d _ hok e he hbe;rw[bridge L hs _ (by omega)];exact hlow _ hlt
   rw[hnil] at m;cases m
  ·intro i hi;obtain⟨g,b,o,ho,r⟩:=J3.1 hi;obtain⟨hlo,hst⟩:=hstep L i o (frOf a) w hs hc ho b r hI;refine zu (Kv:=fun v w'=>Inv (L.setIfInBounds i true) (updO (frOf a) o.dst v) w') (Kp:=fun _ _=>False) ho ha hst ?_ (fun _ _ h=>h.elim)
   intro v w' hK;refine ih _ _ _ ?_ (by simp[hs]) ?_ (ha.put _ _) (by rw[Kb ha _ hlo];exact hK)
   ·have:=zg hs g b;omega
   ·intro k hk hl o' ho' e he hb;rw[UK,UR];by_cases s:i=e.on
    ·subst s;simp[hs,g]
    ·simp only[s,if_false];rw[←UK];by_cases u:i=k
     ·subst u;rw[ho] at ho';cases ho';exact r e he hb
     ·rw[UK,UR] at hl;simp only[u,if_false] at hl;rw[←UK] at hl;exact hc k hk hl o' ho' e he hb
theorem To {id:Nat} (hm:P.follows .mixedOrders=true) (Inv:Array Bool→Wf.Fr→World→Prop) (back:∀(k:Nat) (o:Oper),ops[k]? =some o→∀e∈o.after,Region.binds .any e=true→e.on<k)
  (b:Inv (Array.replicate ops.size false) f0 w0.drew)
  (hstep:∀(L:Array Bool) (i:Nat) (o:Oper) (f:Wf.Fr) (w:World),L.size=ops.size→Yf ops L→ops[i]? =some o→L.getD i true=false→(∀e∈o.after,Region.binds .any e=true→L.getD e.on false=true)→Inv L f w→
   lo n o.dst∧OpSt P ops f o w (fun v w'=>Inv (L.setIfInBounds i true) (updO f o.dst v) w') (fun _ _=>False))
  (hfin:∀L f w,L.size=ops.size→(∀i,i<ops.size→L.getD i true=true)→Inv L f w→Q .normal f w):
  W fc P (Code.region id ops true) n D Q f0 w0:=by
 intro a ha hf;refine wpIn_region_any hm ?_;have hz:∀i,i<ops.size→(Array.replicate ops.size false).getD i true=false:=by
  intro i hi;simp[UK,hi]
 refine yJ Inv back hstep hfin ops.size _ a _ ?_ (by simp) ?_ ha (by rw[hf];exact b)
 ·unfold unl
  have:(List.range ops.size).countP (fun i=> !(Array.replicate ops.size false).getD i true)=(List.range ops.size).length:=by
   refine WI.2 ?_;intro i hi;simp[hz i (by simpa using hi)]
  rw[this];simp
 ·intro k hk hl;rw[hz k hk] at hl;cases hl
end
section
variable {fc:Fence} [Fw fc] {P:Program} {n:Nat} {D:List Deferred} {Q:Wf.Post} {f0:Wf.Fr} {w0:World}
def hasE(a:Array Edge)(k:Nat):Bool:=a.toList.any fun e=>Region.binds .any e&&Nat.beq e.on k
theorem uG{a:Array Edge}{k:Nat}(h:hasE a k=true):∃e∈a,Region.binds .any e=true∧e.on=k:=by
 unfold hasE at h;rw[List.any_eq_true] at h;obtain⟨e,d,b⟩:=h;rw[VJ] at b;exact⟨e,Array.mem_toList_iff.1 d,b.1,YT b.2⟩
def lowE(a:Array Edge)(k:Nat):Bool:=a.toList.all fun e=>Nat.blt e.on k
theorem zx{a:Array Edge}{k:Nat}(h:lowE a k=true){e:Edge}(he:e∈a):e.on<k:=by
 unfold lowE at h;exact UW (WD.1 h e (Array.mem_toList_iff.2 he))
theorem vh(f:Wf.Fr)(d:Nat)(v:Value):updO f (some d) v d=v:=by show Wf.upd f d v d=v;unfold Wf.upd;rw[if_pos rfl]
theorem Zk{f:Wf.Fr}{t d:Nat}(h:t≠d)(v:Value):updO f (some d) v t=f t:=by show Wf.upd f d v t=f t;unfold Wf.upd;rw[if_neg h]
theorem W.swapRem {id ty a b c d p q:Nat} {k:IntKind} {x y z:Int} {E F G H I J:String} {U V X Y Z t5 yt:TypeId} {N R T K M l:Array Edge}
  (hm:P.follows .mixedOrders=true)
  (hne:(Nat.beq a b||Nat.beq a c||Nat.beq a d||Nat.beq a p||Nat.beq a q||Nat.beq b c||Nat.beq b d||Nat.beq b p||Nat.beq b q||Nat.beq c d||Nat.beq c p||Nat.beq c q||Nat.beq d p||Nat.beq d q||Nat.beq p q)=false)
  (hlo:(Nat.blt a n&&Nat.blt b n&&Nat.blt c n&&Nat.blt d n&&Nat.blt p n&&Nat.blt q n)=true)
  (hlow:(lowE N 0&&lowE R 1&&lowE T 2&&lowE K 3&&lowE M 4&&lowE l 5)=true)
  (hed:(hasE K 1&&hasE K 2&&hasE M 0&&hasE M 1&&hasE l 0&&hasE l 2&&hasE l 3)=true)
  (hp:f0 p= .int k x) (hq:f0 q= .int k y) (hy:y≠0) (hz:x.tmod y=z)
  (h:∀f,Keep [a,b,c,d,p,q] f0 f→f p= .int k y→f q= .int k z→Q .normal f w0.drew):
  W fc P (Code.region id #[⟨some a,.move (.tmp q),U,E,N,none⟩,⟨some b,.move (.tmp p),V,F,R,none⟩,⟨some c,.move (.tmp q),X,G,T,none⟩,
   ⟨some d,.binOp .rem ty (.tmp b) (.tmp c) yt,Y,H,K,none⟩,⟨some p,.assign (.tmp a),Z,I,M,none⟩,⟨some q,.assign (.tmp d),t5,J,l,none⟩] true) n D Q f0 w0:=by
 have ne:∀i j,Nat.beq i j=false→i≠j:=fun i j hh e=>by subst e;simp at hh
 simp only[VO] at hne;obtain⟨⟨⟨⟨⟨⟨⟨⟨⟨⟨⟨⟨⟨⟨ab,ac⟩,ad⟩,ap⟩,aq⟩,bc⟩,bd⟩,bp⟩,bq⟩,cd⟩,cp⟩,cq⟩,dp⟩,dq⟩,pq⟩:=hne;replace ab:=ne _ _ ab;replace ac:=ne _ _ ac;replace ad:=ne _ _ ad;replace ap:=ne _ _ ap;replace aq:=ne _ _ aq;replace bc:=ne _ _ bc;replace bd:=ne _ _ bd;replace bp:=ne _ _ bp;replace bq:=ne _ _ bq;replace cd:=ne _ _ cd;replace cp:=ne _ _ cp;replace cq:=ne _ _ cq;replace dp:=ne _ _ dp;replace dq:=ne _ _ dq;replace pq:=ne _ _ pq;simp only[VJ] at hlo hlow hed;obtain⟨⟨⟨⟨⟨la,lb⟩,lc⟩,ld⟩,lp⟩,lq⟩:=hlo;obtain⟨⟨⟨⟨⟨w0e,w1e⟩,w2e⟩,w3e⟩,w4e⟩,w5e⟩:=hlow;obtain⟨⟨⟨⟨⟨⟨ae,af⟩,ag⟩,ah⟩,ai⟩,aj⟩,ak⟩:=hed;refine To hm (fun L f w=>w=w0.drew∧Keep [a,b,c,d,p,q] f0 f∧(L.getD 0 true=true→f a= .int k y)∧(L.getD 1 true=true→f b= .int k x)∧(L.getD 2 true=true→f c= .int k y)∧(L.getD 3 true=true→f d= .int k z)∧
  (L.getD 4 true=false→f p= .int k x)∧(L.getD 4 true=true→f p= .int k y)∧(L.getD 5 true=false→f q= .int k y)∧(L.getD 5 true=true→f q= .int k z)) ?_ ?_ ?_ ?_
 ·intro i o ho e he _
  match i,ho with
  |0,ho=>cases ho;exact zx w0e he
  |1,ho=>cases ho;exact zx w1e he
  |2,ho=>cases ho;exact zx w2e he
  |3,ho=>cases ho;exact zx w3e he
  |4,ho=>cases ho;exact zx w4e he
  |5,ho=>cases ho;exact zx w5e he
  |i+6,ho=>simp at ho
 ·refine⟨rfl,fun _ _=>rfl,?_,?_,?_,?_,fun _=>hp,?_,fun _=>hq,?_⟩<;>intro hh<;>simp at hh
 ·intro L i o f w hs hc ho hi hed hI;obtain⟨rfl,hK,r,s,A,B,C,i4',g,i5'⟩:=hI;have gs:∀u v:Nat,u<6→(L.setIfInBounds u true).getD v true=if u=v then true else L.getD v true:=by
   intro u v hu;have hs':L.size=6:=hs;rw[UK,UR];by_cases e:u=v
   ·subst e;simp[hs',hu]
   ·rw[if_neg e,if_neg e,UK]
  have tf:∀u:Nat,u<6→L.getD u false=L.getD u true:=by
   intro u hu;have hs':L.size=6:=hs;simp[UK,hs',hu]
  have dn:∀ {u:Nat} (ha:hasE o.after u=true),u<6→L.getD u true=true:=fun ha hu=>by
   obtain⟨e,he,hb,rfl⟩:=uG ha;rw[←tf _ hu];exact hed e he hb
  have nd:∀(m u:Nat) (o':Oper),m<6→u<6→(#[⟨some a,.move (.tmp q),U,E,N,none⟩,⟨some b,.move (.tmp p),V,F,R,none⟩,⟨some c,.move (.tmp q),X,G,T,none⟩,
   ⟨some d,.binOp .rem ty (.tmp b) (.tmp c) yt,Y,H,K,none⟩,⟨some p,.assign (.tmp a),Z,I,M,none⟩,⟨some q,.assign (.tmp d),t5,J,l,none⟩]:Array Oper)[m]? =some o'→hasE o'.after u=true→L.getD u true=false→L.getD m true=false:=by
   intro m u o' al hu ho' ha hf;cases am:L.getD m true with
   |false=>rfl
   |true=>
    obtain⟨e,he,hb,rfl⟩:=uG ha;have h9:=hc m al am o' ho' e he hb;rw[tf _ hu,hf] at h9;cases h9
  match i,ho,hi with
  |0,ho,hi=>
   cases ho;have hv:=g (nd 5 0 _ (by decide) (by decide) rfl ai hi);refine⟨UW la,R8 (RP ?_)⟩;refine⟨rfl,Keep.updO (by simp) hK,?_,?_,?_,?_,?_,?_,?_,?_⟩
   ·rw[gs 0 0 (by decide)];intro _;exact(vh _ _ _).trans hv
   ·rw[gs 0 1 (by decide)];intro hh;exact(Zk (UQ ab) _).trans (s (by simpa using hh))
   ·rw[gs 0 2 (by decide)];intro hh;exact(Zk (UQ ac) _).trans (A (by simpa using hh))
   ·rw[gs 0 3 (by decide)];intro hh;exact(Zk (UQ ad) _).trans (B (by simpa using hh))
   ·rw[gs 0 4 (by decide)];intro hh;exact(Zk (UQ ap) _).trans (C (by simpa using hh))
   ·rw[gs 0 4 (by decide)];intro hh;exact(Zk (UQ ap) _).trans (i4' (by simpa using hh))
   ·rw[gs 0 5 (by decide)];intro hh;exact(Zk (UQ aq) _).trans (g (by simpa using hh))
   ·rw[gs 0 5 (by decide)];intro hh;exact(Zk (UQ aq) _).trans (i5' (by simpa using hh))
  |1,ho,hi=>
   cases ho;have hv:=C (nd 4 1 _ (by decide) (by decide) rfl ah hi);refine⟨UW lb,R8 (RP ?_)⟩;refine⟨rfl,Keep.updO (by simp) hK,?_,?_,?_,?_,?_,?_,?_,?_⟩
   ·rw[gs 1 0 (by decide)];intro hh;exact(Zk ab _).trans (r (by simpa using hh))
   ·rw[gs 1 1 (by decide)];intro _;exact(vh _ _ _).trans hv
   ·rw[gs 1 2 (by decide)];intro hh;exact(Zk (UQ bc) _).trans (A (by simpa using hh))
   ·rw[gs 1 3 (by decide)];intro hh;exact(Zk (UQ bd) _).trans (B (by simpa using hh))
   ·rw[gs 1 4 (by decide)];intro hh;exact(Zk (UQ bp) _).trans (C (by simpa using hh))
   ·rw[gs 1 4 (by decide)];intro hh;exact(Zk (UQ bp) _).trans (i4' (by simpa using hh))
   ·rw[gs 1 5 (by decide)];intro hh;exact(Zk (UQ bq) _).trans (g (by simpa using hh))
   ·rw[gs 1 5 (by decide)];intro hh;exact(Zk (UQ bq) _).trans (i5' (by simpa using hh))
  |2,ho,hi=>
   cases ho;have hv:=g (nd 5 2 _ (by decide) (by decide) rfl aj hi);refine⟨UW lc,R8 (RP ?_)⟩;refine⟨rfl,Keep.updO (by simp) hK,?_,?_,?_,?_,?_,?_,?_,?_⟩
   ·rw[gs 2 0 (by decide)];intro hh;exact(Zk ac _).trans (r (by simpa using hh))
   ·rw[gs 2 1 (by decide)];intro hh;exact(Zk bc _).trans (s (by simpa using hh))
   ·rw[gs 2 2 (by decide)];intro _;exact(vh _ _ _).trans hv
   ·rw[gs 2 3 (by decide)];intro hh;exact(Zk (UQ cd) _).trans (B (by simpa using hh))
   ·rw[gs 2 4 (by decide)];intro hh;exact(Zk (UQ cp) _).trans (C (by simpa using hh))
   ·rw[gs 2 4 (by decide)];intro hh;exact(Zk (UQ cp) _).trans (i4' (by simpa using hh))
   ·rw[gs 2 5 (by decide)];intro hh;exact(Zk (UQ cq) _).trans (g (by simpa using hh))
   ·rw[gs 2 5 (by decide)];intro hh;exact(Zk (UQ cq) _).trans (i5' (by simpa using hh))
  |3,ho,hi=>
   cases ho;have hb:=s (dn ae (by decide));have ao:=A (dn af (by decide));refine⟨UW ld,R8 (Sz hb ao hy hz ?_)⟩;refine⟨rfl,Keep.updO (by simp) hK,?_,?_,?_,?_,?_,?_,?_,?_⟩
   ·rw[gs 3 0 (by decide)];intro hh;exact(Zk ad _).trans (r (by simpa using hh))
   ·rw[gs 3 1 (by decide)];intro hh;exact(Zk bd _).trans (s (by simpa using hh))
   ·rw[gs 3 2 (by decide)];intro hh;exact(Zk cd _).trans (A (by simpa using hh))
   ·rw[gs 3 3 (by decide)];intro _;exact(vh _ _ _).trans rfl
   ·rw[gs 3 4 (by decide)];intro hh;exact(Zk (UQ dp) _).trans (C (by simpa using hh))
   ·rw[gs 3 4 (by decide)];intro hh;exact(Zk (UQ dp) _).trans (i4' (by simpa using hh))
   ·rw[gs 3 5 (by decide)];intro hh;exact(Zk (UQ dq) _).trans (g (by simpa using hh))
   ·rw[gs 3 5 (by decide)];intro hh;exact(Zk (UQ dq) _).trans (i5' (by simpa using hh))
  |4,ho,hi=>
   cases ho;have hv:=r (dn ag (by decide));refine⟨UW lp,R8 (St.assign ?_)⟩;refine⟨rfl,Keep.updO (by simp) hK,?_,?_,?_,?_,?_,?_,?_,?_⟩
   ·rw[gs 4 0 (by decide)];intro hh;exact(Zk ap _).trans (r (by simpa using hh))
   ·rw[gs 4 1 (by decide)];intro hh;exact(Zk bp _).trans (s (by simpa using hh))
   ·rw[gs 4 2 (by decide)];intro hh;exact(Zk cp _).trans (A (by simpa using hh))
   ·rw[gs 4 3 (by decide)];intro hh;exact(Zk dp _).trans (B (by simpa using hh))
   ·rw[gs 4 4 (by decide)];intro hh;simp at hh
   ·rw[gs 4 4 (by decide)];intro _;exact(vh _ _ _).trans hv
   ·rw[gs 4 5 (by decide)];intro hh;exact(Zk (UQ pq) _).trans (g (by simpa using hh))
   ·rw[gs 4 5 (by decide)];intro hh;exact(Zk (UQ pq) _).trans (i5' (by simpa using hh))
  |5,ho,hi=>
   cases ho;have hv:=B (dn ak (by decide));refine⟨UW lq,R8 (St.assign ?_)⟩;refine⟨rfl,Keep.updO (by simp) hK,?_,?_,?_,?_,?_,?_,?_,?_⟩
   ·rw[gs 5 0 (by decide)];intro hh;exact(Zk aq _).trans (r (by simpa using hh))
   ·rw[gs 5 1 (by decide)];intro hh;exact(Zk bq _).trans (s (by simpa using hh))
   ·rw[gs 5 2 (by decide)];intro hh;exact(Zk cq _).trans (A (by simpa using hh))
   ·rw[gs 5 3 (by decide)];intro hh;exact(Zk dq _).trans (B (by simpa using hh))
   ·rw[gs 5 4 (by decide)];intro hh;exact(Zk pq _).trans (C (by simpa using hh))
   ·rw[gs 5 4 (by decide)];intro hh;exact(Zk pq _).trans (i4' (by simpa using hh))
   ·rw[gs 5 5 (by decide)];intro hh;simp at hh
   ·rw[gs 5 5 (by decide)];intro _;exact(vh _ _ _).trans hv
  |i+6,ho,hi=>simp at ho
 ·intro L f w hs hall hI;obtain⟨rfl,hK,_,_,_,_,_,i4',_,i5'⟩:=hI;exact h f hK (i4' (hall 4 (by simp))) (i5' (hall 5 (by simp)))
end
end Go.Ev
namespace Go.Wf
open Go Go.Proofs Go.RowKit
theorem jb{X:Nat→Prop}{w:World}(hX:XB X w){h:Value}{a:GInt}(H:RV Jo X w h a){i:Value}{b:GInt}(I:RV Jo X w i b)(hla:a.mag.length≤274877906944)(hlb:b.mag.length≤274877906944)(J:val b.mag≠0)(hd:a.toZ%b.toZ=0):CRt 145 #[h,i] w fun v w'=>(∃h i,v= .tuple #[h,i]∧(RV Jo X w' h (ofZ (a.toZ/b.toZ)))∧(i=(.int .i64 0))):=by
 obtain⟨K,L,rfl,j⟩:=RV.int H;obtain⟨M,c5,rfl,k⟩:=RV.int I;have C:=Cx.start hX;have sa:=H.int_small;have sb:=I.int_small;have am:(ofZ<|a.toZ%b.toZ).mag.length=0:=by rw[hd];rfl
 refine Cgo Tryz.func145 rfl rfl rfl (Rg<|Ol<|R9 C rfl ?_);intro g7 w8 x9 an aj N A l;have j:=j.sp A;have k:=k.sp A;refine Ol (R9 N rfl ?_);intro ao aq ar au ak P m n;refine Ol (RR P io40 rfl ?_);intro av aw ax ay al B f d;have j:=(j.sp m).sp f;have k:=(k.sp m).sp f;have l:=(l.spn m).spn f;have n:=n.spn f;refine Oa (Nl<|Rg<|Ol<|Uo (vs:=(zzC a K L)) l ag40<|Ol<|Uo (vs:=(zzC b M c5)) n ag40<|Ol<|RH B cb58 rfl rfl (Q3 B.bd (a:=a) (Je j) (b:=b) (Je k) hla hlb J) ?_);intro az aA Q R T;have d:=d.spn R;obtain⟨aB,aD,aE,rfl,U,V,rfl⟩:=T;obtain⟨o,p,rfl,e⟩:=RV.int U;obtain⟨Y,Z,rfl,aF⟩:=RV.int V;refine Om (Ol<|St.extract rfl rfl<|Ol<|St.extract rfl rfl<|Ol<|St.extract rfl rfl<|Ol<|RR Q io40 rfl ?_);intro aG aH aI aJ G aa D g;have ab:=G _ d.blk.lt;have e:=e.sp D;have d:=d.spn D;refine Ol (RR aa io40 rfl ?_);intro aK aL aM aO r ac s u;have ad:=r _ d.blk.lt;have E:=r _ g.blk.lt;have d:=d.spn s;have g:=g.spn s;refine On (Us (cs':=(zzC (ofZ<|a.toZ/b.toZ) o p)) ac g io40 ?_);intro aP ae x y;have e:=(e.sp s).sp x;have u:=u.spo x (UQ E);refine On (Us (cs':=(zzC (ofZ<|a.toZ%b.toZ) Y Z)) ae u io40 ?_);intro aQ af z ag;have d:=(d.spo x ab).spo z ad;have y:=y.spo z E;refine Oa (Nl<|Rh<|Ub<|SK (t:=false) rfl rfl (by rw[decide_eq_true rfl];rfl)<|Nl<|Uc<|Rh<|Ol<|RI J4 rfl<|Ol<|RN ag pl38 rfl rfl<|Ol<|St.len sl38 rfl<|Ol<|SM (t:=false) rfl rfl (decide_eq_false (by omega))<|Nl ?_);refine RO rfl (RT<|Rg<|Ol<|Uo (vs:=(zzC (ofZ<|a.toZ/b.toZ) o p)) y ag40<|On<|Us (cs':=(zzC (ofZ<|a.toZ/b.toZ) o p)) af d io40 ?_);intro aR F ah ai;have e:=(e.sp z).sp ah;refine Oa (Nl<|RY<|Z4 rfl (TL ai rfl ag40 rfl) (resV.t rfl)<|RM ?_ F.below);refine⟨_,_,rfl,?_,?_⟩
 ·exact TM (a:=(ofZ<|a.toZ/b.toZ)) ((Je e).tr (Tr.weak F.base)) rfl
 ·skip
  rfl
theorem Ai{X:Nat→Prop}{w:World}(hX:XB X w){v0:Value}{a:List Nat}(r0:RS Jd X w v0 a){v1:Value}{b:List Nat}(r1:RS Jd X w v1 b)(ha:trim a=a)(hb:trim b=b)(hla:a.length≤549755813888)(hlb:b.length≤549755813888):CRt 86 #[v0,v1] w fun v w'=>RS Jd X w' v (digs (Nat.gcd (val a) (val b))):=by
 obtain⟨a1,c2,rfl,_,_⟩:=r0.len;obtain⟨a3,c4,rfl,_,_⟩:=r1.len;have C:=Cx.start hX;refine Cgo Tryz.func86 rfl rfl rfl (Rg<|Ua<|RZ<|W.block<|Sc (fun μ f v=>∃(x y:Nat→Prop) (p:Option Addr) (pc:Nat) (q:Option Addr) (qc:Nat) (A:List Nat) (B:List Nat),Cx X w x y v∧f 0=(.slice p A.length pc)∧f 1=(.slice q B.length qc)∧RS Jd x v (.slice p A.length pc) A∧RS Jd x v (.slice q B.length qc) B∧trim A=A∧trim B=B∧A.length≤549755813888∧B.length≤549755813888∧Nat.gcd (val A) (val B)=Nat.gcd (val a) (val b)∧μ=(val B)) _ ⟨_,_,a1,c2,a3,c4,a,b,C,rfl,rfl,r0,r1,ha,hb,hla,hlb,rfl,rfl⟩ ?_);rintro aR f5 w6 ⟨x7,y8,p,pc,q,qc,A,B,d,k,l,hA,hB,hAt,hBt,hlA,hlB,hg,aL⟩;obtain⟨aS,rfl⟩:=rebK (aC k<|aC l aN);clear k l;have sA:=hA.u32_small;have sB:=hB.u32_small;refine Rh<|Ub<|St.len sl38 rfl<|Ol<|Sx rfl rfl (fun e=>?_)<|fun e=>?_
 ·refine Nl<|Ud<|RT<|W.block<|Rh<|Ub<|St.len sl38 rfl<|Ol<|SJ rfl rfl (fun ad=>?_)<|fun ad=>?_
  ·refine Om<|OgD<|RP<|OgD<|St.len sl38 rfl<|OgD<|SJ rfl rfl (fun ae=>?_)<|fun ae=>?_
   ·refine OT (Nl<|Uf<|Ub<|RH d sQ rfl rfl (kX d.bd hA (by omega)) ?_);intro aT aU m o ar;have hB:=hB.sp o;subst ar;refine Om (Ol<|RH m sQ rfl rfl (kX m.bd hB (by omega)) ?_);intro aV aW au r av;have hA:=(hA.sp o).sp r;have hB:=hB.sp r;subst av;refine Oa (Ua<|RZ<|W.block<|Sc (fun μ f v=>∃(x y:Nat→Prop) (xx:Nat) (yy:Nat),Cx X w x y v∧f 0=(.slice p A.length pc)∧f 1=(.slice q B.length qc)∧f 9=(.slice q B.length qc)∧f 10=(.int .i64 ((B.length:Nat):Int))∧f 11=(.bool true)∧f 12=(.slice p A.length pc)∧f 13=(.int .i64 ((A.length:Nat):Int))∧f 14=(.bool true)∧f 15=(.bool true)∧f 16=(.slice q B.length qc)∧f 17=(.int .i64 ((B.length:Nat):Int))∧f 18=(.bool true)∧f 19=(.bool true)∧f 20=(.slice p A.length pc)∧f 21=(.int .u64 (((val A):Nat):Int))∧f 22=(.slice q B.length qc)∧f 23=(.int .u64 (((val B):Nat):Int))∧f 5=(.int .u64 ((xx:Nat):Int))∧f 6=(.int .u64 ((yy:Nat):Int))∧RS Jd x v (.slice p A.length pc) A∧RS Jd x v (.slice q B.length qc) B∧xx<18446744073709551616∧yy<18446744073709551616∧Nat.gcd xx yy=Nat.gcd (val a) (val b)∧μ=yy) _ ⟨_,_,(val A),(val B),au,rfl,rfl,rfl,rfl,rfl,rfl,rfl,rfl,rfl,rfl,rfl,rfl,rfl,rfl,rfl,rfl,rfl,rfl,rfl,hA,hB,(Y5 sA (by omega)),(Y5 sB (by omega)),hg,rfl⟩ ?_);rintro aX aY aZ ⟨a0,a2,xx,yy,h,s,u,z,D,E,F,G,H,I,J,K,L,M,N,P,Q,R,T,U,hA,hB,hx,hy,hxy,aM⟩;obtain⟨a4,rfl⟩:=rebK (aC s<|aC u<|aC z<|aC D<|aC E<|aC F<|aC G<|aC H<|aC I<|aC J<|aC K<|aC L<|aC M<|aC N<|aC P<|aC Q<|aC R<|aC T<|aC U aN);clear s u z D E F G H I J K L M N P Q R T U;refine Rh<|Ub<|SA rfl rfl (fun af=>?_)<|fun af=>?_
    ·refine Nl (Ud<|RT<|W.block<|Go.Ev.W.swapRem mixed rfl rfl (by kernel_rfl) (by kernel_rfl) rfl rfl (by omega) (Qe xx yy) ?_);intro aw g ag ah;have V:=SS h;have ax:=V.cx;have Y:=V.sp;have hA:=hA.sp Y;have hB:=hB.sp Y;have g:Keep [26,27,28,29,5,6] _ aw:=g;obtain⟨a5,rfl⟩:=mixK g (aC ag<|aC ah aN);refine⟨_,(by have:=UI xx (show 0<yy by omega);omega),_,_,yy,xx%yy,ax,rfl,rfl,rfl,rfl,rfl,rfl,rfl,rfl,rfl,rfl,rfl,rfl,rfl,rfl,rfl,rfl,rfl,rfl,rfl,hA,hB,hy,(by have:=UI xx (show 0<yy by omega);omega),(by rw[qi,hxy]),rfl⟩
    refine Nl (Ue<|Sf<|Rg<|Ub<|RH h cb85 rfl rfl (kq h.bd (n:=xx) hx) ?_);intro a6 a7 Z a8 aa;obtain⟨a9,ba,rfl,_,_⟩:=aa.len;exact Ua<|RY<|Wq rfl rfl Z<|TP ((aa:RS _ _ _ _ _).tr (Tr.weak Z.base))<|(by rw[←hxy,show yy=0 by omega,Nat.gcd_zero_right])
   refine OT (Nl<|Uc<|RZ ?_);have hBn:B≠[]:=by rintro rfl;simp at e
   have hBp:0<val B:=UB (ZS (by decide)) (Xm hBt hBn);refine RK (Om<|Ub<|RH d cb98 rfl rfl (jP d.bd hA hB hAt hBt hBn hlA hlB) ?_);intro bb be ay az aA;have hB:=hB.sp az;obtain⟨bf,bg,rfl,aB,ab⟩:=aA;obtain⟨bh,bi,rfl,_,_⟩:=aB.len;obtain⟨aD,aE,rfl,_,_⟩:=ab.len;refine Ub<|St.extract rfl rfl<|Ol<|St.extract rfl rfl<|Oa<|Ua<|RK<|Om<|Om<|Oa<|Ua<|⟨_,(by rw[Jw];have:=UI (val A) hBp;omega),_,_,q,qc,aD,aE,B,(digs<|val A%val B),ay,rfl,rfl,hB,ab,hBt,(Z9 _),hlB,(UC (Q2 sB hBp) hlB),(by rw[Jw,qi,hg]),rfl⟩
  refine Om (Oz<|Oz<|Oz<|OF<|Nl<|Uc<|RZ ?_);have hBn:B≠[]:=by rintro rfl;simp at e
  have hBp:0<val B:=UB (ZS (by decide)) (Xm hBt hBn);refine RK (Om<|Ub<|RH d cb98 rfl rfl (jP d.bd hA hB hAt hBt hBn hlA hlB) ?_);intro bj bk aF aG aH;have hB:=hB.sp aG;obtain⟨bl,bm,rfl,aI,ac⟩:=aH;obtain⟨bn,bo,rfl,_,_⟩:=aI.len;obtain⟨aJ,aK,rfl,_,_⟩:=ac.len;refine Ub<|St.extract rfl rfl<|Ol<|St.extract rfl rfl<|Oa<|Ua<|RK<|Om<|Om<|Oa<|Ua<|⟨_,(by rw[Jw];have:=UI (val A) hBp;omega),_,_,q,qc,aJ,aK,B,(digs<|val A%val B),aF,rfl,rfl,hB,ac,hBt,(Z9 _),hlB,(UC (Q2 sB hBp) hlB),(by rw[Jw,qi,hg]),rfl⟩
 refine Nl (Ue<|Sf<|Rg<|Ub<|RH d uP rfl rfl (jz d.bd hA (by omega)) ?_);intro bp bq i aO j;obtain⟨aP,aQ,rfl,_,_⟩:=j.len;exact Ua<|RY<|Wq rfl rfl i<|TP ((j:RS _ _ _ _ _).tr (Tr.weak i.base))<|(by rw[←hg,show val B=0 by rw[UT (show B.length=0 by omega)];rfl,Nat.gcd_zero_right];exact uL hAt sA)
theorem vD{X:Nat→Prop}{w:World}(hX:XB X w){B:Value}{a:GInt}(D:RV Jo X w B a){E:Value}{b:GInt}(F:RV Jo X w E b)(hla:a.mag.length≤549755813888)(hlb:b.mag.length≤549755813888):CRt 45 #[B,E] w fun v w'=>RV Jo X w' v (ofZ (Int.gcd a.toZ b.toZ:Int)):=by
 obtain⟨G,H,rfl,l⟩:=RV.int D;obtain⟨I,c5,rfl,m⟩:=RV.int F;have C:=Cx.start hX;have sa:=D.int_small;have sb:=F.int_small;have tla:=Jr a.mag;have tlb:=Jr b.mag;have gl:=EO (J5 sa) (J5 sb);refine Cgo Tryz.func45 rfl rfl rfl (Rg<|Ol<|R9 C rfl ?_);intro g7 w8 x9 aq am J r f;refine Ol (R9 J rfl ?_);intro K ar au av an L n o;have l:=(l.sp r).sp n;have m:=(m.sp r).sp n;have f:=f.spn n;refine Ol (RR L io40 rfl ?_);intro aw ax ay az ao M k g;refine Nl<|RZ<|Sg mixed 5 [[],[0],[1],[],[3]] M [fx<|.pointer (some ⟨g7,1,none⟩),fx<|.slice G a.mag.length H,fs Jd<|trim a.mag,fx<|.pointer (some ⟨K,1,none⟩),fx<|.slice I b.mag.length c5] (by kernel_rfl) ⟨sx,sx,ss,sx,sx,trivial⟩ fun N h aA ⟨d,i⟩ e=>?_
 have l:=(l.sp k).sp i;have m:=(m.sp k).sp i;have f:=(f.spn k).spn i;have o:=(o.spn k).spn i;have e:Keep [5,6,7,8,9] _ N:=e;refine⟨⟨fun _=>?_,fun⟨P,_⟩=>?_,fun⟨Q,_⟩=>?_,fun _=>?_,fun⟨R,_⟩=>?_,trivial⟩,fun⟨T,U,j,V,Y,_⟩=>?_⟩
 ·exact Sd0 e fun _=>RI J4 rfl ⟨h,RJ d,rfl⟩
 ·exact Sd1 e P fun _=>RN f pl38 rfl rfl ⟨h,RJ d,rfl⟩
 ·refine Sd1 e Q fun _=>RH d cb87 rfl rfl (Zg d.bd l (by omega)) ?_;intro aB aD Z aa ab;exact⟨h,⟨Z,aa⟩,ab⟩
 ·exact Sd0 e fun _=>RI J4 rfl ⟨h,RJ d,rfl⟩
 ·exact Sd1 e R fun _=>RN o pl38 rfl rfl ⟨h,RJ d,rfl⟩
 obtain⟨aE,aF,ac,j⟩:=TQ j;obtain⟨aG,rfl⟩:=mixK e (aC T<|aC U<|aC ac<|aC V<|aC Y aN);refine Ol (RH d cb87 rfl rfl (Zg d.bd m (by omega)) ?_);intro aH aI s u x;have j:=j.sp u;have g:=(g.spn i).spn u;obtain⟨aJ,aK,rfl,_,_⟩:=x.len;refine Ol (RH s cb86 rfl rfl (Ai s.bd j x (Ks sa) (Ks sb) (by omega) (by omega)) ?_);intro aL aM y ad z;obtain⟨aO,aP,rfl,_,_⟩:=z.len;refine Ol (RH y cb84 rfl rfl (Z8 y.bd z (by omega)) ?_);intro aQ aR ae af ag;have g:=(g.spn ad).spn af;obtain⟨ah,ai,rfl,p⟩:=RV.int ag;refine On (Us (cs':=(zzC (mkSg false<|digs<|Nat.gcd (val<|trim a.mag)<|val<|trim b.mag) ah ai)) ae g io40 ?_);intro aS A aj ak;have p:=p.sp aj;refine Nl (RY<|J0 rfl (TL ak rfl ag40 rfl)<|RM ?_ A.below);exact TM (a:=(mkSg false<|digs<|Nat.gcd (val<|trim a.mag)<|val<|trim b.mag)) ((Je p).tr (Tr.weak A.base)) (by exact Yg (Zv _) (by rw[Jw,Z1,Z1,←Yu,←Yu];rfl))
theorem xv{X:Nat→Prop}{w:World}(hX:XB X w){n:Int}(hlo: -9223372036854775808≤n)(hhi:n≤9223372036854775807):CRt 44 #[(.int .i64 n)] w fun v w'=>RV Jo X w' v (ofZ n):=by
 have C:=Cx.start hX;have K:(digs n.natAbs).length≤2:=Jt (by omega);refine Cgo Tryz.func44 rfl rfl rfl (Rg<|Ol<|RR C io40 rfl ?_);intro g1 w2 x3 y4 L f s7 b;refine Nl<|Rh<|Ub<|Sb rfl rfl (fun m=>?_)<|fun m=>?_
 ·refine Nl (Uf<|Ub<|R2 (z:=(n+18446744073709551616)) us3 un97 rfl (by rw[IntKind.wrap_u64];omega)<|Ol<|St.neg (z:=((n.natAbs:Nat):Int)) rfl (by rw[IntKind.wrap_u64];omega)<|Ol<|RH f cb85 rfl rfl (kq f.bd (n:=n.natAbs) (by omega)) ?_);intro M N g o h;obtain⟨P,Q,rfl,_,_⟩:=h.len;refine Ol (RH g cb84 rfl rfl (Z8 g.bd h (by omega)) ?_);intro R T p r s;have b:=(b.spn o).spn r;obtain⟨u,x,rfl,d⟩:=RV.int s;refine On (Us (cs':=(zzC (mkSg true<|digs n.natAbs) u x)) p b io40 ?_);intro U i y A;have d:=d.sp y;refine Nl (RY<|J0 rfl (TL A rfl ag40 rfl)<|RM ?_ i.below);exact TM (a:=(mkSg true<|digs n.natAbs)) ((Je d).tr (Tr.weak i.base)) (by exact Yg (Zv _) (by rw[Jw];simp[Jh];omega))
 refine Nl (Uc<|Rg<|Ub<|R2 (z:=((n.natAbs:Nat):Int)) us3 un97 rfl (by rw[IntKind.wrap_u64];omega)<|Ol<|RH f cb85 rfl rfl (kq f.bd (n:=n.natAbs) (by omega)) ?_);intro V Y j B k;obtain⟨Z,aa,rfl,_,_⟩:=k.len;refine Ol (RH j cb84 rfl rfl (Z8 j.bd k (by omega)) ?_);intro ab ac D E F;have b:=(b.spn B).spn E;obtain⟨G,H,rfl,e⟩:=RV.int F;refine On (Us (cs':=(zzC (mkSg false<|digs n.natAbs) G H)) D b io40 ?_);intro ad l I J;have e:=e.sp I;refine Nl (RY<|J0 rfl (TL J rfl ag40 rfl)<|RM ?_ l.below);exact TM (a:=(mkSg false<|digs n.natAbs)) ((Je e).tr (Tr.weak l.base)) (by exact Yg (Zv _) (by rw[Jw];simp[Jh];omega))
end Go.Wf
namespace Go.Wf
open Go
theorem m7:ofZ 1=⟨false,[1]⟩:=by
 unfold ofZ;rw[show(1:Int).natAbs=1 from rfl,iQ (by decide) (by decide)];rfl
theorem Do{m:List Nat}(h:((m.length:Nat):Int)=1):m=[m.getD 0 0]:=by
 match m,h with
 |[d],_=>rfl
 |[],h=>simp at h
 |_::_::_,h=>simp at h;omega
theorem MW{a:GInt}(d:((a.mag.length:Nat):Int)=1)(b:((a.mag.getD 0 0:Nat):Int)=1):(!a.neg)=decide (a=ofZ 1):=by
 have e:=Do d;have b:a.mag.getD 0 0=1:=by omega
 rw[b] at e;obtain⟨n,m⟩:=a;have e:m=[1]:=e;subst e;rw[m7];cases n<;>simp
theorem KO{a:GInt}(b:¬((a.mag.getD 0 0:Nat):Int)=1):false=decide (a=ofZ 1):=by
 refine(decide_eq_false fun e=>b ?_).symm
 rw[e,m7];rfl
theorem JO{a:GInt}(b:¬((a.mag.length:Nat):Int)=1):false=decide (a=ofZ 1):=by
 refine(decide_eq_false fun e=>b ?_).symm
 rw[e,m7];rfl
theorem Yr{z:Int}:ofZ z=ofZ 1↔z=1:=⟨fun h=>u9 h,fun h=>by rw[h]⟩
theorem Jv{a:GInt}(sa:Jp a.mag):(ofZ a.toZ).mag.length≤a.mag.length:=by
 rw[Xg,Yu];exact Jt (Zo _ sa)
theorem Z5(z:Int):(ofZ (-z)).mag=(ofZ z).mag:=by rw[Xg,Xg,Int.natAbs_neg]
theorem Xt{a b:Nat}(h:a≤b):(digs a).length≤(digs b).length:=Jt (U7 h (Vv b))
theorem jO{y z:Int}(h:y.natAbs≤z.natAbs):(ofZ y).mag.length≤(ofZ z).mag.length:=Xt h
theorem Zc{z:Int}:(ofZ z).mag.length=0↔z=0:=by
 rw[Xg,W3,Qv,Wp]
theorem Ke(z:Int):val (ofZ z).mag=z.natAbs:=Jw _
theorem nn{n d:Int}(hd:d≠0):(ofZ (Int.gcd n d:Int)).mag.length≤(ofZ d).mag.length:=
 jO (by
  have:Int.gcd n d∣d.natAbs:=Nat.gcd_dvd_right _ _
  have a:=Nat.le_of_dvd (by omega) this;simpa using a)
theorem CZ{n d:Int}(hd:d≠0):((Int.gcd n d:Nat):Int)≠0:=by
 have:=Int.gcd_pos_of_ne_zero_right n hd
 omega
theorem kQ(n d:Int):n%((Int.gcd n d:Nat):Int)=0:=VV (Int.gcd_dvd_left _ _)
theorem lB(n d:Int):d%((Int.gcd n d:Nat):Int)=0:=VV (VZ _ _)
theorem lz{n d:Int}(h:d=0∨n=0):(⟨⟨false,[]⟩,ofZ 1⟩:GRat)=ofQ (Rat.divInt n d):=by
 rcases h with rfl|rfl
 ·exact(l9 n).symm
 ·exact(li d).symm
theorem Kx{n d:Int}(h:d=1):(⟨ofZ n,ofZ d⟩:GRat)=ofQ (Rat.divInt n d):=(DX h).symm
theorem j9{n d:Int}(hd:0<d)(h:((Int.gcd n d:Nat):Int)=1):(⟨ofZ n,ofZ d⟩:GRat)=ofQ (Rat.divInt n d):=(mZ hd (by omega)).symm
theorem yq{n d:Int}(hd:0<d):(⟨ofZ (n/((Int.gcd n d:Nat):Int)),ofZ (d/((Int.gcd n d:Nat):Int))⟩:GRat)=ofQ (Rat.divInt n d):=(nN hd).symm
theorem yw(n d:Int):Rat.divInt (-n) (-d)=Rat.divInt n d:=Rat.neg_divInt_neg n d
end Go.Wf
