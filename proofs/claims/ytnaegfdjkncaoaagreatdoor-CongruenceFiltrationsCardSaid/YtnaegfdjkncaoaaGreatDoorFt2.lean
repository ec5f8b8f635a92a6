/- Part 2 of the texts for the claim. -/
import Derived.Test.YtnaegfdjkncaoaaGreatDoorFt1
set_option linter.unusedVariables false
set_option linter.unusedSimpArgs false
set_option maxRecDepth 100000
set_option maxHeartbeats 4000000
noncomputable section
namespace Go.Wf
open Go
abbrev Fr:=Nat→Value
def fe(f:Fr):Operand→Value
 |.tmp t=>f t
 |.const v=>v
 |.global g=> .pointer (some ⟨g,0,none⟩)
 |.func k=> .func (.func k) #[] #[]
def upd(f:Fr)(d:Nat)(v:Value):Fr:=fun t=>if t=d then v else f t
def updO(f:Fr)(o:Option Tmp)(v:Value):Fr:=match o with|some d=>upd f d v|none=>f
def frOf(a:Act):Fr:=fun t=>a.tmps.getD t undef
def lo(n:Nat)(o:Option Tmp):Prop:=match o with|some d=>d<n|none=>True
structure Good (n:Nat) (D:List Deferred) (a:Act):Prop where
 size:a.tmps.size=n
 defers:a.defers=D
theorem nT(a:Act):a.eval=fe (frOf a):=by
 funext x;cases x<;>rfl
theorem Kb{n:Nat}{D:List Deferred}{a:Act}(h:Good n D a)(o:Option Tmp)(ho:lo n o)(v:Value):frOf (a.put o v)=updO (frOf a) o v:=by
 cases o with
 |none=>rfl
 |some d=>
  have hd:d<a.tmps.size:=by rw[h.size];exact ho
  funext t
  simp only[frOf,Act.put,updO,upd,UK,UR];by_cases e:t=d
  ·subst e;simp[hd]
  ·have e':¬d=t:=fun h=>e h.symm;simp[e,e']
theorem Good.put{n:Nat}{D:List Deferred}{a:Act}(h:Good n D a)(o:Option Tmp)(v:Value):Good n D (a.put o v):=by
 cases o with
 |none=>exact h
 |some d=>exact⟨by simp[Act.put,h.size],h.defers⟩
abbrev Post:=Exit→Fr→World→Prop
class Fw (fc:Fence):Prop where
 fn:∀f,fc.fn f
 depth:fc.depth=none
 calls:∀ {n:Nat} {P:Program} {f:FuncId} {args:Array Value} {w:World} {R:Ending→World→Prop},Calls P f args w R→CallsIn fc n P f args w R
 round:∀ {n:Nat} {P:Program} {l:Nat} {f:FuncId} {tmps:Array Value} {a b:Code} {w:World} {R:Ending→World→Prop},RoundIn Fence.wide n P l f tmps a b w R→RoundIn fc n P l f tmps a b w R
instance:Fw Fence.wide:=⟨fun _=>trivial,rfl,fun h=>callsIn_wide.2 h,fun h=>h⟩
instance (l:Nat):Fw (Fence.wide.inRound l):=⟨fun _=>trivial,rfl,fun h=>(callsIn_wide.2 h:CallsIn Fence.wide _ _ _ _ _ _),fun h=>h⟩
def W(fc:Fence)(P:Program)(c:Code)(n:Nat)(D:List Deferred)(Q:Post)(f:Fr)(w:World):Prop:=
 ∀a,Good n D a→frOf a=f→c.wpIn fc 0 P (fun e a' w'=>Good n D a'∧Q e (frOf a') w') a w
theorem W.wide{P:Program}{c:Code}{n:Nat}{D:List Deferred}{Q:Post}{f:Fr}{w:World}(h:W Fence.wide P c n D Q f w){a:Act}(ha:Good n D a)(hf:frOf a=f):c.wp P (fun e a' w'=>Good n D a'∧Q e (frOf a') w') a w:=wpIn_wide.1 (h a ha hf)
def xw(K:Fr→World→Prop)(Q:Post):Post
 |.normal,f,w=>K f w
 |e,f,w=>Q e f w
def Db(id:Nat)(Q:Post):Post
 |.exit id',f,w=>if id'=id then Q .normal f w else Q (.exit id') f w
 |e,f,w=>Q e f w
section
variable {fc:Fence} {P:Program} {n:Nat} {D:List Deferred} {Q:Post} {f:Fr} {w:World}
theorem W.mono{c:Code}{Q':Post}(h:W fc P c n D Q f w)(hq:∀e f w,Q e f w→Q' e f w):W fc P c n D Q' f w:=
 fun a ha hf=>wpIn_mono (h a ha hf) fun _ _ _ ⟨g,q⟩=>⟨g,hq _ _ _ q⟩
theorem RZ{x y:Code}(h:W fc P x n D (xw (W fc P y n D Q) Q) f w):W fc P (Code.seq x y) n D Q f w:=by
 intro a ha hf;refine wpIn_seq (wpIn_mono (h a ha hf) ?_);rintro e a' w' ⟨g,q⟩;cases e with
 |normal=>exact q a' g rfl
 |exit id=>exact⟨g,q⟩
 |goto l=>exact⟨g,q⟩
 |ret=>exact⟨g,q⟩
 |panic ch=>exact⟨g,q⟩
 |outgrown=>exact⟨g,q⟩
theorem RT(h:Q .normal f w):W fc P Code.skip n D Q f w:=fun a ha hf=>wpIn_skip ⟨ha,by rw[hf];exact h⟩
theorem RY(h:Q .ret f w):W fc P Code.ret n D Q f w:=fun a ha hf=>wpIn_ret ⟨ha,by rw[hf];exact h⟩
theorem Sf{id:Nat}(h:Q (.exit id) f w):W fc P (Code.exit id) n D Q f w:=fun a ha hf=>wpIn_exit ⟨ha,by rw[hf];exact h⟩
theorem W.block{id:Nat}{c:Code}(h:W fc P c n D (Db id Q) f w):W fc P (Code.block id c) n D Q f w:=by
 intro a ha hf;refine wpIn_block (wpIn_mono (h a ha hf) ?_);rintro e a' w' ⟨g,q⟩;cases e with
 |exit id'=>
  simp only[Db] at q;simp only[Exit.inBlock];split at q<;>rename_i hid
  ·simp only[hid,if_true];exact⟨g,q⟩
  ·simp only[hid,if_false];exact⟨g,q⟩
 |normal=>exact⟨g,q⟩
 |goto l=>exact⟨g,q⟩
 |ret=>exact⟨g,q⟩
 |panic ch=>exact⟨g,q⟩
 |outgrown=>exact⟨g,q⟩
theorem TK{c:Operand}{x y:Code}{t:Bool}(hc:fe f c= .bool t)(ht:t=true→W fc P x n D Q f w)(hf:t=false→W fc P y n D Q f w):
  W fc P (Code.cond c x y) n D Q f w:=by
 intro a ha he;refine wpIn_cond_split (t:=t) (by rw[nT,he];exact hc) (fun e=>ht e a ha he) (fun e=>hf e a ha he)
theorem RQ{c:Operand}{x y:Code}(hc:fe f c= .bool true)(h:W fc P x n D Q f w):W fc P (Code.cond c x y) n D Q f w:=
 TK hc (fun _=>h) (fun e=>by cases e)
theorem RO{c:Operand}{x y:Code}(hc:fe f c= .bool false)(h:W fc P y n D Q f w):W fc P (Code.cond c x y) n D Q f w:=
 TK hc (fun e=>by cases e) (fun _=>h)
theorem W.loop {c:Code} (I:Fr→World→Prop) (μ:Fr→World→Nat) (b:I f w)
  (round:∀f w,I f w→W fc P c n D (xw (fun f' w'=>I f' w'∧μ f' w'<μ f w) Q) f w):W fc P (Code.loop c) n D Q f w:=by
 intro a ha hf;subst hf;refine wpIn_loop (fun a w=>Good n D a∧I (frOf a) w) (fun a w=>μ (frOf a) w) ⟨ha,b⟩ ?_;rintro a w ⟨g,hI⟩;refine wpIn_mono (round _ _ hI a g rfl) ?_;rintro e a' w' ⟨g',q⟩;cases e with
 |normal=>exact⟨⟨g',q.1⟩,q.2⟩
 |exit id=>exact⟨g',q⟩
 |goto l=>exact⟨g',q⟩
 |ret=>exact⟨g',q⟩
 |panic ch=>exact⟨g',q⟩
 |outgrown=>exact⟨g',q⟩
theorem Sc {c:Code} (I:Nat→Fr→World→Prop) (k0:Nat) (a:I k0 f w)
  (round:∀k f w,I k f w→W fc P c n D (xw (fun f' w'=>∃j,j<k∧I j f' w') Q) f w):W fc P (Code.loop c) n D Q f w:=by
 classical
 have ex:∀f w,(∃k,I k f w)→∃k,I k f w∧∀j,I j f w→k≤j:=by
  rintro f w ⟨k,hk⟩
  induction k using Nat.strongRecOn with
  |_ k ih=>
   by_cases h:∃j,j<k∧I j f w
   ·obtain⟨j,hj,hI⟩:=h;exact ih j hj hI
   ·refine⟨k,hk,fun j hj=>?_⟩
    rcases U2 j k with hl|hl
    ·exact absurd ⟨j,hl,hj⟩ h
    ·exact hl
 refine W.loop (fun f w=>∃k,I k f w) (fun f w=>if h:∃k,I k f w then Classical.choose (ex f w h) else 0) ⟨k0,a⟩ ?_;intro f w hI;have hs:=Classical.choose_spec (ex f w hI);refine W.mono (round _ f w hs.1) ?_;intro e f' w' q;cases e with
 |normal=>
  obtain⟨j,hj,hI'⟩:=q;have h':∃k,I k f' w':=⟨j,hI'⟩;refine⟨h',?_⟩;rw[dif_pos h',dif_pos hI];exact U7 ((Classical.choose_spec (ex f' w' h')).2 j hI') hj
 |exit id=>exact q
 |goto l=>exact q
 |ret=>exact q
 |panic ch=>exact q
 |outgrown=>exact q
theorem SX{c:Code}(M:Fr→World→Prop)(h:W fc P c n D (xw M Q) f w)(k:∀f w,M f w→Q .normal f w):W fc P c n D Q f w:=by
 refine W.mono h ?_;intro e f w q;cases e with
 |normal=>exact k f w q
 |exit id=>exact q
 |goto l=>exact q
 |ret=>exact q
 |panic ch=>exact q
 |outgrown=>exact q
end
def St(P:Program)(ρ:Operand→Value)(o:Oper)(w:World)(K:Value→World→Prop)(Kp:List PanicEntry→World→Prop):Prop:=
 match (execOp ρ o).run P w with
 |.ok (.value v) w'=>K v w'
 |.ok .skip w'=>K undef w'
 |.ok (.enter g args) w'=>Calls P g args w' fun
  |.returned v,w''=>K v w''
  |.panicked ch,w''=>Kp ch w''
  |.outgrown,_=>False
 |.ok (.round l g tmps assign body) w'=>RoundIn Fence.wide 0 P l g tmps assign body w' fun
  |.returned v,w''=>K v w''
  |.panicked ch,w''=>Kp ch w''
  |.outgrown,_=>False
 |.halt (.panic v) w'=>Kp [{v,recovered:=false}] w'
 |_=>False
theorem St.mono {P:Program} {ρ:Operand→Value} {o:Oper} {w:World} {K K':Value→World→Prop} {Kp Kp':List PanicEntry→World→Prop} (h:St P ρ o w K Kp)
  (hk:∀v w,K v w→K' v w) (hp:∀c w,Kp c w→Kp' c w):St P ρ o w K' Kp':=by
 unfold St at h ⊢;split at h
 ·exact hk _ _ h
 ·exact hk _ _ h
 ·refine Calls.mono h ?_;intro e w' h;cases e with
  |returned v=>exact hk _ _ h
  |panicked ch=>exact hp _ _ h
  |outgrown=>exact h
 ·refine RoundIn.mono h ?_;intro e w' h;cases e with
  |returned v=>exact hk _ _ h
  |panicked ch=>exact hp _ _ h
  |outgrown=>exact h
 ·exact hp _ _ h
 ·exact h.elim
def Zb(ops:Array Oper)(f:Fr)(j:Nat):Option Bool:=
 match (((ops[j]?).bind (·.dst)).map f:Option Value) with
 |some (.bool b)=>some b
 |_=>none
theorem vw(ops:Array Oper)(a:Act)(j:Nat):yielded ops a.tmps j=Zb ops (frOf a) j:=by
 unfold yielded Zb;cases h:(ops[j]?).bind (·.dst) with
 |none=>rfl
 |some d=>
  simp only[Jae,Jai,frOf,UK];cases b:a.tmps[d]? with
  |none=>rfl
  |some v=>rfl
def Sq(P:Program)(ops:Array Oper)(n:Nat)(Q:Post):List Oper→Fr→World→Prop
 |[],f,w=>Q .normal f w
 |o::r,f,w=>
  lo n o.dst∧(if Region.wanted o (Zb ops f) then St P (fe f) o w (fun v w'=>Sq P ops n Q r (updO f o.dst v) w') (fun ch w'=>Q (.panic ch) f w')
  else Sq P ops n Q r (updO f o.dst undef) w)
theorem St.nodefer{P:Program}{ρ:Operand→Value}{o:Oper}{w:World}{K:Value→World→Prop}{Kp:List PanicEntry→World→Prop}(h:St P ρ o w K Kp)(ro:Option Nat):Oper.semAt ro ρ o=execOp ρ o:=by
 refine Oper.semAt_eq ro ρ o fun c hc=>?_
 unfold St at h;have e:execOp ρ o=(do pure (.defer (←resolve ρ c o.type))):=by unfold execOp;rw[hc]
 rw[e] at h;simp only[Sem.run_bind] at h;cases hr:(resolve ρ c o.type).run P w with
 |ok d w'=>rw[hr] at h;exact h.elim
 |halt x w'=>
  rw[hr] at h;cases x with
  |panic v=>
   obtain⟨ce,args,ts⟩:=c;cases ce with
   |builtin b=>simp[resolve] at hr
   |invoke r m=>simp[resolve] at hr
   |value x=>
    simp only[resolve] at hr;unfold Deferred.ofValue at hr;split at hr<;>simp[stuck] at hr
  |_=>exact h.elim
theorem gT {fc:Fence} [Fw fc] {P:Program} {n:Nat} {D:List Deferred} {o:Oper} {a:Act} {w:World} {K:Value→World→Prop} {Kp:List PanicEntry→World→Prop}
  {next:Act→World→Prop} {Q:Exit→Act→World→Prop} (_ha:Good n D a)
  (h:St P (fe (frOf a)) o w K Kp) (hk:∀v w',K v w'→next (a.put o.dst v) w') (hp:∀c w',Kp c w'→Q (.panic c) a w'):o.wpIn fc 0 P a w next Q:=by
 unfold Oper.wpIn;refine⟨fun f _=>Fw.fn f,?_⟩;rw[nT,h.nodefer];have hd:fc.depth.isSome=true→1≤0:=by rw[Fw.depth (fc:=fc)];intro h;cases h
 unfold St at h;split at h
 ·rename_i v w' hr;rw[hr];exact hk _ _ h
 ·rename_i w' hr;rw[hr];exact hk _ _ h
 ·rename_i g args w' hr;rw[hr];refine⟨hd,CallsIn.mono (Fw.calls h) ?_⟩;intro e w'' h;cases e with
  |returned v=>exact hk _ _ h
  |panicked ch=>exact hp _ _ h
  |outgrown=>exact h.elim
 ·rename_i l g tmps b bo w' hr;rw[hr];refine⟨hd,RoundIn.mono (Fw.round h) ?_⟩;intro e w'' h;cases e with
  |returned v=>exact hk _ _ h
  |panicked ch=>exact hp _ _ h
  |outgrown=>exact h.elim
 ·rename_i v w' hr;rw[hr];exact hp _ _ h
 ·exact h.elim
theorem nP{fc:Fence}[Fw fc]{P:Program}{n:Nat}{D:List Deferred}{ops:Array Oper}{Q:Post}:
  ∀(l:List Nat) (a:Act) (w:World),Good n D a→Sq P ops n Q (l.filterMap fun i=>ops[i]?) (frOf a) w→
   wpOpsIn fc 0 P ops (fun e a' w'=>Good n D a'∧Q e (frOf a') w') l a w:=by
 intro l
 induction l with
 |nil=>intro a w ha h;exact⟨ha,h⟩
 |cons i rest ih=>
  intro a w ha h;simp only[wpOpsIn];cases ho:ops[i]? with
  |none=>
   simp only[List.filterMap_cons,ho] at h;exact ih a w ha h
  |some o=>
   simp only[List.filterMap_cons,ho,Sq] at h;obtain⟨hlo,h⟩:=h;have hy:yielded ops a.tmps=Zb ops (frOf a):=funext (vw ops a);simp only[hy];split at h<;>rename_i hw
   ·rw[if_pos hw];refine gT ha h ?_ ?_
    ·intro v w' hk;exact ih _ _ (ha.put _ _) (by rw[Kb ha _ hlo];exact hk)
    ·intro c w' hk;exact⟨ha,hk⟩
   ·rw[if_neg hw];exact⟨fun f _=>Fw.fn f,ih _ _ (ha.put _ _) (by rw[Kb ha _ hlo];exact h)⟩
theorem RK{fc:Fence}[Fw fc]{P:Program}{n:Nat}{D:List Deferred}{Q:Post}{f:Fr}{w:World}{id:Nat}{ops:Array Oper}(h:Sq P ops n Q ops.toList f w):
  W fc P (Code.region id ops false) n D Q f w:=by
 intro a ha hf;subst hf;refine wpIn_region (nP _ a w ha ?_)
 have:((List.range ops.size).filterMap fun i=>ops[i]?)=ops.toList:=by
  apply WP;intro i
  have:∀(l:List Oper),((List.range l.length).filterMap fun i=>l[i]?)=l:=by
   intro l
   induction l with
   |nil=>rfl
   |cons x l ih=>
    rw[Uw,XT,List.filterMap_cons];simp only[WW,List.filterMap_map]
    congr 1
  have b:=this ops.toList;rw[VG] at b;have d:(fun x:Nat=>ops[x]?)=(fun x=>ops.toList[x]?):=by funext x;simp
  rw[d,b]
 rw[this];exact h
section
variable {P:Program} {ops:Array Oper} {n:Nat} {Q:Post} {r:List Oper} {f:Fr} {w:World}
theorem Sq.op {dst:Option Tmp} {op:Op} {ty:TypeId} {pos:String} {after:Array Edge} (hlo:lo n dst)
  (h:St P (fe f) ⟨dst,op,ty,pos,after,none⟩ w (fun v w'=>Sq P ops n Q r (updO f dst v) w') (fun ch w'=>Q (.panic ch) f w')):
  Sq P ops n Q (⟨dst,op,ty,pos,after,none⟩::r) f w:=⟨hlo,by simp only[Region.wanted,if_true];exact h⟩
theorem T8 {dst:Option Tmp} {op:Op} {ty:TypeId} {pos:String} {after:Array Edge} {j:Nat} {b:Bool} (hy:Zb ops f j=some b) (hlo:lo n dst)
  (h:St P (fe f) ⟨dst,op,ty,pos,after,some (j,b)⟩ w (fun v w'=>Sq P ops n Q r (updO f dst v) w') (fun ch w'=>Q (.panic ch) f w')):
  Sq P ops n Q (⟨dst,op,ty,pos,after,some (j,b)⟩::r) f w:=⟨hlo,by simp only[Region.wanted,hy,beq_self_eq_true,if_true];exact h⟩
theorem Ut {dst:Option Tmp} {op:Op} {ty:TypeId} {pos:String} {after:Array Edge} {j:Nat} {b c:Bool} (hy:Zb ops f j=some c) (hc:(some c==some b)=false) (hlo:lo n dst)
  (h:Sq P ops n Q r (updO f dst undef) w):
  Sq P ops n Q (⟨dst,op,ty,pos,after,some (j,b)⟩::r) f w:=⟨hlo,by simp only[Region.wanted,hy,hc];exact h⟩
end
def retQ(P:Program)(fn:Func)(R:Ending→World→Prop):Post
 |.normal,f,w | .ret,f,w=>∃v,(∀tmps:Array Value,(∀t,tmps.getD t undef=f t)→(results fn tmps).run P w= .ok v w)∧R (.returned v) w
 |.panic chain,_,w=>R (.panicked chain) w
 |_,_,_=>False
def mm(args:List Value):Fr:=fun t=>args.getD t undef
theorem TX {P:Program} {k:FuncId} {fn:Func} {c:Code} {args:List Value} {w:World} {R:Ending→World→Prop} {n:Nat}
  (hf:P.funcs[k]? =some fn) (hb:fn.body=some c) (hn:fn.ntmps=n) (ha:args.length≤n)
  (h:W Fence.wide P c n [] (retQ P fn R) (mm args) w):Calls P k args.toArray w R:=by
 refine calls_of_wp hf hb (wp_mono (W.wide h ⟨?_,rfl⟩ ?_) ?_)
 ·simp[hn];omega
 ·funext t
  simp only[frOf,mm,UK,UJ,Array.getElem?_append];by_cases ht:t<args.length
  ·simp[ht]
  ·simp only[XZ,ht,if_false];rw[U5 (by omega)];simp only[Array.getElem?_replicate];split<;>rfl
 ·rintro e a w ⟨g,q⟩;cases e with
  |normal=>obtain⟨v,b,d⟩:=q;exact⟨g.defers,v,b _ (fun _=>rfl),d⟩
  |ret=>obtain⟨v,b,d⟩:=q;exact⟨g.defers,v,b _ (fun _=>rfl),d⟩
  |panic ch=>exact⟨g.defers,q⟩
  |exit id=>exact q.elim
  |goto l=>exact q.elim
  |outgrown=>exact q.elim
def Zj(ops:Array Oper)(j:Nat):Nat:=((ops[j]?).bind (·.dst)).getD 0
def rG(ops:Array Oper)(j k:Nat):Bool:=((ops[k]?).map fun o=>o.after.any fun e=>Region.binds .any e&&e.on==j).getD false
def ancB(ops:Array Oper):Nat→Nat→Nat→Bool
 |0,_,_=>false
 |n+1,j,k=>rG ops j k||((ops[k]?).map fun o=>o.after.any fun e=>Region.binds .any e&&ancB ops n j e.on).getD false
def Keep(ds:List Nat)(f0 f:Fr):Prop:=∀t,ds.contains t=false→f t=f0 t
def noG{σ:Type}:σ→Value→World→Prop:=fun _ _ _=>True
def Deps{σ:Type}(ops:Array Oper)(Gl:List (σ→Value→World→Prop))(f:Fr)(s:σ)(w:World):List Nat→Prop
 |[]=>True
 |j::r=>(Gl.getD j noG) s (f (Zj ops j)) w∧Deps ops Gl f s w r
def OpSt(P:Program)(ops:Array Oper)(f:Fr)(o:Oper)(w:World)(K:Value→World→Prop)(Kp:List PanicEntry→World→Prop):Prop:=
 if Region.wanted o (Zb ops f) then St P (fe f) o w K Kp else K undef w
def q6{σ:Type}(P:Program)(ops:Array Oper)(Q:Post)(R:σ→World→σ→World→Prop)(Gl:List (σ→Value→World→Prop))(f0:Fr)(s0:σ)(w0:World)(ds:List Nat):List Oper→List (List Nat)→Nat→Prop
 |o::l,d::dl,k=>
  (∀f s w,R s0 w0 s w→Keep ds f0 f→Deps ops Gl f s w d→OpSt P ops f o w (fun v w'=>∃s',R s w s' w'∧(Gl.getD k noG) s' v w') (fun ch w'=>∀f,Q (.panic ch) f w'))∧
   q6 P ops Q R Gl f0 s0 w0 ds l dl (k+1)
 |_,_,_=>True
def Xb{σ:Type}(R:σ→World→σ→World→Prop):List (σ→Value→World→Prop)→Prop
 |[]=>True
 |g::r=>(∀v s w s' w',g s v w→R s w s' w'→g s' v w')∧Xb R r
def Jy(ops:Array Oper)(m:Nat):List Nat:=(ops.toList.take m).filterMap (·.dst)
def jc(ops:Array Oper)(m n:Nat)(dl:List (List Nat)):Bool:=
 let N:=ops.size
 m≤N&&dl.length==m &&
 (ops.toList.all fun o=>match o.dst with|some d=>d<n|none=>true) &&
 ((List.range N).all fun k=>((ops[k]?).map fun o=>o.after.all fun e=> !Region.binds .any e||e.on<k).getD false) &&
 ((List.range m).all fun k=>(dl.getD k []).all fun j=>ancB ops N j k&&j<m) &&
 ((List.range N).all fun k=>k<m||(List.range k).all fun j=>ancB ops N j k) &&
 ((List.range m).all fun k=>((ops[k]?).bind (·.dst)).isSome&&(List.range m).all fun j=>j==k||Zj ops j != Zj ops k)
section
variable {fc:Fence} [Fw fc] {P:Program} {ops:Array Oper} {n:Nat} {D:List Deferred} {Q:Post} {f0:Fr} {w0:World}
def Yf(ops:Array Oper)(L:Array Bool):Prop:=∀k,k<ops.size→L.getD k true=true→∀o,ops[k]? =some o→∀e∈o.after,Region.binds .any e=true→L.getD e.on false=true
theorem Z2{L:Array Bool}(hs:L.size=ops.size)(hc:Yf ops L):∀fuel j k,k<ops.size→
  (∀o,ops[k]? =some o→∀e∈o.after,Region.binds .any e=true→L.getD e.on false=true)→ancB ops fuel j k=true→L.getD j false=true:=by
 intro fuel
 induction fuel with
 |zero=>intro j k _ _ h;simp[ancB] at h
 |succ fuel ih=>
  intro j k hk hd h;obtain⟨o,ho⟩:∃o,ops[k]? =some o:=⟨ops[k],by simp[hk]⟩;simp only[ancB,rG,ho,Jai,Jaf,VP,Array.any_eq_true',VJ,beq_iff_eq] at h;rcases h with ⟨e,he,hb,rfl⟩|⟨e,he,hb,hanc⟩
  ·exact hd o ho e he hb
  ·have hl:=hd o ho e he hb;have hlt:e.on<ops.size:=by
    rcases U2 e.on L.size with h|h
    ·omega
    ·simp[UK,VD h] at hl
   refine ih j e.on hlt ?_ hanc;intro o' ho' e' he' hb';refine hc e.on hlt ?_ o' ho' e' he' hb';simp only[UK] at hl ⊢
   have:L[e.on]? =some L[e.on]:=by simp[hs,hlt]
   rw[this] at hl ⊢;exact hl
def unl(N:Nat)(L:Array Bool):Nat:=(List.range N).countP fun i=> !L.getD i true
theorem vz(l:List Nat)(hn:l.Nodup)(p q:Nat→Bool)(i:Nat)(hi:i∈l)(hp:p i=true)(hq:q i=false)(h:∀j,j≠i→q j=p j):l.countP p=l.countP q+1:=by
 induction l with
 |nil=>cases hi
 |cons x l ih=>
  obtain⟨hx,hn'⟩:=List.nodup_cons.1 hn;by_cases e:x=i
  ·subst e
   have:l.countP p=l.countP q:=by
    apply WG;intro y hy
    have:y≠x:=fun e=>hx (e▸hy)
    rw[h y this]
   rw[List.countP_cons_of_pos hp,List.countP_cons_of_neg (by simp[hq]),this]
  ·have hi':i∈l:=by cases hi with|head=>exact absurd rfl e|tail _ h=>exact h
   have:=ih hn' hi'
   rw[WH,WH,h x e,this];omega
theorem zg{N:Nat}{L:Array Bool}(hs:L.size=N){i:Nat}(hi:i<N)(hf:L.getD i true=false):unl N L=unl N (L.setIfInBounds i true)+1:=by
 refine vz _ List.nodup_range _ _ i (by simpa using hi) (by simp[hf]) ?_ ?_
 ·simp[UK,hs,hi]
 ·intro j hj
  have:¬i=j:=fun e=>hj e.symm
  simp[UK,UR,this]
theorem jg{N:Nat}{L:Array Bool}(h:unl N L=0):∀i,i<N→L.getD i true=true:=by
 intro i hi
 have:=WJ.1 h i (by simpa using hi)
 simpa using this
theorem J3{L:Array Bool}{i:Nat}:i∈Region.ready .any ops L↔i<ops.size∧L.getD i true=false∧∃o,ops[i]? =some o∧∀e∈o.after,Region.binds .any e=true→L.getD e.on false=true:=by
 unfold Region.ready;simp only[XI,XQ,VJ,VN];constructor
 ·rintro⟨a,d,b⟩
  refine⟨a,d,ops[i],by simp[a],?_⟩;have ho:ops[i]? =some ops[i]:=by simp[a]
  rw[ho] at b;simp only[Jai,Jaf,VB] at b;intro e he hb
  have:=b e he
  simpa[hb] using this
 ·rintro⟨a,d,o,ho,b⟩
  refine⟨a,d,?_⟩;rw[ho];simp only[Jai,Jaf,VB];intro e he;cases hb:Region.binds .any e with
  |false=>simp
  |true=>simp[b e he hb]
structure DrawFacts (ops:Array Oper) (m n:Nat) (dl:List (List Nat)):Prop where
 le:m≤ops.size
 len:dl.length=m
 dst:∀(k:Nat) (o:Oper),ops[k]? =some o→lo n o.dst
 back:∀(k:Nat) (o:Oper),ops[k]? =some o→∀e∈o.after,Region.binds .any e=true→e.on<k
 deps:∀k,k<m→∀j∈dl.getD k [],ancB ops ops.size j k=true∧j<m
 tail:∀k,k<ops.size→m≤k→∀j,j<k→ancB ops ops.size j k=true
 some:∀k,k<m→((ops[k]?).bind (·.dst)).isSome=true
 apart:∀k,k<m→∀j,j<m→j≠k→Zj ops j≠Zj ops k
theorem Xp{m:Nat}{dl:List (List Nat)}(h:jc ops m n dl=true):DrawFacts ops m n dl:=by
 simp only[jc,VJ,decide_eq_true_eq,beq_iff_eq,WD,XQ,VP,bne_iff_ne] at h;obtain⟨⟨⟨⟨⟨⟨b,f⟩,g⟩,i⟩,l⟩,p⟩,a⟩:=h;refine⟨b,f,?_,?_,fun k hk j hj=>by have:=l k hk j hj;exact this,?_,fun k hk=>(a k hk).1,?_⟩
 ·intro k o ho;have hm:o∈ops.toList:=by
   have:=VE.1 ho
   obtain⟨hk,rfl⟩:=this;simp
  have:=g o hm
  unfold lo;cases hd:o.dst with
  |none=>trivial
  |some d=>rw[hd] at this;simpa using this
 ·intro k o ho e he hb;have hk:=(VE.1 ho).1
  have:=i k hk
  rw[ho] at this;simp only[Jai,Jaf,VB] at this
  have:=this e he
  simpa[hb] using this
 ·intro k hk hm j hj;rcases p k hk with h|h
  ·omega
  ·exact h j hj
 ·intro k hk j hj hne
  rcases(a k hk).2 j hj with h|h
  ·exact absurd h hne
  ·exact h
theorem zu {i:Nat} {o:Oper} {a:Act} {w:World} {K:Act→World→Prop} {Kv:Value→World→Prop} {Kp:List PanicEntry→World→Prop}
  (ho:ops[i]? =some o) (ha:Good n D a)
  (h:OpSt P ops (frOf a) o w Kv Kp) (hk:∀v w',Kv v w'→K (a.put o.dst v) w') (hp:∀c w',Kp c w'→Q (.panic c) (frOf a) w'):
  wpOpIn fc 0 P ops (fun e a' w'=>Good n D a'∧Q e (frOf a') w') i K a w:=by
 unfold wpOpIn;rw[ho];have hy:yielded ops a.tmps=Zb ops (frOf a):=funext (vw ops a);simp only[hy];unfold OpSt at h;split at h<;>rename_i hw
 ·rw[if_pos hw];exact gT ha h hk (fun c w' q=>⟨ha,hp c w' q⟩)
 ·rw[if_neg hw];exact⟨fun f _=>Fw.fn f,hk _ _ h⟩
theorem vS{m:Nat}{dl:List (List Nat)}(F:DrawFacts ops m n dl):∀(fuel k:Nat) (L:Array Bool) (a:Act) (w:World),m≤k→k+fuel=ops.size→L.size=ops.size→
  (∀i,i<ops.size→(L.getD i true=true↔i<k))→Good n D a→Sq P ops n Q (ops.toList.drop k) (frOf a) w→
  wpAnyIn fc 0 P .any ops (fun e a' w'=>Good n D a'∧Q e (frOf a') w') fuel L a w:=by
 intro fuel;have bridge:∀(L:Array Bool),L.size=ops.size→∀i,i<ops.size→L.getD i false=L.getD i true:=by
  intro L hs i hi
  have:L[i]? =some L[i]:=by simp[hs,hi]
  simp[UK,this]
 induction fuel with
 |zero=>
  intro k L a w hm hk hs hL ha h;refine⟨?_,?_⟩
  ·rw[WO];intro i hi;obtain⟨b,d,_⟩:=J3.1 hi
   have:=(hL i b).2 (by omega)
   rw[this] at d;cases d
  ·rw[UY (by simp;omega)] at h;exact⟨ha,h⟩
 |succ fuel ih=>
  intro k L a w hm hk hs hL ha h;have hkN:k<ops.size:=by omega
  have hok:ops[k]? =some ops[k]:=by simp[hkN]
  have hdr:ops.toList.drop k=ops[k]::ops.toList.drop (k+1):=by
   rw[WM (by simpa using hkN)];simp
  rw[hdr] at h;have hrk:k∈Region.ready .any ops L:=by
   refine J3.2 ⟨hkN,?_,ops[k],hok,?_⟩
   ·cases hb:L.getD k true with
    |false=>rfl
    |true=>have:=(hL k hkN).1 hb;omega
   ·intro e he hb;have hlt:=F.back k _ hok e he hb;rw[bridge L hs _ (by omega)]
    exact(hL _ (by omega)).2 hlt
  refine⟨(fun hnil=>by rw[hnil] at hrk;cases hrk),?_⟩;intro i hi;obtain⟨b,d,o,ho,f⟩:=J3.1 hi;have hik:i=k:=by
   have hge:k≤i:=by
    rcases U2 i k with hl|hl
    ·rw[(hL i b).2 hl] at d;cases d
    ·exact hl
   rcases YU hge with e|hlt
   ·exact e.symm
   ·exfalso;have hc:Yf ops L:=by
     intro k' hk' hl o' ho' e' he' hb';have hlt':=F.back k' _ ho' e' he' hb';rw[bridge L hs _ (by omega)]
     have:=(hL k' hk').1 hl
     exact(hL _ (by omega)).2 (by omega)
    have:=Z2 hs hc ops.size k i b (fun o' ho'=>by rw[ho] at ho';cases ho';exact f) (F.tail i b (by omega) k hlt)
    rw[bridge L hs k hkN] at this
    have:=(hL k hkN).1 this
    omega
  subst hik;simp only[Sq] at h;obtain⟨hlo,h⟩:=h;refine zu (Kv:=fun v w'=>Sq P ops n Q (ops.toList.drop (i+1)) (updO (frOf a) ops[i].dst v) w') (Kp:=fun ch w'=>Q (.panic ch) (frOf a) w') hok ha h ?_ (fun _ _ q=>q)
  intro v w' hk';refine ih (i+1) _ _ _ (by omega) (by omega) (by simp[hs]) ?_ (ha.put _ _) (by rw[Kb ha _ hlo];exact hk');intro j hj;rw[UK,UR];by_cases e:i=j
  ·subst e;simp[hs,hkN]
  ·have:=hL j hj
   rw[UK] at this;simp only[e,if_false];rw[this];omega
theorem Deps.of{σ:Type}{Gl:List (σ→Value→World→Prop)}{f:Fr}{s:σ}{w:World}:∀(d:List Nat),(∀j∈d,(Gl.getD j noG) s (f (Zj ops j)) w)→Deps ops Gl f s w d:=by
 intro d
 induction d with
 |nil=>intro _;trivial
 |cons j r ih=>intro h;exact⟨h j (by simp),ih fun i hi=>h i (by simp[hi])⟩
theorem Xb.at{σ:Type}{R:σ→World→σ→World→Prop}:∀(Gl:List (σ→Value→World→Prop)),Xb R Gl→∀j v s w s' w',(Gl.getD j noG) s v w→R s w s' w'→(Gl.getD j noG) s' v w':=by
 intro Gl
 induction Gl with
 |nil=>intro _ j v s w s' w' _ _;simp[List.getD,noG]
 |cons g r ih=>
  intro h j v s w s' w' hg hr;cases j with
  |zero=>exact h.1 v s w s' w' hg hr
  |succ j=>exact ih h.2 j v s w s' w' hg hr
theorem q6.at{σ:Type}{a:σ}{R:σ→World→σ→World→Prop}{Gl:List (σ→Value→World→Prop)}{ds:List Nat}:∀(l:List Oper) (dl:List (List Nat)) (k:Nat),q6 P ops Q R Gl f0 a w0 ds l dl k→
  ∀i o,l[i]? =some o→i<dl.length→∀f s w,R a w0 s w→Keep ds f0 f→Deps ops Gl f s w (dl.getD i [])→
   OpSt P ops f o w (fun v w'=>∃s',R s w s' w'∧(Gl.getD (k+i) noG) s' v w') (fun ch w'=>∀f,Q (.panic ch) f w'):=by
 intro l
 induction l with
 |nil=>intro dl k _ i o h;simp at h
 |cons x l ih=>
  intro dl k hst i o ho hi;cases dl with
  |nil=>simp at hi
  |cons d dl=>
   cases i with
   |zero=>simp at ho;subst ho;exact hst.1
   |succ i=>
    have:=ih dl (k+1) hst.2 i o (by simpa using ho) (by simpa using hi)
    intro f s w b e g
    have:=this f s w b e (by simpa using g)
    rw[show k+(i+1)=k+1+i by omega];exact this
theorem tO {σ:Type} {p:σ} {m:Nat} {dl:List (List Nat)} (F:DrawFacts ops m n dl) {R:σ→World→σ→World→Prop} {Gl:List (σ→Value→World→Prop)}
  (htr:∀s a t b u c,R s a t b→R t b u c→R s a u c) (hG:Xb R Gl)
  (hst:q6 P ops Q R Gl f0 p w0 (Jy ops m) ops.toList dl 0)
  (htail:∀f s w,R p w0 s w→Keep (Jy ops m) f0 f→Deps ops Gl f s w (List.range m)→Sq P ops n Q (ops.toList.drop m) f w):
  ∀(fuel:Nat) (L:Array Bool) (a:Act) (s:σ) (w:World),unl ops.size L=fuel→L.size=ops.size→Yf ops L→
   (∀i,i<ops.size→m≤i→L.getD i true=false)→Good n D a→R p w0 s w→Keep (Jy ops m) f0 (frOf a)→
   (∀j,j<m→L.getD j true=true→(Gl.getD j noG) s (frOf a (Zj ops j)) w)→
   wpAnyIn fc 0 P .any ops (fun e a' w'=>Good n D a'∧Q e (frOf a') w') fuel L a w:=by
 intro fuel;have bridge:∀(L:Array Bool),L.size=ops.size→∀i,i<ops.size→L.getD i false=L.getD i true:=by
  intro L hs i hi
  have:L[i]? =some L[i]:=by simp[hs,hi]
  simp[UK,this]
 have done:∀(L:Array Bool) (a:Act) (s:σ) (w:World),unl ops.size L=ops.size-m→L.size=ops.size→(∀i,i<m→L.getD i true=true)→
   (∀i,i<ops.size→m≤i→L.getD i true=false)→Good n D a→R p w0 s w→Keep (Jy ops m) f0 (frOf a)→
   (∀j,j<m→L.getD j true=true→(Gl.getD j noG) s (frOf a (Zj ops j)) w)→
   wpAnyIn fc 0 P .any ops (fun e a' w'=>Good n D a'∧Q e (frOf a') w') (ops.size-m) L a w:=by
  intro L a s w _ hs hall hno ha hR hK hg;refine vS F (ops.size-m) m L a w (UM _) (by have:=F.le;omega) hs ?_ ha (htail _ _ _ hR hK (Deps.of _ fun j hj=>hg j (by simpa using hj) (hall j (by simpa using hj))));intro i hi;constructor
  ·intro h;rcases U2 i m with hl|hl
   ·exact hl
   ·rw[hno i hi hl] at h;cases h
  ·intro h;exact hall i h
 have cnt:∀(L:Array Bool),(∀i,i<m→L.getD i true=true)→(∀i,i<ops.size→m≤i→L.getD i true=false)→unl ops.size L=ops.size-m:=by
  intro L l y;have hle:=F.le
  have:∀N,m≤N→N≤ops.size→unl N L=N-m:=by
   intro N hN
   induction N with
   |zero=>intro _;simp[unl]
   |succ N ih=>
    intro hNs;simp only[unl,XS,WF,WL];rcases YU hN with e|hlt
    ·have:unl N L=0:=by
      refine WJ.2 ?_;intro i hi;have hi':i<N:=by simpa using hi
      simp[l i (by omega)]
     unfold unl at this;rw[this,l N (by omega)];simp;omega
    ·have:=ih (by omega) (by omega)
     unfold unl at this;rw[this,y N (by omega) (by omega)];simp;omega
  exact this ops.size hle (UM _)
 induction fuel with
 |zero=>
  intro L a s w hu hs hc hno ha hR hK hg;have hall:=jg hu;have hall':∀i,i<m→L.getD i true=true:=fun i hi=>hall i (by have:=F.le;omega);have hu':=cnt L hall' hno
  have:=done L a s w hu' hs hall' hno ha hR hK hg
  rw[hu'.symm,hu] at this;exact this
 |succ fuel ih=>
  intro L a s w hu hs hc hno ha hR hK hg;by_cases hall:∀i,i<m→L.getD i true=true
  ·have hu':=cnt L hall hno
   have:=done L a s w hu' hs hall hno ha hR hK hg
   rw[hu'.symm,hu] at this;exact this
  ·
   have hex:∃i,i<m∧L.getD i true=false:=by
    refine VR fun hn=>hall fun i hi=>?_
    cases hb:L.getD i true with
    |true=>rfl
    |false=>exact absurd ⟨i,hi,hb⟩ hn
   have hmin:∃i,i<m∧L.getD i true=false∧∀j,j<i→L.getD j true=true:=by
    obtain⟨i,hi,hb⟩:=hex
    induction i using Nat.strongRecOn with
    |_ i ihh=>
     by_cases h:∃j,j<i∧L.getD j true=false
     ·obtain⟨j,hj,hjb⟩:=h;exact ihh j hj (by omega) hjb
     ·refine⟨i,hi,hb,fun j hj=>?_⟩
      cases hjb:L.getD j true with
      |true=>rfl
      |false=>exact absurd ⟨j,hj,hjb⟩ h
   obtain⟨g,C,r,hlow⟩:=hmin;have hle:=F.le;have x:g∈Region.ready .any ops L:=by
    have hok:ops[g]? =some ops[g]:=by simp[show g<ops.size by omega]
    refine J3.2 ⟨by omega,r,ops[g],hok,?_⟩;intro e he hbe;have hlt:=F.back g _ hok e he hbe;rw[bridge L hs _ (by omega)];exact hlow _ hlt
   refine⟨(fun hnil=>by rw[hnil] at x;cases x),?_⟩;intro i hi;obtain⟨l,y,o,ho,z⟩:=J3.1 hi;have him:i<m:=by
    rcases U2 i m with hl|hl
    ·exact hl
    ·exfalso
     have:=Z2 hs hc ops.size g i l (fun o' ho'=>by rw[ho] at ho';cases ho';exact z) (F.tail i l hl g (by omega))
     rw[bridge L hs g (by omega),r] at this;cases this
   have hdep:Deps ops Gl (frOf a) s w (dl.getD i []):=by
    refine Deps.of _ fun j hj=>?_
    obtain⟨hanc,hjm⟩:=F.deps i him j hj
    have:=Z2 hs hc ops.size j i l (fun o' ho'=>by rw[ho] at ho';cases ho';exact z) hanc
    rw[bridge L hs j (by omega)] at this;exact hg j hjm this
   have hstep:=q6.at ops.toList dl 0 hst i o (by simpa using ho) (by rw[F.len];exact him) (frOf a) s w hR hK hdep;rw[Jab] at hstep;have hsome:=F.some i him;rw[ho] at hsome;have hdi:Zj ops i=(o.dst).getD 0:=by simp[Zj,ho]
   obtain⟨d,hd⟩:=Jag.1 hsome;simp only[Jae] at hd;have hdd:Zj ops i=d:=by rw[hdi,hd];rfl
   have hlo:=F.dst i o ho;refine zu (Kv:=fun v w'=>∃s',R s w s' w'∧(Gl.getD i noG) s' v w') (Kp:=fun ch w'=>∀f,Q (.panic ch) f w') ho ha hstep ?_ ?_
   ·rintro v w' ⟨s',hRR,hgv⟩;refine ih _ _ s' _ ?_ (by simp[hs]) ?_ ?_ (ha.put _ _) (htr _ _ _ _ _ _ hR hRR) ?_ ?_
    ·have:=zg hs l y;omega
    ·intro k hk hl o' ho' e he hb;rw[UK,UR];by_cases A:i=e.on
     ·subst A;simp[hs,l]
     ·simp only[A,if_false];rw[←UK];by_cases B:i=k
      ·subst B;rw[ho] at ho';cases ho';exact z e he hb
      ·rw[UK,UR] at hl;simp only[B,if_false] at hl;rw[←UK] at hl;exact hc k hk hl o' ho' e he hb
    ·intro k hk hmk
     have:¬i=k:=by omega
     rw[UK,UR];simp only[this,if_false];rw[←UK];exact hno k hk hmk
    ·rw[Kb ha _ hlo,hd];intro t ht;have htd:t≠d:=by
      rintro rfl
      have:t∈Jy ops m:=by
       refine XJ.2 ⟨o,?_,hd⟩;have h':ops.toList[i]? =some o:=by simpa using ho
       have:(ops.toList.take m)[i]? =some o:=by rw[W1,if_pos him];exact h'
       exact XO this
      have:(Jy ops m).contains t=true:=by simpa using this
      rw[this] at ht;cases ht
     simp only[updO,upd,htd,if_false];exact hK t ht
    ·intro j hj hl;rw[Kb ha _ hlo,hd];by_cases e:j=i
     ·subst e;rw[hdd];simp only[updO,upd,if_true];exact hgv
     ·have hne:Zj ops j≠d:=by rw[←hdd];exact F.apart i him j hj e
      simp only[updO,upd,hne,if_false];have e':¬i=j:=fun h=>e h.symm;rw[UK,UR] at hl;simp only[e',if_false] at hl;rw[←UK] at hl;exact Xb.at Gl hG j _ s w s' w' (hg j hj hl) hRR
   ·intro c w' hq;exact hq _
theorem TJ {σ:Type} {id:Nat} (hm:P.follows .mixedOrders=true) (m:Nat) (dl:List (List Nat)) (d:σ) (R:σ→World→σ→World→Prop) (Gl:List (σ→Value→World→Prop))
  (chk:jc ops m n dl=true) (e:R d w0 d w0.drew) (htr:∀s a t b u c,R s a t b→R t b u c→R s a u c) (hG:Xb R Gl)
  (hst:q6 P ops Q R Gl f0 d w0 (Jy ops m) ops.toList dl 0)
  (htail:∀f s w,R d w0 s w→Keep (Jy ops m) f0 f→Deps ops Gl f s w (List.range m)→Sq P ops n Q (ops.toList.drop m) f w):
  W fc P (Code.region id ops true) n D Q f0 w0:=by
 intro a ha hf;have F:=Xp chk;refine wpIn_region_any hm ?_;have hz:∀i,i<ops.size→(Array.replicate ops.size false).getD i true=false:=by
  intro i hi;simp[UK,hi]
 refine tO F htr hG hst htail ops.size _ a d _ ?_ (by simp) ?_ (fun i hi _=>hz i hi) ha e (fun t _=>by rw[hf]) ?_
 ·unfold unl
  have:(List.range ops.size).countP (fun i=> !(Array.replicate ops.size false).getD i true)=(List.range ops.size).length:=by
   refine WI.2 ?_;intro i hi;simp[hz i (by simpa using hi)]
  rw[this];simp
 ·intro k hk hl;rw[hz k hk] at hl;cases hl
 ·intro j hj hl;rw[hz j (by have:=F.le;omega)] at hl;cases hl
end
end Go.Wf
namespace Go.Wf
open Go Go.RowKit
section
variable {P:Program} {ρ:Operand→Value} {dst:Option Tmp} {ty:TypeId} {pos:String} {after:Array Edge} {gd:Option (Nat×Bool)}
 {w:World} {K:Value→World→Prop} {Kp:List PanicEntry→World→Prop}
theorem R7{o:Oper}{v:Value}{w':World}(hr:(execOp ρ o).run P w= .ok (.value v) w')(h:K v w'):St P ρ o w K Kp:=by
 unfold St;rw[hr];exact h
theorem Tk{o:Oper}{w':World}(hr:(execOp ρ o).run P w= .ok .skip w')(h:K undef w'):St P ρ o w K Kp:=by
 unfold St;rw[hr];exact h
theorem RP{x:Operand}(h:K (ρ x) w):St P ρ ⟨dst,.move x,ty,pos,after,gd⟩ w K Kp:=R7 (v:=ρ x) rfl h
theorem St.assign{x:Operand}(h:K (ρ x) w):St P ρ ⟨dst,.assign x,ty,pos,after,gd⟩ w K Kp:=R7 (v:=ρ x) rfl h
theorem Sy{c a b:Operand}{t:Bool}(hc:ρ c= .bool t)(h:K (if t then ρ a else ρ b) w):St P ρ ⟨dst,.pick c a b,ty,pos,after,gd⟩ w K Kp:=by
 refine R7 (v:=if t then ρ a else ρ b) ?_ h;simp[execOp,asBool,hc]
theorem J7{op:BinOp}{x y:Operand}{xt yt:TypeId}{v:Value}(hg:eqGuard op xt x y (ρ x) (ρ y)=pure ())(hr:(binOp op xt (ρ x) (ρ y)).run P w= .ok v w)(h:K v w):
  St P ρ ⟨dst,.binOp op xt x y yt,ty,pos,after,gd⟩ w K Kp:=by
 refine R7 (v:=v) ?_ h;simp[execOp,hg,hr]
section
variable {x y:Operand} {xt yt:TypeId} {k:IntKind} {a b z:Int}
theorem St.add(hx:ρ x= .int k a)(hy:ρ y= .int k b)(hz:k.wrap (a+b)=z)(h:K (.int k z) w):St P ρ ⟨dst,.binOp .add xt x y yt,ty,pos,after,gd⟩ w K Kp:=by
 subst hz;refine J7 (by rfl) ?_ h;rw[hx,hy,binOp_add];rfl
theorem St.sub(hx:ρ x= .int k a)(hy:ρ y= .int k b)(hz:k.wrap (a-b)=z)(h:K (.int k z) w):St P ρ ⟨dst,.binOp .sub xt x y yt,ty,pos,after,gd⟩ w K Kp:=by
 subst hz;refine J7 (by rfl) ?_ h;rw[hx,hy,binOp_sub];rfl
theorem SO(hx:ρ x= .int k a)(hy:ρ y= .int k b)(hz:k.wrap (a*b)=z)(h:K (.int k z) w):St P ρ ⟨dst,.binOp .mul xt x y yt,ty,pos,after,gd⟩ w K Kp:=by
 subst hz;refine J7 (by rfl) ?_ h;rw[hx,hy,binOp_mul];rfl
theorem SF(hx:ρ x= .int k a)(hy:ρ y= .int k b)(hb:b≠0)(hz:k.wrap (a.tdiv b)=z)(h:K (.int k z) w):St P ρ ⟨dst,.binOp .quo xt x y yt,ty,pos,after,gd⟩ w K Kp:=by
 subst hz;refine J7 (by rfl) ?_ h;rw[hx,hy,binOp_quo];simp[Op.intDiv,hb]
theorem Sz(hx:ρ x= .int k a)(hy:ρ y= .int k b)(hb:b≠0)(hz:a.tmod b=z)(h:K (.int k z) w):St P ρ ⟨dst,.binOp .rem xt x y yt,ty,pos,after,gd⟩ w K Kp:=by
 subst hz;refine J7 (by rfl) ?_ h;rw[hx,hy,binOp_rem];simp[Op.intDiv,hb]
theorem SP{yk:IntKind}(hx:ρ x= .int k a)(hy:ρ y= .int yk b)(hb:0≤b)(hz:k.wrap (a*2^min b.toNat k.bits)=z)(h:K (.int k z) w):St P ρ ⟨dst,.binOp .shl xt x y yt,ty,pos,after,gd⟩ w K Kp:=by
 subst hz;refine J7 (by rfl) ?_ h;rw[hx,hy,binOp_shl,shift_shl_any _ _ _ _ hb];rfl
theorem SC{yk:IntKind}(hx:ρ x= .int k a)(hy:ρ y= .int yk b)(hb:0≤b)(hz:a/2^min b.toNat k.bits=z)(h:K (.int k z) w):St P ρ ⟨dst,.binOp .shr xt x y yt,ty,pos,after,gd⟩ w K Kp:=by
 subst hz;refine J7 (by rfl) ?_ h;rw[hx,hy,binOp_shr,shift_shr_any _ _ _ _ hb];rfl
theorem TI(hx:ρ x= .int k a)(hy:ρ y= .int k b)(hz:k.wrap (BitVec.ofInt k.bits a &&& BitVec.ofInt k.bits b).toNat=z)(h:K (.int k z) w):St P ρ ⟨dst,.binOp .and xt x y yt,ty,pos,after,gd⟩ w K Kp:=by
 subst hz;refine J7 (by rfl) ?_ h;rw[hx,hy,binOp_and];rfl
theorem S8(hx:ρ x= .int k a)(hy:ρ y= .int k b)(hz:k.wrap (BitVec.ofInt k.bits a ||| BitVec.ofInt k.bits b).toNat=z)(h:K (.int k z) w):St P ρ ⟨dst,.binOp .or xt x y yt,ty,pos,after,gd⟩ w K Kp:=by
 subst hz;refine J7 (by rfl) ?_ h;rw[hx,hy,binOp_or];rfl
theorem SW{t:Bool}(hx:ρ x= .int k a)(hy:ρ y= .int k b)(hz:decide (a=b)=t)(h:K (.bool t) w):St P ρ ⟨dst,.binOp .eql xt x y yt,ty,pos,after,gd⟩ w K Kp:=by
 refine J7 (v:= .bool t) ?_ ?_ h
 ·rw[hx];rfl
 ·rw[hx,hy,binOp_eql,←hz];rfl
theorem SK{t:Bool}(hx:ρ x= .int k a)(hy:ρ y= .int k b)(hz:(!decide (a=b))=t)(h:K (.bool t) w):St P ρ ⟨dst,.binOp .neq xt x y yt,ty,pos,after,gd⟩ w K Kp:=by
 refine J7 (v:= .bool t) ?_ ?_ h
 ·rw[hx];rfl
 ·rw[hx,hy,binOp_neq,←hz];rfl
theorem SG{t:Bool}(hx:ρ x= .int k a)(hy:ρ y= .int k b)(hz:decide (a<b)=t)(h:K (.bool t) w):St P ρ ⟨dst,.binOp .lss xt x y yt,ty,pos,after,gd⟩ w K Kp:=by
 subst hz;refine J7 (by rfl) ?_ h;rw[hx,hy,binOp_lss];rfl
theorem SU{t:Bool}(hx:ρ x= .int k a)(hy:ρ y= .int k b)(hz:decide (a≤b)=t)(h:K (.bool t) w):St P ρ ⟨dst,.binOp .leq xt x y yt,ty,pos,after,gd⟩ w K Kp:=by
 subst hz;refine J7 (by rfl) ?_ h;rw[hx,hy,binOp_leq];rfl
theorem SM{t:Bool}(hx:ρ x= .int k a)(hy:ρ y= .int k b)(hz:decide (b<a)=t)(h:K (.bool t) w):St P ρ ⟨dst,.binOp .gtr xt x y yt,ty,pos,after,gd⟩ w K Kp:=by
 subst hz;refine J7 (by rfl) ?_ h;rw[hx,hy,binOp_gtr];rfl
theorem SV{t:Bool}(hx:ρ x= .int k a)(hy:ρ y= .int k b)(hz:decide (b≤a)=t)(h:K (.bool t) w):St P ρ ⟨dst,.binOp .geq xt x y yt,ty,pos,after,gd⟩ w K Kp:=by
 subst hz;refine J7 (by rfl) ?_ h;rw[hx,hy,binOp_geq];rfl
theorem St.neg(hx:ρ x= .int k a)(hz:k.wrap (0-a)=z)(h:K (.int k z) w):St P ρ ⟨dst,.unOp .neg xt x,ty,pos,after,gd⟩ w K Kp:=by
 subst hz;refine R7 (v:= .int k (k.wrap (0-a))) ?_ h;simp[execOp,hx,Op.unary,Op.intArith]
theorem Sr{t:Bool}(hx:ρ x= .bool t)(h:K (.bool (!t)) w):St P ρ ⟨dst,.unOp .not xt x,ty,pos,after,gd⟩ w K Kp:=by
 refine R7 (v:= .bool (!t)) ?_ h;simp[execOp,hx,Op.unary]
theorem Tu{s t u:Bool}(hT:P.underlying xt=some .bool)(hx:ρ x= .bool s)(hy:ρ y= .bool t)(hz:(s==t)=u)(h:K (.bool u) w):St P ρ ⟨dst,.binOp .eql xt x y yt,ty,pos,after,gd⟩ w K Kp:=by
 refine J7 (v:= .bool u) ?_ ?_ h
 ·rw[hx];rfl
 ·rw[hx,hy,run_eql_bool w xt s t hT,hz]
theorem SQ{s t u:Bool}(hT:P.underlying xt=some .bool)(hx:ρ x= .bool s)(hy:ρ y= .bool t)(hz:(s != t)=u)(h:K (.bool u) w):St P ρ ⟨dst,.binOp .neq xt x y yt,ty,pos,after,gd⟩ w K Kp:=by
 refine J7 (v:= .bool u) ?_ ?_ h
 ·rw[hx];rfl
 ·rw[hx,hy,run_neq_bool w xt s t hT,←hz];rfl
theorem Um{s t:ByteArray}{u:Bool}(hx:ρ x= .string s)(hy:ρ y= .string t)(hz:Op.bytesLess s.data.toList t.data.toList=u)(h:K (.bool u) w):St P ρ ⟨dst,.binOp .lss xt x y yt,ty,pos,after,gd⟩ w K Kp:=by
 refine J7 (v:= .bool u) ?_ ?_ h
 ·rw[hx];rfl
 ·rw[hx,hy,binOp_string_lss,←hz,ByteArray.toList_eq,ByteArray.toList_eq];rfl
theorem Un{s t:ByteArray}(hx:ρ x= .string s)(hy:ρ y= .string t)(hl:s.size+t.size≤9223372036854775807)(h:K (.string (s++t)) w):St P ρ ⟨dst,.binOp .add xt x y yt,ty,pos,after,gd⟩ w K Kp:=by
 refine J7 (v:= .string (s++t)) ?_ ?_ h
 ·rw[hx];rfl
 ·rw[hx,hy,binOp_string_add]
  have:¬(((s.size+t.size:Nat):Int)>IntKind.i64.max):=by rw[IntKind.max_i64];omega
  simp only[Op.stringOp,this,if_false];rfl
end
theorem R2{src d:TypeId}{x:Operand}{k j:IntKind}{a z:Int}(hs:(P.underlying src).isSome=true)(hd:P.underlying d=some (.int j))(hx:ρ x= .int k a)(hz:j.wrap a=z)(h:K (.int j z) w):
  St P ρ ⟨dst,.convert src d x,ty,pos,after,gd⟩ w K Kp:=by
 subst hz;refine R7 (v:= .int j (j.wrap a)) ?_ h;obtain⟨dd,hd'⟩:=Jag.mp hs;simp[execOp,hx,convert,run_underlying hd',run_underlying hd,Conv.intToInt]
theorem St.len{x:Operand}{t e:TypeId}{a:Option Addr}{n c:Nat}(ht:P.underlying t=some (.slice e))(hx:ρ x= .slice a n c)(h:K (.int .i64 n) w):
  St P ρ ⟨dst,.call {callee:= .builtin .len,args:= #[x],argTypes:= #[t]},ty,pos,after,gd⟩ w K Kp:=by
 refine R7 (v:= .int .i64 n) ?_ h;simp[execOp,resolve,invoke,builtin,Builtin.len_,run_underlying ht,hx,goInt]
theorem Up{x:Operand}{t:TypeId}{s:ByteArray}(ht:P.underlying t=some .string)(hx:ρ x= .string s)(h:K (.int .i64 s.size) w):
  St P ρ ⟨dst,.call {callee:= .builtin .len,args:= #[x],argTypes:= #[t]},ty,pos,after,gd⟩ w K Kp:=by
 refine R7 (v:= .int .i64 s.size) ?_ h;simp[execOp,resolve,invoke,builtin,Builtin.len_,run_underlying ht,hx,goInt]
theorem St.max{x y:Operand}{ts:Array TypeId}{k k':IntKind}{a b z:Int}(hx:ρ x= .int k a)(hy:ρ y= .int k' b)(hz:(if b>a then b else a)=z)(h:K (.int k z) w):
  St P ρ ⟨dst,.call {callee:= .builtin .max,args:= #[x,y],argTypes:=ts},ty,pos,after,gd⟩ w K Kp:=by
 subst hz;refine R7 (v:= .int k (if b>a then b else a)) ?_ h;simp[execOp,resolve,invoke,builtin,hx,hy,run_max_int2]
theorem Tj{x y:Operand}{ts:Array TypeId}{k k':IntKind}{a b z:Int}(hx:ρ x= .int k a)(hy:ρ y= .int k' b)(hz:(if b<a then b else a)=z)(h:K (.int k z) w):
  St P ρ ⟨dst,.call {callee:= .builtin .min,args:= #[x,y],argTypes:=ts},ty,pos,after,gd⟩ w K Kp:=by
 subst hz;refine R7 (v:= .int k (if b<a then b else a)) ?_ h;simp[execOp,resolve,invoke,builtin,hx,hy,run_min_int2]
theorem St.extract{x:Operand}{i:Nat}{vs:Array Value}{v:Value}(hx:ρ x= .tuple vs)(hv:vs[i]? =some v)(h:K v w):St P ρ ⟨dst,.extract x i,ty,pos,after,gd⟩ w K Kp:=by
 refine R7 (v:=v) ?_ h;simp[execOp,hx,Instr.extract,hv]
theorem Tf {k:FuncId} {args:Array Operand} {ts:Array TypeId} {vs:List Value} {fn:Func} (hf:P.funcs[k]? =some fn) (hn:(fn.name == "runtime.NumGoroutine")=false) (hb:fn.body.isNone=false)
  (ha:args.toList.map ρ=vs) (h:Calls P k vs.toArray w fun
   |.returned v,w'=>K v w'
   |.panicked ch,w'=>Kp ch w'
   |.outgrown,_=>False) (he:ρ (.func k)= .func (.func k) #[] #[]):
  St P ρ ⟨dst,.call {callee:= .value (.func k),args:=args,argTypes:=ts},ty,pos,after,gd⟩ w K Kp:=by
 unfold St;have hr:(execOp ρ ⟨dst,.call {callee:= .value (.func k),args:=args,argTypes:=ts},ty,pos,after,gd⟩).run P w= .ok (.enter k vs.toArray) w:=by
  have ha':args.map ρ=vs.toArray:=by rw[←ha];apply VC;simp
  have hn':¬fn.name= "runtime.NumGoroutine" :=by intro e;rw[e] at hn;simp at hn
  simp[execOp,resolve,Deferred.ofValue,he,invoke,callFunc,hf,ha',hn'];intro e;rw[e] at hb;cases hb
 rw[hr];exact h
theorem Ti {x:Operand} {k:FuncId} {cap:Array Value} {args:Array Operand} {ts:Array TypeId} {vs:List Value} {fn:Func} (hx:ρ x= .func (.func k) #[] cap) (hf:P.funcs[k]? =some fn) (hn:(fn.name == "runtime.NumGoroutine")=false) (hb:fn.body.isNone=false)
  (ha:args.toList.map ρ++cap.toList=vs) (h:Calls P k vs.toArray w fun
   |.returned v,w'=>K v w'
   |.panicked ch,w'=>Kp ch w'
   |.outgrown,_=>False):
  St P ρ ⟨dst,.call {callee:= .value x,args:=args,argTypes:=ts},ty,pos,after,gd⟩ w K Kp:=by
 unfold St;have hr:(execOp ρ ⟨dst,.call {callee:= .value x,args:=args,argTypes:=ts},ty,pos,after,gd⟩).run P w= .ok (.enter k vs.toArray) w:=by
  have ha':args.map ρ++cap=vs.toArray:=by rw[←ha];apply VC;simp
  have hn':¬fn.name= "runtime.NumGoroutine" :=by intro e;rw[e] at hn;simp at hn
  simp[execOp,resolve,Deferred.ofValue,hx,invoke,callFunc,hf,ha',hn'];intro e;rw[e] at hb;cases hb
 rw[hr];exact h
theorem Tn{x:Operand}{t:TypeId}(ht:P.concrete t=true)(h:K (.iface t (ρ x)) w):St P ρ ⟨dst,.makeInterface t x,ty,pos,after,gd⟩ w K Kp:=by
 refine R7 (v:= .iface t (ρ x)) ?_ h;simp[execOp,run_makeInterface w t (ρ x) ht]
theorem Tq{x i:Operand}{t:TypeId}{s:ByteArray}{k:IntKind}{a:Int}{j:Nat}(ht:P.underlying t=some .string)(hx:ρ x= .string s)(hi:ρ i= .int k a)(ha:a=j)(hj:j<s.size)(h:K (.int .u8 (s[j]'hj).toNat) w):
  St P ρ ⟨dst,.index t x i,ty,pos,after,gd⟩ w K Kp:=by
 subst ha;refine R7 (v:= .int .u8 (s[j]'hj).toNat) ?_ h
 have:s[j]? =some (s[j]'hj):=ByteArray.getElem?_lt' s j hj
 simp[execOp,hx,hi,Instr.index,asIntOf,run_underlying ht,this]
theorem S0{x:Operand}{a:Addr}(hx:ρ x= .pointer (some a))(h:K (.pointer (some a)) w):St P ρ ⟨dst,.nilCheck x,ty,pos,after,gd⟩ w K Kp:=by
 refine R7 (v:= .pointer (some a)) ?_ h;simp[execOp,hx]
def Ye(P:Program)(s:TypeId)(i:Nat):Option Nat:=
 match P.underlying s with
 |some (.struct fs)=>match fs[i]? with
  |some f=>match P.info? f.type with
   |some inf=>if inf.size=0 then none else some f.offset
   |none=>none
  |none=>none
 |_=>none
theorem RI{x:Operand}{s i off:Nat}{b o:Nat}(hs:Ye P s i=some off)(hx:ρ x= .pointer (some ⟨b,o,none⟩))(h:K (.pointer (some ⟨b,o+off,none⟩)) w):
  St P ρ ⟨dst,.fieldAddr s x i,ty,pos,after,gd⟩ w K Kp:=by
 refine R7 (v:= .pointer (some ⟨b,o+off,none⟩)) ?_ h;unfold Ye at hs;split at hs
 ·rename_i fs hu;split at hs
  ·rename_i f hf;split at hs
   ·rename_i inf hi;split at hs
    ·cases hs
    ·rename_i hz;cases hs;simp[execOp,hx,Instr.fieldAt,run_underlying hu,hf,Instr.sureAddr,fieldPlace,sizeOf,typeInfo,hi,hz,Addr.add_lit]
   ·cases hs
  ·cases hs
 ·cases hs
theorem SI {x i:Operand} {t e sz:Nat} {b o n c:Nat} {k:IntKind} {a:Int} {j:Nat} {inf:TypeInfo} (ht:P.underlying t=some (.slice e)) (hi:P.info? e=some inf) (hsz:inf.size=sz)
  (hx:ρ x= .slice (some ⟨b,o,none⟩) n c) (hy:ρ i= .int k a) (ha:a=j) (hj:j<n) (h:K (.pointer (some ⟨b,o+j*sz,none⟩)) w):
  St P ρ ⟨dst,.indexAddr t x i,ty,pos,after,gd⟩ w K Kp:=by
 subst ha;subst hsz;refine R7 (v:= .pointer (some ⟨b,o+j*inf.size,none⟩)) ?_ h;simp[execOp,hx,hy,Instr.indexAt,asIntOf,run_underlying ht,sizeOf,typeInfo,hi,hj,Addr.add_lit]
def Yo(P:Program)(t:TypeId):Bool:=match P.underlying t with
 |none|some (.struct _)|some (.array _ _)=>false
 |some _=>true
def V8(P:Program)(t:TypeId)(sz:Nat):Bool:=(match P.underlying t with
 |some (.struct _)|some (.array _ _)=>true
 |_=>false)&&(match P.info? t with|some i=>i.size==sz|none=>false)
theorem K8{t:TypeId}(h:Yo P t=true):(isAgg t).run P w= .ok false w:=by
 unfold Yo at h;split at h
 ·cases h
 ·cases h
 ·cases h
 ·rename_i d e f hu;simp only[isAgg,Sem.run_bind,run_underlying hu,Result.andThen_ok];cases d<;>first|rfl|(exfalso;first|exact e _ rfl|exact f _ _ rfl)
theorem Ky{t:TypeId}{sz:Nat}(h:V8 P t sz=true):(isAgg t).run P w= .ok true w∧(sizeOf t).run P w= .ok sz w:=by
 simp only[V8,VJ] at h;obtain⟨e,d⟩:=h;constructor
 ·split at e
  ·rename_i hu;simp[isAgg,run_underlying hu]
  ·rename_i hu;simp[isAgg,run_underlying hu]
  ·cases e
 ·split at d
  ·rename_i i hi
   have:i.size=sz:=by simpa using d
   simp[sizeOf,typeInfo,hi,this]
  ·cases d
theorem Sa{x:Operand}{t:TypeId}{a:Addr}{v:Value}(ht:Yo P t=true)(hx:ρ x= .pointer (some a))(hc:w.cell? a=some v)(h:K v w):
  St P ρ ⟨dst,.load t x,ty,pos,after,gd⟩ w K Kp:=by
 refine R7 (v:=v) ?_ h;simp[execOp,hx,Instr.loadAt,Instr.sureAddr,loadVar,K8 ht,hc]
theorem Sv {x:Operand} {t:TypeId} {sz b o:Nat} {cs:List Value} (ht:V8 P t sz=true) (hx:ρ x= .pointer (some ⟨b,o,none⟩)) (hl:cs.length=sz)
  (hc:∀j v,cs[j]? =some v→w.cell? ⟨b,o+j,none⟩=some v) (h:K (.agg cs.toArray) w):
  St P ρ ⟨dst,.load t x,ty,pos,after,gd⟩ w K Kp:=by
 refine R7 (v:= .agg cs.toArray) ?_ h
 have:=run_loadCells_list (P:=P) (w:=w) ⟨b,o,none⟩ cs (fun j v hv=>by rw[Addr.add_lit];exact hc j v hv)
 rw[hl] at this;simp[execOp,hx,Instr.loadAt,Instr.sureAddr,loadVar,Ky ht,this]
def Blk(w:World)(g:Nat)(C:List Value)(T:TypeId):Prop:=w.heap[g]? =some (.cells C.toArray T (0,0))
theorem Blk.cell{g:Nat}{C:List Value}{T:TypeId}(h:Blk w g C T){j:Nat}{v:Value}(hv:C[j]? =some v):w.cell? ⟨g,j,none⟩=some v:=by
 rw[cell_of_row w g j C.toArray T (0,0) h];simpa using hv
theorem Blk.cells{g:Nat}{C:List Value}{T:TypeId}(h:Blk w g C T){o:Nat}{cs:List Value}(hcs:(C.drop o).take cs.length=cs):∀j v,cs[j]? =some v→w.cell? ⟨g,o+j,none⟩=some v:=by
 intro j v hv;refine h.cell ?_;rw[←hcs,W1] at hv;split at hv
 ·rw[WX] at hv;exact hv
 ·cases hv
theorem Blk.lt{g:Nat}{C:List Value}{T:TypeId}(h:Blk w g C T):g<w.heap.size:=(VE.1 h).1
theorem Blk.same{g:Nat}{C:List Value}{T:TypeId}{w':World}(h:Blk w g C T)(hs:w'.heap[g]? =w.heap[g]?):Blk w' g C T:=by unfold Blk;rw[hs];exact h
def Xd(w:World)(g:Nat)(C:List Value):World:=w.setRow g C.toArray
theorem Blk.set{g:Nat}{C C':List Value}{T:TypeId}(h:Blk w g C T):Blk (Xd w g C') g C' T:=setRow_heap w g _ _ T (0,0) h
theorem yh{g k:Nat}{C:List Value}(h:k≠g):(Xd w g C).heap[k]? =w.heap[k]? :=setRow_other w g k _ h
theorem S5 {x y:Operand} {t:TypeId} {sz g o:Nat} {inf:TypeInfo} {C:List Value} {T:TypeId} {vs:List Value} (hi:P.info? t=some inf) (hsz:inf.size=sz)
  (hx:ρ x= .pointer (some ⟨g,o,none⟩)) (hy:(ρ y).cells=vs.toArray) (hl:vs.length=sz) (hb:Blk w g C T) (hfit:o+sz≤C.length) (d:vs.all Value.oneCell'=true)
  (h:∀C',C'=C.take o++vs++C.drop (o+vs.length)→K undef (Xd w g C')):St P ρ ⟨dst,.store t x y,ty,pos,after,gd⟩ w K Kp:=by
 refine Tk ?_ (h _ rfl);have hst:=run_storeCells_at P g o T vs 0 C.toArray w hb (by simp;omega) (fun v hv=>WD.1 d v hv);simp only[YH] at hst;simp[execOp,hx,hy,Instr.storeAt,Instr.sureAddr,storeVar,sizeOf,typeInfo,hi,hsz,hl,hst,Xd]
theorem TH{e:TypeId}{x:Operand}{vs:List Value}(hx:(ρ x).cells=vs.toArray)(h:K (.pointer (some ⟨w.heap.size,0,none⟩)) (w.alloc (.cells vs.toArray e (0,0)))):
  St P ρ ⟨dst,.box e x,ty,pos,after,gd⟩ w K Kp:=by
 refine R7 (v:= .pointer (some ⟨w.heap.size,0,none⟩)) ?_ h;simp[execOp,Instr.box,newVar,newRow,hx]
theorem St.alloc{e:TypeId}{inf:TypeInfo}{z:Value}{vs:List Value}(hi:P.info? e=some inf)(hz:inf.zero=some z)(hv:z.cells=vs.toArray)(h:K (.pointer (some ⟨w.heap.size,0,none⟩)) (w.alloc (.cells vs.toArray e (0,0)))):
  St P ρ ⟨dst,.alloc e,ty,pos,after,gd⟩ w K Kp:=by
 refine R7 (v:= .pointer (some ⟨w.heap.size,0,none⟩)) ?_ h;simp[execOp,Instr.alloc,zeroValue,typeInfo,hi,hz,newVar,newRow,hv]
theorem Blk.alloc{C:List Value}{T:TypeId}:Blk (w.alloc (.cells C.toArray T (0,0))) w.heap.size C T:=heap_alloc_new w _
theorem Yz{o:Obj}{k:Nat}(h:k<w.heap.size):(w.alloc o).heap[k]? =w.heap[k]? :=Below.heap_alloc w o k h
end
end Go.Wf
namespace Go.Wf
structure GInt where
 neg:Bool
 mag:List Nat
 deriving DecidableEq,Inhabited
structure GRat where
 num:GInt
 den:GInt
 deriving DecidableEq,Inhabited
inductive GExpr where
 |mk (op:Int) (n:List Int) (c:GRat) (name:List UInt8) (args:List GExpr)
 deriving Inhabited
def trim:List Nat→List Nat
 |[]=>[]
 |d::r=>match trim r with
  |[]=>if d=0 then [] else [d]
  |t=>d::t
theorem ze:∀l:List Nat,trim (l++[0])=trim l
 |[]=>by simp[trim]
 |d::r=>by rw[WE,trim,trim,ze r]
theorem lG{d:Nat}(h:d≠0):∀l:List Nat,trim (l++[d])=l++[d]
 |[]=>by simp[trim,h]
 |e::r=>by
  rw[WE,trim,lG h r];cases r<;>rfl
theorem qm(m:List Nat)(j:Nat)(h:j<m.length):m.take (j+1)=m.take j++[m.getD j 0]:=by
 rw[List.take_succ_eq_append_getElem h,UJ,UL h];rfl
theorem GG{m:List Nat}{i j:Nat}(hj:j≤m.length)(hi:i<j):(m.take j)[i]? =some (m.getD i 0):=by
 rw[W1,if_pos hi,UJ,UL (by omega)];rfl
theorem lV{m:List Nat}{j:Nat}(hj:j≤m.length)(a:(0:Int)<(j:Int))(hz:((m.getD (j-1) 0:Nat):Int)=0)(h:trim (m.take j)=trim m):trim (m.take (j-1))=trim m:=by
 obtain⟨i,rfl⟩:∃i,j=i+1:=⟨j-1,by omega⟩;rw[YF] at hz ⊢;have hz':m.getD i 0=0:=by omega
 rw[qm m i (by omega),hz',ze] at h;exact h
theorem pD{m:List Nat}{j:Nat}(_hj:j≤m.length)(a:¬(0:Int)<(j:Int))(h:trim (m.take j)=trim m):m.take j=trim m:=by
 have:j=0:=by omega
 subst this;rw[←h];rfl
theorem lQ{m:List Nat}{j:Nat}(hj:j≤m.length)(a:(0:Int)<(j:Int))(hz:¬((m.getD (j-1) 0:Nat):Int)=0)(h:trim (m.take j)=trim m):m.take j=trim m:=by
 obtain⟨i,rfl⟩:∃i,j=i+1:=⟨j-1,by omega⟩;rw[YF] at hz;have hz':m.getD i 0≠0:=by omega
 rw[qm m i (by omega),lG hz'] at h;rw[qm m i (by omega)];exact h
def val:List Nat→Nat
 |[]=>0
 |d::r=>d+4294967296*val r
def Jx:Nat→Nat→List Nat
 |0,_=>[]
 |n+1,v=>v%4294967296::Jx n (v/4294967296)
def digs(v:Nat):List Nat:=trim (Jx v v)
def Jp(l:List Nat):Prop:=∀u∈l,u<4294967296
theorem J9:Jp []:=fun _ h=>by cases h
theorem Zs{d:Nat}{l:List Nat}(hd:d<4294967296)(h:Jp l):Jp (d::l):=by
 intro u hu;cases hu with
 |head=>exact hd
 |tail _ hu=>exact h u hu
theorem Yc{l m:List Nat}(h:Jp l)(k:Jp m):Jp (l++m):=by
 intro u hu;rcases List.mem_append.1 hu with hu|hu
 ·exact h u hu
 ·exact k u hu
theorem Ve{l:List Nat}(h:Jp l)(n:Nat):Jp (l.take n):=fun u hu=>h u (XP hu)
theorem zi{l:List Nat}(h:Jp l)(n:Nat):Jp (l.drop n):=fun u hu=>h u (List.mem_of_mem_drop hu)
theorem Ka(n:Nat):Jp (List.replicate n 0):=fun u hu=>by rw[List.eq_of_mem_replicate hu];omega
theorem Jf{l:List Nat}(h:Jp l)(i:Nat):l.getD i 0<4294967296:=by
 rw[UJ];cases hi:l[i]? with
 |none=>simp
 |some u=>exact h u (XO hi)
theorem Jg:∀n v,(Jx n v).length=n
 |0,_=>rfl
 |n+1,v=>by rw[Jx,Uw,Jg n]
theorem J1:∀n v,Jp (Jx n v)
 |0,_=>J9
 |n+1,v=>Zs (UI _ (by omega)) (J1 n _)
theorem Xv:∀l m:List Nat,val (l++m)=val l+4294967296^l.length*val m
 |[],m=>by simp[val]
 |d::l,m=>by
  rw[WE,val,val,Xv l m,Uw,UV];rw[UX,←U3,U6 (4294967296^l.length) 4294967296];omega
theorem ii(n:Nat):val (List.replicate n 0)=0:=by
 induction n with
 |zero=>rfl
 |succ n ih=>rw[XU,val,ih]
theorem Z3(l:List Nat)(d:Nat):val (l++[d])=val l+4294967296^l.length*d:=by rw[Xv];simp[val]
theorem Zo:∀l:List Nat,Jp l→val l<4294967296^l.length
 |[],_=>by simp[val]
 |d::l,h=>by
  have a:d<4294967296:=h d (by simp);have b:=Zo l fun u hu=>h u (by simp[hu]);rw[val,Uw,UV];omega
theorem Ze:∀n v,v<4294967296^n→val (Jx n v)=v
 |0,v,h=>by simp at h;subst h;rfl
 |n+1,v,h=>by
  rw[Jx,val,Ze n (v/4294967296) (by rw[UV] at h;exact YR (by rw[U6];exact h))];omega
theorem md:∀l:List Nat,Jp l→Jx l.length (val l)=l
 |[],_=>rfl
 |d::l,h=>by
  have b:d<4294967296:=h d (by simp);have a:=md l fun u hu=>h u (by simp[hu]);rw[Uw,Jx,val];rw[show(d+4294967296*val l)%4294967296=d by omega,show(d+4294967296*val l)/4294967296=val l by omega,a]
theorem Z1:∀l:List Nat,val (trim l)=val l
 |[]=>rfl
 |d::r=>by
  have:=Z1 r
  rw[trim];split
  ·rename_i h;rw[h] at this;simp only[val] at this;split
   ·rename_i hd;simp only[val];omega
   ·simp only[val];omega
  ·simp only[val];omega
theorem Y8:∀l:List Nat,trim l=[]↔val l=0
 |[]=>by simp[trim,val]
 |d::r=>by
  have:=Y8 r
  rw[trim,val];split
  ·rename_i h;have hv:=this.1 h;split
   ·rename_i hd;simp[hd,hv]
   ·rename_i hd;simp;omega
  ·rename_i h;constructor
   ·intro e;cases e
   ·intro e;exact absurd (this.2 (by omega)) h
theorem Jr:∀l:List Nat,(trim l).length≤l.length
 |[]=>UM _
 |d::r=>by
  have:=Jr r
  rw[trim];split
  ·split<;>simp
  ·simp only[Uw];omega
theorem J5:∀ {l:List Nat},Jp l→Jp (trim l)
 |[],_=>J9
 |d::r,h=>by
  have hd:d<4294967296:=h d (by simp);have hr:=J5 (l:=r) fun u hu=>h u (by simp[hu]);rw[trim];split
  ·split
   ·exact J9
   ·exact Zs hd J9
  ·exact Zs hd hr
theorem nY:∀ {l m:List Nat},Jp l→Jp m→val l=val m→trim l=trim m
 |[],m,_,_,h=>by rw[(Y8 m).2 h.symm];rfl
 |d::r,[],_,_,h=>by rw[(Y8 (d::r)).2 h];rfl
 |d::r,e::q,hl,hm,h=>by
  have a:d<4294967296:=hl d (by simp);have b:e<4294967296:=hm e (by simp);rw[val,val] at h;have hde:d=e:=by omega
  have:=nY (l:=r) (m:=q) (fun u hu=>hl u (by simp[hu])) (fun u hu=>hm u (by simp[hu])) (by omega)
  rw[trim,trim,this,hde]
theorem vM(v:Nat):v<4294967296^v:=Nat.lt_pow_self (by omega)
theorem Jw(v:Nat):val (digs v)=v:=by rw[digs,Z1,Ze v v (vM v)]
theorem Zv(v:Nat):Jp (digs v):=J5 (J1 _ _)
theorem Vy{l:List Nat}(h:Jp l):trim l=digs (val l):=by
 unfold digs;exact nY h (J1 _ _) (by rw[Ze _ _ (vM _)])
theorem zh{l:List Nat}{v:Nat}(h:Jp l)(hv:val l=v):trim l=digs v:=by rw[Vy h,hv]
theorem Z9(v:Nat):trim (digs v)=digs v:=by rw[Vy (Zv v),Jw]
theorem Ks{l:List Nat}(h:Jp l):trim (trim l)=trim l:=by rw[Vy h,Z9]
theorem rO:digs 0=[]:=rfl
theorem Qv(v:Nat):digs v=[]↔v=0:=by
 unfold digs;rw[Y8,Ze _ _ (vM v)]
theorem Jt{v n:Nat}(h:v<4294967296^n):(digs v).length≤n:=by
 have:digs v=trim (Jx n v):=(zh (J1 n v) (Ze n v h)).symm
 rw[this];exact UC (Jr _) (by rw[Jg];exact UM _)
theorem Vv(v:Nat):v<4294967296^(digs v).length:=by
 have:=Zo _ (Zv v);rwa [Jw] at this
theorem iQ{v:Nat}(a:v≠0)(h:v<4294967296):digs v=[v]:=by
 have:trim [v]=digs v:=zh (Zs h J9) (by simp[val])
 rw[←this];simp[trim,a]
theorem BI{v:Nat}(a:4294967296≤v)(h:v<18446744073709551616):digs v=[v%4294967296,v/4294967296]:=by
 have:trim [v%4294967296,v/4294967296]=digs v:=zh (Zs (UI _ (by omega)) (Zs (by omega) J9)) (by simp[val];omega)
 rw[←this];simp[trim,show ¬v/4294967296=0 by omega]
theorem Jn(l:List Nat)(i:Nat):val (l.take (i+1))=val (l.take i)+4294967296^i*l.getD i 0:=by
 rcases U2 i l.length with h|h
 ·rw[qm l i h,Z3,UH,ZF (by omega)]
 ·rw[UU (by omega),UU h,UJ,U5 h];simp
theorem Yl{l:List Nat}{n v:Nat}(hs:Jp l)(hl:l.length=n)(hv:val l=v):l=Jx n v:=by
 rw[←hl,←hv,md l hs]
theorem K6{n v:Nat}(h:v<4294967296^n):trim (Jx n v)=digs v:=zh (J1 n v) (Ze n v h)
def Jh(b:Bool)(n:Nat):Int:=if b then -(n:Int) else n
def GInt.toZ(a:GInt):Int:=Jh a.neg (val a.mag)
def ofZ(z:Int):GInt:=⟨decide (z<0),digs z.natAbs⟩
def mkSg(neg:Bool)(m:List Nat):GInt:=⟨neg&&decide (0<(trim m).length),trim m⟩
end Go.Wf
namespace Go.Wf
open Go Go.RowKit
structure Tr (X:Nat→Prop) (w:World) (X':Nat→Prop) (w':World):Prop where
 sub:∀b,b<w.heap.size→X' b→X b
 blk:∀b,b<w.heap.size→¬X b→w'.heap[b]? =w.heap[b]?
 size:w.heap.size≤w'.heap.size
theorem Tr.refl(X:Nat→Prop)(w:World):Tr X w X w:=⟨fun _ _ h=>h,fun _ _ _=>rfl,UM _⟩
theorem Tr.trans{X Y Z:Nat→Prop}{a b c:World}(h:Tr X a Y b)(k:Tr Y b Z c):Tr X a Z c:=
 ⟨fun i hi hz=>h.sub i hi (k.sub i (UB hi h.size) hz),
  fun i hi hx=>(k.blk i (UB hi h.size) (fun hy=>hx (h.sub i hi hy))).trans (h.blk i hi hx),
  UC h.size k.size⟩
theorem Tr.weak{X X':Nat→Prop}{w:World}(h:∀b,X' b→X b):Tr X w X' w:=⟨fun b _ hb=>h b hb,fun _ _ _=>rfl,UM _⟩
theorem Tr.below{X:Nat→Prop}{w w':World}(h:Below w.heap.size w w'):Tr X w X w':=⟨fun _ _ h=>h,fun b hb _=>h.block b hb,h.size⟩
theorem Tr.cell{X X':Nat→Prop}{w w':World}(h:Tr X w X' w'){a:Addr}{v:Value}(hx:¬X a.block)(hc:w.cell? a=some v):w'.cell? a=some v:=
 (World.cell?_of_block (h.blk a.block (World.block_lt_of_cell? w a hc) hx)).trans hc
structure Ty (α:Type) where
 sz:Nat
 pos:0<sz
 rd:(Nat→Prop)→World→List Value→α→Prop
 len:∀ {X w cs a},rd X w cs a→cs.length=sz
 one:∀ {X w cs a},rd X w cs a→∀u∈cs,u.oneCell'=true
 tr:∀ {X w X' w' cs a},rd X w cs a→Tr X w X' w'→rd X' w' cs a
section
variable {α:Type} (T:Ty α)
def RS(X:Nat→Prop)(w:World)(v:Value)(l:List α):Prop:=
 ∃a c,v= .slice a l.length c∧l.length≤c∧c≤maxLen∧(l=[]∨∃b o,a=some ⟨b,o,none⟩∧¬X b∧
  ∀i x,l[i]? =some x→∃cs,T.rd X w cs x∧∀j u,cs[j]? =some u→w.cell? ⟨b,o+i*T.sz+j,none⟩=some u)
end
section
variable {α:Type} {T:Ty α} {X X':Nat→Prop} {w w':World} {v:Value} {l:List α}
theorem RS.tr(h:RS T X w v l)(t:Tr X w X' w'):RS T X' w' v l:=by
 obtain⟨a,c,rfl,e,f,d⟩:=h;refine⟨a,c,rfl,e,f,?_⟩;by_cases hl:l=[]
 ·exact .inl hl
 rcases d with d|⟨b,o,rfl,hx,d⟩
 ·exact .inl d
 ·refine .inr ⟨b,o,rfl,?_,?_⟩
  ·have hpos:0<l.length:=W5.2 hl;obtain⟨cs,hr,hc⟩:=d 0 l[0] (by simp[hpos]);have hp:0<cs.length:=by rw[T.len hr];exact T.pos
   have:=hc 0 cs[0] (by simp[hp])
   have hlt:=World.block_lt_of_cell? w _ this;exact fun hx'=>hx (t.sub b hlt hx')
  ·intro i x hi;obtain⟨cs,hr,hc⟩:=d i x hi;exact⟨cs,T.tr hr t,fun j u hu=>t.cell hx (hc j u hu)⟩
theorem RS.len(h:RS T X w v l):∃a c,v= .slice a l.length c∧l.length≤c∧c≤maxLen:=by
 obtain⟨a,c,rfl,b,d,_⟩:=h;exact⟨a,c,rfl,b,d⟩
theorem RS.le{a:Option Addr}{n c:Nat}(h:RS T X w (.slice a n c) l):n=l.length∧l.length≤c∧c≤maxLen:=by
 obtain⟨a',c',e,b,d,_⟩:=h;cases e;exact⟨rfl,b,d⟩
theorem RS.nil:RS T X w (.slice none 0 0) []:=⟨none,0,rfl,UM _,by unfold maxLen;omega,.inl rfl⟩
theorem RS.one(h:RS T X w v l):v.oneCell'=true:=by obtain⟨a,c,rfl,_⟩:=h;rfl
theorem RS.at{a:Option Addr}{n c:Nat}(h:RS T X w (.slice a n c) l){i:Nat}{x:α}(hi:l[i]? =some x):
  ∃b o cs,a=some ⟨b,o,none⟩∧¬X b∧T.rd X w cs x∧∀j u,cs[j]? =some u→w.cell? ⟨b,o+i*T.sz+j,none⟩=some u:=by
 obtain⟨a',c',e,f,g,d⟩:=h;cases e;rcases d with d|⟨b,o,rfl,hx,d⟩
 ·subst d;simp at hi
 ·obtain⟨cs,hr,hc⟩:=d i x hi;exact⟨b,o,cs,rfl,hx,hr,hc⟩
theorem RS.sub{a:Option Addr}{n c:Nat}(h:RS T X w (.slice a n c) l){i j:Nat}(hij:i≤j)(hj:j≤l.length):
  RS T X w (.slice (if c=i then a else a.map (·.add (i*T.sz))) (j-i) (c-i)) ((l.take j).drop i):=by
 obtain⟨a',c',e,f,g,d⟩:=h;cases e;refine⟨if c=i then a else a.map (·.add (i*T.sz)),c-i,?_,?_,?_,?_⟩
 ·have:((l.take j).drop i).length=j-i:=by rw[UG,UH];omega
  rw[this]
 ·rw[UG,UH];omega
 ·omega
 ·by_cases he:(l.take j).drop i=[]
  ·exact .inl he
  ·have hlt:i<j:=by
    rcases U2 i j with h|h
    ·exact h
    ·exact absurd (UY (by rw[UH];omega)) he
   rcases d with d|⟨b,o,rfl,hx,d⟩
   ·subst d;simp at he
   ·have hci:¬c=i:=by omega
    refine .inr ⟨b,o+i*T.sz,?_,hx,?_⟩
    ·simp only[hci,if_false,Jai,Addr.add_lit]
    ·intro k x hk;rw[WX,W1] at hk;split at hk
     ·obtain⟨cs,hr,hc⟩:=d (i+k) x hk;refine⟨cs,hr,fun m u hu=>?_⟩
      have:=hc m u hu
      rw[YE] at this;rw[show o+i*T.sz+k*T.sz+m=o+(i*T.sz+k*T.sz)+m by omega];exact this
     ·cases hk
end
def Jd:Ty Nat where
 sz:=1
 pos:=by omega
 rd _ _ cs n:=cs=[.int .u32 n]∧n<4294967296
 len h:=by rw[h.1];rfl
 one h:=by rw[h.1];intro u hu;simp at hu;subst hu;rfl
 tr h _:=h
def Kz:Ty Int where
 sz:=1
 pos:=by omega
 rd _ _ cs n:=cs=[.int .i64 n]∧ -9223372036854775808≤n∧n≤9223372036854775807
 len h:=by rw[h.1];rfl
 one h:=by rw[h.1];intro u hu;simp at hu;subst hu;rfl
 tr h _:=h
def str(l:List UInt8):Value:= .string ⟨l.toArray⟩
def N1(X:Nat→Prop)(w:World)(cs:List Value)(x:GInt):Prop:=∃s,cs=[.bool x.neg,s]∧RS Jd X w s x.mag
def Jo:Ty GInt where
 sz:=2
 pos:=by omega
 rd:=N1
 len h:=by obtain⟨s,rfl,_⟩:=h;rfl
 one h:=by
  obtain⟨s,rfl,h⟩:=h;intro u hu;simp at hu;rcases hu with rfl|rfl
  ·rfl
  ·exact h.one
 tr h t:=by obtain⟨s,rfl,h⟩:=h;exact⟨s,rfl,h.tr t⟩
def Oj(X:Nat→Prop)(w:World)(cs:List Value)(x:GRat):Prop:=
 ∃s t,cs=[.bool x.num.neg,s,.bool x.den.neg,t]∧RS Jd X w s x.num.mag∧RS Jd X w t x.den.mag
def Jj:Ty GRat where
 sz:=4
 pos:=by omega
 rd:=Oj
 len h:=by obtain⟨s,t,rfl,_⟩:=h;rfl
 one h:=by
  obtain⟨s,t,rfl,h,k⟩:=h;intro u hu;simp at hu;rcases hu with rfl|rfl|rfl|rfl
  ·rfl
  ·exact h.one
  ·rfl
  ·exact k.one
 tr h t:=by obtain⟨s,s',rfl,h,k⟩:=h;exact⟨s,s',rfl,h.tr t,k.tr t⟩
def RV{α:Type}(T:Ty α)(X:Nat→Prop)(w:World)(v:Value)(x:α):Prop:=∃cs,v= .agg cs.toArray∧T.rd X w cs x
theorem RV.tr{α:Type}{T:Ty α}{X X':Nat→Prop}{w w':World}{v:Value}{x:α}(h:RV T X w v x)(t:Tr X w X' w'):RV T X' w' v x:=by
 obtain⟨cs,rfl,h⟩:=h;exact⟨cs,rfl,T.tr h t⟩
structure Bs where
 w:World
 M:Nat→Prop
instance:Coe World Bs:=⟨fun w=>⟨w,fun _=>False⟩⟩
abbrev Bs.heap(B:Bs):=B.w.heap
structure Bel (B:Bs) (w:World):Prop where
 os:w.os=B.w.os
 tape:w.tape=B.w.tape
 output:w.output=B.w.output
 size:B.heap.size≤w.heap.size
 block:∀k,k<B.heap.size→¬B.M k→w.heap[k]? =B.heap[k]?
theorem Bel.refl(B:Bs):Bel B B.w:=⟨rfl,rfl,rfl,UM _,fun _ _ _=>rfl⟩
theorem Bel.trans{B:Bs}{w w':World}(h:Bel B w)(k:Below B.heap.size w w'):Bel B w':=
 ⟨k.os.trans h.os,k.tape.trans h.tape,k.output.trans h.output,UC h.size k.size,fun i hi hm=>(k.block i hi).trans (h.block i hi hm)⟩
theorem Bel.turn{B:Bs}{w w':World}{g:Nat}(h:Bel B w)(k:Bel ⟨w,(· =g)⟩ w')(hg:B.heap.size≤g∨B.M g):Bel B w':=
 ⟨k.os.trans h.os,k.tape.trans h.tape,k.output.trans h.output,UC h.size k.size,
  fun i hi hm=>(k.block i (UB hi h.size) (fun e=>hg.elim (fun q=>by subst e;omega) (fun q=>hm (e▸q)))).trans (h.block i hi hm)⟩
structure Cx (X0:Nat→Prop) (w0:Bs) (x y:Nat→Prop) (w:World):Prop where
 below:Bel w0 w
 base:∀b,X0 b→x b
 bd:∀b,x b→b<w.heap.size
 yx:∀b,y b→x b
structure Sp (x y:Nat→Prop) (w:World) (x' y':Nat→Prop) (w':World) (ch:Nat→Prop):Prop where
 tx:Tr x w x' w'
 ty:Tr y w y' w'
 up:∀b,y b→y' b
 same:∀b,b<w.heap.size→¬ch b→w'.heap[b]? =w.heap[b]?
structure Own (w0:Bs) (y:Nat→Prop) (w:World) (g:Nat) (C:List Value) (T:TypeId):Prop where
 mem:y g
 ge:w0.heap.size≤g∨w0.M g
 blk:Blk w g C T
def Zt:Nat→Prop:=fun _=>False
theorem Own.sp{w0:Bs}{x y x' y':Nat→Prop}{w w':World}{ch:Nat→Prop}{g:Nat}{C:List Value}{T:TypeId}(h:Own w0 y w g C T)(s:Sp x y w x' y' w' ch)(hn:¬ch g):Own w0 y' w' g C T:=
 ⟨s.up _ h.mem,h.ge,h.blk.same (s.same g h.blk.lt hn)⟩
theorem Own.spn{w0:Bs}{x y x' y':Nat→Prop}{w w':World}{g:Nat}{C:List Value}{T:TypeId}(h:Own w0 y w g C T)(s:Sp x y w x' y' w' Zt):Own w0 y' w' g C T:=h.sp s id
theorem Own.spo{w0:Bs}{x y x' y':Nat→Prop}{w w':World}{g g':Nat}{C:List Value}{T:TypeId}(h:Own w0 y w g C T)(s:Sp x y w x' y' w' (· =g'))(hn:g≠g'):Own w0 y' w' g C T:=h.sp s hn
theorem RS.sp{α:Type}{T:Ty α}{x y x' y':Nat→Prop}{w w':World}{ch:Nat→Prop}{v:Value}{l:List α}(h:RS T x w v l)(s:Sp x y w x' y' w' ch):RS T x' w' v l:=h.tr s.tx
def Ret(w:World)(Φ:Value→World→Prop):Ending→World→Prop
 |.returned v,w'=>Φ v w'∧Below w.heap.size w w'
 |_,_=>False
def RetM(w:World)(g:Nat)(Φ:Value→World→Prop):Ending→World→Prop
 |.returned v,w'=>Φ v w'∧Bel ⟨w,(· =g)⟩ w'
 |_,_=>False
def Ja(P:Program)(k:FuncId):Bool:=match P.funcs[k]? with
 |some fn=> !(fn.name == "runtime.NumGoroutine") && !fn.body.isNone
 |none=>false
def Zf(P:Program)(t:TypeId):Option (Value×Nat×Nat):=(P.info? t).bind fun i=>i.zero.map fun z=>(z,i.size,i.bytes)
theorem Jk{P:Program}{t:TypeId}{z:Value}{s b:Nat}(h:Zf P t=some (z,s,b)):∃i,P.info? t=some i∧i.zero=some z∧i.size=s∧i.bytes=b:=by
 unfold Zf at h;cases hi:P.info? t with
 |none=>rw[hi] at h;cases h
 |some i=>
  rw[hi] at h;simp only[Jae,Jah] at h;obtain⟨z',hz,e⟩:=h;cases e;exact⟨i,rfl,hz,rfl,rfl⟩
section
variable {X0 x y:Nat→Prop} {w0:Bs} {w w':World}
theorem Cx.start{X0:Nat→Prop}{w0:World}(h:∀b,X0 b→b<w0.heap.size):Cx X0 w0 X0 Zt w0:=⟨Bel.refl _,fun _ h=>h,h,fun _ h=>h.elim⟩
theorem Cx.next(C:Cx X0 w0 x y w)(h:Below w.heap.size w w'):Cx X0 w0 x y w'∧Sp x y w x y w' Zt:=by
 have hle:=C.below.size;refine⟨⟨C.below.trans (h.mono hle),C.base,fun b hb=>UB (C.bd b hb) h.size,C.yx⟩,⟨Tr.below h,Tr.below h,fun _ h=>h,fun b hb _=>h.block b hb⟩⟩
theorem Kj(w:World)(o:Obj):Below w.heap.size w (w.alloc o):=(Below.refl _ _).alloc (UM _) o
theorem Cx.box(C:Cx X0 w0 x y w)(vs:List Value)(T:TypeId):
  Cx X0 w0 (fun b=>x b∨b=w.heap.size) (fun b=>y b∨b=w.heap.size) (w.alloc (.cells vs.toArray T (0,0)))∧
  Sp x y w (fun b=>x b∨b=w.heap.size) (fun b=>y b∨b=w.heap.size) (w.alloc (.cells vs.toArray T (0,0))) Zt∧
  Own w0 (fun b=>y b∨b=w.heap.size) (w.alloc (.cells vs.toArray T (0,0))) w.heap.size vs T:=by
 have hle:=C.below.size;refine⟨⟨C.below.trans ((Kj w _).mono hle),fun b h=> .inl (C.base b h),?_,?_⟩,⟨?_,?_,fun _ h=> .inl h,fun b hb _=>Yz hb⟩,⟨.inr rfl,.inl hle,Blk.alloc⟩⟩
 ·rintro b (h|rfl)
  ·have:=C.bd b h;simp;omega
  ·simp
 ·rintro b (h|rfl)
  ·exact .inl (C.yx b h)
  ·exact .inr rfl
 ·refine⟨?_,fun b hb _=>Yz hb,by simp⟩;rintro b hb (h|rfl)
  ·exact h
  ·omega
 ·refine⟨?_,fun b hb _=>Yz hb,by simp⟩;rintro b hb (h|rfl)
  ·exact h
  ·omega
theorem Cx.set(C:Cx X0 w0 x y w){g:Nat}{cs cs':List Value}{T:TypeId}(o:Own w0 y w g cs T):
  Cx X0 w0 x y (Xd w g cs')∧Sp x y w x y (Xd w g cs') (· =g)∧Own w0 y (Xd w g cs') g cs' T:=by
 have hs:(Xd w g cs').heap.size=w.heap.size:=by simp[Xd,World.setRow]
 have hsame:∀b,b<w.heap.size→¬b=g→(Xd w g cs').heap[b]? =w.heap[b]? :=fun b _ hb=>yh hb;have a:Bel w0 (Xd w g cs'):=C.below.turn (g:=g) ⟨rfl,rfl,rfl,by rw[hs];exact UM _,fun b hb hm=>hsame b hb hm⟩ o.ge;refine⟨⟨a,C.base,fun b hb=>by rw[hs];exact C.bd b hb,C.yx⟩,
  ⟨⟨fun _ _ h=>h,fun b hb hx=>hsame b hb (fun e=>hx (e▸C.yx _ o.mem)),by omega⟩,⟨fun _ _ h=>h,fun b hb hx=>hsame b hb (fun e=>hx (e▸o.mem)),by omega⟩,fun _ h=>h,hsame⟩,
  ⟨o.mem,o.ge,o.blk.set⟩⟩
theorem Cx.turn(C:Cx X0 w0 x y w){g:Nat}{cs cs':List Value}{T:TypeId}(o:Own w0 y w g cs T)(h:Bel ⟨w,(· =g)⟩ w')(hb:Blk w' g cs' T):
  Cx X0 w0 x y w'∧Sp x y w x y w' (· =g)∧Own w0 y w' g cs' T:=
 ⟨⟨C.below.turn h o.ge,C.base,fun b hb=>UB (C.bd b hb) h.size,C.yx⟩,
  ⟨⟨fun _ _ h=>h,fun b hb hx=>h.block b hb (fun e=>hx (e▸C.yx _ o.mem)),h.size⟩,⟨fun _ _ h=>h,fun b hb hx=>h.block b hb (fun e=>hx (e▸o.mem)),h.size⟩,fun _ h=>h,fun b hb hn=>h.block b hb hn⟩,
  ⟨o.mem,o.ge,hb⟩⟩
theorem TC{X0:Nat→Prop}{w:World}(g:Nat)(h:∀b,X0 b→b<w.heap.size)(hg:X0 g):Cx X0 ⟨w,(· =g)⟩ X0 (· =g) w:=
 ⟨Bel.refl _,fun _ h=>h,h,fun _ h=>h▸hg⟩
theorem TZ{w:World}{g:Nat}{cs:List Value}{T:TypeId}(h:Blk w g cs T):Own ⟨w,(· =g)⟩ (· =g) w g cs T:=⟨rfl,.inr rfl,h⟩
end
section
variable {P:Program} {ρ:Operand→Value} {dst:Option Tmp} {ty:TypeId} {pos:String} {after:Array Edge} {gd:Option (Nat×Bool)}
 {w:World} {K:Value→World→Prop} {Kp:List PanicEntry→World→Prop} {X0 x y:Nat→Prop} {w0:Bs}
theorem RH {k:FuncId} {args:Array Operand} {ts:Array TypeId} {vs:List Value} {Φ:Value→World→Prop} (C:Cx X0 w0 x y w) (hk:Ja P k=true)
  (ha:args.toList.map ρ=vs) (he:ρ (.func k)= .func (.func k) #[] #[]) (hc:Calls P k vs.toArray w (Ret w Φ))
  (h:∀v w',Cx X0 w0 x y w'→Sp x y w x y w' Zt→Φ v w'→K v w'):
  St P ρ ⟨dst,.call {callee:= .value (.func k),args:=args,argTypes:=ts},ty,pos,after,gd⟩ w K Kp:=by
 unfold Ja at hk;split at hk
 ·rename_i fn hf;simp only[VJ,VN] at hk;refine Tf hf hk.1 hk.2 ha (Calls.mono hc ?_) he;intro e w' hr;cases e with
  |returned v=>obtain⟨a,b⟩:=hr;obtain⟨c,s⟩:=C.next b;exact h v w' c s a
  |panicked ch=>exact hr.elim
  |outgrown=>exact hr.elim
 ·cases hk
theorem TD {k:FuncId} {args:Array Operand} {ts:Array TypeId} {vs:List Value} {g:Nat} {cs:List Value} {T:TypeId} {Φ:Value→World→Prop} {Ψ:Value→World→List Value→Prop} (C:Cx X0 w0 x y w) (o:Own w0 y w g cs T) (hk:Ja P k=true)
  (ha:args.toList.map ρ=vs) (he:ρ (.func k)= .func (.func k) #[] #[]) (hc:Calls P k vs.toArray w (RetM w g Φ)) (hs:∀v w',Φ v w'→∃cs',Blk w' g cs' T∧Ψ v w' cs')
  (h:∀v w' cs',Cx X0 w0 x y w'→Sp x y w x y w' (· =g)→Own w0 y w' g cs' T→Ψ v w' cs'→K v w'):
  St P ρ ⟨dst,.call {callee:= .value (.func k),args:=args,argTypes:=ts},ty,pos,after,gd⟩ w K Kp:=by
 unfold Ja at hk;split at hk
 ·rename_i fn hf;simp only[VJ,VN] at hk;refine Tf hf hk.1 hk.2 ha (Calls.mono hc ?_) he;intro e w' hr;cases e with
  |returned v=>
   obtain⟨a,b⟩:=hr;obtain⟨cs',hb,hp⟩:=hs v w' a;obtain⟨c,s,o'⟩:=C.turn o b hb;exact h v w' cs' c s o' hp
  |panicked ch=>exact hr.elim
  |outgrown=>exact hr.elim
 ·cases hk
theorem R9 {e:TypeId} {o:Operand} {vs:List Value} (C:Cx X0 w0 x y w) (hx:(ρ o).cells=vs.toArray)
  (h:∀g w' x' y',(∀b,b<w.heap.size→b≠g)→Cx X0 w0 x' y' w'→Sp x y w x' y' w' Zt→Own w0 y' w' g vs e→K (.pointer (some ⟨g,0,none⟩)) w'):
  St P ρ ⟨dst,.box e o,ty,pos,after,gd⟩ w K Kp:=
 TH hx (h _ _ _ _ (fun b hb=>by omega) (C.box vs e).1 (C.box vs e).2.1 (C.box vs e).2.2)
theorem RR {e:TypeId} {z:Value} {sz by_:Nat} {vs:List Value} (C:Cx X0 w0 x y w) (hi:Zf P e=some (z,sz,by_)) (hv:z.cells=vs.toArray)
  (h:∀g w' x' y',(∀b,b<w.heap.size→b≠g)→Cx X0 w0 x' y' w'→Sp x y w x' y' w' Zt→Own w0 y' w' g vs e→K (.pointer (some ⟨g,0,none⟩)) w'):
  St P ρ ⟨dst,.alloc e,ty,pos,after,gd⟩ w K Kp:=by
 obtain⟨i,hi',hz,_,_⟩:=Jk hi;exact St.alloc hi' hz hv (h _ _ _ _ (fun b hb=>by omega) (C.box vs e).1 (C.box vs e).2.1 (C.box vs e).2.2)
theorem SZ {a v:Operand} {t:TypeId} {z:Value} {sz by_ g o:Nat} {cs vs cs':List Value} {T:TypeId} (C:Cx X0 w0 x y w) (hb:Own w0 y w g cs T) (hi:Zf P t=some (z,sz,by_))
  (hx:ρ a= .pointer (some ⟨g,o,none⟩)) (hy:(ρ v).cells=vs.toArray) (hl:vs.length=sz) (hfit:Nat.ble (o+sz) cs.length=true) (b:vs.all Value.oneCell'=true) (hc:cs.take o++vs++cs.drop (o+vs.length)=cs')
  (h:∀w',Cx X0 w0 x y w'→Sp x y w x y w' (· =g)→Own w0 y w' g cs' T→K undef w'):St P ρ ⟨dst,.store t a v,ty,pos,after,gd⟩ w K Kp:=by
 obtain⟨i,hi',hz,hs,_⟩:=Jk hi;refine S5 hi' hs hx hy hl hb.blk (UW hfit) b ?_;intro C' hC';rw[hc] at hC';subst hC';exact h _ (C.set hb).1 (C.set hb).2.1 (C.set hb).2.2
theorem RN{a:Operand}{t:TypeId}{g o:Nat}{cs:List Value}{T:TypeId}{v:Value}(hb:Own w0 y w g cs T)(ht:Yo P t=true)(hx:ρ a= .pointer (some ⟨g,o,none⟩))(hv:cs[o]? =some v)(h:K v w):
  St P ρ ⟨dst,.load t a,ty,pos,after,gd⟩ w K Kp:=Sa ht hx (hb.blk.cell hv) h
theorem RX {a:Operand} {t:TypeId} {g o sz:Nat} {cs vs:List Value} {T:TypeId} (hb:Own w0 y w g cs T) (ht:V8 P t sz=true) (hx:ρ a= .pointer (some ⟨g,o,none⟩)) (hl:vs.length=sz) (hv:(cs.drop o).take vs.length=vs)
  (h:K (.agg vs.toArray) w):St P ρ ⟨dst,.load t a,ty,pos,after,gd⟩ w K Kp:=Sv ht hx hl (hb.blk.cells hv) h
structure ElAt {α:Type} (T:Ty α) (x:Nat→Prop) (w:World) (b o:Nat) (cs:List Value) (u:α):Prop where
 out:¬x b
 rd:T.rd x w cs u
 cell:∀q v,cs[q]? =some v→w.cell? ⟨b,o+q,none⟩=some v
theorem ElAt.tr{α:Type}{T:Ty α}{x x':Nat→Prop}{w w':World}{b o:Nat}{cs:List Value}{u:α}(h:ElAt T x w b o cs u)(t:Tr x w x' w'):ElAt T x' w' b o cs u:=by
 refine⟨?_,T.tr h.rd t,fun q v hq=>t.cell h.out (h.cell q v hq)⟩;have hp:0<cs.length:=by rw[T.len h.rd];exact T.pos
 have hlt:=World.block_lt_of_cell? w _ (h.cell 0 cs[0] (by simp[hp]));exact fun hx=>h.out (t.sub b hlt hx)
theorem ElAt.sp{α:Type}{T:Ty α}{x y x' y':Nat→Prop}{w w':World}{b o:Nat}{cs:List Value}{u:α}{ch:Nat→Prop}(h:ElAt T x w b o cs u)(s:Sp x y w x' y' w' ch):ElAt T x' w' b o cs u:=h.tr s.tx
theorem Sd {α:Type} {T:Ty α} {a i:Operand} {t e:TypeId} {z:Value} {by_:Nat} {ad:Option Addr} {n c:Nat} {l:List α} {k:IntKind} {m:Int} {j:Nat} {u:α} (hr:RS T x w (.slice ad n c) l)
  (ht:P.underlying t=some (.slice e)) (hi:Zf P e=some (z,T.sz,by_)) (hx:ρ a= .slice ad n c) (hy:ρ i= .int k m) (hm:m=j) (hj:l[j]? =some u)
  (h:∀b o cs,ElAt T x w b o cs u→K (.pointer (some ⟨b,o,none⟩)) w):St P ρ ⟨dst,.indexAddr t a i,ty,pos,after,gd⟩ w K Kp:=by
 obtain⟨b,o,cs,rfl,hout,hrd,hc⟩:=hr.at hj;obtain⟨inf,hi',_,hs,_⟩:=Jk hi;have hlt:j<n:=by
  have:=(RS.le hr).1
  rw[this];rcases U2 j l.length with h|h
  ·exact h
  ·rw[U5 h] at hj;cases hj
 exact SI ht hi' hs hx hy hm hlt (h b _ cs ⟨hout,hrd,hc⟩)
theorem Ta {α:Type} {T:Ty α} {a r:Operand} {t e:TypeId} {z:Value} {by_:Nat} {ad:Option Addr} {n c:Nat} {l:List α} {k:IntKind} {m:Int} {j:Nat} (hr:RS T x w (.slice ad n c) l)
  (ht:P.underlying t=some (.slice e)) (hi:Zf P e=some (z,T.sz,by_)) (hx:ρ a= .slice ad n c) (hy:ρ r= .int k m) (hm:m=j) (hj:j≤l.length)
  (h:RS T x w (.slice ad j c) (l.take j)→K (.slice ad j c) w):St P ρ ⟨dst,.slice t a none (some r) none,ty,pos,after,gd⟩ w K Kp:=by
 subst hm;obtain⟨inf,hi',_,hs,_⟩:=Jk hi;obtain⟨hn,hle,hc⟩:=RS.le hr;have hjc:j≤c:=by omega
 refine R7 (v:= .slice ad j c) ?_ (h ?_)
 ·simp[execOp,hx,hy,Instr.sliceAt,Instr.slice,run_underlying ht,Instr.sliceBounds,Instr.sliceBound,asIntOf,hjc,sizeOf,typeInfo,hi',Addr.add]
 ·have:=RS.sub hr (UN j) hj
  simp only[Jac,Nat.sub_zero,WN,Addr.add_zero'] at this;have e:(if c=0 then ad else Option.map (fun x=>x) ad)=ad:=by split<;>cases ad<;>rfl
  rw[e] at this;exact this
theorem Ur {α:Type} {T:Ty α} {a lo:Operand} {t e:TypeId} {z:Value} {by_:Nat} {ad:Option Addr} {n c:Nat} {l:List α} {k:IntKind} {m:Int} {i:Nat} (hr:RS T x w (.slice ad n c) l)
  (ht:P.underlying t=some (.slice e)) (hi:Zf P e=some (z,T.sz,by_)) (hx:ρ a= .slice ad n c) (hy:ρ lo= .int k m) (hm:m=i) (hj:i≤l.length)
  (h:∀ad',RS T x w (.slice ad' (l.length-i) (c-i)) (l.drop i)→K (.slice ad' (l.length-i) (c-i)) w):St P ρ ⟨dst,.slice t a (some lo) none none,ty,pos,after,gd⟩ w K Kp:=by
 subst hm;obtain⟨inf,hi',_,hs,_⟩:=Jk hi;obtain⟨hn,hle,hc⟩:=RS.le hr;subst hn;have hic:i≤l.length:=hj;refine R7 (v:= .slice (if c=i then ad else ad.map (·.add (i*T.sz))) (l.length-i) (c-i)) ?_ (h _ ?_)
 ·simp[execOp,hx,hy,Instr.sliceAt,Instr.slice,run_underlying ht,Instr.sliceBounds,Instr.sliceBound,asIntOf,hic,sizeOf,typeInfo,hi',hs]
 ·have:=RS.sub hr (i:=i) (j:=l.length) hj (UM _)
  rw[YC] at this;exact this
structure OS {α:Type} (T:Ty α) (E:TypeId) (w0:Bs) (x y:Nat→Prop) (w:World) (v:Value) (l:List α):Prop where
 ex:∃css:List (List Value),css.length=l.length∧(∀(i:Nat) (cs:List Value) (u:α),css[i]? =some cs→l[i]? =some u→T.rd x w cs u)∧w.ownsRow 0 E T.sz v l.length css.flatten
 mem:∀k,v.ownBlock=some k→(x k∧¬y k)∧(w0.heap.size≤k∨w0.M k)
theorem OS.nil{α:Type}{T:Ty α}{E:TypeId}:OS T E w0 x y w (.slice none 0 0) ([]:List α):=
 ⟨⟨[],rfl,fun i cs u h=>by simp at h,World.ownsRow_nil _ _ _ _⟩,fun k h=>by simp[Value.ownBlock] at h⟩
theorem OS.len{α:Type}{T:Ty α}{E:TypeId}{v:Value}{l:List α}(h:OS T E w0 x y w v l):∃a c,v= .slice a l.length c∧l.length≤c∧c≤maxLen:=by
 obtain⟨⟨css,f,i,b⟩,_⟩:=h;rcases b.2 with ⟨rfl,h⟩|⟨g,cap,cur,rfl,_,_,d,e,_⟩
 ·exact⟨none,0,by rw[h],by omega,by unfold maxLen;omega⟩
 ·exact⟨_,cap,rfl,d,e⟩
theorem OS.sp{α:Type}{T:Ty α}{E:TypeId}{v:Value}{l:List α}{x' y':Nat→Prop}{w':World}{ch:Nat→Prop}(h:OS T E w0 x y w v l)(s:Sp x y w x' y' w' ch)(C:Cx X0 w0 x' y' w')(hup:∀b,x b→x' b):OS T E w0 x' y' w' v l:=by
 obtain⟨⟨css,d,e,a⟩,hm⟩:=h;refine⟨⟨css,d,fun i cs u hi hl=>T.tr (e i cs u hi hl) s.tx,a.1,?_⟩,?_⟩
 ·rcases a.2 with h|⟨g,cap,cur,rfl,hb,hg,r⟩
  ·exact .inl h
  ·refine .inr ⟨g,cap,cur,rfl,hb,?_,r⟩;rw[s.ty.blk g (VE.1 hg).1 (hm g rfl).1.2];exact hg
 ·intro k hk;have hlt:=(a.lt k hk).2;exact⟨⟨hup k (hm k hk).1.1,fun hy=>(hm k hk).1.2 (s.ty.sub k hlt hy)⟩,(hm k hk).2⟩
theorem V4{sz:Nat}:∀(css:List (List Value)),(∀cs∈css,cs.length=sz)→∀(i j:Nat) (cs:List Value),css[i]? =some cs→j<cs.length→css.flatten[i*sz+j]? =cs[j]? :=by
 intro css
 induction css with
 |nil=>intro _ i j cs h;simp at h
 |cons c css ih=>
  intro hs i j cs hi hj;have hc:=hs c (by simp);rw[WQ];cases i with
  |zero=>
   simp at hi;subst hi;rw[Jac,Jab,WT hj]
  |succ i=>
   rw[WU (by rw[hc,ZW];omega)]
   have:=ih (fun cs h=>hs cs (by simp[h])) i j cs (by simpa using hi) hj
   rw[←this]
   congr 1
   rw[hc,ZW];omega
theorem OS.toRS{α:Type}{T:Ty α}{E:TypeId}{v:Value}{l:List α}(h:OS T E w0 x y w v l)(C:Cx X0 w0 x y w)(hX:∀b,X0 b→b<w0.heap.size)(hM:∀b,w0.M b→y b:=by exact fun _ h=>False.elim h):RS T X0 w v l:=by
 obtain⟨⟨css,f,a,d⟩,hm⟩:=h;rcases d.2 with ⟨rfl,h⟩|⟨g,cap,cur,rfl,hb,hg,k,m,_⟩
 ·exact⟨none,0,by rw[h],by omega,by unfold maxLen;omega,.inl (UT h)⟩
 ·refine⟨_,cap,rfl,k,m,?_⟩;by_cases hl:l=[]
  ·exact .inl hl
  ·refine .inr ⟨g,0,rfl,fun hx=>by
    have n:=hX g hx
    rcases(hm g rfl).2 with e|e
    ·omega
    ·exact(hm g rfl).1.2 (hM g e),?_⟩
   intro i u hi;have hlt:i<l.length:=by
    rcases U2 i l.length with h|h
    ·exact h
    ·rw[U5 h] at hi;cases hi
   have hci:css[i]? =some css[i]:=by simp[f,hlt]
   have hr:=a i _ u hci hi;refine⟨css[i],T.tr hr (Tr.weak C.base),?_⟩;intro j v hv;have hall:∀cs∈css,cs.length=T.sz:=by
    intro cs hcs;obtain⟨q,hq,rfl⟩:=XK.1 hcs;have hq':q<l.length:=by omega
    exact T.len (a q _ l[q] (by simp[hq]) (by simp[hq']))
   have hj:j<css[i].length:=by
    rcases U2 j css[i].length with h|h
    ·exact h
    ·rw[U5 h] at hv;cases hv
   have:=V4 css hall i j _ hci hj
   rw[hv] at this;have hcell:=d.cells (g:=g) rfl (i*T.sz+j) v this;rw[Addr.add_lit] at hcell;rw[show 0+i*T.sz+j=0+(i*T.sz+j) by omega];exact hcell
end
def mixL(vals:List (Nat×Value))(mods:List Nat)(f f0:Fr):Fr:=fun t=>match vals.lookup t with
 |some v=>v
 |none=>if mods.contains t then f t else f0 t
theorem gS:∀(vals:List (Nat×Value)) (t:Nat) (v:Value),vals.lookup t=some v→(t,v)∈vals:=by
 intro vals
 induction vals with
 |nil=>intro t v h;cases h
 |cons p r ih=>
  intro t v h;obtain⟨k,u⟩:=p;rw[List.lookup_cons] at h;split at h
  ·rename_i e;have e':t=k:=by simpa using e
   cases h;subst e';exact XH
  ·exact XG _ (ih t v h)
theorem Keep.mix{mods:List Nat}{d f:Fr}(h:Keep mods d f)(vals:List (Nat×Value))(hv:∀p∈vals,f p.1=p.2):∃f',f=mixL vals mods f' d:=by
 refine⟨f,?_⟩
 funext t
 unfold mixL;split
 ·rename_i v hl;exact hv (t,v) (gS _ _ _ hl)
 ·split
  ·rfl
  ·rename_i hm;exact h t (by simpa using hm)
theorem Keep.upd{mods:List Nat}{f g:Fr}{d:Nat}{v:Value}(hd:mods.contains d=true)(h:Keep mods g f):Keep mods g (upd f d v):=by
 intro t ht;unfold Wf.upd;split
 ·rename_i e;subst e;rw[hd] at ht;cases ht
 ·exact h t ht
theorem Mf{f:Fr}:∀p∈([]:List (Nat×Value)),f p.1=p.2:=fun _ h=>by cases h
theorem G7{f:Fr}{d:Nat}{u:Value}{r:List (Nat×Value)}(hd:f d=u)(h:∀p∈r,f p.1=p.2):∀p∈(d,u)::r,f p.1=p.2:=by
 intro p hp;cases hp with
 |head=>exact hd
 |tail _ hp=>exact h p hp
theorem Keep.updO{mods:List Nat}{f e:Fr}{d:Nat}{v:Value}(hd:mods.contains d=true)(h:Keep mods e f):Keep mods e (Wf.updO f (some d) v):=Keep.upd hd h
abbrev Gh:=(Nat→Prop)×(Nat→Prop)
structure RC (X0:Nat→Prop) (w0:Bs) (s:Gh) (w:World) (s':Gh) (w':World):Prop where
 cx:Cx X0 w0 s'.1 s'.2 w'
 sp:Sp s.1 s.2 w s'.1 s'.2 w' Zt
theorem Sp.trans{x y x' y' x'' y'':Nat→Prop}{a b c:World}(h:Sp x y a x' y' b Zt)(k:Sp x' y' b x'' y'' c Zt):Sp x y a x'' y'' c Zt:=
 ⟨h.tx.trans k.tx,h.ty.trans k.ty,fun b hb=>k.up b (h.up b hb),fun b hb _=>(k.same b (UB hb h.tx.size) id).trans (h.same b hb id)⟩
theorem Sp.refl{x y:Nat→Prop}{w:World}:Sp x y w x y w Zt:=⟨Tr.refl _ _,Tr.refl _ _,fun _ h=>h,fun _ _ _=>rfl⟩
theorem RC.trans{X0:Nat→Prop}{w0:Bs}:∀(s:Gh) (a:World) (t:Gh) (b:World) (u:Gh) (c:World),RC X0 w0 s a t b→RC X0 w0 t b u c→RC X0 w0 s a u c:=
 fun _ _ _ _ _ _ h k=>⟨k.cx,h.sp.trans k.sp⟩
theorem SS{X0:Nat→Prop}{w0:Bs}{x y:Nat→Prop}{w:World}(C:Cx X0 w0 x y w):RC X0 w0 (x,y) w (x,y) w.drew:=
 let ⟨c,s⟩:=C.next (Below.refl _ _).drew;⟨c,s⟩
theorem RJ{X0:Nat→Prop}{w0:Bs}{s:Gh}{w:World}(C:Cx X0 w0 s.1 s.2 w):RC X0 w0 s w s w:=⟨C,Sp.refl⟩
theorem R8 {P:Program} {ops:Array Oper} {f:Fr} {w:World} {K:Value→World→Prop} {Kp:List PanicEntry→World→Prop} {dst:Option Tmp} {op:Op} {ty:TypeId} {pos:String} {after:Array Edge}
  (h:St P (fe f) ⟨dst,op,ty,pos,after,none⟩ w K Kp):OpSt P ops f ⟨dst,op,ty,pos,after,none⟩ w K Kp:=by
 unfold OpSt;exact h
theorem Su {P:Program} {ops:Array Oper} {f:Fr} {w:World} {K:Value→World→Prop} {Kp:List PanicEntry→World→Prop} {dst:Option Tmp} {op:Op} {ty:TypeId} {pos:String} {after:Array Edge} {j:Nat} {b:Bool}
  (hy:Zb ops f j=some b) (h:St P (fe f) ⟨dst,op,ty,pos,after,some (j,b)⟩ w K Kp):OpSt P ops f ⟨dst,op,ty,pos,after,some (j,b)⟩ w K Kp:=by
 unfold OpSt;rw[if_pos (by simp only[Region.wanted,hy,beq_self_eq_true])];exact h
theorem Ss {P:Program} {ops:Array Oper} {f:Fr} {w:World} {K:Value→World→Prop} {Kp:List PanicEntry→World→Prop} {dst:Option Tmp} {op:Op} {ty:TypeId} {pos:String} {after:Array Edge} {j:Nat} {b c:Bool}
  (hy:Zb ops f j=some c) (hc:(some c==some b)=false) (h:K undef w):OpSt P ops f ⟨dst,op,ty,pos,after,some (j,b)⟩ w K Kp:=by
 unfold OpSt;rw[if_neg (by simp only[Region.wanted,hy,hc];simp)];exact h
theorem RV.int{X:Nat→Prop}{w:World}{v:Value}{x:GInt}(h:RV Jo X w v x):∃a c,v= .agg #[.bool x.neg,.slice a x.mag.length c]∧RS Jd X w (.slice a x.mag.length c) x.mag:=by
 obtain⟨cs,rfl,s,rfl,h⟩:=h;obtain⟨a,c,rfl,_⟩:=h.len;exact⟨a,c,rfl,h⟩
theorem Je{X:Nat→Prop}{w:World}{s:Value}{b:Bool}{l:List Nat}(h:RS Jd X w s l):RV Jo X w (.agg #[.bool b,s]) ⟨b,l⟩:=⟨[_,_],rfl,s,rfl,h⟩
theorem TN{X:Nat→Prop}{w:World}{v:Value}{x:GRat}(h:RV Jj X w v x):∃a c a' c',v= .agg #[.bool x.num.neg,.slice a x.num.mag.length c,.bool x.den.neg,.slice a' x.den.mag.length c']∧
  RS Jd X w (.slice a x.num.mag.length c) x.num.mag∧RS Jd X w (.slice a' x.den.mag.length c') x.den.mag:=by
 obtain⟨cs,rfl,s,t,rfl,h,k⟩:=h;obtain⟨a,c,rfl,_⟩:=h.len;obtain⟨a',c',rfl,_⟩:=k.len;exact⟨a,c,a',c',rfl,h,k⟩
theorem J2{X:Nat→Prop}{w:World}{s t:Value}{b d:Bool}{l m:List Nat}(h:RS Jd X w s l)(k:RS Jd X w t m):RV Jj X w (.agg #[.bool b,s,.bool d,t]) ⟨⟨b,l⟩,⟨d,m⟩⟩:=⟨[_,_,_,_],rfl,s,t,rfl,h,k⟩
theorem RM{w w':World}{Φ:Value→World→Prop}{v:Value}(h:Φ v w')(b:Bel w w'):Ret w Φ (.returned v) w':=⟨h,⟨b.os,b.tape,b.output,b.size,fun k hk=>b.block k hk id⟩⟩
theorem RetM.intro{w w':World}{g:Nat}{Φ:Value→World→Prop}{v:Value}(h:Φ v w')(b:Bel ⟨w,(· =g)⟩ w'):RetM w g Φ (.returned v) w':=⟨h,b⟩
section
variable {P:Program} {fn:Func} {R:Ending→World→Prop} {f:Fr} {w:World}
def resV(f:Fr)(w:World):ResultVar→Value→Prop
 |.tmp t,v=>f t=v
 |.cell p t,v=>∃(g o sz:Nat) (cs:List Value),f p= .pointer (some ⟨g,o,none⟩)∧v= .agg cs.toArray∧cs.length=sz∧V8 P t sz=true∧∀j u,cs[j]? =some u→w.cell? ⟨g,o+j,none⟩=some u
def resM(tmps:Array Value):ResultVar→Sem Value
 |.tmp t=>pure (tmps.getD t undef)
 |.cell a t=>do loadVar t (←asAddr (tmps.getD a undef))
theorem X2(tmps:Array Value):results fn tmps=(do let vs ←fn.results.mapM (resM tmps);pure (if h:vs.size=1 then vs[0] else .tuple vs)):=by
 unfold results
 congr 1
theorem Kl{r:ResultVar}{v:Value}(h:resV (P:=P) f w r v)(tmps:Array Value)(ht:∀t,tmps.getD t undef=f t):
  (resM tmps r).run P w= .ok v w:=by
 unfold resM;cases r with
 |tmp t=>
  have:f t=v:=h
  simp only[Sem.run_pure,ht t,this]
 |cell p t=>
  obtain⟨g,o,sz,cs,hp,rfl,hl,ha,hc⟩:=h
  have:=run_loadCells_list (P:=P) (w:=w) ⟨g,o,none⟩ cs (fun j v hv=>by rw[Addr.add_lit];exact hc j v hv)
  rw[hl] at this;simp only[ht p,hp];simp[asAddr,loadVar,Ky ha,this]
theorem jV{r:ResultVar}{v:Value}(hr:fn.results= #[r])(h:resV (P:=P) f w r v):∀tmps:Array Value,(∀t,tmps.getD t undef=f t)→(results fn tmps).run P w= .ok v w:=by
 intro tmps ht
 have:=Kl h tmps ht
 simp only[X2,hr,W9,W8,List.mapM_nil,Sem.run_bind,Sem.run_map];rw[this];simp
theorem J0{r:ResultVar}{v:Value}(hr:fn.results= #[r])(h:resV (P:=P) f w r v)(hR:R (.returned v) w):retQ P fn R .ret f w:=⟨v,jV hr h,hR⟩
theorem iN{r s:ResultVar}{v u:Value}(hr:fn.results= #[r,s])(h:resV (P:=P) f w r v)(k:resV (P:=P) f w s u):∀tmps:Array Value,(∀t,tmps.getD t undef=f t)→(results fn tmps).run P w= .ok (.tuple #[v,u]) w:=by
 intro tmps ht;have d:=Kl h tmps ht;have e:=Kl k tmps ht;simp only[X2,hr,W9,W8,List.mapM_nil,Sem.run_bind,Sem.run_map];rw[d];simp only[Result.andThen_ok];rw[e];simp
theorem Z4{r s:ResultVar}{v u:Value}(hr:fn.results= #[r,s])(h:resV (P:=P) f w r v)(k:resV (P:=P) f w s u)(hR:R (.returned (.tuple #[v,u])) w):retQ P fn R .ret f w:=⟨_,iN hr h k,hR⟩
theorem iY{r s q:ResultVar}{v u z:Value}(hr:fn.results= #[r,s,q])(h:resV (P:=P) f w r v)(k:resV (P:=P) f w s u)(m:resV (P:=P) f w q z):∀tmps:Array Value,(∀t,tmps.getD t undef=f t)→(results fn tmps).run P w= .ok (.tuple #[v,u,z]) w:=by
 intro tmps ht;have d:=Kl h tmps ht;have e:=Kl k tmps ht;have g:=Kl m tmps ht;simp only[X2,hr,W9,W8,List.mapM_nil,Sem.run_bind,Sem.run_map];rw[d];simp only[Result.andThen_ok];rw[e];simp only[Result.andThen_ok];rw[g];simp
theorem Dy{r s q:ResultVar}{v u z:Value}(hr:fn.results= #[r,s,q])(h:resV (P:=P) f w r v)(k:resV (P:=P) f w s u)(m:resV (P:=P) f w q z)(hR:R (.returned (.tuple #[v,u,z])) w):retQ P fn R .ret f w:=⟨_,iY hr h k m,hR⟩
theorem resV.t{t:Nat}{v:Value}(h:f t=v):resV (P:=P) f w (.tmp t) v:=h
theorem TL{p t g sz:Nat}{w0:Bs}{y:Nat→Prop}{cs:List Value}{T:TypeId}(hb:Own w0 y w g cs T)(hp:f p= .pointer (some ⟨g,0,none⟩))(ha:V8 P t sz=true)(hl:cs.length=sz):resV (P:=P) f w (.cell p t) (.agg cs.toArray):=
 ⟨g,0,sz,cs,hp,rfl,hl,ha,hb.blk.cells (by simp)⟩
end
section
variable {P:Program} {ρ:Operand→Value} {dst:Option Tmp} {ty:TypeId} {pos:String} {after:Array Edge} {gd:Option (Nat×Bool)}
 {w:World} {K:Value→World→Prop} {Kp:List PanicEntry→World→Prop} {X0 x y:Nat→Prop} {w0:Bs}
theorem Si{t:TypeId}{parts:Array (Nat×Operand)}{ps:List (Nat×Value)}{cs:List Value}(hp:(parts.toList.map fun p=>(p.1,ρ p.2))=ps)(hb:P.built t ps=some cs.toArray)(h:K (.agg cs.toArray) w):
  St P ρ ⟨dst,.build t parts,ty,pos,after,gd⟩ w K Kp:=by
 refine R7 (v:= .agg cs.toArray) ?_ h;have e:(parts.map fun(i,x)=>(i,ρ x)).toList=ps:=by rw[←hp];simp
 have:=run_build (P:=P) w t (parts.map fun(i,x)=>(i,ρ x)) cs.toArray (by rw[e];exact hb)
 simp[execOp,this]
def Vj(z:Value)(sz len:Nat)(ps:List (Nat×Value)):Option (Array Value):=
 Instr.fill (fun i=>some (i*sz,sz)) ((Array.range (len*sz)).map (z.cells[· % z.cells.size]!)) ps
theorem Vs {t e:TypeId} {z:Value} {sz by_ len:Nat} {ps:Array (Nat×Value)} {cs:List Value} (ht:P.underlying t=some (.slice e)) (hi:Zf P e=some (z,sz,by_)) (hpos:0<sz) (d:0<len) (hl:len*sz≤2^24)
  (hc:Vj z sz len ps.toList=some cs.toArray):(Instr.buildSlice t len ps).run P w= .ok (.slice (some ⟨w.heap.size,0,none⟩) len len) (w.alloc (.cells cs.toArray e (0,0))):=by
 obtain⟨i,hi',hz,hs,_⟩:=Jk hi;subst hs;have g:¬(len*i.size>2^24):=by omega
 have h:¬(len*i.size=0):=Nat.ne_of_gt (ZM d hpos);unfold Vj at hc;simp[Instr.buildSlice,run_underlying ht,sizeOf,typeInfo,hi',g,h,zeroValue,hz,hc,newRow]
end
section
variable {P:Program} {ρ:Operand→Value} {dst:Option Tmp} {ty:TypeId} {pos:String} {after:Array Edge} {gd:Option (Nat×Bool)}
 {w:World} {K:Value→World→Prop} {Kp:List PanicEntry→World→Prop} {x y:Operand} {xt yt:TypeId} {k:IntKind} {a b:Int}
theorem Sj(hx:ρ x= .int k a)(hy:ρ y= .int k b)(ht:a=b→K (.bool true) w)(hf:¬a=b→K (.bool false) w):St P ρ ⟨dst,.binOp .eql xt x y yt,ty,pos,after,gd⟩ w K Kp:=by
 by_cases h:a=b
 ·exact SW hx hy (decide_eq_true h) (ht h)
 ·exact SW hx hy (decide_eq_false h) (hf h)
theorem SA(hx:ρ x= .int k a)(hy:ρ y= .int k b)(ht:¬a=b→K (.bool true) w)(hf:a=b→K (.bool false) w):St P ρ ⟨dst,.binOp .neq xt x y yt,ty,pos,after,gd⟩ w K Kp:=by
 by_cases h:a=b
 ·exact SK hx hy (by rw[decide_eq_true h];rfl) (hf h)
 ·exact SK hx hy (by rw[decide_eq_false h];rfl) (ht h)
theorem Sb(hx:ρ x= .int k a)(hy:ρ y= .int k b)(ht:a<b→K (.bool true) w)(hf:¬a<b→K (.bool false) w):St P ρ ⟨dst,.binOp .lss xt x y yt,ty,pos,after,gd⟩ w K Kp:=by
 by_cases h:a<b
 ·exact SG hx hy (decide_eq_true h) (ht h)
 ·exact SG hx hy (decide_eq_false h) (hf h)
theorem SJ(hx:ρ x= .int k a)(hy:ρ y= .int k b)(ht:a≤b→K (.bool true) w)(hf:¬a≤b→K (.bool false) w):St P ρ ⟨dst,.binOp .leq xt x y yt,ty,pos,after,gd⟩ w K Kp:=by
 by_cases h:a≤b
 ·exact SU hx hy (decide_eq_true h) (ht h)
 ·exact SU hx hy (decide_eq_false h) (hf h)
theorem Sx(hx:ρ x= .int k a)(hy:ρ y= .int k b)(ht:b<a→K (.bool true) w)(hf:¬b<a→K (.bool false) w):St P ρ ⟨dst,.binOp .gtr xt x y yt,ty,pos,after,gd⟩ w K Kp:=by
 by_cases h:b<a
 ·exact SM hx hy (decide_eq_true h) (ht h)
 ·exact SM hx hy (decide_eq_false h) (hf h)
theorem SB(hx:ρ x= .int k a)(hy:ρ y= .int k b)(ht:b≤a→K (.bool true) w)(hf:¬b≤a→K (.bool false) w):St P ρ ⟨dst,.binOp .geq xt x y yt,ty,pos,after,gd⟩ w K Kp:=by
 by_cases h:b≤a
 ·exact SV hx hy (decide_eq_true h) (ht h)
 ·exact SV hx hy (decide_eq_false h) (hf h)
theorem Sm{o:Oper}(h:St P ρ o w (fun v w'=>∃b,v= .bool b∧(b=true→K (.bool true) w')∧(b=false→K (.bool false) w')) Kp):St P ρ o w K Kp:=by
 refine h.mono ?_ fun _ _ h=>h
 rintro v w' ⟨b,rfl,d,e⟩;cases b
 ·exact e rfl
 ·exact d rfl
theorem T9{x:Operand}{t:TypeId}{s:List UInt8}(ht:P.underlying t=some .string)(hx:ρ x=str s)(h:K (.int .i64 s.length) w):
  St P ρ ⟨dst,.call {callee:= .builtin .len,args:= #[x],argTypes:= #[t]},ty,pos,after,gd⟩ w K Kp:=by
 refine Up ht hx ?_
 have:(⟨s.toArray⟩:ByteArray).size=s.length:=by simp[ByteArray.size]
 rw[this];exact h
theorem Ui{s t:List UInt8}(hx:ρ x=str s)(hy:ρ y=str t)(hl:s.length+t.length≤9223372036854775807)(h:K (str (s++t)) w):St P ρ ⟨dst,.binOp .add xt x y yt,ty,pos,after,gd⟩ w K Kp:=by
 refine Un hx hy ?_ ?_
 ·simp[ByteArray.size];exact hl
 ·have:(⟨s.toArray⟩:ByteArray)++⟨t.toArray⟩=⟨(s++t).toArray⟩:=by
   apply ByteArray.ext;simp[ByteArray.data_append]
  rw[this];exact h
theorem SR{x i:Operand}{t:TypeId}{s:List UInt8}{k:IntKind}{a:Int}{j:Nat}{c:UInt8}(ht:P.underlying t=some .string)(hx:ρ x=str s)(hi:ρ i= .int k a)(ha:a=j)(hj:s[j]? =some c)(h:K (.int .u8 c.toNat) w):
  St P ρ ⟨dst,.index t x i,ty,pos,after,gd⟩ w K Kp:=by
 have hlt:j<s.length:=by
  rcases U2 j s.length with h|h
  ·exact h
  ·rw[U5 h] at hj;cases hj
 refine Tq (j:=j) ht hx hi ha (by simp[ByteArray.size];exact hlt) ?_
 have:(⟨s.toArray⟩:ByteArray)[j]'(by simp[ByteArray.size];exact hlt)=c:=by
  have:s[j]=c:=by rw[UL hlt] at hj;exact Jaj hj
  rw[←this];rfl
 rw[this];exact h
theorem Q6(s:List UInt8)(i j:Nat):(⟨s.toArray⟩:ByteArray).extract i j=⟨((s.take j).drop i).toArray⟩:=by
 apply ByteArray.ext;rw[ByteArray.data_extract];apply VC;simp[List.drop_take]
end
theorem TM{α:Type}{T:Ty α}{X:Nat→Prop}{w:World}{v:Value}{a b:α}(h:RV T X w v a)(e:a=b):RV T X w v b:=e▸h
theorem TP{α:Type}{T:Ty α}{X:Nat→Prop}{w:World}{v:Value}{a b:List α}(h:RS T X w v a)(e:a=b):RS T X w v b:=e▸h
def u32v(n:Nat):Value:= .int .u32 n
theorem nE{a:Int}(h: -9223372036854775807≤a∧a≤9223372036854775807):IntKind.i64.wrap (0-a)= -a:=by rw[UP _ (by omega)];omega
theorem Jm(n:Nat):IntKind.u32.wrap (n:Int)=((n%4294967296:Nat):Int):=by rw[IntKind.wrap_u32];omega
theorem X6(n:Nat):IntKind.u8.wrap (n:Int)=((n%256:Nat):Int):=by rw[IntKind.wrap_u8];omega
theorem Jc{a b:Nat}(h:a+b≤9223372036854775807):IntKind.i64.wrap ((a:Int)+(b:Int))=((a+b:Nat):Int):=by rw[UP _ (by omega)];omega
theorem J6{a b:Nat}(h:a+b≤18446744073709551615):IntKind.u64.wrap ((a:Int)+(b:Int))=((a+b:Nat):Int):=by rw[UO _ (by omega)];omega
theorem xj{a b:Nat}(h:a+b≤4294967295):IntKind.u32.wrap ((a:Int)+(b:Int))=((a+b:Nat):Int):=by rw[IntWalk.u32_in _ (by omega)];omega
theorem nk{a b:Nat}(h:a*b≤9223372036854775807):IntKind.i64.wrap ((a:Int)*(b:Int))=((a*b:Nat):Int):=by rw[←Wt,UP _ (by omega)]
theorem Xc{a b:Nat}(h:a*b≤18446744073709551615):IntKind.u64.wrap ((a:Int)*(b:Int))=((a*b:Nat):Int):=by rw[←Wt,UO _ (by omega)]
theorem Zy{a b:Nat}(h:b≤a)(d:a≤9223372036854775807):IntKind.i64.wrap ((a:Int)-(b:Int))=((a-b:Nat):Int):=by rw[UP _ (by omega)];omega
theorem Y1{a b:Nat}(h:b≤a)(d:a≤18446744073709551615):IntKind.u64.wrap ((a:Int)-(b:Int))=((a-b:Nat):Int):=by rw[UO _ (by omega)];omega
theorem X9{a b:Nat}(h:a≤18446744073709551615):IntKind.u64.wrap ((a:Int).tdiv (b:Int))=((a/b:Nat):Int):=by
 have:=YP a b
 rw[show((a:Int).tdiv (b:Int))=((a/b:Nat):Int) from rfl];generalize a/b=q at this ⊢;rw[UO _ (by omega)]
theorem Y3{a b:Nat}(h:a≤9223372036854775807):IntKind.i64.wrap ((a:Int).tdiv (b:Int))=((a/b:Nat):Int):=by
 have:=YP a b
 rw[show((a:Int).tdiv (b:Int))=((a/b:Nat):Int) from rfl];generalize a/b=q at this ⊢;rw[UP _ (by omega)]
theorem mS{a b:Nat}(h:a≤4294967295):IntKind.u32.wrap ((a:Int).tdiv (b:Int))=((a/b:Nat):Int):=by
 have:=YP a b
 rw[show((a:Int).tdiv (b:Int))=((a/b:Nat):Int) from rfl];generalize a/b=q at this ⊢;rw[IntWalk.u32_in _ (by omega)]
theorem Qe(a b:Nat):(a:Int).tmod (b:Int)=((a%b:Nat):Int):=rfl
theorem Ym(a:Nat){e:Int}{d:Nat}(h:e=(d:Int)):(a:Int)/e=((a/d:Nat):Int):=by subst h;rfl
theorem Ji{α:Type}[Inhabited α]{l:List α}{i:Nat}{d:α}(h:i<l.length):l[i]? =some (l.getD i d):=by
 rw[UJ,UL h];rfl
section
variable {P:Program} {ρ:Operand→Value} {dst:Option Tmp} {ty:TypeId} {pos:String} {after:Array Edge} {gd:Option (Nat×Bool)}
 {w:World} {K:Value→World→Prop} {Kp:List PanicEntry→World→Prop} {X0 x y:Nat→Prop} {w0:Bs}
theorem Sh {a i:Operand} {t e:TypeId} {z:Value} {by_ g n c:Nat} {k:IntKind} {m:Int} {j:Nat} (ht:P.underlying t=some (.slice e)) (hi:Zf P e=some (z,1,by_))
  (hx:ρ a= .slice (some ⟨g,0,none⟩) n c) (hy:ρ i= .int k m) (hm:m=j) (hj:j<n) (h:K (.pointer (some ⟨g,j,none⟩)) w):St P ρ ⟨dst,.indexAddr t a i,ty,pos,after,gd⟩ w K Kp:=by
 obtain⟨inf,hi',_,hs,_⟩:=Jk hi;refine SI ht hi' hs hx hy hm hj ?_;rw[show 0+j*1=j by omega];exact h
theorem SH{a:Operand}{t g j u:Nat}{L:List Nat}{E:TypeId}(o:Own w0 y w g (L.map u32v) E)(ht:Yo P t=true)(hx:ρ a= .pointer (some ⟨g,j,none⟩))(hu:L[j]? =some u)(h:K (.int .u32 u) w):
  St P ρ ⟨dst,.load t a,ty,pos,after,gd⟩ w K Kp:=RN o ht hx (by rw[VA,hu];rfl) h
theorem Se {a v:Operand} {t g j u:Nat} {z:Value} {by_:Nat} {L:List Nat} {E:TypeId} (C:Cx X0 w0 x y w) (o:Own w0 y w g (L.map u32v) E) (hi:Zf P t=some (z,1,by_)) (hx:ρ a= .pointer (some ⟨g,j,none⟩)) (hv:ρ v= .int .u32 u) (hj:j<L.length)
  (h:∀w',Cx X0 w0 x y w'→Sp x y w x y w' (· =g)→Own w0 y w' g ((L.set j u).map u32v) E→K undef w'):St P ρ ⟨dst,.store t a v,ty,pos,after,gd⟩ w K Kp:=by
 refine SZ (vs:=[.int .u32 u]) C o hi hx (by rw[hv];rfl) rfl ?_ rfl ?_ h
 ·simp;omega
 ·rw[List.map_set,XY]
  have:j<(L.map u32v).length:=by simpa using hj
  rw[if_pos this];simp[u32v]
theorem So {t e:TypeId} {l c:Operand} {kl kc:IntKind} {a:Int} {n by_:Nat} (C:Cx X0 w0 x y w) (ht:P.underlying t=some (.slice e)) (hl:ρ l= .int kl a) (hc:ρ c= .int kc a) (ha:a=n) (hb:n≤1099511627776)
  (hi:Zf P e=some (.int .u32 0,1,by_)) (hby:by_≤8)
  (h:∀g w' x' y',(∀b,b<w.heap.size→b≠g)→Cx X0 w0 x' y' w'→Sp x y w x' y' w' Zt→Own w0 y' w' g ((List.replicate n 0).map u32v) e→K (.slice (some ⟨g,0,none⟩) n n) w'):
  St P ρ ⟨dst,.makeSlice t l c,ty,pos,after,gd⟩ w K Kp:=by
 obtain⟨i,hi',hz,hs,hby'⟩:=Jk hi;subst ha;have hbytes:(i.bytes:Int)*(n:Int)≤281474976710656:=by
  rw[hby'];have m:=ZH hby hb;have d:((by_*n:Nat):Int)≤281474976710656:=by omega
  rw[Wt] at d;exact d
 have hr:=run_make (P:=P) w t e i (.int .u32 0) ht hi' hz kl kc (n:Int) (n:Int) (by omega) (Wa _) hbytes (by omega);have j:madeCells (Value.int IntKind.u32 0).cells (n*i.size)=((List.replicate n 0).map u32v).toArray:=by
  rw[hs,ZL];apply VC;simp only[madeCells,Value.cells,Array.toList_map,Array.toList_range,List.map_replicate];apply WP;intro q;simp only[VA,W0];by_cases hq:q<n
  ·simp[hq,Nat.mod_one,u32v]
  ·simp[hq]
 simp only[WC] at hr;rw[j] at hr;refine R7 (v:= .slice (some ⟨w.heap.size,0,none⟩) n n) (w':=w.alloc (.cells ((List.replicate n 0).map u32v).toArray e (0,0))) ?_ (h _ _ _ _ (fun b hb=>by omega) (C.box _ e).1 (C.box _ e).2.1 (C.box _ e).2.2);simp[execOp,hl,hc,hr]
theorem Own.rowRS{w0:Bs}{X0 x y:Nat→Prop}{w:World}{g:Nat}{L:List Nat}{E:TypeId}(o:Own w0 y w g (L.map u32v) E)(C:Cx X0 w0 x y w)(hX:∀b,X0 b→b<w0.heap.size){n:Nat}(hn:n=L.length)(hb:n≤1099511627776)(hL:∀u∈L,u<4294967296)(hM:¬w0.M g):
  RS Jd X0 w (.slice (some ⟨g,0,none⟩) n n) L:=by
 subst hn;refine⟨_,L.length,rfl,UM _,by unfold maxLen;omega,.inr ⟨g,0,rfl,fun hx=>by have:=hX g hx;rcases o.ge with h|h;(· omega);(· exact hM h),?_⟩⟩;intro i u hi;refine⟨[u32v u],⟨rfl,hL u (XO hi)⟩,?_⟩;intro j v hj;cases j with
 |zero=>
  simp at hj;subst hj
  have:=o.blk.cell (j:=i) (v:=u32v u) (by rw[VA,hi];rfl)
  rw[show 0+i*Jd.sz+0=i by simp[Jd]];exact this
 |succ j=>simp at hj
def xq{α:Type}(T:Ty α)(x:Nat→Prop)(w:World):List (List Value)→List α→Prop
 |[],[]=>True
 |c::cs,a::as0=>T.rd x w c a∧xq T x w cs as0
 |_,_=>False
theorem xq.length{α:Type}{T:Ty α}{x:Nat→Prop}{w:World}:∀ {css:List (List Value)} {l:List α},xq T x w css l→css.length=l.length
 |[],[],_=>rfl
 |[],_::_,h=>h.elim
 |_::_,[],h=>h.elim
 |_::cs,_::d,h=>by simp[xq.length h.2]
theorem xq.at{α:Type}{T:Ty α}{x:Nat→Prop}{w:World}:∀ {css:List (List Value)} {l:List α},xq T x w css l→∀(i:Nat) (cs:List Value) (u:α),css[i]? =some cs→l[i]? =some u→T.rd x w cs u
 |[],_,_,i,cs,u,hi,_=>by simp at hi
 |c::css,[],h,_,_,_,_,_=>h.elim
 |c::css,a::d,h,0,cs,u,hi,hl=>by simp at hi hl;subst hi;subst hl;exact h.1
 |c::css,a::d,h,i+1,cs,u,hi,hl=>xq.at h.2 i cs u (by simpa using hi) (by simpa using hl)
theorem B9{α:Type}{T:Ty α}{css:List (List Value)}{l:List α}(h:xq T x w css l):∀cs∈css,cs.length=T.sz:=by
 intro cs hcs;obtain⟨q,hq,rfl⟩:=XK.1 hcs;have hq':q<l.length:=by rw[←h.length];exact hq
 exact T.len (h.at q _ l[q] (by simp[hq]) (by simp[hq']))
theorem Cx.row(C:Cx X0 w0 x y w)(vs:List Value)(T:TypeId):
  Cx X0 w0 (fun b=>x b∨b=w.heap.size) y (w.alloc (.cells vs.toArray T (0,0)))∧Sp x y w (fun b=>x b∨b=w.heap.size) y (w.alloc (.cells vs.toArray T (0,0))) Zt:=by
 have hle:=C.below.size;refine⟨⟨C.below.trans ((Kj w _).mono hle),fun b h=> .inl (C.base b h),?_,fun b h=> .inl (C.yx b h)⟩,⟨?_,Tr.below (Kj w _),fun _ h=>h,fun b hb _=>Yz hb⟩⟩
 ·rintro b (h|rfl)
  ·have:=C.bd b h;simp;omega
  ·simp
 ·refine⟨?_,fun b hb _=>Yz hb,by simp⟩;rintro b hb (h|rfl)
  ·exact h
  ·omega
theorem Uu {α:Type} {T:Ty α} {css:List (List Value)} {l:List α} {t E:TypeId} {z:Value} {by_ len:Nat} {parts:Array (Nat×Operand)} {ps:List (Nat×Value)} (C:Cx X0 w0 x y w) (ht:P.underlying t=some (.slice E)) (hi:Zf P E=some (z,T.sz,by_)) (j:0<len) (hl:len*T.sz≤2^24)
  (hp:(parts.toList.map fun p=>(p.1,ρ p.2))=ps) (hc:(Vj z T.sz len ps,css.length)=(some css.flatten.toArray,len)) (hr:xq T x w css l)
  (h:∀g w' x',Cx X0 w0 x' y w'→Sp x y w x' y w' Zt→(∀b,x b→x' b)→OS T E w0 x' y w' (.slice (some ⟨g,0,none⟩) len len) l→K (.slice (some ⟨g,0,none⟩) len len) w'):
  St P ρ ⟨dst,.buildSlice t len parts,ty,pos,after,gd⟩ w K Kp:=by
 have e:Vj z T.sz len ps=some css.flatten.toArray:=congrArg Prod.fst hc;have d:css.length=len:=congrArg Prod.snd hc;have hpe:(parts.map fun(i,x)=>(i,ρ x)).toList=ps:=by rw[←hp];simp
 have hrun:=Vs (P:=P) (w:=w) (ps:=parts.map fun(i,x)=>(i,ρ x)) ht hi T.pos j hl (by rw[hpe];exact e);have hll:l.length=len:=by rw[←hr.length];exact d
 refine R7 (v:= .slice (some ⟨w.heap.size,0,none⟩) len len) (by simp[execOp,hrun]) (h _ _ _ (C.row css.flatten E).1 (C.row css.flatten E).2 (fun b hb=> .inl hb) ?_);refine⟨⟨css,hr.length,fun i cs u hi hu=>T.tr (hr.at i cs u hi hu) (C.row css.flatten E).2.tx,?_⟩,?_⟩
 ·have hfl:css.flatten.length=len*T.sz:=by
   rw[List.length_flatten,←d];have hall:=B9 hr;clear hc e d hrun hr hpe hp hll h
   induction css with
   |nil=>simp
   |cons c css ih=>
    rw[U9,List.sum_cons,Uw,hall c (by simp),ih fun cs h=>hall cs (by simp[h]),ZW];omega
  refine⟨by rw[hfl,hll],.inr ⟨w.heap.size,len,css.flatten.toArray,by rw[hll],UN _,heap_alloc_new w _,by omega,?_,by simp[hfl],?_⟩⟩
  ·have:=YZ len T.pos;unfold maxLen;omega
  ·rw[hll,←hfl];exact YC
 ·intro k hk;simp[Value.ownBlock] at hk;subst hk;exact⟨⟨.inr rfl,fun hy=>by have:=C.bd _ (C.yx _ hy);omega⟩,.inl C.below.size⟩
theorem Sl {α:Type} {T:Ty α} {css:List (List Value)} {l:List α} {t E:TypeId} {z:Value} {by_ len:Nat} {parts:Array (Nat×Operand)} {ps:List (Nat×Value)} (C:Cx X0 w0 x y w) (ht:P.underlying t=some (.slice E)) (hi:Zf P E=some (z,T.sz,by_)) (m:0<len) (hl:len*T.sz≤2^24)
  (hp:(parts.toList.map fun p=>(p.1,ρ p.2))=ps) (hc:(Vj z T.sz len ps,css.length)=(some css.flatten.toArray,len)) (hr:xq T x w css l)
  (h:∀g w',Cx X0 w0 x y w'→Sp x y w x y w' Zt→RS T x w' (.slice (some ⟨g,0,none⟩) len len) l→K (.slice (some ⟨g,0,none⟩) len len) w'):
  St P ρ ⟨dst,.buildSlice t len parts,ty,pos,after,gd⟩ w K Kp:=by
 have d:Vj z T.sz len ps=some css.flatten.toArray:=congrArg Prod.fst hc;have e:css.length=len:=congrArg Prod.snd hc;have hpe:(parts.map fun(i,x)=>(i,ρ x)).toList=ps:=by rw[←hp];simp
 have hrun:=Vs (P:=P) (w:=w) (ps:=parts.map fun(i,x)=>(i,ρ x)) ht hi T.pos m hl (by rw[hpe];exact d);have hll:l.length=len:=by rw[←hr.length];exact e
 refine R7 (v:= .slice (some ⟨w.heap.size,0,none⟩) len len) (by simp[execOp,hrun]) (h _ _ (C.next (Kj w (.cells css.flatten.toArray E (0,0)))).1 (C.next (Kj w _)).2 ?_);refine⟨_,len,by rw[hll],by omega,?_,.inr ⟨w.heap.size,0,rfl,fun hx=>by have:=C.bd _ hx;omega,?_⟩⟩
 ·have:=YZ len T.pos;unfold maxLen;omega
 ·intro i u hi;have hlt:i<l.length:=by
   rcases U2 i l.length with h|h
   ·exact h
   ·rw[U5 h] at hi;cases hi
  have hci:css[i]? =some (css[i]'(by rw[hr.length];exact hlt)):=by simp[hr.length,hlt]
  have hrd:=hr.at i _ u hci hi;refine⟨_,T.tr hrd (Tr.below (Kj w _)),?_⟩;intro j v hv;have hj:j<(css[i]'(by rw[hr.length];exact hlt)).length:=by
   rcases U2 j (css[i]'(by rw[hr.length];exact hlt)).length with h|h
   ·exact h
   ·rw[U5 h] at hv;cases hv
  have hfg:=V4 css (B9 hr) i j _ hci hj;rw[hv] at hfg
  have:=cell_of_row (w.alloc (.cells css.flatten.toArray E (0,0))) w.heap.size (i*T.sz+j) css.flatten.toArray _ (0,0) (heap_alloc_new w _)
  rw[show 0+i*T.sz+j=i*T.sz+j by omega,this];simpa using hfg
structure Src {α:Type} (T:Ty α) (x:Nat→Prop) (w:World) (v:Value) (l:List α):Prop where
 ex:∃css:List (List Value),css.length=l.length∧(∀(i:Nat) (cs:List Value) (u:α),css[i]? =some cs→l[i]? =some u→T.rd x w cs u)∧
  ∃a c,v= .slice a l.length c∧(l=[]∨∃b o,a=some ⟨b,o,none⟩∧∀j u,css.flatten[j]? =some u→w.cell? ⟨b,o+j,none⟩=some u)
theorem ut{sz:Nat}(hsz:0<sz)(b o:Nat):∀(css:List (List Value)) (k:Nat),(∀cs∈css,cs.length=sz)→(∀(i:Nat) (cs:List Value),css[i]? =some cs→∀j u,cs[j]? =some u→w.cell? ⟨b,o+(k+i)*sz+j,none⟩=some u)→
  ∀j u,css.flatten[j]? =some u→w.cell? ⟨b,o+k*sz+j,none⟩=some u:=by
 intro css
 induction css with
 |nil=>intro k _ _ j u h;simp at h
 |cons c css ih=>
  intro k hs hc j u hj;have hcl:=hs c (by simp);rw[WQ,WS] at hj;split at hj
  ·have:=hc 0 c (by simp) j u hj
   rw[YH] at this;exact this
  ·rename_i hge
   have:=ih (k+1) (fun cs h=>hs cs (by simp[h])) (fun i cs hi j u hu=>by
    have:=hc (i+1) cs (by simpa using hi) j u hu
    rw[show k+1+i=k+(i+1) by omega];exact this) (j-c.length) u hj
   rw[show o+k*sz+j=o+(k+1)*sz+(j-c.length) by rw[ZW];omega];exact this
theorem na{α β:Type}(l:List α)(p:α→β→Prop)(q:Nat→β→Prop)(h:∀i x,l[i]? =some x→∃b,p x b∧q i b):∃bs:List β,bs.length=l.length∧(∀(i:Nat) (b:β) (x:α),bs[i]? =some b→l[i]? =some x→p x b)∧∀(i:Nat) (b:β),bs[i]? =some b→q i b:=by
 induction l generalizing q with
 |nil=>exact⟨[],rfl,fun i b x h=>by simp at h,fun i b h=>by simp at h⟩
 |cons a l ih=>
  obtain⟨d,e,g⟩:=h 0 a (by simp);obtain⟨bs,k1,j,m⟩:=ih (fun i=>q (i+1)) (fun i x hx=>h (i+1) x (by simpa using hx));refine⟨d::bs,by simp[k1],?_,?_⟩
  ·intro i b x hb hx;cases i with
   |zero=>simp at hb hx;subst hb;subst hx;exact e
   |succ i=>exact j i b x (by simpa using hb) (by simpa using hx)
  ·intro i b hb;cases i with
   |zero=>simp at hb;subst hb;exact g
   |succ i=>exact m i b (by simpa using hb)
theorem zn{α:Type}{T:Ty α}{css:List (List Value)}{l:List α}(hl:css.length=l.length)(h:∀(i:Nat) (cs:List Value) (u:α),css[i]? =some cs→l[i]? =some u→T.rd x w cs u):∀cs∈css,cs.length=T.sz:=by
 intro cs hcs;obtain⟨q,hq,rfl⟩:=XK.1 hcs;have hq':q<l.length:=by omega
 exact T.len (h q _ l[q] (by simp[hq]) (by simp[hq']))
theorem Xq{α:Type}{T:Ty α}{v:Value}{l:List α}(h:RS T x w v l):Src T x w v l:=by
 obtain⟨a,c,rfl,m,p,d⟩:=h;rcases d with rfl|⟨b,o,rfl,hx,d⟩
 ·exact⟨[],rfl,fun i cs u h=>by simp at h,a,c,rfl,.inl rfl⟩
 ·obtain⟨css,k1,e,g⟩:=na l (fun x' cs=>T.rd x w cs x') (fun i cs=>∀j u,cs[j]? =some u→w.cell? ⟨b,o+i*T.sz+j,none⟩=some u) (fun i x hi=>d i x hi);refine⟨css,k1,e,_,c,rfl,.inr ⟨b,o,rfl,?_⟩⟩
  have:=ut (w:=w) T.pos b o css 0 (zn k1 e) (fun i cs hi j u hu=>by rw[Jab];exact g i cs hi j u hu)
  intro j u hj
  have:=this j u hj
  rw[Jac,YH] at this;exact this
structure Ap (x:Nat→Prop) (w:World) (x':Nat→Prop) (y:Nat→Prop) (w':World):Prop where
 tx:Tr x w x' w'
 same:∀b,b<w.heap.size→y b→w'.heap[b]? =w.heap[b]?
theorem Own.ap{x':Nat→Prop}{w':World}{g:Nat}{C:List Value}{T:TypeId}(h:Own w0 y w g C T)(s:Ap x w x' y w')(_hm:y g):Own w0 y w' g C T:=⟨h.mem,h.ge,h.blk.same (s.same g h.blk.lt h.mem)⟩
theorem Bel.grown{B:Bs}{w w':World}{o:Option Nat}(h:Bel B w)(g:w.grownBy w' o)(hr:∀k,o=some k→B.heap.size≤k∨B.M k):Bel B w':=
 ⟨g.os.trans h.os,g.tape.trans h.tape,g.output.trans h.output,UC h.size g.size,fun k hk hm=>(g.block k (UB hk h.size) (fun e=>by
  rcases hr k e.symm with d|d
  ·omega
  ·exact hm d)).trans (h.block k hk hm)⟩
theorem Sk {α:Type} {T:Ty α} {E t:TypeId} {z:Value} {by_:Nat} {v u:Value} {l m:List α} {a b:Operand} (C:Cx X0 w0 x y w) (ht:P.underlying t=some (.slice E)) (hi:Zf P E=some (z,T.sz,by_)) (hx:ρ a=v) (hy:ρ b=u)
  (ho:OS T E w0 x y w v l) (hs:Src T x w u m) (o:l.length+m.length≤maxLen) (hby:(l.length+m.length)*by_≤140737488355328) (hz:z.cells.size=T.sz)
  (h:∀v' w' x',Cx X0 w0 x' y w'→Ap x w x' y w'→(∀b,x b→x' b)→OS T E w0 x' y w' v' (l++m)→K v' w'):
  St P ρ ⟨dst,.call {callee:= .builtin .append,args:= #[a,b],argTypes:= #[t,t]},ty,pos,after,gd⟩ w K Kp:=by
 obtain⟨inf,hi',hz',hsz,hbyt⟩:=Jk hi;obtain⟨⟨css,d,B,p⟩,hm⟩:=ho;obtain⟨css',k1,s,ad,c,rfl,A⟩:=hs;have hal:=zn d B;have hal':=zn k1 s;have hfl:∀(css:List (List Value)),(∀cs∈css,cs.length=T.sz)→css.flatten.length=css.length*T.sz:=by
  intro css
  induction css with
  |nil=>intro _;simp
  |cons c css ih=>intro hh;rw[WQ,Uv,hh c (by simp),ih fun cs h=>hh cs (by simp[h]),Uw,ZW];omega
 have key:∃v' w',(Builtin.append_ #[t,t] ty #[v,.slice ad m.length c]).run P w= .ok v' w'∧w'.ownsRow 0 E T.sz v' (l.length+m.length) (css.flatten++css'.flatten)∧w.grownBy w' v.ownBlock∧
   (∀k,v'.ownBlock=some k→v.ownBlock=some k∨(w.heap.size≤k∧k<w'.heap.size)):=by
  by_cases hml:m=[]
  ·subst hml;have hcss':css'=[]:=UT (by simpa using k1);subst hcss';simp only[Ux,YH,List.flatten_nil,U8];refine⟨v,w,?_,p,⟨rfl,rfl,rfl,UM _,fun _ _ _=>rfl⟩,fun k hk=> .inl hk⟩;rcases p.2 with ⟨rfl,hn⟩|⟨g,cap,cur,rfl,hb,hg,D,G,_⟩
   ·cases ad<;>simp[Builtin.append_,run_underlying ht,sizeOf,typeInfo,hi',Builtin.lenOf,Builtin.firstCells,loadCells,loadCellsFrom]
   ·cases ad<;>simp[Builtin.append_,run_underlying ht,sizeOf,typeInfo,hi',Builtin.lenOf,Builtin.firstCells,loadCells,loadCellsFrom,D,storeCells]
  ·rcases A with A|⟨bb,oo,rfl,hcell⟩
   ·exact absurd A hml
   have hmpos:0<m.length:=W5.2 hml;have hnl:css'.flatten.length=m.length*T.sz:=by rw[hfl css' hal',k1]
   have hnews:∀j u,css'.flatten[j]? =some u→w.cell? ((⟨bb,oo,none⟩:Addr).add j)=some u:=fun j u hj=>by rw[Addr.add_lit];exact hcell j u hj
   have hone:∀u∈css'.flatten,u.oneCell'=true:=by
    intro u hu;obtain⟨cs,hcs,hu'⟩:=List.mem_flatten.1 hu;obtain⟨q,hq,rfl⟩:=XK.1 hcs;have hq':q<m.length:=by omega
    exact T.one (s q _ m[q] (by simp[hq]) (by simp[hq'])) u hu'
   rcases p.2 with ⟨rfl,hn⟩|⟨g,cap,cur,rfl,hbg,hg,hnc,hcm,hcs,htake⟩
   ·
    have hl:l=[]:=UT hn;subst hl;have hcss:css=[]:=UT (by simpa using d);subst hcss;have hr:=run_append_nil (P:=P) w t ty E inf z ht hi' hz' ⟨bb,oo,none⟩ m.length c css'.flatten (by rw[hnl,hsz]) hnews hmpos (by simp only[maxLen,Ux] at o;omega) (by rw[hbyt];have hb:=hby;simp only[Ux,Jab] at hb;omega);simp only[Ux,Jab,List.flatten_nil,UZ];refine⟨_,_,hr,⟨by rw[hnl],.inr ⟨w.heap.size,_,_,rfl,UN _,heap_alloc_new w.drew _,grownCap_ge w _ _ E,grownCap_le_maxLen w _ _ E (by simpa using o),?_,?_⟩⟩,⟨rfl,rfl,rfl,by simp,fun k hk _=>Below.heap_alloc w.drew _ k hk⟩,?_⟩
    ·have hge:=grownCap_ge w m.length 0 E;simp only[Array.size_append,XZ,size_zeroCells,hz,hnl,←YE]
     congr 1;omega
    ·simp only[Array.toList_append,←hnl];exact List.take_left
    ·intro k hk;simp[Value.ownBlock] at hk;subst hk;exact .inr ⟨UM _,by simp⟩
   ·by_cases hroom:l.length+m.length≤cap
    ·have hfit:l.length*inf.size+css'.flatten.length≤cur.size:=by rw[hsz,hnl,hcs,←YE];exact ZI _ hroom
     have hr:=run_append_room (P:=P) w t ty E inf ht hi' g l.length cap cur hg ⟨bb,oo,none⟩ m.length c css'.flatten (by rw[hnl,hsz]) hnews hone hroom hfit;rw[hsz] at hr hfit;have hlen:(css.flatten++css'.flatten).length=(l.length+m.length)*T.sz:=by rw[Uv,hnl,hfl css hal,d,YE]
     refine⟨_,_,hr,⟨hlen,.inr ⟨g,cap,_,rfl,hbg,setRow_heap w g cur _ E _ hg,hroom,hcm,?_,?_⟩⟩,⟨rfl,rfl,rfl,by simp,fun k hk hne=>setRow_other w g k _ (fun e=>hne (by simp[Value.ownBlock,e]))⟩,fun k hk=> .inl hk⟩
     ·simp only[XZ,Uv,UH,UG,VG];omega
     ·rw[htake,←hlen];exact List.take_left
    ·have holds:∀j u,css.flatten[j]? =some u→w.cell? ((⟨g,0,none⟩:Addr).add j)=some u:=p.cells (g:=g) rfl;have hr:=run_append_grow (P:=P) w t ty E inf z ht hi' hz' ⟨g,0,none⟩ l.length cap css.flatten (by rw[p.1,hsz]) holds ⟨bb,oo,none⟩ m.length c css'.flatten (by rw[hnl,hsz]) hnews (by omega) (by simp only[maxLen] at o;omega) (by rw[hbyt];exact growslice_fits (by omega) hby);have hlen:(css.flatten++css'.flatten).length=(l.length+m.length)*T.sz:=by rw[Uv,hnl,hfl css hal,d,YE]
     refine⟨_,_,hr,⟨hlen,.inr ⟨w.heap.size,_,_,rfl,UN _,heap_alloc_new w.drew _,grownCap_ge w _ _ E,grownCap_le_maxLen w _ _ E o,?_,?_⟩⟩,⟨rfl,rfl,rfl,by simp,fun k hk _=>Below.heap_alloc w.drew _ k hk⟩,?_⟩
     ·have hge:=grownCap_ge w (l.length+m.length) cap E;have F:css.flatten.length=l.length*T.sz:=by rw[hfl css hal,d]
      simp only[Array.size_append,XZ,size_zeroCells,hz,hnl,F,←YE]
      congr 1;omega
     ·simp only[Array.toList_append,UF];rw[←UF,←hlen];exact List.take_left
     ·intro k hk;simp[Value.ownBlock] at hk;subst hk;exact .inr ⟨UM _,by simp⟩
 obtain⟨v',w',hr,hown,hg,hnew⟩:=key;have hxle:=hg.size;have hrow:∀k,v.ownBlock=some k→w0.heap.size≤k∨w0.M k:=fun k hk=>(hm k hk).2;have htx:Tr x w (fun b=>x b∨(w.heap.size≤b∧b<w'.heap.size)) w':=by
  refine⟨?_,fun b hb hx=>hg.block b hb (fun e=>hx (hm b e.symm).1.1),hxle⟩;rintro b hb (h|h)
  ·exact h
  ·omega
 refine R7 (v:=v') (w':=w') ?_ (h v' w' (fun b=>x b∨(w.heap.size≤b∧b<w'.heap.size)) ?_ ⟨htx,?_⟩ (fun b hb=> .inl hb) ?_)
 ·simp only[execOp,resolve,invoke,builtin,Sem.run_bind,Sem.run_pure,Result.andThen_ok,List.map_toArray,U9,XE,hx,hy,hr]
 ·refine⟨C.below.grown hg hrow,fun b hb=> .inl (C.base b hb),?_,fun b hb=> .inl (C.yx b hb)⟩;rintro b (hb|hb)
  ·exact UB (C.bd b hb) hxle
  ·exact hb.2
 ·intro b hb hyb;exact hg.block b hb (fun e=>(hm b e.symm).1.2 hyb)
 ·refine⟨⟨css++css',by simp[d,k1],?_,?_⟩,?_⟩
  ·intro i cs u hic hiu;rw[WS] at hic hiu;by_cases hil:i<l.length
   ·rw[if_pos (by omega)] at hic;rw[if_pos hil] at hiu;exact T.tr (B i cs u hic hiu) htx
   ·rw[if_neg (by omega)] at hic;rw[if_neg hil] at hiu;rw[d] at hic;exact T.tr (s _ cs u hic hiu) htx
  ·rw[List.flatten_append,Uv];exact hown
  ·intro k hk;rcases hnew k hk with hk'|hk'
   ·exact⟨⟨.inl (hm k hk').1.1,(hm k hk').1.2⟩,(hm k hk').2⟩
   ·exact⟨⟨.inr hk',fun hyk=>by have:=C.bd k (C.yx k hyk);omega⟩,.inl (UC C.below.size hk'.1)⟩
end
section
variable {P:Program} {ρ:Operand→Value} {dst:Option Tmp} {ty:TypeId} {pos:String} {after:Array Edge} {gd:Option (Nat×Bool)}
 {w:World} {K:Value→World→Prop} {Kp:List PanicEntry→World→Prop} {X0 x y:Nat→Prop} {w0:Bs}
theorem RS.u32_small{v:Value}{l:List Nat}(h:RS Jd x w v l):Jp l:=by
 obtain⟨a,c,rfl,e,g,d⟩:=h;rcases d with rfl|⟨b,o,rfl,hx,d⟩
 ·exact J9
 ·intro u hu;obtain⟨i,hi⟩:=XL.1 hu;obtain⟨cs,hr,_⟩:=d i u hi;exact hr.2
theorem Tv {α:Type} {T:Ty α} {a b:Operand} {xt yt e:TypeId} {ad:Option Addr} {n c:Nat} {l:List α} (ht:P.underlying xt=some (.slice e)) (hr:RS T x w (.slice ad n c) l) (hx:ρ a= .slice ad n c) (hy:ρ b= .slice none 0 0)
  (hk:l=[]→K (.bool true) w) (hk':K (.bool false) w):St P ρ ⟨dst,.binOp .eql xt a b yt,ty,pos,after,gd⟩ w K Kp:=by
 cases ad with
 |none=>
  have hl:l=[]:=by
   obtain⟨a',c',e,g,i,d⟩:=hr;cases e;rcases d with d|⟨b,o,h,_⟩
   ·exact d
   ·cases h
  refine J7 (v:= .bool true) (by rw[hx];rfl) ?_ (hk hl);rw[hx,hy,Lib.run_eql_slice_nil w xt e none n c 0 0 ht];rfl
 |some p=>
  refine J7 (v:= .bool false) (by rw[hx];rfl) ?_ hk';rw[hx,hy,Lib.run_eql_slice_nil w xt e (some p) n c 0 0 ht];rfl
theorem Tt {α:Type} {T:Ty α} {t E:TypeId} {z:Value} {by_:Nat} (C:Cx X0 w0 x y w) (ht:P.underlying t=some (.slice E)) (hi:Zf P E=some (z,T.sz,by_))
  (h:∀g w' x',Cx X0 w0 x' y w'→Sp x y w x' y w' Zt→(∀b,x b→x' b)→OS T E w0 x' y w' (.slice (some ⟨g,0,none⟩) 0 0) ([]:List α)→K (.slice (some ⟨g,0,none⟩) 0 0) w'):
  St P ρ ⟨dst,.buildSlice t 0 #[],ty,pos,after,gd⟩ w K Kp:=by
 obtain⟨i,hi',hz,hs,_⟩:=Jk hi;have hrun:(Instr.buildSlice t 0 #[]).run P w= .ok (.slice (some ⟨w.heap.size,0,none⟩) 0 0) (w.alloc (.cells #[] E (0,0))):=by
  simp[Instr.buildSlice,run_underlying ht,sizeOf,typeInfo,hi',Instr.fill,newRow,Array.range_zero']
 refine R7 (v:= .slice (some ⟨w.heap.size,0,none⟩) 0 0) (by simp[execOp,hrun]) (h _ _ _ (C.row [] E).1 (C.row [] E).2 (fun b hb=> .inl hb) ?_);refine⟨⟨[],rfl,fun i cs u h=>by simp at h,by simp,.inr ⟨w.heap.size,0,#[],rfl,UN _,heap_alloc_new w _,UM _,by unfold maxLen;omega,by simp,by simp⟩⟩,?_⟩;intro k hk;simp[Value.ownBlock] at hk;subst hk;exact⟨⟨.inr rfl,fun hy=>by have:=C.bd _ (C.yx _ hy);omega⟩,.inl C.below.size⟩
end
section
variable {P:Program} {ops:Array Oper} {n:Nat} {Q:Post} {r:List Oper} {f:Fr} {w:World}
theorem O {d:Nat} {op:Op} {ty:TypeId} {pos:String} {after:Array Edge} (hlo:Nat.blt d n=true)
  (h:St P (fe f) ⟨some d,op,ty,pos,after,none⟩ w (fun v w'=>Sq P ops n Q r (updO f (some d) v) w') (fun ch w'=>Q (.panic ch) f w')):
  Sq P ops n Q (⟨some d,op,ty,pos,after,none⟩::r) f w:=Sq.op (UW hlo) h
theorem Og {d:Nat} {op:Op} {ty:TypeId} {pos:String} {after:Array Edge} {j:Nat} {b:Bool} (hlo:Nat.blt d n=true) (hy:Zb ops f j=some b)
  (h:St P (fe f) ⟨some d,op,ty,pos,after,some (j,b)⟩ w (fun v w'=>Sq P ops n Q r (updO f (some d) v) w') (fun ch w'=>Q (.panic ch) f w')):
  Sq P ops n Q (⟨some d,op,ty,pos,after,some (j,b)⟩::r) f w:=T8 hy (UW hlo) h
theorem Ox {d:Nat} {op:Op} {ty:TypeId} {pos:String} {after:Array Edge} {j:Nat} {b c:Bool} (hlo:Nat.blt d n=true) (hy:Zb ops f j=some c) (hc:(some c==some b)=false)
  (h:Sq P ops n Q r (updO f (some d) undef) w):
  Sq P ops n Q (⟨some d,op,ty,pos,after,some (j,b)⟩::r) f w:=Ut hy hc (UW hlo) h
theorem On {op:Op} {ty:TypeId} {pos:String} {after:Array Edge}
  (h:St P (fe f) ⟨none,op,ty,pos,after,none⟩ w (fun v w'=>Sq P ops n Q r (updO f none v) w') (fun ch w'=>Q (.panic ch) f w')):
  Sq P ops n Q (⟨none,op,ty,pos,after,none⟩::r) f w:=Sq.op trivial h
end
section
variable {P:Program} {ρ:Operand→Value} {dst:Option Tmp} {ty:TypeId} {pos:String} {after:Array Edge} {gd:Option (Nat×Bool)}
 {w:World} {K:Value→World→Prop} {Kp:List PanicEntry→World→Prop} {x y:Operand} {xt yt:TypeId} {k:IntKind} {a b z:Int}
theorem St.xor(hx:ρ x= .int k a)(hy:ρ y= .int k b)(hz:k.wrap (BitVec.ofInt k.bits a ^^^ BitVec.ofInt k.bits b).toNat=z)(h:K (.int k z) w):St P ρ ⟨dst,.binOp .xor xt x y yt,ty,pos,after,gd⟩ w K Kp:=by
 subst hz;refine J7 (by rfl) ?_ h;rw[hx,hy,binOp_xor];rfl
theorem Tp(hx:ρ x= .int k a)(hz:k.wrap (BitVec.ofInt k.bits (if k.signed then -1 else k.max) ^^^ BitVec.ofInt k.bits a).toNat=z)(h:K (.int k z) w):St P ρ ⟨dst,.unOp .xor xt x,ty,pos,after,gd⟩ w K Kp:=by
 subst hz;refine R7 (v:= .int k (k.wrap (BitVec.ofInt k.bits (if k.signed then -1 else k.max) ^^^ BitVec.ofInt k.bits a).toNat)) ?_ h;simp[execOp,hx,Op.unary,Op.intBits]
end
theorem bv32{a:Nat}(h:a<4294967296):(BitVec.ofInt IntKind.u32.bits (a:Int)).toNat=a:=by
 rw[VH];simp[IntKind.bits];omega
theorem bv64{a:Nat}(h:a<18446744073709551616):(BitVec.ofInt IntKind.u64.bits (a:Int)).toNat=a:=by
 rw[VH];simp[IntKind.bits];omega
theorem zw{a b:Nat}(ha:a<4294967296)(hb:b<4294967296):IntKind.u32.wrap (BitVec.ofInt IntKind.u32.bits (a:Int) ||| BitVec.ofInt IntKind.u32.bits (b:Int)).toNat=((a ||| b:Nat):Int):=by
 have:=ZP (n:=32) ha hb
 rw[VI,bv32 ha,bv32 hb,IntWalk.u32_in _ (by omega)]
theorem q0{a b:Nat}(ha:a<4294967296)(hb:b<4294967296):IntKind.u32.wrap (BitVec.ofInt IntKind.u32.bits (a:Int) &&& BitVec.ofInt IntKind.u32.bits (b:Int)).toNat=((a &&& b:Nat):Int):=by
 have:=YI a (n:=32) hb
 rw[BitVec.toNat_and,bv32 ha,bv32 hb,IntWalk.u32_in _ (by omega)]
theorem m0{a b:Nat}(ha:a<4294967296)(hb:b<4294967296):IntKind.u32.wrap (BitVec.ofInt IntKind.u32.bits (a:Int) ^^^ BitVec.ofInt IntKind.u32.bits (b:Int)).toNat=((a ^^^ b:Nat):Int):=by
 have:=Nat.xor_lt_two_pow (n:=32) ha hb
 rw[BitVec.toNat_xor,bv32 ha,bv32 hb,IntWalk.u32_in _ (by omega)]
theorem qV{a b:Nat}(ha:a<18446744073709551616)(hb:b<18446744073709551616):IntKind.u64.wrap (BitVec.ofInt IntKind.u64.bits (a:Int) ||| BitVec.ofInt IntKind.u64.bits (b:Int)).toNat=((a ||| b:Nat):Int):=by
 have:=ZP (n:=64) ha hb
 rw[VI,bv64 ha,bv64 hb,UO _ (by omega)]
theorem xc{a:Nat}(ha:a<4294967296):IntKind.u32.wrap (BitVec.ofInt IntKind.u32.bits (if IntKind.u32.signed then -1 else IntKind.u32.max) ^^^ BitVec.ofInt IntKind.u32.bits (a:Int)).toNat=((4294967295-a:Nat):Int):=by
 have e:(BitVec.ofInt IntKind.u32.bits (if IntKind.u32.signed then -1 else IntKind.u32.max))=BitVec.allOnes IntKind.u32.bits:=by decide
 rw[e,BitVec.allOnes_xor,BitVec.toNat_not,bv32 ha,IntWalk.u32_in _ (by simp[IntKind.bits];omega)];simp[IntKind.bits]
theorem ja{a:Nat}{e:Int}{d:Nat}(h:(2:Int)^min e.toNat IntKind.u64.bits=(d:Int))(hb:a*d<18446744073709551616):IntKind.u64.wrap ((a:Int)*2^min e.toNat IntKind.u64.bits)=((a*d:Nat):Int):=by
 rw[h,←Wt,UO _ (by omega)]
theorem pv(s:Nat)(h:s≤64):(2:Int)^min ((s:Nat):Int).toNat IntKind.u64.bits=((2^s:Nat):Int):=by
 rw[WC,ZF (by simp[IntKind.bits];omega)];simp
theorem Qy{a s:Nat}(h:s≤64∧a*2^s<18446744073709551616):IntKind.u64.wrap ((a:Int)*2^min ((s:Nat):Int).toNat IntKind.u64.bits)=((a*2^s:Nat):Int):=by
 rw[pv s h.1,←Wt,UO _ (by omega)]
theorem yf{a s:Nat}(h:s≤64):(a:Int)/2^min ((s:Nat):Int).toNat IntKind.u64.bits=((a/2^s:Nat):Int):=by
 rw[pv s h];rfl
def reb(vals:List (Nat×Value))(f:Fr):Fr:=fun t=>match vals.lookup t with
 |some v=>v
 |none=>f t
theorem aN{f:Fr}:∀p∈([]:List (Nat×Value)),f p.1=p.2:=Mf
theorem aC{f:Fr}{d:Nat}{u:Value}{r:List (Nat×Value)}(hd:f d=u)(h:∀p∈r,f p.1=p.2):∀p∈(d,u)::r,f p.1=p.2:=G7 hd h
theorem mixK{D:List Nat}{f0 f:Fr}(h:Keep D f0 f){vals:List (Nat×Value)}(hv:∀p∈vals,f p.1=p.2):∃f',f=mixL vals D f' f0:=h.mix vals hv
section
variable {σ:Type} {fc:Fence} [Fw fc] {P:Program} {ops:Array Oper} {n:Nat} {D:List Deferred} {Q:Post} {f0:Fr} {w0:World}
def xi(P:Program)(ops:Array Oper)(Q:Post)(R:σ→World→σ→World→Prop)(Gl:List (σ→Value→World→Prop))(f:Fr)(s:σ)(w:World):List Oper→List (List Nat)→Nat→Prop
 |o::l,d::dl,k=>
  (Deps ops Gl f s w d→OpSt P ops f o w (fun v w'=>∃s',R s w s' w'∧(Gl.getD k noG) s' v w') (fun ch w'=>∀f,Q (.panic ch) f w'))∧xi P ops Q R Gl f s w l dl (k+1)
 |_,_,_=>True
theorem qk{a:σ}{R:σ→World→σ→World→Prop}{Gl:List (σ→Value→World→Prop)}{ds:List Nat}:∀(l:List Oper) (dl:List (List Nat)) (k:Nat),
  (∀f s w,R a w0 s w→Keep ds f0 f→xi P ops Q R Gl f s w l dl k)→q6 P ops Q R Gl f0 a w0 ds l dl k
 |[],_,_,_=>trivial
 |_::_,[],_,_=>trivial
 |o::l,d::dl,k,h=>⟨fun f s w r kp dp=>(h f s w r kp).1 dp,qk l dl (k+1) fun f s w r kp=>(h f s w r kp).2⟩
theorem SY {id:Nat} (hm:P.follows .mixedOrders=true) (m:Nat) (dl:List (List Nat)) (e:σ) (R:σ→World→σ→World→Prop) (Gl:List (σ→Value→World→Prop))
  (chk:jc ops m n dl=true) (g:R e w0 e w0.drew) (htr:∀s a t b u c,R s a t b→R t b u c→R s a u c) (hG:Xb R Gl)
  (h:∀f s w,R e w0 s w→Keep (Jy ops m) f0 f→xi P ops Q R Gl f s w ops.toList dl 0∧(Deps ops Gl f s w (List.range m)→Sq P ops n Q (ops.toList.drop m) f w)):
  W fc P (Code.region id ops true) n D Q f0 w0:=
 TJ hm m dl e R Gl chk g htr hG (qk _ _ _ fun f s w r k=>(h f s w r k).1) fun f s w r k=>(h f s w r k).2
theorem TQ{α:Type}{T:Ty α}{x:Nat→Prop}{w:World}{v:Value}{l:List α}(h:RS T x w v l):∃a c,v= .slice a l.length c∧RS T x w (.slice a l.length c) l:=by
 obtain⟨a,c,rfl,_,_⟩:=h.len;exact⟨a,c,rfl,h⟩
def fx{τ:Type}(V:Value):τ→Value→World→Prop:=fun _ v _=>v=V
def fr{α:Type}(T:Ty α)(m:α):Gh→Value→World→Prop:=fun s v w=>RV T s.1 w v m
def fs{α:Type}(T:Ty α)(m:List α):Gh→Value→World→Prop:=fun s v w=>RS T s.1 w v m
def fE{α:Type}(T:Ty α)(m:α):Gh→Value→World→Prop:=fun s v w=>∃(b o:Nat) (cs:List Value),v= .pointer (some ⟨b,o,none⟩)∧ElAt T s.1 w b o cs m
theorem sx{τ:Type}{R:τ→World→τ→World→Prop}{V:Value}:∀v s w s' w',fx V s v w→R s w s' w'→fx V s' v w':=fun _ _ _ _ _ h _=>h
theorem sr{X0:Nat→Prop}{a:Bs}{α:Type}{T:Ty α}{m:α}:∀v s w s' w',fr T m s v w→RC X0 a s w s' w'→fr T m s' v w':=fun _ _ _ _ _ h r=>RV.tr h r.sp.tx
theorem ss{X0:Nat→Prop}{a:Bs}{α:Type}{T:Ty α}{m:List α}:∀v s w s' w',fs T m s v w→RC X0 a s w s' w'→fs T m s' v w':=fun _ _ _ _ _ h r=>RS.tr h r.sp.tx
theorem sE{X0:Nat→Prop}{a:Bs}{α:Type}{T:Ty α}{m:α}:∀v s w s' w',fE T m s v w→RC X0 a s w s' w'→fE T m s' v w':=fun _ _ _ _ _ ⟨b,o,cs,e,h⟩ r=>⟨b,o,cs,e,h.tr r.sp.tx⟩
theorem Sg {id:Nat} (hm:P.follows .mixedOrders=true) (m:Nat) (dl:List (List Nat)) {X0 x y:Nat→Prop} {a:Bs} (C:Cx X0 a x y w0) (Gl:List (Gh→Value→World→Prop))
  (chk:jc ops m n dl=true) (hG:Xb (RC X0 a) Gl)
  (h:∀f s w,RC X0 a (x,y) w0 s w→Keep (Jy ops m) f0 f→xi P ops Q (RC X0 a) Gl f s w ops.toList dl 0∧(Deps ops Gl f s w (List.range m)→Sq P ops n Q (ops.toList.drop m) f w)):
  W fc P (Code.region id ops true) n D Q f0 w0:=
 SY hm m dl (x,y) (RC X0 a) Gl chk (SS C) RC.trans hG h
theorem Js {ds:List Nat} {f:Fr} (k:Keep ds f0 f) {vals:List (Nat×Value)} (hv:∀p∈vals,f p.1=p.2) {o:Oper} {w:World} {K:Value→World→Prop} {Kp:List PanicEntry→World→Prop}
  (h:∀f',OpSt P ops (mixL vals ds f' f0) o w K Kp):OpSt P ops f o w K Kp:=by
 obtain⟨f',rfl⟩:=k.mix vals hv;exact h f'
section
variable {r:List Oper} {f:Fr} {w:World} {ty:TypeId} {pos:String} {after:Array Edge} {d:Nat}
theorem Om{x:Operand}(h:Sq P ops n Q r (updO f (some d) (fe f x)) w)(hlo:Nat.blt d n=true:=by exact rfl):Sq P ops n Q (⟨some d,.move x,ty,pos,after,none⟩::r) f w:=O hlo (RP h)
theorem Oa{x:Operand}(h:Sq P ops n Q r (updO f (some d) (fe f x)) w)(hlo:Nat.blt d n=true:=by exact rfl):Sq P ops n Q (⟨some d,.assign x,ty,pos,after,none⟩::r) f w:=O hlo (St.assign h)
theorem OT{c a b:Operand}(h:Sq P ops n Q r (updO f (some d) (fe f a)) w)(hc:fe f c= .bool true:=by exact rfl)(hlo:Nat.blt d n=true:=by exact rfl):Sq P ops n Q (⟨some d,.pick c a b,ty,pos,after,none⟩::r) f w:=O hlo (Sy hc h)
theorem OF{c a b:Operand}(h:Sq P ops n Q r (updO f (some d) (fe f b)) w)(hc:fe f c= .bool false:=by exact rfl)(hlo:Nat.blt d n=true:=by exact rfl):Sq P ops n Q (⟨some d,.pick c a b,ty,pos,after,none⟩::r) f w:=O hlo (Sy hc h)
theorem Nl(h:Q .normal f w):Sq P ops n Q [] f w:=h
theorem Rg{ops:Array Oper}{id:Nat}{y:Code}(h:Sq P ops n (xw (W fc P y n D Q) Q) ops.toList f w):W fc P (Code.seq (Code.region id ops false) y) n D Q f w:=RZ (RK h)
theorem Rh{ops:Array Oper}{id:Nat}{y z:Code}(h:Sq P ops n (xw (W fc P y n D (xw (W fc P z n D Q) Q)) (xw (W fc P z n D Q) Q)) ops.toList f w):
  W fc P (Code.seq (Code.seq (Code.region id ops false) y) z) n D Q f w:=RZ (RZ (RK h))
end
theorem rebK{f:Fr}{vals:List (Nat×Value)}(hv:∀p∈vals,f p.1=p.2):∃f',f=reb vals f':=by
 refine⟨f,?_⟩
 funext t
 unfold reb;split
 ·rename_i v hl;exact hv (t,v) (gS _ _ _ hl)
 ·rfl
end
section
variable {fc:Fence} [Fw fc] {P:Program} {ops:Array Oper} {n:Nat} {D:List Deferred} {Q:Post} {r:List Oper} {f:Fr} {w:World}
theorem Oz{d:Nat}{op:Op}{ty:TypeId}{pos:String}{after:Array Edge}{j:Nat}{b:Bool}(h:Sq P ops n Q r (updO f (some d) undef) w)(hlo:Nat.blt d n=true:=by exact rfl)(a:(Zb ops f j).isSome=true:=by exact rfl)(hy:(Zb ops f j==some b)=false:=by exact rfl):
  Sq P ops n Q (⟨some d,op,ty,pos,after,some (j,b)⟩::r) f w:=by
 obtain⟨c,hc⟩:=Jag.1 a;rw[hc] at hy;exact Ox hlo hc hy h
theorem Ol {d:Nat} {op:Op} {ty:TypeId} {pos:String} {after:Array Edge}
  (h:St P (fe f) ⟨some d,op,ty,pos,after,none⟩ w (fun v w'=>Sq P ops n Q r (updO f (some d) v) w') (fun ch w'=>Q (.panic ch) f w')) (hlo:Nat.blt d n=true:=by exact rfl):
  Sq P ops n Q (⟨some d,op,ty,pos,after,none⟩::r) f w:=O hlo h
theorem OgD {d:Nat} {op:Op} {ty:TypeId} {pos:String} {after:Array Edge} {j:Nat} {b:Bool}
  (h:St P (fe f) ⟨some d,op,ty,pos,after,some (j,b)⟩ w (fun v w'=>Sq P ops n Q r (updO f (some d) v) w') (fun ch w'=>Q (.panic ch) f w')) (hlo:Nat.blt d n=true:=by exact rfl) (hy:Zb ops f j=some b:=by exact rfl):
  Sq P ops n Q (⟨some d,op,ty,pos,after,some (j,b)⟩::r) f w:=T8 hy (UW hlo) h
theorem OyD {d:Nat} {op:Op} {ty:TypeId} {pos:String} {after:Array Edge} {j:Nat} {b:Bool}
  (h:Sq P ops n Q r (updO f (some d) undef) w) (hlo:Nat.blt d n=true:=by exact rfl) (hy:Zb ops f j=none:=by exact rfl):
  Sq P ops n Q (⟨some d,op,ty,pos,after,some (j,b)⟩::r) f w:=⟨UW hlo,by simp only[Region.wanted,hy];exact h⟩
end
abbrev CRt(k:FuncId)(a:Array Value)(w:World)(Φ:Value→World→Prop):Prop:=Calls Go.Proofs.Tryz.prog k a w (Ret w Φ)
theorem Cgo {P:Program} {k:FuncId} {fn:Func} {c:Code} {args:List Value} {w:World} {R:Ending→World→Prop} {n:Nat}
  (hf:P.funcs[k]? =some fn) (hb:fn.body=some c) (hn:fn.ntmps=n) (ha:Nat.ble args.length n=true)
  (h:W Fence.wide P c n [] (retQ P fn R) (mm args) w):Calls P k args.toArray w R:=TX hf hb hn (UW ha) h
abbrev XB(X:Nat→Prop)(w:World):Prop:=∀b,X b→b<w.heap.size
theorem Wq{P:Program}{fn:Func}{Φ:Value→World→Prop}{t:Nat}{v:Value}{f:Fr}{w w0:World}{X x y:Nat→Prop}(hr:fn.results= #[.tmp t])(hv:f t=v)(C:Cx X w0 x y w)(h:Φ v w):retQ P fn (Ret w0 Φ) .ret f w:=
 J0 hr (resV.t hv) (RM h C.below)
section
variable {fc:Fence} [Fw fc] {P:Program} {ops:Array Oper} {n:Nat} {D:List Deferred} {Q:Post} {r:List Oper} {f:Fr} {w:World}
theorem Ua{d:Nat}{ty:TypeId}{pos:String}{after:Array Edge}{x:Operand}(h:Q .normal (updO f (some d) (fe f x)) w)(hlo:Nat.blt d n=true:=by exact rfl):
  Sq P ops n Q (⟨some d,.assign x,ty,pos,after,none⟩::[]) f w:=Oa (Nl h) hlo
theorem Ub {d b:Nat} {op:Op} {ty e:TypeId} {pos a:String} {after after2:Array Edge} {x:Operand}
  (h:St P (fe (updO f (some d) (fe f x))) ⟨some b,op,e,a,after2,none⟩ w (fun v w'=>Sq P ops n Q r (updO (updO f (some d) (fe f x)) (some b) v) w') (fun ch w'=>Q (.panic ch) (updO f (some d) (fe f x)) w'))
  (g:Nat.blt d n=true:=by exact rfl) (i:Nat.blt b n=true:=by exact rfl):
  Sq P ops n Q (⟨some d,.move x,ty,pos,after,none⟩::⟨some b,op,e,a,after2,none⟩::r) f w:=Om (Ol h i) g
omit [Fw fc] in
theorem Uc{c:Operand}{x:Code}(h:Q .normal f w)(hc:fe f c= .bool false:=by exact rfl):W fc P (Code.cond c x Code.skip) n D Q f w:=RO hc (RT h)
omit [Fw fc] in
theorem Ud{c:Operand}{x y:Code}(h:W fc P x n D Q f w)(hc:fe f c= .bool true:=by exact rfl):W fc P (Code.cond c x y) n D Q f w:=RQ hc h
omit [Fw fc] in
theorem Ue{c:Operand}{x y:Code}(h:W fc P y n D Q f w)(hc:fe f c= .bool false:=by exact rfl):W fc P (Code.cond c x y) n D Q f w:=RO hc h
theorem Uf{c:Operand}{ops:Array Oper}{id:Nat}{y z:Code}(h:Sq P ops n (xw (W fc P y n D Q) Q) ops.toList f w)(hc:fe f c= .bool true:=by exact rfl):
  W fc P (Code.cond c (Code.seq (Code.region id ops false) y) z) n D Q f w:=RQ hc (Rg h)
theorem Ug{c:Operand}{ops:Array Oper}{id:Nat}{y z:Code}(h:Sq P ops n (xw (W fc P y n D Q) Q) ops.toList f w)(hc:fe f c= .bool false:=by exact rfl):
  W fc P (Code.cond c z (Code.seq (Code.region id ops false) y)) n D Q f w:=RO hc (Rg h)
theorem Uk{c:Operand}{ops:Array Oper}{id:Nat}{z:Code}(h:Sq P ops n Q ops.toList f w)(hc:fe f c= .bool true:=by exact rfl):
  W fc P (Code.cond c (Code.region id ops false) z) n D Q f w:=RQ hc (RK h)
theorem Sd0 {f0:Fr} {ds:List Nat} (k:Keep ds f0 f) {dst:Option Tmp} {op:Op} {ty:TypeId} {pos:String} {after:Array Edge} {K:Value→World→Prop} {Kp:List PanicEntry→World→Prop}
  (h:∀f',St P (fe (mixL [] ds f' f0)) ⟨dst,op,ty,pos,after,none⟩ w K Kp):OpSt P ops f ⟨dst,op,ty,pos,after,none⟩ w K Kp:=Js k aN fun f'=>R8 (h f')
theorem Sd1 {f0:Fr} {ds:List Nat} {i:Nat} {v:Value} (k:Keep ds f0 f) (e:f i=v) {dst:Option Tmp} {op:Op} {ty:TypeId} {pos:String} {after:Array Edge} {K:Value→World→Prop} {Kp:List PanicEntry→World→Prop}
  (h:∀f',St P (fe (mixL [(i,v)] ds f' f0)) ⟨dst,op,ty,pos,after,none⟩ w K Kp):OpSt P ops f ⟨dst,op,ty,pos,after,none⟩ w K Kp:=Js k (aC e aN) fun f'=>R8 (h f')
end
section
variable {P:Program} {ρ:Operand→Value} {dst:Option Tmp} {ty:TypeId} {pos:String} {after:Array Edge} {gd:Option (Nat×Bool)} {w:World} {K:Value→World→Prop} {Kp:List PanicEntry→World→Prop} {X0 x y:Nat→Prop} {w0:Bs}
theorem Us {a v:Operand} {t:TypeId} {z:Value} {sz by_ g o:Nat} {cs vs cs':List Value} {T:TypeId} (C:Cx X0 w0 x y w) (hb:Own w0 y w g cs T) (hi:Zf P t=some (z,sz,by_))
  (h:∀w',Cx X0 w0 x y w'→Sp x y w x y w' (· =g)→Own w0 y w' g cs' T→K undef w')
  (hx:ρ a= .pointer (some ⟨g,o,none⟩):=by exact rfl) (hy:(ρ v).cells=vs.toArray:=by exact rfl) (hl:vs.length=sz:=by exact rfl) (hfit:Nat.ble (o+sz) cs.length=true:=by exact rfl) (b:vs.all Value.oneCell'=true:=by exact rfl) (hc:cs.take o++vs++cs.drop (o+vs.length)=cs':=by exact rfl):
  St P ρ ⟨dst,.store t a v,ty,pos,after,gd⟩ w K Kp:=SZ C hb hi hx hy hl hfit b hc h
theorem Uo {a:Operand} {t:TypeId} {g o sz:Nat} {cs vs:List Value} {T:TypeId} (hb:Own w0 y w g cs T) (ht:V8 P t sz=true) (h:K (.agg vs.toArray) w)
  (hx:ρ a= .pointer (some ⟨g,o,none⟩):=by exact rfl) (hl:vs.length=sz:=by exact rfl) (hv:(cs.drop o).take vs.length=vs:=by exact rfl):
  St P ρ ⟨dst,.load t a,ty,pos,after,gd⟩ w K Kp:=RX hb ht hx hl hv h
end
abbrev zzC(a:GInt)(p:Option Addr)(c:Nat):List Value:=[.bool a.neg,.slice p a.mag.length c]
abbrev zzA(a:GInt)(p:Option Addr)(c:Nat):Value:= .agg #[.bool a.neg,.slice p a.mag.length c]
abbrev qqC(a:GRat)(p:Option Addr)(c:Nat)(q:Option Addr)(d:Nat):List Value:=[.bool a.num.neg,.slice p a.num.mag.length c,.bool a.den.neg,.slice q a.den.mag.length d]
abbrev qqA(a:GRat)(p:Option Addr)(c:Nat)(q:Option Addr)(d:Nat):Value:= .agg #[.bool a.num.neg,.slice p a.num.mag.length c,.bool a.den.neg,.slice q a.den.mag.length d]
section
variable {fc:Fence} [Fw fc] {P:Program} {ops:Array Oper} {n:Nat} {D:List Deferred} {Q:Post} {f0:Fr} {w0:World} {C:World→Prop} {K:List Oper→Fr→Prop}
def OpQ(P:Program)(ops:Array Oper)(C:World→Prop)(f:Fr)(o:Oper)(v:Value):Prop:=
 ∀w,C w→OpSt P ops f o w (fun v' w'=>v'=v∧C w') (fun _ _=>False)
def QS(P:Program)(ops:Array Oper)(C:World→Prop)(K:List Oper→Fr→Prop):Nat→List Oper→Fr→Prop
 |0,l,f=>K l f
 |_+1,[],_=>False
 |m+1,o::r,f=>∃v,OpQ P ops C f o v∧QS P ops C K m r (updO f o.dst v)
def runF:List Oper→List Value→Fr→Fr
 |o::l,v::vs,f=>runF l vs (updO f o.dst v)
 |_,_,f=>f
theorem Af{l:List Oper}{f:Fr}:runF l [] f=f:=by cases l<;>rfl
theorem QS.run:∀(m:Nat) (l:List Oper) (f:Fr),QS P ops C K m l f→∃vs:List Value,vs.length=m∧m≤l.length∧
  (∀i o,i<m→l[i]? =some o→OpQ P ops C (runF l (vs.take i) f) o (vs.getD i undef))∧K (l.drop m) (runF l vs f)
 |0,l,f,h=>⟨[],rfl,UN _,fun i o hi=>absurd hi (US _),by rw[Af];exact h⟩
 |m+1,[],f,h=>h.elim
 |m+1,o::r,f,h=>by
  obtain⟨v,hv,h⟩:=h;obtain⟨vs,a,b,e,g⟩:=QS.run m r _ h;refine⟨v::vs,by simp[a],by simpa using b,?_,g⟩;intro i o' hi ho;cases i with
  |zero=>
   simp at ho;subst ho;exact hv
  |succ i=>exact e i o' (by omega) (by simpa using ho)
theorem qb{t:Tmp}:∀(l:List Oper) (vs:List Value) (f:Fr),(∀i o,i<vs.length→l[i]? =some o→o.dst≠some t)→runF l vs f t=f t
 |[],_,_,_=>rfl
 |_::_,[],_,_=>rfl
 |o::l,v::vs,f,h=>by
  have a:=qb l vs (updO f o.dst v) fun i o' hi ho=>h (i+1) o' (by simpa using hi) (by simpa using ho);have b:=h 0 o (by simp) rfl;show runF l vs (updO f o.dst v) t=f t;rw[a];cases hd:o.dst with
  |none=>rfl
  |some d=>
   have:t≠d:=fun e=>b (by rw[hd,e])
   simp only[updO,upd,this,if_false]
theorem rU{t:Tmp}:∀(i:Nat) (l:List Oper) (vs:List Value) (f:Fr) (o:Oper),i<vs.length→l[i]? =some o→o.dst=some t→
  (∀j o',i<j→j<vs.length→l[j]? =some o'→o'.dst≠some t)→runF l vs f t=vs.getD i undef:=by
 intro i
 induction i with
 |zero=>
  intro l vs f o hi ho hd hn;cases l with
  |nil=>simp at ho
  |cons a l=>
   cases vs with
   |nil=>simp at hi
   |cons v vs=>
    simp at ho;subst ho
    have:=qb l vs (updO f a.dst v) fun j o' hj ho'=>hn (j+1) o' (by omega) (by simpa using hj) (by simpa using ho')
    show runF l vs (updO f a.dst v) t=v;rw[this,hd];simp[updO,upd]
 |succ i ih=>
  intro l vs f o hi ho hd hn;cases l with
  |nil=>simp at ho
  |cons a l=>
   cases vs with
   |nil=>simp at hi
   |cons v vs=>
    exact ih l vs _ o (by simpa using hi) (by simpa using ho) hd fun j o' hj hl ho'=>hn (j+1) o' (by omega) (by simpa using hl) (by simpa using ho')
def dlQ(ops:Array Oper)(m:Nat):List (List Nat):=(List.range m).map fun i=>(List.range m).filter fun j=>((ops[i]?).map fun o=>(o.looksAt ops).contains (Zj ops j)).getD false
def G2:Op→Bool
 |.select _ _=>true
 |_=>false
def ng(ops:Array Oper)(m n:Nat):Bool:=
 jc ops m n (dlQ ops m)&&((List.range m).all fun i=>((dlQ ops m).getD i []).all fun j=>Nat.blt j i)&&(ops.toList.all fun o=> !G2 o.op)
theorem Tl{o:Oper}{f f':Fr}{w:World}{K:Value→World→Prop}{Kp:List PanicEntry→World→Prop}(hs:G2 o.op=false)(h:∀t∈o.looksAt ops,f t=f' t)(k:OpSt P ops f o w K Kp):OpSt P ops f' o w K Kp:=by
 have a:execOp (fe f) o=execOp (fe f') o:=execOp_congr o (fun cs b e=>by rw[e] at hs;cases hs) fun x hx=>by
  cases x with
  |tmp t=>exact h t (List.mem_append_left _ (XJ.2 ⟨.tmp t,by simpa using hx,rfl⟩))
  |_=>rfl
 have i:Region.wanted o (Zb ops f)=Region.wanted o (Zb ops f'):=by
  unfold Region.wanted;cases hg:o.guard with
  |none=>rfl
  |some gw=>
   obtain⟨g,want⟩:=gw
   have:Zb ops f g=Zb ops f' g:=by
    unfold Zb;cases hd:(ops[g]?).bind (·.dst) with
    |none=>rfl
    |some t=>
     have:=h t (by simp[Oper.looksAt,hg,hd])
     simp only[Jai,this]
   simp only[this]
 unfold OpSt St at k ⊢;rw[←a,←i];exact k
theorem Deps.get{σ:Type}{Gl:List (σ→Value→World→Prop)}{f:Fr}{s:σ}{w:World}:∀ {d:List Nat},Deps ops Gl f s w d→∀j∈d,(Gl.getD j noG) s (f (Zj ops j)) w
 |_::_,h,j,hj=>by
  rcases XF.1 hj with rfl|hj
  ·exact h.1
  ·exact Deps.get h.2 j hj
theorem oI{σ:Type}{a:σ}{R:σ→World→σ→World→Prop}{Gl:List (σ→Value→World→Prop)}{ds:List Nat}:∀(l:List Oper) (dl:List (List Nat)) (k:Nat),
  (∀i o,l[i]? =some o→i<dl.length→∀f s w,R a w0 s w→Keep ds f0 f→Deps ops Gl f s w (dl.getD i [])→
   OpSt P ops f o w (fun v w'=>∃s',R s w s' w'∧(Gl.getD (k+i) noG) s' v w') (fun ch w'=>∀f,Q (.panic ch) f w'))→q6 P ops Q R Gl f0 a w0 ds l dl k
 |[],_,_,_=>trivial
 |_::_,[],_,_=>trivial
 |o::l,d::dl,k,h=>⟨fun f s w r kp dp=>h 0 o rfl (by simp) f s w r kp dp,oI l dl (k+1) fun i o' ho hi f s w r kp dp=>by
   have:=h (i+1) o' (by simpa using ho) (by simpa using hi) f s w r kp dp
   rw[show k+(i+1)=k+1+i by omega] at this;exact this⟩
theorem tI{V:List Value}:Xb (fun(_:Unit) (_:World) (_:Unit) (w':World)=>C w') (V.map fun v=>fun(_:Unit) v' (_:World)=>v'=v):=by
 induction V with
 |nil=>trivial
 |cons a V ih=>exact⟨fun v s w s' w' h _=>h,ih⟩
theorem W.quiet {id:Nat} (hm:P.follows .mixedOrders=true) (m:Nat) (hC:C w0.drew) (chk:ng ops m n=true)
  (h:QS P ops C (fun l f=>∀w,C w→Sq P ops n Q l f w) m ops.toList f0):W fc P (Code.region id ops true) n D Q f0 w0:=by
 obtain⟨vs,hlen,hle,hY,hK⟩:=QS.run m _ _ h;unfold ng at chk;simp only[VJ] at chk;obtain⟨⟨chk,hlow⟩,hsel⟩:=chk;have F:=Xp chk;have hdst:∀j,j<m→∃o,ops.toList[j]? =some o∧o.dst=some (Zj ops j):=by
  intro j hj;have u:=F.some j hj;obtain⟨d,hd⟩:=Jag.1 u;cases ho:ops[j]? with
  |none=>rw[ho] at hd;cases hd
  |some o=>
   rw[ho] at hd;refine⟨o,by simpa using ho,?_⟩
   have:Zj ops j=d:=by unfold Zj;rw[ho];simp only[Jae] at hd ⊢;rw[hd];rfl
   rw[this];exact hd
 have hpre:∀t,(Jy ops m).contains t=true→∃j,j<m∧Zj ops j=t:=by
  intro t ht
  have:t∈Jy ops m:=by simpa using ht
  obtain⟨o,ho,hd⟩:=XJ.1 this;obtain⟨j,hj⟩:=XL.1 ho;rw[W1] at hj;split at hj
  ·rename_i hjm;refine⟨j,hjm,?_⟩
   have:ops[j]? =some o:=by simpa using hj
   unfold Zj;rw[this];simp[hd]
  ·cases hj
 have hnot:∀t,(Jy ops m).contains t=false→∀i o,i<m→ops.toList[i]? =some o→o.dst≠some t:=by
  intro t ht i o hi ho hd
  have:t∈Jy ops m:=XJ.2 ⟨o,XO (by rw[W1,if_pos hi];exact ho),hd⟩
  have:(Jy ops m).contains t=true:=by simpa using this
  rw[this] at ht;cases ht
 have hone:∀j,j<m→∀i o,i<m→i≠j→ops.toList[i]? =some o→o.dst≠some (Zj ops j):=by
  intro j hj i o hi hij ho hd;obtain⟨o',ho',hd'⟩:=hdst i hi;rw[ho] at ho';cases ho';rw[hd] at hd';exact F.apart i hi j hj (fun e=>hij e.symm) (Jaj hd')
 refine TJ hm m (dlQ ops m) () (fun _ _ _ w'=>C w') (vs.map fun v=>fun _ v' _=>v'=v) chk hC (fun _ _ _ _ _ _ _ h=>h) tI (oI _ _ _ ?_) ?_
 ·intro i o ho hi f s w hw hk hd;rw[Jab];have him:i<m:=by rw[F.len] at hi;exact hi
  have hg:(vs.map fun v=>fun(_:Unit) v' (_:World)=>v'=v).getD i noG=fun _ v' _=>v'=vs.getD i undef:=by
   rw[UJ,VA,UJ,UL (by omega)];rfl
  have hq:=hY i o him ho w hw;have hse:G2 o.op=false:=by
   have:=WD.1 hsel o (XO ho)
   simpa using this
  have a:OpSt P ops f o w (fun v' w'=>v'=vs.getD i undef∧C w') (fun _ _=>False):=by
   refine Tl hse ?_ hq;intro t ht
   symm
   cases hp:(Jy ops m).contains t with
   |false=>
    rw[qb _ _ _ fun j o' hj ho'=>hnot t hp j o' (by rw[UH] at hj;omega) ho'];exact hk t hp
   |true=>
    obtain⟨j,hjm,hjt⟩:=hpre t hp;have hmem:j∈(dlQ ops m).getD i []:=by
     unfold dlQ;rw[UJ,VA,WZ him];simp only[Jai,Jaf];refine XI.2 ⟨by simpa using hjm,?_⟩;rw[show ops[i]? =some o by simpa using ho];simp only[Jai,Jaf,hjt];simpa using ht
    have hji:j<i:=by
     have:=WD.1 (WD.1 hlow i (by simpa using him)) j hmem
     exact UW this
    have hv:=Deps.get hd j hmem;rw[UJ,VA,UL (by omega:j<vs.length)] at hv;obtain⟨o',ho',hd'⟩:=hdst j hjm;rw[hjt] at hd';rw[rU j _ _ _ o' (by rw[UH];omega) ho' hd' fun q k p g b=>by
     rw[←hjt];exact hone j hjm q k (by rw[UH] at g;omega) (by omega) b]
    rw[hjt] at hv;rw[UJ,W1,if_pos hji,UL (by omega:j<vs.length)];exact hv
  unfold OpSt at a ⊢;rw[hg];split
  ·rename_i hwn;rw[if_pos hwn] at a;exact St.mono a (fun v w' h=>⟨(),h.2,h.1⟩) fun _ _ h=>h.elim
  ·rename_i hwn;rw[if_neg hwn] at a;exact⟨(),a.2,a.1⟩
 ·intro f s w hw hk hd
  have:runF ops.toList vs f0=f:=by
   funext t
   cases hp:(Jy ops m).contains t with
   |false=>
    rw[qb _ _ _ fun j o' hj ho'=>hnot t hp j o' (by omega) ho']
    exact(hk t hp).symm
   |true=>
    obtain⟨j,hjm,hjt⟩:=hpre t hp;have hv:=Deps.get hd j (by simpa using hjm);rw[UJ,VA,UL (by omega:j<vs.length)] at hv;obtain⟨o',ho',hd'⟩:=hdst j hjm;rw[hjt] at hd';rw[rU j _ _ _ o' (by omega) ho' hd' fun q k p g b=>by rw[←hjt];exact hone j hjm q k (by omega) (by omega) b];rw[hjt] at hv;rw[UJ,UL (by omega:j<vs.length)];exact hv.symm
  rw[this] at hK;exact hK w hw
section
variable {r:List Oper} {f:Fr} {ty:TypeId} {pos:String} {after:Array Edge} {d m:Nat}
theorem Qw{op:Op}{v:Value}(h:∀w,C w→St P (fe f) ⟨some d,op,ty,pos,after,none⟩ w (fun v' w'=>v'=v∧C w') (fun _ _=>False))(k:QS P ops C K m r (updO f (some d) v)):
  QS P ops C K (m+1) (⟨some d,op,ty,pos,after,none⟩::r) f:=⟨v,fun w c=>R8 (h w c),k⟩
theorem Qp{op:Op}{v:Value}(h:∀w,St P (fe f) ⟨some d,op,ty,pos,after,none⟩ w (fun v' w'=>v'=v∧w'=w) (fun _ _=>False))(k:QS P ops C K m r (updO f (some d) v)):
  QS P ops C K (m+1) (⟨some d,op,ty,pos,after,none⟩::r) f:=Qw (fun w c=>St.mono (h w) (fun _ _ e=>⟨e.1,e.2▸c⟩) fun _ _ h=>h) k
theorem Qm{x:Operand}(k:QS P ops C K m r (updO f (some d) (fe f x))):QS P ops C K (m+1) (⟨some d,.move x,ty,pos,after,none⟩::r) f:=Qp (fun _=>RP ⟨rfl,rfl⟩) k
theorem Qa{x:Operand}(k:QS P ops C K m r (updO f (some d) (fe f x))):QS P ops C K (m+1) (⟨some d,.assign x,ty,pos,after,none⟩::r) f:=Qp (fun _=>St.assign ⟨rfl,rfl⟩) k
theorem QT{c a b:Operand}(k:QS P ops C K m r (updO f (some d) (fe f a)))(hc:fe f c= .bool true:=by exact rfl):QS P ops C K (m+1) (⟨some d,.pick c a b,ty,pos,after,none⟩::r) f:=
 Qp (fun _=>Sy hc ⟨rfl,rfl⟩) k
theorem Qf{x:Operand}{s i off b o:Nat}(hs:Ye P s i=some off)(hx:fe f x= .pointer (some ⟨b,o,none⟩))(k:QS P ops C K m r (updO f (some d) (.pointer (some ⟨b,o+off,none⟩)))):
  QS P ops C K (m+1) (⟨some d,.fieldAddr s x i,ty,pos,after,none⟩::r) f:=Qp (fun _=>RI hs hx ⟨rfl,rfl⟩) k
end
def Qc(X0:Nat→Prop)(b0:Bs)(x y:Nat→Prop)(w w':World):Prop:=Cx X0 b0 x y w'∧Sp x y w x y w' Zt
section
variable {X0 x y:Nat→Prop} {b0:Bs} {r:List Oper} {f:Fr} {ty:TypeId} {pos:String} {after:Array Edge} {d m:Nat}
theorem ST{id:Nat}(hm:P.follows .mixedOrders=true)(m:Nat)(C:Cx X0 b0 x y w0)(h:QS P ops (Qc X0 b0 x y w0) (fun l f=>∀w,Qc X0 b0 x y w0 w→Sq P ops n Q l f w) m ops.toList f0)(chk:ng ops m n=true:=by kernel_rfl):
  W fc P (Code.region id ops true) n D Q f0 w0:=W.quiet hm m (C.next (Below.refl _ _).drew) chk h
theorem Qz{l:List Oper}(h:∀w,Cx X0 b0 x y w→Sp x y w0 x y w Zt→Sq P ops n Q l f w):QS P ops (Qc X0 b0 x y w0) (fun l f=>∀w,Qc X0 b0 x y w0 w→Sq P ops n Q l f w) 0 l f:=fun w c=>h w c.1 c.2
theorem Qd {a:Operand} {t:TypeId} {g o:Nat} {cs:List Value} {T:TypeId} {v:Value} (hb:Own b0 y w0 g cs T) (ht:Yo P t=true) (hx:fe f a= .pointer (some ⟨g,o,none⟩)) (hv:cs[o]? =some v)
  (k:QS P ops (Qc X0 b0 x y w0) K m r (updO f (some d) v)):QS P ops (Qc X0 b0 x y w0) K (m+1) (⟨some d,.load t a,ty,pos,after,none⟩::r) f:=
 Qw (fun w c=>RN (hb.spn c.2) ht hx hv ⟨rfl,c⟩) k
end
end
end Go.Wf
namespace Go.Wf
open Go Go.Proofs
theorem io3:Zf Tryz.prog 3=some (.int .i64 0,1,8):=by kernel_rfl
theorem pl3:Yo Tryz.prog 3=true:=by kernel_rfl
theorem pl4:Yo Tryz.prog 4=true:=by kernel_rfl
theorem pl38:Yo Tryz.prog 38=true:=by kernel_rfl
theorem io40:Zf Tryz.prog 40=some (.agg #[.bool false,.slice none 0 0],2,32):=by kernel_rfl
theorem ag40:V8 Tryz.prog 40 2=true:=by kernel_rfl
theorem io42:Zf Tryz.prog 42=some (.agg #[.bool false,.slice none 0 0,.bool false,.slice none 0 0],4,64):=by kernel_rfl
theorem ag42:V8 Tryz.prog 42 4=true:=by kernel_rfl
theorem io96:Zf Tryz.prog 96=some (.int .u32 0,1,4):=by kernel_rfl
theorem pl96:Yo Tryz.prog 96=true:=by kernel_rfl
theorem sl24:Tryz.prog.underlying 24=some (.slice 3):=by kernel_rfl
theorem sl38:Tryz.prog.underlying 38=some (.slice 96):=by kernel_rfl
theorem un3:Tryz.prog.underlying 3=some (.int .i64):=by kernel_rfl
theorem us3:(Tryz.prog.underlying 3).isSome=true:=by kernel_rfl
theorem un5:Tryz.prog.underlying 5=some (.int .u8):=by kernel_rfl
theorem us5:(Tryz.prog.underlying 5).isSome=true:=by kernel_rfl
theorem un96:Tryz.prog.underlying 96=some (.int .u32):=by kernel_rfl
theorem us96:(Tryz.prog.underlying 96).isSome=true:=by kernel_rfl
theorem un97:Tryz.prog.underlying 97=some (.int .u64):=by kernel_rfl
theorem us97:(Tryz.prog.underlying 97).isSome=true:=by kernel_rfl
theorem un98:Tryz.prog.underlying 98=some (.int .u64):=by kernel_rfl
theorem un9:Tryz.prog.underlying 9=some .string:=by kernel_rfl
theorem un4:Tryz.prog.underlying 4=some .bool:=by kernel_rfl
theorem Zp:Ye Tryz.prog 40 0=some 0:=by kernel_rfl
theorem J4:Ye Tryz.prog 40 1=some 1:=by kernel_rfl
theorem Ko:Ye Tryz.prog 42 0=some 0:=by kernel_rfl
theorem Yi:Ye Tryz.prog 42 1=some 2:=by kernel_rfl
theorem cb4:Ja Tryz.prog 4=true:=by kernel_rfl
theorem cb5:Ja Tryz.prog 5=true:=by kernel_rfl
theorem cb6:Ja Tryz.prog 6=true:=by kernel_rfl
theorem cb7:Ja Tryz.prog 7=true:=by kernel_rfl
theorem cb8:Ja Tryz.prog 8=true:=by kernel_rfl
theorem cb11:Ja Tryz.prog 11=true:=by kernel_rfl
theorem cb16:Ja Tryz.prog 16=true:=by kernel_rfl
theorem cb17:Ja Tryz.prog 17=true:=by kernel_rfl
theorem cb18:Ja Tryz.prog 18=true:=by kernel_rfl
theorem cb19:Ja Tryz.prog 19=true:=by kernel_rfl
theorem cb20:Ja Tryz.prog 20=true:=by kernel_rfl
theorem cb21:Ja Tryz.prog 21=true:=by kernel_rfl
theorem cb22:Ja Tryz.prog 22=true:=by kernel_rfl
theorem cb23:Ja Tryz.prog 23=true:=by kernel_rfl
theorem cb24:Ja Tryz.prog 24=true:=by kernel_rfl
theorem cb25:Ja Tryz.prog 25=true:=by kernel_rfl
theorem cb26:Ja Tryz.prog 26=true:=by kernel_rfl
theorem cb27:Ja Tryz.prog 27=true:=by kernel_rfl
theorem cb28:Ja Tryz.prog 28=true:=by kernel_rfl
theorem cb30:Ja Tryz.prog 30=true:=by kernel_rfl
theorem cb31:Ja Tryz.prog 31=true:=by kernel_rfl
theorem cb32:Ja Tryz.prog 32=true:=by kernel_rfl
theorem cb33:Ja Tryz.prog 33=true:=by kernel_rfl
theorem cb44:Ja Tryz.prog 44=true:=by kernel_rfl
theorem cb45:Ja Tryz.prog 45=true:=by kernel_rfl
theorem cb46:Ja Tryz.prog 46=true:=by kernel_rfl
theorem cb47:Ja Tryz.prog 47=true:=by kernel_rfl
theorem cb48:Ja Tryz.prog 48=true:=by kernel_rfl
theorem cb49:Ja Tryz.prog 49=true:=by kernel_rfl
theorem cb50:Ja Tryz.prog 50=true:=by kernel_rfl
theorem cb51:Ja Tryz.prog 51=true:=by kernel_rfl
theorem cb52:Ja Tryz.prog 52=true:=by kernel_rfl
theorem cb53:Ja Tryz.prog 53=true:=by kernel_rfl
theorem cb54:Ja Tryz.prog 54=true:=by kernel_rfl
theorem cb55:Ja Tryz.prog 55=true:=by kernel_rfl
theorem cb56:Ja Tryz.prog 56=true:=by kernel_rfl
theorem cb57:Ja Tryz.prog 57=true:=by kernel_rfl
theorem cb58:Ja Tryz.prog 58=true:=by kernel_rfl
theorem cb59:Ja Tryz.prog 59=true:=by kernel_rfl
theorem cb60:Ja Tryz.prog 60=true:=by kernel_rfl
theorem cb61:Ja Tryz.prog 61=true:=by kernel_rfl
theorem cb62:Ja Tryz.prog 62=true:=by kernel_rfl
theorem cb63:Ja Tryz.prog 63=true:=by kernel_rfl
theorem cb64:Ja Tryz.prog 64=true:=by kernel_rfl
theorem cb65:Ja Tryz.prog 65=true:=by kernel_rfl
theorem cb66:Ja Tryz.prog 66=true:=by kernel_rfl
theorem cb67:Ja Tryz.prog 67=true:=by kernel_rfl
theorem cb68:Ja Tryz.prog 68=true:=by kernel_rfl
theorem cb82:Ja Tryz.prog 82=true:=by kernel_rfl
theorem cb83:Ja Tryz.prog 83=true:=by kernel_rfl
theorem cb84:Ja Tryz.prog 84=true:=by kernel_rfl
theorem cb85:Ja Tryz.prog 85=true:=by kernel_rfl
theorem cb86:Ja Tryz.prog 86=true:=by kernel_rfl
theorem cb87:Ja Tryz.prog 87=true:=by kernel_rfl
theorem cb88:Ja Tryz.prog 88=true:=by kernel_rfl
theorem cb89:Ja Tryz.prog 89=true:=by kernel_rfl
theorem cb90:Ja Tryz.prog 90=true:=by kernel_rfl
theorem cb91:Ja Tryz.prog 91=true:=by kernel_rfl
theorem cb92:Ja Tryz.prog 92=true:=by kernel_rfl
theorem cb93:Ja Tryz.prog 93=true:=by kernel_rfl
theorem cb94:Ja Tryz.prog 94=true:=by kernel_rfl
theorem cb95:Ja Tryz.prog 95=true:=by kernel_rfl
theorem cb96:Ja Tryz.prog 96=true:=by kernel_rfl
theorem cb97:Ja Tryz.prog 97=true:=by kernel_rfl
theorem cb98:Ja Tryz.prog 98=true:=by kernel_rfl
theorem cb99:Ja Tryz.prog 99=true:=by kernel_rfl
theorem DM:Ja Tryz.prog 100=true:=by kernel_rfl
theorem sQ:Ja Tryz.prog 101=true:=by kernel_rfl
theorem Pc:Ja Tryz.prog 102=true:=by kernel_rfl
theorem QA:Ja Tryz.prog 103=true:=by kernel_rfl
theorem ID:Ja Tryz.prog 104=true:=by kernel_rfl
theorem M9:Ja Tryz.prog 105=true:=by kernel_rfl
theorem N8:Ja Tryz.prog 106=true:=by kernel_rfl
theorem Or:Ja Tryz.prog 107=true:=by kernel_rfl
theorem Ik:Ja Tryz.prog 108=true:=by kernel_rfl
theorem Lz:Ja Tryz.prog 109=true:=by kernel_rfl
theorem yP:Ja Tryz.prog 110=true:=by kernel_rfl
theorem IC:Ja Tryz.prog 111=true:=by kernel_rfl
theorem ES:Ja Tryz.prog 112=true:=by kernel_rfl
theorem wm:Ja Tryz.prog 113=true:=by kernel_rfl
theorem h4:Ja Tryz.prog 116=true:=by kernel_rfl
theorem uP:Ja Tryz.prog 118=true:=by kernel_rfl
theorem GV:Ja Tryz.prog 135=true:=by kernel_rfl
theorem Ek:Ja Tryz.prog 136=true:=by kernel_rfl
theorem OO:Ja Tryz.prog 138=true:=by kernel_rfl
theorem P9:Ja Tryz.prog 139=true:=by kernel_rfl
theorem GC:Ja Tryz.prog 142=true:=by kernel_rfl
theorem wI:Ja Tryz.prog 143=true:=by kernel_rfl
theorem zJ:Ja Tryz.prog 144=true:=by kernel_rfl
theorem sF:Ja Tryz.prog 145=true:=by kernel_rfl
theorem KS:Ja Tryz.prog 146=true:=by kernel_rfl
theorem NT:Ja Tryz.prog 147=true:=by kernel_rfl
theorem N3:Ja Tryz.prog 148=true:=by kernel_rfl
theorem Ip:Ja Tryz.prog 149=true:=by kernel_rfl
theorem ON:Ja Tryz.prog 150=true:=by kernel_rfl
theorem Pl:Ja Tryz.prog 151=true:=by kernel_rfl
theorem t4:Ja Tryz.prog 152=true:=by kernel_rfl
theorem yG:Ja Tryz.prog 153=true:=by kernel_rfl
theorem ET:Ja Tryz.prog 154=true:=by kernel_rfl
theorem ra:Ja Tryz.prog 155=true:=by kernel_rfl
theorem D8:Ja Tryz.prog 156=true:=by kernel_rfl
theorem Dv:Ja Tryz.prog 157=true:=by kernel_rfl
theorem N7:Ja Tryz.prog 158=true:=by kernel_rfl
theorem Ph:Ja Tryz.prog 160=true:=by kernel_rfl
theorem wS:Ja Tryz.prog 189=true:=by kernel_rfl
theorem NP:Ja Tryz.prog 194=true:=by kernel_rfl
theorem Rj:Ja Tryz.prog 195=true:=by kernel_rfl
theorem OY:Ja Tryz.prog 196=true:=by kernel_rfl
theorem Px:Ja Tryz.prog 197=true:=by kernel_rfl
theorem I7:Ja Tryz.prog 235=true:=by kernel_rfl
theorem LJ:Ja Tryz.prog 236=true:=by kernel_rfl
theorem wM:Ja Tryz.prog 237=true:=by kernel_rfl
theorem LU:Ja Tryz.prog 238=true:=by kernel_rfl
theorem Po:Ja Tryz.prog 239=true:=by kernel_rfl
theorem HX:Ja Tryz.prog 243=true:=by kernel_rfl
theorem NR:Ja Tryz.prog 276=true:=by kernel_rfl
theorem QQ:Ja Tryz.prog 326=true:=by kernel_rfl
theorem PE:Ja Tryz.prog 528=true:=by kernel_rfl
theorem mixed:Tryz.prog.follows .mixedOrders=true:=by kernel_rfl
end Go.Wf
namespace Go.Wf
open Go
def cmpN(a b:Nat):Int:=if a<b then -1 else if a=b then 0 else 1
theorem jH{d:Nat}(h:d<4294967296):IntKind.u64.wrap ((d:Int)*2^min (32:Int).toNat IntKind.u64.bits)=((d*4294967296:Nat):Int):=by
 have:(2:Int)^min (32:Int).toNat IntKind.u64.bits=4294967296:=by decide
 rw[this,UO _ (by omega)];omega
theorem iL{d e:Nat}(hd:d<4294967296)(he:e<4294967296):IntKind.u64.wrap (BitVec.ofInt IntKind.u64.bits ((d*4294967296:Nat):Int) ||| BitVec.ofInt IntKind.u64.bits (e:Int)).toNat=((d*4294967296+e:Nat):Int):=by
 have a:(BitVec.ofInt IntKind.u64.bits ((d*4294967296:Nat):Int)).toNat=d*4294967296:=by
  rw[VH];simp[IntKind.bits];omega
 have b:(BitVec.ofInt IntKind.u64.bits (e:Int)).toNat=e:=by
  rw[VH];simp[IntKind.bits];omega
 rw[VI,a,b]
 have:d*4294967296 ||| e=d*4294967296+e:=by
  rw[show(4294967296:Nat)=2^32 by decide,U6,ZZ (by omega)]
 rw[this,UO _ (by omega)]
theorem KK{m:List Nat}(h:((m.length:Nat):Int)=0):((0:Nat):Int)=((val m:Nat):Int):=by
 have:m=[]:=UT (by omega)
 subst this;rfl
theorem LZ{m:List Nat}(h:((m.length:Nat):Int)=1):((m.getD 0 0:Nat):Int)=((val m:Nat):Int):=by
 match m,h with
 |[d],_=>simp[val]
 |[],h=>simp at h
 |_::_::_,h=>simp at h;omega
theorem LG{m:List Nat}(h:m.length=2):((m.getD 1 0*4294967296+m.getD 0 0:Nat):Int)=((val m:Nat):Int):=by
 match m,h with
 |[d,e],_=>simp[val];omega
theorem Xm{l:List Nat}(h:trim l=l)(hl:l≠[]):4294967296^(l.length-1)≤val l:=by
 rcases List.eq_nil_or_concat l with rfl|⟨q,d,rfl⟩
 ·exact absurd rfl hl
 ·rw[List.concat_eq_append] at h ⊢;have hd:d≠0:=by
   rintro rfl;rw[ze] at h
   have:=Jr q
   rw[h] at this;simp at this;omega
  rw[Z3,Uv,Uy,YF]
  have:4294967296^q.length*1≤4294967296^q.length*d:=U4 _ (by omega)
  omega
theorem Yk{a b:List Nat}(hb:trim b=b)(sa:Jp a)(h:a.length<b.length):val a<val b:=by
 have d:=Zo a sa;have f:=Xm hb (by intro e;subst e;simp at h)
 have:(4294967296:Nat)^a.length≤4294967296^(b.length-1):=U1 (by omega) (by omega)
 omega
theorem Fd{a b:List Nat}(ha:trim a=a)(hb:trim b=b)(sa:Jp a)(sb:Jp b)(h:¬a.length=b.length):(((a.length:Nat):Int)-((b.length:Nat):Int)).sign=cmpN (val a) (val b):=by
 unfold cmpN;rcases U2 a.length b.length with hl|hl
 ·rw[if_pos (Yk hb sa hl),Wz (by omega)]
 ·have:=Yk ha sb (by omega)
  rw[if_neg (by omega),if_neg (by omega),WA (by omega)]
theorem AK(l:List Nat)(i:Nat)(h:i<l.length):l=l.take i++l.getD i 0::l.drop (i+1):=by
 rw[UJ,UL h];simp
theorem jZ(l:List Nat)(i:Nat)(h:i<l.length):val l=val (l.take i)+4294967296^i*(l.getD i 0+4294967296*val (l.drop (i+1))):=by
 conv=>lhs;rw[AK l i h]
 rw[Xv,UH,ZF (by omega),val]
theorem oO{a b:List Nat}{j:Nat}(hl:j≤a.length)(hab:a.length=b.length)(f:0<j)(h:((a.getD (j-1) 0:Nat):Int)=((b.getD (j-1) 0:Nat):Int))(heq:a.drop j=b.drop j):a.drop (j-1)=b.drop (j-1):=by
 obtain⟨i,rfl⟩:∃i,j=i+1:=⟨j-1,by omega⟩;rw[YF] at h ⊢;have h':a.getD i 0=b.getD i 0:=by omega
 have d:a.drop i=a.getD i 0::a.drop (i+1):=by
  rw[UJ,UL (by omega)];simp
 have e:b.drop i=b.getD i 0::b.drop (i+1):=by
  rw[UJ,UL (by omega)];simp
 rw[d,e,h',heq]
theorem sN{a b:List Nat}{j:Nat}(sa:Jp a)(_sb:Jp b)(hl:j≤a.length)(hab:a.length=b.length)(e:0<j)(h:a.getD (j-1) 0<b.getD (j-1) 0)(heq:a.drop j=b.drop j):(-1:Int)=cmpN (val a) (val b):=by
 obtain⟨i,rfl⟩:∃i,j=i+1:=⟨j-1,by omega⟩;rw[YF] at h
 have:val a<val b:=by
  rw[jZ a i (by omega),jZ b i (by omega),heq];have d:=Zo (a.take i) (Ve sa i);rw[UH,ZF (by omega)] at d;generalize 4294967296*val (b.drop (i+1))=t;have f:4294967296^i*(a.getD i 0+t)+4294967296^i≤4294967296^i*(b.getD i 0+t):=by
   rw[←Nat.mul_succ];exact U4 _ (by omega)
  omega
 unfold cmpN;rw[if_pos this]
theorem De{a b:List Nat}{j:Nat}(sa:Jp a)(sb:Jp b)(hl:j≤a.length)(hab:a.length=b.length)(d:0<j)(h:¬a.getD (j-1) 0<b.getD (j-1) 0)(h':¬a.getD (j-1) 0=b.getD (j-1) 0)(heq:a.drop j=b.drop j):(1:Int)=cmpN (val a) (val b):=by
 have:=sN sb sa (by omega) hab.symm d (by omega) heq.symm
 unfold cmpN at this ⊢;split at this
 ·rw[if_neg (by omega),if_neg (by omega)]
 ·split at this
  ·cases this
  ·cases this
theorem Cf{a b:List Nat}{j:Nat}(h:j=0)(heq:a.drop j=b.drop j):(0:Int)=cmpN (val a) (val b):=by
 subst h;rw[WN,WN] at heq;subst heq;unfold cmpN;rw[if_neg (by omega),if_pos rfl]
end Go.Wf
namespace Go.Wf
open Go Go.Proofs Go.RowKit
theorem IL{X:Nat→Prop}{w:World}(hX:XB X w){n:Int}  :CRt 194 #[(.int .i64 n)] w fun v w'=>v=(.int .i64 ((n).sign)):=by
 have C:=Cx.start hX;refine Cgo Tryz.func194 rfl rfl rfl<|Rg<|Ua<|RZ<|W.block<|Rg<|Ub<|Sb rfl rfl (fun a=>?_)<|fun a=>?_
 ·exact Ua<|Uf<|Ua<|RY<|Wq rfl rfl C<|congrArg (Value.int _) (by rw[Wz (by omega)])
 refine Ua<|Ug<|Ub<|Sx rfl rfl (fun b=>?_)<|fun b=>?_
 ·exact Ua<|Uf<|Ua<|RY<|Wq rfl rfl C<|congrArg (Value.int _) (by rw[WA (by omega)])
 exact Ua<|Uc<|Rg<|Ua<|RY<|Wq rfl rfl C<|congrArg (Value.int _) (by rw[show n=0 by omega];rfl)
theorem Zg{X:Nat→Prop}{w:World}(hX:XB X w){l:Value}{m:List Nat}(n:RS Jd X w l m)(hm:m.length≤1099511627776):CRt 87 #[l] w fun v w'=>RS Jd X w' v (trim m):=by
 obtain⟨h,i,rfl,_,_⟩:=n.len;have C:=Cx.start hX;refine Cgo Tryz.func87 rfl rfl rfl (Rg<|Ua<|RZ<|W.block<|Sc (fun μ f v=>∃(x y:Nat→Prop) (j:Nat),Cx X w x y v∧f 2=(.slice none 0 0)∧f 0=(.slice h j i)∧RS Jd x v (.slice h j i) (m.take j)∧j≤m.length∧trim (m.take j)=trim m∧μ=j) _ ⟨_,_,m.length,C,rfl,rfl,(by rw[YC];exact n),(UM _),(by rw[YC]),rfl⟩ ?_);rintro A F G ⟨H,I,j,d,o,p,hj,hjl,htr,r⟩;obtain⟨B,rfl⟩:=rebK (aC o<|aC p aN);clear o p;refine Rh<|Ub<|St.len sl38 rfl<|Ol<|Sx rfl rfl (fun a=>?_)<|fun a=>?_
 ·refine Om (OgD<|RP<|OgD<|RP<|OgD<|St.len sl38 rfl<|OgD<|St.sub (z:=(((j:Nat):Int)-1)) rfl rfl (UP _ (by omega))<|OgD<|Sd (j:=(j-1)) (u:=(m.getD (j-1) 0)) hj sl38 io96 rfl rfl (by omega) (GG hjl (by omega)) ?_);intro D E k e;obtain⟨rfl,s⟩:k=_∧_:=e.rd;refine OgD<|Sa pl96 rfl (e.cell 0 _ rfl)<|OgD<|Sj rfl rfl (fun b=>?_)<|fun b=>?_
  ·refine OT (Nl<|Ud<|RT<|W.block<|RK<|Om<|Ub<|St.len sl38 rfl<|Ol<|St.sub (z:=(((j:Nat):Int)-1)) rfl rfl (UP _ (by omega))<|Ol<|Ta (j:=(j-1)) hj sl38 io96 rfl rfl (by omega) (by rw[UH];omega) ?_);intro g;refine Ua<|⟨_,(by omega),_,_,(j-1),d,rfl,rfl,(by rw[List.take_take,ZF (by omega)] at g;exact g),(by omega),(lV hjl a b htr),rfl⟩
  exact OT<|Nl<|Ue<|Sf<|Rg<|Om<|Ua<|RY<|Wq rfl rfl d<|TP ((hj:RS _ _ _ _ _).tr (Tr.weak d.base))<|(lQ hjl a b htr)
 exact Om<|Oz<|Oz<|Oz<|Oz<|Oz<|Oz<|Oz<|OF<|Nl<|Ue<|Sf<|Rg<|Om<|Ua<|RY<|Wq rfl rfl d<|TP ((hj:RS _ _ _ _ _).tr (Tr.weak d.base))<|(pD hjl a htr)
theorem Z8{X:Nat→Prop}{w:World}(hX:XB X w){b:Bool}{r:Value}{m:List Nat}(d:RS Jd X w r m)(hm:m.length≤1099511627776):CRt 84 #[(.bool b),r] w fun v w'=>RV Jo X w' v (mkSg b m):=by
 obtain⟨s,u,rfl,_,_⟩:=d.len;have C:=Cx.start hX;cases b
 ·refine Cgo Tryz.func84 rfl rfl rfl (Rg<|Ol<|RR C io40 rfl ?_);intro Z w4 x5 y6 K x I g;have d:=d.sp I;refine Nl (Rg<|Ub<|RH x cb87 rfl rfl (Zg x.bd d (by omega)) ?_);intro L M y z e;have g:=g.spn z;obtain⟨i,j,rfl,_,_⟩:=e.len;refine Oa (Nl<|Rg<|Om<|Om<|Oz<|Oz<|Oz<|OF<|Ub<|Si (cs:=[(.bool false),(.slice i (trim m).length j)]) rfl (by kernel_rfl)<|On<|Us (cs':=[(.bool false),(.slice i (trim m).length j)]) y g io40 ?_);intro N k A B;have e:=e.sp A;refine Nl (RY<|J0 rfl (TL B rfl ag40 rfl)<|RM ?_ k.below);exact TM (a:=(⟨false,(trim m)⟩:GInt)) ((Je e).tr (Tr.weak k.base)) (by simp[mkSg])
 refine Cgo Tryz.func84 rfl rfl rfl (Rg<|Ol<|RR C io40 rfl ?_);intro P Q R T J l D h;have d:=d.sp D;refine Nl (Rg<|Ub<|RH l cb87 rfl rfl (Zg l.bd d (by omega)) ?_);intro U V E F f;have h:=h.spn F;obtain⟨n,o,rfl,_,_⟩:=f.len;refine Oa (Nl<|Rg<|Om<|Om<|OgD<|RP<|OgD<|St.len sl38 rfl<|OgD<|SM rfl rfl rfl<|OT<|Ub<|Si (cs:=[(.bool (decide<|0<(((trim m).length:Nat):Int))),(.slice n (trim m).length o)]) rfl (by kernel_rfl)<|On<|Us (cs':=[(.bool (decide<|0<(((trim m).length:Nat):Int))),(.slice n (trim m).length o)]) E h io40 ?_);intro Y p G H;have f:=f.sp G;refine Nl (RY<|J0 rfl (TL H rfl ag40 rfl)<|RM ?_ p.below);exact TM (a:=(⟨(decide<|0<(((trim m).length:Nat):Int)),(trim m)⟩:GInt)) ((Je f).tr (Tr.weak p.base)) (by simp[mkSg])
theorem jz{X:Nat→Prop}{w:World}(hX:XB X w){e:Value}{m:List Nat}(a:RS Jd X w e m)(hm:m.length≤1099511627776):CRt 118 #[e] w fun v w'=>RS Jd X w' v m:=by
 obtain⟨g,h,rfl,_,_⟩:=a.len;have C:=Cx.start hX;refine Cgo Tryz.func118 rfl rfl rfl<|Rg<|Ua<|Rh<|Ub<|Tv sl38 a rfl rfl (fun f=>?_) ?_
 ·exact Nl<|Uf<|Ua<|RY<|Wq rfl rfl C<|TP ((RS.nil:RS _ _ _ _ _).tr (Tr.weak C.base))<|f.symm
 refine Nl (Uc<|Rg<|Ol<|Tt (T:=Jd) C sl38 io96 ?_);intro y z A i j l k;have a:=a.sp j;refine Om (Ol<|Sk (T:=Jd) i sl38 io96 rfl rfl k (Xq a) (by simp only[Ux,maxLen];omega) (by simp only[Ux];omega) rfl ?_);intro n o p d r s b;rw[UZ] at b;obtain⟨u,x,rfl,_,_⟩:=b.len;exact Ua<|RY<|Wq rfl rfl d<|TP (b.toRS d hX)<|rfl
theorem kq{X:Nat→Prop}{w:World}(hX:XB X w){n:Nat}(hn:n<18446744073709551616):CRt 85 #[(.int .u64 ((n:Nat):Int))] w fun v w'=>RS Jd X w' v (digs n):=by
 have C:=Cx.start hX;refine Cgo Tryz.func85 rfl rfl rfl<|Rg<|Ua<|RZ<|W.block<|Rg<|Ub<|Sj rfl rfl (fun b=>?_)<|fun b=>?_
 ·exact Ua<|Uf<|Ua<|RY<|Wq rfl rfl C<|TP ((RS.nil:RS _ _ _ _ _).tr (Tr.weak C.base)) (by rw[show n=0 by omega];rfl)
 refine Ua<|Ug<|Ub<|Sb rfl rfl (fun e=>?_)<|fun e=>?_
 ·refine Oa (Nl<|Uf<|Ub<|R2 (z:=((n%4294967296:Nat):Int)) us97 un96 rfl (Jm _)<|Ol<|Sl (T:=Jd) (css:=[[(.int .u32 ((n%4294967296:Nat):Int))]]) (l:=[n%4294967296]) C sl38 io96 (by decide) (by decide) rfl (by kernel_rfl) ⟨⟨rfl,(by omega)⟩,trivial⟩ ?_);intro m o f p h;exact Ua<|RY<|Wq rfl rfl f<|TP ((h:RS _ _ _ _ _).tr (Tr.weak f.base)) (by rw[iQ (by omega) (by omega)];congr 1;omega)
 refine Oa (Nl<|Uc<|Rg<|Ub<|R2 (z:=((n%4294967296:Nat):Int)) us97 un96 rfl (Jm _)<|Ub<|SC rfl rfl (by decide) (Ym (d:=4294967296) _ (by decide))<|Ol<|R2 (z:=(((n/4294967296)%4294967296:Nat):Int)) us97 un96 rfl (Jm _) ?_);refine Ol (Sl (T:=Jd) (css:=[[(.int .u32 ((n%4294967296:Nat):Int))],[(.int .u32 (((n/4294967296)%4294967296:Nat):Int))]]) (l:=[n%4294967296,(n/4294967296)%4294967296]) C sl38 io96 (by decide) (by decide) rfl (by kernel_rfl) ⟨⟨rfl,(by omega)⟩,⟨rfl,(by omega)⟩,trivial⟩ ?_);intro i j a k g;exact Ua<|RY<|Wq rfl rfl a<|TP ((g:RS _ _ _ _ _).tr (Tr.weak a.base)) (by rw[BI (by omega) (by omega)];congr 2;omega)
theorem kX{X:Nat→Prop}{w:World}(hX:XB X w){y:Value}{m:List Nat}(e:RS Jd X w y m)(hm:m.length≤2):CRt 101 #[y] w fun v w'=>v=(.int .u64 (((val m):Nat):Int)):=by
 obtain⟨k,l,rfl,_,_⟩:=e.len;have C:=Cx.start hX;have hs:=e.u32_small;have an:=Jf hs 0;have ao:=Jf hs 1;refine Cgo Tryz.func101 rfl rfl rfl<|Rg<|Ua<|Rh<|Ub<|St.len sl38 rfl<|Nl<|W.block<|Rg<|Ol<|Sj rfl rfl (fun A=>?_)<|fun A=>?_
 ·exact Ua<|Uf<|Ua<|RY<|Wq rfl rfl C<|congrArg (Value.int _)<|KK (by omega)
 refine Ua<|Ug<|Ol<|Sj rfl rfl (fun B=>?_)<|fun B=>?_
 ·refine Oa (Nl<|Uf<|Ub<|Sd (j:=0) (u:=(m.getD 0 0)) e sl38 io96 rfl rfl rfl (Ji (by omega)) ?_);intro b5 o6 D E;obtain⟨rfl,aq⟩:D=_∧_:=E.rd;exact Ol<|Sa pl96 rfl (E.cell 0 _ rfl)<|Ol<|R2 (z:=(((m.getD 0 0):Nat):Int)) us96 un97 rfl (UO _ (by omega))<|Ua<|RY<|Wq rfl rfl C<|congrArg (Value.int _)<|LZ (by omega)
 refine Ua<|Uc<|RZ<|Sg mixed 9 [[],[0],[1],[2],[3],[],[5],[6],[7]] C [fx<|.slice k m.length l,fE Jd<|m.getD 1 0,fx<|.int .u32 (((m.getD 1 0):Nat):Int),fx<|.int .u64 (((m.getD 1 0):Nat):Int),fx<|.int .u64 ((m.getD 1 0*4294967296:Nat):Int),fx<|.slice k m.length l,fE Jd<|m.getD 0 0,fx<|.int .u32 (((m.getD 0 0):Nat):Int),fx<|.int .u64 (((m.getD 0 0):Nat):Int)] (by kernel_rfl) ⟨sx,sE,sx,sx,sx,sx,sE,sx,sx,trivial⟩ fun F d ar ⟨b,G⟩ a=>?_
 have e:=e.sp G;have a:Keep [13,14,15,16,17,18,19,20,21] _ F:=a;refine⟨⟨fun _=>?_,fun⟨H,_⟩=>?_,fun⟨I,_⟩=>?_,fun⟨J,_⟩=>?_,fun⟨K,_⟩=>?_,fun _=>?_,fun⟨L,_⟩=>?_,fun⟨M,_⟩=>?_,fun⟨N,_⟩=>?_,trivial⟩,fun⟨P,Q,R,T,U,V,Y,Z,aa,_⟩=>?_⟩
 ·exact Sd0 a fun _=>RP ⟨d,RJ b,rfl⟩
 ·refine Sd1 a H fun _=>Sd (j:=1) (u:=(m.getD 1 0)) e sl38 io96 rfl rfl rfl (Ji (by omega)) ?_;intro au av n f;obtain⟨rfl,ah⟩:n=_∧_:=f.rd;exact⟨d,RJ b,⟨_,_,_,rfl,f⟩⟩
 ·obtain⟨aw,ax,o,ab,g⟩:=I;obtain⟨rfl,ai⟩:o=_∧_:=g.rd;exact Sd1 a ab fun _=>Sa pl96 rfl (g.cell 0 _ rfl) ⟨d,RJ b,rfl⟩
 ·exact Sd1 a J fun _=>R2 (z:=(((m.getD 1 0):Nat):Int)) us96 un97 rfl (UO _ (by omega)) ⟨d,RJ b,rfl⟩
 ·exact Sd1 a K fun _=>SP (z:=((m.getD 1 0*4294967296:Nat):Int)) rfl rfl (by decide) (jH<|Jf hs 1) ⟨d,RJ b,rfl⟩
 ·exact Sd0 a fun _=>RP ⟨d,RJ b,rfl⟩
 ·refine Sd1 a L fun _=>Sd (j:=0) (u:=(m.getD 0 0)) e sl38 io96 rfl rfl rfl (Ji (by omega)) ?_;intro ay az p h;obtain⟨rfl,aj⟩:p=_∧_:=h.rd;exact⟨d,RJ b,⟨_,_,_,rfl,h⟩⟩
 ·obtain⟨aA,aB,r,ac,i⟩:=M;obtain⟨rfl,ak⟩:r=_∧_:=i.rd;exact Sd1 a ac fun _=>Sa pl96 rfl (i.cell 0 _ rfl) ⟨d,RJ b,rfl⟩
 ·exact Sd1 a N fun _=>R2 (z:=(((m.getD 0 0):Nat):Int)) us96 un97 rfl (UO _ (by omega)) ⟨d,RJ b,rfl⟩
 obtain⟨aD,aE,s,ad,ae⟩:=Q;obtain⟨rfl,al⟩:s=_∧_:=ae.rd;obtain⟨aF,aG,x,af,ag⟩:=Y;obtain⟨rfl,am⟩:x=_∧_:=ag.rd;obtain⟨aH,rfl⟩:=mixK a (aC P<|aC ad<|aC R<|aC T<|aC U<|aC V<|aC af<|aC Z<|aC aa aN);exact Ol<|S8 (z:=((m.getD 1 0*4294967296+m.getD 0 0:Nat):Int)) rfl rfl (iL (Jf hs 1)<|Jf hs 0)<|Ua<|RY<|Wq rfl rfl b<|congrArg (Value.int _)<|LG (by omega)
theorem kE{X:Nat→Prop}{w:World}(hX:XB X w){v0:Value}{a:List Nat}(l:RS Jd X w v0 a){v1:Value}{b:List Nat}(m:RS Jd X w v1 b)(ha:trim a=a)(hb:trim b=b)(hla:a.length≤1099511627776)(hlb:b.length≤1099511627776):CRt 146 #[v0,v1] w fun v w'=>v=(.int .i64 (cmpN (val a) (val b))):=by
 obtain⟨n,o,rfl,_,_⟩:=l.len;obtain⟨p,r,rfl,_,_⟩:=m.len;have C:=Cx.start hX;have sa:=l.u32_small;have sb:=m.u32_small;refine Cgo Tryz.func146 rfl rfl rfl<|Rg<|Ua<|Rh<|Ub<|St.len sl38 rfl<|Ub<|St.len sl38 rfl<|Ol<|SA rfl rfl (fun aI=>?_)<|fun aI=>?_
 ·refine Nl (Uf<|Ub<|St.len sl38 rfl<|Ub<|St.len sl38 rfl<|Ol<|St.sub (z:=(((a.length:Nat):Int)-((b.length:Nat):Int))) rfl rfl (UP _ (by omega))<|Ol<|RH C NP rfl rfl (IL C.bd) ?_);intro v6 w7 C8 s9 aJ;subst aJ;exact Ua<|RY<|Wq rfl rfl C8<|congrArg (Value.int _)<|(Fd ha hb sa sb (by omega))
 refine Nl (Uc<|Rh<|Ub<|St.len sl38 rfl<|Ol<|St.sub (z:=(((a.length:Nat):Int)-1)) rfl rfl (UP _ (by omega))<|Ua<|W.block<|Sc (fun μ f v=>∃(x y:Nat→Prop) (j:Nat),Cx X w x y v∧f 0=(.slice n a.length o)∧f 1=(.slice p b.length r)∧f 5=(.int .i64 ((j:Int)-1))∧RS Jd x v (.slice n a.length o) a∧RS Jd x v (.slice p b.length r) b∧j≤a.length∧a.drop j=b.drop j∧μ=j) _ ⟨_,_,a.length,C,rfl,rfl,rfl,l,m,(UM _),(by rw[UY<|UM _,UY (by omega)]),rfl⟩ ?_);rintro bD bE bF ⟨bG,bH,j,N,P,Q,R,l,m,hj,heq,a8⟩;obtain⟨bJ,rfl⟩:=rebK (aC P<|aC Q<|aC R aN);clear P Q R;refine Rh<|Ub<|SB rfl rfl (fun aa=>?_)<|fun aa=>?_
 ·refine Nl<|Ud<|RT<|RZ<|W.block<|RZ<|Sg mixed 8 [[],[],[0,1],[2],[],[],[4,5],[6]] N [fx<|.slice n a.length o,fx<|.int .i64 ((j:Int)-1),fE Jd<|a.getD (j-1) 0,fx<|.int .u32 (((a.getD (j-1) 0):Nat):Int),fx<|.slice p b.length r,fx<|.int .i64 ((j:Int)-1),fE Jd<|b.getD (j-1) 0,fx<|.int .u32 (((b.getD (j-1) 0):Nat):Int)] (by kernel_rfl) ⟨sx,sx,sE,sx,sx,sx,sE,sx,trivial⟩ fun aK k bK ⟨i,T⟩ g=>?_
  have l:=l.sp T;have m:=m.sp T;have g:Keep [24,25,26,27,28,29,30,31] _ aK:=g;refine⟨⟨fun _=>?_,fun _=>?_,fun⟨aL,aM,_⟩=>?_,fun⟨aO,_⟩=>?_,fun _=>?_,fun _=>?_,fun⟨aP,aQ,_⟩=>?_,fun⟨aR,_⟩=>?_,trivial⟩,fun⟨aS,aT,aU,aV,aW,aX,aY,aZ,_⟩=>?_⟩
  ·exact Sd0 g fun _=>RP ⟨k,RJ i,rfl⟩
  ·exact Sd0 g fun _=>RP ⟨k,RJ i,rfl⟩
  ·refine Js g (aC aL<|aC aM aN) fun _=>R8 (Sd (j:=(j-1)) (u:=(a.getD (j-1) 0)) l sl38 io96 rfl rfl (by omega) (Ji (by omega)) ?_);intro bL bM ab U;obtain⟨rfl,bi⟩:ab=_∧_:=U.rd;exact⟨k,RJ i,⟨_,_,_,rfl,U⟩⟩
  ·obtain⟨bN,bO,ac,a0,V⟩:=aO;obtain⟨rfl,bj⟩:ac=_∧_:=V.rd;exact Sd1 g a0 fun _=>Sa pl96 rfl (V.cell 0 _ rfl) ⟨k,RJ i,rfl⟩
  ·exact Sd0 g fun _=>RP ⟨k,RJ i,rfl⟩
  ·exact Sd0 g fun _=>RP ⟨k,RJ i,rfl⟩
  ·refine Js g (aC aP<|aC aQ aN) fun _=>R8 (Sd (j:=(j-1)) (u:=(b.getD (j-1) 0)) m sl38 io96 rfl rfl (by omega) (Ji (by omega)) ?_);intro bP bQ ad Y;obtain⟨rfl,bk⟩:ad=_∧_:=Y.rd;exact⟨k,RJ i,⟨_,_,_,rfl,Y⟩⟩
  ·obtain⟨bR,bS,ae,a2,Z⟩:=aR;obtain⟨rfl,bl⟩:ae=_∧_:=Z.rd;exact Sd1 g a2 fun _=>Sa pl96 rfl (Z.cell 0 _ rfl) ⟨k,RJ i,rfl⟩
  obtain⟨bT,bU,af,a4,a5⟩:=aU;obtain⟨rfl,bm⟩:af=_∧_:=a5.rd;obtain⟨bV,bW,ag,a6,a7⟩:=aY;obtain⟨rfl,bn⟩:ag=_∧_:=a7.rd;obtain⟨bX,rfl⟩:=mixK g (aC aS<|aC aT<|aC a4<|aC aV<|aC aW<|aC aX<|aC a6<|aC aZ aN);refine Ol<|SA rfl rfl (fun s=>?_)<|fun s=>?_
  ·refine Nl<|Ud<|RZ<|RZ<|Sg mixed 8 [[],[],[0,1],[2],[],[],[4,5],[6]] i [fx<|.slice n a.length o,fx<|.int .i64 ((j:Int)-1),fE Jd<|a.getD (j-1) 0,fx<|.int .u32 (((a.getD (j-1) 0):Nat):Int),fx<|.slice p b.length r,fx<|.int .i64 ((j:Int)-1),fE Jd<|b.getD (j-1) 0,fx<|.int .u32 (((b.getD (j-1) 0):Nat):Int)] (by kernel_rfl) ⟨sx,sx,sE,sx,sx,sx,sE,sx,trivial⟩ fun ah h bo ⟨e,A⟩ d=>?_
   have l:=l.sp A;have m:=m.sp A;have d:Keep [33,34,35,36,37,38,39,40] _ ah:=d;refine⟨⟨fun _=>?_,fun _=>?_,fun⟨ai,aj,_⟩=>?_,fun⟨ak,_⟩=>?_,fun _=>?_,fun _=>?_,fun⟨al,am,_⟩=>?_,fun⟨an,_⟩=>?_,trivial⟩,fun⟨ao,aq,ar,au,av,aw,ax,ay,_⟩=>?_⟩
   ·exact Sd0 d fun _=>RP ⟨h,RJ e,rfl⟩
   ·exact Sd0 d fun _=>RP ⟨h,RJ e,rfl⟩
   ·refine Js d (aC ai<|aC aj aN) fun _=>R8 (Sd (j:=(j-1)) (u:=(a.getD (j-1) 0)) l sl38 io96 rfl rfl (by omega) (Ji (by omega)) ?_);intro bp bq G B;obtain⟨rfl,a9⟩:G=_∧_:=B.rd;exact⟨h,RJ e,⟨_,_,_,rfl,B⟩⟩
   ·obtain⟨br,bs,H,az,D⟩:=ak;obtain⟨rfl,ba⟩:H=_∧_:=D.rd;exact Sd1 d az fun _=>Sa pl96 rfl (D.cell 0 _ rfl) ⟨h,RJ e,rfl⟩
   ·exact Sd0 d fun _=>RP ⟨h,RJ e,rfl⟩
   ·exact Sd0 d fun _=>RP ⟨h,RJ e,rfl⟩
   ·refine Js d (aC al<|aC am aN) fun _=>R8 (Sd (j:=(j-1)) (u:=(b.getD (j-1) 0)) m sl38 io96 rfl rfl (by omega) (Ji (by omega)) ?_);intro bt bu I E;obtain⟨rfl,bb⟩:I=_∧_:=E.rd;exact⟨h,RJ e,⟨_,_,_,rfl,E⟩⟩
   ·obtain⟨bv,bw,J,aA,F⟩:=an;obtain⟨rfl,be⟩:J=_∧_:=F.rd;exact Sd1 d aA fun _=>Sa pl96 rfl (F.cell 0 _ rfl) ⟨h,RJ e,rfl⟩
   obtain⟨bx,bz,K,aB,aD⟩:=ar;obtain⟨rfl,bf⟩:K=_∧_:=aD.rd;obtain⟨bA,bB,L,aE,aF⟩:=ax;obtain⟨rfl,bg⟩:L=_∧_:=aF.rd;obtain⟨bC,rfl⟩:=mixK d (aC ao<|aC aq<|aC aB<|aC au<|aC av<|aC aw<|aC aE<|aC ay aN);refine Ol<|Sb rfl rfl (fun M=>?_)<|fun M=>?_
   ·exact Nl<|Uf<|Ua<|RY<|Wq rfl rfl e<|congrArg (Value.int _)<|(sN sa sb (by omega) (by omega) (by omega) (by omega) heq)
   exact Nl<|Uc<|Rg<|Ua<|RY<|Wq rfl rfl e<|congrArg (Value.int _)<|(De sa sb (by omega) (by omega) (by omega) (by omega) (by omega) heq)
  refine Nl<|Uc<|RK<|Ub<|St.sub (z:=(((j:Int)-1)-1)) rfl rfl (UP _ (by omega))<|Ua<|⟨_,(by omega),_,_,(j-1),i,rfl,rfl,(congrArg (Value.int .i64) (by omega)),l,m,(by omega),(oO (by omega) (by omega) (by omega) s heq),rfl⟩
 exact Nl<|Ue<|Sf<|Rg<|Ua<|RY<|Wq rfl rfl N<|congrArg (Value.int _)<|(Cf (show j=0 by omega) heq)
end Go.Wf
namespace Go.Wf
open Go
theorem tb31{a:Nat}(h:a<4294967296):a.testBit 31=decide (2147483648≤a):=by
 rw[ZY];rw[VL];simp;omega
theorem OV{a:Nat}(h:a<4294967296):a/2147483648=if a.testBit 31 then 1 else 0:=by
 rw[tb31 h];by_cases b:2147483648≤a
 ·simp[b];omega
 ·simp[b];omega
theorem rv{x y b d:Nat}(hx:x<4294967296)(hy:y<4294967296)(hb:b≤1)(hd:d=(x+8589934592-y-b)%4294967296):
  (((4294967295-x) &&& y) ||| ((4294967295-(x ^^^ y)) &&& d))/2147483648=if x<y+b then 1 else 0:=by
 have hdl:d<4294967296:=by omega
 have h:(4294967295-x) &&& y<4294967296:=YI _ (n:=32) hy;have i:(4294967295-(x ^^^ y)) &&& d<4294967296:=YI _ (n:=32) hdl;have hxy:x ^^^ y<4294967296:=Nat.xor_lt_two_pow (n:=32) hx hy;have j:((4294967295-x) &&& y) ||| ((4294967295-(x ^^^ y)) &&& d)<4294967296:=ZP (n:=32) h i;rw[OV j,Nat.testBit_or,ZX,ZX,tb31 hy,tb31 hdl,tb31 (a:=4294967295-x) (by omega),tb31 (a:=4294967295-(x ^^^ y)) (by omega)];have hxor:decide (2147483648≤4294967295-(x ^^^ y))= !(decide (2147483648≤x) ^^ decide (2147483648≤y)):=by
  have:=Nat.testBit_xor x y 31
  rw[tb31 hx,tb31 hy,tb31 hxy] at this;rw[←this];rw[VL];simp;omega
 rw[hxor];by_cases e:2147483648≤x<;>by_cases f:2147483648≤y<;>by_cases g:2147483648≤d<;>by_cases hlt:x<y+b<;>simp[e,f,g,hlt]<;>omega
theorem Dl{x y:Nat}(hy:y<4294967296):IntKind.u32.wrap ((x:Int)-(y:Int))=(((x+4294967296-y)%4294967296:Nat):Int):=by
 rw[IntKind.wrap_u32];omega
theorem K5{p:List Nat}{i n d:Nat}(hp:p.length=i)(hi:i<n):(p++List.replicate (n-i) 0).set i d=(p++[d])++List.replicate (n-(i+1)) 0:=by
 obtain⟨k,hk⟩:∃k,n-i=k+1:=⟨n-i-1,by omega⟩;rw[hk,show n-(i+1)=k by omega,XU,XW,if_neg (by omega),hp,ZV,XX,UF];rfl
theorem ud{p:List Nat}{n d:Nat}(hp:p.length=n):(p++List.replicate (n+1-n) 0).set n d=p++[d]:=by
 have:=K5 (d:=d) hp (ZE n)
 rw[this,ZV];simp
theorem kK{p:List Nat}{i n d:Nat}(hp:p.length=i)(hi:i=n):(p++List.replicate (n+1-i) 0).set n d=p++[d]:=by
 subst hi;exact ud hp
theorem mulB{q s:Nat}:q*(s%4294967296)+q*4294967296*(s/4294967296)=q*s:=by
 rw[U3,←UX]
 congr 1;omega
theorem jq{A B p:List Nat}{i c x y:Nat}(hp:p.length=i)(hv:val p+4294967296^i*c=val (A.take i)+val (B.take i))(hx:x=A.getD i 0)(hy:y=B.getD i 0):
  val (p++[(x+y+c)%4294967296])+4294967296^(i+1)*((x+y+c)/4294967296)=val (A.take (i+1))+val (B.take (i+1)):=by
 rw[Z3,hp,UV,Jn,Jn,←hx,←hy]
 have:=mulB (q:=4294967296^i) (s:=x+y+c)
 rw[UX,UX] at this;omega
theorem Jz{p:List Nat}(h:Jp p){d:Nat}(hd:d<4294967296):Jp (p++[d]):=Yc h (Zs hd J9)
theorem Y0{l:List Nat}{i:Nat}(h:l.length≤i):0=l.getD i 0:=by rw[UJ,U5 h];rfl
theorem ol{A B p:List Nat}{n c:Nat}(hs:Jp p)(hp:p.length=n)(hn:n=A.length)(hBA:B.length≤A.length)(hc:c≤1)(hv:val p+4294967296^n*c=val (A.take n)+val (B.take n)):
  p++[c]=Jx (A.length+1) (val A+val B):=by
 subst hn;refine Yl (Jz hs (by omega)) (by rw[Uv,hp];rfl) ?_;rw[Z3,hp,hv,YC,UU hBA]
theorem lM{A B p:List Nat}{i c x y:Nat}(hp:p.length=i)(hc:c≤1)(hxl:x<4294967296)(hyl:y<4294967296)(hv:val p+val (B.take i)=val (A.take i)+4294967296^i*c)(hx:x=A.getD i 0)(hy:y=B.getD i 0):
  val (p++[(x+8589934592-y-c)%4294967296])+val (B.take (i+1))=val (A.take (i+1))+4294967296^(i+1)*(if x<y+c then 1 else 0):=by
 rw[Z3,hp,UV,Jn,Jn,←hx,←hy];have key:(x+8589934592-y-c)%4294967296+y+c=x+4294967296*(if x<y+c then 1 else 0):=by
  split<;>omega
 have:=congrArg (4294967296^i * ·) key
 simp only[UX] at this;rw[←U3] at this;omega
theorem pP{A B p:List Nat}{n c:Nat}(hs:Jp p)(hp:p.length=n)(hn:n=A.length)(hBA:B.length≤A.length)(hle:val B≤val A)(hv:val p+val (B.take n)=val (A.take n)+4294967296^n*c):
  p=Jx A.length (val A-val B):=by
 subst hn;rw[YC,UU hBA] at hv;refine Yl hs hp ?_;have hlt:=Zo p hs;rw[hp] at hlt;rcases YV c with rfl|hcp
 ·omega
 ·exfalso
  have:4294967296^A.length*1≤4294967296^A.length*c:=U4 _ hcp
  omega
end Go.Wf
namespace Go.Wf
open Go Go.Proofs Go.RowKit
theorem xh{X:Nat→Prop}{w:World}(hX:XB X w){x:Nat}{y:Nat}{c:Nat}(hx:x<4294967296)(hy:y<4294967296)(hc:c≤1):CRt 152 #[(.int .u32 ((x:Nat):Int)),(.int .u32 ((y:Nat):Int)),(.int .u32 ((c:Nat):Int))] w fun v w'=>(∃e f,v= .tuple #[e,f]∧(e=(.int .u32 ((((x+y+c)%4294967296):Nat):Int)))∧(f=(.int .u32 ((((x+y+c)/4294967296):Nat):Int)))):=by
 have C:=Cx.start hX;refine Cgo Tryz.func152 rfl rfl rfl (Rg<|Oa<|Ua<|Rg<|Ub<|R2 (z:=((x:Nat):Int)) us96 un97 rfl (UO _ (by omega))<|Om ?_);refine Ol (R2 (z:=((y:Nat):Int)) us96 un97 rfl (UO _ (by omega))<|Ol<|St.add rfl rfl (J6 (a:=x) (b:=y) (by omega))<|Ub<|R2 (z:=((c:Nat):Int)) us96 un97 rfl (UO _ (by omega))<|Ol<|St.add rfl rfl (J6 (a:=x+y) (b:=c) (by omega))<|Ua<|Rg ?_);refine Om (Ol<|R2 (z:=((((x+y)+c)%4294967296:Nat):Int)) us97 un96 rfl (Jm _)<|Ua<|Rg<|Ub<|SC rfl rfl (by decide) (Ym (d:=4294967296) _ (by decide))<|Ol<|R2 (z:=(((((x+y)+c)/4294967296)%4294967296:Nat):Int)) us97 un96 rfl (Jm _) ?_);refine Oa (Nl<|RY<|Z4 rfl (resV.t rfl) (resV.t rfl)<|RM ?_ C.below);refine⟨_,_,rfl,?_,?_⟩
 ·skip
  rfl
 ·exact congrArg (Value.int _) (by omega)
theorem iM{X:Nat→Prop}{w:World}(hX:XB X w){x:Nat}{y:Nat}{b:Nat}(hx:x<4294967296)(hy:y<4294967296)(hb:b≤1):CRt 153 #[(.int .u32 ((x:Nat):Int)),(.int .u32 ((y:Nat):Int)),(.int .u32 ((b:Nat):Int))] w fun v w'=>(∃e f,v= .tuple #[e,f]∧(e=(.int .u32 ((((x+8589934592-y-b)%4294967296):Nat):Int)))∧(f=(.int .u32 (((if x<y+b then 1 else 0):Nat):Int)))):=by
 have C:=Cx.start hX;have hxy:x ^^^ y<4294967296:=Nat.xor_lt_two_pow (n:=32) hx hy;have h:(4294967295-x) &&& y<4294967296:=YI _ (n:=32) hy;have g:∀d,d<4294967296→(4294967295-(x ^^^ y)) &&& d<4294967296:=fun d hd=>YI _ (n:=32) hd;refine Cgo Tryz.func153 rfl rfl rfl (Rg<|Oa<|Ua<|Rg<|Om<|Ub<|St.sub (z:=(((x+4294967296-y)%4294967296:Nat):Int)) rfl rfl (Dl hy) ?_);refine Om (Ol<|St.sub (z:=(((x+8589934592-y-b)%4294967296:Nat):Int)) rfl rfl ((Dl (by omega)).trans (by omega))<|Ua<|Rg<|Ub<|Tp rfl (xc (by omega))<|Ub<|TI rfl rfl (q0 (a:=4294967295-x) (b:=y) (by omega) (by omega))<|Om ?_);refine Om (Ol<|St.xor rfl rfl (m0 (a:=x) (b:=y) (by omega) (by omega))<|Ol<|Tp rfl (xc (by omega))<|Ub<|TI rfl rfl (q0 (a:=4294967295-(x ^^^ y)) (b:=(x+8589934592-y-b)%4294967296) (by omega) (by omega))<|Ol<|S8 rfl rfl (zw (a:=(4294967295-x) &&& y) (b:=(4294967295-(x ^^^ y)) &&& ((x+8589934592-y-b)%4294967296)) (by omega)<|g _ (by omega)) ?_);refine Ol (SC rfl rfl (by decide) (Ym (d:=2147483648) _ (by decide))<|Ua<|RY<|Z4 rfl (resV.t rfl) (resV.t rfl)<|RM ?_ C.below);refine⟨_,_,rfl,?_,?_⟩
 ·skip
  rfl
 ·exact congrArg (Value.int _)<|congrArg _<|rv hx hy hb rfl
theorem D2{X:Nat→Prop}{w:World}(hX:XB X w){hi:Nat}{lo:Nat}{y:Nat}(hh:hi<y)(hl:lo<4294967296)(hy:y<4294967296):CRt 195 #[(.int .u32 ((hi:Nat):Int)),(.int .u32 ((lo:Nat):Int)),(.int .u32 ((y:Nat):Int))] w fun v w'=>(∃e f,v= .tuple #[e,f]∧(e=(.int .u32 ((((hi*4294967296+lo)/y):Nat):Int)))∧(f=(.int .u32 ((((hi*4294967296+lo)%y):Nat):Int)))):=by
 have C:=Cx.start hX;have hq:(hi*4294967296+lo)/y<4294967296:=YR (by have:=ZI 4294967296 (show hi+1≤y by omega);omega);have hr:=UI (hi*4294967296+lo) (show 0<y by omega);refine Cgo Tryz.func195 rfl rfl rfl (Rg<|Oa<|Ua<|Rh<|Ub<|SK (t:=true) rfl rfl (by rw[decide_eq_false (by omega)];rfl)<|Om ?_);refine OgD (RP<|OgD<|RP<|OgD<|SU (t:=false) rfl rfl (decide_eq_false (by omega))<|OT<|Nl<|Uc<|Rg<|Ub<|R2 (z:=((hi:Nat):Int)) us96 un97 rfl (UO _ (by omega))<|Ol<|SP rfl rfl (by decide) (ja (a:=hi) (d:=4294967296) (by decide) (by omega)) ?_);refine Om (Ol<|R2 (z:=((lo:Nat):Int)) us96 un97 rfl (UO _ (by omega))<|Ol<|S8 (z:=((hi*4294967296+lo:Nat):Int)) rfl rfl (iL (by omega) (by omega))<|Ua<|RZ<|ST mixed 11 C<|Qm<|Qm<|Qp (fun _=>R2 (z:=((y:Nat):Int)) us96 un97 rfl (UO _ (by omega)) ⟨rfl,rfl⟩) ?_);refine Qp (fun _=>SF rfl rfl (by omega) (X9 (a:=hi*4294967296+lo) (b:=y) (by omega)) ⟨rfl,rfl⟩) (Qp (fun _=>R2 (z:=((((hi*4294967296+lo)/y)%4294967296:Nat):Int)) us97 un96 rfl (Jm _) ⟨rfl,rfl⟩)<|Qm<|Qm<|Qp (fun _=>R2 (z:=((y:Nat):Int)) us96 un97 rfl (UO _ (by omega)) ⟨rfl,rfl⟩)<|Qp (fun _=>Sz rfl rfl (by omega) (Qe (hi*4294967296+lo) y) ⟨rfl,rfl⟩) ?_);refine Qp (fun _=>R2 (z:=((((hi*4294967296+lo)%y)%4294967296:Nat):Int)) us97 un96 rfl (Jm _) ⟨rfl,rfl⟩) (Qa<|Qz fun h g i=>(Ua<|RY<|Z4 rfl (resV.t rfl) (resV.t rfl)<|RM ?_ g.below));refine⟨_,_,rfl,?_,?_⟩
 ·exact congrArg (Value.int _)<|congrArg _<|ZG hq
 ·exact congrArg (Value.int _)<|congrArg _<|ZG<|Nat.lt_trans hr hy
theorem CP{X:Nat→Prop}{w:World}(hX:XB X w){v0:Value}{a:List Nat}(d:RS Jd X w v0 a){v1:Value}{b:List Nat}(e:RS Jd X w v1 b)(hla:a.length≤549755813888)(hlb:b.length≤549755813888):CRt 99 #[v0,v1] w fun v w'=>RS Jd X w' v (Jx (max a.length b.length+1) (val a+val b)):=by
 obtain⟨r,s,rfl,_,_⟩:=d.len;obtain⟨z,D,rfl,_,_⟩:=e.len;have C:=Cx.start hX;have sa:=d.u32_small;have sb:=e.u32_small;refine Cgo Tryz.func99 rfl rfl rfl<|Rg<|Ua<|Rh<|Ub<|St.len sl38 rfl<|Ub<|St.len sl38 rfl<|Ol<|Sb rfl rfl (fun aO=>?_)<|fun aO=>?_
 ·refine Nl (Uk<|Om<|Om<|Oa<|Ua<|Rg<|Ub<|St.len sl38 rfl<|Ol<|St.add rfl rfl (Jc (a:=b.length) (b:=1) (by omega))<|Ol<|So (n:=(b.length+1)) C sl38 rfl rfl rfl (by omega) io96 (by decide) ?_);intro g6 w7 x8 y9 a6 aQ T aR;have d:=d.sp T;have e:=e.sp T;refine Oa (Nl<|Rg<|Ua<|Rh<|Ub<|St.len sl38 rfl<|Om<|Nl<|W.block<|Sc (fun μ f v=>∃(x y:Nat→Prop) (i:Nat) (p:List Nat) (c:Nat),Cx X w x y v∧f 0=(.slice z b.length D)∧f 1=(.slice r a.length s)∧f 4=(.slice none 0 0)∧f 5=(.slice (some ⟨g6,0,none⟩) (b.length+1) (b.length+1))∧f 21=(.slice z b.length D)∧f 22=(.int .i64 ((b.length:Nat):Int))∧f 23=(.int .i64 ((i:Nat):Int))∧f 6=(.int .u32 ((c:Nat):Int))∧RS Jd x v (.slice r a.length s) a∧RS Jd x v (.slice z b.length D) b∧Own w y v g6 ((p++List.replicate ((b.length+1)-i) 0).map u32v) 96∧i≤b.length∧p.length=i∧Jp p∧c≤1∧val p+4294967296^i*c=val (b.take i)+val (a.take i)∧μ=(b.length-i)) _ ⟨_,_,0,[],0,aQ,rfl,rfl,rfl,rfl,rfl,rfl,rfl,rfl,d,e,aR,(UN _),rfl,J9,(by omega),(by simp[val]),rfl⟩ ?_);rintro br bs bt ⟨bu,bv,i,p,c,k,U,V,Y,Z,aa,ab,ac,ad,d,e,g,hi,hp,hs,hc,hv,a0⟩;obtain⟨bw,rfl⟩:=rebK (aC U<|aC V<|aC Y<|aC Z<|aC aa<|aC ab<|aC ac<|aC ad aN);clear U V Y Z aa ab ac ad;refine Rg<|Ol<|Sb rfl rfl (fun az=>?_)<|fun az=>?_
  ·refine Nl (RZ<|Ud<|RT<|RZ<|W.block<|Rg<|Ub<|Sd (j:=i) (u:=(b.getD i 0)) e sl38 io96 rfl rfl rfl (Ji (by omega)) ?_);intro bx bz aA ae;obtain⟨rfl,a7⟩:aA=_∧_:=ae.rd;refine Ol<|Sa pl96 rfl (ae.cell 0 _ rfl)<|Oa<|Ua<|Rg<|Ua<|Rh<|Om<|Ub<|St.len sl38 rfl<|Ol<|Sb rfl rfl (fun aB=>?_)<|fun aB=>?_
   ·refine Nl (Uk<|Om<|Ub<|Sd (j:=i) (u:=(a.getD i 0)) d sl38 io96 rfl rfl rfl (Ji (by omega)) ?_);intro bA bB aD af;obtain⟨rfl,a8⟩:aD=_∧_:=af.rd;refine Ol (Sa pl96 rfl (af.cell 0 _ rfl)<|Ua<|RK<|Om<|Om<|Om<|Om<|Ub<|RH k t4 rfl rfl (xh k.bd (x:=(b.getD i 0)) (y:=(a.getD i 0)) (c:=c) (by omega) (by omega) hc) ?_);intro bC bD aS E aT;have g:=g.spn E;obtain⟨bE,bF,rfl,rfl,rfl⟩:=aT;refine Om (Ol<|St.extract rfl rfl<|Ol<|St.extract rfl rfl<|Ol<|Sh (j:=i) sl38 io96 rfl rfl rfl (by omega)<|On<|Se (j:=i) (u:=(((b.getD i 0)+(a.getD i 0)+c)%4294967296)) aS g io96 rfl rfl (by rw[Uv,UE,hp];omega) ?_);intro bG aU ag ah;have d:=(d.sp E).sp ag;have e:=(e.sp E).sp ag;rw[K5 hp (by omega)] at ah;refine Ua<|RK<|Ol<|St.add rfl rfl (Jc (a:=i) (b:=1) (by omega))<|Om<|Nl<|⟨_,(by omega),_,_,(i+1),(p++[(((b.getD i 0)+(a.getD i 0)+c)%4294967296)]),(((b.getD i 0)+(a.getD i 0)+c)/4294967296),aU,rfl,rfl,rfl,rfl,rfl,rfl,rfl,rfl,d,e,ah,(by omega),(by rw[Uv,hp];rfl),(Jz hs (by omega)),(by omega),(jq hp hv rfl rfl),rfl⟩
   refine Nl (Uc<|RK<|Om<|Om<|Om<|Om<|Ub<|RH k t4 rfl rfl (xh k.bd (x:=(b.getD i 0)) (y:=0) (c:=c) (by omega) (by omega) hc) ?_);intro bH bJ aV F aW;have g:=g.spn F;obtain⟨bK,bL,rfl,rfl,rfl⟩:=aW;refine Om (Ol<|St.extract rfl rfl<|Ol<|St.extract rfl rfl<|Ol<|Sh (j:=i) sl38 io96 rfl rfl rfl (by omega)<|On<|Se (j:=i) (u:=(((b.getD i 0)+0+c)%4294967296)) aV g io96 rfl rfl (by rw[Uv,UE,hp];omega) ?_);intro bM aX ai aj;have d:=(d.sp F).sp ai;have e:=(e.sp F).sp ai;rw[K5 hp (by omega)] at aj;refine Ua<|RK<|Ol<|St.add rfl rfl (Jc (a:=i) (b:=1) (by omega))<|Om<|Nl<|⟨_,(by omega),_,_,(i+1),(p++[(((b.getD i 0)+0+c)%4294967296)]),(((b.getD i 0)+0+c)/4294967296),aX,rfl,rfl,rfl,rfl,rfl,rfl,rfl,rfl,d,e,aj,(by omega),(by rw[Uv,hp];rfl),(Jz hs (by omega)),(by omega),(jq hp hv rfl<|Y0 (by omega)),rfl⟩
  refine Nl (RZ<|Ue<|Sf<|Rg<|Om<|Ub<|St.len sl38 rfl<|Ub<|Sh (j:=b.length) sl38 io96 rfl rfl rfl (by omega)<|On<|Se (j:=b.length) (u:=c) k g io96 rfl rfl (by rw[Uv,UE,hp];omega) ?_);intro bN ak bO al;rw[kK hp (by omega)] at al;exact Nl<|Rg<|Om<|Ua<|RY<|Wq rfl rfl ak<|TP (al.rowRS ak hX (by rw[Uv,hp];show _=_+1;omega) (by omega) (Jz hs (by omega)) id)<|((ol (A:=b) (B:=a) hs (by omega) rfl (by omega) hc (by rw[show b.length=i by omega];exact hv)).trans (by rw[Nat.max_eq_right (by omega),Nat.add_comm<|val b]))
 refine Nl (Uc<|Rg<|Ub<|St.len sl38 rfl<|Ol<|St.add rfl rfl (Jc (a:=a.length) (b:=1) (by omega))<|Ol<|So (n:=(a.length+1)) C sl38 rfl rfl rfl (by omega) io96 (by decide) ?_);intro am bP bQ bR a9 aY an aZ;have d:=d.sp an;have e:=e.sp an;refine Oa (Nl<|Rg<|Ua<|Rh<|Ub<|St.len sl38 rfl<|Om<|Nl<|W.block<|Sc (fun μ f v=>∃(x y:Nat→Prop) (i:Nat) (p:List Nat) (c:Nat),Cx X w x y v∧f 0=(.slice r a.length s)∧f 1=(.slice z b.length D)∧f 4=(.slice none 0 0)∧f 5=(.slice (some ⟨am,0,none⟩) (a.length+1) (a.length+1))∧f 21=(.slice r a.length s)∧f 22=(.int .i64 ((a.length:Nat):Int))∧f 23=(.int .i64 ((i:Nat):Int))∧f 6=(.int .u32 ((c:Nat):Int))∧RS Jd x v (.slice r a.length s) a∧RS Jd x v (.slice z b.length D) b∧Own w y v am ((p++List.replicate ((a.length+1)-i) 0).map u32v) 96∧i≤a.length∧p.length=i∧Jp p∧c≤1∧val p+4294967296^i*c=val (a.take i)+val (b.take i)∧μ=(a.length-i)) _ ⟨_,_,0,[],0,aY,rfl,rfl,rfl,rfl,rfl,rfl,rfl,rfl,d,e,aZ,(UN _),rfl,J9,(by omega),(by simp[val]),rfl⟩ ?_);rintro bS bT bU ⟨bV,bW,i,p,c,l,ao,aq,ar,au,av,aw,ax,ay,d,e,h,hi,hp,hs,hc,hv,a2⟩;obtain⟨bX,rfl⟩:=rebK (aC ao<|aC aq<|aC ar<|aC au<|aC av<|aC aw<|aC ax<|aC ay aN);clear ao aq ar au av aw ax ay;refine Rg<|Ol<|Sb rfl rfl (fun aE=>?_)<|fun aE=>?_
 ·refine Nl (RZ<|Ud<|RT<|RZ<|W.block<|Rg<|Ub<|Sd (j:=i) (u:=(a.getD i 0)) d sl38 io96 rfl rfl rfl (Ji (by omega)) ?_);intro bY ba P G;obtain⟨rfl,a4⟩:P=_∧_:=G.rd;refine Ol<|Sa pl96 rfl (G.cell 0 _ rfl)<|Oa<|Ua<|Rg<|Ua<|Rh<|Om<|Ub<|St.len sl38 rfl<|Ol<|Sb rfl rfl (fun Q=>?_)<|fun Q=>?_
  ·refine Nl (Uk<|Om<|Ub<|Sd (j:=i) (u:=(b.getD i 0)) e sl38 io96 rfl rfl rfl (Ji (by omega)) ?_);intro bb be R H;obtain⟨rfl,a5⟩:R=_∧_:=H.rd;refine Ol (Sa pl96 rfl (H.cell 0 _ rfl)<|Ua<|RK<|Om<|Om<|Om<|Om<|Ub<|RH l t4 rfl rfl (xh l.bd (x:=(a.getD i 0)) (y:=(b.getD i 0)) (c:=c) (by omega) (by omega) hc) ?_);intro bf bg aF m aG;have h:=h.spn m;obtain⟨bh,bi,rfl,rfl,rfl⟩:=aG;refine Om (Ol<|St.extract rfl rfl<|Ol<|St.extract rfl rfl<|Ol<|Sh (j:=i) sl38 io96 rfl rfl rfl (by omega)<|On<|Se (j:=i) (u:=(((a.getD i 0)+(b.getD i 0)+c)%4294967296)) aF h io96 rfl rfl (by rw[Uv,UE,hp];omega) ?_);intro bj aH I J;have d:=(d.sp m).sp I;have e:=(e.sp m).sp I;rw[K5 hp (by omega)] at J;refine Ua<|RK<|Ol<|St.add rfl rfl (Jc (a:=i) (b:=1) (by omega))<|Om<|Nl<|⟨_,(by omega),_,_,(i+1),(p++[(((a.getD i 0)+(b.getD i 0)+c)%4294967296)]),(((a.getD i 0)+(b.getD i 0)+c)/4294967296),aH,rfl,rfl,rfl,rfl,rfl,rfl,rfl,rfl,d,e,J,(by omega),(by rw[Uv,hp];rfl),(Jz hs (by omega)),(by omega),(jq hp hv rfl rfl),rfl⟩
  refine Nl (Uc<|RK<|Om<|Om<|Om<|Om<|Ub<|RH l t4 rfl rfl (xh l.bd (x:=(a.getD i 0)) (y:=0) (c:=c) (by omega) (by omega) hc) ?_);intro bk bl aI o aJ;have h:=h.spn o;obtain⟨bm,bn,rfl,rfl,rfl⟩:=aJ;refine Om (Ol<|St.extract rfl rfl<|Ol<|St.extract rfl rfl<|Ol<|Sh (j:=i) sl38 io96 rfl rfl rfl (by omega)<|On<|Se (j:=i) (u:=(((a.getD i 0)+0+c)%4294967296)) aI h io96 rfl rfl (by rw[Uv,UE,hp];omega) ?_);intro bo aK K L;have d:=(d.sp o).sp K;have e:=(e.sp o).sp K;rw[K5 hp (by omega)] at L;refine Ua<|RK<|Ol<|St.add rfl rfl (Jc (a:=i) (b:=1) (by omega))<|Om<|Nl<|⟨_,(by omega),_,_,(i+1),(p++[(((a.getD i 0)+0+c)%4294967296)]),(((a.getD i 0)+0+c)/4294967296),aK,rfl,rfl,rfl,rfl,rfl,rfl,rfl,rfl,d,e,L,(by omega),(by rw[Uv,hp];rfl),(Jz hs (by omega)),(by omega),(jq hp hv rfl<|Y0 (by omega)),rfl⟩
 refine Nl (RZ<|Ue<|Sf<|Rg<|Om<|Ub<|St.len sl38 rfl<|Ub<|Sh (j:=a.length) sl38 io96 rfl rfl rfl (by omega)<|On<|Se (j:=a.length) (u:=c) l h io96 rfl rfl (by rw[Uv,UE,hp];omega) ?_);intro bp M bq N;rw[kK hp (by omega)] at N;exact Nl<|Rg<|Om<|Ua<|RY<|Wq rfl rfl M<|TP (N.rowRS M hX (by rw[Uv,hp];show _=_+1;omega) (by omega) (Jz hs (by omega)) id)<|((ol (A:=a) (B:=b) hs (by omega) rfl (by omega) hc (by rw[show a.length=i by omega];exact hv)).trans (by rw[Nat.max_eq_left (by omega)]))
theorem uY{X:Nat→Prop}{w:World}(hX:XB X w){U:Value}{a:List Nat}(d:RS Jd X w U a){V:Value}{b:List Nat}(e:RS Jd X w V b)(hla:a.length≤1099511627776)(hlb:b.length≤a.length)(hle:val b≤val a):CRt 100 #[U,V] w fun v w'=>RS Jd X w' v (Jx a.length (val a-val b)):=by
 obtain⟨K,L,rfl,_,_⟩:=d.len;obtain⟨M,N,rfl,_,_⟩:=e.len;have C:=Cx.start hX;have sa:=d.u32_small;have sb:=e.u32_small;refine Cgo Tryz.func100 rfl rfl rfl (Rg<|Ua<|Rg<|Ub<|St.len sl38 rfl<|Ol<|So (n:=a.length) C sl38 rfl rfl rfl (by omega) io96 (by decide) ?_);intro Y w6 x7 y8 ak Z m aa;have d:=d.sp m;have e:=e.sp m;refine Oa (Nl<|Rg<|Ua<|Rh<|Ub<|St.len sl38 rfl<|Om<|Nl<|W.block<|Sc (fun μ f v=>∃(x y:Nat→Prop) (i:Nat) (p:List Nat) (c:Nat),Cx X w x y v∧f 1=(.slice M b.length N)∧f 4=(.slice none 0 0)∧f 5=(.slice (some ⟨Y,0,none⟩) a.length a.length)∧f 13=(.slice K a.length L)∧f 14=(.int .i64 ((a.length:Nat):Int))∧f 15=(.int .i64 ((i:Nat):Int))∧f 6=(.int .u32 ((c:Nat):Int))∧RS Jd x v (.slice K a.length L) a∧RS Jd x v (.slice M b.length N) b∧Own w y v Y ((p++List.replicate (a.length-i) 0).map u32v) 96∧i≤a.length∧p.length=i∧Jp p∧c≤1∧val p+val (b.take i)=val (a.take i)+4294967296^i*c∧μ=(a.length-i)) _ ⟨_,_,0,[],0,Z,rfl,rfl,rfl,rfl,rfl,rfl,rfl,d,e,aa,(UN _),rfl,J9,(by omega),(by simp[val]),rfl⟩ ?_);rintro al am an ⟨ao,aq,i,p,c,h,o,r,s,z,A,B,D,d,e,g,hi,hp,hs,hc,hv,ah⟩;obtain⟨ar,rfl⟩:=rebK (aC o<|aC r<|aC s<|aC z<|aC A<|aC B<|aC D aN);clear o r s z A B D;refine Rg<|Ol<|Sb rfl rfl (fun P=>?_)<|fun P=>?_
 ·refine Nl (RZ<|Ud<|RT<|RZ<|W.block<|Rg<|Ub<|Sd (j:=i) (u:=(a.getD i 0)) d sl38 io96 rfl rfl rfl (Ji (by omega)) ?_);intro au av Q E;obtain⟨rfl,ai⟩:Q=_∧_:=E.rd;refine Ol<|Sa pl96 rfl (E.cell 0 _ rfl)<|Oa<|Ua<|Rg<|Ua<|Rh<|Om<|Ub<|St.len sl38 rfl<|Ol<|Sb rfl rfl (fun R=>?_)<|fun R=>?_
  ·refine Nl (Uk<|Om<|Ub<|Sd (j:=i) (u:=(b.getD i 0)) e sl38 io96 rfl rfl rfl (Ji (by omega)) ?_);intro aw ax T F;obtain⟨rfl,aj⟩:T=_∧_:=F.rd;refine Ol (Sa pl96 rfl (F.cell 0 _ rfl)<|Ua<|RK<|Om<|Om<|Om<|Om<|Ub<|RH h yG rfl rfl (iM h.bd (x:=(a.getD i 0)) (y:=(b.getD i 0)) (b:=c) (by omega) (by omega) hc) ?_);intro ay az ab k ac;have g:=g.spn k;obtain⟨aA,aB,rfl,rfl,rfl⟩:=ac;refine Om (Ol<|St.extract rfl rfl<|Ol<|St.extract rfl rfl<|Ol<|Sh (j:=i) sl38 io96 rfl rfl rfl (by omega)<|On<|Se (j:=i) (u:=(((a.getD i 0)+8589934592-(b.getD i 0)-c)%4294967296)) ab g io96 rfl rfl (by rw[Uv,UE,hp];omega) ?_);intro aD ad G H;have d:=(d.sp k).sp G;have e:=(e.sp k).sp G;rw[K5 hp (by omega)] at H;refine Ua<|RK<|Ol<|St.add rfl rfl (Jc (a:=i) (b:=1) (by omega))<|Om<|Nl<|⟨_,(by omega),_,_,(i+1),(p++[(((a.getD i 0)+8589934592-(b.getD i 0)-c)%4294967296)]),(if(a.getD i 0)<(b.getD i 0)+c then 1 else 0),ad,rfl,rfl,rfl,rfl,rfl,rfl,rfl,d,e,H,(by omega),(by rw[Uv,hp];rfl),(Jz hs (by omega)),(by split<;>omega),(lM hp hc (Jf sa _) (Jf sb _) hv rfl rfl),rfl⟩
  refine Nl (Uc<|RK<|Om<|Om<|Om<|Om<|Ub<|RH h yG rfl rfl (iM h.bd (x:=(a.getD i 0)) (y:=0) (b:=c) (by omega) (by omega) hc) ?_);intro aE aF ae l af;have g:=g.spn l;obtain⟨aG,aH,rfl,rfl,rfl⟩:=af;refine Om (Ol<|St.extract rfl rfl<|Ol<|St.extract rfl rfl<|Ol<|Sh (j:=i) sl38 io96 rfl rfl rfl (by omega)<|On<|Se (j:=i) (u:=(((a.getD i 0)+8589934592-0-c)%4294967296)) ae g io96 rfl rfl (by rw[Uv,UE,hp];omega) ?_);intro aI ag I J;have d:=(d.sp l).sp I;have e:=(e.sp l).sp I;rw[K5 hp (by omega)] at J;refine Ua<|RK<|Ol<|St.add rfl rfl (Jc (a:=i) (b:=1) (by omega))<|Om<|Nl<|⟨_,(by omega),_,_,(i+1),(p++[(((a.getD i 0)+8589934592-0-c)%4294967296)]),(if(a.getD i 0)<0+c then 1 else 0),ag,rfl,rfl,rfl,rfl,rfl,rfl,rfl,d,e,J,(by omega),(by rw[Uv,hp];rfl),(Jz hs (by omega)),(by split<;>omega),(lM hp hc (Jf sa _) (by omega) hv rfl<|Y0 (by omega)),rfl⟩
 exact Nl<|RZ<|Ue<|Sf<|Rg<|Om<|Ua<|RY<|Wq rfl rfl h<|TP (g.rowRS h hX (by rw[Uv,UE,hp];omega) (by omega) (Yc hs<|Ka _) id)<|(by rw[show a.length-i=0 by omega,XV,U8];exact pP hs hp (by omega) hlb hle hv)
end Go.Wf
namespace Go.Wf
open Go
theorem uQ{x y:Nat}(hx:x<4294967296)(hy:y<4294967296):x*y≤18446744065119617025:=
 UC (ZH (show x≤4294967295 by omega) (show y≤4294967295 by omega)) (by omega)
theorem Qr{l:List Nat}(h:Jp l){d:Nat}(hd:d<4294967296)(k:Nat):Jp (l.set k d):=by
 intro u hu;rcases List.mem_or_eq_of_mem_set hu with hu|rfl
 ·exact h u hu
 ·exact hd
theorem q9{l:List Nat}{k m d:Nat}(h:m≠k):(l.set k d).getD m 0=l.getD m 0:=by
 have h':¬k=m:=fun e=>h e.symm;simp[UJ,List.getElem?_set,h']
theorem hH:∀ {l:List Nat} {k d:Nat},k<l.length→val (l.set k d)+4294967296^k*l.getD k 0=val l+4294967296^k*d
 |[],_,_,h=>by simp at h
 |e::l,0,d,_=>by simp[val];omega
 |e::l,k+1,d,h=>by
  have:=hH (l:=l) (k:=k) (d:=d) (by simpa using h)
  have a:(e::l).getD (k+1) 0=l.getD k 0:=by simp[UJ]
  rw[List.set_cons_succ,val,val,a,UV];generalize hq:4294967296^k=q at this ⊢;rw[U6 q 4294967296,U3,U3];omega
theorem vo{L:List Nat}{i j c x y V W:Nat}(hk:i+j<L.length)(hv:val L+4294967296^(i+j)*c=V+4294967296^i*(x*W)){W':Nat}(hW:W'=W+4294967296^j*y):
  val (L.set (i+j) ((x*y+L.getD (i+j) 0+c)%4294967296))+4294967296^(i+(j+1))*((x*y+L.getD (i+j) 0+c)/4294967296)=V+4294967296^i*(x*W'):=by
 have b:=hH (d:=(x*y+L.getD (i+j) 0+c)%4294967296) hk;have a:=mulB (q:=4294967296^(i+j)) (s:=x*y+L.getD (i+j) 0+c);rw[show i+(j+1)=(i+j)+1 by omega,UV,hW];rw[UX,UX] at a;have e:4294967296^i*(x*(W+4294967296^j*y))=4294967296^i*(x*W)+4294967296^(i+j)*(x*y):=by
  rw[UX,UX,ZQ]
  congr 1
  rw[U3,ZJ x]
 omega
theorem lf{L':List Nat}{i n c x V W:Nat}(hk:i+n<L'.length)(hz:L'.getD (i+n) 0=0)(hv:val L'+4294967296^(i+n)*c=V*W+4294967296^i*(x*W)):
  val (L'.set (i+n) c)=(V+4294967296^i*x)*W:=by
 have a:=hH (d:=c) hk;rw[hz,ZN] at a;rw[YE,U3];omega
def Xh(a b:List Nat):List Nat:=if a=[]∨b=[] then [] else if a.length=1∧b.length=1 then digs (val a*val b) else Jx (a.length+b.length) (val a*val b)
theorem gQ{a b:List Nat}(sa:Jp a)(sb:Jp b):val a*val b<4294967296^(a.length+b.length):=by
 rw[ZQ];exact Nat.mul_lt_mul'' (Zo a sa) (Zo b sb)
theorem mR{a b:List Nat}(sa:Jp a)(sb:Jp b):trim (Xh a b)=digs (val a*val b):=by
 unfold Xh;split
 ·rename_i h;rcases h with rfl|rfl<;>simp[val,rO,trim]
 ·split
  ·exact Z9 _
  ·exact K6 (gQ sa sb)
theorem iJ{a b:List Nat}(sa:Jp a)(sb:Jp b):(Xh a b).length≤a.length+b.length:=by
 unfold Xh;split
 ·simp
 ·split
  ·exact Jt (gQ sa sb)
  ·rw[Jg];exact UM _
theorem nJ{a:List Nat}(h:a.length=1):a.getD 0 0=val a:=by
 match a,h with
 |[d],_=>simp[val]
theorem Vc{a:List Nat}{j:Nat}(d:0<j)(hj:j≤a.length):val (a.drop (j-1))=a.getD (j-1) 0+4294967296*val (a.drop j):=by
 obtain⟨i,rfl⟩:∃i,j=i+1:=⟨j-1,by omega⟩;rw[YF];have b:a.drop i=a.getD i 0::a.drop (i+1):=by
  rw[UJ,UL (by omega)];simp
 conv=>lhs;rw[b]
 rfl
theorem p7{a q:List Nat}{j r d:Nat}(b:0<j)(hj:j≤a.length)(hv:val q*d+r=val (a.drop j)):
  val (((r*4294967296+a.getD (j-1) 0)/d)::q)*d+(r*4294967296+a.getD (j-1) 0)%d=val (a.drop (j-1)):=by
 rw[Vc b hj,←hv,val,YE]
 have:=YM (r*4294967296+a.getD (j-1) 0) d
 rw[U6 d] at this;have e:4294967296*val q*d=4294967296*(val q*d):=U3 _ _ _;omega
theorem od{q:List Nat}{j d:Nat}(a:0<j):(List.replicate j 0++q).set (j-1) d=List.replicate (j-1) 0++d::q:=by
 obtain⟨i,rfl⟩:∃i,j=i+1:=⟨j-1,by omega⟩;rw[YF,List.replicate_succ',UF,XW,if_neg (by simp),UE,ZV];rfl
theorem t0{a q:List Nat}{r d:Nat}(hs:Jp q)(hl:q.length=a.length)(hr:r<d)(hv:val q*d+r=val (a.drop 0)):q=Jx a.length (val a/d)∧r=val a%d:=by
 rw[WN] at hv;have b:val a/d=val q:=by
  rw[←hv,U6,Nat.mul_add_div (by omega),YO hr,YH]
 have e:val a%d=r:=by
  rw[←hv,U6,Nat.mul_add_mod,ZG hr]
 exact⟨Yl hs hl b.symm,e.symm⟩
theorem V5{s:Nat}(h:s<32):2^s≤2147483648:=by
 have:2^s≤2^31:=U1 (by omega) (by omega)
 omega
theorem th{x s:Nat}(hx:x<4294967296)(hs:s<32):s≤64∧x*2^s<18446744073709551616:=
 ⟨by omega,U7 (ZH (show x≤4294967295 by omega) (V5 hs)) (by omega)⟩
theorem tG{x s:Nat}(hx:x<4294967296):x*2^s/4294967296<2^s:=
 YR (by rw[U6 x,U6 4294967296];exact Nat.mul_lt_mul_of_pos_left hx (Jaa s))
theorem EV{x s:Nat}(hs:s<32):x*2^s%4294967296=2^s*(x%2^(32-s)):=by
 have e:4294967296=2^s*2^(32-s):=by rw[←ZQ,show s+(32-s)=32 by omega]
 rw[e,U6 x,Nat.mul_mod_mul_left]
theorem sc{h x s:Nat}(hs:s<32)(hh:h<2^s):h ||| (x*2^s%4294967296)=h+x*2^s%4294967296:=by
 rw[EV hs,Nat.or_comm,←ZZ hh,Nat.add_comm]
theorem lT{h x s:Nat}(hs:s<32)(hh:h<2^s):h+x*2^s%4294967296<4294967296:=by
 rw[←sc hs hh]
 have:=V5 hs
 exact ZP (n:=32) (by omega) (UI _ (by omega))
theorem yd{a p:List Nat}{i h s:Nat}(hp:p.length=i)(hv:val p+4294967296^i*h=val (a.take i)*2^s):
  val (p++[h+a.getD i 0*2^s%4294967296])+4294967296^(i+1)*(a.getD i 0*2^s/4294967296)=val (a.take (i+1))*2^s:=by
 rw[Z3,hp,UV,Jn,YE,←hv]
 have:=mulB (q:=4294967296^i) (s:=a.getD i 0*2^s)
 rw[UX,U3 (4294967296^i) (a.getD i 0)];omega
theorem Dg{p r:List Nat}{i h d:Nat}(hp:p.length=i):(p++h::r).set i d=p++d::r:=by
 rw[XW,if_neg (by omega),hp,ZV,XX]
theorem rW{p:List Nat}{i n h d:Nat}(hp:p.length=i)(hi:i<n):(p++h::List.replicate (n-i) 0).set (i+1) d=(p++[h])++d::List.replicate (n-(i+1)) 0:=by
 obtain⟨k,hk⟩:∃k,n-i=k+1:=⟨n-i-1,by omega⟩;rw[hk,show n-(i+1)=k by omega,XU,XW,if_neg (by omega),hp,YG,List.set_cons_succ,XX,UF];rfl
theorem rM{p r:List Nat}{i h:Nat}(hp:p.length=i):(p++h::r)[i]? =some h:=by
 rw[WU (by omega),hp,ZV];rfl
theorem xk{a p:List Nat}{i h s:Nat}(hsm:Jp p)(hs:s<32)(hh:h<2^s)(hp:p.length=i)(hi:i=a.length)(hv:val p+4294967296^i*h=val (a.take i)*2^s):
  p++h::List.replicate (a.length-i) 0=Jx (a.length+1) (val a*2^s):=by
 subst hi;rw[ZV,XV]
 have:=V5 hs
 refine Yl (Jz hsm (by omega)) (by rw[Uv,hp];rfl) ?_;rw[Z3,hp,hv,YC]
theorem vg:∀(n v:Nat),Jx (n+1) v=Jx n v++[v/4294967296^n%4294967296]
 |0,v=>by simp[Jx]
 |n+1,v=>by
  rw[Jx,vg n,Jx,WE,UV,YN,U6 4294967296]
theorem Vz:∀ {a:List Nat},Jp a→∀i,val a/4294967296^i=val (a.drop i)
 |[],_,i=>by simp[val]
 |d::r,_,0=>by simp
 |d::r,h,i+1=>by
  have hd:d<4294967296:=h d (by simp)
  have:=Vz (a:=r) (fun u hu=>h u (by simp[hu])) i
  rw[List.drop_succ_cons,←this,val,UV,U6 (4294967296^i),←YN]
  congr 1
  omega
theorem rf{x y r s:Nat}(hs:s<32):((x+4294967296*(y+4294967296*r))/2^s)%4294967296=((x+y*4294967296)/2^s)%4294967296:=by
 have e:4294967296=2^s*2^(32-s):=by rw[←ZQ,show s+(32-s)=32 by omega]
 have a:x+4294967296*(y+4294967296*r)=(x+y*4294967296)+2^s*(2^(32-s)*r*4294967296):=by
  have:2^s*(2^(32-s)*r*4294967296)=4294967296*(4294967296*r):=by
   rw[U3 (2^(32-s)),←U3 (2^s),←e,U6 r]
  rw[this];omega
 rw[a,Nat.add_mul_div_left _ _ (Jaa s),U6 (2^(32-s)*r),Nat.add_mul_mod_self_left]
theorem mc{a:List Nat}{i s:Nat}(sa:Jp a)(hs:s<32)(hi:i<a.length){y:Nat}(hy:y=a.getD (i+1) 0):
  Jx i (val a/2^s)++[(a.getD i 0+y*4294967296)/2^s%4294967296]=Jx (i+1) (val a/2^s):=by
 rw[vg,YN,U6 (2^s),←YN,Vz sa];have b:=Vc (a:=a) (j:=i+1) (by omega) (by omega);rw[YF] at b;rw[b,hy]
 congr 2
 rcases U2 (i+1) a.length with h|h
 ·have d:=Vc (a:=a) (j:=i+2) (by omega) (by omega);rw[show i+2-1=i+1 by omega] at d;rw[d,rf hs]
 ·have:a.drop (i+1)=[]:=UY h
  rw[this,←Y0 h];simp[val]
theorem oW{L:List Nat}{i n j d:Nat}(hj:j<n)(h:∀k,L.getD (i+n+k) 0=0∨L.length≤i+n+k):∀k,(L.set (i+j) d).getD (i+n+k) 0=0∨(L.set (i+j) d).length≤i+n+k:=by
 intro k;rw[q9 (by omega),W7];exact h k
theorem sw{L:List Nat}{i n d:Nat}(h:∀k,L.getD (i+n+k) 0=0∨L.length≤i+n+k):∀k,(L.set (i+n) d).getD (i+1+n+k) 0=0∨(L.set (i+n) d).length≤i+1+n+k:=by
 intro k;rw[q9 (by omega),W7,show i+1+n+k=i+n+(k+1) by omega];exact h (k+1)
theorem n7{L:List Nat}{i n:Nat}(h:∀k,L.getD (i+n+k) 0=0∨L.length≤i+n+k)(hl:i+n<L.length):L.getD (i+n) 0=0:=by
 rcases h 0 with h|h
 ·exact h
 ·omega
theorem vH{a b L:List Nat}(d:0<a.length)(e:0<b.length)(f:¬(a.length=1∧b.length=1))(hL:L.length=a.length+b.length)(hs:Jp L)(hv:val L=val a*val b):L=Xh a b:=by
 unfold Xh;rw[if_neg (by rintro(h|h)<;>simp[h] at d e),if_neg f];exact Yl hs hL hv
theorem mo{a b:List Nat}(h:a.length=0∨b.length=0):[]=Xh a b:=by
 unfold Xh;rw[if_pos (h.imp W3.1 W3.1)]
theorem s4{a b:List Nat}(ha:a.length=1)(hb:b.length=1):digs (a.getD 0 0*b.getD 0 0)=Xh a b:=by
 unfold Xh;rw[if_neg (by rintro(h|h)<;>simp[h] at ha hb),if_pos ⟨ha,hb⟩,nJ ha,nJ hb]
theorem kU{a q:List Nat}{j r d:Nat}(hj:j=0)(hs:Jp q)(hl:j+q.length=a.length)(hr:r<d)(hv:val q*d+r=val (a.drop j)):List.replicate j 0++q=Jx a.length (val a/d)∧r=val a%d:=by
 subst hj;rw[XV,UZ];exact t0 hs (by omega) hr hv
theorem rx{a:List Nat}{i s:Nat}(sa:Jp a)(hs:s<32)(hi:i<a.length)(hy:a.length≤i+1):
  Jx i (val a/2^s)++[a.getD i 0/2^s%4294967296]=Jx (i+1) (val a/2^s):=by
 have:=mc sa hs hi (Y0 hy)
 rw[Jac,YH] at this;exact this
theorem M0{x y:Nat}(hx:x<4294967296):x ||| y*4294967296=x+y*4294967296:=by
 have:=ZZ (i:=32) hx y
 rw[Nat.or_comm,U6];have e:(2:Nat)^32=4294967296:=rfl;rw[e] at this;omega
end Go.Wf
namespace Go.Wf
open Go Go.Proofs Go.RowKit
theorem FT{X:Nat→Prop}{w:World}(hX:XB X w){v0:Value}{a:List Nat}(e:RS Jd X w v0 a){v1:Value}{b:List Nat}(g:RS Jd X w v1 b)(hla:a.length≤549755813888)(hlb:b.length≤549755813888):CRt 160 #[v0,v1] w fun v w'=>RS Jd X w' v (Xh a b):=by
 obtain⟨A,B,rfl,_,_⟩:=e.len;obtain⟨r,s,rfl,_,_⟩:=g.len;have C:=Cx.start hX;have sa:=e.u32_small;have sb:=g.u32_small;have bX:=uQ (Jf sa 0) (Jf sb 0);have bY:=Jf sa 0;have bZ:=Jf sb 0;refine Cgo Tryz.func160 rfl rfl rfl<|Rg<|Ua<|Rh<|Ub<|St.len sl38 rfl<|Ol<|Sj rfl rfl (fun aV=>?_)<|fun aV=>?_
 ·exact Om<|Oz<|Oz<|Oz<|OT<|Nl<|Uf<|Ua<|RY<|Wq rfl rfl C<|TP ((RS.nil:RS _ _ _ _ _).tr (Tr.weak C.base))<|(mo (by omega))
 refine Om<|OgD<|RP<|OgD<|St.len sl38 rfl<|OgD<|Sj rfl rfl (fun aW=>?_)<|fun aW=>?_
 ·exact OF<|Nl<|Uf<|Ua<|RY<|Wq rfl rfl C<|TP ((RS.nil:RS _ _ _ _ _).tr (Tr.weak C.base))<|(mo (by omega))
 refine OF<|Nl<|Uc<|RZ<|SX (fun f v=>∃(x y:Nat→Prop),Cx X w x y v∧f 0=(.slice A a.length B)∧f 1=(.slice r b.length s)∧RS Jd x v (.slice A a.length B) a∧RS Jd x v (.slice r b.length s) b∧0<a.length∧0<b.length∧¬(a.length=1∧b.length=1)) ?_ ?_
 ·refine Rg<|Ub<|St.len sl38 rfl<|Ol<|Sj rfl rfl (fun aX=>?_)<|fun aX=>?_
  ·refine Om<|OgD<|RP<|OgD<|St.len sl38 rfl<|OgD<|Sj rfl rfl (fun aY=>?_)<|fun aY=>?_
   ·refine OT<|Nl<|Ud<|RZ<|Sg mixed 8 [[],[0],[1],[2],[],[4],[5],[6]] C [fx<|.slice A a.length B,fE Jd<|a.getD 0 0,fx<|.int .u32 (((a.getD 0 0):Nat):Int),fx<|.int .u64 (((a.getD 0 0):Nat):Int),fx<|.slice r b.length s,fE Jd<|b.getD 0 0,fx<|.int .u32 (((b.getD 0 0):Nat):Int),fx<|.int .u64 (((b.getD 0 0):Nat):Int)] (by kernel_rfl) ⟨sx,sE,sx,sx,sx,sE,sx,sx,trivial⟩ fun aZ p b0 ⟨m,av⟩ h=>?_
    have e:=e.sp av;have g:=g.sp av;have h:Keep [28,29,30,31,32,33,34,35] _ aZ:=h;refine⟨⟨fun _=>?_,fun⟨a0,_⟩=>?_,fun⟨a2,_⟩=>?_,fun⟨a4,_⟩=>?_,fun _=>?_,fun⟨a5,_⟩=>?_,fun⟨a6,_⟩=>?_,fun⟨a7,_⟩=>?_,trivial⟩,fun⟨a8,a9,ba,bb,be,bf,bg,bh,_⟩=>?_⟩
    ·exact Sd0 h fun _=>RP ⟨p,RJ m,rfl⟩
    ·refine Sd1 h a0 fun _=>Sd (j:=0) (u:=(a.getD 0 0)) e sl38 io96 rfl rfl rfl (Ji (by omega)) ?_;intro b1 b2 aI aw;obtain⟨rfl,bv⟩:aI=_∧_:=aw.rd;exact⟨p,RJ m,⟨_,_,_,rfl,aw⟩⟩
    ·obtain⟨b3,b4,aJ,bi,ax⟩:=a2;obtain⟨rfl,bw⟩:aJ=_∧_:=ax.rd;exact Sd1 h bi fun _=>Sa pl96 rfl (ax.cell 0 _ rfl) ⟨p,RJ m,rfl⟩
    ·exact Sd1 h a4 fun _=>R2 (z:=(((a.getD 0 0):Nat):Int)) us96 un97 rfl (UO _ (by omega)) ⟨p,RJ m,rfl⟩
    ·exact Sd0 h fun _=>RP ⟨p,RJ m,rfl⟩
    ·refine Sd1 h a5 fun _=>Sd (j:=0) (u:=(b.getD 0 0)) g sl38 io96 rfl rfl rfl (Ji (by omega)) ?_;intro b5 b6 aK ay;obtain⟨rfl,bx⟩:aK=_∧_:=ay.rd;exact⟨p,RJ m,⟨_,_,_,rfl,ay⟩⟩
    ·obtain⟨b7,b8,aL,bj,az⟩:=a6;obtain⟨rfl,bz⟩:aL=_∧_:=az.rd;exact Sd1 h bj fun _=>Sa pl96 rfl (az.cell 0 _ rfl) ⟨p,RJ m,rfl⟩
    ·exact Sd1 h a7 fun _=>R2 (z:=(((b.getD 0 0):Nat):Int)) us96 un97 rfl (UO _ (by omega)) ⟨p,RJ m,rfl⟩
    obtain⟨b9,ca,aM,bk,bl⟩:=a9;obtain⟨rfl,bA⟩:aM=_∧_:=bl.rd;obtain⟨cb,cc,aO,bm,bn⟩:=bf;obtain⟨rfl,bB⟩:aO=_∧_:=bn.rd;obtain⟨cd,rfl⟩:=mixK h (aC a8<|aC bk<|aC ba<|aC bb<|aC be<|aC bm<|aC bg<|aC bh aN);refine Ol (SO rfl rfl (Xc (a:=(a.getD 0 0)) (b:=(b.getD 0 0)) (by omega))<|Ol<|RH m cb85 rfl rfl (kq m.bd (n:=(a.getD 0 0)*(b.getD 0 0)) (by omega)) ?_);intro ce cf aA cg aB;obtain⟨ch,ci,rfl,_,_⟩:=aB.len;exact Ua<|RY<|Wq rfl rfl aA<|TP ((aB:RS _ _ _ _ _).tr (Tr.weak aA.base))<|(s4 (by omega) (by omega))
   refine OT<|Nl<|Uc<|⟨_,_,C,rfl,rfl,e,g,(by omega),(by omega),(by omega)⟩
  refine Om<|Oz<|Oz<|Oz<|OF<|Nl<|Uc<|⟨_,_,C,rfl,rfl,e,g,(by omega),(by omega),(by omega)⟩
 rintro cj ck ⟨cl,cm,bo,aD,aE,e,g,h0,h1,h2⟩;obtain⟨cn,rfl⟩:=rebK (aC aD<|aC aE aN);clear aD aE;refine Rg (Ub<|St.len sl38 rfl<|Ub<|St.len sl38 rfl<|Ol<|St.add rfl rfl (Jc (a:=a.length) (b:=b.length) (by omega))<|Ol<|So (n:=(a.length+b.length)) bo sl38 rfl rfl rfl (by omega) io96 (by decide) ?_);intro G co cp cq bF bp aF bq;have e:=e.sp aF;have g:=g.sp aF;refine Oa (Nl<|Rh<|Ub<|St.len sl38 rfl<|Om<|Nl<|W.block<|Sc (fun μ f v=>∃(x y:Nat→Prop) (i:Nat) (L:List Nat),Cx X w x y v∧f 1=(.slice r b.length s)∧f 5=(.slice (some ⟨G,0,none⟩) (a.length+b.length) (a.length+b.length))∧f 44=(.slice A a.length B)∧f 45=(.int .i64 ((a.length:Nat):Int))∧f 46=(.int .i64 ((i:Nat):Int))∧RS Jd x v (.slice A a.length B) a∧RS Jd x v (.slice r b.length s) b∧Own w y v G (L.map u32v) 96∧i≤a.length∧L.length=a.length+b.length∧Jp L∧(∀k,L.getD (i+b.length+k) 0=0∨L.length≤i+b.length+k)∧val L=val (a.take i)*val b∧μ=(a.length-i)) _ ⟨_,_,0,(List.replicate (a.length+b.length) 0),bp,rfl,rfl,rfl,rfl,rfl,e,g,bq,(UN _),(UE ..),(Ka _),(fun k=> .inl (by simp[UJ,W0];split<;>rfl)),(by rw[ii];simp[val]),rfl⟩ ?_);rintro bG bH bJ ⟨bK,bL,i,L,D,H,I,J,K,M,e,g,N,hi,hL,hs,hz,hv,br⟩;obtain⟨bM,rfl⟩:=rebK (aC H<|aC I<|aC J<|aC K<|aC M aN);clear H I J K M;refine Rg<|Ol<|Sb rfl rfl (fun ao=>?_)<|fun ao=>?_
 ·refine Nl (RZ<|Ud<|RT<|RZ<|W.block<|Rg<|Ub<|Sd (j:=i) (u:=(a.getD i 0)) e sl38 io96 rfl rfl rfl (Ji (by omega)) ?_);intro P Q aq o;obtain⟨rfl,bt⟩:aq=_∧_:=o.rd;refine Ol (Sa pl96 rfl (o.cell 0 _ rfl)<|Oa<|Ua<|Rg<|Ua<|Rh<|Ub<|St.len sl38 rfl<|Om<|Nl<|W.block<|Sc (fun μ f v=>∃(x y:Nat→Prop) (j:Nat) (l:List Nat) (c:Nat),Cx X w x y v∧f 1=(.slice r b.length s)∧f 5=(.slice (some ⟨G,0,none⟩) (a.length+b.length) (a.length+b.length))∧f 6=(.int .i64 ((i:Nat):Int))∧f 7=(.int .u32 (((a.getD i 0):Nat):Int))∧f 44=(.slice A a.length B)∧f 45=(.int .i64 ((a.length:Nat):Int))∧f 46=(.int .i64 ((i:Nat):Int))∧f 47=(.bool true)∧f 48=(.int .i64 ((i:Nat):Int))∧f 49=(.pointer (some ⟨P,Q,none⟩))∧f 50=(.int .u32 (((a.getD i 0):Nat):Int))∧f 51=(.slice r b.length s)∧f 52=(.int .i64 ((b.length:Nat):Int))∧f 53=(.int .i64 ((j:Nat):Int))∧f 8=(.int .u64 ((c:Nat):Int))∧RS Jd x v (.slice A a.length B) a∧RS Jd x v (.slice r b.length s) b∧ElAt Jd x v P Q [(.int .u32 (((a.getD i 0):Nat):Int))] (a.getD i 0)∧Own w y v G (l.map u32v) 96∧j≤b.length∧l.length=a.length+b.length∧Jp l∧c<4294967296∧(∀k,l.getD (i+b.length+k) 0=0∨l.length≤i+b.length+k)∧val l+4294967296^(i+j)*c=val (a.take i)*val b+4294967296^i*(a.getD i 0*val (b.take j))∧μ=(b.length-j)) _ ⟨_,_,0,L,0,D,rfl,rfl,rfl,rfl,rfl,rfl,rfl,rfl,rfl,rfl,rfl,rfl,rfl,rfl,rfl,e,g,o,N,(UN _),hL,hs,(by omega),hz,(by rw[hv];simp[val]),rfl⟩ ?_);rintro bN bO bP ⟨bQ,bR,j,l,c,R,T,U,V,Y,Z,aa,ab,ac,ad,ae,af,ag,ah,ai,aj,e,g,o,E,hj,aG,ak,hc,al,aH,bs⟩;obtain⟨bS,rfl⟩:=rebK (aC T<|aC U<|aC V<|aC Y<|aC Z<|aC aa<|aC ab<|aC ac<|aC ad<|aC ae<|aC af<|aC ag<|aC ah<|aC ai<|aC aj aN);clear T U V Y Z aa ab ac ad ae af ag ah ai aj;have hxi:=Jf sa i;have hyj:=Jf sb j;have hm:=uQ hxi hyj;have cr:=Jf ak (i+j);refine Rg<|Ol<|Sb rfl rfl (fun ar=>?_)<|fun ar=>?_
  ·refine Nl (RZ<|Ud<|RT<|RZ<|W.block<|Rg<|Ub<|Sd (j:=j) (u:=(b.getD j 0)) g sl38 io96 rfl rfl rfl (Ji (by omega)) ?_);intro bT bU au am;obtain⟨rfl,bu⟩:au=_∧_:=am.rd;refine Ol (Sa pl96 rfl (am.cell 0 _ rfl)<|Oa<|Ua<|Rg<|Ub<|R2 (z:=(((a.getD i 0):Nat):Int)) us96 un97 rfl (UO _ (by omega))<|Ub<|R2 (z:=(((b.getD j 0):Nat):Int)) us96 un97 rfl (UO _ (by omega))<|Ol<|SO rfl rfl (Xc (a:=(a.getD i 0)) (b:=(b.getD j 0)) (by omega)) ?_);refine Om (Om<|Ub<|St.add rfl rfl (Jc (a:=i) (b:=j) (by omega))<|Ol<|Sh (j:=i+j) sl38 io96 rfl rfl rfl (by omega)<|Ol<|SH (j:=i+j) (u:=(l.getD (i+j) 0)) E pl96 rfl (Ji (by omega))<|Ol<|R2 (z:=(((l.getD (i+j) 0):Nat):Int)) us96 un97 rfl (UO _ (by omega)) ?_);refine Ol (St.add rfl rfl (J6 (a:=(a.getD i 0)*(b.getD j 0)) (b:=(l.getD (i+j) 0)) (by omega))<|Ub<|St.add rfl rfl (J6 (a:=((a.getD i 0)*(b.getD j 0))+(l.getD (i+j) 0)) (b:=c) (by omega))<|Ua<|RK<|Om<|Om<|Ub<|St.add rfl rfl (Jc (a:=i) (b:=j) (by omega)) ?_);refine Om (Ol<|R2 (z:=((((((a.getD i 0)*(b.getD j 0))+(l.getD (i+j) 0))+c)%4294967296:Nat):Int)) us97 un96 rfl (Jm _)<|Ub<|SC rfl rfl (by decide) (Ym (d:=4294967296) _ (by decide))<|Ol<|Sh (j:=i+j) sl38 io96 rfl rfl rfl (by omega)<|On<|Se (j:=i+j) (u:=((((a.getD i 0)*(b.getD j 0))+(l.getD (i+j) 0))+c)%4294967296) R E io96 rfl rfl (by omega) ?_);intro bV aP F aQ;have e:=e.sp F;have g:=g.sp F;have o:=o.sp F;refine Ua<|RK<|Ol<|St.add rfl rfl (Jc (a:=j) (b:=1) (by omega))<|Om<|Nl<|⟨_,(by omega),_,_,(j+1),(l.set (i+j)<|((((a.getD i 0)*(b.getD j 0))+(l.getD (i+j) 0))+c)%4294967296),((((a.getD i 0)*(b.getD j 0))+(l.getD (i+j) 0))+c)/4294967296,aP,rfl,rfl,rfl,rfl,rfl,rfl,rfl,rfl,rfl,rfl,rfl,rfl,rfl,rfl,rfl,e,g,o,aQ,(by omega),(by rw[W7];exact aG),(Qr ak (UI _ (by omega)) _),(by omega),(oW (by omega) al),(vo (by omega) aH<|Jn b j),rfl⟩
  refine Nl (RZ<|Ue<|Sf<|RK<|Om<|Om<|Ub<|St.len sl38 rfl<|Ol<|St.add rfl rfl (Jc (a:=i) (b:=b.length) (by omega))<|Ub<|R2 (z:=((c:Nat):Int)) us97 un96 rfl (IntWalk.u32_in _ (by omega))<|Ol<|Sh (j:=i+b.length) sl38 io96 rfl rfl rfl (by omega) ?_);refine On (Se (j:=i+b.length) (u:=c) R E io96 rfl rfl (by omega) ?_);intro bW aR an aS;have e:=e.sp an;have g:=g.sp an;refine Nl<|RK<|Ol<|St.add rfl rfl (Jc (a:=i) (b:=1) (by omega))<|Om<|Nl<|⟨_,(by omega),_,_,(i+1),(l.set (i+b.length) c),aR,rfl,rfl,rfl,rfl,rfl,e,g,aS,(by omega),(by rw[W7];exact aG),(Qr ak (by omega) _),(sw al),(by rw[Jn];exact lf (by omega) (n7 al (by omega)) (by rw[show i+b.length=i+j by omega,aH,UU (show b.length≤j by omega)])),rfl⟩
 exact Nl<|RZ<|Ue<|Sf<|Rg<|Om<|Ua<|RY<|Wq rfl rfl D<|TP (N.rowRS D hX (by omega) (by omega) hs id)<|(vH h0 h1 h2 hL hs (by rw[hv,UU (show a.length≤i by omega)]))
theorem Fb{X:Nat→Prop}{w:World}(hX:XB X w){h:Value}{a:List Nat}(b:RS Jd X w h a){d:Nat}(hla:a.length≤1099511627776)(hd:0<d)(J:d<4294967296):CRt 147 #[h,(.int .u32 ((d:Nat):Int))] w fun v w'=>(∃h K,v= .tuple #[h,K]∧(RS Jd X w' h (Jx a.length (val a/d)))∧(K=(.int .u32 (((val a%d):Nat):Int)))):=by
 obtain⟨F,G,rfl,_,_⟩:=b.len;have C:=Cx.start hX;have sa:=b.u32_small;refine Cgo Tryz.func147 rfl rfl rfl (Rg<|Oa<|Ua<|Rg<|Ub<|St.len sl38 rfl<|Ol<|So (n:=a.length) C sl38 rfl rfl rfl (by omega) io96 (by decide) ?_);intro L w4 x5 y6 Y T U i;have b:=b.sp U;refine Oa (Nl<|Rg<|Ua<|Rh<|Ub<|St.len sl38 rfl<|Ol<|St.sub (z:=(((a.length:Nat):Int)-1)) rfl rfl (UP _ (by omega))<|Ua<|W.block ?_);rw[←U8 (List.replicate a.length 0)] at i;refine Sc (fun μ f v=>∃(x y:Nat→Prop) (j:Nat) (q:List Nat) (r:Nat),Cx X w x y v∧f 0=(.slice F a.length G)∧f 1=(.int .u32 ((d:Nat):Int))∧f 4=(.slice none 0 0)∧f 5=(.int .u32 0)∧f 6=(.slice (some ⟨L,0,none⟩) a.length a.length)∧f 8=(.int .i64 ((j:Int)-1))∧f 7=(.int .u32 ((r:Nat):Int))∧RS Jd x v (.slice F a.length G) a∧Own w y v L ((List.replicate j 0++q).map u32v) 96∧j≤a.length∧j+q.length=a.length∧Jp q∧r<d∧val q*d+r=val (a.drop j)∧μ=j) _ ⟨_,_,a.length,[],0,T,rfl,rfl,rfl,rfl,rfl,rfl,rfl,b,i,(UM _),rfl,J9,hd,(by rw[UY<|UM _];simp[val]),rfl⟩ ?_;rintro Z aa ab ⟨ac,ad,j,q,r,e,k,l,m,o,p,s,A,b,g,hj,hl,hq,hr,hv,R⟩;obtain⟨ae,rfl⟩:=rebK (aC k<|aC l<|aC m<|aC o<|aC p<|aC s<|aC A aN);clear k l m o p s A;have hQ:(r*4294967296+a.getD (j-1) 0)/d<4294967296:=YR (by have:=ZI 4294967296 (show r+1≤d by omega);have:=Jf sa (j-1);omega);refine Rh<|Ub<|SB rfl rfl (fun H=>?_)<|fun H=>?_
 ·refine Nl (Ud<|RT<|RZ<|W.block<|RK<|Om<|Om<|Om<|Om<|Ub<|Sd (j:=(j-1)) (u:=(a.getD (j-1) 0)) b sl38 io96 rfl rfl (by omega) (Ji (by omega)) ?_);intro af ag I B;obtain⟨rfl,V⟩:I=_∧_:=B.rd;refine Ol (Sa pl96 rfl (B.cell 0 _ rfl)<|Ub<|RH e Rj rfl rfl (D2 e.bd (hi:=r) (lo:=(a.getD (j-1) 0)) (y:=d) hr (Jf sa _) J) ?_);intro ah ai M D N;have g:=g.spn D;obtain⟨aj,ak,rfl,rfl,rfl⟩:=N;refine Om (Ol<|St.extract rfl rfl<|Ol<|St.extract rfl rfl<|Ol<|Sh (j:=(j-1)) sl38 io96 rfl rfl (by omega) (by omega)<|On<|Se (j:=(j-1)) (u:=((r*4294967296+(a.getD (j-1) 0))/d)) M g io96 rfl rfl (by rw[Uv,UE];omega) ?_);intro al P Q E;have b:=(b.sp D).sp Q;rw[od (by omega)] at E;refine Ua<|RK<|Ub<|St.sub (z:=(((j:Int)-1)-1)) rfl rfl (UP _ (by omega))<|Ua<|⟨_,(by omega),_,_,(j-1),(((r*4294967296+(a.getD (j-1) 0))/d)::q),((r*4294967296+(a.getD (j-1) 0))%d),P,rfl,rfl,rfl,rfl,rfl,(congrArg (Value.int .i64) (by omega)),rfl,b,E,(by omega),(by rw[Uw];omega),(Zs (by omega) hq),(UI _ hd),(p7 (by omega) hj hv),rfl⟩
 refine Nl (Ue<|Sf<|Rg<|Om<|Om<|Oa<|Ua<|RY<|Z4 rfl (resV.t rfl) (resV.t rfl)<|RM ?_ e.below);refine⟨_,_,rfl,?_,?_⟩
 ·exact TP (g.rowRS e hX (by rw[Uv,UE];omega) (by omega) (Yc (Ka _) hq) id)<|(kU (by omega) hq hl hr hv).1
 ·exact congrArg (Value.int _)<|(congrArg _ (kU (by omega) hq hl hr hv).2)
theorem sV{X:Nat→Prop}{w:World}(hX:XB X w){K:Value}{a:List Nat}(e:RS Jd X w K a){s:Nat}(hla:a.length<1099511627776)(hs:s<32):CRt 149 #[K,(.int .u64 ((s:Nat):Int))] w fun v w'=>RS Jd X w' v (Jx (a.length+1) (val a*2^s)):=by
 obtain⟨G,H,rfl,_,_⟩:=e.len;have C:=Cx.start hX;have sa:=e.u32_small;have hps:=V5 hs;refine Cgo Tryz.func149 rfl rfl rfl (Rg<|Ua<|Rg<|Ub<|St.len sl38 rfl<|Ol<|St.add rfl rfl (Jc (a:=a.length) (b:=1) (by omega))<|Ol<|So (n:=(a.length+1)) C sl38 rfl rfl rfl (by omega) io96 (by decide) ?_);intro L w4 x5 y6 Z U V M;have e:=e.sp V;refine Oa (Nl<|Rh<|Ub<|St.len sl38 rfl<|Om<|Nl<|W.block<|Sc (fun μ f v=>∃(x y:Nat→Prop) (i:Nat) (p:List Nat) (h:Nat),Cx X w x y v∧f 1=(.int .u64 ((s:Nat):Int))∧f 4=(.slice none 0 0)∧f 5=(.slice (some ⟨L,0,none⟩) (a.length+1) (a.length+1))∧f 13=(.slice G a.length H)∧f 14=(.int .i64 ((a.length:Nat):Int))∧f 15=(.int .i64 ((i:Nat):Int))∧RS Jd x v (.slice G a.length H) a∧Own w y v L ((p++h::List.replicate (a.length-i) 0).map u32v) 96∧i≤a.length∧p.length=i∧Jp p∧h<2^s∧val p+4294967296^i*h=val (a.take i)*2^s∧μ=(a.length-i)) _ ⟨_,_,0,[],0,U,rfl,rfl,rfl,rfl,rfl,rfl,e,M,(UN _),rfl,J9,(Jaa s),(by simp[val]),rfl⟩ ?_);rintro aa ab ac ⟨ad,ae,i,p,h,g,l,m,o,r,A,B,e,k,hi,hp,hq,hh,hv,T⟩;obtain⟨af,rfl⟩:=rebK (aC l<|aC m<|aC o<|aC r<|aC A<|aC B aN);clear l m o r A B;have hx:=Jf sa i;have hxd:=tG (s:=s) hx;refine Rg<|Ol<|Sb rfl rfl (fun I=>?_)<|fun I=>?_
 ·refine Nl (RZ<|Ud<|RT<|RZ<|W.block<|Rg<|Ub<|Sd (j:=i) (u:=(a.getD i 0)) e sl38 io96 rfl rfl rfl (Ji (by omega)) ?_);intro ag ah J D;obtain⟨rfl,Y⟩:J=_∧_:=D.rd;refine Ol (Sa pl96 rfl (D.cell 0 _ rfl)<|Oa<|Ua<|Rg<|Ub<|R2 (z:=(((a.getD i 0):Nat):Int)) us96 un97 rfl (UO _ (by omega))<|Ub<|SP rfl rfl (by omega) (Qy<|th hx hs)<|Ua<|Rg<|Om ?_);refine Om (Ol<|Sh (j:=i) sl38 io96 rfl rfl rfl (by omega)<|Ol<|SH (j:=i) (u:=h) k pl96 rfl (rM hp)<|Ub<|R2 (z:=((((a.getD i 0)*2^s)%4294967296:Nat):Int)) us97 un96 rfl (Jm _)<|Ol<|S8 (z:=((h+a.getD i 0*2^s%4294967296:Nat):Int)) rfl rfl ((zw (a:=h) (b:=a.getD i 0*2^s%4294967296) (by omega) (by omega)).trans (congrArg _<|sc hs hh)) ?_);refine Ol (Sh (j:=i) sl38 io96 rfl rfl rfl (by omega)<|On<|Se (j:=i) (u:=h+a.getD i 0*2^s%4294967296) g k io96 rfl rfl (by simp only[Uv,Uw,UE,Ux];omega) ?_);intro ai N P E;rw[Dg hp] at E;refine Nl (RK<|Om<|Ub<|St.add rfl rfl (Jc (a:=i) (b:=1) (by omega))<|Ub<|SC rfl rfl (by decide) (Ym (d:=4294967296) _ (by decide))<|Ol<|R2 (z:=((a.getD i 0*2^s/4294967296:Nat):Int)) us97 un96 rfl (IntWalk.u32_in _ (by omega))<|Ol<|Sh (j:=i+1) sl38 io96 rfl rfl rfl (by omega) ?_);refine On (Se (j:=i+1) (u:=a.getD i 0*2^s/4294967296) N E io96 rfl rfl (by simp only[Uv,Uw,UE,Ux];omega) ?_);intro aj Q R F;have e:=(e.sp P).sp R;rw[rW hp (by omega)] at F;refine Nl<|RK<|Ol<|St.add rfl rfl (Jc (a:=i) (b:=1) (by omega))<|Om<|Nl<|⟨_,(by omega),_,_,(i+1),(p++[h+a.getD i 0*2^s%4294967296]),(a.getD i 0*2^s/4294967296),Q,rfl,rfl,rfl,rfl,rfl,rfl,e,F,(by omega),(by rw[Uv,hp];rfl),(Jz hq<|lT hs hh),hxd,(yd hp hv),rfl⟩
 exact Nl<|RZ<|Ue<|Sf<|Rg<|Om<|Ua<|RY<|Wq rfl rfl g<|TP (k.rowRS g hX (by simp only[Uv,Uw,UE,Ux];omega) (by omega) (Yc hq<|Zs (by omega)<|Ka _) id)<|(xk hq hs hh hp (by omega) hv)
theorem mX{X:Nat→Prop}{w:World}(hX:XB X w){L:Value}{a:List Nat}(e:RS Jd X w L a){s:Nat}(hla:a.length≤1099511627776)(hs:s<32):CRt 151 #[L,(.int .u64 ((s:Nat):Int))] w fun v w'=>RS Jd X w' v (Jx a.length (val a/2^s)):=by
 obtain⟨F,G,rfl,_,_⟩:=e.len;have C:=Cx.start hX;have sa:=e.u32_small;refine Cgo Tryz.func151 rfl rfl rfl (Rg<|Ua<|Rg<|Ub<|St.len sl38 rfl<|Ol<|So (n:=a.length) C sl38 rfl rfl rfl (by omega) io96 (by decide) ?_);intro M w4 x5 y6 ab V Y N;have e:=e.sp Y;refine Oa (Nl<|Rh<|Ub<|St.len sl38 rfl<|Om<|Nl<|W.block<|Sc (fun μ f v=>∃(x y:Nat→Prop) (i:Nat),Cx X w x y v∧f 0=(.slice F a.length G)∧f 1=(.int .u64 ((s:Nat):Int))∧f 4=(.slice none 0 0)∧f 5=(.slice (some ⟨M,0,none⟩) a.length a.length)∧f 12=(.int .i64 ((a.length:Nat):Int))∧f 13=(.int .i64 ((i:Nat):Int))∧RS Jd x v (.slice F a.length G) a∧Own w y v M ((Jx i (val a/2^s)++List.replicate (a.length-i) 0).map u32v) 96∧i≤a.length∧μ=(a.length-i)) _ ⟨_,_,0,V,rfl,rfl,rfl,rfl,rfl,rfl,e,N,(UN _),rfl⟩ ?_);rintro ac ad ae ⟨af,ag,i,g,k,l,m,o,p,r,e,h,hi,U⟩;obtain⟨ah,rfl⟩:=rebK (aC k<|aC l<|aC m<|aC o<|aC p<|aC r aN);clear k l m o p r;have hx:=Jf sa i;have ai:=Jf sa (i+1);have hlN:=Jg i (val a/2^s);refine Rg<|Ol<|Sb rfl rfl (fun H=>?_)<|fun H=>?_
 ·refine Nl (RZ<|Ud<|RT<|RZ<|W.block<|Rg<|Om<|Ua<|Rg<|Om<|Ub<|Sd (j:=i) (u:=(a.getD i 0)) e sl38 io96 rfl rfl rfl (Ji (by omega)) ?_);intro aj ak I A;obtain⟨rfl,Z⟩:I=_∧_:=A.rd;refine Ol<|Sa pl96 rfl (A.cell 0 _ rfl)<|Ol<|R2 (z:=(((a.getD i 0):Nat):Int)) us96 un97 rfl (UO _ (by omega))<|Ua<|Rh<|Ub<|St.add rfl rfl (Jc (a:=i) (b:=1) (by omega))<|Ub<|St.len sl38 rfl<|Ol<|Sb rfl rfl (fun J=>?_)<|fun J=>?_
  ·refine Nl (Uk<|Om<|Om<|Ub<|St.add rfl rfl (Jc (a:=i) (b:=1) (by omega))<|Ol<|Sd (j:=i+1) (u:=(a.getD (i+1) 0)) e sl38 io96 rfl rfl rfl (Ji (by omega)) ?_);intro al am K B;obtain⟨rfl,aa⟩:K=_∧_:=B.rd;refine Ol (Sa pl96 rfl (B.cell 0 _ rfl)<|Ol<|R2 (z:=(((a.getD (i+1) 0):Nat):Int)) us96 un97 rfl (UO _ (by omega))<|Ol<|SP rfl rfl (by decide) (ja (a:=(a.getD (i+1) 0)) (d:=4294967296) (by decide) (by omega))<|Ol<|S8 (z:=((a.getD i 0+a.getD (i+1) 0*4294967296:Nat):Int)) rfl rfl ((qV (a:=a.getD i 0) (b:=a.getD (i+1) 0*4294967296) (by omega) (by omega)).trans (congrArg _<|M0 hx)) ?_);refine Oa (Nl<|RK<|Om<|Om<|Om<|Ub<|SC rfl rfl (by omega) (yf (by omega))<|Ol<|R2 (z:=((((a.getD i 0+a.getD (i+1) 0*4294967296)/2^s)%4294967296:Nat):Int)) us97 un96 rfl (Jm _)<|Ol<|Sh (j:=i) sl38 io96 rfl rfl rfl (by omega) ?_);refine On (Se (j:=i) (u:=((a.getD i 0+a.getD (i+1) 0*4294967296)/2^s)%4294967296) g h io96 rfl rfl (by rw[Uv,UE,hlN];omega) ?_);intro an P Q D;have e:=e.sp Q;rw[K5 hlN (by omega),mc sa hs (by omega) rfl] at D;refine Nl<|RK<|Ol<|St.add rfl rfl (Jc (a:=i) (b:=1) (by omega))<|Om<|Nl<|⟨_,(by omega),_,_,(i+1),P,rfl,rfl,rfl,rfl,rfl,rfl,e,D,(by omega),rfl⟩
  refine Nl (Uc<|RK<|Om<|Om<|Om<|Ub<|SC rfl rfl (by omega) (yf (by omega))<|Ol<|R2 (z:=((((a.getD i 0)/2^s)%4294967296:Nat):Int)) us97 un96 rfl (Jm _)<|Ol<|Sh (j:=i) sl38 io96 rfl rfl rfl (by omega)<|On<|Se (j:=i) (u:=((a.getD i 0)/2^s)%4294967296) g h io96 rfl rfl (by rw[Uv,UE,hlN];omega) ?_);intro ao R T E;have e:=e.sp T;rw[K5 hlN (by omega),rx sa hs (by omega) (by omega)] at E;refine Nl<|RK<|Ol<|St.add rfl rfl (Jc (a:=i) (b:=1) (by omega))<|Om<|Nl<|⟨_,(by omega),_,_,(i+1),R,rfl,rfl,rfl,rfl,rfl,rfl,e,E,(by omega),rfl⟩
 exact Nl<|RZ<|Ue<|Sf<|Rg<|Om<|Ua<|RY<|Wq rfl rfl g<|TP (h.rowRS g hX (by rw[Uv,UE,Jg];omega) (by omega) (Yc (J1 _ _)<|Ka _) id)<|(by rw[show a.length-i=0 by omega,XV,U8,show i=a.length by omega])
end Go.Wf
namespace Go.Wf
open Go
theorem Pe{P Ul Vl u2 b top a:Nat}(hUl:Ul<P)(i:u2<4294967296):
  (Ul+P*(u2+4294967296*top))/(Vl+P*(b+4294967296*a))≤top/a∨a=0:=by
 rcases YV a with h|h
 ·exact .inr h
 refine .inl ((YY h).2 ?_);generalize hq:(Ul+P*(u2+4294967296*top))/(Vl+P*(b+4294967296*a))=q;have d:q*(Vl+P*(b+4294967296*a))≤Ul+P*(u2+4294967296*top):=by rw[←hq];exact Nat.div_mul_le_self _ _
 have e:P*(4294967296*(q*a))≤q*(Vl+P*(b+4294967296*a)):=by
  rw[show P*(4294967296*(q*a))=q*(P*(4294967296*a)) by rw[ZJ q P,ZJ q 4294967296]];refine U4 _ (UC (U4 P (show 4294967296*a≤b+4294967296*a by omega)) (YX _ _))
 have f:Ul+P*(u2+4294967296*top)<P*(u2+4294967296*top+1):=by rw[UX P _ 1];omega
 have g:P*(4294967296*(q*a))<P*(u2+4294967296*top+1):=U7 (UC e d) f
 have:=ZD g
 omega
theorem JH{P Ul Vl u2 a top b g r:Nat}(hUl:Ul<P)(hv:g*b+r=top)(h:r*4294967296+u2<g*a):
  (Ul+P*(u2+4294967296*top))/(Vl+P*(a+4294967296*b))<g:=by
 have hg:0<g:=by
  rcases YV g with e|e
  ·rw[e] at h;omega
  ·exact e
 refine YR ?_;have d:(Vl+P*(a+4294967296*b))*g=g*Vl+P*(g*a+4294967296*(g*b)):=by
  rw[U6 _ g,UX,ZJ g P,UX g,ZJ g 4294967296]
 rw[d];generalize g*a=X at *;generalize g*b=Y at *;have f:u2+4294967296*top+1≤X+4294967296*Y:=by omega
 have i:=U4 P f;rw[UX P _ 1] at i;omega
theorem Is{P Ul Vl u2 a top b g:Nat}(hU:Ul+P*(u2+4294967296*top)<(Vl+P*(a+4294967296*b))*4294967296)(h:4294967296≤g):
  (Ul+P*(u2+4294967296*top))/(Vl+P*(a+4294967296*b))<g:=
 YR (UB hU (U4 _ h))
theorem iP{q g:Nat}(h:q<g):q≤g-1:=by omega
theorem NC{P Ul Vl u2 b top a g r:Nat}(hP:0<P)(hVl:Vl<P)(f:0<a)(hg:g<4294967296)(hv:g*a+r=top)(h:g*b≤r*4294967296+u2):
  g≤(Ul+P*(u2+4294967296*top))/(Vl+P*(b+4294967296*a))+1:=by
 have hV:0<Vl+P*(b+4294967296*a):=UB (ZM hP (show 0<b+4294967296*a by omega)) (YX _ _);have hk:g-1≤(Ul+P*(u2+4294967296*top))/(Vl+P*(b+4294967296*a)):=by
  rw[YY hV];rcases YV g with e|e
  ·rw[e];omega
  have d:g*(Vl+P*(b+4294967296*a))=g*Vl+P*(g*b+4294967296*(g*a)):=by
   rw[UX,ZJ g P,UX g,ZJ g 4294967296]
  have i:P*(g*b+4294967296*(g*a))≤P*(u2+4294967296*top):=U4 P (by omega);have j:g*Vl≤4294967296*P:=ZH (by omega) (by omega);have k:4294967296*P≤P*(b+4294967296*a):=by rw[U6];exact U4 P (by omega)
  rw[Nat.sub_mul,d,Nat.one_mul];omega
 omega
theorem wk{P Ul Vl u2 b top a g r:Nat}(hVl:Vl<P)(f:b<4294967296)(i:0<a)(htop:top<(a+1)*4294967296)(hv:g*a+r=top)(h:4294967296≤r):
  g≤(Ul+P*(u2+4294967296*top))/(Vl+P*(b+4294967296*a))∧g<4294967296:=by
 have hP:0<P:=by omega
 have hg:g<4294967296:=by
  have d:g*a<4294967296*a:=by rw[YE] at htop;omega
  exact Nat.lt_of_mul_lt_mul_right d
 refine⟨?_,hg⟩;have hV:0<Vl+P*(b+4294967296*a):=UB (ZM hP (show 0<b+4294967296*a by omega)) (YX _ _);rw[YY hV];have e:g*(Vl+P*(b+4294967296*a))=g*(Vl+P*b)+P*(4294967296*(g*a)):=by
  rw[UX P,←YD,UX g,ZJ g P (4294967296*a),ZJ g 4294967296]
 have d:Vl+P*b≤P*4294967296:=by
  have:=U4 P (show b+1≤4294967296 by omega)
  rw[UX] at this;omega
 have j:g*(Vl+P*b)≤P*(4294967296*g):=by
  have:=U4 g d
  rw[show P*(4294967296*g)=g*(P*4294967296) by rw[ZJ g P,U6 4294967296]];exact this
 have k:P*(4294967296*g)+P*(4294967296*(g*a))≤P*(u2+4294967296*top):=by
  rw[←UX];exact U4 P (by omega)
 rw[e];omega
theorem Et {P Ul Vl u2 b un d a:Nat} (hVl:Vl<P) (g:b<4294967296) (h:d<4294967296)
  (hU:Ul+P*(u2+4294967296*(un*4294967296+d))<(Vl+P*(b+4294967296*a))*4294967296):un*4294967296+d<(a+1)*4294967296:=by
 have e:Vl+P*(b+4294967296*a)<P*(4294967296*(a+1)):=by
  have:=U4 P (show b+4294967296*a+1≤4294967296*(a+1) by omega)
  rw[UX P _ 1] at this;omega
 have f:P*(4294967296*(4294967296*un))<P*(4294967296*(4294967296*(a+1))):=by
  have i:P*(4294967296*(4294967296*un))≤Ul+P*(u2+4294967296*(un*4294967296+d)):=UC (U4 P (by omega)) (YX _ _);have j:(Vl+P*(b+4294967296*a))*4294967296≤P*(4294967296*(4294967296*(a+1))):=by
   have:=ZI 4294967296 (ZA e)
   refine UC this (Nat.le_of_eq ?_);rw[U3,U6 (4294967296*(a+1))]
  omega
 have k:=ZD f
 have:un<a+1:=by omega
 have:=ZI 4294967296 (show un+1≤a+1 by omega)
 omega
theorem BG{l:List Nat}{m:Nat}(h:l.length=m+2):val l=val (l.take m)+4294967296^m*(l.getD m 0+4294967296*l.getD (m+1) 0):=by
 have a:val l=val (l.take (m+2)):=by rw[UU (by omega)]
 rw[a,Jn,Jn,UV,UX,U3];omega
theorem Bj{l:List Nat}{m:Nat}(h:l.length=m+3):val l=val (l.take m)+4294967296^m*(l.getD m 0+4294967296*(l.getD (m+2) 0*4294967296+l.getD (m+1) 0)):=by
 have a:val l=val (l.take (m+3)):=by rw[UU (by omega)]
 rw[a,Jn,Jn,Jn,UV,UV,UV];generalize 4294967296^m=p;rw[UX,U3 p,U3 p,U3 (p),UX 4294967296,UX p];have b:p*(4294967296*(l.getD (m+2) 0*4294967296))=p*(4294967296*4294967296*l.getD (m+2) 0):=by
  rw[U6 (l.getD (m+2) 0),←U3 4294967296]
 have d:4294967296*4294967296*l.getD (m+2) 0=18446744073709551616*l.getD (m+2) 0:=by omega
 omega
theorem HA {U p:List Nat} {i g x c bo V:Nat} (hp:p.length=i) (hg:g<4294967296) (hx:x<4294967296) (hc:c<4294967296) (hb:bo≤1) (hu:U.getD i 0<4294967296)
  (hv:val p+g*V=val (U.take i)+4294967296^i*(c+bo)) {V':Nat} (hV:V'=V+4294967296^i*x):
  val (p++[(U.getD i 0+8589934592-(g*x+c)%4294967296-bo)%4294967296])+g*V'=val (U.take (i+1))+4294967296^(i+1)*((g*x+c)/4294967296+(if U.getD i 0<(g*x+c)%4294967296+bo then 1 else 0)):=by
 rw[Z3,hp,Jn,hV,UX,ZJ g,UV];generalize hq:4294967296^i=q at *;generalize hX:g*x=X at *;generalize U.getD i 0=u at *;have e:(u+8589934592-(X+c)%4294967296-bo)%4294967296+X+c+bo=u+4294967296*((X+c)/4294967296+(if u<(X+c)%4294967296+bo then 1 else 0)):=by
  split<;>omega
 have a:=congrArg (q * ·) e;simp only[UX] at a;rw[U3 q 4294967296,UX 4294967296,UX q];rw[UX] at hv;omega
theorem My{g x c:Nat}(hg:g<4294967296)(hx:x<4294967296)(hc:c<4294967296):g*x+c≤18446744073709551615∧(g*x+c)/4294967296<4294967296:=by
 have:=uQ hg hx
 omega
theorem DI {U p:List Nat} {n g c bo V:Nat} (hp:p.length=n) (hc:c<4294967296) (hb:bo≤1) (hu:U.getD n 0<4294967296) (hU:U.length=n+1)
  (hv:val p+g*V=val (U.take n)+4294967296^n*(c+bo)):
  val (p++[(U.getD n 0+8589934592-c-bo)%4294967296])+g*V=val U+4294967296^(n+1)*(if U.getD n 0<c+bo then 1 else 0):=by
 have a:val U=val (U.take (n+1)):=by rw[UU (by omega)]
 rw[a,Z3,hp,Jn,UV];generalize 4294967296^n=q at *;generalize U.getD n 0=u at *;have e:(u+8589934592-c-bo)%4294967296+c+bo=u+4294967296*(if u<c+bo then 1 else 0):=by split<;>omega
 have b:=congrArg (q * ·) e;simp only[UX] at b;rw[U3 q 4294967296];rw[UX] at hv;omega
theorem MH{U V R g:Nat}(hV:0<V)(a:U/V≤g)(h:R+g*V=U):g=U/V∧R=U%V:=by
 have hle:g≤U/V:=(YY hV).2 (by omega);have hg:g=U/V:=by omega
 refine⟨hg,?_⟩
 have:=YM U V
 rw[U6,←hg] at this;omega
theorem F0{U V R M g:Nat}(hV:0<V)(a:g≤U/V+1)(hR:R<M)(h:R+g*V=U+M):g-1=U/V∧0<g∧R+V=U%V+M:=by
 have hlt:U<g*V:=by omega
 have hg:U/V<g:=YR (by rw[U6];exact hlt)
 have:=YM U V
 rw[U6] at this;generalize U/V=q at *;generalize U%V=t at *;have e:g=q+1:=by omega
 refine⟨by omega,by omega,?_⟩;rw[e,YE,Nat.one_mul] at h;omega
theorem qI{R p:List Nat}{i x c V:Nat}(hp:p.length=i)(hv:val p+4294967296^i*c=val (R.take i)+V){V':Nat}(hV:V'=V+4294967296^i*x):
  val (p++[(R.getD i 0+x+c)%4294967296])+4294967296^(i+1)*((R.getD i 0+x+c)/4294967296)=val (R.take (i+1))+V':=by
 rw[Z3,hp,Jn,hV,UV]
 have:=mulB (q:=4294967296^i) (s:=R.getD i 0+x+c)
 rw[UX,UX] at this;omega
theorem qM{R p:List Nat}{n c V T:Nat}(hp:p.length=n)(hsp:Jp p)(hc:c≤1)(hR:R.length=n+1)(hT:T<4294967296^(n+1))(hv:val p+4294967296^n*c=val (R.take n)+V)(ht:val R+V=T+4294967296^(n+1)):
  p++[(R.getD n 0+c)%4294967296]=Jx (n+1) T:=by
 refine Yl (Jz hsp (UI _ (by omega))) (by rw[Uv,hp];rfl) ?_;have d:val R=val (R.take (n+1)):=by rw[UU (by omega)]
 rw[d,Jn] at ht;rw[Z3,hp];have f:=Zo p hsp;rw[hp] at f;have b:=mulB (q:=4294967296^n) (s:=R.getD n 0+c);rw[UX (4294967296^n) (R.getD n 0)] at b;rw[UV] at hT ht;generalize 4294967296^n=q at *;have hm:q*((R.getD n 0+c)%4294967296)≤q*4294967295:=U4 q (by omega);have hk:(R.getD n 0+c)/4294967296=1:=by
  have:q*4294967296*((R.getD n 0+c)/4294967296)<q*4294967296*2:=by omega
  have a:=ZD this;rcases YV ((R.getD n 0+c)/4294967296) with e|e
  ·rw[e] at b;omega
  ·omega
 rw[hk] at b;omega
def blen(x:Nat):Nat:=if x=0 then 0 else x.log2+1
theorem Qk(x:Nat):x<2^blen x:=by
 unfold blen;split
 ·subst_vars;decide
 ·exact Nat.lt_log2_self
theorem i7{x k:Nat}(h:x<2^k):blen x≤k:=by
 unfold blen;split
 ·omega
 ·rename_i a
  exact(Nat.log2_lt a).2 h
theorem ju{x:Nat}(h:0<x):0<blen x:=by
 unfold blen;rw[if_neg (by omega)];omega
theorem kz{x:Nat}(h:0<x):2^(blen x-1)≤x:=by
 unfold blen;rw[if_neg (by omega),YF];exact Nat.log2_self_le (by omega)
theorem ki{x k:Nat}(e:0<x)(d:x<2^k)(f:2^k≤2*x):blen x=k:=by
 have a:=i7 d;rcases U2 (blen x) k with h|h
 ·have b:=Qk x;have c:2^(blen x+1)≤2^k:=U1 (by omega) h;rw[UV] at c;omega
 ·omega
theorem Vd{x k:Nat}(h:2^k≤x):blen x=blen (x/2^k)+k:=by
 have hp:=Jaa k;have a:0<x/2^k:=Nat.div_pos h hp;refine ki (by omega) ?_ ?_
 ·rw[ZQ];exact(YQ hp).1 (Qk _)
 ·have b:=kz a;have d:=ju a;have e:blen (x/2^k)+k=(blen (x/2^k)-1+k)+1:=by omega
  rw[e,UV,U6];refine U4 2 ?_;rw[ZQ]
  exact(YY hp).1 b
end Go.Wf
namespace Go.Wf
open Go Go.RowKit
section
variable {P:Program} {ρ:Operand→Value} {dst:Option Tmp} {ty:TypeId} {pos:String} {after:Array Edge} {gd:Option (Nat×Bool)}
 {w:World} {K:Value→World→Prop} {Kp:List PanicEntry→World→Prop} {X0 x y:Nat→Prop} {w0:Bs}
theorem Sw {a i:Operand} {t e:TypeId} {z:Value} {by_ g n c o:Nat} {k:IntKind} {m:Int} {j:Nat} (ht:P.underlying t=some (.slice e)) (hi:Zf P e=some (z,1,by_))
  (hx:ρ a= .slice (some ⟨g,o,none⟩) n c) (hy:ρ i= .int k m) (hm:m=j) (hj:j<n) (h:K (.pointer (some ⟨g,o+j,none⟩)) w):St P ρ ⟨dst,.indexAddr t a i,ty,pos,after,gd⟩ w K Kp:=by
 obtain⟨inf,hi',_,hs,_⟩:=Jk hi;refine SI ht hi' hs hx hy hm hj ?_;rw[ZL];exact h
theorem SD{a:Operand}{t g j o u:Nat}{A U Z:List Nat}{E:TypeId}(hA:A.length=o)(ow:Own w0 y w g ((A++U++Z).map u32v) E)(ht:Yo P t=true)(hx:ρ a= .pointer (some ⟨g,o+j,none⟩))(hu:U[j]? =some u)(h:K (.int .u32 u) w):
  St P ρ ⟨dst,.load t a,ty,pos,after,gd⟩ w K Kp:=by
 refine SH ow ht hx ?_ h;have hj:=(WY.1 hu).1;rw[UF,WU (by omega),hA,YG,WT hj,hu]
theorem SN {a v:Operand} {t g j o u:Nat} {z:Value} {by_:Nat} {A U Z:List Nat} {E:TypeId} (hA:A.length=o) (C:Cx X0 w0 x y w) (ow:Own w0 y w g ((A++U++Z).map u32v) E) (hi:Zf P t=some (z,1,by_)) (hx:ρ a= .pointer (some ⟨g,o+j,none⟩)) (hv:ρ v= .int .u32 u) (hj:j<U.length)
  (h:∀w',Cx X0 w0 x y w'→Sp x y w x y w' (· =g)→Own w0 y w' g ((A++U.set j u++Z).map u32v) E→K undef w'):St P ρ ⟨dst,.store t a v,ty,pos,after,gd⟩ w K Kp:=by
 refine Se C ow hi hx hv (by simp only[Uv];omega) ?_;have e:(A++U++Z).set (o+j) u=A++U.set j u++Z:=by
  rw[UF,XW,if_neg (by omega),hA,YG,XW,if_pos hj,UF]
 rw[e];exact h
theorem Td {a lo r:Operand} {t e:TypeId} {z:Value} {by_ g n c:Nat} {k k':IntKind} {m m':Int} {i j:Nat}
  (ht:P.underlying t=some (.slice e)) (hi:Zf P e=some (z,1,by_)) (hx:ρ a= .slice (some ⟨g,0,none⟩) n c) (hy:ρ lo= .int k m) (hm:m=i) (hy':ρ r= .int k' m') (hm':m'=j) (hij:i≤j) (hj:j≤c) (hic:i<c)
  (h:K (.slice (some ⟨g,i,none⟩) (j-i) (c-i)) w):St P ρ ⟨dst,.slice t a (some lo) (some r) none,ty,pos,after,gd⟩ w K Kp:=by
 subst hm;subst hm';obtain⟨inf,hi',_,hs,_⟩:=Jk hi;refine R7 (v:= .slice (some ⟨g,i,none⟩) (j-i) (c-i)) ?_ h;have b:¬c=i:=by omega
 have d:c-i≠0:=by omega
 simp[execOp,hx,hy,hy',Instr.sliceAt,Instr.slice,run_underlying ht,Instr.sliceBounds,Instr.sliceBound,asIntOf,hij,hj,sizeOf,typeInfo,hi',hs,b,d,Addr.add]
 try exact fun e=>e.symm
theorem TE {k:FuncId} {args:Array Operand} {ts:Array TypeId} {vs:List Value} {g:Nat} {cs cs':List Value} {T:TypeId} {φ:Value→World→Prop} (C:Cx X0 w0 x y w) (o:Own w0 y w g cs T) (hk:Ja P k=true)
  (ha:args.toList.map ρ=vs) (he:ρ (.func k)= .func (.func k) #[] #[]) (hc:Calls P k vs.toArray w (RetM w g fun v w'=>φ v w'∧Blk w' g cs' T))
  (h:∀v w',Cx X0 w0 x y w'→Sp x y w x y w' (· =g)→Own w0 y w' g cs' T→φ v w'→K v w'):
  St P ρ ⟨dst,.call {callee:= .value (.func k),args:=args,argTypes:=ts},ty,pos,after,gd⟩ w K Kp:=
 TD (Ψ:=fun v w' c=>c=cs'∧φ v w') C o hk ha he hc (fun _ _ h=>⟨_,h.2,rfl,h.1⟩) (fun v w' c hC hS hO hp=>by obtain⟨rfl,hp⟩:=hp;exact h v w' hC hS hO hp)
def Mn(w:World)(cs:List Value)(n:Nat)(T:TypeId)(v:Value)(w':World):Prop:=∃g,v= .slice (some ⟨g,0,none⟩) n n∧w.heap.size≤g∧Blk w' g cs T
theorem Cx.adopt{w':World}{g:Nat}{cs:List Value}{T:TypeId}(C:Cx X0 w0 x y w)(h:Below w.heap.size w w')(hg:w.heap.size≤g)(hb:Blk w' g cs T):
  Cx X0 w0 (fun b=>x b∨b=g) (fun b=>y b∨b=g) w'∧Sp x y w (fun b=>x b∨b=g) (fun b=>y b∨b=g) w' Zt∧Own w0 (fun b=>y b∨b=g) w' g cs T:=by
 have hle:=C.below.size;refine⟨⟨C.below.trans (h.mono hle),fun b hb=> .inl (C.base b hb),?_,?_⟩,⟨⟨?_,fun b hb _=>h.block b hb,h.size⟩,⟨?_,fun b hb _=>h.block b hb,h.size⟩,fun _ h=> .inl h,fun b hb _=>h.block b hb⟩,⟨.inr rfl,.inl (by omega),hb⟩⟩
 ·rintro b (hx|rfl)
  ·exact UB (C.bd b hx) h.size
  ·exact hb.lt
 ·rintro b (hy|rfl)
  ·exact .inl (C.yx b hy)
  ·exact .inr rfl
 ·rintro b hlt (hx|rfl)
  ·exact hx
  ·omega
 ·rintro b hlt (hx|rfl)
  ·exact hx
  ·omega
theorem TG {k:FuncId} {args:Array Operand} {ts:Array TypeId} {vs:List Value} {cs:List Value} {n:Nat} {T:TypeId} (C:Cx X0 w0 x y w) (hk:Ja P k=true)
  (ha:args.toList.map ρ=vs) (he:ρ (.func k)= .func (.func k) #[] #[]) (hc:Calls P k vs.toArray w (Ret w fun v w'=>Mn w cs n T v w'))
  (h:∀g w' x' y',(∀b,b<w.heap.size→b≠g)→Cx X0 w0 x' y' w'→Sp x y w x' y' w' Zt→Own w0 y' w' g cs T→K (.slice (some ⟨g,0,none⟩) n n) w'):
  St P ρ ⟨dst,.call {callee:= .value (.func k),args:=args,argTypes:=ts},ty,pos,after,gd⟩ w K Kp:=by
 unfold Ja at hk;split at hk
 ·rename_i fn hf;simp only[VJ,VN] at hk;refine Tf hf hk.1 hk.2 ha (Calls.mono hc ?_) he;intro e w' hr;cases e with
  |returned v=>
   obtain⟨⟨g,rfl,hg,hb⟩,a⟩:=hr;obtain⟨c,s,o⟩:=C.adopt a hg hb;exact h g w' _ _ (fun b hb=>by omega) c s o
  |panicked ch=>exact hr.elim
  |outgrown=>exact hr.elim
 ·cases hk
end
def qF(x:Nat→Prop)(g:Nat):Nat→Prop:=fun b=>x b∧b≠g
section
variable {X0 x y:Nat→Prop} {w0:Bs} {w:World}
theorem Cx.freeze(C:Cx X0 w0 x y w)(hX:∀b,X0 b→b<w0.heap.size){g:Nat}{cs:List Value}{T:TypeId}(o:Own w0 y w g cs T)(hM:¬w0.M g):Cx X0 w0 (qF x g) (qF y g) w:=by
 refine⟨C.below,fun b hb=>⟨C.base b hb,?_⟩,fun b hb=>C.bd b hb.1,fun b hb=>⟨C.yx b hb.1,hb.2⟩⟩;rintro rfl
 have:=hX b hb
 rcases o.ge with h|h
 ·omega
 ·exact hM h
theorem Own.frz{g g':Nat}{cs:List Value}{T:TypeId}(o:Own w0 y w g' cs T)(hn:g'≠g):Own w0 (qF y g) w g' cs T:=⟨⟨o.mem,hn⟩,o.ge,o.blk⟩
theorem Tr.frz{g:Nat}:Tr x w (qF x g) w:=Tr.weak fun _ h=>h.1
theorem Own.frRS{g n c:Nat}{L:List Nat}{E:TypeId}(o:Own w0 y w g (L.map u32v) E)(hn:n≤L.length)(hc:n≤c)(hb:c≤1099511627776)(hL:∀u∈L,u<4294967296):
  RS Jd (qF x g) w (.slice (some ⟨g,0,none⟩) n c) (L.take n):=by
 have hl:(L.take n).length=n:=by rw[UH];omega
 refine⟨_,c,by rw[hl],by omega,by unfold maxLen;omega,.inr ⟨g,0,rfl,fun h=>h.2 rfl,?_⟩⟩;intro i u hi;have hi':L[i]? =some u:=by
  have hlt:=(WY.1 hi).1;rw[hl] at hlt;rw[W1,if_pos hlt] at hi;exact hi
 refine⟨[u32v u],⟨rfl,hL u (XO hi')⟩,?_⟩;intro j v hj;cases j with
 |zero=>
  simp at hj;subst hj
  have:=o.blk.cell (j:=i) (v:=u32v u) (by rw[VA,hi'];rfl)
  rw[show 0+i*Jd.sz+0=i by simp[Jd]];exact this
 |succ j=>simp at hj
end
end Go.Wf
