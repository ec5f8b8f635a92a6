/- Part 4 of the texts for the claim. -/
import Derived.Test.YtjiojpmoleilgaaGreatDoorNames3
set_option linter.unusedVariables false
set_option linter.unusedSimpArgs false
set_option maxRecDepth 100000
set_option maxHeartbeats 4000000
noncomputable section
namespace Go.Ev
open Go Go.Wf Go.RowKit
def hpR:Res→Hp→Hp
 | .ok _ h,_=>h
 | .pn _ h,_=>h
 | .no _,h=>h
def okR:Res→Prop
 | .no _=>False
 | _=>True
def RetE(Φ:Phi)(τ:Tau)(h:Hp)(w:World)(r:Res):Ending→World→Prop
 | .returned x,w'=>∃ v h',r= .ok v h'∧∃ Φ' τ',Rv Φ' v x∧Rel Φ' τ' h' w'∧Tw Φ τ h w Φ' τ' h'.n w'
 | .panicked ch,w'=>∃ v h',r= .pn v h'∧∃ x Φ' τ',ch=[{v:=x,recovered:=false}]∧Rv Φ' v x∧Rel Φ' τ' h' w'∧Tw Φ τ h w Φ' τ' h'.n w'
 | .outgrown,_=>False
structure CallS (P:Program) (call:CallF):Prop where
 ex:∀ k,call.ex k≠0→ExK P k (call.ex k)
 run:∀ k args h r,call.run k args h=r→okR r→
  (∃ fn,P.funcs[k]? =some fn∧(fn.name == "runtime.NumGoroutine")=false∧fn.body.isNone=false)∧(h.n≤big5→Grow h (hpR r h))∧
  ∀ Φ τ w vs,Rel Φ τ h w→Fre Φ h.n (hpR r h).n→RvL Φ args vs→Calls P k vs.toArray w (RetE Φ τ h w r)
 rd:∀ id args h r,call.rd id args h=r→okR r→∃ v h',r= .ok v h'∧(h.n≤big5→Grow h h')∧
  ∀ Φ τ w vs e,Rel Φ τ h w→Fre Φ h.n h'.n→RvL Φ args vs→Φ id=some e→∃ l g tmps as0 bo,(Instr.yield e.g vs.toArray).run P w= .ok (.round l g tmps as0 bo) w∧
   RoundIn Fence.wide 0 P l g tmps as0 bo w fun en w'=>∃ x,en= .returned x∧∃ Φ' τ',Rv Φ' v x∧Rel Φ' τ' h' w'∧Tw Φ τ h w Φ' τ' h'.n w'
def OpS(P:Program)(op:Op)(f:Fr)(h:Hp)(v:AV)(h':Hp):Prop:=(h.n≤big5→Grow h h')∧
 ∀ (Φ:Phi) (τ:Tau) (F:Wf.Fr) (w:World) (dst:Option Tmp) (ty:TypeId) (pos:String) (after:Array Edge) (gd:Option (Nat × Bool)),FR Φ f F→Rel Φ τ h w→Fre Φ h.n h'.n→
  St P (fe F) ⟨dst,op,ty,pos,after,gd⟩ w (fun x w'=>∃ Φ' τ',Rv Φ' v x∧Rel Φ' τ' h' w'∧Tw Φ τ h w Φ' τ' h'.n w') KF
def OpP(P:Program)(op:Op)(f:Fr)(h:Hp)(v:AV)(h':Hp):Prop:=(h.n≤big5→Grow h h')∧
 ∀ (Φ:Phi) (τ:Tau) (F:Wf.Fr) (w:World) (dst:Option Tmp) (ty:TypeId) (pos:String) (after:Array Edge) (gd:Option (Nat × Bool)),FR Φ f F→Rel Φ τ h w→Fre Φ h.n h'.n→
  St P (fe F) ⟨dst,op,ty,pos,after,gd⟩ w (fun _ _=>False) (fun ch w'=>∃ x Φ' τ',ch=[{v:=x,recovered:=false}]∧Rv Φ' v x∧Rel Φ' τ' h' w'∧Tw Φ τ h w Φ' τ' h'.n w')
section
variable {P:Program} {call:CallF} {op:Op} {f f':Fr} {v:AV} {h h':Hp}
theorem Pu.opS(p:h'=h∧Pu P op f v):OpS P op f h v h':=by
 obtain⟨rfl,p⟩:=p;refine⟨fun _=>Grow.refl _,fun Φ τ F w dst ty pos after gd hF hR _=>(p Φ F w dst ty pos after gd hF).mono ?_ fun _ _ h=>h⟩
 rintro x w' ⟨rfl,hv⟩;exact⟨Φ,τ,hv,hR,Tw.refl _ _ _ _ _⟩
theorem Rd.opS(p:h'=h∧Rd P op f v h):OpS P op f h v h':=by
 obtain⟨rfl,p⟩:=p;refine⟨fun _=>Grow.refl _,fun Φ τ F w dst ty pos after gd hF hR _=>(p Φ τ F w dst ty pos after gd hF hR).mono ?_ fun _ _ h=>h⟩
 rintro x w' ⟨rfl,hv⟩;exact⟨Φ,τ,hv,hR,Tw.refl _ _ _ _ _⟩
theorem Qt.opS(p:Qt P op f v h h'):OpS P op f h v h':=⟨fun _=>p.mv.1,p.mv.2⟩
theorem bifK{α:Type}{b:Bool}{x y z:α}(h:(bif b then x else y)=z):(b=true∧x=z)∨(b=false∧y=z):=by cases b <;> simp at h <;> simp [h]
theorem Jar{s d:TypeId}{x:Operand}{k:Kd}(hk:kdOf P (.convert s d x)=k):(k= .pure∧cvKd P s d=0)∨(k= .read∧cvKd P s d=1)∨(k= .quiet∧cvKd P s d=2)∨(k= .move∧3≤cvKd P s d):=by
 have hk:(match cvKd P s d with | 0=>Kd.pure | 1=> .read | 2=> .quiet | _=> .move)=k:=hk
 match hc:cvKd P s d with
 | 0=>rw [hc] at hk;exact .inl ⟨hk.symm,rfl⟩
 | 1=>rw [hc] at hk;exact .inr (.inl ⟨hk.symm,rfl⟩)
 | 2=>rw [hc] at hk;exact .inr (.inr (.inl ⟨hk.symm,rfl⟩))
 | n+3=>rw [hc] at hk;exact .inr (.inr (.inr ⟨hk.symm,by omega⟩))
theorem V8{s d:TypeId}{x:Operand}{r:Res}(e:ji P s d x f h=r):(cvKd P s d=0→Qo P s d x f h=r)∧(cvKd P s d=1→Jav P s d x f h=r)∧(cvKd P s d=2→vj P s d x f h=r)∧(3≤cvKd P s d→r= .no 17):=by
 unfold ji at e;refine⟨fun hc=>?_,fun hc=>?_,fun hc=>?_,fun hc=>?_⟩
 ·rw [hc] at e;exact e
 ·rw [hc] at e;exact e
 ·rw [hc] at e;exact e
 ·split at e
  ·omega
  ·omega
  ·omega
  ·exact e.symm
theorem Jcm(hk:kdOf P op= .pure)(e:evOp P call op f h= .ok v h'):h'=h∧Pu P op f v:=by
 rw [jp] at e
 cases op with
 | move x=>exact⟨(ym (P:=P) e).1,(ym e).2.1⟩
 | assign x=>exact⟨(ym (P:=P) e).1,(ym e).2.2⟩
 | pick c a b=>exact Jns e
 | build t ps=>exact Jik e
 | nilCheck x=>exact Jdb e
 | binOp o t x y yt=>exact Js4 e
 | unOp o t x=>exact Jzr e
 | convert s d x=>
  rcases Jar hk with ⟨_,hc⟩ | ⟨h1,_⟩ | ⟨h1,_⟩ | ⟨h1,_⟩
  ·exact Jlt ((V8 (r:= .ok v h') e).1 hc)
  ·cases h1
  ·cases h1
  ·cases h1
 | slice t x lo hi mx=>
  have hk:(bif k5 P t then Kd.read else Kd.pure)= .pure:=hk
  rcases bifK hk with ⟨_,h1⟩ | ⟨h1,_⟩
  ·cases h1
  ·exact(Jc1 e).1 h1
 | fieldAddr s x i=>exact vm e
 | field s x i=>exact Jj3 e
 | index t x i=>exact Jj1 e
 | indexAddr t x i=>exact vh e
 | extract x i=>exact Jdz e
 | makeFunc fn a b=>exact Jb0 e
 | makeInterface t x=>exact j0 e
 | typeAssert x xt at_ ok=>exact kx e
 | call c=>
  obtain⟨ce,args,ts⟩:=c
  cases ce with
  | value x=>cases hk
  | invoke r m=>cases hk
  | builtin b=>
   cases b <;> first | (cases hk;done) | exact Juc e | exact Jrt e | skip
   have hk:(bif Jax P ts.toList then Kd.read else Kd.pure)= .pure:=hk
   rcases bifK hk with ⟨_,h1⟩ | ⟨h1,_⟩
   ·cases h1
   ·have e:kf P ts.toList (opds f args.toList) h= .ok v h':=e;unfold kf at e;rw [h1] at e;exact Jsb e
 | _=>first | (cases hk;done) | cases e
theorem Jcp(hk:kdOf P op= .read)(e:evOp P call op f h= .ok v h'):h'=h∧Rd P op f v h:=by
 rw [jp] at e
 cases op with
 | load t a=>exact Jf0 e
 | lookup t x i ok=>exact Jh0 e
 | convert s d x=>
  rcases Jar hk with ⟨h1,_⟩ | ⟨_,hc⟩ | ⟨h1,_⟩ | ⟨h1,_⟩
  ·cases h1
  ·exact Jj4 ((V8 (r:= .ok v h') e).2.1 hc)
  ·cases h1
  ·cases h1
 | slice t x lo hi mx=>
  have hk:(bif k5 P t then Kd.read else Kd.pure)= .read:=hk
  rcases bifK hk with ⟨h1,_⟩ | ⟨_,h1⟩
  ·exact(Jc1 e).2 h1
  ·cases h1
 | call c=>
  obtain⟨ce,args,ts⟩:=c
  cases ce with
  | value x=>cases hk
  | invoke r m=>cases hk
  | builtin b=>
   cases b <;> first | (cases hk;done) | skip
   have hk:(bif Jax P ts.toList then Kd.read else Kd.pure)= .read:=hk
   rcases bifK hk with ⟨h1,_⟩ | ⟨_,h1⟩
   ·have e:kf P ts.toList (opds f args.toList) h= .ok v h':=e;unfold kf at e;rw [h1] at e;unfold Jax at h1
    split at h1
    ·rename_i t hts
     exact Jpy h1 (by apply Array.ext';rw [hts]) e
    ·cases h1
   ·cases h1
 | _=>first | (cases hk;done) | cases e
theorem Xq(hk:kdOf P op= .quiet)(e:evOp P call op f h= .ok v h'):Qt P op f v h h':=by
 rw [jp] at e
 cases op with
 | alloc t=>exact Jmq e
 | box t x=>exact Jvq e
 | buildSlice t n ps=>exact kv e
 | makeSlice t l c=>exact Ja1 e
 | makeMap t r=>exact Je4 e
 | slice t x lo hi mx=>
  have hk:(bif k5 P t then Kd.read else Kd.pure)= .quiet:=hk
  rcases bifK hk with ⟨_,h1⟩ | ⟨_,h1⟩ <;> cases h1
 | convert s d x=>
  rcases Jar hk with ⟨h1,_⟩ | ⟨h1,_⟩ | ⟨_,hc⟩ | ⟨h1,_⟩
  ·cases h1
  ·cases h1
  ·exact Jmp ((V8 (r:= .ok v h') e).2.2.1 hc)
  ·cases h1
 | call c=>
  obtain⟨ce,args,ts⟩:=c
  cases ce with
  | value x=>cases hk
  | invoke r m=>cases hk
  | builtin b=>
   cases b <;> first | (cases hk;done) | skip
   have hk:(bif Jax P ts.toList then Kd.read else Kd.pure)= .quiet:=hk
   rcases bifK hk with ⟨_,h1⟩ | ⟨_,h1⟩ <;> cases h1
 | _=>first | (cases hk;done) | cases e
theorem Jlk(l m:List AV):appL l m=l++m:=by
 induction l with
 | nil=>rfl
 | cons a l ih=>exact congrArg (a:: ·) ih
theorem MvB.opS(p:MvB P op f v h h'):OpS P op f h v h':=p
theorem Jjr{x:Operand}{args:Array Operand}{ts:Array TypeId}{r:Res}(hc:CallS P call)(e:J0h P call (.call {callee:= .value x,args:=args,argTypes:=ts}) f h=r)(hr:okR r):
  (∃ v h',r= .ok v h'∧OpS P (.call {callee:= .value x,args:=args,argTypes:=ts}) f h v h')∨∃ v h',r= .pn v h'∧OpP P (.call {callee:= .value x,args:=args,argTypes:=ts}) f h v h':=by
 have e2:(match opd f x with | .fn k cap=>(Nat.rec (call.run k (appL (opds f args.toList) cap) h) (fun m _=>Jdx P k (Nat.succ m) (appL (opds f args.toList) cap) h) (call.ex k):Res) | .yv id=>call.rd id (opds f args.toList) h | _=> .no 37)=r:=e;clear e
 split at e2
 ·rename_i k cap hx
  cases hm:call.ex k with
  | zero=>
   rw [hm] at e2;have e2:call.run k (appL (opds f args.toList) cap) h=r:=e2;obtain⟨⟨fn,hf,hn,hb⟩,hg,hs⟩:=hc.run _ _ _ _ e2 hr;have ha:∀ {Φ:Phi} {F:Wf.Fr},FR Φ f F→∃ cv:List Value,fe F x= .func (.func k) #[] cv.toArray∧RvL Φ (appL (opds f args.toList) cap) (args.toList.map (fe F)++cv):=by
    intro Φ F hF;have hr:=Jd hF x;rw [hx] at hr;obtain⟨cv,hv,hcv⟩:=hr.fnI;have hap:=(Xd hF args.toList).app hcv;rw [← Jlk] at hap;exact⟨cv,hv,hap⟩
   cases r with
   | no m=>exact hr.elim
   | ok v h'=>
    refine .inl ⟨v,h',rfl,hg,fun Φ τ F w dst ty pos after gd hF hR hFr=>?_⟩
    obtain⟨cv,hv,hap⟩:=ha hF;refine J41 hv hf hn hb rfl ((hs Φ τ w _ hR hFr hap).mono ?_);intro en w' hh
    cases en with
    | returned y=>obtain⟨v2,h2,e9,hh⟩:=hh;cases e9;exact hh
    | panicked ch=>obtain⟨v2,h2,e9,hh⟩:=hh;cases e9
    | outgrown=>exact hh
   | pn v h'=>
    refine .inr ⟨v,h',rfl,hg,fun Φ τ F w dst ty pos after gd hF hR hFr=>?_⟩
    obtain⟨cv,hv,hap⟩:=ha hF;refine J41 hv hf hn hb rfl ((hs Φ τ w _ hR hFr hap).mono ?_);intro en w' hh
    cases en with
    | returned y=>obtain⟨v2,h2,e9,hh⟩:=hh;cases e9
    | panicked ch=>obtain⟨v2,h2,e9,hh⟩:=hh;cases e9;exact hh
    | outgrown=>exact hh
  | succ m=>
   rw [hm] at e2;have e2:Jdx P k (m+1) (appL (opds f args.toList) cap) h=r:=e2;have hX:=hc.ex k (by rw [hm];omega);rw [hm] at hX
   cases r with
   | no m=>exact hr.elim
   | pn v h'=>exact absurd e2 Jus
   | ok v h'=>
    obtain⟨g,s⟩:=Jt3 hX e2;refine .inl ⟨v,h',rfl,g,fun Φ τ F w dst ty pos after gd hF hR hFr=>?_⟩
    have hr:=Jd hF x;rw [hx] at hr;obtain⟨cv,hv,hcv⟩:=hr.fnI;have hap:=(Xd hF args.toList).app hcv;rw [← Jlk] at hap;obtain⟨y,w',q1,q2⟩:=s Φ τ w _ hR hFr hap;unfold St;have hrun:(execOp (fe F) ⟨dst,.call {callee:= .value x,args:=args,argTypes:=ts},ty,pos,after,gd⟩).run P w= .ok (.value y) w':=by
     have e3:execOp (fe F) ⟨dst,.call {callee:= .value x,args:=args,argTypes:=ts},ty,pos,after,gd⟩=(do let d ← Deferred.ofValue (fe F x) (args.map (fe F));invoke d.target d.args):=rfl;rw [e3,hv];have e4:args.map (fe F)++cv.toArray=(args.toList.map (fe F)++cv).toArray:=by apply Array.ext';simp
     simp only [Deferred.ofValue,Sem.run_bind,Sem.run_pure,Result.andThen,invoke];simp only [Array.empty_append,e4];exact q1
    rw [hrun];exact q2
 ·rename_i id hx
  obtain⟨v,h',rfl,g,s⟩:=hc.rd _ _ _ _ e2 hr;refine .inl ⟨v,h',rfl,g,fun Φ τ F w dst ty pos after gd hF hR hFr=>?_⟩
  have hrx:=Jd hF x;rw [hx] at hrx;simp only [Rv] at hrx;obtain⟨en,hen,hv⟩:=hrx;obtain⟨l,gf,tmps,as0,bo,q1,q2⟩:=s Φ τ w _ en hR hFr (Xd hF args.toList) hen;unfold St;have hrun:(execOp (fe F) ⟨dst,.call {callee:= .value x,args:=args,argTypes:=ts},ty,pos,after,gd⟩).run P w= .ok (.round l gf tmps as0 bo) w:=by
   have e3:execOp (fe F) ⟨dst,.call {callee:= .value x,args:=args,argTypes:=ts},ty,pos,after,gd⟩=(do let d ← Deferred.ofValue (fe F x) (args.map (fe F));invoke d.target d.args):=rfl;rw [e3,hv];have e4:args.map (fe F)=(args.toList.map (fe F)).toArray:=by apply Array.ext';simp
   simp only [Deferred.ofValue,Sem.run_bind,Sem.run_pure,Result.andThen,invoke];simp only [Array.empty_append,e4];exact q1
  rw [hrun];refine RoundIn.mono q2 ?_;rintro e w' ⟨y,rfl,hh⟩;exact hh
 ·subst e2;exact hr.elim
theorem Jcw(hc:CallS P call)(e:evOp P call op f h= .ok v h'):OpS P op f h v h':=by
 cases hk:kdOf P op with
 | pure=>exact Pu.opS (Jcm hk e)
 | read=>exact Rd.opS (Jcp hk e)
 | quiet=>exact(Xq hk e).opS
 | move=>
  rw [jp] at e
  cases op with
  | store t a x=>
   obtain⟨g,s⟩:=Jk6 e;refine⟨g,fun Φ τ F w dst ty pos after gd hF hR _=>(s Φ τ F w dst ty pos after gd hF hR).mono ?_ fun _ _ h=>h⟩
   rintro x w' ⟨h1,h2,h3⟩;exact⟨Φ,τ,h1,h2,h3⟩
  | mapUpdate t m k x=>exact Ja2 e
  | insert t m k x=>exact Jh6 e
  | range t x=>exact Jiw e
  | next it st=>exact Jo9 e
  | call c=>
   obtain⟨ce,args,ts⟩:=c
   cases ce with
   | invoke r m=>cases e
   | builtin b=>
    cases b <;> first | (cases hk;done) | exact Jh5 e | exact Jpc e | exact Jst e | exact Jg7 e | exact Job e | (cases e;done) | skip
    have hk:(bif Jax P ts.toList then Kd.read else Kd.pure)= .move:=hk
    rcases bifK hk with ⟨_,h1⟩ | ⟨_,h1⟩ <;> cases h1
   | value x=>
    rcases Jjr hc e trivial with ⟨v2,h2,e9,s⟩ | ⟨v2,h2,e9,s⟩
    ·cases e9;exact s
    ·cases e9
  | convert s d x=>
   rcases Jar hk with ⟨h1,_⟩ | ⟨h1,_⟩ | ⟨h1,_⟩ | ⟨_,hc⟩
   ·cases h1
   ·cases h1
   ·cases h1
   ·have:=(V8 (r:= .ok v h') e).2.2.2 hc
    cases this
  | slice t x lo hi mx=>
   have hk:(bif k5 P t then Kd.read else Kd.pure)= .move:=hk
   rcases bifK hk with ⟨_,h1⟩ | ⟨_,h1⟩ <;> cases h1
  | panic x=>
   have e:X7 x f h= .ok v h':=e;unfold X7 at e
   split at e <;> cases e
  | _=>first | (cases hk;done) | cases e
theorem Jzf(hc:CallS P call)(hp:Je7 op=true)(e:evOp P call op f h= .pn v h'):OpP P op f h v h':=by
 rw [jp] at e
 cases op with
 | panic x=>
  have e:X7 x f h= .pn v h':=e;unfold X7 at e
  split at e
  ·rename_i t a hx
   cases e
   refine⟨fun _=>Grow.refl _,fun Φ τ F w dst ty pos after gd hF hR hFr=>?_⟩
   have hr:=Jd hF x;rw [hx] at hr;have hr':=hr;simp only [Rv] at hr;obtain⟨y,hy,_⟩:=hr;unfold St;have hrun:(execOp (fe F) ⟨dst,.panic x,ty,pos,after,gd⟩).run P w= .halt (.panic (fe F x)) w:=by
    have e3:execOp (fe F) ⟨dst,.panic x,ty,pos,after,gd⟩=(do pure (.value (← Instr.panic (fe F x)))):=rfl;rw [e3,hy]
    rfl
   rw [hrun];exact⟨_,Φ,τ,rfl,hr',hR,Tw.refl _ _ _ _ _⟩
  ·cases e
 | call c=>
  obtain⟨ce,args,ts⟩:=c
  cases ce with
  | invoke r m=>cases hp
  | builtin b=>cases hp
  | value x=>
   rcases Jjr hc e trivial with ⟨v2,h2,e9,s⟩ | ⟨v2,h2,e9,s⟩
   ·cases e9
   ·cases e9;exact s
 | _=>cases hp
theorem Jh8{l:List Operand}{t:Tmp}(h:Operand.tmp t ∈ l):t ∈ kt l:=by
 induction l with
 | nil=>cases h
 | cons o l ih=>
  cases h with
  | head=>exact List.mem_cons_self
  | tail _ h=>
   have:=ih h
   cases o with
   | tmp s=>exact List.mem_cons_of_mem _ this
   | const _=>exact this
   | global _=>exact this
   | func _=>exact this
def Agr(f f':Fr)(l:List Operand):Prop:=∀ t,Operand.tmp t ∈ l→t < 4096→getF t f=getF t f'
theorem Agr.opd{l:List Operand}{o:Operand}(a:Agr f f' l)(ho:o ∈ l):Ev.opd f o=Ev.opd f' o:=by
 cases o with
 | tmp t=>
  show(Bool.rec AV.u (getF t f) (Nat.ble (Nat.succ t) 4096):AV)=Bool.rec AV.u (getF t f') (Nat.ble (Nat.succ t) 4096)
  cases e:Nat.ble (Nat.succ t) 4096 with
  | false=>rfl
  | true=>exact a t ho (Nat.le_of_ble_eq_true e)
 | const v=>rfl
 | global g=>rfl
 | func k=>rfl
theorem Agr.opds{l m:List Operand}(a:Agr f f' l)(hm:∀ o ∈ m,o ∈ l):Ev.opds f m=Ev.opds f' m:=by
 induction m with
 | nil=>rfl
 | cons o m ih=>
  show Ev.opd f o::Ev.opds f m=Ev.opd f' o::Ev.opds f' m
  rw [a.opd (hm o (by simp)),ih fun o ho=>hm o (by simp [ho])]
theorem Agr.fill{l:List Operand}{place:Nat→Option (Nat × Nat)}{m:List (Nat × Operand)}(a:Agr f f' l)(hm:∀ p ∈ m,p.2 ∈ l):jc place f m=jc place f' m:=by
 induction m with
 | nil=>rfl
 | cons p m ih=>
  have h1:=a.opd (hm p (by simp));have h2:=ih fun q hq=>hm q (by simp [hq])
  funext cs k
  unfold jc at h2 ⊢;simp only;rw [h1,h2]
theorem Agr.bnd{α:Type}{l:List Operand}{o:Option Operand}{d:Nat}{k:Nat→α}{no:α}(a:Agr f f' l)(ho:∀ x,o=some x→x ∈ l):Ev.bnd f o d k no=Ev.bnd f' o d k no:=by
 unfold Ev.bnd
 cases o with
 | none=>rfl
 | some x=>simp only;rw [a.opd (ho x rfl)]
theorem Joy(a:Agr f f' op.operands.toList):evOp P call op f h=evOp P call op f' h:=by
 rw [jp]
 cases op with
 | move x=>show Res.ok (opd f x) h=Res.ok (opd f' x) h;rw [a.opd (by simp [Op.operands])]
 | assign x=>show Res.ok (opd f x) h=Res.ok (opd f' x) h;rw [a.opd (by simp [Op.operands])]
 | pick c x y=>
  show zi c x y f h=zi c x y f' h
  unfold zi;rw [a.opd (o:=c) (by simp [Op.operands]),a.opd (o:=x) (by simp [Op.operands]),a.opd (o:=y) (by simp [Op.operands])]
 | alloc t=>rfl
 | box t x=>
  show Jc6 t x f h=Jc6 t x f' h
  unfold Jc6;rw [a.opd (o:=x) (by simp [Op.operands])]
 | build t ps=>
  show Vx P t ps f h=Vx P t ps f' h
  unfold Vx;simp only [show ∀ pl,jc pl f ps.toList=jc pl f' ps.toList from fun pl=>a.fill fun p hp=>by simp [Op.operands];exact⟨p.1,by simpa using hp⟩]
 | buildSlice t n ps=>
  show Ym P t n ps f h=Ym P t n ps f' h
  unfold Ym;simp only [show ∀ pl,jc pl f ps.toList=jc pl f' ps.toList from fun pl=>a.fill fun p hp=>by simp [Op.operands];exact⟨p.1,by simpa using hp⟩]
 | load t x=>
  show Qi P t x f h=Qi P t x f' h
  unfold Qi;rw [a.opd (o:=x) (by simp [Op.operands])]
 | store t x y=>
  show Qn P t x y f h=Qn P t x y f' h
  unfold Qn;rw [a.opd (o:=x) (by simp [Op.operands]),a.opd (o:=y) (by simp [Op.operands])]
 | nilCheck x=>
  show Y9 x f h=Y9 x f' h
  unfold Y9;rw [a.opd (o:=x) (by simp [Op.operands])]
 | binOp o t x y yt=>
  show Jev P o t x y f h=Jev P o t x y f' h
  unfold Jev;rw [a.opd (o:=x) (by simp [Op.operands]),a.opd (o:=y) (by simp [Op.operands])]
 | unOp o t x=>
  show evUn o x f h=evUn o x f' h
  unfold evUn;rw [a.opd (o:=x) (by simp [Op.operands])]
 | convert s d x=>
  show ji P s d x f h=ji P s d x f' h
  unfold ji Qo Jav vj;rw [a.opd (o:=x) (by simp [Op.operands])]
 | makeFunc fn x y=>
  show Kt fn x y f h=Kt fn x y f' h
  unfold Kt;rw [a.opds (m:=y.toList) fun o ho=>by simp [Op.operands];exact .inr (by simpa using ho)]
 | makeSlice t x y=>
  show Y5 P t x y f h=Y5 P t x y f' h
  unfold Y5;rw [a.opd (o:=x) (by simp [Op.operands]),a.opd (o:=y) (by simp [Op.operands])]
 | slice t x lo hi mx=>
  show Qj P t x lo hi mx f h=Qj P t x lo hi mx f' h
  have h1:∀ {α:Type} {d:Nat} {k:Nat→α} {no:α},bnd f lo d k no=bnd f' lo d k no:=a.bnd fun x hx=>by simp [Op.operands,hx]
  have h2:∀ {α:Type} {d:Nat} {k:Nat→α} {no:α},bnd f hi d k no=bnd f' hi d k no:=a.bnd fun x hx=>by simp [Op.operands,hx]
  unfold Qj K9 ya;rw [a.opd (o:=x) (by simp [Op.operands])];simp only [h1,h2]
 | fieldAddr s x i=>
  show Yo P s x i f h=Yo P s x i f' h
  unfold Yo;rw [a.opd (o:=x) (by simp [Op.operands])]
 | indexAddr t x i=>
  show Zw P t x i f h=Zw P t x i f' h
  unfold Zw;rw [a.opd (o:=x) (by simp [Op.operands]),a.opd (o:=i) (by simp [Op.operands])]
 | index t x i=>
  show Xp P t x i f h=Xp P t x i f' h
  unfold Xp;rw [a.opd (o:=x) (by simp [Op.operands]),a.opd (o:=i) (by simp [Op.operands])]
 | field s x i=>
  show Qx P s x i f h=Qx P s x i f' h
  unfold Qx;rw [a.opd (o:=x) (by simp [Op.operands])]
 | makeInterface t x=>
  show Zu P t x f h=Zu P t x f' h
  unfold Zu;rw [a.opd (o:=x) (by simp [Op.operands])]
 | typeAssert x xt at_ ok=>
  show Yl P x at_ ok f h=Yl P x at_ ok f' h
  unfold Yl;rw [a.opd (o:=x) (by simp [Op.operands])]
 | panic x=>
  show X7 x f h=X7 x f' h
  unfold X7;rw [a.opd (o:=x) (by simp [Op.operands])]
 | range t x=>
  show Vw P t x f h=Vw P t x f' h
  unfold Vw;rw [a.opd (o:=x) (by simp [Op.operands])]
 | next x st=>
  show qn x st f h=qn x st f' h
  unfold qn;rw [a.opd (o:=x) (by simp [Op.operands])]
 | extract x i=>
  show Kz x i f h=Kz x i f' h
  unfold Kz;rw [a.opd (o:=x) (by simp [Op.operands])]
 | call c=>
  show Q9 P call c f h=Q9 P call c f' h
  have h1:opds f c.args.toList=opds f' c.args.toList:=a.opds fun o ho=>by simp only [Op.operands,Call.operands,Array.toList_append];exact List.mem_append_right _ ho
  unfold Q9
  cases hce:c.callee with
  | builtin b=>simp only;rw [h1]
  | invoke r m=>rfl
  | value x=>
   simp only;rw [h1,a.opd (o:=x) (by simp [Op.operands,Call.operands,hce])]
 | _=>rfl
end
end Go.Ev
namespace Go.Ev
open Go Go.Wf Go.RowKit
def zw(ops:Array Oper)(g:Option (Nat × Bool))(f:Fr):Option Bool:=match g with
 | none=>some true
 | some p=>match (ops[p.1]?).bind (·.dst) with
  | some d=>match opd f (.tmp d) with
   | .b c=>some (c == p.2)
   | .tp []=>some false
   | _=>none
  | none=>none
theorem yc{α:Type}(ops:Array Oper)(g:Option (Nat × Bool))(f:Fr)(yes no bad:α):vd ops g f yes no bad=match zw ops g f with | some true=>yes | some false=>no | none=>bad:=by
 unfold vd zw
 cases g with
 | none=>rfl
 | some p=>
  simp only
  cases (ops[p.1]?).bind (·.dst) with
  | none=>rfl
  | some d=>
   simp only
   cases opd f (.tmp d) with
   | b c=>simp only;cases (c == p.2) <;> rfl
   | tp l=>cases l <;> rfl
   | _=>rfl
theorem Jal {ops:Array Oper} {o:Oper} {f:Fr} {F:Wf.Fr} {Φ:Phi} {b:Bool} (h:zw ops o.guard f=some b)
  (hF:∀ p d,o.guard=some p→(ops[p.1]?).bind (·.dst)=some d→Rv Φ (opd f (.tmp d)) (F d)):Region.wanted o (Zq ops F)=b:=by
 unfold zw at h;unfold Region.wanted
 cases hg:o.guard with
 | none=>rw [hg] at h;simp only at h;cases h;rfl
 | some p=>
  rw [hg] at h;obtain⟨j,c0⟩:=p;simp only at h ⊢
  cases hd:(ops[j]?).bind (·.dst) with
  | none=>rw [hd] at h;cases h
  | some d=>
   have hr:=hF _ d hg hd;rw [hd] at h;simp only at h
   split at h
   ·rename_i c hc
    rw [hc] at hr
    cases h
    have:=hr.bI
    unfold Zq;rw [hd];simp only [Option.map_some,this]
    cases c <;> cases c0 <;> rfl
   ·rename_i hc
    rw [hc] at hr
    cases h
    have hv:F d= .tuple #[]:=by
     simp only [Rv,RvL] at hr;obtain⟨vs,h1,rfl⟩:=hr;exact h1
    unfold Zq;rw [hd];simp only [Option.map_some,hv]
    cases c0 <;> rfl
   ·cases h
theorem Jey{f:Fr}{F:Wf.Fr}{Φ:Phi}(h:FR Φ f F)(d:Tmp):Rv Φ (opd f (.tmp d)) (F d):=Jd h (.tmp d)
def okO:Out→Prop
 | .no _=>False
 | _=>True
theorem Jit{n:Nat}{d:Option Tmp}{v:AV}{f:Fr}{k:Fr→Out}(e:okO (setO n d v f k)):∃ f',setO n d v f k=k f'∧lo n d∧((d=none∧f'=f)∨∃ t,d=some t∧t < n∧f'=setF t v f):=by
 unfold setO at e ⊢
 cases d with
 | none=>exact⟨f,rfl,trivial,.inl ⟨rfl,rfl⟩⟩
 | some t=>
  simp only at e ⊢
  cases hb:Nat.blt t n with
  | false=>rw [hb] at e;exact e.elim
  | true=>exact⟨_,rfl,Yc hb,.inr ⟨t,rfl,Yc hb,rfl⟩⟩
theorem FR.updO{n:Nat}(hn:n≤4096){d:Option Tmp}{v:AV}{x:Value}{f f':Fr}{F:Wf.Fr}{Φ:Phi}(h:FR Φ f F)(hv:Rv Φ v x)(hd:(d=none∧f'=f)∨∃ t,d=some t∧t < n∧f'=setF t v f):FR Φ f' (Wf.updO F d x):=by
 rcases hd with ⟨rfl,rfl⟩ | ⟨t,rfl,ht,rfl⟩
 ·exact h
 ·exact h.set (Nat.lt_of_lt_of_le ht hn) hv
section
variable {P:Program} {call:CallF} {n:Nat}
def OutQ(Φ:Phi)(τ:Tau)(h:Hp)(w:World):Out→Wf.Post
 | .nx f' h',.normal,F',w'=>∃ Φ' τ',FR Φ' f' F'∧Rel Φ' τ' h' w'∧Tw Φ τ h w Φ' τ' h'.n w'
 | .ex i f' h',.exit j,F',w'=>i=j∧∃ Φ' τ',FR Φ' f' F'∧Rel Φ' τ' h' w'∧Tw Φ τ h w Φ' τ' h'.n w'
 | .rt f' h',.ret,F',w'=>∃ Φ' τ',FR Φ' f' F'∧Rel Φ' τ' h' w'∧Tw Φ τ h w Φ' τ' h'.n w'
 | .pn v f' h',.panic ch,F',w'=>∃ x Φ' τ',ch=[{v:=x,recovered:=false}]∧Rv Φ' v x∧FR Φ' f' F'∧Rel Φ' τ' h' w'∧Tw Φ τ h w Φ' τ' h'.n w'
 | _,_,_,_=>False
def hpO:Out→Hp→Hp
 | .nx _ h,_=>h
 | .ex _ _ h,_=>h
 | .rt _ h,_=>h
 | .pn _ _ h,_=>h
 | .no _,h=>h
theorem Jmr{o:Out}(e:okO o)(a b:Hp):hpO o a=hpO o b:=by cases o <;> first | rfl | exact e.elim
theorem OutQ.trans{Φ Φ1:Phi}{τ τ1:Tau}{h h1:Hp}{w w1:World}{o:Out}(t1:Tw Φ τ h w Φ1 τ1 h1.n w1)(k1:Grow h h1)(hl:h1.n≤big5)(hn:h1.n≤(hpO o h1).n){ex:Exit}{F:Wf.Fr}{w2:World}(q:OutQ Φ1 τ1 h1 w1 o ex F w2):OutQ Φ τ h w o ex F w2:=by
 cases o with
 | nx f' h'=>cases ex with
  | normal=>obtain⟨Φ',τ',a,b,c⟩:=q;exact⟨Φ',τ',a,b,t1.trans k1 hn hl c⟩
  | _=>exact q.elim
 | ex i f' h'=>cases ex with
  | exit j=>obtain⟨e,Φ',τ',a,b,c⟩:=q;exact⟨e,Φ',τ',a,b,t1.trans k1 hn hl c⟩
  | _=>exact q.elim
 | rt f' h'=>cases ex with
  | ret=>obtain⟨Φ',τ',a,b,c⟩:=q;exact⟨Φ',τ',a,b,t1.trans k1 hn hl c⟩
  | _=>exact q.elim
 | pn v f' h'=>cases ex with
  | panic ch=>obtain⟨x,Φ',τ',e,d,a,b,c⟩:=q;exact⟨x,Φ',τ',e,d,a,b,t1.trans k1 hn hl c⟩
  | _=>exact q.elim
 | no m=>exact q.elim
theorem recR{r:Res}{k kp:AV→Hp→Out}(e:okO (Res.rec k Out.no kp r:Out)):(∃ v h',r= .ok v h'∧(Res.rec k Out.no kp r:Out)=k v h')∨∃ v h',r= .pn v h'∧(Res.rec k Out.no kp r:Out)=kp v h':=by
 cases r with
 | ok v h'=>exact .inl ⟨v,h',rfl,rfl⟩
 | no m=>exact e.elim
 | pn v h'=>exact .inr ⟨v,h',rfl,rfl⟩
theorem Jja{r:Res}{k:AV→Hp→Out}{m:Nat}(e:okO (Res.rec k Out.no (fun _ _=> .no m) r:Out)):∃ v h',r= .ok v h'∧(Res.rec k Out.no (fun _ _=> .no m) r:Out)=k v h':=by
 rcases recR e with h | ⟨v,h',_,h2⟩
 ·exact h
 ·rw [h2] at e;exact e.elim
theorem Jv3(hc:CallS P call)(hn:n≤4096){ops:Array Oper}:∀ (l:List Oper) (f:Fr) (h:Hp),okO (jo P call n ops l f h)→
  Gw h (hpO (jo P call n ops l f h) h)∧
  ∀ (Φ:Phi) (τ:Tau) (F:Wf.Fr) (w:World) (Q:Wf.Post),FR Φ f F→Rel Φ τ h w→Fre Φ h.n (hpO (jo P call n ops l f h) h).n→
   (∀ ex F' w',OutQ Φ τ h w (jo P call n ops l f h) ex F' w'→Q ex F' w')→Sq P ops n Q l F w:=by
 intro l
 induction l with
 | nil=>intro f h e;exact⟨Gw.refl _,fun Φ τ F w Q hF hR _ hQ=>hQ .normal F w ⟨Φ,τ,hF,hR,Tw.refl _ _ _ _ _⟩⟩
 | cons o l ih=>
  intro f h e;have e0:jo P call n ops (o::l) f h=vd ops o.guard f (Res.rec (fun v h'=>setO n o.dst v f fun f'=>jo P call n ops l f' h') Out.no (fun v h'=>Bool.rec (.no 61) (.pn v f h') (Je7 o.op && loB n o.dst)) (evOp P call o.op f h)) (setO n o.dst (.tp []) f fun f'=>jo P call n ops l f' h) (.no 41):=rfl;rw [e0,yc] at e;rw [e0,yc]
  cases hw:zw ops o.guard f with
  | none=>rw [hw] at e;exact e.elim
  | some b=>
   rw [hw] at e
   cases b with
   | true=>
    simp only at e ⊢
    rcases recR e with ⟨v,h1,hop,e2⟩ | ⟨v,h1,hop,e2⟩
    ·rw [e2] at e ⊢;obtain⟨f1,e3,hlo,hd⟩:=Jit e;rw [e3] at e ⊢;obtain⟨g2,s2⟩:=ih f1 h1 e;obtain⟨g1,s1⟩:=Jcw hc hop;have g1:Gw h h1:=g1;rw [Jmr e h h1];refine⟨g1.trans g2,fun Φ τ F w Q hF hR hFr hQ=>?_⟩
     have k1:=g1 hR.lim;have k2:=g2 (k1.lim hR.lim);have hw':=Jal (Φ:=Φ) hw fun p d _ _=>Jey hF d;obtain⟨dst,op,ty,pos,after,gd⟩:=o;refine⟨hlo,?_⟩;rw [if_pos hw']
     refine(s1 Φ τ F w dst ty pos after gd hF hR fun id h1 h2=>hFr id h1 (Nat.lt_of_lt_of_le h2 k2.le)).mono ?_ fun _ _ h=>h.elim
     rintro x w1 ⟨Φ1,τ1,hv,hR1,t1⟩;refine s2 Φ1 τ1 _ w1 Q ((hF.mono t1.sub).updO hn hv hd) hR1 ?_ ?_
     ·intro id q1 q2;rw [t1.same id (by omega)];exact hFr id (Nat.le_trans k1.le q1) q2
     ·intro ex F' w' q;exact hQ ex F' w' (q.trans t1 k1 (k1.lim hR.lim) k2.le)
    ·rw [e2] at e ⊢
     cases hp0:(Je7 o.op && loB n o.dst) with
     | false=>rw [hp0] at e;exact e.elim
     | true=>
      simp only;obtain⟨hp,hp1⟩:=Zp hp0;obtain⟨g1,s1⟩:=Jzf hc hp hop;have g1:Gw h h1:=g1;refine⟨g1,fun Φ τ F w Q hF hR hFr hQ=>?_⟩
      have hw':=Jal (Φ:=Φ) hw fun p d _ _=>Jey hF d;have hlo:lo n o.dst:=by
       cases hd:o.dst with
       | none=>trivial
       | some t=>rw [hd] at hp1;exact Yc hp1
      obtain⟨dst,op,ty,pos,after,gd⟩:=o;refine⟨hlo,?_⟩;rw [if_pos hw']
      refine(s1 Φ τ F w dst ty pos after gd hF hR hFr).mono (fun _ _ h=>h.elim) ?_
      rintro ch w1 ⟨x,Φ1,τ1,rfl,hv,hR1,t1⟩;exact hQ _ _ _ ⟨x,Φ1,τ1,rfl,hv,hF.mono t1.sub,hR1,t1⟩
   | false=>
    simp only at e ⊢;obtain⟨f1,e3,hlo,hd⟩:=Jit e;rw [e3] at e ⊢;obtain⟨g2,s2⟩:=ih f1 h e;refine⟨g2,fun Φ τ F w Q hF hR hFr hQ=>?_⟩
    have hw':=Jal (Φ:=Φ) hw fun p d _ _=>Jey hF d;refine⟨hlo,?_⟩;rw [if_neg (by rw [hw'];simp)];exact s2 Φ τ _ w Q (hF.updO hn (by simp only [Rv,RvL];exact⟨[],rfl,rfl⟩) hd) hR hFr hQ
end
section
variable {fc:Fence} [Fw fc] {P:Program} {ops:Array Oper} {n:Nat} {D:List Deferred} {Q:Wf.Post} {f0:Wf.Fr} {w0:World}
theorem Jn5 (Inv:Array Bool→Wf.Fr→World→Prop) (back:∀ (k:Nat) (o:Oper),ops[k]? =some o→∀ e ∈ o.after,Region.binds .any e=true→e.on < k)
  (hstep:∀ (L:Array Bool) (i:Nat) (o:Oper) (f:Wf.Fr) (w:World),L.size=ops.size→Yh ops L→ops[i]? =some o→L.getD i true=false→(∀ e ∈ o.after,Region.binds .any e=true→L.getD e.on false=true)→Inv L f w→
   lo n o.dst∧OpSt P ops f o w (fun v w'=>Inv (L.setIfInBounds i true) (updO f o.dst v) w') (fun _ _=>False))
  (hfin:∀ L f w,L.size=ops.size→(∀ i,i < ops.size→L.getD i true=true)→Inv L f w→Q .normal f w):
  ∀ (fuel:Nat) (L:Array Bool) (a:Act) (w:World),unl ops.size L=fuel→L.size=ops.size→Yh ops L→Wf.Good n D a→Inv L (frOf a) w→
   wpAnyIn fc 0 P .any ops (fun e a' w'=>Wf.Good n D a'∧Q e (frOf a') w') fuel L a w:=by
 intro fuel;have bridge:∀ (L:Array Bool),L.size=ops.size→∀ i,i < ops.size→L.getD i false=L.getD i true:=by
  intro L hs i hi
  have:L[i]? =some L[i]:=by simp [hs,hi]
  simp [Array.getD_eq_getD_getElem?,this]
 induction fuel with
 | zero=>
  intro L a w hu hs hc ha hI;have hall:=yg hu;refine⟨?_,⟨ha,hfin L _ w hs hall hI⟩⟩;rw [List.eq_nil_iff_forall_not_mem];intro i hi;obtain⟨h1,h2,_⟩:=Zc.1 hi;rw [hall i h1] at h2;cases h2
 | succ fuel ih=>
  intro L a w hu hs hc ha hI;refine⟨?_,?_⟩
  ·intro hnil;refine⟨ha,hfin L _ w hs ?_ hI⟩;intro i hi;refine Classical.byContradiction fun hne=>?_
   have hex:∃ i,i < ops.size∧L.getD i true=false:=⟨i,hi,by cases hb:L.getD i true with | false=>rfl | true=>exact absurd hb hne⟩;have hmin:∃ i,i < ops.size∧L.getD i true=false∧∀ j,j < i→L.getD j true=true:=by
    obtain⟨i,hi,hb⟩:=hex;clear hne
    induction i using Nat.strongRecOn with
    | _ i ihh=>
     by_cases h:∃ j,j < i∧L.getD j true=false
     ·obtain⟨j,hj,hjb⟩:=h;exact ihh j hj (by omega) hjb
     ·refine⟨i,hi,hb,fun j hj=>?_⟩
      cases hjb:L.getD j true with
      | true=>rfl
      | false=>exact absurd ⟨j,hj,hjb⟩ h
   obtain⟨i0,hi0,hb0,hlow⟩:=hmin;have hr0:i0 ∈ Region.ready .any ops L:=by
    have hok:ops[i0]? =some ops[i0]:=by simp [hi0]
    refine Zc.2 ⟨hi0,hb0,ops[i0],hok,?_⟩;intro e he hbe;have hlt:=back i0 _ hok e he hbe;rw [bridge L hs _ (by omega)];exact hlow _ hlt
   rw [hnil] at hr0;cases hr0
  ·intro i hi;obtain⟨h1,h2,o,ho,h3⟩:=Zc.1 hi;obtain⟨hlo,hst⟩:=hstep L i o (frOf a) w hs hc ho h2 h3 hI;refine X8 (Kv:=fun v w'=>Inv (L.setIfInBounds i true) (updO (frOf a) o.dst v) w') (Kp:=fun _ _=>False) ho ha hst ?_ (fun _ _ h=>h.elim)
   intro v w' hK;refine ih _ _ _ ?_ (by simp [hs]) ?_ (ha.put _ _) (by rw [Zy ha _ hlo];exact hK)
   ·have:=j3 hs h1 h2;omega
   ·intro k hk hl o' ho' e he hb;rw [Array.getD_eq_getD_getElem?,Array.getElem?_setIfInBounds]
    by_cases e1:i=e.on
    ·subst e1;simp [hs,h1]
    ·simp only [e1,if_false];rw [← Array.getD_eq_getD_getElem?]
     by_cases e2:i=k
     ·subst e2;rw [ho] at ho';cases ho';exact h3 e he hb
     ·rw [Array.getD_eq_getD_getElem?,Array.getElem?_setIfInBounds] at hl;simp only [e2,if_false] at hl;rw [← Array.getD_eq_getD_getElem?] at hl;exact hc k hk hl o' ho' e he hb
theorem J48 {id:Nat} (hm:P.follows .mixedOrders=true) (Inv:Array Bool→Wf.Fr→World→Prop) (back:∀ (k:Nat) (o:Oper),ops[k]? =some o→∀ e ∈ o.after,Region.binds .any e=true→e.on < k)
  (h0:Inv (Array.replicate ops.size false) f0 w0.drew)
  (hstep:∀ (L:Array Bool) (i:Nat) (o:Oper) (f:Wf.Fr) (w:World),L.size=ops.size→Yh ops L→ops[i]? =some o→L.getD i true=false→(∀ e ∈ o.after,Region.binds .any e=true→L.getD e.on false=true)→Inv L f w→
   lo n o.dst∧OpSt P ops f o w (fun v w'=>Inv (L.setIfInBounds i true) (updO f o.dst v) w') (fun _ _=>False))
  (hfin:∀ L f w,L.size=ops.size→(∀ i,i < ops.size→L.getD i true=true)→Inv L f w→Q .normal f w):
  W fc P (Code.region id ops true) n D Q f0 w0:=by
 intro a ha hf;refine wpIn_region_any hm ?_;have hz:∀ i,i < ops.size→(Array.replicate ops.size false).getD i true=false:=by
  intro i hi;simp [Array.getD_eq_getD_getElem?,hi]
 refine Jn5 Inv back hstep hfin ops.size _ a _ ?_ (by simp) ?_ ha (by rw [hf];exact h0)
 ·unfold unl
  have:(List.range ops.size).countP (fun i=> !(Array.replicate ops.size false).getD i true)=(List.range ops.size).length:=by
   refine List.countP_eq_length.2 ?_;intro i hi;simp [hz i (by simpa using hi)]
  rw [this];simp
 ·intro k hk hl;rw [hz k hk] at hl;cases hl
end
end Go.Ev
namespace Go.Ev
open Go Go.Wf Go.RowKit
section
variable {fc:Fence} [Fw fc] {P:Program} {n:Nat} {D:List Deferred} {Q:Wf.Post} {f0:Wf.Fr} {w0:World}
def hasE(a:Array Edge)(k:Nat):Bool:=a.toList.any fun e=>Region.binds .any e && Nat.beq e.on k
theorem Jki{a:Array Edge}{k:Nat}(h:hasE a k=true):∃ e ∈ a,Region.binds .any e=true∧e.on=k:=by
 unfold hasE at h;rw [List.any_eq_true] at h;obtain⟨e,h1,h2⟩:=h;rw [Bool.and_eq_true] at h2;exact⟨e,Array.mem_toList_iff.1 h1,h2.1,Nat.eq_of_beq_eq_true h2.2⟩
def lowE(a:Array Edge)(k:Nat):Bool:=a.toList.all fun e=>Nat.blt e.on k
theorem jy{a:Array Edge}{k:Nat}(h:lowE a k=true){e:Edge}(he:e ∈ a):e.on < k:=by
 unfold lowE at h;exact Nat.le_of_ble_eq_true (List.all_eq_true.1 h e (Array.mem_toList_iff.2 he))
theorem xb(f:Wf.Fr)(d:Nat)(v:Value):updO f (some d) v d=v:=by show Wf.upd f d v d=v;unfold Wf.upd;rw [if_pos rfl]
theorem Zd{f:Wf.Fr}{t d:Nat}(h:t≠d)(v:Value):updO f (some d) v t=f t:=by show Wf.upd f d v t=f t;unfold Wf.upd;rw [if_neg h]
theorem W.swapRem {id ty a b c d p q:Nat} {k:IntKind} {x y z:Int} {pos0 pos1 pos2 pos3 pos4 pos5:String} {t0 t1 t2 t3 t4 t5 yt:TypeId} {e0 e1 e2 e3 e4 e5:Array Edge}
  (hm:P.follows .mixedOrders=true)
  (hne:(Nat.beq a b || Nat.beq a c || Nat.beq a d || Nat.beq a p || Nat.beq a q || Nat.beq b c || Nat.beq b d || Nat.beq b p || Nat.beq b q || Nat.beq c d || Nat.beq c p || Nat.beq c q || Nat.beq d p || Nat.beq d q || Nat.beq p q)=false)
  (hlo:(Nat.blt a n && Nat.blt b n && Nat.blt c n && Nat.blt d n && Nat.blt p n && Nat.blt q n)=true)
  (hlow:(lowE e0 0 && lowE e1 1 && lowE e2 2 && lowE e3 3 && lowE e4 4 && lowE e5 5)=true)
  (hed:(hasE e3 1 && hasE e3 2 && hasE e4 0 && hasE e4 1 && hasE e5 0 && hasE e5 2 && hasE e5 3)=true)
  (hp:f0 p= .int k x) (hq:f0 q= .int k y) (hy:y≠0) (hz:x.tmod y=z)
  (h:∀ f,Keep [a,b,c,d,p,q] f0 f→f p= .int k y→f q= .int k z→Q .normal f w0.drew):
  W fc P (Code.region id #[⟨some a,.move (.tmp q),t0,pos0,e0,none⟩,⟨some b,.move (.tmp p),t1,pos1,e1,none⟩,⟨some c,.move (.tmp q),t2,pos2,e2,none⟩,
   ⟨some d,.binOp .rem ty (.tmp b) (.tmp c) yt,t3,pos3,e3,none⟩,⟨some p,.assign (.tmp a),t4,pos4,e4,none⟩,⟨some q,.assign (.tmp d),t5,pos5,e5,none⟩] true) n D Q f0 w0:=by
 have ne:∀ i j,Nat.beq i j=false→i≠j:=fun i j hh e=>by subst e;simp at hh
 simp only [Bool.or_eq_false_iff] at hne;obtain⟨⟨⟨⟨⟨⟨⟨⟨⟨⟨⟨⟨⟨⟨ab,ac⟩,ad⟩,ap⟩,aq⟩,bc⟩,bd⟩,bp⟩,bq⟩,cd⟩,cp⟩,cq⟩,dp⟩,dq⟩,pq⟩:=hne;replace ab:=ne _ _ ab;replace ac:=ne _ _ ac;replace ad:=ne _ _ ad;replace ap:=ne _ _ ap;replace aq:=ne _ _ aq;replace bc:=ne _ _ bc;replace bd:=ne _ _ bd;replace bp:=ne _ _ bp;replace bq:=ne _ _ bq;replace cd:=ne _ _ cd;replace cp:=ne _ _ cp;replace cq:=ne _ _ cq;replace dp:=ne _ _ dp;replace dq:=ne _ _ dq;replace pq:=ne _ _ pq;simp only [Bool.and_eq_true] at hlo hlow hed;obtain⟨⟨⟨⟨⟨la,lb⟩,lc⟩,ld⟩,lp⟩,lq⟩:=hlo;obtain⟨⟨⟨⟨⟨w0e,w1e⟩,w2e⟩,w3e⟩,w4e⟩,w5e⟩:=hlow;obtain⟨⟨⟨⟨⟨⟨h31,h32⟩,h40⟩,h41⟩,h50⟩,h52⟩,h53⟩:=hed;refine J48 hm (fun L f w=>w=w0.drew∧Keep [a,b,c,d,p,q] f0 f∧(L.getD 0 true=true→f a= .int k y)∧(L.getD 1 true=true→f b= .int k x)∧(L.getD 2 true=true→f c= .int k y)∧(L.getD 3 true=true→f d= .int k z)∧
  (L.getD 4 true=false→f p= .int k x)∧(L.getD 4 true=true→f p= .int k y)∧(L.getD 5 true=false→f q= .int k y)∧(L.getD 5 true=true→f q= .int k z)) ?_ ?_ ?_ ?_
 ·intro i o ho e he _
  match i,ho with
  | 0,ho=>cases ho;exact jy w0e he
  | 1,ho=>cases ho;exact jy w1e he
  | 2,ho=>cases ho;exact jy w2e he
  | 3,ho=>cases ho;exact jy w3e he
  | 4,ho=>cases ho;exact jy w4e he
  | 5,ho=>cases ho;exact jy w5e he
  | i+6,ho=>simp at ho
 ·refine⟨rfl,fun _ _=>rfl,?_,?_,?_,?_,fun _=>hp,?_,fun _=>hq,?_⟩ <;> intro hh <;> simp at hh
 ·intro L i o f w hs hc ho hi hed hI;obtain⟨rfl,hK,i0,i1,i2,i3,i4,i4',i5,i5'⟩:=hI;have gs:∀ u v:Nat,u < 6→(L.setIfInBounds u true).getD v true=if u=v then true else L.getD v true:=by
   intro u v hu;have hs':L.size=6:=hs;rw [Array.getD_eq_getD_getElem?,Array.getElem?_setIfInBounds]
   by_cases e:u=v
   ·subst e;simp [hs',hu]
   ·rw [if_neg e,if_neg e,Array.getD_eq_getD_getElem?]
  have tf:∀ u:Nat,u < 6→L.getD u false=L.getD u true:=by
   intro u hu;have hs':L.size=6:=hs;simp [Array.getD_eq_getD_getElem?,hs',hu]
  have dn:∀ {u:Nat} (ha:hasE o.after u=true),u < 6→L.getD u true=true:=fun ha hu=>by
   obtain⟨e,he,hb,rfl⟩:=Jki ha;rw [← tf _ hu];exact hed e he hb
  have nd:∀ (m u:Nat) (o':Oper),m < 6→u < 6→(#[⟨some a,.move (.tmp q),t0,pos0,e0,none⟩,⟨some b,.move (.tmp p),t1,pos1,e1,none⟩,⟨some c,.move (.tmp q),t2,pos2,e2,none⟩,
   ⟨some d,.binOp .rem ty (.tmp b) (.tmp c) yt,t3,pos3,e3,none⟩,⟨some p,.assign (.tmp a),t4,pos4,e4,none⟩,⟨some q,.assign (.tmp d),t5,pos5,e5,none⟩]:Array Oper)[m]? =some o'→hasE o'.after u=true→L.getD u true=false→L.getD m true=false:=by
   intro m u o' hm6 hu ho' ha hf
   cases hm2:L.getD m true with
   | false=>rfl
   | true=>
    obtain⟨e,he,hb,rfl⟩:=Jki ha;have h9:=hc m hm6 hm2 o' ho' e he hb;rw [tf _ hu,hf] at h9;cases h9
  match i,ho,hi with
  | 0,ho,hi=>
   cases ho
   have hv:=i5 (nd 5 0 _ (by decide) (by decide) rfl h50 hi);refine⟨Nat.le_of_ble_eq_true la,OpSt.op (St.move ?_)⟩;refine⟨rfl,Keep.updO (by simp) hK,?_,?_,?_,?_,?_,?_,?_,?_⟩
   ·rw [gs 0 0 (by decide)];intro _;exact(xb _ _ _).trans hv
   ·rw [gs 0 1 (by decide)];intro hh;exact(Zd (Ne.symm ab) _).trans (i1 (by simpa using hh))
   ·rw [gs 0 2 (by decide)];intro hh;exact(Zd (Ne.symm ac) _).trans (i2 (by simpa using hh))
   ·rw [gs 0 3 (by decide)];intro hh;exact(Zd (Ne.symm ad) _).trans (i3 (by simpa using hh))
   ·rw [gs 0 4 (by decide)];intro hh;exact(Zd (Ne.symm ap) _).trans (i4 (by simpa using hh))
   ·rw [gs 0 4 (by decide)];intro hh;exact(Zd (Ne.symm ap) _).trans (i4' (by simpa using hh))
   ·rw [gs 0 5 (by decide)];intro hh;exact(Zd (Ne.symm aq) _).trans (i5 (by simpa using hh))
   ·rw [gs 0 5 (by decide)];intro hh;exact(Zd (Ne.symm aq) _).trans (i5' (by simpa using hh))
  | 1,ho,hi=>
   cases ho
   have hv:=i4 (nd 4 1 _ (by decide) (by decide) rfl h41 hi);refine⟨Nat.le_of_ble_eq_true lb,OpSt.op (St.move ?_)⟩;refine⟨rfl,Keep.updO (by simp) hK,?_,?_,?_,?_,?_,?_,?_,?_⟩
   ·rw [gs 1 0 (by decide)];intro hh;exact(Zd ab _).trans (i0 (by simpa using hh))
   ·rw [gs 1 1 (by decide)];intro _;exact(xb _ _ _).trans hv
   ·rw [gs 1 2 (by decide)];intro hh;exact(Zd (Ne.symm bc) _).trans (i2 (by simpa using hh))
   ·rw [gs 1 3 (by decide)];intro hh;exact(Zd (Ne.symm bd) _).trans (i3 (by simpa using hh))
   ·rw [gs 1 4 (by decide)];intro hh;exact(Zd (Ne.symm bp) _).trans (i4 (by simpa using hh))
   ·rw [gs 1 4 (by decide)];intro hh;exact(Zd (Ne.symm bp) _).trans (i4' (by simpa using hh))
   ·rw [gs 1 5 (by decide)];intro hh;exact(Zd (Ne.symm bq) _).trans (i5 (by simpa using hh))
   ·rw [gs 1 5 (by decide)];intro hh;exact(Zd (Ne.symm bq) _).trans (i5' (by simpa using hh))
  | 2,ho,hi=>
   cases ho
   have hv:=i5 (nd 5 2 _ (by decide) (by decide) rfl h52 hi);refine⟨Nat.le_of_ble_eq_true lc,OpSt.op (St.move ?_)⟩;refine⟨rfl,Keep.updO (by simp) hK,?_,?_,?_,?_,?_,?_,?_,?_⟩
   ·rw [gs 2 0 (by decide)];intro hh;exact(Zd ac _).trans (i0 (by simpa using hh))
   ·rw [gs 2 1 (by decide)];intro hh;exact(Zd bc _).trans (i1 (by simpa using hh))
   ·rw [gs 2 2 (by decide)];intro _;exact(xb _ _ _).trans hv
   ·rw [gs 2 3 (by decide)];intro hh;exact(Zd (Ne.symm cd) _).trans (i3 (by simpa using hh))
   ·rw [gs 2 4 (by decide)];intro hh;exact(Zd (Ne.symm cp) _).trans (i4 (by simpa using hh))
   ·rw [gs 2 4 (by decide)];intro hh;exact(Zd (Ne.symm cp) _).trans (i4' (by simpa using hh))
   ·rw [gs 2 5 (by decide)];intro hh;exact(Zd (Ne.symm cq) _).trans (i5 (by simpa using hh))
   ·rw [gs 2 5 (by decide)];intro hh;exact(Zd (Ne.symm cq) _).trans (i5' (by simpa using hh))
  | 3,ho,hi=>
   cases ho
   have hb:=i1 (dn h31 (by decide));have hc2:=i2 (dn h32 (by decide));refine⟨Nat.le_of_ble_eq_true ld,OpSt.op (St.rem hb hc2 hy hz ?_)⟩;refine⟨rfl,Keep.updO (by simp) hK,?_,?_,?_,?_,?_,?_,?_,?_⟩
   ·rw [gs 3 0 (by decide)];intro hh;exact(Zd ad _).trans (i0 (by simpa using hh))
   ·rw [gs 3 1 (by decide)];intro hh;exact(Zd bd _).trans (i1 (by simpa using hh))
   ·rw [gs 3 2 (by decide)];intro hh;exact(Zd cd _).trans (i2 (by simpa using hh))
   ·rw [gs 3 3 (by decide)];intro _;exact(xb _ _ _).trans rfl
   ·rw [gs 3 4 (by decide)];intro hh;exact(Zd (Ne.symm dp) _).trans (i4 (by simpa using hh))
   ·rw [gs 3 4 (by decide)];intro hh;exact(Zd (Ne.symm dp) _).trans (i4' (by simpa using hh))
   ·rw [gs 3 5 (by decide)];intro hh;exact(Zd (Ne.symm dq) _).trans (i5 (by simpa using hh))
   ·rw [gs 3 5 (by decide)];intro hh;exact(Zd (Ne.symm dq) _).trans (i5' (by simpa using hh))
  | 4,ho,hi=>
   cases ho
   have hv:=i0 (dn h40 (by decide));refine⟨Nat.le_of_ble_eq_true lp,OpSt.op (St.assign ?_)⟩;refine⟨rfl,Keep.updO (by simp) hK,?_,?_,?_,?_,?_,?_,?_,?_⟩
   ·rw [gs 4 0 (by decide)];intro hh;exact(Zd ap _).trans (i0 (by simpa using hh))
   ·rw [gs 4 1 (by decide)];intro hh;exact(Zd bp _).trans (i1 (by simpa using hh))
   ·rw [gs 4 2 (by decide)];intro hh;exact(Zd cp _).trans (i2 (by simpa using hh))
   ·rw [gs 4 3 (by decide)];intro hh;exact(Zd dp _).trans (i3 (by simpa using hh))
   ·rw [gs 4 4 (by decide)];intro hh;simp at hh
   ·rw [gs 4 4 (by decide)];intro _;exact(xb _ _ _).trans hv
   ·rw [gs 4 5 (by decide)];intro hh;exact(Zd (Ne.symm pq) _).trans (i5 (by simpa using hh))
   ·rw [gs 4 5 (by decide)];intro hh;exact(Zd (Ne.symm pq) _).trans (i5' (by simpa using hh))
  | 5,ho,hi=>
   cases ho
   have hv:=i3 (dn h53 (by decide));refine⟨Nat.le_of_ble_eq_true lq,OpSt.op (St.assign ?_)⟩;refine⟨rfl,Keep.updO (by simp) hK,?_,?_,?_,?_,?_,?_,?_,?_⟩
   ·rw [gs 5 0 (by decide)];intro hh;exact(Zd aq _).trans (i0 (by simpa using hh))
   ·rw [gs 5 1 (by decide)];intro hh;exact(Zd bq _).trans (i1 (by simpa using hh))
   ·rw [gs 5 2 (by decide)];intro hh;exact(Zd cq _).trans (i2 (by simpa using hh))
   ·rw [gs 5 3 (by decide)];intro hh;exact(Zd dq _).trans (i3 (by simpa using hh))
   ·rw [gs 5 4 (by decide)];intro hh;exact(Zd pq _).trans (i4 (by simpa using hh))
   ·rw [gs 5 4 (by decide)];intro hh;exact(Zd pq _).trans (i4' (by simpa using hh))
   ·rw [gs 5 5 (by decide)];intro hh;simp at hh
   ·rw [gs 5 5 (by decide)];intro _;exact(xb _ _ _).trans hv
  | i+6,ho,hi=>simp at ho
 ·intro L f w hs hall hI;obtain⟨rfl,hK,_,_,_,_,_,i4',_,i5'⟩:=hI;exact h f hK (i4' (hall 4 (by simp))) (i5' (hall 5 (by simp)))
end
end Go.Ev
namespace Go.Wf
open Go Go.Proofs Go.RowKit
theorem zy{X:Nat→Prop}{w:World}(hX:XB X w){v0:Value}{a:GInt}(r0:RV Jx X w v0 a){v1:Value}{b:GInt}(r1:RV Jx X w v1 b)(hla:a.mag.length≤274877906944)(hlb:b.mag.length≤274877906944)(hb0:val b.mag≠0)(hd:a.toZ % b.toZ=0):Calls Tryz.prog 184 #[v0,v1] w (Ret w fun v w'=>∃ v0 v1,v= .tuple #[v0,v1]∧(RV Jx X w' v0 (ofZ (a.toZ / b.toZ)))∧(v1=(.int .i64 0))):=by
 obtain⟨a1,c2,rfl,h3⟩:=RV.int r0;obtain⟨a4,c5,rfl,h6⟩:=RV.int r1;have C:=Cx.start hX;have sa:=r0.int_small;have sb:=r1.int_small;have hr0:(ofZ (a.toZ % b.toZ)).mag.length=0:=by rw [hd];rfl
 refine Cgo (args:=[(.agg #[(.bool a.neg),(.slice a1 a.mag.length c2)]),(.agg #[(.bool b.neg),(.slice a4 b.mag.length c5)])]) Tryz.func184 rfl rfl rfl (Rg (Ol (J3g C rfl ?_)));intro g7 w8 x9 y10 lt11 C12 s13 o14;replace h3:=h3.sp s13;replace h6:=h6.sp s13;refine Ol (J3g C12 rfl ?_);intro g15 w16 x17 y18 lt19 C20 s21 o22;refine Ol (J3b C20 io26 rfl ?_);intro g24 w25 x26 y27 lt28 C29 s30 o31;replace h3:=(h3.sp s21).sp s30;replace h6:=(h6.sp s21).sp s30;replace o14:=(o14.spn s21).spn s30;replace o22:=o22.spn s30;refine Oa (Nl (Rg (Ol (J29 (vs:=[(.bool a.neg),(.slice a1 a.mag.length c2)]) o14 ag26 rfl rfl rfl (Ol (J29 (vs:=[(.bool b.neg),(.slice a4 b.mag.length c5)]) o22 ag26 rfl rfl rfl (Ol (J25 C29 cb222 rfl rfl (Jkp C29.bd (a:=a) (Jo h3) (b:=b) (Jo h6) hla hlb hb0) ?_))))))));intro v34 w35 C36 s37 h38;replace o31:=o31.spn s37;obtain⟨v39,v40,v41,rfl,h42,h43,rfl⟩:=h38;obtain⟨a45,c46,rfl,h47⟩:=RV.int h42;obtain⟨a48,c49,rfl,h50⟩:=RV.int h43;refine Om (Ol (St.extract rfl rfl (Ol (St.extract rfl rfl (Ol (St.extract rfl rfl (Ol (J3b C36 io26 rfl ?_))))))));intro g51 w52 x53 y54 lt55 C56 s57 o58;have n61:=lt55 _ o31.blk.lt;replace h47:=h47.sp s57;replace o31:=o31.spn s57;refine Ol (J3b C56 io26 rfl ?_);intro g62 w63 x64 y65 lt66 C67 s68 o69;have n72:=lt66 _ o31.blk.lt;have n73:=lt66 _ o58.blk.lt;replace o31:=o31.spn s68;replace o58:=o58.spn s68;refine On (J3a (cs':=[(.bool (ofZ (a.toZ / b.toZ)).neg),(.slice a45 (ofZ (a.toZ / b.toZ)).mag.length c46)]) C67 o58 io26 rfl rfl rfl rfl rfl rfl ?_);intro w74 C75 s76 o77;replace h47:=(h47.sp s68).sp s76;replace o69:=o69.spo s76 (Ne.symm n73);refine On (J3a (cs':=[(.bool (ofZ (a.toZ % b.toZ)).neg),(.slice a48 (ofZ (a.toZ % b.toZ)).mag.length c49)]) C75 o69 io26 rfl rfl rfl rfl rfl rfl ?_);intro w78 C79 s80 o81;replace o31:=(o31.spo s76 n61).spo s80 n72;replace o77:=o77.spo s80 n73;refine Oa (Nl (Rh (Om (Ol (St.neq (t:=false) rfl rfl (by rw [decide_eq_true rfl];rfl) (Nl (J28 rfl (W.skip (Rh (Ol (St.fieldAddr Jz rfl (Ol (J27 o81 pl24 rfl rfl (Ol (St.len sl24 rfl (Ol (St.gtr (t:=false) rfl rfl (decide_eq_false (by omega)) (Nl ?_))))))))))))))))));refine J28 rfl (W.skip (Rg (Ol (J29 (vs:=[(.bool (ofZ (a.toZ / b.toZ)).neg),(.slice a45 (ofZ (a.toZ / b.toZ)).mag.length c46)]) o77 ag26 rfl rfl rfl (On (J3a (cs':=[(.bool (ofZ (a.toZ / b.toZ)).neg),(.slice a45 (ofZ (a.toZ / b.toZ)).mag.length c46)]) C79 o31 io26 rfl rfl rfl rfl rfl rfl ?_))))));intro w82 C83 s84 o85;replace h47:=(h47.sp s80).sp s84;refine Oa (Nl (W.ret (Zh rfl (resV.c o85 rfl ag26 rfl) (resV.t rfl) (Ret.intro ?_ C83.below))));refine⟨_,_,rfl,?_,?_⟩
 ·skip
  exact J3l (a:=(ofZ (a.toZ / b.toZ))) ((Jo h47).tr (Tr.weak C83.base)) rfl
 ·skip
  rfl
theorem Jnh{X:Nat→Prop}{w:World}(hX:XB X w){v0:Value}{a:List Nat}(r0:RS Je X w v0 a){v1:Value}{b:List Nat}(r1:RS Je X w v1 b)(ha:trim a=a)(hb:trim b=b)(hla:a.length≤549755813888)(hlb:b.length≤549755813888):Calls Tryz.prog 221 #[v0,v1] w (Ret w fun v w'=>RS Je X w' v (digs (Nat.gcd (val a) (val b)))):=by
 obtain⟨a1,c2,rfl,_,_⟩:=r0.len;obtain⟨a3,c4,rfl,_,_⟩:=r1.len;have C:=Cx.start hX;refine Cgo (args:=[(.slice a1 a.length c2),(.slice a3 b.length c4)]) Tryz.func221 rfl rfl rfl (Rg (Oa (Nl (W.seq (W.block (J3j (fun μ f v=>∃ (x y:Nat→Prop) (p:Option Addr) (pc:Nat) (q:Option Addr) (qc:Nat) (A:List Nat) (B:List Nat),Cx X w x y v∧f 0=(.slice p A.length pc)∧f 1=(.slice q B.length qc)∧RS Je x v (.slice p A.length pc) A∧RS Je x v (.slice q B.length qc) B∧trim A=A∧trim B=B∧A.length≤549755813888∧B.length≤549755813888∧Nat.gcd (val A) (val B)=Nat.gcd (val a) (val b)∧μ=(val B)) _ ⟨_,_,a1,c2,a3,c4,a,b,C,rfl,rfl,r0,r1,ha,hb,hla,hlb,rfl,rfl⟩ ?_))))));rintro m13 f5 w6 ⟨x7,y8,p,pc,q,qc,A,B,C9,e10,e11,hA,hB,hAt,hBt,hlA,hlB,hg,hmu12⟩;obtain⟨f14,rfl⟩:=rebK (aC e10 (aC e11 aN));clear e10 e11;have sA:=hA.u32_small;have sB:=hB.u32_small;refine Rh (Om (Ol (St.len sl24 rfl (Ol (J3u rfl rfl (fun hc15=>?_) (fun hc15=>?_))))))
 ·refine Nl (J26 rfl (W.skip (W.block (Rh (Om (Ol (St.len sl24 rfl (Ol (J38 rfl rfl (fun hc16=>?_) (fun hc16=>?_))))))))))
  ·refine Om (Og rfl rfl (St.move (Og rfl rfl (St.len sl24 rfl (Og rfl rfl (J38 rfl rfl (fun hc17=>?_) (fun hc17=>?_)))))))
   ·refine OT (Nl (J26 rfl (Rg (Om (Ol (J25 C9 Jpq rfl rfl (Jgz C9.bd hA (by omega)) ?_))))));intro v18 w19 C20 s21 h22;replace hB:=hB.sp s21;subst h22;refine Om (Ol (J25 C20 Jpq rfl rfl (Jgz C20.bd hB (by omega)) ?_));intro v23 w24 C25 s26 h27;replace hA:=(hA.sp s21).sp s26;replace hB:=hB.sp s26;subst h27;refine Oa (Oa (Nl (W.seq (W.block (J3j (fun μ f v=>∃ (x y:Nat→Prop) (xx:Nat) (yy:Nat),Cx X w x y v∧f 0=(.slice p A.length pc)∧f 1=(.slice q B.length qc)∧f 9=(.slice q B.length qc)∧f 10=(.int .i64 ((B.length:Nat):Int))∧f 11=(.bool true)∧f 12=(.slice p A.length pc)∧f 13=(.int .i64 ((A.length:Nat):Int))∧f 14=(.bool true)∧f 15=(.bool true)∧f 16=(.slice q B.length qc)∧f 17=(.int .i64 ((B.length:Nat):Int))∧f 18=(.bool true)∧f 19=(.bool true)∧f 20=(.slice p A.length pc)∧f 21=(.int .u64 (((val A):Nat):Int))∧f 22=(.slice q B.length qc)∧f 23=(.int .u64 (((val B):Nat):Int))∧f 5=(.int .u64 ((xx:Nat):Int))∧f 6=(.int .u64 ((yy:Nat):Int))∧RS Je x v (.slice p A.length pc) A∧RS Je x v (.slice q B.length qc) B∧xx < 18446744073709551616∧yy < 18446744073709551616∧Nat.gcd xx yy=Nat.gcd (val a) (val b)∧μ=yy) _ ⟨_,_,(val A),(val B),C25,rfl,rfl,rfl,rfl,rfl,rfl,rfl,rfl,rfl,rfl,rfl,rfl,rfl,rfl,rfl,rfl,rfl,rfl,rfl,hA,hB,(Kb sA (by omega)),(Kb sB (by omega)),hg,rfl⟩ ?_)))));rintro m53 f28 w29 ⟨x30,y31,xx,yy,C32,e33,e34,e35,e36,e37,e38,e39,e40,e41,e42,e43,e44,e45,e46,e47,e48,e49,e50,e51,hA,hB,hx,hy,hxy,hmu52⟩;obtain⟨f54,rfl⟩:=rebK (aC e33 (aC e34 (aC e35 (aC e36 (aC e37 (aC e38 (aC e39 (aC e40 (aC e41 (aC e42 (aC e43 (aC e44 (aC e45 (aC e46 (aC e47 (aC e48 (aC e49 (aC e50 (aC e51 aN)))))))))))))))))));clear e33 e34 e35 e36 e37 e38 e39 e40 e41 e42 e43 e44 e45 e46 e47 e48 e49 e50 e51;refine Rh (Om (Ol (J3q rfl rfl (fun hc55=>?_) (fun hc55=>?_))))
    ·refine Nl (J26 rfl (W.skip (W.block (Go.Ev.W.swapRem J5 rfl rfl (by kernel_rfl) (by kernel_rfl) rfl rfl (by omega) (X4 xx yy) ?_))));intro f56 hK57 hp58 hq59;have R60:=J4e C32;have C61:=R60.cx;have S62:=R60.sp;replace hA:=hA.sp S62;replace hB:=hB.sp S62;have hK57:Keep [26,27,28,29,5,6] _ f56:=hK57;obtain⟨f63,rfl⟩:=mixK hK57 (aC hp58 (aC hq59 aN));refine⟨_,(by have:=Nat.mod_lt xx (show 0 < yy by omega);omega),_,_,yy,xx % yy,C61,rfl,rfl,rfl,rfl,rfl,rfl,rfl,rfl,rfl,rfl,rfl,rfl,rfl,rfl,rfl,rfl,rfl,rfl,rfl,hA,hB,hy,(by have:=Nat.mod_lt xx (show 0 < yy by omega);omega),(by rw [z6,hxy]),rfl⟩
    refine Nl (J28 rfl (W.exit (Rg (Om (Ol (J25 C32 Jhl rfl rfl (k9 C32.bd (n:=xx) hx) ?_))))));intro v65 w66 C67 s68 h69;obtain⟨a70,c71,rfl,_,_⟩:=h69.len;exact Oa (Nl (W.ret (Wq rfl rfl C67 (J3s ((h69:RS _ _ _ _ _).tr (Tr.weak C67.base)) ((by rw [← hxy,show yy=0 by omega,Nat.gcd_zero_right]))))))
   refine OT (Nl (J28 rfl (W.skip (W.seq ?_))));have hBn:B≠[]:=by rintro rfl;simp at hc15
   have hBp:0 < val B:=Nat.lt_of_lt_of_le (Nat.pow_pos (by decide)) (Xn hBt hBn);refine W.region (Om (Om (Ol (J25 C9 Jsh rfl rfl (vn C9.bd hA hB hAt hBt hBn hlA hlB) ?_))));intro v72 w73 C74 s75 h76;replace hB:=hB.sp s75;obtain⟨v77,v78,rfl,h79,h80⟩:=h76;obtain⟨a81,c82,rfl,_,_⟩:=h79.len;obtain⟨a83,c84,rfl,_,_⟩:=h80.len;refine Om (Ol (St.extract rfl rfl (Ol (St.extract rfl rfl (Oa (Oa (Nl (W.region (Om (Om (Oa (Oa (Nl (⟨_,(by rw [Js];have:=Nat.mod_lt (val A) hBp;omega),_,_,q,qc,a83,c84,B,(digs (val A % val B)),C74,rfl,rfl,hB,h80,hBt,(Yk _),hlB,(Nat.le_trans (Ql sB hBp) hlB),(by rw [Js,z6,hg]),rfl⟩))))))))))))))
  refine Om (Oz (Oz (Oz (OF (Nl (J28 rfl (W.skip (W.seq ?_))))))));have hBn:B≠[]:=by rintro rfl;simp at hc15
  have hBp:0 < val B:=Nat.lt_of_lt_of_le (Nat.pow_pos (by decide)) (Xn hBt hBn);refine W.region (Om (Om (Ol (J25 C9 Jsh rfl rfl (vn C9.bd hA hB hAt hBt hBn hlA hlB) ?_))));intro v85 w86 C87 s88 h89;replace hB:=hB.sp s88;obtain⟨v90,v91,rfl,h92,h93⟩:=h89;obtain⟨a94,c95,rfl,_,_⟩:=h92.len;obtain⟨a96,c97,rfl,_,_⟩:=h93.len;refine Om (Ol (St.extract rfl rfl (Ol (St.extract rfl rfl (Oa (Oa (Nl (W.region (Om (Om (Oa (Oa (Nl (⟨_,(by rw [Js];have:=Nat.mod_lt (val A) hBp;omega),_,_,q,qc,a96,c97,B,(digs (val A % val B)),C87,rfl,rfl,hB,h93,hBt,(Yk _),hlB,(Nat.le_trans (Ql sB hBp) hlB),(by rw [Js,z6,hg]),rfl⟩))))))))))))))
 refine Nl (J28 rfl (W.exit (Rg (Om (Ol (J25 C9 Joo rfl rfl (yn C9.bd hA (by omega)) ?_))))));intro v98 w99 C100 s101 h102;obtain⟨a103,c104,rfl,_,_⟩:=h102.len;exact Oa (Nl (W.ret (Wq rfl rfl C100 (J3s ((h102:RS _ _ _ _ _).tr (Tr.weak C100.base)) ((by rw [← hg,show val B=0 by rw [List.eq_nil_of_length_eq_zero (show B.length=0 by omega)];rfl,Nat.gcd_zero_right];exact Jpt hAt sA))))))
theorem Jrd{X:Nat→Prop}{w:World}(hX:XB X w){v0:Value}{a:GInt}(r0:RV Jx X w v0 a){v1:Value}{b:GInt}(r1:RV Jx X w v1 b)(hla:a.mag.length≤549755813888)(hlb:b.mag.length≤549755813888):Calls Tryz.prog 183 #[v0,v1] w (Ret w fun v w'=>RV Jx X w' v (ofZ (Int.gcd a.toZ b.toZ:Int))):=by
 obtain⟨a1,c2,rfl,h3⟩:=RV.int r0;obtain⟨a4,c5,rfl,h6⟩:=RV.int r1;have C:=Cx.start hX;have sa:=r0.int_small;have sb:=r1.int_small;have tla:=J2 a.mag;have tlb:=J2 b.mag;have gl:=Jtb (Yf sa) (Yf sb);refine Cgo (args:=[(.agg #[(.bool a.neg),(.slice a1 a.mag.length c2)]),(.agg #[(.bool b.neg),(.slice a4 b.mag.length c5)])]) Tryz.func183 rfl rfl rfl (Rg (Ol (J3g C rfl ?_)));intro g7 w8 x9 y10 lt11 C12 s13 o14;refine Ol (J3g C12 rfl ?_);intro g15 w16 x17 y18 lt19 C20 s21 o22;replace h3:=(h3.sp s13).sp s21;replace h6:=(h6.sp s13).sp s21;replace o14:=o14.spn s21;refine Ol (J3b C20 io26 rfl ?_);intro g24 w25 x26 y27 lt28 C29 s30 o31;refine Nl (W.seq (J3m J5 5 [[],[0],[1],[],[3]] C29 [fx (.pointer (some ⟨g7,1,none⟩)),fx (.slice a1 a.mag.length c2),fs Je (trim a.mag),fx (.pointer (some ⟨g15,1,none⟩)),fx (.slice a4 b.mag.length c5)] (by kernel_rfl) ⟨sx,sx,ss,sx,sx,trivial⟩ fun f42 s43 w44 ⟨C47,S48⟩ k46=>?_))
 replace h3:=(h3.sp s30).sp S48;replace h6:=(h6.sp s30).sp S48;replace o14:=(o14.spn s30).spn S48;replace o22:=(o22.spn s30).spn S48;have k46:Keep [5,6,7,8,9] _ f42:=k46;refine⟨⟨fun _=>?_,fun⟨e52,_⟩=>?_,fun⟨e53,_⟩=>?_,fun _=>?_,fun⟨e54,_⟩=>?_,trivial⟩,fun⟨e55,e56,d57,e58,e59,_⟩=>?_⟩
 ·exact Ja k46 aN fun _=>OpSt.op (St.fieldAddr Jz rfl ⟨s43,RC.same C47,rfl⟩)
 ·exact Ja k46 (aC e52 aN) fun _=>OpSt.op (J27 o14 pl24 rfl rfl ⟨s43,RC.same C47,rfl⟩)
 ·refine Ja k46 (aC e53 aN) fun _=>OpSt.op (J25 C47 jz rfl rfl (Z6 C47.bd h3 (by omega)) ?_);intro v60 w61 C62 s63 h64;exact⟨s43,⟨C62,s63⟩,h64⟩
 ·exact Ja k46 aN fun _=>OpSt.op (St.fieldAddr Jz rfl ⟨s43,RC.same C47,rfl⟩)
 ·exact Ja k46 (aC e54 aN) fun _=>OpSt.op (J27 o22 pl24 rfl rfl ⟨s43,RC.same C47,rfl⟩)
 obtain⟨a66,c67,e65,d57⟩:=RS.opn d57;obtain⟨f68,rfl⟩:=mixK k46 (aC e55 (aC e56 (aC e65 (aC e58 (aC e59 aN)))));refine Ol (J25 C47 jz rfl rfl (Z6 C47.bd h6 (by omega)) ?_);intro v69 w70 C71 s72 h73;replace d57:=d57.sp s72;replace o31:=(o31.spn S48).spn s72;obtain⟨a74,c75,rfl,_,_⟩:=h73.len;refine Ol (J25 C71 cb221 rfl rfl (Jnh C71.bd d57 h73 (Qp sa) (Qp sb) (by omega) (by omega)) ?_);intro v76 w77 C78 s79 h80;obtain⟨a81,c82,rfl,_,_⟩:=h80.len;refine Ol (J25 C78 qr rfl rfl (Kk C78.bd h80 (by omega)) ?_);intro v83 w84 C85 s86 h87;replace o31:=(o31.spn s79).spn s86;obtain⟨a88,c89,rfl,h90⟩:=RV.int h87;refine On (J3a (cs':=[(.bool (mkSg false (digs (Nat.gcd (val (trim a.mag)) (val (trim b.mag))))).neg),(.slice a88 (mkSg false (digs (Nat.gcd (val (trim a.mag)) (val (trim b.mag))))).mag.length c89)]) C85 o31 io26 rfl rfl rfl rfl rfl rfl ?_);intro w91 C92 s93 o94;replace h90:=h90.sp s93;refine Nl (W.ret (J7 rfl (resV.c o94 rfl ag26 rfl) (Ret.intro ?_ C92.below)));exact J3l (a:=(mkSg false (digs (Nat.gcd (val (trim a.mag)) (val (trim b.mag)))))) ((Jo h90).tr (Tr.weak C92.base)) (by exact Kf (Z0 _) (by rw [Js,K7,K7,← Xu,← Xu];rfl))
theorem J0e{X:Nat→Prop}{w:World}(hX:XB X w){n:Int}(hlo: -9223372036854775808≤n)(hhi:n≤9223372036854775807):Calls Tryz.prog 158 #[(.int .i64 n)] w (Ret w fun v w'=>RV Jx X w' v (ofZ n)):=by
 have C:=Cx.start hX;have hd2:(digs n.natAbs).length≤2:=J1 (by omega);refine Cgo (args:=[(.int .i64 n)]) Tryz.func158 rfl rfl rfl (Rg (Ol (J3b C io26 rfl ?_)));intro g1 w2 x3 y4 lt5 C6 s7 o8;refine Nl (Rh (Om (Ol (J3i rfl rfl (fun hc9=>?_) (fun hc9=>?_)))))
 ·refine Nl (J26 rfl (Rg (Om (Ol (J3d (z:=(n+18446744073709551616)) us3 Yn rfl (by rw [IntKind.wrap_u64];omega) (Ol (St.neg (z:=((n.natAbs:Nat):Int)) rfl (by rw [IntKind.wrap_u64];omega) (Ol (J25 C6 Jhl rfl rfl (k9 C6.bd (n:=n.natAbs) (by omega)) ?_)))))))));intro v10 w11 C12 s13 h14;obtain⟨a15,c16,rfl,_,_⟩:=h14.len;refine Ol (J25 C12 qr rfl rfl (Kk C12.bd h14 (by omega)) ?_);intro v17 w18 C19 s20 h21;replace o8:=(o8.spn s13).spn s20;obtain⟨a22,c23,rfl,h24⟩:=RV.int h21;refine On (J3a (cs':=[(.bool (mkSg true (digs n.natAbs)).neg),(.slice a22 (mkSg true (digs n.natAbs)).mag.length c23)]) C19 o8 io26 rfl rfl rfl rfl rfl rfl ?_);intro w25 C26 s27 o28;replace h24:=h24.sp s27;refine Nl (W.ret (J7 rfl (resV.c o28 rfl ag26 rfl) (Ret.intro ?_ C26.below)));exact J3l (a:=(mkSg true (digs n.natAbs))) ((Jo h24).tr (Tr.weak C26.base)) (by exact Kf (Z0 _) (by rw [Js];simp [Jk];omega))
 refine Nl (J28 rfl (W.skip (Rg (Om (Ol (J3d (z:=((n.natAbs:Nat):Int)) us3 Yn rfl (by rw [IntKind.wrap_u64];omega) (Ol (J25 C6 Jhl rfl rfl (k9 C6.bd (n:=n.natAbs) (by omega)) ?_))))))));intro v29 w30 C31 s32 h33;obtain⟨a34,c35,rfl,_,_⟩:=h33.len;refine Ol (J25 C31 qr rfl rfl (Kk C31.bd h33 (by omega)) ?_);intro v36 w37 C38 s39 h40;replace o8:=(o8.spn s32).spn s39;obtain⟨a41,c42,rfl,h43⟩:=RV.int h40;refine On (J3a (cs':=[(.bool (mkSg false (digs n.natAbs)).neg),(.slice a41 (mkSg false (digs n.natAbs)).mag.length c42)]) C38 o8 io26 rfl rfl rfl rfl rfl rfl ?_);intro w44 C45 s46 o47;replace h43:=h43.sp s46;refine Nl (W.ret (J7 rfl (resV.c o47 rfl ag26 rfl) (Ret.intro ?_ C45.below)));exact J3l (a:=(mkSg false (digs n.natAbs))) ((Jo h43).tr (Tr.weak C45.base)) (by exact Kf (Z0 _) (by rw [Js];simp [Jk];omega))
end Go.Wf
namespace Go.Wf
open Go
theorem Jdw:ofZ 1=⟨false,[1]⟩:=by
 unfold ofZ;rw [show(1:Int).natAbs=1 from rfl,Jas (by decide) (by decide)];rfl
theorem Jvw{m:List Nat}(h:((m.length:Nat):Int)=1):m=[m.getD 0 0]:=by
 match m,h with
 | [d],_=>rfl
 | [],h=>simp at h
 | _::_::_,h=>simp at h;omega
theorem Jx5{a:GInt}(h1:((a.mag.length:Nat):Int)=1)(h2:((a.mag.getD 0 0:Nat):Int)=1):(!a.neg)=decide (a=ofZ 1):=by
 have e:=Jvw h1;have h2:a.mag.getD 0 0=1:=by omega
 rw [h2] at e;obtain⟨n,m⟩:=a;have e:m=[1]:=e;subst e;rw [Jdw]
 cases n <;> simp
theorem Jxd{a:GInt}(h2:¬ ((a.mag.getD 0 0:Nat):Int)=1):false=decide (a=ofZ 1):=by
 refine(decide_eq_false fun e=>h2 ?_).symm
 rw [e,Jdw];rfl
theorem Jzw{a:GInt}(h1:¬ ((a.mag.length:Nat):Int)=1):false=decide (a=ofZ 1):=by
 refine(decide_eq_false fun e=>h1 ?_).symm
 rw [e,Jdw];rfl
theorem Yt{z:Int}:ofZ z=ofZ 1↔z=1:=⟨fun h=>Jlo h,fun h=>by rw [h]⟩
theorem Za{a:GInt}(sa:Jr a.mag):(ofZ a.toZ).mag.length≤a.mag.length:=by
 rw [Qq,Xu];exact J1 (Zs _ sa)
theorem Z2(z:Int):(ofZ (-z)).mag=(ofZ z).mag:=by rw [Qq,Qq,Int.natAbs_neg]
theorem kj{a b:Nat}(h:a≤b):(digs a).length≤(digs b).length:=J1 (Nat.lt_of_le_of_lt h (ks b))
theorem vi{y z:Int}(h:y.natAbs≤z.natAbs):(ofZ y).mag.length≤(ofZ z).mag.length:=kj h
theorem J8{z:Int}:(ofZ z).mag.length=0↔z=0:=by
 rw [Qq,List.length_eq_zero_iff,zp,Int.natAbs_eq_zero]
theorem Ki(z:Int):val (ofZ z).mag=z.natAbs:=Js _
theorem Jdv{n d:Int}(hd:d≠0):(ofZ (Int.gcd n d:Int)).mag.length≤(ofZ d).mag.length:=
 vi (by
  have:Int.gcd n d ∣ d.natAbs:=Nat.gcd_dvd_right _ _
  have h2:=Nat.le_of_dvd (by omega) this;simpa using h2)
theorem Jp2{n d:Int}(hd:d≠0):((Int.gcd n d:Nat):Int)≠0:=by
 have:=Int.gcd_pos_of_ne_zero_right n hd
 omega
theorem Jch(n d:Int):n % ((Int.gcd n d:Nat):Int)=0:=Int.emod_eq_zero_of_dvd (Int.gcd_dvd_left _ _)
theorem Jc7(n d:Int):d % ((Int.gcd n d:Nat):Int)=0:=Int.emod_eq_zero_of_dvd (Int.gcd_dvd_right _ _)
theorem Jdj{n d:Int}(h:d=0∨n=0):(⟨⟨false,[]⟩,ofZ 1⟩:GRat)=ofQ (Rat.divInt n d):=by
 rcases h with rfl | rfl
 ·exact(Jcb n).symm
 ·exact(Jcr d).symm
theorem jg{n d:Int}(h:d=1):(⟨ofZ n,ofZ d⟩:GRat)=ofQ (Rat.divInt n d):=(Jts h).symm
theorem V4{n d:Int}(hd:0 < d)(h:((Int.gcd n d:Nat):Int)=1):(⟨ofZ n,ofZ d⟩:GRat)=ofQ (Rat.divInt n d):=(Jdy hd (by omega)).symm
theorem yd{n d:Int}(hd:0 < d):(⟨ofZ (n / ((Int.gcd n d:Nat):Int)),ofZ (d / ((Int.gcd n d:Nat):Int))⟩:GRat)=ofQ (Rat.divInt n d):=(Jei hd).symm
theorem z8(n d:Int):Rat.divInt (-n) (-d)=Rat.divInt n d:=Rat.neg_divInt_neg n d
end Go.Wf
namespace Go.Wf
open Go Go.Proofs Go.RowKit
theorem RV.rat_small{X:Nat→Prop}{w:World}{v:Value}{a:GRat}(h:RV Xk X w v a):Jr a.num.mag∧Jr a.den.mag:=by
 obtain⟨s,c,s2,c2,rfl,h2,h3⟩:=J34 h;exact⟨h2.u32_small,h3.u32_small⟩
theorem Jnb{X:Nat→Prop}{w:World}(hX:XB X w){v0:Value}{a:GInt}(r0:RV Jx X w v0 a)  :Calls Tryz.prog 152 #[v0] w (Ret w fun v w'=>v=(.bool (decide (a=ofZ 1)))):=by
 obtain⟨a1,c2,rfl,h3⟩:=RV.int r0;have C:=Cx.start hX;have sa:=r0.int_small;refine Cgo (args:=[(.agg #[(.bool a.neg),(.slice a1 a.mag.length c2)])]) Tryz.func152 rfl rfl rfl (Rg (Ol (J3g C rfl ?_)));intro g4 w5 x6 y7 lt8 C9 s10 o11;replace h3:=h3.sp s10;refine Oa (Nl (Rg (Ol (St.fieldAddr Jz rfl (Ol (J27 o11 pl24 rfl rfl (Ol (St.len sl24 rfl (Ol (J3h rfl rfl (fun hc12=>?_) (fun hc12=>?_)))))))))))
 ·refine Om (Og rfl rfl (St.fieldAddr Jz rfl (Og rfl rfl (J27 o11 pl24 rfl rfl (Og rfl rfl (J3k (j:=0) (u:=(a.mag.getD 0 0)) h3 sl24 Ji rfl rfl rfl (Jg (by omega)) ?_))))));intro b13 o14 cs15 e16;obtain⟨rfl,bd17⟩:cs15=_∧_:=e16.rd;refine Og rfl rfl (J3e Ze rfl (e16.cell 0 _ rfl) (Og rfl rfl (J3h rfl rfl (fun hc18=>?_) (fun hc18=>?_))))
  ·exact OT (Om (Og rfl rfl (St.fieldAddr Zv rfl (Og rfl rfl (J27 o11 pl4 rfl rfl (Og rfl rfl (St.not rfl (OT (Oa (Nl (W.ret (Wq rfl rfl C9 (congrArg (Value.bool) (Jx5 hc12 hc18))))))))))))))
  exact OT (Om (Oz (Oz (Oz (OF (Oa (Nl (W.ret (Wq rfl rfl C9 (congrArg (Value.bool) (Jxd hc18)))))))))))
 exact Om (Oz (Oz (Oz (Oz (Oz (OF (Om (Oz (Oz (Oz (OF (Oa (Nl (W.ret (Wq rfl rfl C9 (congrArg (Value.bool) (Jzw hc12)))))))))))))))))
theorem Jq9{X:Nat→Prop}{w:World}(hX:XB X w){v0:Value}{n:GInt}(r0:RV Jx X w v0 n){v1:Value}{d:GInt}(r1:RV Jx X w v1 d)(hln:n.mag.length≤274877906944)(hld:d.mag.length≤274877906944):Calls Tryz.prog 137 #[v0,v1] w (Ret w fun v w'=>RV Xk X w' v (ofQ (Rat.divInt n.toZ d.toZ))):=by
 obtain⟨a1,c2,rfl,h3⟩:=RV.int r0;obtain⟨a4,c5,rfl,h6⟩:=RV.int r1;have C:=Cx.start hX;have sn:=r0.int_small;have sd:=r1.int_small;have hN:=Za sn;have hD:=Za sd;refine Cgo (args:=[(.agg #[(.bool n.neg),(.slice a1 n.mag.length c2)]),(.agg #[(.bool d.neg),(.slice a4 d.mag.length c5)])]) Tryz.func137 rfl rfl rfl (Rg (Ol (J3g C rfl ?_)));intro g7 w8 x9 y10 lt11 C12 s13 o14;refine Ol (J3g C12 rfl ?_);intro g15 w16 x17 y18 lt19 C20 s21 o22;have n23:=lt19 _ o14.blk.lt;replace h3:=(h3.sp s13).sp s21;replace h6:=(h6.sp s13).sp s21;replace o14:=o14.spn s21;refine Ol (J3b C20 io28 rfl ?_);intro g24 w25 x26 y27 lt28 C29 s30 o31;have n32:=lt28 _ o14.blk.lt;have n33:=lt28 _ o22.blk.lt;refine Nl (W.seq (J3m J5 3 [[],[0],[]] C29 [fx (.agg #[(.bool n.neg),(.slice a1 n.mag.length c2)]),fr Jx (ofZ n.toZ),fx (.agg #[(.bool d.neg),(.slice a4 d.mag.length c5)])] (by kernel_rfl) ⟨sx,sr,sx,trivial⟩ fun f43 s44 w45 ⟨C48,S49⟩ k47=>?_))
 replace h3:=(h3.sp s30).sp S49;replace h6:=(h6.sp s30).sp S49;replace o14:=(o14.spn s30).spn S49;replace o22:=(o22.spn s30).spn S49;have k47:Keep [6,7,8] _ f43:=k47;refine⟨⟨fun _=>?_,fun⟨e53,_⟩=>?_,fun _=>?_,trivial⟩,fun⟨e54,d55,e56,_⟩=>?_⟩
 ·exact Ja k47 aN fun _=>OpSt.op (J29 (vs:=[(.bool n.neg),(.slice a1 n.mag.length c2)]) o14 ag26 rfl rfl rfl ⟨s44,RC.same C48,rfl⟩)
 ·refine Ja k47 (aC e53 aN) fun _=>OpSt.op (J25 C48 Jwc rfl rfl (Jfm C48.bd (a:=n) (Jo h3) (by omega)) ?_);intro v57 w58 C59 s60 h61;exact⟨s44,⟨C59,s60⟩,h61⟩
 ·exact Ja k47 aN fun _=>OpSt.op (J29 (vs:=[(.bool d.neg),(.slice a4 d.mag.length c5)]) o22 ag26 rfl rfl rfl ⟨s44,RC.same C48,rfl⟩)
 obtain⟨a63,c64,e62,h65⟩:=RV.int d55;obtain⟨f66,rfl⟩:=mixK k47 (aC e54 (aC e62 (aC e56 aN)));refine Ol (J25 C48 Jwc rfl rfl (Jfm C48.bd (a:=d) (Jo h6) (by omega)) ?_);intro v67 w68 C69 s70 h71;replace o14:=o14.spn s70;replace o31:=(o31.spn S49).spn s70;obtain⟨a72,c73,rfl,h74⟩:=RV.int h71;refine On (J3a (cs':=[(.bool (ofZ n.toZ).neg),(.slice a63 (ofZ n.toZ).mag.length c64)]) C69 o14 io26 rfl rfl rfl rfl rfl rfl ?_);intro w75 C76 s77 o78;replace h65:=(h65.sp s70).sp s77;replace o22:=(o22.spn s70).spo s77 (Ne.symm n23);refine On (J3a (cs':=[(.bool (ofZ d.toZ).neg),(.slice a72 (ofZ d.toZ).mag.length c73)]) C76 o22 io26 rfl rfl rfl rfl rfl rfl ?_);intro w79 C80 s81 o82;replace h74:=(h74.sp s77).sp s81;replace o78:=o78.spo s81 n23;replace o31:=(o31.spo s77 (Ne.symm n32)).spo s81 (Ne.symm n33);refine Nl (W.seq (W.block (Rg (Ol (St.fieldAddr Jz rfl (Ol (J27 o82 pl24 rfl rfl (Ol (St.len sl24 rfl (Ol (J3h rfl rfl (fun hc83=>?_) (fun hc83=>?_))))))))))))
 ·refine Om (Oz (Oz (Oz (Oz (OT (Oa (Nl (J26 rfl (Rg (Ol (J25 C80 Jz8 rfl rfl (J0e C80.bd (by decide) (by decide)) ?_)))))))))));intro v84 w85 C86 s87 h88;replace o31:=o31.spn s87;obtain⟨a89,c90,rfl,h91⟩:=RV.int h88;refine Ol (St.build (cs:=[(.bool false),(.slice none 0 0),(.bool (ofZ 1).neg),(.slice a89 (ofZ 1).mag.length c90)]) rfl (by kernel_rfl) (On (J3a (cs':=[(.bool false),(.slice none 0 0),(.bool (ofZ 1).neg),(.slice a89 (ofZ 1).mag.length c90)]) C86 o31 io28 rfl rfl rfl rfl rfl rfl ?_)));intro w92 C93 s94 o95;replace h91:=h91.sp s94;refine Nl (W.ret (J7 rfl (resV.c o95 rfl ag28 rfl) (Ret.intro ?_ C93.below)));exact J3l (a:=(⟨⟨false,[]⟩,⟨(ofZ 1).neg,(ofZ 1).mag⟩⟩:GRat)) ((Ke RS.nil h91).tr (Tr.weak C93.base)) ((Jdj (by first | (left;exact J8.1 (by omega)) | (right;exact J8.1 (by omega)))))
 refine Om (Og rfl rfl (St.fieldAddr Jz rfl (Og rfl rfl (J27 o78 pl24 rfl rfl (Og rfl rfl (St.len sl24 rfl (Og rfl rfl (J3h rfl rfl (fun hc96=>?_) (fun hc96=>?_)))))))))
 ·refine OF (Oa (Nl (J26 rfl (Rg (Ol (J25 C80 Jz8 rfl rfl (J0e C80.bd (by decide) (by decide)) ?_))))));intro v97 w98 C99 s100 h101;replace o31:=o31.spn s100;obtain⟨a102,c103,rfl,h104⟩:=RV.int h101;refine Ol (St.build (cs:=[(.bool false),(.slice none 0 0),(.bool (ofZ 1).neg),(.slice a102 (ofZ 1).mag.length c103)]) rfl (by kernel_rfl) (On (J3a (cs':=[(.bool false),(.slice none 0 0),(.bool (ofZ 1).neg),(.slice a102 (ofZ 1).mag.length c103)]) C99 o31 io28 rfl rfl rfl rfl rfl rfl ?_)));intro w105 C106 s107 o108;replace h104:=h104.sp s107;refine Nl (W.ret (J7 rfl (resV.c o108 rfl ag28 rfl) (Ret.intro ?_ C106.below)));exact J3l (a:=(⟨⟨false,[]⟩,⟨(ofZ 1).neg,(ofZ 1).mag⟩⟩:GRat)) ((Ke RS.nil h104).tr (Tr.weak C106.base)) ((Jdj (by first | (left;exact J8.1 (by omega)) | (right;exact J8.1 (by omega)))))
 refine OF (Oa (Nl (J28 rfl (W.seq ?_))));have hd0:d.toZ≠0:=fun e=>hc83 (by have:=J8.2 e;omega);refine W.region (Ol (St.fieldAddr Zv rfl (Ol (St.bool (J27 o82 pl4 rfl rfl ⟨_,rfl,fun hb109=>?_,fun hb109=>?_⟩)))))
 ·refine Oa (Nl (J26 rfl ?_));have hdp:0 < -d.toZ:=by have hh:=hb109;rw [Ja6,decide_eq_true_eq] at hh;omega
  refine J3m J5 3 [[],[0],[]] C80 [fx (.agg #[(.bool (ofZ n.toZ).neg),(.slice a63 (ofZ n.toZ).mag.length c64)]),fr Jx (ofZ (-n.toZ)),fx (.agg #[(.bool (ofZ d.toZ).neg),(.slice a72 (ofZ d.toZ).mag.length c73)])] (by kernel_rfl) ⟨sx,sr,sx,trivial⟩ fun f119 s120 w121 ⟨C124,S125⟩ k123=>?_
  replace h65:=(h65.sp s81).sp S125;replace h74:=h74.sp S125;replace o78:=o78.spn S125;replace o82:=o82.spn S125;replace o31:=o31.spn S125;have k123:Keep [26,27,28] _ f119:=k123;refine⟨⟨fun _=>?_,fun⟨e129,_⟩=>?_,fun _=>?_,trivial⟩,fun⟨e130,d131,e132,_⟩=>?_⟩
  ·exact Ja k123 aN fun _=>OpSt.op (J29 (vs:=[(.bool (ofZ n.toZ).neg),(.slice a63 (ofZ n.toZ).mag.length c64)]) o78 ag26 rfl rfl rfl ⟨s120,RC.same C124,rfl⟩)
  ·refine Ja k123 (aC e129 aN) fun _=>OpSt.op (J25 C124 Jt6 rfl rfl (Jmi C124.bd (a:=(ofZ n.toZ)) (Jo h65) (by omega)) ?_);intro v133 w134 C135 s136 h137;simp only [Jw,Xy] at h137;exact⟨s120,⟨C135,s136⟩,h137⟩
  ·exact Ja k123 aN fun _=>OpSt.op (J29 (vs:=[(.bool (ofZ d.toZ).neg),(.slice a72 (ofZ d.toZ).mag.length c73)]) o82 ag26 rfl rfl rfl ⟨s120,RC.same C124,rfl⟩)
  obtain⟨a139,c140,e138,h141⟩:=RV.int d131;obtain⟨f142,rfl⟩:=mixK k123 (aC e130 (aC e138 (aC e132 aN)));refine Ol (J25 C124 Jt6 rfl rfl (Jmi C124.bd (a:=(ofZ d.toZ)) (Jo h74) (by omega)) ?_);intro v143 w144 C145 s146 h147;replace o78:=o78.spn s146;simp only [Jw,Xy] at h147;obtain⟨a148,c149,rfl,h150⟩:=RV.int h147;refine On (J3a (cs':=[(.bool (ofZ (-n.toZ)).neg),(.slice a139 (ofZ (-n.toZ)).mag.length c140)]) C145 o78 io26 rfl rfl rfl rfl rfl rfl ?_);intro w151 C152 s153 o154;replace h141:=(h141.sp s146).sp s153;replace o82:=(o82.spn s146).spo s153 (Ne.symm n23);replace o31:=(o31.spn s146).spo s153 (Ne.symm n32);refine On (J3a (cs':=[(.bool (ofZ (-d.toZ)).neg),(.slice a148 (ofZ (-d.toZ)).mag.length c149)]) C152 o82 io26 rfl rfl rfl rfl rfl rfl ?_);intro w155 C156 s157 o158;replace h150:=(h150.sp s153).sp s157;refine Nl (Rh (Ol (J29 (vs:=[(.bool (ofZ (-d.toZ)).neg),(.slice a148 (ofZ (-d.toZ)).mag.length c149)]) o158 ag26 rfl rfl rfl (Ol (St.bool (J25 C156 Jnf rfl rfl (Jnb C156.bd (a:=(ofZ (-d.toZ))) (Jo h150)) ?_))))));intro v159 w160 C161 s162 h163;replace h141:=(h141.sp s157).sp s162;replace h150:=h150.sp s162;replace o154:=(o154.spo s157 n23).spn s162;replace o158:=o158.spn s162;replace o31:=(o31.spo s157 (Ne.symm n33)).spn s162;refine⟨_,h163,fun hb164=>?_,fun hb164=>?_⟩
  ·refine Nl (J26 rfl (Rg (Ol (J29 (vs:=[(.bool (ofZ (-n.toZ)).neg),(.slice a139 (ofZ (-n.toZ)).mag.length c140)]) o154 ag26 rfl rfl rfl (Ol (J29 (vs:=[(.bool (ofZ (-d.toZ)).neg),(.slice a148 (ofZ (-d.toZ)).mag.length c149)]) o158 ag26 rfl rfl rfl (Ol (St.build (cs:=[(.bool (ofZ (-n.toZ)).neg),(.slice a139 (ofZ (-n.toZ)).mag.length c140),(.bool (ofZ (-d.toZ)).neg),(.slice a148 (ofZ (-d.toZ)).mag.length c149)]) rfl (by kernel_rfl) ?_))))))));refine On (J3a (cs':=[(.bool (ofZ (-n.toZ)).neg),(.slice a139 (ofZ (-n.toZ)).mag.length c140),(.bool (ofZ (-d.toZ)).neg),(.slice a148 (ofZ (-d.toZ)).mag.length c149)]) C161 o31 io28 rfl rfl rfl rfl rfl rfl ?_);intro w165 C166 s167 o168;replace h141:=h141.sp s167;replace h150:=h150.sp s167;refine Nl (W.ret (J7 rfl (resV.c o168 rfl ag28 rfl) (Ret.intro ?_ C166.below)));exact J3l (a:=(⟨⟨(ofZ (-n.toZ)).neg,(ofZ (-n.toZ)).mag⟩,⟨(ofZ (-d.toZ)).neg,(ofZ (-d.toZ)).mag⟩⟩:GRat)) ((Ke h141 h150).tr (Tr.weak C166.base)) (Eq.trans ((by first | exact jg (Yt.1 (of_decide_eq_true (by assumption))) | exact V4 hdp (Yt.1 (of_decide_eq_true (by assumption))))) (congrArg ofQ (z8 _ _)))
  refine Nl (J28 rfl (W.skip (W.seq (W.seq ?_))));have hgm:=Jdv (n:=(-n.toZ)) (d:=(-d.toZ)) (by omega);have hgn:=Jp2 (n:=(-n.toZ)) (d:=(-d.toZ)) (by omega);refine W.region (Ol (J29 (vs:=[(.bool (ofZ (-n.toZ)).neg),(.slice a139 (ofZ (-n.toZ)).mag.length c140)]) o154 ag26 rfl rfl rfl (Ol (J29 (vs:=[(.bool (ofZ (-d.toZ)).neg),(.slice a148 (ofZ (-d.toZ)).mag.length c149)]) o158 ag26 rfl rfl rfl (Ol (J25 C161 Jwx rfl rfl (Jrd C161.bd (a:=(ofZ (-n.toZ))) (Jo h141) (b:=(ofZ (-d.toZ))) (Jo h150) (by first | omega | (rw [Z2];omega)) (by first | omega | (rw [Z2];omega))) ?_))))));intro v169 w170 C171 s172 h173;replace o154:=o154.spn s172;replace o158:=o158.spn s172;replace o31:=o31.spn s172;simp only [Jw,Xy] at h173;obtain⟨a174,c175,rfl,h176⟩:=RV.int h173;refine Ol (J3b C171 io26 rfl ?_);intro g177 w178 x179 y180 lt181 C182 s183 o184;have n185:=lt181 _ o154.blk.lt;have n186:=lt181 _ o158.blk.lt;have n187:=lt181 _ o31.blk.lt;replace h141:=(h141.sp s172).sp s183;replace h150:=(h150.sp s172).sp s183;replace o154:=o154.spn s183;replace o158:=o158.spn s183;replace o31:=o31.spn s183;refine On (J3a (cs':=[(.bool (ofZ (Int.gcd (-n.toZ) (-d.toZ):Int)).neg),(.slice a174 (ofZ (Int.gcd (-n.toZ) (-d.toZ):Int)).mag.length c175)]) C182 o184 io26 rfl rfl rfl rfl rfl rfl ?_);intro w188 C189 s190 o191;replace h176:=(h176.sp s183).sp s190;refine Nl (Rg (Ol (J29 (vs:=[(.bool (ofZ (Int.gcd (-n.toZ) (-d.toZ):Int)).neg),(.slice a174 (ofZ (Int.gcd (-n.toZ) (-d.toZ):Int)).mag.length c175)]) o191 ag26 rfl rfl rfl (Ol (St.bool (J25 C189 Jnf rfl rfl (Jnb C189.bd (a:=(ofZ (Int.gcd (-n.toZ) (-d.toZ):Int))) (Jo h176)) ?_))))));intro v192 w193 C194 s195 h196;replace h141:=(h141.sp s190).sp s195;replace h150:=(h150.sp s190).sp s195;replace h176:=h176.sp s195;replace o154:=(o154.spo s190 n185).spn s195;replace o158:=(o158.spo s190 n186).spn s195;replace o31:=(o31.spo s190 n187).spn s195;replace o191:=o191.spn s195;refine⟨_,h196,fun hb197=>?_,fun hb197=>?_⟩
  ·refine Ol (St.not rfl (Nl (J28 rfl (W.skip (Rg (Ol (J29 (vs:=[(.bool (ofZ (-n.toZ)).neg),(.slice a139 (ofZ (-n.toZ)).mag.length c140)]) o154 ag26 rfl rfl rfl (Ol (J29 (vs:=[(.bool (ofZ (-d.toZ)).neg),(.slice a148 (ofZ (-d.toZ)).mag.length c149)]) o158 ag26 rfl rfl rfl (Ol (St.build (cs:=[(.bool (ofZ (-n.toZ)).neg),(.slice a139 (ofZ (-n.toZ)).mag.length c140),(.bool (ofZ (-d.toZ)).neg),(.slice a148 (ofZ (-d.toZ)).mag.length c149)]) rfl (by kernel_rfl) ?_)))))))))));refine On (J3a (cs':=[(.bool (ofZ (-n.toZ)).neg),(.slice a139 (ofZ (-n.toZ)).mag.length c140),(.bool (ofZ (-d.toZ)).neg),(.slice a148 (ofZ (-d.toZ)).mag.length c149)]) C194 o31 io28 rfl rfl rfl rfl rfl rfl ?_);intro w198 C199 s200 o201;replace h141:=h141.sp s200;replace h150:=h150.sp s200;refine Nl (W.ret (J7 rfl (resV.c o201 rfl ag28 rfl) (Ret.intro ?_ C199.below)));exact J3l (a:=(⟨⟨(ofZ (-n.toZ)).neg,(ofZ (-n.toZ)).mag⟩,⟨(ofZ (-d.toZ)).neg,(ofZ (-d.toZ)).mag⟩⟩:GRat)) ((Ke h141 h150).tr (Tr.weak C199.base)) (Eq.trans ((by first | exact jg (Yt.1 (of_decide_eq_true (by assumption))) | exact V4 hdp (Yt.1 (of_decide_eq_true (by assumption))))) (congrArg ofQ (z8 _ _)))
  refine Ol (St.not rfl (Nl (J26 rfl (Rg (Ol (J29 (vs:=[(.bool (ofZ (-n.toZ)).neg),(.slice a139 (ofZ (-n.toZ)).mag.length c140)]) o154 ag26 rfl rfl rfl (Ol (J29 (vs:=[(.bool (ofZ (Int.gcd (-n.toZ) (-d.toZ):Int)).neg),(.slice a174 (ofZ (Int.gcd (-n.toZ) (-d.toZ):Int)).mag.length c175)]) o191 ag26 rfl rfl rfl (Ol (J25 C194 Jo3 rfl rfl (zy C194.bd (a:=(ofZ (-n.toZ))) (Jo h141) (b:=(ofZ (Int.gcd (-n.toZ) (-d.toZ):Int))) (Jo h176) (by first | omega | (rw [Z2];omega)) (by first | omega | (have h8:=hgm;rw [Z2] at h8;omega)) (by rw [Ki];omega) (by rw [Jw,Jw];exact Jch _ _)) ?_))))))))));intro v202 w203 C204 s205 h206;replace o154:=o154.spn s205;simp only [Jw,Xy] at h206;obtain⟨v207,v208,rfl,h209,rfl⟩:=h206;obtain⟨a211,c212,rfl,h213⟩:=RV.int h209;refine Om (Ol (St.extract rfl rfl (Ol (St.extract rfl rfl (On (J3a (cs':=[(.bool (ofZ ((-n.toZ) / (Int.gcd (-n.toZ) (-d.toZ):Int))).neg),(.slice a211 (ofZ ((-n.toZ) / (Int.gcd (-n.toZ) (-d.toZ):Int))).mag.length c212)]) C204 o154 io26 rfl rfl rfl rfl rfl rfl ?_))))));intro w214 C215 s216 o217;replace h150:=(h150.sp s205).sp s216;replace h176:=(h176.sp s205).sp s216;replace o158:=(o158.spn s205).spo s216 (Ne.symm n23);replace o31:=(o31.spn s205).spo s216 (Ne.symm n32);replace o191:=(o191.spn s205).spo s216 (Ne.symm n185);refine Nl (W.region (Ol (J29 (vs:=[(.bool (ofZ (-d.toZ)).neg),(.slice a148 (ofZ (-d.toZ)).mag.length c149)]) o158 ag26 rfl rfl rfl (Ol (J29 (vs:=[(.bool (ofZ (Int.gcd (-n.toZ) (-d.toZ):Int)).neg),(.slice a174 (ofZ (Int.gcd (-n.toZ) (-d.toZ):Int)).mag.length c175)]) o191 ag26 rfl rfl rfl (Ol (J25 C215 Jo3 rfl rfl (zy C215.bd (a:=(ofZ (-d.toZ))) (Jo h150) (b:=(ofZ (Int.gcd (-n.toZ) (-d.toZ):Int))) (Jo h176) (by first | omega | (rw [Z2];omega)) (by first | omega | (have h8:=hgm;rw [Z2] at h8;omega)) (by rw [Ki];omega) (by rw [Jw,Jw];exact Jc7 _ _)) ?_)))))));intro v218 w219 C220 s221 h222;replace h213:=(h213.sp s216).sp s221;replace o158:=o158.spn s221;simp only [Jw,Xy] at h222;obtain⟨v223,v224,rfl,h225,rfl⟩:=h222;obtain⟨a227,c228,rfl,h229⟩:=RV.int h225;refine Om (Ol (St.extract rfl rfl (Ol (St.extract rfl rfl (On (J3a (cs':=[(.bool (ofZ ((-d.toZ) / (Int.gcd (-n.toZ) (-d.toZ):Int))).neg),(.slice a227 (ofZ ((-d.toZ) / (Int.gcd (-n.toZ) (-d.toZ):Int))).mag.length c228)]) C220 o158 io26 rfl rfl rfl rfl rfl rfl ?_))))));intro w230 C231 s232 o233;replace o217:=(o217.spn s221).spo s232 n23;replace o31:=(o31.spn s221).spo s232 (Ne.symm n33);refine Nl (Rg (Ol (J29 (vs:=[(.bool (ofZ ((-n.toZ) / (Int.gcd (-n.toZ) (-d.toZ):Int))).neg),(.slice a211 (ofZ ((-n.toZ) / (Int.gcd (-n.toZ) (-d.toZ):Int))).mag.length c212)]) o217 ag26 rfl rfl rfl (Ol (J29 (vs:=[(.bool (ofZ ((-d.toZ) / (Int.gcd (-n.toZ) (-d.toZ):Int))).neg),(.slice a227 (ofZ ((-d.toZ) / (Int.gcd (-n.toZ) (-d.toZ):Int))).mag.length c228)]) o233 ag26 rfl rfl rfl ?_)))));refine Ol (St.build (cs:=[(.bool (ofZ ((-n.toZ) / (Int.gcd (-n.toZ) (-d.toZ):Int))).neg),(.slice a211 (ofZ ((-n.toZ) / (Int.gcd (-n.toZ) (-d.toZ):Int))).mag.length c212),(.bool (ofZ ((-d.toZ) / (Int.gcd (-n.toZ) (-d.toZ):Int))).neg),(.slice a227 (ofZ ((-d.toZ) / (Int.gcd (-n.toZ) (-d.toZ):Int))).mag.length c228)]) rfl (by kernel_rfl) (On (J3a (cs':=[(.bool (ofZ ((-n.toZ) / (Int.gcd (-n.toZ) (-d.toZ):Int))).neg),(.slice a211 (ofZ ((-n.toZ) / (Int.gcd (-n.toZ) (-d.toZ):Int))).mag.length c212),(.bool (ofZ ((-d.toZ) / (Int.gcd (-n.toZ) (-d.toZ):Int))).neg),(.slice a227 (ofZ ((-d.toZ) / (Int.gcd (-n.toZ) (-d.toZ):Int))).mag.length c228)]) C231 o31 io28 rfl rfl rfl rfl rfl rfl ?_)))
  intro w234 C235 s236 o237;replace h213:=(h213.sp s232).sp s236;replace h229:=(h229.sp s232).sp s236;refine Nl (W.ret (J7 rfl (resV.c o237 rfl ag28 rfl) (Ret.intro ?_ C235.below)));exact J3l (a:=(⟨⟨(ofZ ((-n.toZ) / (Int.gcd (-n.toZ) (-d.toZ):Int))).neg,(ofZ ((-n.toZ) / (Int.gcd (-n.toZ) (-d.toZ):Int))).mag⟩,⟨(ofZ ((-d.toZ) / (Int.gcd (-n.toZ) (-d.toZ):Int))).neg,(ofZ ((-d.toZ) / (Int.gcd (-n.toZ) (-d.toZ):Int))).mag⟩⟩:GRat)) ((Ke h213 h229).tr (Tr.weak C235.base)) (Eq.trans (yd hdp) (congrArg ofQ (z8 _ _)))
 refine Oa (Nl (J28 rfl (W.skip (W.seq (W.seq ?_)))));have hdp:0 < d.toZ:=by have hh:=hb109;rw [Ja6,decide_eq_false_iff_not] at hh;omega
 refine W.region (Ol (J29 (vs:=[(.bool (ofZ d.toZ).neg),(.slice a72 (ofZ d.toZ).mag.length c73)]) o82 ag26 rfl rfl rfl (Ol (St.bool (J25 C80 Jnf rfl rfl (Jnb C80.bd (a:=(ofZ d.toZ)) (Jo h74)) ?_)))));intro v238 w239 C240 s241 h242;replace h65:=(h65.sp s81).sp s241;replace h74:=h74.sp s241;replace o78:=o78.spn s241;replace o82:=o82.spn s241;replace o31:=o31.spn s241;refine⟨_,h242,fun hb243=>?_,fun hb243=>?_⟩
 ·refine Nl (J26 rfl (Rg (Ol (J29 (vs:=[(.bool (ofZ n.toZ).neg),(.slice a63 (ofZ n.toZ).mag.length c64)]) o78 ag26 rfl rfl rfl (Ol (J29 (vs:=[(.bool (ofZ d.toZ).neg),(.slice a72 (ofZ d.toZ).mag.length c73)]) o82 ag26 rfl rfl rfl (Ol (St.build (cs:=[(.bool (ofZ n.toZ).neg),(.slice a63 (ofZ n.toZ).mag.length c64),(.bool (ofZ d.toZ).neg),(.slice a72 (ofZ d.toZ).mag.length c73)]) rfl (by kernel_rfl) ?_))))))));refine On (J3a (cs':=[(.bool (ofZ n.toZ).neg),(.slice a63 (ofZ n.toZ).mag.length c64),(.bool (ofZ d.toZ).neg),(.slice a72 (ofZ d.toZ).mag.length c73)]) C240 o31 io28 rfl rfl rfl rfl rfl rfl ?_);intro w244 C245 s246 o247;replace h65:=h65.sp s246;replace h74:=h74.sp s246;refine Nl (W.ret (J7 rfl (resV.c o247 rfl ag28 rfl) (Ret.intro ?_ C245.below)));exact J3l (a:=(⟨⟨(ofZ n.toZ).neg,(ofZ n.toZ).mag⟩,⟨(ofZ d.toZ).neg,(ofZ d.toZ).mag⟩⟩:GRat)) ((Ke h65 h74).tr (Tr.weak C245.base)) ((by first | exact jg (Yt.1 (of_decide_eq_true (by assumption))) | exact V4 hdp (Yt.1 (of_decide_eq_true (by assumption)))))
 refine Nl (J28 rfl (W.skip (W.seq (W.seq ?_))));have hgm:=Jdv (n:=n.toZ) (d:=d.toZ) (by omega);have hgn:=Jp2 (n:=n.toZ) (d:=d.toZ) (by omega);refine W.region (Ol (J29 (vs:=[(.bool (ofZ n.toZ).neg),(.slice a63 (ofZ n.toZ).mag.length c64)]) o78 ag26 rfl rfl rfl (Ol (J29 (vs:=[(.bool (ofZ d.toZ).neg),(.slice a72 (ofZ d.toZ).mag.length c73)]) o82 ag26 rfl rfl rfl (Ol (J25 C240 Jwx rfl rfl (Jrd C240.bd (a:=(ofZ n.toZ)) (Jo h65) (b:=(ofZ d.toZ)) (Jo h74) (by first | omega | (rw [Z2];omega)) (by first | omega | (rw [Z2];omega))) ?_))))));intro v248 w249 C250 s251 h252;replace o78:=o78.spn s251;replace o82:=o82.spn s251;replace o31:=o31.spn s251;simp only [Jw,Xy] at h252;obtain⟨a253,c254,rfl,h255⟩:=RV.int h252;refine Ol (J3b C250 io26 rfl ?_);intro g256 w257 x258 y259 lt260 C261 s262 o263;have n264:=lt260 _ o78.blk.lt;have n265:=lt260 _ o82.blk.lt;have n266:=lt260 _ o31.blk.lt;replace h65:=(h65.sp s251).sp s262;replace h74:=(h74.sp s251).sp s262;replace o78:=o78.spn s262;replace o82:=o82.spn s262;replace o31:=o31.spn s262;refine On (J3a (cs':=[(.bool (ofZ (Int.gcd n.toZ d.toZ:Int)).neg),(.slice a253 (ofZ (Int.gcd n.toZ d.toZ:Int)).mag.length c254)]) C261 o263 io26 rfl rfl rfl rfl rfl rfl ?_);intro w267 C268 s269 o270;replace h255:=(h255.sp s262).sp s269;refine Nl (Rg (Ol (J29 (vs:=[(.bool (ofZ (Int.gcd n.toZ d.toZ:Int)).neg),(.slice a253 (ofZ (Int.gcd n.toZ d.toZ:Int)).mag.length c254)]) o270 ag26 rfl rfl rfl (Ol (St.bool (J25 C268 Jnf rfl rfl (Jnb C268.bd (a:=(ofZ (Int.gcd n.toZ d.toZ:Int))) (Jo h255)) ?_))))));intro v271 w272 C273 s274 h275;replace h65:=(h65.sp s269).sp s274;replace h74:=(h74.sp s269).sp s274;replace h255:=h255.sp s274;replace o78:=(o78.spo s269 n264).spn s274;replace o82:=(o82.spo s269 n265).spn s274;replace o31:=(o31.spo s269 n266).spn s274;replace o270:=o270.spn s274;refine⟨_,h275,fun hb276=>?_,fun hb276=>?_⟩
 ·refine Ol (St.not rfl (Nl (J28 rfl (W.skip (Rg (Ol (J29 (vs:=[(.bool (ofZ n.toZ).neg),(.slice a63 (ofZ n.toZ).mag.length c64)]) o78 ag26 rfl rfl rfl (Ol (J29 (vs:=[(.bool (ofZ d.toZ).neg),(.slice a72 (ofZ d.toZ).mag.length c73)]) o82 ag26 rfl rfl rfl (Ol (St.build (cs:=[(.bool (ofZ n.toZ).neg),(.slice a63 (ofZ n.toZ).mag.length c64),(.bool (ofZ d.toZ).neg),(.slice a72 (ofZ d.toZ).mag.length c73)]) rfl (by kernel_rfl) ?_)))))))))));refine On (J3a (cs':=[(.bool (ofZ n.toZ).neg),(.slice a63 (ofZ n.toZ).mag.length c64),(.bool (ofZ d.toZ).neg),(.slice a72 (ofZ d.toZ).mag.length c73)]) C273 o31 io28 rfl rfl rfl rfl rfl rfl ?_);intro w277 C278 s279 o280;replace h65:=h65.sp s279;replace h74:=h74.sp s279;refine Nl (W.ret (J7 rfl (resV.c o280 rfl ag28 rfl) (Ret.intro ?_ C278.below)));exact J3l (a:=(⟨⟨(ofZ n.toZ).neg,(ofZ n.toZ).mag⟩,⟨(ofZ d.toZ).neg,(ofZ d.toZ).mag⟩⟩:GRat)) ((Ke h65 h74).tr (Tr.weak C278.base)) ((by first | exact jg (Yt.1 (of_decide_eq_true (by assumption))) | exact V4 hdp (Yt.1 (of_decide_eq_true (by assumption)))))
 refine Ol (St.not rfl (Nl (J26 rfl (Rg (Ol (J29 (vs:=[(.bool (ofZ n.toZ).neg),(.slice a63 (ofZ n.toZ).mag.length c64)]) o78 ag26 rfl rfl rfl (Ol (J29 (vs:=[(.bool (ofZ (Int.gcd n.toZ d.toZ:Int)).neg),(.slice a253 (ofZ (Int.gcd n.toZ d.toZ:Int)).mag.length c254)]) o270 ag26 rfl rfl rfl (Ol (J25 C273 Jo3 rfl rfl (zy C273.bd (a:=(ofZ n.toZ)) (Jo h65) (b:=(ofZ (Int.gcd n.toZ d.toZ:Int))) (Jo h255) (by first | omega | (rw [Z2];omega)) (by first | omega | (have h8:=hgm;rw [Z2] at h8;omega)) (by rw [Ki];omega) (by rw [Jw,Jw];exact Jch _ _)) ?_))))))))));intro v281 w282 C283 s284 h285;replace o78:=o78.spn s284;simp only [Jw,Xy] at h285;obtain⟨v286,v287,rfl,h288,rfl⟩:=h285;obtain⟨a290,c291,rfl,h292⟩:=RV.int h288;refine Om (Ol (St.extract rfl rfl (Ol (St.extract rfl rfl (On (J3a (cs':=[(.bool (ofZ (n.toZ / (Int.gcd n.toZ d.toZ:Int))).neg),(.slice a290 (ofZ (n.toZ / (Int.gcd n.toZ d.toZ:Int))).mag.length c291)]) C283 o78 io26 rfl rfl rfl rfl rfl rfl ?_))))));intro w293 C294 s295 o296;replace h74:=(h74.sp s284).sp s295;replace h255:=(h255.sp s284).sp s295;replace o82:=(o82.spn s284).spo s295 (Ne.symm n23);replace o31:=(o31.spn s284).spo s295 (Ne.symm n32);replace o270:=(o270.spn s284).spo s295 (Ne.symm n264);refine Nl (W.region (Ol (J29 (vs:=[(.bool (ofZ d.toZ).neg),(.slice a72 (ofZ d.toZ).mag.length c73)]) o82 ag26 rfl rfl rfl (Ol (J29 (vs:=[(.bool (ofZ (Int.gcd n.toZ d.toZ:Int)).neg),(.slice a253 (ofZ (Int.gcd n.toZ d.toZ:Int)).mag.length c254)]) o270 ag26 rfl rfl rfl (Ol (J25 C294 Jo3 rfl rfl (zy C294.bd (a:=(ofZ d.toZ)) (Jo h74) (b:=(ofZ (Int.gcd n.toZ d.toZ:Int))) (Jo h255) (by first | omega | (rw [Z2];omega)) (by first | omega | (have h8:=hgm;rw [Z2] at h8;omega)) (by rw [Ki];omega) (by rw [Jw,Jw];exact Jc7 _ _)) ?_)))))));intro v297 w298 C299 s300 h301;replace h292:=(h292.sp s295).sp s300;replace o82:=o82.spn s300;simp only [Jw,Xy] at h301;obtain⟨v302,v303,rfl,h304,rfl⟩:=h301;obtain⟨a306,c307,rfl,h308⟩:=RV.int h304;refine Om (Ol (St.extract rfl rfl (Ol (St.extract rfl rfl (On (J3a (cs':=[(.bool (ofZ (d.toZ / (Int.gcd n.toZ d.toZ:Int))).neg),(.slice a306 (ofZ (d.toZ / (Int.gcd n.toZ d.toZ:Int))).mag.length c307)]) C299 o82 io26 rfl rfl rfl rfl rfl rfl ?_))))));intro w309 C310 s311 o312;replace o296:=(o296.spn s300).spo s311 n23;replace o31:=(o31.spn s300).spo s311 (Ne.symm n33);refine Nl (Rg (Ol (J29 (vs:=[(.bool (ofZ (n.toZ / (Int.gcd n.toZ d.toZ:Int))).neg),(.slice a290 (ofZ (n.toZ / (Int.gcd n.toZ d.toZ:Int))).mag.length c291)]) o296 ag26 rfl rfl rfl (Ol (J29 (vs:=[(.bool (ofZ (d.toZ / (Int.gcd n.toZ d.toZ:Int))).neg),(.slice a306 (ofZ (d.toZ / (Int.gcd n.toZ d.toZ:Int))).mag.length c307)]) o312 ag26 rfl rfl rfl ?_)))));refine Ol (St.build (cs:=[(.bool (ofZ (n.toZ / (Int.gcd n.toZ d.toZ:Int))).neg),(.slice a290 (ofZ (n.toZ / (Int.gcd n.toZ d.toZ:Int))).mag.length c291),(.bool (ofZ (d.toZ / (Int.gcd n.toZ d.toZ:Int))).neg),(.slice a306 (ofZ (d.toZ / (Int.gcd n.toZ d.toZ:Int))).mag.length c307)]) rfl (by kernel_rfl) (On (J3a (cs':=[(.bool (ofZ (n.toZ / (Int.gcd n.toZ d.toZ:Int))).neg),(.slice a290 (ofZ (n.toZ / (Int.gcd n.toZ d.toZ:Int))).mag.length c291),(.bool (ofZ (d.toZ / (Int.gcd n.toZ d.toZ:Int))).neg),(.slice a306 (ofZ (d.toZ / (Int.gcd n.toZ d.toZ:Int))).mag.length c307)]) C310 o31 io28 rfl rfl rfl rfl rfl rfl ?_)))
 intro w313 C314 s315 o316;replace h292:=(h292.sp s311).sp s315;replace h308:=(h308.sp s311).sp s315;refine Nl (W.ret (J7 rfl (resV.c o316 rfl ag28 rfl) (Ret.intro ?_ C314.below)));exact J3l (a:=(⟨⟨(ofZ (n.toZ / (Int.gcd n.toZ d.toZ:Int))).neg,(ofZ (n.toZ / (Int.gcd n.toZ d.toZ:Int))).mag⟩,⟨(ofZ (d.toZ / (Int.gcd n.toZ d.toZ:Int))).neg,(ofZ (d.toZ / (Int.gcd n.toZ d.toZ:Int))).mag⟩⟩:GRat)) ((Ke h292 h308).tr (Tr.weak C314.base)) (yd hdp)
end Go.Wf
namespace Go.Wf
open Go
theorem Jbo(n d:Int):(Rat.divInt n d).num.natAbs≤n.natAbs:=by
 rw [Rat.num_divInt];refine Nat.le_trans (Int.natAbs_ediv_le_natAbs _ _) ?_;rw [Int.natAbs_mul]
 have:d.sign.natAbs≤1:=by
  rcases Int.lt_trichotomy d 0 with h | h | h
  ·rw [Int.sign_eq_neg_one_of_neg h];decide
  ·rw [h];decide
  ·rw [Int.sign_eq_one_of_pos h];decide
 calc d.sign.natAbs * n.natAbs≤1 * n.natAbs:=Nat.mul_le_mul_right _ this
  _=n.natAbs:=Nat.one_mul _
theorem Jaj(n d:Int):(Rat.divInt n d).den≤max 1 d.natAbs:=by
 rw [Rat.den_divInt]
 split
 ·exact Nat.le_max_left _ _
 ·exact Nat.le_trans (Nat.div_le_self _ _) (Nat.le_max_right _ _)
theorem Jiu:(digs 1).length=1:=by rw [Jas (by decide) (by decide)];rfl
theorem Jew(n d:Int):(ofQ (Rat.divInt n d)).num.mag.length≤(ofZ n).mag.length:=vi (Jbo n d)
theorem Jeo(n d:Int):(ofQ (Rat.divInt n d)).den.mag.length≤(ofZ d).mag.length+1:=by
 have h:=Jaj n d
 show(digs _).length≤(digs d.natAbs).length+1
 have e:((Rat.divInt n d).den:Int).natAbs=(Rat.divInt n d).den:=by simp
 rw [e];refine Nat.le_trans (kj h) ?_
 rcases Nat.le_total 1 d.natAbs with h1 | h1
 ·rw [Nat.max_eq_right h1];omega
 ·rw [Nat.max_eq_left h1,Jiu];omega
theorem Jke{a:GRat}(sn:Jr a.num.mag):(ofQ a.q).num.mag.length≤a.num.mag.length:=Nat.le_trans (Jew _ _) (Za sn)
theorem Jmm{a:GRat}(sd:Jr a.den.mag):(ofQ a.q).den.mag.length≤a.den.mag.length+1:=by
 have h1:=Jeo a.num.toZ a.den.toZ;have h2:=Za sd;unfold GRat.q;omega
theorem Jtn(z:Int): -1≤z.sign∧z.sign≤1:=by
 rcases Int.lt_trichotomy z 0 with h | h | h
 ·rw [Int.sign_eq_neg_one_of_neg h];omega
 ·rw [h];simp
 ·rw [Int.sign_eq_one_of_pos h];omega
theorem yz(x y:Int): -9223372036854775808≤x.sign * y.sign∧x.sign * y.sign≤9223372036854775807:=by
 rw [← Int.sign_mul]
 have:=Jtn (x * y)
 omega
end Go.Wf
namespace Go.Wf
open Go Go.Proofs Go.RowKit
theorem Jld{X:Nat→Prop}{w:World}(hX:XB X w){v0:Value}{a:GRat}(r0:RV Xk X w v0 a)(hln:a.num.mag.length≤274877906944)(hld:a.den.mag.length≤274877906944):Calls Tryz.prog 92 #[v0] w (Ret w fun v w'=>RV Xk X w' v (ofQ a.q)):=by
 obtain⟨a1,c2,a3,c4,rfl,h5,h6⟩:=J34 r0;have C:=Cx.start hX;have sn:=r0.rat_small.1;have sd:=r0.rat_small.2;refine Cgo (args:=[(.agg #[(.bool a.num.neg),(.slice a1 a.num.mag.length c2),(.bool a.den.neg),(.slice a3 a.den.mag.length c4)])]) Tryz.func92 rfl rfl rfl (Rg (Ol (J3g C rfl ?_)));intro g7 w8 x9 y10 lt11 C12 s13 o14;refine Ol (J3b C12 io28 rfl ?_);intro g15 w16 x17 y18 lt19 C20 s21 o22;replace h5:=(h5.sp s13).sp s21;replace h6:=(h6.sp s13).sp s21;replace o14:=o14.spn s21;refine Nl (Rg (Ol (St.fieldAddr Qk rfl (Ol (J29 (vs:=[(.bool a.num.neg),(.slice a1 a.num.mag.length c2)]) o14 ag26 rfl rfl rfl (Ol (St.fieldAddr Qr rfl (Ol (J29 (vs:=[(.bool a.den.neg),(.slice a3 a.den.mag.length c4)]) o14 ag26 rfl rfl rfl (Ol (J25 C20 Jx3 rfl rfl (Jq9 C20.bd (n:=a.num) (Jo h5) (d:=a.den) (Jo h6) (by omega) (by omega)) ?_)))))))))));intro v24 w25 C26 s27 h28;replace o22:=o22.spn s27;obtain⟨a29,c30,a31,c32,rfl,h33,h34⟩:=J34 h28;refine On (J3a (cs':=[(.bool (ofQ (Rat.divInt a.num.toZ a.den.toZ)).num.neg),(.slice a29 (ofQ (Rat.divInt a.num.toZ a.den.toZ)).num.mag.length c30),(.bool (ofQ (Rat.divInt a.num.toZ a.den.toZ)).den.neg),(.slice a31 (ofQ (Rat.divInt a.num.toZ a.den.toZ)).den.mag.length c32)]) C26 o22 io28 rfl rfl rfl rfl rfl rfl ?_);intro w35 C36 s37 o38;replace h33:=h33.sp s37;replace h34:=h34.sp s37;refine Nl (W.ret (J7 rfl (resV.c o38 rfl ag28 rfl) (Ret.intro ?_ C36.below)));exact J3l (a:=(ofQ (Rat.divInt a.num.toZ a.den.toZ))) ((Ke h33 h34).tr (Tr.weak C36.base)) rfl
theorem c_rneg{X:Nat→Prop}{w:World}(hX:XB X w){v0:Value}{a:GRat}(r0:RV Xk X w v0 a)(hln:a.num.mag.length≤274877906944)(hld:a.den.mag.length≤274877906944):Calls Tryz.prog 106 #[v0] w (Ret w fun v w'=>RV Xk X w' v (ofQ (-a.q))):=by
 obtain⟨a1,c2,a3,c4,rfl,h5,h6⟩:=J34 r0;have C:=Cx.start hX;have sn:=r0.rat_small.1;have sd:=r0.rat_small.2;have hN:=Za sn;refine Cgo (args:=[(.agg #[(.bool a.num.neg),(.slice a1 a.num.mag.length c2),(.bool a.den.neg),(.slice a3 a.den.mag.length c4)])]) Tryz.func106 rfl rfl rfl (Rg (Ol (J3g C rfl ?_)));intro g7 w8 x9 y10 lt11 C12 s13 o14;replace h5:=h5.sp s13;replace h6:=h6.sp s13;refine Ol (J3b C12 io28 rfl ?_);intro g15 w16 x17 y18 lt19 C20 s21 o22;refine Nl (W.seq (J3m J5 5 [[],[0],[1],[],[3]] C20 [fx (.pointer (some ⟨g7,0,none⟩)),fx (.agg #[(.bool a.num.neg),(.slice a1 a.num.mag.length c2)]),fr Jx (ofZ (-a.num.toZ)),fx (.pointer (some ⟨g7,2,none⟩)),fx (.agg #[(.bool a.den.neg),(.slice a3 a.den.mag.length c4)])] (by kernel_rfl) ⟨sx,sx,sr,sx,sx,trivial⟩ fun f33 s34 w35 ⟨C38,S39⟩ k37=>?_))
 replace h5:=(h5.sp s21).sp S39;replace h6:=(h6.sp s21).sp S39;replace o14:=(o14.spn s21).spn S39;have k37:Keep [3,4,5,6,7] _ f33:=k37;refine⟨⟨fun _=>?_,fun⟨e42,_⟩=>?_,fun⟨e43,_⟩=>?_,fun _=>?_,fun⟨e44,_⟩=>?_,trivial⟩,fun⟨e45,e46,d47,e48,e49,_⟩=>?_⟩
 ·exact Ja k37 aN fun _=>OpSt.op (St.fieldAddr Qk rfl ⟨s34,RC.same C38,rfl⟩)
 ·exact Ja k37 (aC e42 aN) fun _=>OpSt.op (J29 (vs:=[(.bool a.num.neg),(.slice a1 a.num.mag.length c2)]) o14 ag26 rfl rfl rfl ⟨s34,RC.same C38,rfl⟩)
 ·refine Ja k37 (aC e43 aN) fun _=>OpSt.op (J25 C38 Jt6 rfl rfl (Jmi C38.bd (a:=a.num) (Jo h5) (by omega)) ?_);intro v50 w51 C52 s53 h54;exact⟨s34,⟨C52,s53⟩,h54⟩
 ·exact Ja k37 aN fun _=>OpSt.op (St.fieldAddr Qr rfl ⟨s34,RC.same C38,rfl⟩)
 ·exact Ja k37 (aC e44 aN) fun _=>OpSt.op (J29 (vs:=[(.bool a.den.neg),(.slice a3 a.den.mag.length c4)]) o14 ag26 rfl rfl rfl ⟨s34,RC.same C38,rfl⟩)
 obtain⟨a56,c57,e55,h58⟩:=RV.int d47;obtain⟨f59,rfl⟩:=mixK k37 (aC e45 (aC e46 (aC e55 (aC e48 (aC e49 aN)))));refine Ol (J25 C38 Jx3 rfl rfl (Jq9 C38.bd (n:=(ofZ (-a.num.toZ))) (Jo h58) (d:=a.den) (Jo h6) (by rw [Z2];omega) (by omega)) ?_);intro v60 w61 C62 s63 h64;replace o22:=(o22.spn S39).spn s63;simp only [Jw,Xy] at h64;obtain⟨a65,c66,a67,c68,rfl,h69,h70⟩:=J34 h64;refine On (J3a (cs':=[(.bool (ofQ (Rat.divInt (-a.num.toZ) a.den.toZ)).num.neg),(.slice a65 (ofQ (Rat.divInt (-a.num.toZ) a.den.toZ)).num.mag.length c66),(.bool (ofQ (Rat.divInt (-a.num.toZ) a.den.toZ)).den.neg),(.slice a67 (ofQ (Rat.divInt (-a.num.toZ) a.den.toZ)).den.mag.length c68)]) C62 o22 io28 rfl rfl rfl rfl rfl rfl ?_);intro w71 C72 s73 o74;replace h69:=h69.sp s73;replace h70:=h70.sp s73;refine Nl (W.ret (J7 rfl (resV.c o74 rfl ag28 rfl) (Ret.intro ?_ C72.below)));exact J3l (a:=(ofQ (Rat.divInt (-a.num.toZ) a.den.toZ))) ((Ke h69 h70).tr (Tr.weak C72.base)) (congrArg ofQ (Jxw a))
theorem Jbc{X:Nat→Prop}{w:World}(hX:XB X w){v0:Value}{a:GRat}(r0:RV Xk X w v0 a)(hln:a.num.mag.length≤1099511627776)(hld:a.den.mag.length≤1099511627776):Calls Tryz.prog 121 #[v0] w (Ret w fun v w'=>v=(.int .i64 (qm a.q))):=by
 obtain⟨a1,c2,a3,c4,rfl,h5,h6⟩:=J34 r0;have C:=Cx.start hX;have sn:=r0.rat_small.1;have sd:=r0.rat_small.2;have hb1:=yz a.num.toZ a.den.toZ;refine Cgo (args:=[(.agg #[(.bool a.num.neg),(.slice a1 a.num.mag.length c2),(.bool a.den.neg),(.slice a3 a.den.mag.length c4)])]) Tryz.func121 rfl rfl rfl (Rg (Ol (J3g C rfl ?_)));intro g7 w8 x9 y10 lt11 C12 s13 o14;refine Oa (Nl (W.seq (J3m J5 5 [[],[0],[1],[],[3]] C12 [fx (.pointer (some ⟨g7,0,none⟩)),fx (.agg #[(.bool a.num.neg),(.slice a1 a.num.mag.length c2)]),fx (.int .i64 a.num.toZ.sign),fx (.pointer (some ⟨g7,2,none⟩)),fx (.agg #[(.bool a.den.neg),(.slice a3 a.den.mag.length c4)])] (by kernel_rfl) ⟨sx,sx,sx,sx,sx,trivial⟩ fun f21 s22 w23 ⟨C26,S27⟩ k25=>?_)))
 replace h5:=(h5.sp s13).sp S27;replace h6:=(h6.sp s13).sp S27;replace o14:=o14.spn S27;have k25:Keep [3,4,5,6,7] _ f21:=k25;refine⟨⟨fun _=>?_,fun⟨e29,_⟩=>?_,fun⟨e30,_⟩=>?_,fun _=>?_,fun⟨e31,_⟩=>?_,trivial⟩,fun⟨e32,e33,e34,e35,e36,_⟩=>?_⟩
 ·exact Ja k25 aN fun _=>OpSt.op (St.fieldAddr Qk rfl ⟨s22,RC.same C26,rfl⟩)
 ·exact Ja k25 (aC e29 aN) fun _=>OpSt.op (J29 (vs:=[(.bool a.num.neg),(.slice a1 a.num.mag.length c2)]) o14 ag26 rfl rfl rfl ⟨s22,RC.same C26,rfl⟩)
 ·refine Ja k25 (aC e30 aN) fun _=>OpSt.op (J25 C26 J0b rfl rfl (Ji5 C26.bd (a:=a.num) (Jo h5) (by omega)) ?_);intro v37 w38 C39 s40 h41;exact⟨s22,⟨C39,s40⟩,h41⟩
 ·exact Ja k25 aN fun _=>OpSt.op (St.fieldAddr Qr rfl ⟨s22,RC.same C26,rfl⟩)
 ·exact Ja k25 (aC e31 aN) fun _=>OpSt.op (J29 (vs:=[(.bool a.den.neg),(.slice a3 a.den.mag.length c4)]) o14 ag26 rfl rfl rfl ⟨s22,RC.same C26,rfl⟩)
 obtain⟨f42,rfl⟩:=mixK k25 (aC e32 (aC e33 (aC e34 (aC e35 (aC e36 aN)))));refine Ol (J25 C26 J0b rfl rfl (Ji5 C26.bd (a:=a.den) (Jo h6) (by omega)) ?_);intro v43 w44 C45 s46 h47;subst h47;exact Ol (St.mul (z:=(a.num.toZ.sign * a.den.toZ.sign)) rfl rfl (IntWalk.i64_in _ (by omega)) (Oa (Nl (W.ret (Wq rfl rfl C45 (congrArg (Value.int _) (Jqs a)))))))
end Go.Wf
namespace Go.Wf
open Go
theorem Jlm{a:GInt}(sa:Jr a.mag){b:Bool}(hb:b=(a.neg && decide (0 < (trim a.mag).length))):(⟨b,trim a.mag⟩:GInt)=ofZ a.toZ:=by
 subst hb;have h:=Jkr (b:=a.neg) sa;unfold mkSg at h;exact h
theorem Jad{x y:Nat}:cmpN x y= -1↔x < y:=by
 unfold cmpN
 split
 ·exact⟨fun _=>by assumption,fun _=>rfl⟩
 ·split <;> constructor <;> intro h <;> omega
theorem Jjd{a b:List Nat}(ha:trim a=a)(hb:trim b=b)(sa:Jr a)(sb:Jr b)(h:¬ a.length=b.length):decide (((a.length:Nat):Int) < ((b.length:Nat):Int))=decide (val a < val b):=by
 rcases Nat.lt_or_ge a.length b.length with hl | hl
 ·rw [decide_eq_true (by omega),decide_eq_true (Ye hb sa hl)]
 ·have:=Ye ha sb (by omega)
  rw [decide_eq_false (by omega),decide_eq_false (by omega)]
theorem Jlx{a b:List Nat}{j:Nat}(sa:Jr a)(sb:Jr b)(hl:j≤a.length)(hab:a.length=b.length)(h0:0 < j)(h:¬ ((a.getD (j - 1) 0:Nat):Int)=((b.getD (j - 1) 0:Nat):Int))(heq:a.drop j=b.drop j):
  decide (((a.getD (j - 1) 0:Nat):Int) < ((b.getD (j - 1) 0:Nat):Int))=decide (val a < val b):=by
 rcases Nat.lt_or_ge (a.getD (j - 1) 0) (b.getD (j - 1) 0) with hd | hd
 ·have:=(Jij sa sb hl hab h0 hd heq).symm
  rw [decide_eq_true (by omega),decide_eq_true (Jad.1 this)]
 ·have:=(Jq0 sa sb hl hab h0 (by omega) (by omega) heq).symm
  rw [decide_eq_false (by omega),decide_eq_false (fun h=>by have h2:=Jad.2 h;omega)]
theorem Jm7{a b:List Nat}{j:Nat}(h:j=0)(heq:a.drop j=b.drop j):false=decide (val a < val b):=by
 have:=Jqq h heq
 exact(decide_eq_false fun h=>by have h2:=Jad.2 h;omega).symm
theorem ju{a b p:List Nat}{i c s:Nat}(hp:p.length=i)(hv:val p+4294967296 ^ i * c=val (a.take i)+val (b.take i))(hs:s=c+a.getD i 0+b.getD i 0):
  val (p++[s % 4294967296])+4294967296 ^ (i+1) * (s / 4294967296)=val (a.take (i+1))+val (b.take (i+1)):=by
 rw [Z1,Jp,Jp,hp,Nat.pow_succ,Nat.mul_assoc,Nat.add_assoc,← Nat.mul_add,Nat.mod_add_div,hs,Nat.mul_add,Nat.mul_add];omega
theorem Jkt{a b p:List Nat}{i c:Nat}(sp:Jr p)(hp:p.length=i)(hi:i=max a.length b.length)(hc:c≤1)(hv:val p+4294967296 ^ i * c=val (a.take i)+val (b.take i)):
  p++[c % 4294967296]=Jt (max a.length b.length+1) (val a+val b):=by
 rw [Nat.mod_eq_of_lt (by omega)];rw [List.take_of_length_le (by omega),List.take_of_length_le (by omega)] at hv;refine Yr (Ju sp (by omega)) (by rw [List.length_append,hp,hi];rfl) ?_;rw [Z1,hp,hv]
theorem X1{a b p:List Nat}{i c c' s d:Nat}(hp:p.length=i)(hv:val p+val (b.take i)=val (a.take i)+4294967296 ^ i * c)(hs:s=c+b.getD i 0)(hd:d+s=a.getD i 0+4294967296 * c'):
  val (p++[d])+val (b.take (i+1))=val (a.take (i+1))+4294967296 ^ (i+1) * c':=by
 rw [Z1,Jp,Jp,hp,Nat.pow_succ,Nat.mul_assoc];have h:=congrArg (4294967296 ^ i * ·) hd;simp only [hs,Nat.mul_add] at h;omega
theorem Jjh{x y:GInt}(h:x.neg=y.neg):Jk x.neg (val x.mag+val y.mag)=x.toZ+y.toZ:=by
 have:=Jnm (a:=x) (b:=y.mag) h
 rw [h,this];rfl
theorem Jvk{x y:GInt}(h:¬ x.neg=y.neg)(hle:val x.mag≤val y.mag):Jk y.neg (val y.mag - val x.mag)=x.toZ+y.toZ:=by
 rw [Jwz (a:=x) h hle];rfl
theorem Jvu{x y:GInt}(h:¬ x.neg=y.neg)(hle:val y.mag≤val x.mag):Jk x.neg (val x.mag - val y.mag)=x.toZ+y.toZ:=by
 rw [Jzz (a:=x) h hle];rfl
end Go.Wf
namespace Go.Wf
open Go Go.Proofs Go.RowKit
theorem k7{X:Nat→Prop}{w:World}(hX:XB X w){v0:Value}{m:List Nat}(r0:RS Je X w v0 m)(hm:m.length≤1099511627776):Calls Tryz.prog 170 #[v0] w (Ret w fun v w'=>RS Je X w' v (trim m)):=by
 obtain⟨a1,c2,rfl,_,_⟩:=r0.len;have C:=Cx.start hX;refine Cgo (args:=[(.slice a1 m.length c2)]) Tryz.func170 rfl rfl rfl (Rg (Oa (Nl (Rg (Om (Ol (St.len sl24 rfl (Oa (Nl (W.seq (W.block (J3j (fun μ f v=>∃ (x y:Nat→Prop) (j:Nat),Cx X w x y v∧f 0=(.slice a1 m.length c2)∧f 2=(.slice none 0 0)∧f 3=(.int .i64 ((j:Nat):Int))∧RS Je x v (.slice a1 m.length c2) m∧j≤m.length∧trim (m.take j)=trim m∧μ=j) _ ⟨_,_,m.length,C,rfl,rfl,rfl,r0,(Nat.le_refl _),(by rw [List.take_length]),rfl⟩ ?_))))))))))));rintro m12 f3 w4 ⟨x5,y6,j,C7,e8,e9,e10,r0,hjl,htr,hmu11⟩;obtain⟨f13,rfl⟩:=rebK (aC e8 (aC e9 (aC e10 aN)));clear e8 e9 e10;refine Rh (Om (Ol (J3u rfl rfl (fun hc14=>?_) (fun hc14=>?_))))
 ·refine Om (Og rfl rfl (St.move (Og rfl rfl (St.move (Og rfl rfl (St.sub (z:=(((j:Nat):Int) - 1)) rfl rfl (IntWalk.i64_in _ (by omega)) (Og rfl rfl (J3k (j:=(j - 1)) (u:=(m.getD (j - 1) 0)) r0 sl24 Ji rfl rfl (by omega) (Jg (by omega)) ?_))))))));intro b15 o16 cs17 e18;obtain⟨rfl,bd19⟩:cs17=_∧_:=e18.rd;refine Og rfl rfl (J3e Ze rfl (e18.cell 0 _ rfl) (Og rfl rfl (J3h rfl rfl (fun hc20=>?_) (fun hc20=>?_))))
  ·refine OT (Nl (J26 rfl (W.skip (W.block (W.region (Om (Ol (St.sub (z:=(((j:Nat):Int) - 1)) rfl rfl (IntWalk.i64_in _ (by omega)) (Oa (Nl (⟨_,(by omega),_,_,(j - 1),C7,rfl,rfl,(congrArg (Value.int .i64) (by omega)),r0,(by omega),(Jcx hjl hc14 hc20 htr),rfl⟩)))))))))))
  refine OT (Nl (J28 rfl (W.exit (Rg (Ol (J42 (T:=Je) C7 sl24 Ji ?_))))));intro g25 w21 x26 C22 s23 u27 h24;replace r0:=r0.sp s23;refine Om (Om (Ol (J4z (j:=j) r0 sl24 Ji rfl rfl rfl (by omega) ?_)));intro h28;refine Ol (J3o (T:=Je) C22 sl24 Ji rfl rfl h24 (Xh h28) (by simp only [List.length_nil,List.length_take,maxLen];omega) (by simp only [List.length_nil,List.length_take];omega) rfl ?_);intro v29 w30 x31 C32 s33 u34 h35;rw [List.nil_append] at h35;obtain⟨a36,c37,rfl,_,_⟩:=h35.len;exact Oa (Nl (W.ret (Wq rfl rfl C32 (J3s (h35.toRS C32 hX) ((Jco hjl hc14 hc20 htr))))))
 refine Om (Oz (Oz (Oz (Oz (Oz (Oz (OF (Nl (J28 rfl (W.exit (Rg (Ol (J42 (T:=Je) C7 sl24 Ji ?_)))))))))))));intro g42 w38 x43 C39 s40 u44 h41;replace r0:=r0.sp s40;refine Om (Om (Ol (J4z (j:=j) r0 sl24 Ji rfl rfl rfl (by omega) ?_)));intro h45;refine Ol (J3o (T:=Je) C39 sl24 Ji rfl rfl h41 (Xh h45) (by simp only [List.length_nil,List.length_take,maxLen];omega) (by simp only [List.length_nil,List.length_take];omega) rfl ?_);intro v46 w47 x48 C49 s50 u51 h52;rw [List.nil_append] at h52;obtain⟨a53,c54,rfl,_,_⟩:=h52.len;exact Oa (Nl (W.ret (Wq rfl rfl C49 (J3s (h52.toRS C49 hX) ((Jgu hjl hc14 htr))))))
theorem Vi{X:Nat→Prop}{w:World}(hX:XB X w){v0:Value}{a:GInt}(r0:RV Jx X w v0 a)(hl:a.mag.length≤1099511627776):Calls Tryz.prog 118 #[v0] w (Ret w fun v w'=>RV Jx X w' v (ofZ a.toZ)):=by
 obtain⟨a1,c2,rfl,h3⟩:=RV.int r0;have C:=Cx.start hX;have sa:=r0.int_small;refine Cgo (args:=[(.agg #[(.bool a.neg),(.slice a1 a.mag.length c2)])]) Tryz.func118 rfl rfl rfl (Rg (Ol (J3g C rfl ?_)));intro g4 w5 x6 y7 lt8 C9 s10 o11;refine Ol (J3b C9 io26 rfl ?_);intro g12 w13 x14 y15 lt16 C17 s18 o19;replace h3:=(h3.sp s10).sp s18;replace o11:=o11.spn s18;refine Nl (Rg (Ol (St.fieldAddr Jz rfl (Ol (J27 o11 pl24 rfl rfl (Ol (J25 C17 Jg9 rfl rfl (k7 C17.bd h3 hl) ?_)))))));intro v21 w22 C23 s24 h25;replace o11:=o11.spn s24;replace o19:=o19.spn s24;obtain⟨a26,c27,rfl,_,_⟩:=h25.len;refine Oa (Nl (Rg (Ol (St.fieldAddr Zv rfl (Ol (St.bool (J27 o11 pl4 rfl rfl ⟨_,rfl,fun hb28=>?_,fun hb28=>?_⟩)))))))
 ·refine Om (Og rfl rfl (St.move (Og rfl rfl (St.len sl24 rfl (Og rfl rfl (St.gtr rfl rfl rfl (OT (Om (Ol (St.build (cs:=[(.bool (decide (0 < (((trim a.mag).length:Nat):Int)))),(.slice a26 (trim a.mag).length c27)]) rfl (by kernel_rfl) (On (J3a (cs':=[(.bool (decide (0 < (((trim a.mag).length:Nat):Int)))),(.slice a26 (trim a.mag).length c27)]) C23 o19 io26 rfl rfl rfl rfl rfl rfl ?_))))))))))));intro w29 C30 s31 o32;replace h25:=h25.sp s31;refine Nl (W.ret (J7 rfl (resV.c o32 rfl ag26 rfl) (Ret.intro ?_ C30.below)));exact J3l (a:=(⟨(decide (0 < (((trim a.mag).length:Nat):Int))),(trim a.mag)⟩:GInt)) ((Jo h25).tr (Tr.weak C30.base)) (Jlm sa (by rw [hb28,Bool.true_and];exact decide_eq_decide.2 (by omega)))
 refine Om (Oz (Oz (Oz (OF (Om (Ol (St.build (cs:=[(.bool false),(.slice a26 (trim a.mag).length c27)]) rfl (by kernel_rfl) (On (J3a (cs':=[(.bool false),(.slice a26 (trim a.mag).length c27)]) C23 o19 io26 rfl rfl rfl rfl rfl rfl ?_)))))))));intro w33 C34 s35 o36;replace h25:=h25.sp s35;refine Nl (W.ret (J7 rfl (resV.c o36 rfl ag26 rfl) (Ret.intro ?_ C34.below)));exact J3l (a:=(⟨false,(trim a.mag)⟩:GInt)) ((Jo h25).tr (Tr.weak C34.base)) (Jlm sa (by rw [hb28];rfl))
theorem Y2{X:Nat→Prop}{w:World}(hX:XB X w){b:Bool}{v1:Value}{m:List Nat}(r1:RS Je X w v1 m)(hm:m.length≤1099511627776):Calls Tryz.prog 167 #[(.bool b),v1] w (Ret w fun v w'=>RV Jx X w' v (ofZ (Jk b (val m)))):=by
 obtain⟨a1,c2,rfl,_,_⟩:=r1.len;have C:=Cx.start hX;refine Cgo (args:=[(.bool b),(.slice a1 m.length c2)]) Tryz.func167 rfl rfl rfl (Rg (Ol (J3b C io26 rfl ?_)));intro g3 w4 x5 y6 lt7 C8 s9 o10;replace r1:=r1.sp s9;refine Nl (Rg (Om (Om (Ol (St.build (cs:=[(.bool b),(.slice a1 m.length c2)]) rfl (by kernel_rfl) (Ol (J25 C8 kz rfl rfl (Vi C8.bd (a:=(⟨b,m⟩:GInt)) (Jo r1) hm) ?_)))))));intro v11 w12 C13 s14 h15;replace o10:=o10.spn s14;obtain⟨a16,c17,rfl,h18⟩:=RV.int h15;refine On (J3a (cs':=[(.bool (ofZ (⟨b,m⟩:GInt).toZ).neg),(.slice a16 (ofZ (⟨b,m⟩:GInt).toZ).mag.length c17)]) C13 o10 io26 rfl rfl rfl rfl rfl rfl ?_);intro w19 C20 s21 o22;replace h18:=h18.sp s21;refine Nl (W.ret (J7 rfl (resV.c o22 rfl ag26 rfl) (Ret.intro ?_ C20.below)));exact J3l (a:=(ofZ (⟨b,m⟩:GInt).toZ)) ((Jo h18).tr (Tr.weak C20.base)) rfl
theorem Jfe{X:Nat→Prop}{w:World}(hX:XB X w){v0:Value}{a:GInt}(r0:RV Jx X w v0 a)(hl:a.mag.length≤1099511627776):Calls Tryz.prog 112 #[v0] w (Ret w fun v w'=>v=(.int .i64 a.toZ.sign)):=by
 obtain⟨a1,c2,rfl,h3⟩:=RV.int r0;have C:=Cx.start hX;have sa:=r0.int_small;refine Cgo (args:=[(.agg #[(.bool a.neg),(.slice a1 a.mag.length c2)])]) Tryz.func112 rfl rfl rfl (Rg (Ol (J3g C rfl ?_)));intro g4 w5 x6 y7 lt8 C9 s10 o11;replace h3:=h3.sp s10;refine Oa (Nl (Rg (Ol (J29 (vs:=[(.bool a.neg),(.slice a1 a.mag.length c2)]) o11 ag26 rfl rfl rfl (Ol (J25 C9 kz rfl rfl (Vi C9.bd (a:=a) (Jo h3) hl) ?_))))));intro v12 w13 C14 s15 h16;obtain⟨a17,c18,rfl,h19⟩:=RV.int h16;refine Ol (J3b C14 io26 rfl ?_);intro g20 w21 x22 y23 lt24 C25 s26 o27;refine On (J3a (cs':=[(.bool (ofZ a.toZ).neg),(.slice a17 (ofZ a.toZ).mag.length c18)]) C25 o27 io26 rfl rfl rfl rfl rfl rfl ?_);intro w29 C30 s31 o32;refine Nl (Rh (Ol (St.fieldAddr Jz rfl (Ol (J27 o32 pl24 rfl rfl (Ol (St.len sl24 rfl (Ol (J3h rfl rfl (fun hc33=>?_) (fun hc33=>?_))))))))))
 ·exact Nl (J26 rfl (Rg (Oa (Nl (W.ret (Wq rfl rfl C30 (congrArg (Value.int _) ((by rw [(J8 (z:=a.toZ)).1 (by omega)];rfl)))))))))
 refine Nl (J28 rfl (W.skip (Rh (Ol (St.fieldAddr Zv rfl (Ol (St.bool (J27 o32 pl4 rfl rfl ⟨_,rfl,fun hb34=>?_,fun hb34=>?_⟩))))))))
 ·exact Nl (J26 rfl (Rg (Oa (Nl (W.ret (Wq rfl rfl C30 (congrArg (Value.int _) ((by have hh:=hb34;rw [Ja6,decide_eq_true_eq] at hh;exact(Int.sign_eq_neg_one_of_neg hh).symm)))))))))
 exact Nl (J28 rfl (W.skip (Rg (Oa (Nl (W.ret (Wq rfl rfl C30 (congrArg (Value.int _) ((by have hh:=hb34;rw [Ja6,decide_eq_false_iff_not] at hh;exact(Int.sign_eq_one_of_pos (by have h0:=hc33;have h1:a.toZ≠0:=fun e=>h0 (by rw [J8.2 e];rfl);omega)).symm))))))))))
theorem Jse{X:Nat→Prop}{w:World}(hX:XB X w){v0:Value}{a:GInt}(r0:RV Jx X w v0 a)(hl:a.mag.length≤1099511627776):Calls Tryz.prog 115 #[v0] w (Ret w fun v w'=>RV Jx X w' v (ofZ (-a.toZ))):=by
 obtain⟨a1,c2,rfl,h3⟩:=RV.int r0;have C:=Cx.start hX;refine Cgo (args:=[(.agg #[(.bool a.neg),(.slice a1 a.mag.length c2)])]) Tryz.func115 rfl rfl rfl (Rg (Ol (J3g C rfl ?_)));intro g4 w5 x6 y7 lt8 C9 s10 o11;refine Ol (J3b C9 io26 rfl ?_);intro g12 w13 x14 y15 lt16 C17 s18 o19;replace h3:=(h3.sp s10).sp s18;replace o11:=o11.spn s18;refine Nl (Rg (Ol (St.fieldAddr Zv rfl (Ol (J27 o11 pl4 rfl rfl (Ol (St.not rfl (Ol (St.fieldAddr Jz rfl (Ol (J27 o11 pl24 rfl rfl (Ol (J25 C17 zt rfl rfl (Y2 C17.bd h3 hl) ?_)))))))))))));intro v21 w22 C23 s24 h25;replace o19:=o19.spn s24;obtain⟨a26,c27,rfl,h28⟩:=RV.int h25;refine On (J3a (cs':=[(.bool (ofZ (Jk (!a.neg) (val a.mag))).neg),(.slice a26 (ofZ (Jk (!a.neg) (val a.mag))).mag.length c27)]) C23 o19 io26 rfl rfl rfl rfl rfl rfl ?_);intro w29 C30 s31 o32;replace h28:=h28.sp s31;refine Nl (W.ret (J7 rfl (resV.c o32 rfl ag26 rfl) (Ret.intro ?_ C30.below)));exact J3l (a:=(ofZ (Jk (!a.neg) (val a.mag)))) ((Jo h28).tr (Tr.weak C30.base)) ((by rw [Jde];rfl))
theorem Jsi{X:Nat→Prop}{w:World}(hX:XB X w){v0:Value}{a:GInt}(r0:RV Jx X w v0 a)(hl:a.mag.length≤1099511627776):Calls Tryz.prog 165 #[v0] w (Ret w fun v w'=>RV Jx X w' v (ofZ (a.toZ.natAbs:Int))):=by
 obtain⟨a1,c2,rfl,h3⟩:=RV.int r0;have C:=Cx.start hX;refine Cgo (args:=[(.agg #[(.bool a.neg),(.slice a1 a.mag.length c2)])]) Tryz.func165 rfl rfl rfl (Rg (Ol (J3g C rfl ?_)));intro g4 w5 x6 y7 lt8 C9 s10 o11;refine Ol (J3b C9 io26 rfl ?_);intro g12 w13 x14 y15 lt16 C17 s18 o19;replace h3:=(h3.sp s10).sp s18;replace o11:=o11.spn s18;refine Nl (Rg (Ol (St.fieldAddr Jz rfl (Ol (J27 o11 pl24 rfl rfl (Ol (J25 C17 zt rfl rfl (Y2 C17.bd h3 hl) ?_)))))));intro v21 w22 C23 s24 h25;replace o19:=o19.spn s24;obtain⟨a26,c27,rfl,h28⟩:=RV.int h25;refine On (J3a (cs':=[(.bool (ofZ (Jk false (val a.mag))).neg),(.slice a26 (ofZ (Jk false (val a.mag))).mag.length c27)]) C23 o19 io26 rfl rfl rfl rfl rfl rfl ?_);intro w29 C30 s31 o32;replace h28:=h28.sp s31;refine Nl (W.ret (J7 rfl (resV.c o32 rfl ag26 rfl) (Ret.intro ?_ C30.below)));exact J3l (a:=(ofZ (Jk false (val a.mag)))) ((Jo h28).tr (Tr.weak C30.base)) ((by rw [Xu];rfl))
theorem Je8{X:Nat→Prop}{w:World}(hX:XB X w){v0:Value}{a:List Nat}(r0:RS Je X w v0 a){v1:Value}{b:List Nat}(r1:RS Je X w v1 b)(ha:trim a=a)(hb:trim b=b)(hla:a.length≤1099511627776)(hlb:b.length≤1099511627776):Calls Tryz.prog 218 #[v0,v1] w (Ret w fun v w'=>v=(.bool (decide (val a < val b)))):=by
 obtain⟨a1,c2,rfl,_,_⟩:=r0.len;obtain⟨a3,c4,rfl,_,_⟩:=r1.len;have C:=Cx.start hX;have sa:=r0.u32_small;have sb:=r1.u32_small;refine Cgo (args:=[(.slice a1 a.length c2),(.slice a3 b.length c4)]) Tryz.func218 rfl rfl rfl (Rg (Oa (Nl (Rh (Om (Ol (St.len sl24 rfl (Om (Ol (St.len sl24 rfl (Ol (J3q rfl rfl (fun hc5=>?_) (fun hc5=>?_)))))))))))))
 ·exact Nl (J26 rfl (Rg (Om (Ol (St.len sl24 rfl (Om (Ol (St.len sl24 rfl (Ol (St.lss rfl rfl rfl (Oa (Nl (W.ret (Wq rfl rfl C (congrArg (Value.bool) ((Jjd ha hb sa sb (by omega))))))))))))))))))
 refine Nl (J28 rfl (W.skip (Rh (Om (Ol (St.len sl24 rfl (Ol (St.sub (z:=(((a.length:Nat):Int) - 1)) rfl rfl (IntWalk.i64_in _ (by omega)) (Oa (Nl (W.block (J3j (fun μ f v=>∃ (x y:Nat→Prop) (j:Nat),Cx X w x y v∧f 0=(.slice a1 a.length c2)∧f 1=(.slice a3 b.length c4)∧f 5=(.int .i64 ((j:Int) - 1))∧RS Je x v (.slice a1 a.length c2) a∧RS Je x v (.slice a3 b.length c4) b∧j≤a.length∧a.drop j=b.drop j∧μ=j) _ ⟨_,_,a.length,C,rfl,rfl,rfl,r0,r1,(Nat.le_refl _),(by rw [List.drop_of_length_le (Nat.le_refl _),List.drop_of_length_le (by omega)]),rfl⟩ ?_))))))))))));rintro m15 f6 w7 ⟨x8,y9,j,C10,e11,e12,e13,r0,r1,hj,heq,hmu14⟩;obtain⟨f16,rfl⟩:=rebK (aC e11 (aC e12 (aC e13 aN)));clear e11 e12 e13;refine Rh (Om (Ol (J3w rfl rfl (fun hc17=>?_) (fun hc17=>?_))))
 ·refine Nl (J26 rfl (W.skip (W.seq (W.block (W.seq (J3m J5 8 [[],[],[0,1],[2],[],[],[4,5],[6]] C10 [fx (.slice a1 a.length c2),fx (.int .i64 ((j:Int) - 1)),fE Je (a.getD (j - 1) 0),fx (.int .u32 (((a.getD (j - 1) 0):Nat):Int)),fx (.slice a3 b.length c4),fx (.int .i64 ((j:Int) - 1)),fE Je (b.getD (j - 1) 0),fx (.int .u32 (((b.getD (j - 1) 0):Nat):Int))] (by kernel_rfl) ⟨sx,sx,sE,sx,sx,sx,sE,sx,trivial⟩ fun f29 s30 w31 ⟨C34,S35⟩ k33=>?_))))))
  replace r0:=r0.sp S35;replace r1:=r1.sp S35;have k33:Keep [23,24,25,26,27,28,29,30] _ f29:=k33;refine⟨⟨fun _=>?_,fun _=>?_,fun⟨e36,e37,_⟩=>?_,fun⟨d38,_⟩=>?_,fun _=>?_,fun _=>?_,fun⟨e39,e40,_⟩=>?_,fun⟨d41,_⟩=>?_,trivial⟩,fun⟨e42,e43,d44,e45,e46,e47,d48,e49,_⟩=>?_⟩
  ·exact Ja k33 aN fun _=>OpSt.op (St.move ⟨s30,RC.same C34,rfl⟩)
  ·exact Ja k33 aN fun _=>OpSt.op (St.move ⟨s30,RC.same C34,rfl⟩)
  ·refine Ja k33 (aC e36 (aC e37 aN)) fun _=>OpSt.op (J3k (j:=(j - 1)) (u:=(a.getD (j - 1) 0)) r0 sl24 Ji rfl rfl (by omega) (Jg (by omega)) ?_);intro b50 o51 cs52 e53;obtain⟨rfl,bd54⟩:cs52=_∧_:=e53.rd;exact⟨s30,RC.same C34,⟨_,_,_,rfl,e53⟩⟩
  ·obtain⟨b56,o57,cs58,e55,e59⟩:=d38;obtain⟨rfl,bd60⟩:cs58=_∧_:=e59.rd;exact Ja k33 (aC e55 aN) fun _=>OpSt.op (J3e Ze rfl (e59.cell 0 _ rfl) ⟨s30,RC.same C34,rfl⟩)
  ·exact Ja k33 aN fun _=>OpSt.op (St.move ⟨s30,RC.same C34,rfl⟩)
  ·exact Ja k33 aN fun _=>OpSt.op (St.move ⟨s30,RC.same C34,rfl⟩)
  ·refine Ja k33 (aC e39 (aC e40 aN)) fun _=>OpSt.op (J3k (j:=(j - 1)) (u:=(b.getD (j - 1) 0)) r1 sl24 Ji rfl rfl (by omega) (Jg (by omega)) ?_);intro b61 o62 cs63 e64;obtain⟨rfl,bd65⟩:cs63=_∧_:=e64.rd;exact⟨s30,RC.same C34,⟨_,_,_,rfl,e64⟩⟩
  ·obtain⟨b67,o68,cs69,e66,e70⟩:=d41;obtain⟨rfl,bd71⟩:cs69=_∧_:=e70.rd;exact Ja k33 (aC e66 aN) fun _=>OpSt.op (J3e Ze rfl (e70.cell 0 _ rfl) ⟨s30,RC.same C34,rfl⟩)
  obtain⟨b73,o74,cs75,e72,e76⟩:=d44;obtain⟨rfl,bd77⟩:cs75=_∧_:=e76.rd;obtain⟨b79,o80,cs81,e78,e82⟩:=d48;obtain⟨rfl,bd83⟩:cs81=_∧_:=e82.rd;obtain⟨f84,rfl⟩:=mixK k33 (aC e42 (aC e43 (aC e72 (aC e45 (aC e46 (aC e47 (aC e78 (aC e49 aN))))))));refine Ol (J3q rfl rfl (fun hc85=>?_) (fun hc85=>?_))
  ·refine Nl (J26 rfl (W.seq (J3m J5 8 [[],[],[0,1],[2],[],[],[4,5],[6]] C34 [fx (.slice a1 a.length c2),fx (.int .i64 ((j:Int) - 1)),fE Je (a.getD (j - 1) 0),fx (.int .u32 (((a.getD (j - 1) 0):Nat):Int)),fx (.slice a3 b.length c4),fx (.int .i64 ((j:Int) - 1)),fE Je (b.getD (j - 1) 0),fx (.int .u32 (((b.getD (j - 1) 0):Nat):Int))] (by kernel_rfl) ⟨sx,sx,sE,sx,sx,sx,sE,sx,trivial⟩ fun f97 s98 w99 ⟨C102,S103⟩ k101=>?_)))
   replace r0:=r0.sp S103;replace r1:=r1.sp S103;have k101:Keep [32,33,34,35,36,37,38,39] _ f97:=k101;refine⟨⟨fun _=>?_,fun _=>?_,fun⟨e104,e105,_⟩=>?_,fun⟨d106,_⟩=>?_,fun _=>?_,fun _=>?_,fun⟨e107,e108,_⟩=>?_,fun⟨d109,_⟩=>?_,trivial⟩,fun⟨e110,e111,d112,e113,e114,e115,d116,e117,_⟩=>?_⟩
   ·exact Ja k101 aN fun _=>OpSt.op (St.move ⟨s98,RC.same C102,rfl⟩)
   ·exact Ja k101 aN fun _=>OpSt.op (St.move ⟨s98,RC.same C102,rfl⟩)
   ·refine Ja k101 (aC e104 (aC e105 aN)) fun _=>OpSt.op (J3k (j:=(j - 1)) (u:=(a.getD (j - 1) 0)) r0 sl24 Ji rfl rfl (by omega) (Jg (by omega)) ?_);intro b118 o119 cs120 e121;obtain⟨rfl,bd122⟩:cs120=_∧_:=e121.rd;exact⟨s98,RC.same C102,⟨_,_,_,rfl,e121⟩⟩
   ·obtain⟨b124,o125,cs126,e123,e127⟩:=d106;obtain⟨rfl,bd128⟩:cs126=_∧_:=e127.rd;exact Ja k101 (aC e123 aN) fun _=>OpSt.op (J3e Ze rfl (e127.cell 0 _ rfl) ⟨s98,RC.same C102,rfl⟩)
   ·exact Ja k101 aN fun _=>OpSt.op (St.move ⟨s98,RC.same C102,rfl⟩)
   ·exact Ja k101 aN fun _=>OpSt.op (St.move ⟨s98,RC.same C102,rfl⟩)
   ·refine Ja k101 (aC e107 (aC e108 aN)) fun _=>OpSt.op (J3k (j:=(j - 1)) (u:=(b.getD (j - 1) 0)) r1 sl24 Ji rfl rfl (by omega) (Jg (by omega)) ?_);intro b129 o130 cs131 e132;obtain⟨rfl,bd133⟩:cs131=_∧_:=e132.rd;exact⟨s98,RC.same C102,⟨_,_,_,rfl,e132⟩⟩
   ·obtain⟨b135,o136,cs137,e134,e138⟩:=d109;obtain⟨rfl,bd139⟩:cs137=_∧_:=e138.rd;exact Ja k101 (aC e134 aN) fun _=>OpSt.op (J3e Ze rfl (e138.cell 0 _ rfl) ⟨s98,RC.same C102,rfl⟩)
   obtain⟨b141,o142,cs143,e140,e144⟩:=d112;obtain⟨rfl,bd145⟩:cs143=_∧_:=e144.rd;obtain⟨b147,o148,cs149,e146,e150⟩:=d116;obtain⟨rfl,bd151⟩:cs149=_∧_:=e150.rd;obtain⟨f152,rfl⟩:=mixK k101 (aC e110 (aC e111 (aC e140 (aC e113 (aC e114 (aC e115 (aC e146 (aC e117 aN))))))));exact Ol (St.lss rfl rfl rfl (Oa (Nl (W.ret (Wq rfl rfl C102 (congrArg (Value.bool) ((Jlx sa sb (by omega) (by omega) (by omega) (by omega) heq))))))))
  refine Nl (J28 rfl (W.skip (W.region (Om (Ol (St.sub (z:=(((j:Int) - 1) - 1)) rfl rfl (IntWalk.i64_in _ (by omega)) (Oa (Nl (⟨_,(by omega),_,_,(j - 1),C34,rfl,rfl,(congrArg (Value.int .i64) (by omega)),r0,r1,(by omega),(Jga (by omega) (by omega) (by omega) hc85 heq),rfl⟩)))))))))
 exact Nl (J28 rfl (W.exit (Rg (Oa (Nl (W.ret (Wq rfl rfl C10 (congrArg (Value.bool) ((Jm7 (show j=0 by omega) heq))))))))))
set_option maxHeartbeats 8000000 in
theorem Jp6{X:Nat→Prop}{w:World}(hX:XB X w){v0:Value}{a:List Nat}(r0:RS Je X w v0 a){v1:Value}{b:List Nat}(r1:RS Je X w v1 b)(hla:a.length≤549755813888)(hlb:b.length≤549755813888):Calls Tryz.prog 216 #[v0,v1] w (Ret w fun v w'=>RS Je X w' v (Jt (max a.length b.length+1) (val a+val b))):=by
 obtain⟨a1,c2,rfl,_,_⟩:=r0.len;obtain⟨a3,c4,rfl,_,_⟩:=r1.len;have C:=Cx.start hX;have sa:=r0.u32_small;have sb:=r1.u32_small;refine Cgo (args:=[(.slice a1 a.length c2),(.slice a3 b.length c4)]) Tryz.func216 rfl rfl rfl (Rg (Oa (Nl (Rg (Oa (Nl (Rg (Oa (Nl (Rh (Oa (Nl (W.block (J3j (fun μ f v=>∃ (x y:Nat→Prop) (i:Nat) (p:List Nat) (c:Nat) (pa:Option Addr) (pc:Nat),Cx X w x y v∧f 0=(.slice a1 a.length c2)∧f 1=(.slice a3 b.length c4)∧f 4=(.slice none 0 0)∧f 7=(.int .i64 ((i:Nat):Int))∧f 6=(.int .u64 ((c:Nat):Int))∧f 5=(.slice pa p.length pc)∧RS Je x v (.slice a1 a.length c2) a∧RS Je x v (.slice a3 b.length c4) b∧OS Je 118 w x y v (.slice pa p.length pc) p∧i≤max a.length b.length∧p.length=i∧Jr p∧c≤1∧val p+4294967296 ^ i * c=val (a.take i)+val (b.take i)∧μ=(max a.length b.length - i)) _ ⟨_,_,0,[],0,none,0,C,rfl,rfl,rfl,rfl,rfl,rfl,r0,r1,OS.nil,(Nat.zero_le _),rfl,J6,(by omega),(by simp [val]),rfl⟩ ?_))))))))))))));rintro m17 f5 w6 ⟨x7,y8,i,p,c,pa,pc,C9,e10,e11,e12,e13,e14,e15,r0,r1,hP,hi,hp,hs,hc,hv,hmu16⟩;obtain⟨f18,rfl⟩:=rebK (aC e10 (aC e11 (aC e12 (aC e13 (aC e14 (aC e15 aN))))));clear e10 e11 e12 e13 e14 e15;have hai:=Jm sa i;have hbi:=Jm sb i;refine Rh (Om (Om (Ol (St.len sl24 rfl (Ol (J3i rfl rfl (fun hc19=>?_) (fun hc19=>?_)))))))
 ·refine Om (Oz (Oz (Oz (Oz (OT (Nl (J26 rfl (W.skip (W.seq (W.block (Rg (Om (Oa (Nl (Rh (Om (Om (Ol (St.len sl24 rfl (Ol (St.lss (t:=true) rfl rfl (decide_eq_true (by omega)) ?_)))))))))))))))))))));refine Nl (J26 rfl (W.region (Om (Om (Om (Ol (J3k (j:=i) (u:=(a.getD i 0)) r0 sl24 Ji rfl rfl rfl (Jg (by omega)) ?_)))))));intro b20 o21 cs22 e23;obtain⟨rfl,bd24⟩:cs22=_∧_:=e23.rd;refine Ol (J3e Ze rfl (e23.cell 0 _ rfl) (Ol (J3d (z:=(((a.getD i 0):Nat):Int)) Yi Yn rfl (IntWalk.u64_in _ (by omega)) (Ol (St.add rfl rfl (Zj (a:=c) (b:=(a.getD i 0)) (by omega)) (Oa (Nl (Rh (Om (Om (Ol (St.len sl24 rfl (Ol (J3i rfl rfl (fun hc25=>?_) (fun hc25=>?_)))))))))))))))
  ·refine Nl (J26 rfl (W.region (Om (Om (Om (Ol (J3k (j:=i) (u:=(b.getD i 0)) r1 sl24 Ji rfl rfl rfl (Jg (by omega)) ?_)))))));intro b26 o27 cs28 e29;obtain⟨rfl,bd30⟩:cs28=_∧_:=e29.rd;refine Ol (J3e Ze rfl (e29.cell 0 _ rfl) (Ol (J3d (z:=(((b.getD i 0):Nat):Int)) Yi Yn rfl (IntWalk.u64_in _ (by omega)) (Ol (St.add rfl rfl (Zj (a:=c+(a.getD i 0)) (b:=(b.getD i 0)) (by omega)) (Oa (Nl (Rg (Om (Om (Ol (J3d (z:=((((c+(a.getD i 0))+(b.getD i 0)) % 4294967296:Nat):Int)) Yz Yy rfl (Jn _) ?_))))))))))));refine Ol (J3t (T:=Je) (css:=[[(.int .u32 ((((c+(a.getD i 0))+(b.getD i 0)) % 4294967296:Nat):Int))]]) (l:=[((c+(a.getD i 0))+(b.getD i 0)) % 4294967296]) C9 sl24 Ji (by decide) (by decide) rfl (by kernel_rfl) ⟨⟨rfl,(Nat.mod_lt _ (by decide))⟩,trivial⟩ ?_);intro g35 w31 C32 s33 h34;replace hP:=hP.sp s33 C32 (fun _ h=>h)
   refine Ol (J3o (T:=Je) C32 sl24 Ji rfl rfl hP (Xh h34) (by simp only [List.length_append,List.length_cons,List.length_nil,maxLen];omega) (by simp only [List.length_append,List.length_cons,List.length_nil];omega) rfl ?_);intro v38 w39 x40 C41 s42 u43 h44;replace r0:=(r0.sp s33).tr s42.tx;replace r1:=(r1.sp s33).tr s42.tx;obtain⟨a45,c46,rfl,_,_⟩:=h44.len;refine Oa (Nl (W.region (Om (Ol (St.shr rfl rfl (by decide) (Yx (d:=4294967296) _ (by decide)) (Oa (Nl (W.region (Om (Ol (St.add rfl rfl (Jc (a:=i) (b:=1) (by omega)) (Oa (Nl (⟨_,(by omega),_,_,(i+1),(p++[((c+(a.getD i 0))+(b.getD i 0)) % 4294967296]),((c+(a.getD i 0))+(b.getD i 0)) / 4294967296,a45,c46,C41,rfl,rfl,rfl,rfl,rfl,rfl,r0,r1,h44,(by omega),(by rw [List.length_append,hp];rfl),(Ju hs (Nat.mod_lt _ (by decide))),(by omega),(ju (s:=((c+(a.getD i 0))+(b.getD i 0))) hp hv (by first | rfl | (have h7:=Y6 (l:=b) (i:=i) (by omega);omega) | (have h7:=Y6 (l:=a) (i:=i) (by omega);omega))),rfl⟩))))))))))))))
  refine Nl (J28 rfl (W.skip (Rg (Om (Om (Ol (J3d (z:=(((c+(a.getD i 0)) % 4294967296:Nat):Int)) Yz Yy rfl (Jn _) (Ol (J3t (T:=Je) (css:=[[(.int .u32 (((c+(a.getD i 0)) % 4294967296:Nat):Int))]]) (l:=[(c+(a.getD i 0)) % 4294967296]) C9 sl24 Ji (by decide) (by decide) rfl (by kernel_rfl) ⟨⟨rfl,(Nat.mod_lt _ (by decide))⟩,trivial⟩ ?_)))))))));intro g51 w47 C48 s49 h50;replace hP:=hP.sp s49 C48 (fun _ h=>h)
  refine Ol (J3o (T:=Je) C48 sl24 Ji rfl rfl hP (Xh h50) (by simp only [List.length_append,List.length_cons,List.length_nil,maxLen];omega) (by simp only [List.length_append,List.length_cons,List.length_nil];omega) rfl ?_);intro v54 w55 x56 C57 s58 u59 h60;replace r0:=(r0.sp s49).tr s58.tx;replace r1:=(r1.sp s49).tr s58.tx;obtain⟨a61,c62,rfl,_,_⟩:=h60.len;refine Oa (Nl (W.region (Om (Ol (St.shr rfl rfl (by decide) (Yx (d:=4294967296) _ (by decide)) (Oa (Nl (W.region (Om (Ol (St.add rfl rfl (Jc (a:=i) (b:=1) (by omega)) (Oa (Nl (⟨_,(by omega),_,_,(i+1),(p++[(c+(a.getD i 0)) % 4294967296]),(c+(a.getD i 0)) / 4294967296,a61,c62,C57,rfl,rfl,rfl,rfl,rfl,rfl,r0,r1,h60,(by omega),(by rw [List.length_append,hp];rfl),(Ju hs (Nat.mod_lt _ (by decide))),(by omega),(ju (s:=(c+(a.getD i 0))) hp hv (by first | rfl | (have h7:=Y6 (l:=b) (i:=i) (by omega);omega) | (have h7:=Y6 (l:=a) (i:=i) (by omega);omega))),rfl⟩))))))))))))))
 refine Om (Og rfl rfl (St.move (Og rfl rfl (St.move (Og rfl rfl (St.len sl24 rfl (Og rfl rfl (J3i rfl rfl (fun hc63=>?_) (fun hc63=>?_)))))))))
 ·refine OF (Nl (J26 rfl (W.skip (W.seq (W.block (Rg (Om (Oa (Nl (Rh (Om (Om (Ol (St.len sl24 rfl (Ol (St.lss (t:=false) rfl rfl (decide_eq_false (by omega)) (Nl (J28 rfl (W.skip (Rh (Om ?_)))))))))))))))))))));refine Om (Ol (St.len sl24 rfl (Ol (St.lss (t:=true) rfl rfl (decide_eq_true (by omega)) (Nl (J26 rfl (W.region (Om (Om (Om (Ol (J3k (j:=i) (u:=(b.getD i 0)) r1 sl24 Ji rfl rfl rfl (Jg (by omega)) ?_))))))))))));intro b64 o65 cs66 e67;obtain⟨rfl,bd68⟩:cs66=_∧_:=e67.rd;refine Ol (J3e Ze rfl (e67.cell 0 _ rfl) (Ol (J3d (z:=(((b.getD i 0):Nat):Int)) Yi Yn rfl (IntWalk.u64_in _ (by omega)) (Ol (St.add rfl rfl (Zj (a:=c) (b:=(b.getD i 0)) (by omega)) (Oa (Nl (Rg (Om (Om (Ol (J3d (z:=(((c+(b.getD i 0)) % 4294967296:Nat):Int)) Yz Yy rfl (Jn _) ?_))))))))))));refine Ol (J3t (T:=Je) (css:=[[(.int .u32 (((c+(b.getD i 0)) % 4294967296:Nat):Int))]]) (l:=[(c+(b.getD i 0)) % 4294967296]) C9 sl24 Ji (by decide) (by decide) rfl (by kernel_rfl) ⟨⟨rfl,(Nat.mod_lt _ (by decide))⟩,trivial⟩ ?_);intro g73 w69 C70 s71 h72;replace hP:=hP.sp s71 C70 (fun _ h=>h)
  refine Ol (J3o (T:=Je) C70 sl24 Ji rfl rfl hP (Xh h72) (by simp only [List.length_append,List.length_cons,List.length_nil,maxLen];omega) (by simp only [List.length_append,List.length_cons,List.length_nil];omega) rfl ?_);intro v76 w77 x78 C79 s80 u81 h82;replace r0:=(r0.sp s71).tr s80.tx;replace r1:=(r1.sp s71).tr s80.tx;obtain⟨a83,c84,rfl,_,_⟩:=h82.len;refine Oa (Nl (W.region (Om (Ol (St.shr rfl rfl (by decide) (Yx (d:=4294967296) _ (by decide)) (Oa (Nl (W.region (Om (Ol (St.add rfl rfl (Jc (a:=i) (b:=1) (by omega)) (Oa (Nl (⟨_,(by omega),_,_,(i+1),(p++[(c+(b.getD i 0)) % 4294967296]),(c+(b.getD i 0)) / 4294967296,a83,c84,C79,rfl,rfl,rfl,rfl,rfl,rfl,r0,r1,h82,(by omega),(by rw [List.length_append,hp];rfl),(Ju hs (Nat.mod_lt _ (by decide))),(by omega),(ju (s:=(c+(b.getD i 0))) hp hv (by first | rfl | (have h7:=Y6 (l:=b) (i:=i) (by omega);omega) | (have h7:=Y6 (l:=a) (i:=i) (by omega);omega))),rfl⟩))))))))))))))
 refine OF (Nl (J28 rfl (W.exit (Rg (Om (Om (Ol (J3d (z:=((c % 4294967296:Nat):Int)) Yz Yy rfl (Jn _) (Ol (J3t (T:=Je) (css:=[[(.int .u32 ((c % 4294967296:Nat):Int))]]) (l:=[c % 4294967296]) C9 sl24 Ji (by decide) (by decide) rfl (by kernel_rfl) ⟨⟨rfl,(Nat.mod_lt _ (by decide))⟩,trivial⟩ ?_))))))))));intro g89 w85 C86 s87 h88;replace hP:=hP.sp s87 C86 (fun _ h=>h)
 refine Ol (J3o (T:=Je) C86 sl24 Ji rfl rfl hP (Xh h88) (by simp only [List.length_append,List.length_cons,List.length_nil,maxLen];omega) (by simp only [List.length_append,List.length_cons,List.length_nil];omega) rfl ?_);intro v92 w93 x94 C95 s96 u97 h98;obtain⟨a99,c100,rfl,_,_⟩:=h98.len;exact Oa (Nl (W.ret (Wq rfl rfl C95 (J3s (h98.toRS C95 hX) ((Jkt hs hp (by omega) hc hv))))))
set_option maxHeartbeats 8000000 in
theorem Jbm{X:Nat→Prop}{w:World}(hX:XB X w){v0:Value}{a:List Nat}(r0:RS Je X w v0 a){v1:Value}{b:List Nat}(r1:RS Je X w v1 b)(hla:a.length≤549755813888)(hlb:b.length≤a.length)(hle:val b≤val a):Calls Tryz.prog 219 #[v0,v1] w (Ret w fun v w'=>RS Je X w' v (Jt a.length (val a - val b))):=by
 obtain⟨a1,c2,rfl,_,_⟩:=r0.len;obtain⟨a3,c4,rfl,_,_⟩:=r1.len;have C:=Cx.start hX;have sa:=r0.u32_small;have sb:=r1.u32_small;refine Cgo (args:=[(.slice a1 a.length c2),(.slice a3 b.length c4)]) Tryz.func219 rfl rfl rfl (Rg (Oa (Nl (Rg (Oa (Nl (Rg (Oa (Nl (Rh (Oa (Nl (W.block (J3j (fun μ f v=>∃ (x y:Nat→Prop) (i:Nat) (p:List Nat) (c:Nat) (pa:Option Addr) (pc:Nat),Cx X w x y v∧f 0=(.slice a1 a.length c2)∧f 1=(.slice a3 b.length c4)∧f 4=(.slice none 0 0)∧f 7=(.int .i64 ((i:Nat):Int))∧f 6=(.int .u64 ((c:Nat):Int))∧f 5=(.slice pa p.length pc)∧RS Je x v (.slice a1 a.length c2) a∧RS Je x v (.slice a3 b.length c4) b∧OS Je 118 w x y v (.slice pa p.length pc) p∧i≤a.length∧p.length=i∧Jr p∧c≤1∧val p+val (b.take i)=val (a.take i)+4294967296 ^ i * c∧μ=(a.length - i)) _ ⟨_,_,0,[],0,none,0,C,rfl,rfl,rfl,rfl,rfl,rfl,r0,r1,OS.nil,(Nat.zero_le _),rfl,J6,(by omega),(by simp [val]),rfl⟩ ?_))))))))))))));rintro m17 f5 w6 ⟨x7,y8,i,p,c,pa,pc,C9,e10,e11,e12,e13,e14,e15,r0,r1,hP,hi,hp,hs,hc,hv,hmu16⟩;obtain⟨f18,rfl⟩:=rebK (aC e10 (aC e11 (aC e12 (aC e13 (aC e14 (aC e15 aN))))));clear e10 e11 e12 e13 e14 e15;have hai:=Jm sa i;have hbi:=Jm sb i;refine Rh (Om (Om (Ol (St.len sl24 rfl (Ol (J3i rfl rfl (fun hc19=>?_) (fun hc19=>?_)))))))
 ·refine Nl (J26 rfl (W.skip (W.seq (W.block (Rg (Om (Oa (Nl (Rh (Om (Om (Ol (St.len sl24 rfl (Ol (J3i rfl rfl (fun hc20=>?_) (fun hc20=>?_))))))))))))))))
  ·refine Nl (J26 rfl (W.region (Om (Om (Om (Ol (J3k (j:=i) (u:=(b.getD i 0)) r1 sl24 Ji rfl rfl rfl (Jg (by omega)) ?_)))))));intro b21 o22 cs23 e24;obtain⟨rfl,bd25⟩:cs23=_∧_:=e24.rd;refine Ol (J3e Ze rfl (e24.cell 0 _ rfl) (Ol (J3d (z:=(((b.getD i 0):Nat):Int)) Yi Yn rfl (IntWalk.u64_in _ (by omega)) (Ol (St.add rfl rfl (Zj (a:=c) (b:=(b.getD i 0)) (by omega)) (Oa (Nl (Rg (Oa (Nl (Rg (Om (Om (Ol (J3k (j:=i) (u:=(a.getD i 0)) r0 sl24 Ji rfl rfl rfl (Jg (by omega)) ?_)))))))))))))));intro b26 o27 cs28 e29;obtain⟨rfl,bd30⟩:cs28=_∧_:=e29.rd;refine Ol (J3e Ze rfl (e29.cell 0 _ rfl) (Ol (J3d (z:=(((a.getD i 0):Nat):Int)) Yi Yn rfl (IntWalk.u64_in _ (by omega)) (Oa (Nl (Rh (Om (Om (Ol (J3i rfl rfl (fun hc31=>?_) (fun hc31=>?_)))))))))))
   ·refine Nl (J26 rfl (Rg (Om (Ol (St.add rfl rfl (Zj (a:=(a.getD i 0)) (b:=4294967296) (by omega)) (Oa (Nl (W.region (Oa (Nl (W.region (Om (Om (Om (Ol (St.sub rfl rfl (Y3 (a:=(a.getD i 0)+4294967296) (b:=c+(b.getD i 0)) (by omega) (by omega)) ?_))))))))))))))));refine Ol (J3d (z:=(((((a.getD i 0)+4294967296) - (c+(b.getD i 0))) % 4294967296:Nat):Int)) Yz Yy rfl (Jn _) (Ol (J3t (T:=Je) (css:=[[(.int .u32 (((((a.getD i 0)+4294967296) - (c+(b.getD i 0))) % 4294967296:Nat):Int))]]) (l:=[(((a.getD i 0)+4294967296) - (c+(b.getD i 0))) % 4294967296]) C9 sl24 Ji (by decide) (by decide) rfl (by kernel_rfl) ⟨⟨rfl,(Nat.mod_lt _ (by decide))⟩,trivial⟩ ?_)));intro g36 w32 C33 s34 h35;replace hP:=hP.sp s34 C33 (fun _ h=>h)
    refine Ol (J3o (T:=Je) C33 sl24 Ji rfl rfl hP (Xh h35) (by simp only [List.length_append,List.length_cons,List.length_nil,maxLen];omega) (by simp only [List.length_append,List.length_cons,List.length_nil];omega) rfl ?_);intro v39 w40 x41 C42 s43 u44 h45;replace r0:=(r0.sp s34).tr s43.tx;replace r1:=(r1.sp s34).tr s43.tx;obtain⟨a46,c47,rfl,_,_⟩:=h45.len;refine Oa (Nl (W.region (Om (Ol (St.add rfl rfl (Jc (a:=i) (b:=1) (by omega)) (Oa (Nl (⟨_,(by omega),_,_,(i+1),(p++[(((a.getD i 0)+4294967296) - (c+(b.getD i 0))) % 4294967296]),1,a46,c47,C42,rfl,rfl,rfl,rfl,rfl,rfl,r0,r1,h45,(by omega),(by rw [List.length_append,hp];rfl),(Ju hs (Nat.mod_lt _ (by decide))),(by decide),(X1 (s:=c+(b.getD i 0)) (d:=(((a.getD i 0)+4294967296) - (c+(b.getD i 0))) % 4294967296) hp hv (by first | rfl | (have h7:=Y6 (l:=b) (i:=i) (by omega);omega)) (by omega)),rfl⟩))))))))
   refine Nl (J28 rfl (W.skip (W.region (Om (Om (Om (Ol (St.sub rfl rfl (Y3 (a:=(a.getD i 0)) (b:=c+(b.getD i 0)) (by omega) (by omega)) (Ol (J3d (z:=((((a.getD i 0) - (c+(b.getD i 0))) % 4294967296:Nat):Int)) Yz Yy rfl (Jn _) (Ol (J3t (T:=Je) (css:=[[(.int .u32 ((((a.getD i 0) - (c+(b.getD i 0))) % 4294967296:Nat):Int))]]) (l:=[((a.getD i 0) - (c+(b.getD i 0))) % 4294967296]) C9 sl24 Ji (by decide) (by decide) rfl (by kernel_rfl) ⟨⟨rfl,(Nat.mod_lt _ (by decide))⟩,trivial⟩ ?_))))))))))));intro g52 w48 C49 s50 h51;replace hP:=hP.sp s50 C49 (fun _ h=>h)
   refine Ol (J3o (T:=Je) C49 sl24 Ji rfl rfl hP (Xh h51) (by simp only [List.length_append,List.length_cons,List.length_nil,maxLen];omega) (by simp only [List.length_append,List.length_cons,List.length_nil];omega) rfl ?_);intro v55 w56 x57 C58 s59 u60 h61;replace r0:=(r0.sp s50).tr s59.tx;replace r1:=(r1.sp s50).tr s59.tx;obtain⟨a62,c63,rfl,_,_⟩:=h61.len;refine Oa (Nl (W.region (Om (Ol (St.add rfl rfl (Jc (a:=i) (b:=1) (by omega)) (Oa (Nl (⟨_,(by omega),_,_,(i+1),(p++[((a.getD i 0) - (c+(b.getD i 0))) % 4294967296]),0,a62,c63,C58,rfl,rfl,rfl,rfl,rfl,rfl,r0,r1,h61,(by omega),(by rw [List.length_append,hp];rfl),(Ju hs (Nat.mod_lt _ (by decide))),(by decide),(X1 (s:=c+(b.getD i 0)) (d:=((a.getD i 0) - (c+(b.getD i 0))) % 4294967296) hp hv (by first | rfl | (have h7:=Y6 (l:=b) (i:=i) (by omega);omega)) (by omega)),rfl⟩))))))))
  refine Nl (J28 rfl (W.skip (Rg (Oa (Nl (Rg (Om (Om (Ol (J3k (j:=i) (u:=(a.getD i 0)) r0 sl24 Ji rfl rfl rfl (Jg (by omega)) ?_))))))))));intro b64 o65 cs66 e67;obtain⟨rfl,bd68⟩:cs66=_∧_:=e67.rd;refine Ol (J3e Ze rfl (e67.cell 0 _ rfl) (Ol (J3d (z:=(((a.getD i 0):Nat):Int)) Yi Yn rfl (IntWalk.u64_in _ (by omega)) (Oa (Nl (Rh (Om (Om (Ol (J3i rfl rfl (fun hc69=>?_) (fun hc69=>?_)))))))))))
  ·refine Nl (J26 rfl (Rg (Om (Ol (St.add rfl rfl (Zj (a:=(a.getD i 0)) (b:=4294967296) (by omega)) (Oa (Nl (W.region (Oa (Nl (W.region (Om (Om (Om (Ol (St.sub rfl rfl (Y3 (a:=(a.getD i 0)+4294967296) (b:=c) (by omega) (by omega)) ?_))))))))))))))));refine Ol (J3d (z:=(((((a.getD i 0)+4294967296) - c) % 4294967296:Nat):Int)) Yz Yy rfl (Jn _) (Ol (J3t (T:=Je) (css:=[[(.int .u32 (((((a.getD i 0)+4294967296) - c) % 4294967296:Nat):Int))]]) (l:=[(((a.getD i 0)+4294967296) - c) % 4294967296]) C9 sl24 Ji (by decide) (by decide) rfl (by kernel_rfl) ⟨⟨rfl,(Nat.mod_lt _ (by decide))⟩,trivial⟩ ?_)));intro g74 w70 C71 s72 h73;replace hP:=hP.sp s72 C71 (fun _ h=>h)
   refine Ol (J3o (T:=Je) C71 sl24 Ji rfl rfl hP (Xh h73) (by simp only [List.length_append,List.length_cons,List.length_nil,maxLen];omega) (by simp only [List.length_append,List.length_cons,List.length_nil];omega) rfl ?_);intro v77 w78 x79 C80 s81 u82 h83;replace r0:=(r0.sp s72).tr s81.tx;replace r1:=(r1.sp s72).tr s81.tx;obtain⟨a84,c85,rfl,_,_⟩:=h83.len;refine Oa (Nl (W.region (Om (Ol (St.add rfl rfl (Jc (a:=i) (b:=1) (by omega)) (Oa (Nl (⟨_,(by omega),_,_,(i+1),(p++[(((a.getD i 0)+4294967296) - c) % 4294967296]),1,a84,c85,C80,rfl,rfl,rfl,rfl,rfl,rfl,r0,r1,h83,(by omega),(by rw [List.length_append,hp];rfl),(Ju hs (Nat.mod_lt _ (by decide))),(by decide),(X1 (s:=c) (d:=(((a.getD i 0)+4294967296) - c) % 4294967296) hp hv (by first | rfl | (have h7:=Y6 (l:=b) (i:=i) (by omega);omega)) (by omega)),rfl⟩))))))))
  refine Nl (J28 rfl (W.skip (W.region (Om (Om (Om (Ol (St.sub rfl rfl (Y3 (a:=(a.getD i 0)) (b:=c) (by omega) (by omega)) (Ol (J3d (z:=((((a.getD i 0) - c) % 4294967296:Nat):Int)) Yz Yy rfl (Jn _) (Ol (J3t (T:=Je) (css:=[[(.int .u32 ((((a.getD i 0) - c) % 4294967296:Nat):Int))]]) (l:=[((a.getD i 0) - c) % 4294967296]) C9 sl24 Ji (by decide) (by decide) rfl (by kernel_rfl) ⟨⟨rfl,(Nat.mod_lt _ (by decide))⟩,trivial⟩ ?_))))))))))));intro g90 w86 C87 s88 h89;replace hP:=hP.sp s88 C87 (fun _ h=>h)
  refine Ol (J3o (T:=Je) C87 sl24 Ji rfl rfl hP (Xh h89) (by simp only [List.length_append,List.length_cons,List.length_nil,maxLen];omega) (by simp only [List.length_append,List.length_cons,List.length_nil];omega) rfl ?_);intro v93 w94 x95 C96 s97 u98 h99;replace r0:=(r0.sp s88).tr s97.tx;replace r1:=(r1.sp s88).tr s97.tx;obtain⟨a100,c101,rfl,_,_⟩:=h99.len;refine Oa (Nl (W.region (Om (Ol (St.add rfl rfl (Jc (a:=i) (b:=1) (by omega)) (Oa (Nl (⟨_,(by omega),_,_,(i+1),(p++[((a.getD i 0) - c) % 4294967296]),0,a100,c101,C96,rfl,rfl,rfl,rfl,rfl,rfl,r0,r1,h99,(by omega),(by rw [List.length_append,hp];rfl),(Ju hs (Nat.mod_lt _ (by decide))),(by decide),(X1 (s:=c) (d:=((a.getD i 0) - c) % 4294967296) hp hv (by first | rfl | (have h7:=Y6 (l:=b) (i:=i) (by omega);omega)) (by omega)),rfl⟩))))))))
 exact Nl (J28 rfl (W.exit (Rg (Om (Oa (Nl (W.ret (Wq rfl rfl C9 (J3s (hP.toRS C9 hX) ((Jg1 hs hp (by omega) hlb hle hv)))))))))))
end Go.Wf
namespace Go.Wf
open Go Go.Proofs Go.RowKit
theorem x_add{X:Nat→Prop}{w:World}(hX:XB X w){v0:Value}{a:GInt}(r0:RV Jx X w v0 a){v1:Value}{b:GInt}(r1:RV Jx X w v1 b)(hla:a.mag.length≤549755813888)(hlb:b.mag.length≤549755813888):Calls Tryz.prog 174 #[v0,v1] w (Ret w fun v w'=>RV Jx X w' v (ofZ (a.toZ+b.toZ))):=by
 obtain⟨a1,c2,rfl,h3⟩:=RV.int r0;obtain⟨a4,c5,rfl,h6⟩:=RV.int r1;have C:=Cx.start hX;have sa:=r0.int_small;have sb:=r1.int_small;have hN:=Za sa;have hD:=Za sb;refine Cgo (args:=[(.agg #[(.bool a.neg),(.slice a1 a.mag.length c2)]),(.agg #[(.bool b.neg),(.slice a4 b.mag.length c5)])]) Tryz.func174 rfl rfl rfl (Rg (Ol (J3g C rfl ?_)));intro g7 w8 x9 y10 lt11 C12 s13 o14;refine Ol (J3g C12 rfl ?_);intro g15 w16 x17 y18 lt19 C20 s21 o22;replace h3:=(h3.sp s13).sp s21;replace h6:=(h6.sp s13).sp s21;refine Ol (J3b C20 io26 rfl ?_);intro g24 w25 x26 y27 lt28 C29 s30 o31;replace o14:=(o14.spn s21).spn s30;replace o22:=o22.spn s30;refine Nl (W.seq (J4j J5 6 [[],[0],[],[2],[],[]] ((x26,y27),Jl2) (RL X w) [fx (.agg #[(.bool a.neg),(.slice a1 a.mag.length c2)]),fun(s:GhL) (v:Value) (w':World)=>RV Jx s.1.1 w' v (ofZ a.toZ),fx (.agg #[(.bool b.neg),(.slice a4 b.mag.length c5)]),fun(s:GhL) (v:Value) (w':World)=>RV Jx s.1.1 w' v (ofZ b.toZ),fun(s:GhL) (v:Value) (w':World)=>∃ g':Nat,v= .pointer (some ⟨g',0,none⟩)∧Own w s.1.2 w' g' [(.bool false),(.slice none 0 0)] 26∧w25.heap.size≤g'∧s.2 g'=some 4,fun(s:GhL) (v:Value) (w':World)=>∃ g':Nat,v= .pointer (some ⟨g',0,none⟩)∧Own w s.1.2 w' g' [(.bool false),(.slice none 0 0)] 26∧w25.heap.size≤g'∧s.2 g'=some 5] (by kernel_rfl) (J4v C29) RL.trans ⟨sx,(fun _ _ _ _ _ h r=>RV.tr h r.rc.sp.tx),sx,(fun _ _ _ _ _ h r=>RV.tr h r.rc.sp.tx),(fun _ _ _ _ _ ⟨g,e,o,l,q⟩ r=>⟨g,e,o.spn r.rc.sp,l,r.ext _ _ q⟩),(fun _ _ _ _ _ ⟨g,e,o,l,q⟩ r=>⟨g,e,o.spn r.rc.sp,l,r.ext _ _ q⟩),trivial⟩ fun f74 s75 w76 r77 k78=>?_))
 have C79:=r77.rc.cx;have S80:=r77.rc.sp;have lt81:=o14.blk.lt;have lt82:=o22.blk.lt;have lt83:=o31.blk.lt;have hszS80:=S80.tx.size;replace h3:=(h3.sp s30).sp S80;replace h6:=(h6.sp s30).sp S80;replace o14:=o14.spn S80;replace o22:=o22.spn S80;replace o31:=o31.spn S80;have k78:Keep [7,8,9,10,5,6] _ f74:=k78;refine⟨⟨fun _=>?_,fun⟨e84,_⟩=>?_,fun _=>?_,fun⟨e85,_⟩=>?_,fun _=>?_,fun _=>?_,trivial⟩,fun⟨e86,d87,e88,d89,d90,d91,_⟩=>?_⟩
 ·exact Ja k78 aN fun _=>OpSt.op (J29 (vs:=[(.bool a.neg),(.slice a1 a.mag.length c2)]) o14 ag26 rfl rfl rfl ⟨s75,RL.same C79,rfl⟩)
 ·refine Ja k78 (aC e84 aN) fun _=>OpSt.op (J25 C79 kz rfl rfl (Vi C79.bd (a:=a) (Jo h3) (by omega)) ?_);intro v92 w93 C94 s95 h96;exact⟨s75,J4g ⟨C94,s95⟩,h96⟩
 ·exact Ja k78 aN fun _=>OpSt.op (J29 (vs:=[(.bool b.neg),(.slice a4 b.mag.length c5)]) o22 ag26 rfl rfl rfl ⟨s75,RL.same C79,rfl⟩)
 ·refine Ja k78 (aC e85 aN) fun _=>OpSt.op (J25 C79 kz rfl rfl (Vi C79.bd (a:=b) (Jo h6) (by omega)) ?_);intro v97 w98 C99 s100 h101;exact⟨s75,J4g ⟨C99,s100⟩,h101⟩
 ·refine Ja k78 aN fun _=>OpSt.op (J3b C79 io26 rfl ?_);intro g102 w103 x104 y105 lt106 C107 s108 o109;exact⟨((x104,y105),lab s75.2 g102 4),RL.new (r77.bd fun _ _ h=>by cases h) ⟨C107,s108⟩ (Nat.le_of_not_lt fun hh=>lt106 _ hh rfl) o109.blk.lt,g102,rfl,o109,Nat.le_of_not_lt fun hh=>lt106 _ (Nat.lt_of_lt_of_le hh hszS80) rfl,jq _ _ _⟩
 ·refine Ja k78 aN fun _=>OpSt.op (J3b C79 io26 rfl ?_);intro g113 w114 x115 y116 lt117 C118 s119 o120;exact⟨((x115,y116),lab s75.2 g113 5),RL.new (r77.bd fun _ _ h=>by cases h) ⟨C118,s119⟩ (Nat.le_of_not_lt fun hh=>lt117 _ hh rfl) o120.blk.lt,g113,rfl,o120,Nat.le_of_not_lt fun hh=>lt117 _ (Nat.lt_of_lt_of_le hh hszS80) rfl,jq _ _ _⟩
 obtain⟨a125,c126,e124,h127⟩:=RV.int d87;obtain⟨a129,c130,e128,h131⟩:=RV.int d89;obtain⟨g133,e132,o134,l135,q136⟩:=d90;have n137:g7≠g133:=Nat.ne_of_lt (Nat.lt_of_lt_of_le lt81 l135);have n138:g15≠g133:=Nat.ne_of_lt (Nat.lt_of_lt_of_le lt82 l135);have n139:g24≠g133:=Nat.ne_of_lt (Nat.lt_of_lt_of_le lt83 l135);obtain⟨g142,e141,o143,l144,q145⟩:=d91;have n146:g7≠g142:=Nat.ne_of_lt (Nat.lt_of_lt_of_le lt81 l144);have n147:g15≠g142:=Nat.ne_of_lt (Nat.lt_of_lt_of_le lt82 l144);have n148:g24≠g142:=Nat.ne_of_lt (Nat.lt_of_lt_of_le lt83 l144);have n149:g133≠g142:=Jkg q136 q145 rfl;obtain⟨f151,rfl⟩:=mixK k78 (aC e86 (aC e124 (aC e88 (aC e128 (aC e132 (aC e141 aN))))));refine On (J3a (cs':=[(.bool (ofZ a.toZ).neg),(.slice a125 (ofZ a.toZ).mag.length c126)]) C79 o134 io26 rfl rfl rfl rfl rfl rfl ?_);intro w152 C153 s154 o155;replace o143:=o143.spo s154 (Ne.symm n149);refine On (J3a (cs':=[(.bool (ofZ b.toZ).neg),(.slice a129 (ofZ b.toZ).mag.length c130)]) C153 o143 io26 rfl rfl rfl rfl rfl rfl ?_);intro w156 C157 s158 o159;replace h127:=(h127.sp s154).sp s158;replace h131:=(h131.sp s154).sp s158;replace o31:=(o31.spo s154 n139).spo s158 n148;replace o155:=o155.spo s158 n149;refine Nl (Rh (Ol (St.fieldAddr Zv rfl (Ol (J27 o155 pl4 rfl rfl (Ol (St.fieldAddr Zv rfl (Ol (J27 o159 pl4 rfl rfl (Ol (St.bool (J5p un4 rfl rfl rfl ⟨_,rfl,fun hb160=>?_,fun hb160=>?_⟩))))))))))))
 ·refine Nl (J26 rfl (W.seq (J3m J5 7 [[],[0],[],[2],[],[4],[3,5]] C157 [fx (.pointer (some ⟨g133,0,none⟩)),fx (.bool (ofZ a.toZ).neg),fx (.pointer (some ⟨g133,1,none⟩)),fx (.slice a125 (ofZ a.toZ).mag.length c126),fx (.pointer (some ⟨g142,1,none⟩)),fx (.slice a129 (ofZ b.toZ).mag.length c130),fs Je (Jt (max (ofZ a.toZ).mag.length (ofZ b.toZ).mag.length+1) (val (ofZ a.toZ).mag+val (ofZ b.toZ).mag))] (by kernel_rfl) ⟨sx,sx,sx,sx,sx,sx,ss,trivial⟩ fun f169 s170 w171 ⟨C174,S175⟩ k173=>?_)))
  replace h127:=h127.sp S175;replace h131:=h131.sp S175;replace o155:=o155.spn S175;replace o159:=o159.spn S175;have k173:Keep [16,17,18,19,20,21,22] _ f169:=k173;refine⟨⟨fun _=>?_,fun⟨e181,_⟩=>?_,fun _=>?_,fun⟨e182,_⟩=>?_,fun _=>?_,fun⟨e183,_⟩=>?_,fun⟨e184,e185,_⟩=>?_,trivial⟩,fun⟨e186,e187,e188,e189,e190,e191,d192,_⟩=>?_⟩
  ·exact Ja k173 aN fun _=>OpSt.op (St.fieldAddr Zv rfl ⟨s170,RC.same C174,rfl⟩)
  ·exact Ja k173 (aC e181 aN) fun _=>OpSt.op (J27 o155 pl4 rfl rfl ⟨s170,RC.same C174,rfl⟩)
  ·exact Ja k173 aN fun _=>OpSt.op (St.fieldAddr Jz rfl ⟨s170,RC.same C174,rfl⟩)
  ·exact Ja k173 (aC e182 aN) fun _=>OpSt.op (J27 o155 pl24 rfl rfl ⟨s170,RC.same C174,rfl⟩)
  ·exact Ja k173 aN fun _=>OpSt.op (St.fieldAddr Jz rfl ⟨s170,RC.same C174,rfl⟩)
  ·exact Ja k173 (aC e183 aN) fun _=>OpSt.op (J27 o159 pl24 rfl rfl ⟨s170,RC.same C174,rfl⟩)
  ·refine Ja k173 (aC e184 (aC e185 aN)) fun _=>OpSt.op (J25 C174 Jzq rfl rfl (Jp6 C174.bd h127 h131 (by omega) (by omega)) ?_);intro v193 w194 C195 s196 h197;exact⟨s170,⟨C195,s196⟩,h197⟩
  obtain⟨a199,c200,e198,d192⟩:=RS.opn d192;obtain⟨f201,rfl⟩:=mixK k173 (aC e186 (aC e187 (aC e188 (aC e189 (aC e190 (aC e191 (aC e198 aN)))))));refine Ol (J25 C174 zt rfl rfl (Y2 C174.bd d192 (by rw [Jj];omega)) ?_);intro v202 w203 C204 s205 h206;replace o31:=(o31.spn S175).spn s205;obtain⟨a207,c208,rfl,h209⟩:=RV.int h206;refine On (J3a (cs':=[(.bool (ofZ (Jk (ofZ a.toZ).neg (val (Jt (max (ofZ a.toZ).mag.length (ofZ b.toZ).mag.length+1) (val (ofZ a.toZ).mag+val (ofZ b.toZ).mag))))).neg),(.slice a207 (ofZ (Jk (ofZ a.toZ).neg (val (Jt (max (ofZ a.toZ).mag.length (ofZ b.toZ).mag.length+1) (val (ofZ a.toZ).mag+val (ofZ b.toZ).mag))))).mag.length c208)]) C204 o31 io26 rfl rfl rfl rfl rfl rfl ?_);intro w210 C211 s212 o213;replace h209:=h209.sp s212;refine Nl (W.ret (J7 rfl (resV.c o213 rfl ag26 rfl) (Ret.intro ?_ C211.below)));exact J3l (a:=(ofZ (Jk (ofZ a.toZ).neg (val (Jt (max (ofZ a.toZ).mag.length (ofZ b.toZ).mag.length+1) (val (ofZ a.toZ).mag+val (ofZ b.toZ).mag)))))) ((Jo h209).tr (Tr.weak C211.base)) (congrArg ofZ (by rw [Zi _ _ (Jeb (Kg _) (Kg _)),Jjh (by simpa using hb160),Jw,Jw]))
 refine Nl (J28 rfl (W.skip (Rh (Ol (St.fieldAddr Jz rfl (Ol (J27 o155 pl24 rfl rfl (Ol (St.fieldAddr Jz rfl (Ol (J27 o159 pl24 rfl rfl (Ol (St.bool (J25 C157 Jvb rfl rfl (Je8 C157.bd h127 h131 (Vg _) (Vg _) (by omega) (by omega)) ?_))))))))))))));intro v214 w215 C216 s217 h218;replace o31:=o31.spn s217;refine⟨_,h218,fun hb219=>?_,fun hb219=>?_⟩
 ·refine Nl (J26 rfl (W.seq ?_));have hlt:=of_decide_eq_true hb219;have hll:=Ka (a:=(ofZ b.toZ).mag) (b:=(ofZ a.toZ).mag) (Vg _) (Kg _) (by omega);refine J3m J5 7 [[],[0],[],[2],[],[4],[3,5]] C216 [fx (.pointer (some ⟨g142,0,none⟩)),fx (.bool (ofZ b.toZ).neg),fx (.pointer (some ⟨g142,1,none⟩)),fx (.slice a129 (ofZ b.toZ).mag.length c130),fx (.pointer (some ⟨g133,1,none⟩)),fx (.slice a125 (ofZ a.toZ).mag.length c126),fs Je (Jt (ofZ b.toZ).mag.length (val (ofZ b.toZ).mag - val (ofZ a.toZ).mag))] (by kernel_rfl) ⟨sx,sx,sx,sx,sx,sx,ss,trivial⟩ fun f228 s229 w230 ⟨C233,S234⟩ k232=>?_
  replace h127:=(h127.sp s217).sp S234;replace h131:=(h131.sp s217).sp S234;replace o155:=(o155.spn s217).spn S234;replace o159:=(o159.spn s217).spn S234;have k232:Keep [29,30,31,32,33,34,35] _ f228:=k232;refine⟨⟨fun _=>?_,fun⟨e240,_⟩=>?_,fun _=>?_,fun⟨e241,_⟩=>?_,fun _=>?_,fun⟨e242,_⟩=>?_,fun⟨e243,e244,_⟩=>?_,trivial⟩,fun⟨e245,e246,e247,e248,e249,e250,d251,_⟩=>?_⟩
  ·exact Ja k232 aN fun _=>OpSt.op (St.fieldAddr Zv rfl ⟨s229,RC.same C233,rfl⟩)
  ·exact Ja k232 (aC e240 aN) fun _=>OpSt.op (J27 o159 pl4 rfl rfl ⟨s229,RC.same C233,rfl⟩)
  ·exact Ja k232 aN fun _=>OpSt.op (St.fieldAddr Jz rfl ⟨s229,RC.same C233,rfl⟩)
  ·exact Ja k232 (aC e241 aN) fun _=>OpSt.op (J27 o159 pl24 rfl rfl ⟨s229,RC.same C233,rfl⟩)
  ·exact Ja k232 aN fun _=>OpSt.op (St.fieldAddr Jz rfl ⟨s229,RC.same C233,rfl⟩)
  ·exact Ja k232 (aC e242 aN) fun _=>OpSt.op (J27 o155 pl24 rfl rfl ⟨s229,RC.same C233,rfl⟩)
  ·refine Ja k232 (aC e243 (aC e244 aN)) fun _=>OpSt.op (J25 C233 Jof rfl rfl (Jbm C233.bd h131 h127 (by omega) hll (by omega)) ?_);intro v252 w253 C254 s255 h256;exact⟨s229,⟨C254,s255⟩,h256⟩
  obtain⟨a258,c259,e257,d251⟩:=RS.opn d251;obtain⟨f260,rfl⟩:=mixK k232 (aC e245 (aC e246 (aC e247 (aC e248 (aC e249 (aC e250 (aC e257 aN)))))));refine Ol (J25 C233 zt rfl rfl (Y2 C233.bd d251 (by rw [Jj];omega)) ?_);intro v261 w262 C263 s264 h265;replace o31:=(o31.spn S234).spn s264;obtain⟨a266,c267,rfl,h268⟩:=RV.int h265;refine On (J3a (cs':=[(.bool (ofZ (Jk (ofZ b.toZ).neg (val (Jt (ofZ b.toZ).mag.length (val (ofZ b.toZ).mag - val (ofZ a.toZ).mag))))).neg),(.slice a266 (ofZ (Jk (ofZ b.toZ).neg (val (Jt (ofZ b.toZ).mag.length (val (ofZ b.toZ).mag - val (ofZ a.toZ).mag))))).mag.length c267)]) C263 o31 io26 rfl rfl rfl rfl rfl rfl ?_);intro w269 C270 s271 o272;replace h268:=h268.sp s271;refine Nl (W.ret (J7 rfl (resV.c o272 rfl ag26 rfl) (Ret.intro ?_ C270.below)));exact J3l (a:=(ofZ (Jk (ofZ b.toZ).neg (val (Jt (ofZ b.toZ).mag.length (val (ofZ b.toZ).mag - val (ofZ a.toZ).mag)))))) ((Jo h268).tr (Tr.weak C270.base)) (congrArg ofZ (by rw [Zi _ _ (Nat.lt_of_le_of_lt (Nat.sub_le _ _) (Zs _ (Kg _))),Jvk (by simpa using hb160) (by omega),Jw,Jw]))
 refine Nl (J28 rfl (W.skip (W.seq ?_)));have hlt:=of_decide_eq_false hb219;have hll:=Ka (a:=(ofZ a.toZ).mag) (b:=(ofZ b.toZ).mag) (Vg _) (Kg _) (by omega);refine J3m J5 7 [[],[0],[],[2],[],[4],[3,5]] C216 [fx (.pointer (some ⟨g133,0,none⟩)),fx (.bool (ofZ a.toZ).neg),fx (.pointer (some ⟨g133,1,none⟩)),fx (.slice a125 (ofZ a.toZ).mag.length c126),fx (.pointer (some ⟨g142,1,none⟩)),fx (.slice a129 (ofZ b.toZ).mag.length c130),fs Je (Jt (ofZ a.toZ).mag.length (val (ofZ a.toZ).mag - val (ofZ b.toZ).mag))] (by kernel_rfl) ⟨sx,sx,sx,sx,sx,sx,ss,trivial⟩ fun f281 s282 w283 ⟨C286,S287⟩ k285=>?_
 replace h127:=(h127.sp s217).sp S287;replace h131:=(h131.sp s217).sp S287;replace o155:=(o155.spn s217).spn S287;replace o159:=(o159.spn s217).spn S287;have k285:Keep [37,38,39,40,41,42,43] _ f281:=k285;refine⟨⟨fun _=>?_,fun⟨e293,_⟩=>?_,fun _=>?_,fun⟨e294,_⟩=>?_,fun _=>?_,fun⟨e295,_⟩=>?_,fun⟨e296,e297,_⟩=>?_,trivial⟩,fun⟨e298,e299,e300,e301,e302,e303,d304,_⟩=>?_⟩
 ·exact Ja k285 aN fun _=>OpSt.op (St.fieldAddr Zv rfl ⟨s282,RC.same C286,rfl⟩)
 ·exact Ja k285 (aC e293 aN) fun _=>OpSt.op (J27 o155 pl4 rfl rfl ⟨s282,RC.same C286,rfl⟩)
 ·exact Ja k285 aN fun _=>OpSt.op (St.fieldAddr Jz rfl ⟨s282,RC.same C286,rfl⟩)
 ·exact Ja k285 (aC e294 aN) fun _=>OpSt.op (J27 o155 pl24 rfl rfl ⟨s282,RC.same C286,rfl⟩)
 ·exact Ja k285 aN fun _=>OpSt.op (St.fieldAddr Jz rfl ⟨s282,RC.same C286,rfl⟩)
 ·exact Ja k285 (aC e295 aN) fun _=>OpSt.op (J27 o159 pl24 rfl rfl ⟨s282,RC.same C286,rfl⟩)
 ·refine Ja k285 (aC e296 (aC e297 aN)) fun _=>OpSt.op (J25 C286 Jof rfl rfl (Jbm C286.bd h127 h131 (by omega) hll (by omega)) ?_);intro v305 w306 C307 s308 h309;exact⟨s282,⟨C307,s308⟩,h309⟩
 obtain⟨a311,c312,e310,d304⟩:=RS.opn d304;obtain⟨f313,rfl⟩:=mixK k285 (aC e298 (aC e299 (aC e300 (aC e301 (aC e302 (aC e303 (aC e310 aN)))))));refine Ol (J25 C286 zt rfl rfl (Y2 C286.bd d304 (by rw [Jj];omega)) ?_);intro v314 w315 C316 s317 h318;replace o31:=(o31.spn S287).spn s317;obtain⟨a319,c320,rfl,h321⟩:=RV.int h318;refine On (J3a (cs':=[(.bool (ofZ (Jk (ofZ a.toZ).neg (val (Jt (ofZ a.toZ).mag.length (val (ofZ a.toZ).mag - val (ofZ b.toZ).mag))))).neg),(.slice a319 (ofZ (Jk (ofZ a.toZ).neg (val (Jt (ofZ a.toZ).mag.length (val (ofZ a.toZ).mag - val (ofZ b.toZ).mag))))).mag.length c320)]) C316 o31 io26 rfl rfl rfl rfl rfl rfl ?_);intro w322 C323 s324 o325;replace h321:=h321.sp s324;refine Nl (W.ret (J7 rfl (resV.c o325 rfl ag26 rfl) (Ret.intro ?_ C323.below)));exact J3l (a:=(ofZ (Jk (ofZ a.toZ).neg (val (Jt (ofZ a.toZ).mag.length (val (ofZ a.toZ).mag - val (ofZ b.toZ).mag)))))) ((Jo h321).tr (Tr.weak C323.base)) (congrArg ofZ (by rw [Zi _ _ (Nat.lt_of_le_of_lt (Nat.sub_le _ _) (Zs _ (Kg _))),Jvu (by simpa using hb160) (by omega),Jw,Jw]))
theorem x_sub{X:Nat→Prop}{w:World}(hX:XB X w){v0:Value}{a:GInt}(r0:RV Jx X w v0 a){v1:Value}{b:GInt}(r1:RV Jx X w v1 b)(hla:a.mag.length≤549755813888)(hlb:b.mag.length≤549755813888):Calls Tryz.prog 217 #[v0,v1] w (Ret w fun v w'=>RV Jx X w' v (ofZ (a.toZ - b.toZ))):=by
 obtain⟨a1,c2,rfl,h3⟩:=RV.int r0;obtain⟨a4,c5,rfl,h6⟩:=RV.int r1;have C:=Cx.start hX;have sa:=r0.int_small;have sb:=r1.int_small;have hD:=Za sb;refine Cgo (args:=[(.agg #[(.bool a.neg),(.slice a1 a.mag.length c2)]),(.agg #[(.bool b.neg),(.slice a4 b.mag.length c5)])]) Tryz.func217 rfl rfl rfl (Rg (Ol (J3g C rfl ?_)));intro g7 w8 x9 y10 lt11 C12 s13 o14;refine Ol (J3g C12 rfl ?_);intro g15 w16 x17 y18 lt19 C20 s21 o22;replace h3:=(h3.sp s13).sp s21;replace h6:=(h6.sp s13).sp s21;replace o14:=o14.spn s21;refine Ol (J3b C20 io26 rfl ?_);intro g24 w25 x26 y27 lt28 C29 s30 o31;refine Nl (W.seq (J3m J5 3 [[],[],[1]] C29 [fx (.agg #[(.bool a.neg),(.slice a1 a.mag.length c2)]),fx (.agg #[(.bool b.neg),(.slice a4 b.mag.length c5)]),fr Jx (ofZ (-b.toZ))] (by kernel_rfl) ⟨sx,sx,sr,trivial⟩ fun f43 s44 w45 ⟨C48,S49⟩ k47=>?_))
 replace h3:=(h3.sp s30).sp S49;replace h6:=(h6.sp s30).sp S49;replace o14:=(o14.spn s30).spn S49;replace o22:=(o22.spn s30).spn S49;have k47:Keep [5,6,7] _ f43:=k47;refine⟨⟨fun _=>?_,fun _=>?_,fun⟨e53,_⟩=>?_,trivial⟩,fun⟨e54,e55,d56,_⟩=>?_⟩
 ·exact Ja k47 aN fun _=>OpSt.op (J29 (vs:=[(.bool a.neg),(.slice a1 a.mag.length c2)]) o14 ag26 rfl rfl rfl ⟨s44,RC.same C48,rfl⟩)
 ·exact Ja k47 aN fun _=>OpSt.op (J29 (vs:=[(.bool b.neg),(.slice a4 b.mag.length c5)]) o22 ag26 rfl rfl rfl ⟨s44,RC.same C48,rfl⟩)
 ·refine Ja k47 (aC e53 aN) fun _=>OpSt.op (J25 C48 Jvj rfl rfl (Jse C48.bd (a:=b) (Jo h6) (by omega)) ?_);intro v57 w58 C59 s60 h61;exact⟨s44,⟨C59,s60⟩,h61⟩
 obtain⟨a63,c64,e62,h65⟩:=RV.int d56;obtain⟨f66,rfl⟩:=mixK k47 (aC e54 (aC e55 (aC e62 aN)));refine Ol (J25 C48 cb174 rfl rfl (x_add C48.bd (a:=a) (Jo h3) (b:=(ofZ (-b.toZ))) (Jo h65) (by omega) (by rw [Z2];omega)) ?_);intro v67 w68 C69 s70 h71;replace o31:=(o31.spn S49).spn s70;simp only [Jw,Xy] at h71;obtain⟨a72,c73,rfl,h74⟩:=RV.int h71;refine On (J3a (cs':=[(.bool (ofZ (a.toZ+(-b.toZ))).neg),(.slice a72 (ofZ (a.toZ+(-b.toZ))).mag.length c73)]) C69 o31 io26 rfl rfl rfl rfl rfl rfl ?_);intro w75 C76 s77 o78;replace h74:=h74.sp s77;refine Nl (W.ret (J7 rfl (resV.c o78 rfl ag26 rfl) (Ret.intro ?_ C76.below)));exact J3l (a:=(ofZ (a.toZ+(-b.toZ)))) ((Jo h74).tr (Tr.weak C76.base)) ((by rw [Int.sub_eq_add_neg]))
end Go.Wf
namespace Go.Wf
open Go
theorem Jdd{x:Nat}(h:0 < x):blen x=blen (x / 2)+1:=by
 rcases Nat.eq_zero_or_pos (x / 2) with e | e
 ·have:x=1:=by omega
  subst this;rfl
 ·refine qx h ?_ ?_
  ·have:=Qm (x / 2)
   rw [Nat.pow_succ];omega
  ·have:=kb e
   have hp:=jh e;rw [Nat.pow_succ];have e2:2 ^ blen (x / 2)=2 ^ (blen (x / 2) - 1) * 2:=by rw [← Nat.pow_succ];congr 1;omega
   omega
theorem Jgn{d:List Nat}(hd:trim d=d)(sd:Jr d)(hne:d.length≠0):blen (val d)=32 * (d.length - 1)+blen (d.getD (d.length - 1) 0):=by
 have hne':d≠[]:=fun e=>hne (by rw [e];rfl);have ht:=Jd4 hd sd hne';have h2:=Jp d (d.length - 1);rw [show d.length - 1+1=d.length by omega,List.take_length] at h2;have h1:=Qb (k:=d.length - 1) sd (by omega);have hb:=Qm (d.getD (d.length - 1) 0);have hg:=kb ht;have hp:=jh ht
 generalize d.getD (d.length - 1) 0=t at *
 generalize val (d.take (d.length - 1))=l at *
 have e:(4294967296:Nat) ^ (d.length - 1)=2 ^ (32 * (d.length - 1)):=by rw [Nat.pow_mul]
 rw [e] at h1 h2;rw [h2];have hP:=Nat.two_pow_pos (32 * (d.length - 1))
 generalize 32 * (d.length - 1)=k at *
 refine qx ?_ ?_ ?_
 ·have:=Nat.mul_pos hP ht;omega
 ·rw [Nat.pow_add]
  have:=Nat.mul_le_mul_left (2 ^ k) (show t+1≤2 ^ blen t by omega)
  rw [Nat.mul_add] at this;omega
 ·rw [Nat.pow_add];have e2:2 ^ blen t=2 ^ (blen t - 1) * 2:=by rw [← Nat.pow_succ];congr 1;omega
  have:=Nat.mul_le_mul_left (2 ^ k) hg
  rw [e2,← Nat.mul_assoc];omega
theorem Jvd{m:List Nat}{j:Nat}(sm:Jr m)(hl:m.length≤2)(hj:0 < j):val (m.drop j) < 4294967296:=by
 have h:=Zs (m.drop j) (jr sm j);rw [List.length_drop] at h
 have:4294967296 ^ (m.length - j)≤4294967296 ^ 1:=Nat.pow_le_pow_right (by omega) (by omega)
 omega
theorem Jm0{n:Nat}(h:n < 18446744073709551616):trim [n % 4294967296,n / 4294967296 % 4294967296]=digs n:=by
 refine j6 (Zt (Nat.mod_lt _ (by decide)) (Zt (Nat.mod_lt _ (by decide)) J6)) ?_;simp only [val]
 have:n / 4294967296 < 4294967296:=by omega
 rw [Nat.mod_eq_of_lt this];omega
theorem Jhq{a p:List Nat}{i c n x:Nat}(hp:p.length=n / 32+i)(hv:val p+4294967296 ^ p.length * c=val (a.take i) * 2 ^ n)(hx:x=a.getD i 0 * 2 ^ (n % 32)+c):
  val (p++[x % 4294967296])+4294967296 ^ (p++[x % 4294967296]).length * (x / 4294967296)=val (a.take (i+1)) * 2 ^ n:=by
 rw [Z1,List.length_append,List.length_singleton,Jp,Nat.pow_succ,Nat.mul_assoc,Nat.add_assoc,← Nat.mul_add,Nat.mod_add_div,hx,Nat.mul_add,Nat.add_mul,← hv];have e:4294967296 ^ p.length * (a.getD i 0 * 2 ^ (n % 32))=4294967296 ^ i * a.getD i 0 * 2 ^ n:=by
  rw [hp];have e1:(4294967296:Nat) ^ (n / 32+i)=2 ^ (32 * (n / 32)) * 4294967296 ^ i:=by rw [Nat.pow_add,Nat.pow_mul]
  have e2:(2:Nat) ^ n=2 ^ (32 * (n / 32)) * 2 ^ (n % 32):=by rw [← Nat.pow_add];congr 1;omega
  rw [e1,e2]
  generalize (2:Nat) ^ (32 * (n / 32))=u
  generalize (4294967296:Nat) ^ i=v
  generalize (2:Nat) ^ (n % 32)=z
  generalize a.getD i 0=t
  rw [Nat.mul_assoc,Nat.mul_assoc,Nat.mul_left_comm t,Nat.mul_left_comm u]
 rw [e];omega
theorem Jle{a p:List Nat}{i c n:Nat}(sp:Jr p)(hi:a.length≤i)(hc:c < 4294967296)(hv:val p+4294967296 ^ p.length * c=val (a.take i) * 2 ^ n):trim (p++[c % 4294967296])=digs (val a * 2 ^ n):=by
 rw [Nat.mod_eq_of_lt hc];rw [List.take_of_length_le hi] at hv;exact j6 (Ju sp hc) (by rw [Z1,hv])
theorem Jly{x s c:Nat}(hx:x < 4294967296)(hs:s < 32)(hc:c < 4294967296):x * 2 ^ s+c < 18446744073709551616∧(x * 2 ^ s+c) / 4294967296 < 4294967296:=by
 have h:=Vu hs;have h2:x * 2 ^ s≤4294967295 * 2147483648:=Nat.mul_le_mul (by omega) h;omega
end Go.Wf
namespace Go.Wf
open Go Go.Proofs Go.RowKit
theorem Jgg{X:Nat→Prop}{w:World}(hX:XB X w){v0:Value}{a:GInt}(r0:RV Jx X w v0 a)(hl:a.mag.length≤1073741824):Calls Tryz.prog 239 #[v0] w (Ret w fun v w'=>v=(.int .i64 (((blen (val a.mag)):Nat):Int))):=by
 obtain⟨a1,c2,rfl,h3⟩:=RV.int r0;have C:=Cx.start hX;have sa:=r0.int_small;refine Cgo (args:=[(.agg #[(.bool a.neg),(.slice a1 a.mag.length c2)])]) Tryz.func239 rfl rfl rfl (Rg (Ol (J3g C rfl ?_)));intro g4 w5 x6 y7 lt8 C9 s10 o11;replace h3:=h3.sp s10;refine Oa (Nl (Rg (Ol (St.fieldAddr Jz rfl (Ol (J27 o11 pl24 rfl rfl (Ol (J25 C9 Jg9 rfl rfl (k7 C9.bd h3 (by omega)) ?_))))))));intro v12 w13 C14 s15 h16;replace h3:=h3.sp s15;replace o11:=o11.spn s15;obtain⟨a17,c18,rfl,_,_⟩:=h16.len;refine Oa (Nl (W.seq (W.seq ?_)));have hds:=Yf sa;have hdt:=Qp sa;have hdv:=K7 a.mag;have hdl:=J2 a.mag
 generalize trim a.mag=d at *
 refine W.region (Om (Ol (St.len sl24 rfl (Ol (J3h rfl rfl (fun hc19=>?_) (fun hc19=>?_))))))
 ·exact Nl (J26 rfl (Rg (Oa (Nl (W.ret (Wq rfl rfl C14 (congrArg (Value.int _) ((by rw [← hdv,List.eq_nil_of_length_eq_zero (show d.length=0 by omega)];rfl)))))))))
 refine Nl (J28 rfl (W.skip (Rg (Om (Ol (St.len sl24 rfl (Ol (St.sub rfl rfl (Zx (a:=d.length) (b:=1) (by omega) (by omega)) (Ol (St.mul rfl rfl (ka (a:=32) (b:=d.length - 1) (by omega)) (Oa (Nl (W.seq (W.seq ?_))))))))))))));have hbT:blen (val d)≤34359738400:=by have h7:=Jgn hdt hds (by omega);have h8:=Jab (Jm hds (d.length - 1));omega
 refine W.region (Om (Om (Ol (St.len sl24 rfl (Ol (St.sub rfl rfl (Zx (a:=d.length) (b:=1) (by omega) (by omega)) (Ol (J3k (j:=(d.length - 1)) (u:=(d.getD (d.length - 1) 0)) h16 sl24 Ji rfl rfl rfl (Jg (by omega)) ?_))))))));intro b20 o21 cs22 e23;obtain⟨rfl,bd24⟩:cs22=_∧_:=e23.rd;refine Ol (J3e Ze rfl (e23.cell 0 _ rfl) (Oa (Nl (W.block (J3j (fun μ f v=>∃ (x y:Nat→Prop) (xx:Nat) (k:Nat),Cx X w x y v∧f 2=(.int .i64 0)∧f 5=(.int .u32 ((xx:Nat):Int))∧f 4=(.int .i64 ((k:Nat):Int))∧RS Je x v (.slice a1 a.mag.length c2) a.mag∧Own w y v g4 [(.bool a.neg),(.slice a1 a.mag.length c2)] 26∧xx < 4294967296∧k+blen xx=blen (val d)∧k≤35184372088832 * 2∧μ=xx) _ ⟨_,_,(d.getD (d.length - 1) 0),(32 * (d.length - 1)),C14,rfl,rfl,rfl,h3,o11,(Jm hds _),(Jgn hdt hds (by omega)).symm,(by omega),rfl⟩ ?_)))));rintro m35 f25 w26 ⟨x27,y28,xx,k,C29,e30,e31,e32,h3,o33,hx,hk,hkb,hmu34⟩;obtain⟨f36,rfl⟩:=rebK (aC e30 (aC e31 (aC e32 aN)));clear e30 e31 e32;have hbl:blen xx≤32:=Jab hx;refine Rh (Om (Ol (J3u rfl rfl (fun hc37=>?_) (fun hc37=>?_))))
 ·refine Nl (J26 rfl (W.skip (W.seq (W.block (W.region (Om (Ol (St.add rfl rfl (Jc (a:=k) (b:=1) (by omega)) (Oa (Nl (W.region (Om (Ol (St.quo rfl rfl (by decide) (Jez (a:=xx) (b:=2) (by omega)) (Oa (Nl (⟨_,(by omega),_,_,xx / 2,k+1,C29,rfl,rfl,rfl,h3,o33,(by omega),(by have h7:=Jdd (x:=xx) (by omega);omega),(by have h7:=Jdd (x:=xx) (by omega);have h8:=hbT;omega),rfl⟩)))))))))))))))))
 exact Nl (J28 rfl (W.exit (Rg (Om (Oa (Nl (W.ret (Wq rfl rfl C29 (congrArg (Value.int _) ((by rw [← hdv,← hk,show xx=0 by omega];rfl)))))))))))
theorem xw{X:Nat→Prop}{w:World}(hX:XB X w){v0:Value}{m:List Nat}(r0:RS Je X w v0 m)(hm:m.length≤2):Calls Tryz.prog 166 #[v0] w (Ret w fun v w'=>v=(.int .u64 (((val m):Nat):Int))):=by
 obtain⟨a1,c2,rfl,_,_⟩:=r0.len;have C:=Cx.start hX;have sm:=r0.u32_small;refine Cgo (args:=[(.slice a1 m.length c2)]) Tryz.func166 rfl rfl rfl (Rg (Oa (Nl (Rg (Oa (Nl (Rh (Om (Ol (St.len sl24 rfl (Ol (St.sub (z:=(((m.length:Nat):Int) - 1)) rfl rfl (IntWalk.i64_in _ (by omega)) (Oa ?_)))))))))))));refine Nl (W.block (J3j (fun μ f v=>∃ (x y:Nat→Prop) (j:Nat),Cx X w x y v∧f 0=(.slice a1 m.length c2)∧f 2=(.int .u64 0)∧f 4=(.int .i64 ((j:Int) - 1))∧f 3=(.int .u64 ((val (m.drop j):Nat):Int))∧RS Je x v (.slice a1 m.length c2) m∧j≤m.length∧μ=j) _ ⟨_,_,m.length,C,rfl,rfl,rfl,(by rw [List.drop_of_length_le (Nat.le_refl _)];rfl),r0,(Nat.le_refl _),rfl⟩ ?_));rintro m13 f3 w4 ⟨x5,y6,j,C7,e8,e9,e10,e11,r0,hj,hmu12⟩;obtain⟨f14,rfl⟩:=rebK (aC e8 (aC e9 (aC e10 (aC e11 aN))));clear e8 e9 e10 e11;refine Rh (Om (Ol (J3w rfl rfl (fun hc15=>?_) (fun hc15=>?_))))
 ·refine Nl (J26 rfl (W.skip (W.seq (W.block ?_))));have hwb:=Jvd (j:=j) sm hm (by omega);have hdj:=Jm sm (j - 1);refine W.region (Om (Ol (St.shl rfl rfl (by decide) (Vv (a:=val (m.drop j)) (d:=4294967296) (by decide) (by omega)) (Om (Om (Ol (J3k (j:=(j - 1)) (u:=(m.getD (j - 1) 0)) r0 sl24 Ji rfl rfl (by omega) (Jg (by omega)) ?_)))))));intro b16 o17 cs18 e19;obtain⟨rfl,bd20⟩:cs18=_∧_:=e19.rd;refine Ol (J3e Ze rfl (e19.cell 0 _ rfl) (Ol (J3d (z:=(((m.getD (j - 1) 0):Nat):Int)) Yi Yn rfl (IntWalk.u64_in _ (by omega)) (Ol (St.add rfl rfl (Zj (a:=(val (m.drop j)) * 4294967296) (b:=(m.getD (j - 1) 0)) (by omega)) (Oa (Nl (W.region (Om (Ol (St.sub (z:=(((j:Int) - 1) - 1)) rfl rfl (IntWalk.i64_in _ (by omega)) ?_)))))))))));refine Oa (Nl (⟨_,(by omega),_,_,(j - 1),C7,rfl,rfl,(congrArg (Value.int .i64) (by omega)),(congrArg (Value.int .u64) (by rw [Vf (by omega) hj];omega)),r0,(by omega),rfl⟩))
 exact Nl (J28 rfl (W.exit (Rg (Om (Oa (Nl (W.ret (Wq rfl rfl C7 (congrArg (Value.int _) ((by rw [show j=0 by omega,List.drop_zero])))))))))))
theorem Je2{X:Nat→Prop}{w:World}(hX:XB X w){n:Nat}(hn:n < 18446744073709551616):Calls Tryz.prog 168 #[(.int .u64 ((n:Nat):Int))] w (Ret w fun v w'=>RS Je X w' v (digs n)):=by
 have C:=Cx.start hX;refine Cgo (args:=[(.int .u64 ((n:Nat):Int))]) Tryz.func168 rfl rfl rfl (Rg (Oa (Nl (Rg (Om (Ol (J3d (z:=((n % 4294967296:Nat):Int)) Yz Yy rfl (Jn _) (Om (Ol (St.shr rfl rfl (by decide) (Yx (d:=4294967296) _ (by decide)) ?_))))))))));refine Ol (J3d (z:=(((n / 4294967296) % 4294967296:Nat):Int)) Yz Yy rfl (Jn _) (Ol (J3t (T:=Je) (css:=[[(.int .u32 ((n % 4294967296:Nat):Int))],[(.int .u32 (((n / 4294967296) % 4294967296:Nat):Int))]]) (l:=[n % 4294967296,(n / 4294967296) % 4294967296]) C sl24 Ji (by decide) (by decide) rfl (by kernel_rfl) ⟨⟨rfl,(Nat.mod_lt _ (by decide))⟩,⟨rfl,(Nat.mod_lt _ (by decide))⟩,trivial⟩ ?_)));intro g5 w1 C2 s3 h4;refine Ol (J25 C2 Jg9 rfl rfl (k7 C2.bd h4 (by simp)) ?_);intro v8 w9 C10 s11 h12;obtain⟨a13,c14,rfl,_,_⟩:=h12.len;exact Oa (Nl (W.ret (Wq rfl rfl C10 (J3s ((h12:RS _ _ _ _ _).tr (Tr.weak C10.base)) ((Jm0 hn))))))
theorem Jcg{X:Nat→Prop}{w:World}(hX:XB X w){v0:Value}{a:List Nat}(r0:RS Je X w v0 a){n:Nat}(hla:a.length≤1073741824)(hn:n≤34359738400):Calls Tryz.prog 240 #[v0,(.int .i64 ((n:Nat):Int))] w (Ret w fun v w'=>RS Je X w' v (digs (val a * 2 ^ n))):=by
 obtain⟨a1,c2,rfl,_,_⟩:=r0.len;have C:=Cx.start hX;have sa:=r0.u32_small;refine Cgo (args:=[(.slice a1 a.length c2),(.int .i64 ((n:Nat):Int))]) Tryz.func240 rfl rfl rfl (Rg (Oa (Nl (Rg (Om (Ol (St.quo rfl rfl (by decide) (Y8 (a:=n) (b:=32) (by omega)) (Ol (J5c (n:=(n / 32)) C sl24 rfl rfl rfl (by omega) Ji (by decide) ?_)))))))));intro g3 w4 x5 C6 s7 h8;replace r0:=r0.sp s7;refine Oa (Nl (Rg (Oa (Nl (Rh (Oa (Nl (W.block (J3j (fun μ f v=>∃ (x y:Nat→Prop) (i:Nat) (p:List Nat) (c:Nat) (pa:Option Addr) (pc:Nat),Cx X w x y v∧f 0=(.slice a1 a.length c2)∧f 1=(.int .i64 ((n:Nat):Int))∧f 4=(.slice none 0 0)∧f 7=(.int .i64 ((i:Nat):Int))∧f 6=(.int .u64 ((c:Nat):Int))∧f 5=(.slice pa p.length pc)∧RS Je x v (.slice a1 a.length c2) a∧OS Je 118 w x y v (.slice pa p.length pc) p∧i≤a.length∧p.length=n / 32+i∧Jr p∧c < 4294967296∧val p+4294967296 ^ p.length * c=val (a.take i) * 2 ^ n∧μ=(a.length - i)) _ ⟨_,_,0,(List.replicate (n / 32) 0),0,(some ⟨g3,0,none⟩),(n / 32),C6,rfl,rfl,rfl,rfl,rfl,(congrArg (fun z=>Value.slice (some ⟨g3,0,none⟩) z (n / 32)) (List.length_replicate (n:=n / 32) (a:=0)).symm),r0,(by rw [List.length_replicate];exact h8),(Nat.zero_le _),(List.length_replicate ..),(Xf _),(by decide),(by simp [val,Jiy]),rfl⟩ ?_)))))))));rintro m21 f9 w10 ⟨x11,y12,i,p,c,pa,pc,C13,e14,e15,e16,e17,e18,e19,r0,hP,hi,hp,hs,hc,hv,hmu20⟩;obtain⟨f22,rfl⟩:=rebK (aC e14 (aC e15 (aC e16 (aC e17 (aC e18 (aC e19 aN))))));clear e14 e15 e16 e17 e18 e19;have hai:=Jm sa i;have hcar:=Jly (s:=n % 32) hai (Nat.mod_lt _ (by decide)) hc;refine Rh (Om (Om (Ol (St.len sl24 rfl (Ol (J3i rfl rfl (fun hc23=>?_) (fun hc23=>?_)))))))
 ·refine Nl (J26 rfl (W.skip (W.seq (W.block (Rg (Om (Om (Ol (J3k (j:=i) (u:=(a.getD i 0)) r0 sl24 Ji rfl rfl rfl (Jg (by omega)) ?_)))))))));intro b24 o25 cs26 e27;obtain⟨rfl,bd28⟩:cs26=_∧_:=e27.rd;refine Ol (J3e Ze rfl (e27.cell 0 _ rfl) (Ol (J3d (z:=(((a.getD i 0):Nat):Int)) Yi Yn rfl (IntWalk.u64_in _ (by omega)) (Om (Ol (St.rem rfl rfl (by decide) (X4 n 32) (Ol (J3d (z:=((n % 32:Nat):Int)) us3 Jpo rfl (IntWalk.u64_in _ (by omega)) (Ol (St.shl rfl rfl (by omega) (Qs (Jjm hai (Nat.mod_lt _ (by decide)))) ?_))))))))));refine Om (Ol (St.add rfl rfl (Zj (a:=a.getD i 0 * 2 ^ (n % 32)) (b:=c) (by omega)) (Oa (Nl (Rg (Om (Om (Ol (J3d (z:=(((((a.getD i 0) * 2 ^ (n % 32))+c) % 4294967296:Nat):Int)) Yz Yy rfl (Jn _) (Ol (J3t (T:=Je) (css:=[[(.int .u32 (((((a.getD i 0) * 2 ^ (n % 32))+c) % 4294967296:Nat):Int))]]) (l:=[(((a.getD i 0) * 2 ^ (n % 32))+c) % 4294967296]) C13 sl24 Ji (by decide) (by decide) rfl (by kernel_rfl) ⟨⟨rfl,(Nat.mod_lt _ (by decide))⟩,trivial⟩ ?_)))))))))));intro g33 w29 C30 s31 h32;replace hP:=hP.sp s31 C30 (fun _ h=>h)
  refine Ol (J3o (T:=Je) C30 sl24 Ji rfl rfl hP (Xh h32) (by simp only [List.length_append,List.length_cons,List.length_nil,maxLen];omega) (by simp only [List.length_append,List.length_cons,List.length_nil];omega) rfl ?_);intro v36 w37 x38 C39 s40 u41 h42;replace r0:=(r0.sp s31).tr s40.tx;obtain⟨a43,c44,rfl,_,_⟩:=h42.len;refine Oa (Nl (W.region (Om (Ol (St.shr rfl rfl (by decide) (Yx (d:=4294967296) _ (by decide)) (Oa (Nl (W.region (Om (Ol (St.add rfl rfl (Jc (a:=i) (b:=1) (by omega)) (Oa (Nl (⟨_,(by omega),_,_,(i+1),(p++[(((a.getD i 0) * 2 ^ (n % 32))+c) % 4294967296]),(((a.getD i 0) * 2 ^ (n % 32))+c) / 4294967296,a43,c44,C39,rfl,rfl,rfl,rfl,rfl,rfl,r0,h42,(by omega),(by rw [List.length_append,hp];rfl),(Ju hs (Nat.mod_lt _ (by decide))),hcar.2,(Jhq hp hv rfl),rfl⟩))))))))))))))
 refine Nl (J28 rfl (W.exit (Rg (Om (Om (Ol (J3d (z:=((c % 4294967296:Nat):Int)) Yz Yy rfl (Jn _) (Ol (J3t (T:=Je) (css:=[[(.int .u32 ((c % 4294967296:Nat):Int))]]) (l:=[c % 4294967296]) C13 sl24 Ji (by decide) (by decide) rfl (by kernel_rfl) ⟨⟨rfl,(Nat.mod_lt _ (by decide))⟩,trivial⟩ ?_)))))))));intro g49 w45 C46 s47 h48;replace hP:=hP.sp s47 C46 (fun _ h=>h)
 refine Ol (J3o (T:=Je) C46 sl24 Ji rfl rfl hP (Xh h48) (by simp only [List.length_append,List.length_cons,List.length_nil,maxLen];omega) (by simp only [List.length_append,List.length_cons,List.length_nil];omega) rfl ?_);intro v52 w53 x54 C55 s56 u57 h58;obtain⟨a59,c60,rfl,_,_⟩:=h58.len;obtain⟨x61,C62,hs63,h64⟩:=h58.freeze C55 hX;refine Ol (J25 C62 Jg9 rfl rfl (k7 C62.bd h64 (by simp only [List.length_append,List.length_cons,List.length_nil];omega)) ?_);intro v65 w66 C67 s68 h69;obtain⟨a70,c71,rfl,_,_⟩:=h69.len;exact Oa (Nl (W.ret (Wq rfl rfl C67 (J3s ((h69:RS _ _ _ _ _).tr (Tr.weak C67.base)) ((Jle hs (by omega) hc hv))))))
end Go.Wf
namespace Go.Wf
open Go
theorem xh(n:Nat):Jt n 0=List.replicate n 0:=(Yr (Xf n) (List.length_replicate ..) (Jiy n)).symm
theorem Jl8{n v i:Nat}(hv:v < 4294967296 ^ n)(hi:i < n):(Jt n v).getD i 0=v / 4294967296 ^ i % 4294967296:=by
 have h:=Vn (J0 n v) i;rw [Zi n v hv] at h;have hd:=Vf (a:=Jt n v) (j:=i+1) (by omega) (by rw [Jj];omega);rw [Nat.add_sub_cancel] at hd;rw [h,hd]
 have:=Jm (J0 n v) i
 omega
theorem Jb6(k:Nat):(2:Nat) ^ k=4294967296 ^ (k / 32) * 2 ^ (k % 32):=by
 have e:(4294967296:Nat) ^ (k / 32)=2 ^ (32 * (k / 32)):=by rw [Nat.pow_mul]
 rw [e,← Nat.pow_add];congr 1;omega
theorem zd{n q k:Nat}(hk:k / 32 < n)(hd:q % 2 ^ (k+1)=0)(hq:q < 4294967296 ^ n):(Jt n q).getD (k / 32) 0+2 ^ (k % 32) < 4294967296:=by
 rw [Jl8 hq hk];obtain⟨m,hm⟩:=Nat.dvd_of_mod_eq_zero hd;have hP:0 < (4294967296:Nat) ^ (k / 32):=Nat.pow_pos (by decide);have e1:(2:Nat) ^ (k+1)=4294967296 ^ (k / 32) * 2 ^ (k % 32+1):=by rw [Nat.pow_succ,Jb6 k,Nat.pow_succ,Nat.mul_assoc]
 have e2:q / 4294967296 ^ (k / 32)=2 ^ (k % 32+1) * m:=by
  rw [hm,e1,Nat.mul_assoc,Nat.mul_div_cancel_left _ hP]
 rw [e2];have hr:k % 32 < 32:=Nat.mod_lt _ (by decide);have e3:(4294967296:Nat)=2 ^ (k % 32+1) * 2 ^ (31 - k % 32):=by
  rw [← Nat.pow_add,show k % 32+1+(31 - k % 32)=32 by omega]
 have h1:2 ^ (k % 32+1) * m % 4294967296=2 ^ (k % 32+1) * (m % 2 ^ (31 - k % 32)):=by
  conv=>lhs;rw [e3]
  rw [Nat.mul_mod_mul_left]
 rw [h1];have h2:=Nat.mod_lt m (Nat.two_pow_pos (31 - k % 32));have h3:=Nat.mul_le_mul_left (2 ^ (k % 32+1)) (show m % 2 ^ (31 - k % 32)+1≤2 ^ (31 - k % 32) by omega);rw [← e3,Nat.mul_add,Nat.mul_one] at h3;have h4:(2:Nat) ^ (k % 32+1)=2 ^ (k % 32) * 2:=Nat.pow_succ ..;have h5:=Nat.two_pow_pos (k % 32);omega
theorem Jcc{n q k:Nat}(hk:k / 32 < n)(hd:q % 2 ^ (k+1)=0)(hq:q+2 ^ k < 4294967296 ^ n):(Jt n q).set (k / 32) ((Jt n q).getD (k / 32) 0+2 ^ (k % 32))=Jt n (q+2 ^ k):=by
 have hq':q < 4294967296 ^ n:=by have:=Nat.two_pow_pos k;omega
 refine Yr (Jix (J0 _ _) (zd hk hd hq') _) (by rw [List.length_set,Jj]) ?_;have h:=Jls (l:=Jt n q) (k:=k / 32) (d:=(Jt n q).getD (k / 32) 0+2 ^ (k % 32)) (by rw [Jj];exact hk);rw [Zi n q hq',Nat.mul_add,← Jb6] at h;omega
def dvQ(a b:List Nat):List Nat:=if a.length≤2∧b.length≤2 then digs (val a / val b) else if blen (val a) < blen (val b) then [] else Jt ((blen (val a) - blen (val b)) / 32+1) (val a / val b)
theorem qd{x y:Nat}(hy:0 < y):x / y < 2 ^ (blen x - blen y+1):=by
 rcases Nat.eq_zero_or_pos (x / y) with e | e
 ·rw [e];exact Nat.two_pow_pos _
 ·rw [Nat.div_lt_iff_lt_mul hy];have h1:=Qm x;have h2:=kb hy;have h3:=jh hy;have h4:blen y≤blen x:=by
   refine Nat.le_of_not_lt fun hh=>?_
   have:2 ^ blen x≤2 ^ (blen y - 1):=Nat.pow_le_pow_right (by omega) (by omega)
   have:=Nat.div_eq_of_lt (show x < y by omega)
   omega
  have h5:=Nat.mul_le_mul_left (2 ^ (blen x - blen y+1)) h2;rw [← Nat.pow_add,show blen x - blen y+1+(blen y - 1)=blen x by omega] at h5;omega
theorem vp{x y:Nat}(hy:0 < y):x / y < 4294967296 ^ ((blen x - blen y) / 32+1):=by
 have h:=qd (x:=x) hy;have e:(4294967296:Nat) ^ ((blen x - blen y) / 32+1)=2 ^ (32 * ((blen x - blen y) / 32+1)):=by rw [Nat.pow_mul]
 rw [e];exact Nat.lt_of_lt_of_le h (Nat.pow_le_pow_right (by omega) (by omega))
theorem j4{x y:Nat}(hy:0 < y)(h:blen x < blen y):x < y:=by
 have h1:=Qm x;have h2:=kb hy
 have:2 ^ blen x≤2 ^ (blen y - 1):=Nat.pow_le_pow_right (by omega) (by omega)
 omega
theorem Jka{a b:List Nat}:Jr (dvQ a b):=by
 unfold dvQ
 split
 ·exact Z0 _
 ·split
  ·exact J6
  ·exact J0 _ _
theorem Jep{a b:List Nat}(hb:0 < val b):val (dvQ a b)=val a / val b:=by
 unfold dvQ
 split
 ·exact Js _
 ·split
  ·rename_i h;rw [Nat.div_eq_of_lt (j4 hb h)];rfl
  ·exact Zi _ _ (vp hb)
theorem Vc{a:List Nat}(sa:Jr a):blen (val a)≤32 * a.length:=by
 have h:=Zs a sa;have e:(4294967296:Nat) ^ a.length=2 ^ (32 * a.length):=by rw [Nat.pow_mul]
 rw [e] at h;exact Jaf h
theorem Ju1{a b:List Nat}(sa:Jr a):(dvQ a b).length≤a.length+1:=by
 unfold dvQ
 split
 ·have:=digs_div_len' sa (val b)
  omega
 ·split
  ·simp
  ·rw [Jj]
   have:=Vc sa
   omega
where digs_div_len' {a:List Nat} (sa:Jr a) (n:Nat):(digs (val a / n)).length≤a.length:=J1 (Nat.lt_of_le_of_lt (Nat.div_le_self _ _) (Zs a sa))
theorem Jcu{a b:List Nat}(sa:Jr a){k:Nat}(hk:k≤blen (val a) - blen (val b))(hle:blen (val b)≤blen (val a)):(digs (val b * 2 ^ k)).length≤a.length:=by
 refine J1 ?_;have h1:=Qm (val b);have h2:=Vc sa;have e:(4294967296:Nat) ^ a.length=2 ^ (32 * a.length):=by rw [Nat.pow_mul]
 rw [e];have h3:=Nat.mul_lt_mul_of_pos_right h1 (Nat.two_pow_pos k);rw [← Nat.pow_add] at h3;exact Nat.lt_of_lt_of_le h3 (Nat.pow_le_pow_right (by omega) (by omega))
theorem dv0{a b:List Nat}(hb:0 < val b)(hle:blen (val b)≤blen (val a)):val a < val b * 2 ^ (blen (val a) - blen (val b)+1):=by
 have h:=qd (x:=val a) hb;rw [Nat.div_lt_iff_lt_mul hb,Nat.mul_comm] at h;exact h
theorem Jku{A B R q k:Nat}(hv:A=q * B+R)(hlt:R < B * 2 ^ (k+1))(hd:q % 2 ^ (k+1)=0)(h:B * 2 ^ k≤R):
  A=(q+2 ^ k) * B+(R - B * 2 ^ k)∧R - B * 2 ^ k < B * 2 ^ k∧(q+2 ^ k) % 2 ^ k=0:=by
 refine⟨?_,?_,?_⟩
 ·rw [Nat.add_mul,Nat.mul_comm (2 ^ k)];omega
 ·rw [Nat.pow_succ,← Nat.mul_assoc] at hlt;omega
 ·obtain⟨m,hm⟩:=Nat.dvd_of_mod_eq_zero hd;rw [hm,Nat.pow_succ,Nat.mul_assoc,Nat.add_mod_right,Nat.mul_mod_right]
theorem Jp7{q k:Nat}(hd:q % 2 ^ (k+1)=0):q % 2 ^ k=0:=by
 obtain⟨m,hm⟩:=Nat.dvd_of_mod_eq_zero hd;rw [hm,Nat.pow_succ,Nat.mul_assoc,Nat.mul_mod_right]
theorem Jf8{A B R q k n:Nat}(hB:0 < B)(hv:A=q * B+R)(h:B * 2 ^ k≤R)(hq:A / B < n):q+2 ^ k < n:=by
 refine Nat.lt_of_le_of_lt ?_ hq;rw [Nat.le_div_iff_mul_le hB,Nat.add_mul,Nat.mul_comm (2 ^ k)];omega
theorem Jah{A B R q:Nat}(hv:A=q * B+R)(hlt:R < B * 2 ^ 0):q=A / B∧R=A % B:=by
 rw [Nat.pow_zero,Nat.mul_one] at hlt;have hB:0 < B:=by omega
 rw [hv,Nat.mul_comm,Nat.mul_add_div hB,Nat.div_eq_of_lt hlt,Nat.mul_add_mod,Nat.mod_eq_of_lt hlt];exact⟨rfl,rfl⟩
theorem Jf2{r:Nat}(h:r < 32):IntKind.u32.wrap ((1:Int) * 2 ^ min ((r:Nat):Int).toNat IntKind.u32.bits)=((2 ^ r:Nat):Int):=by
 have hp:=Vu h;rw [Int.toNat_natCast,Nat.min_eq_left (by simp [IntKind.bits];omega),Int.one_mul];have e:(2:Int) ^ r=((2 ^ r:Nat):Int):=by simp
 rw [e]
 generalize (2:Nat) ^ r=z at *
 rw [IntWalk.u32_in _ (by omega)]
end Go.Wf
namespace Go.Wf
open Go Go.Proofs Go.RowKit
set_option maxHeartbeats 16000000 in
theorem Jjl{X:Nat→Prop}{w:World}(hX:XB X w){v0:Value}{a:List Nat}(r0:RS Je X w v0 a){v1:Value}{b:List Nat}(r1:RS Je X w v1 b)(ha:trim a=a)(hb:trim b=b)(hne:b≠[])(hla:a.length≤536870912)(hlb:b.length≤536870912):Calls Tryz.prog 215 #[v0,v1] w (Ret w fun v w'=>∃ v0 v1,v= .tuple #[v0,v1]∧(RS Je X w' v0 (dvQ a b))∧(RS Je X w' v1 (digs (val a % val b)))):=by
 obtain⟨a1,c2,rfl,_,_⟩:=r0.len;obtain⟨a3,c4,rfl,_,_⟩:=r1.len;have C:=Cx.start hX;have sa:=r0.u32_small;have sb:=r1.u32_small;have hba0:=Vc sa;have hbb0:=Vc sb;have hbp:0 < val b:=Nat.lt_of_lt_of_le (Nat.pow_pos (by decide)) (Xn hb hne);refine Cgo (args:=[(.slice a1 a.length c2),(.slice a3 b.length c4)]) Tryz.func215 rfl rfl rfl (Rg (Oa (Oa (Nl (Rh (Om (Ol (St.len sl24 rfl (Ol (J38 rfl rfl (fun hc5=>?_) (fun hc5=>?_)))))))))))
 ·refine Om (Og rfl rfl (St.move (Og rfl rfl (St.len sl24 rfl (Og rfl rfl (J38 rfl rfl (fun hc6=>?_) (fun hc6=>?_)))))))
  ·refine OT (Nl (J26 rfl (W.seq ?_)));have hva:=Kb sa (by omega);refine W.region (Om (Ol (J25 C Jhb rfl rfl (xw C.bd r0 (by omega)) ?_)));intro v7 w8 C9 s10 h11;replace r0:=r0.sp s10;replace r1:=r1.sp s10;subst h11;refine Om (Ol (J25 C9 Jhb rfl rfl (xw C9.bd r1 (by omega)) ?_));intro v12 w13 C14 s15 h16;replace r1:=r1.sp s15;subst h16;refine Ol (St.quo rfl rfl (by omega) (Qd (a:=(val a)) (b:=(val b)) (by omega)) (Ol (J25 C14 Jt7 rfl rfl (Je2 C14.bd (n:=(val a) / (val b)) (Jgb hva)) ?_)));intro v17 w18 C19 s20 h21;replace r0:=(r0.sp s15).sp s20;obtain⟨a22,c23,rfl,_,_⟩:=h21.len;refine Om (Ol (J25 C19 Jhb rfl rfl (xw C19.bd r0 (by omega)) ?_));intro v24 w25 C26 s27 h28;replace r1:=(r1.sp s20).sp s27;replace h21:=h21.sp s27;subst h28;refine Om (Ol (J25 C26 Jhb rfl rfl (xw C26.bd r1 (by omega)) ?_));intro v29 w30 C31 s32 h33;subst h33;refine Ol (St.rem rfl rfl (by omega) (X4 (val a) (val b)) (Ol (J25 C31 Jt7 rfl rfl (Je2 C31.bd (n:=(val a) % (val b)) (Jgv hva)) ?_)));intro v34 w35 C36 s37 h38;replace h21:=(h21.sp s32).sp s37;obtain⟨a39,c40,rfl,_,_⟩:=h38.len;refine Oa (Oa (Nl (W.ret (Zh rfl (resV.t rfl) (resV.t rfl) (Ret.intro ?_ C36.below)))));refine⟨_,_,rfl,?_,?_⟩
   ·skip
    exact J3s ((h21:RS _ _ _ _ _).tr (Tr.weak C36.base)) ((by unfold dvQ;rw [if_pos ⟨by omega,by omega⟩]))
   ·skip
    exact J3s ((h38:RS _ _ _ _ _).tr (Tr.weak C36.base)) (rfl)
  refine OT (Nl (J28 rfl (W.skip (Rg (Om (Oa (Nl (Rg (Om (Ol (St.build (cs:=[(.bool false),(.slice a1 a.length c2)]) rfl (by kernel_rfl) (Ol (J25 C Joc rfl rfl (Jgg C.bd (a:=(⟨false,a⟩:GInt)) (Jo r0) (show a.length≤_ by omega)) ?_)))))))))))));intro v41 w42 C43 s44 h45;replace r1:=r1.sp s44;replace h45:v41=(.int .i64 (((blen (val a)):Nat):Int)):=h45;subst h45;refine Om (Ol (St.build (cs:=[(.bool false),(.slice a3 b.length c4)]) rfl (by kernel_rfl) (Ol (J25 C43 Joc rfl rfl (Jgg C43.bd (a:=(⟨false,b⟩:GInt)) (Jo r1) (show b.length≤_ by omega)) ?_))));intro v46 w47 C48 s49 h50;replace r0:=(r0.sp s44).sp s49;replace h50:v46=(.int .i64 (((blen (val b)):Nat):Int)):=h50;subst h50;refine Ol (St.sub (z:=((((blen (val a)):Nat):Int) - (((blen (val b)):Nat):Int))) rfl rfl (IntWalk.i64_in _ (by omega)) (Oa (Nl (Rh (Om (Ol (J3i rfl rfl (fun hc51=>?_) (fun hc51=>?_))))))))
  ·refine Nl (J26 rfl (Rg (Om (Oa (Oa (Nl (W.ret (Zh rfl (resV.t rfl) (resV.t rfl) (Ret.intro ?_ C48.below)))))))));refine⟨_,_,rfl,?_,?_⟩
   ·skip
    exact J3s ((RS.nil:RS _ _ _ _ _).tr (Tr.weak C48.base)) ((by unfold dvQ;rw [if_neg (by omega),if_pos (by omega)]))
   ·skip
    exact J3s ((r0:RS _ _ _ _ _).tr (Tr.weak C48.base)) ((Jlh ha sa (j4 hbp (by omega))))
  refine Nl (J28 rfl (W.skip (W.seq ?_)));have hble:blen (val b)≤blen (val a):=by omega
  obtain⟨S,hS⟩:∃ S,S=blen (val a) - blen (val b):=⟨_,rfl⟩;rw [show(((blen (val a):Nat):Int) - ((blen (val b):Nat):Int))=((S:Nat):Int) by omega];have hba:=Vc sa;have hroom:=vp (x:=val a) hbp;rw [← hS] at hroom;refine W.region (Om (Ol (St.quo rfl rfl (by decide) (Y8 (a:=S) (b:=32) (by omega)) (Ol (St.add rfl rfl (Jc (a:=S / 32) (b:=1) (by omega)) (Ol (J3y (n:=(S / 32+1)) C48 sl24 rfl rfl rfl (by omega) Ji (by decide) ?_)))))));intro g52 w53 x54 y55 lt56 C57 s58 o59;replace r0:=r0.sp s58;replace r1:=(r1.sp s49).sp s58;refine Oa (Nl (Rh (Om (Oa (Nl (W.block ?_))))));rw [← xh (S / 32+1)] at o59;refine J3j (fun μ f v=>∃ (x y:Nat→Prop) (K:Nat) (R:List Nat) (q:Nat) (pr:Option Addr) (rc:Nat),Cx X w x y v∧f 1=(.slice a3 b.length c4)∧f 4=(.slice none 0 0)∧f 5=(.slice none 0 0)∧f 8=(.slice (some ⟨g52,0,none⟩) (S / 32+1) (S / 32+1))∧f 9=(.int .i64 ((K:Int) - 1))∧f 6=(.slice pr R.length rc)∧RS Je x v (.slice a3 b.length c4) b∧RS Je x v (.slice pr R.length rc) R∧Own w y v g52 ((Jt (S / 32+1) q).map u32v) 118∧K≤S+1∧val a=q * val b+val R∧val R < val b * 2 ^ K∧q % 2 ^ K=0∧trim R=R∧R.length≤a.length∧μ=K) _ ⟨_,_,(S+1),a,0,a1,c2,C57,rfl,rfl,rfl,rfl,(congrArg (Value.int .i64) (by omega)),rfl,r1,r0,o59,(Nat.le_refl _),(by omega),(by rw [hS];exact dv0 hbp hble),(Nat.zero_mod _),ha,(Nat.le_refl _),rfl⟩ ?_;rintro m73 f60 w61 ⟨x62,y63,K,R,q,pr,rc,C64,e65,e66,e67,e68,e69,e70,r1,hR,o71,hK,hv,hlt,hdv,hRt,hRl,hmu72⟩;obtain⟨f74,rfl⟩:=rebK (aC e65 (aC e66 (aC e67 (aC e68 (aC e69 (aC e70 aN))))));clear e65 e66 e67 e68 e69 e70;have sR:=hR.u32_small;refine Rh (Om (Ol (J3w rfl rfl (fun hc75=>?_) (fun hc75=>?_))))
  ·refine Nl (J26 rfl (W.skip (W.seq (W.block (W.seq ?_)))));obtain⟨k,rfl⟩:∃ k,K=k+1:=⟨K - 1,by omega⟩;rw [show(((k+1:Nat):Int) - 1)=((k:Nat):Int) by omega];have htl:=Jcu (b:=b) sa (k:=k) (by omega) hble;refine W.region (Om (Om (Ol (J25 C64 Jz7 rfl rfl (Jcg C64.bd r1 (n:=k) (by omega) (by omega)) ?_))));intro v76 w77 C78 s79 h80;replace hR:=hR.sp s79;obtain⟨a81,c82,rfl,_,_⟩:=h80.len;refine Oa (Nl (Rg (Om (Om (Ol (St.bool (J25 C78 Jvb rfl rfl (Je8 C78.bd hR h80 hRt (Yk _) (by omega) (by omega)) ?_)))))));intro v83 w84 C85 s86 h87;replace r1:=(r1.sp s79).sp s86;replace hR:=hR.sp s86;replace h80:=h80.sp s86;replace o71:=(o71.spn s79).spn s86;refine⟨_,h87,fun hb88=>?_,fun hb88=>?_⟩
   ·refine Ol (St.not rfl (Nl (J28 rfl (W.skip (W.region (Om (Ol (St.sub (z:=(((k:Nat):Int) - 1)) rfl rfl (IntWalk.i64_in _ (by omega)) (Oa (Nl ?_))))))))));have hlow:val R < val b * 2 ^ k:=by have h7:=of_decide_eq_true hb88;rw [Js] at h7;exact h7
    refine⟨_,(by omega),_,_,k,R,q,pr,rc,C85,rfl,rfl,rfl,rfl,rfl,rfl,r1,hR,o71,(by omega),hv,hlow,(Jp7 hdv),hRt,hRl,rfl⟩
   refine Ol (St.not rfl (Nl (J26 rfl (W.seq ?_))));have hge:val b * 2 ^ k≤val R:=by have h7:=of_decide_eq_false hb88;rw [Js] at h7;omega
   have hyes:=Jku hv hlt hdv hge;have hqr:=Jf8 hbp hv hge hroom;have htR:=Ka (a:=R) (b:=digs (val b * 2 ^ k)) (Yk _) sR (by rw [Js];exact hge);refine W.region (Om (Om (Ol (J25 C85 Jof rfl rfl (Jbm C85.bd hR h80 (by omega) htR (by rw [Js];exact hge)) ?_))));intro v89 w90 C91 s92 h93;replace r1:=r1.sp s92;obtain⟨a94,c95,rfl,_,_⟩:=h93.len;refine Ol (J25 C91 Jg9 rfl rfl (k7 C91.bd h93 (by rw [Jj];omega)) ?_);intro v96 w97 C98 s99 h100;replace o71:=(o71.spn s92).spn s99;obtain⟨a101,c102,rfl,_,_⟩:=h100.len;refine Oa (Nl ?_);have hrr:(trim (Jt R.length (val R - val (digs (val b * 2 ^ k)))))=(digs (val R - val b * 2 ^ k)):=by rw [Js];exact Xw (Nat.lt_of_le_of_lt (Nat.sub_le _ _) (Zs R sR))
   rw [hrr] at h100 ⊢;have hdg:=zd (n:=S / 32+1) (show k / 32 < S / 32+1 by omega) hdv (by have:=Nat.two_pow_pos k;omega);refine W.region (Om (Om (Ol (St.quo rfl rfl (by decide) (Y8 (a:=k) (b:=32) (by omega)) (Om (Om (Ol (St.quo rfl rfl (by decide) (Y8 (a:=k) (b:=32) (by omega)) (Ol (J3r (j:=(k / 32)) sl24 Ji rfl rfl rfl (by omega) (Ol (J39 (j:=(k / 32)) (u:=((Jt (S / 32+1) q).getD (k / 32) 0)) o71 Ze rfl (Jg (by rw [Jj];omega)) ?_))))))))))));refine Om (Ol (St.rem rfl rfl (by decide) (X4 k 32) (Ol (J3d (z:=((k % 32:Nat):Int)) us3 Jpo rfl (IntWalk.u64_in _ (by omega)) (Ol (St.shl (z:=((2 ^ (k % 32):Nat):Int)) rfl rfl (by omega) (Jf2 (Nat.mod_lt _ (by decide))) (Ol (St.add rfl rfl (qp (a:=((Jt (S / 32+1) q).getD (k / 32) 0)) (b:=2 ^ (k % 32)) (by omega)) ?_))))))));refine Ol (J3r (j:=(k / 32)) sl24 Ji rfl rfl rfl (by omega) (On (J3n (j:=(k / 32)) (u:=((Jt (S / 32+1) q).getD (k / 32) 0)+(2 ^ (k % 32))) C98 o71 Ji rfl rfl (by rw [Jj];omega) ?_)));intro w103 C104 s105 o106;replace r1:=(r1.sp s99).sp s105;replace h100:=h100.sp s105;rw [Jcc (by omega) hdv hqr] at o106;refine Nl (W.region (Om (Ol (St.sub (z:=(((k:Nat):Int) - 1)) rfl rfl (IntWalk.i64_in _ (by omega)) (Oa (Nl (⟨_,(by omega),_,_,k,(digs (val R - val b * 2 ^ k)),(q+2 ^ k),a101,c102,C104,rfl,rfl,rfl,rfl,rfl,rfl,r1,h100,o106,(by omega),(by rw [Js];exact hyes.1),(by rw [Js];exact hyes.2.1),hyes.2.2,(Yk _),(Nat.le_trans (J1 (Nat.lt_of_le_of_lt (Nat.sub_le _ _) (Zs R sR))) hRl),rfl⟩)))))))
  refine Nl (J28 rfl (W.exit (Rg (Om (Om (Oa (Oa (Nl (W.ret (Zh rfl (resV.t rfl) (resV.t rfl) (Ret.intro ?_ C64.below)))))))))));refine⟨_,_,rfl,?_,?_⟩
  ·skip
   exact J3s (o71.rowRS C64 hX (by rw [Jj]) (by omega) (J0 _ _) id) ((by unfold dvQ;rw [if_neg (by omega),if_neg (by omega),← hS,← (Jah hv (by have h7:=hlt;rw [show K=0 by omega] at h7;exact h7)).1]))
  ·skip
   exact J3s ((hR:RS _ _ _ _ _).tr (Tr.weak C64.base)) ((by rw [← (Jah hv (by have h7:=hlt;rw [show K=0 by omega] at h7;exact h7)).2];exact Jpt hRt sR))
 refine Om (Oz (Oz (Oz (OF (Nl (J28 rfl (W.skip (Rg (Om (Oa (Nl (Rg (Om (Ol (St.build (cs:=[(.bool false),(.slice a1 a.length c2)]) rfl (by kernel_rfl) (Ol (J25 C Joc rfl rfl (Jgg C.bd (a:=(⟨false,a⟩:GInt)) (Jo r0) (show a.length≤_ by omega)) ?_)))))))))))))))));intro v107 w108 C109 s110 h111;replace r1:=r1.sp s110;replace h111:v107=(.int .i64 (((blen (val a)):Nat):Int)):=h111;subst h111;refine Om (Ol (St.build (cs:=[(.bool false),(.slice a3 b.length c4)]) rfl (by kernel_rfl) (Ol (J25 C109 Joc rfl rfl (Jgg C109.bd (a:=(⟨false,b⟩:GInt)) (Jo r1) (show b.length≤_ by omega)) ?_))));intro v112 w113 C114 s115 h116;replace r0:=(r0.sp s110).sp s115;replace h116:v112=(.int .i64 (((blen (val b)):Nat):Int)):=h116;subst h116;refine Ol (St.sub (z:=((((blen (val a)):Nat):Int) - (((blen (val b)):Nat):Int))) rfl rfl (IntWalk.i64_in _ (by omega)) (Oa (Nl (Rh (Om (Ol (J3i rfl rfl (fun hc117=>?_) (fun hc117=>?_))))))))
 ·refine Nl (J26 rfl (Rg (Om (Oa (Oa (Nl (W.ret (Zh rfl (resV.t rfl) (resV.t rfl) (Ret.intro ?_ C114.below)))))))));refine⟨_,_,rfl,?_,?_⟩
  ·skip
   exact J3s ((RS.nil:RS _ _ _ _ _).tr (Tr.weak C114.base)) ((by unfold dvQ;rw [if_neg (by omega),if_pos (by omega)]))
  ·skip
   exact J3s ((r0:RS _ _ _ _ _).tr (Tr.weak C114.base)) ((Jlh ha sa (j4 hbp (by omega))))
 refine Nl (J28 rfl (W.skip (W.seq ?_)));have hble:blen (val b)≤blen (val a):=by omega
 obtain⟨S,hS⟩:∃ S,S=blen (val a) - blen (val b):=⟨_,rfl⟩;rw [show(((blen (val a):Nat):Int) - ((blen (val b):Nat):Int))=((S:Nat):Int) by omega];have hba:=Vc sa;have hroom:=vp (x:=val a) hbp;rw [← hS] at hroom;refine W.region (Om (Ol (St.quo rfl rfl (by decide) (Y8 (a:=S) (b:=32) (by omega)) (Ol (St.add rfl rfl (Jc (a:=S / 32) (b:=1) (by omega)) (Ol (J3y (n:=(S / 32+1)) C114 sl24 rfl rfl rfl (by omega) Ji (by decide) ?_)))))));intro g118 w119 x120 y121 lt122 C123 s124 o125;replace r0:=r0.sp s124;replace r1:=(r1.sp s115).sp s124;refine Oa (Nl (Rh (Om (Oa (Nl (W.block ?_))))));rw [← xh (S / 32+1)] at o125;refine J3j (fun μ f v=>∃ (x y:Nat→Prop) (K:Nat) (R:List Nat) (q:Nat) (pr:Option Addr) (rc:Nat),Cx X w x y v∧f 1=(.slice a3 b.length c4)∧f 4=(.slice none 0 0)∧f 5=(.slice none 0 0)∧f 8=(.slice (some ⟨g118,0,none⟩) (S / 32+1) (S / 32+1))∧f 9=(.int .i64 ((K:Int) - 1))∧f 6=(.slice pr R.length rc)∧RS Je x v (.slice a3 b.length c4) b∧RS Je x v (.slice pr R.length rc) R∧Own w y v g118 ((Jt (S / 32+1) q).map u32v) 118∧K≤S+1∧val a=q * val b+val R∧val R < val b * 2 ^ K∧q % 2 ^ K=0∧trim R=R∧R.length≤a.length∧μ=K) _ ⟨_,_,(S+1),a,0,a1,c2,C123,rfl,rfl,rfl,rfl,(congrArg (Value.int .i64) (by omega)),rfl,r1,r0,o125,(Nat.le_refl _),(by omega),(by rw [hS];exact dv0 hbp hble),(Nat.zero_mod _),ha,(Nat.le_refl _),rfl⟩ ?_;rintro m139 f126 w127 ⟨x128,y129,K,R,q,pr,rc,C130,e131,e132,e133,e134,e135,e136,r1,hR,o137,hK,hv,hlt,hdv,hRt,hRl,hmu138⟩;obtain⟨f140,rfl⟩:=rebK (aC e131 (aC e132 (aC e133 (aC e134 (aC e135 (aC e136 aN))))));clear e131 e132 e133 e134 e135 e136;have sR:=hR.u32_small;refine Rh (Om (Ol (J3w rfl rfl (fun hc141=>?_) (fun hc141=>?_))))
 ·refine Nl (J26 rfl (W.skip (W.seq (W.block (W.seq ?_)))));obtain⟨k,rfl⟩:∃ k,K=k+1:=⟨K - 1,by omega⟩;rw [show(((k+1:Nat):Int) - 1)=((k:Nat):Int) by omega];have htl:=Jcu (b:=b) sa (k:=k) (by omega) hble;refine W.region (Om (Om (Ol (J25 C130 Jz7 rfl rfl (Jcg C130.bd r1 (n:=k) (by omega) (by omega)) ?_))));intro v142 w143 C144 s145 h146;replace hR:=hR.sp s145;obtain⟨a147,c148,rfl,_,_⟩:=h146.len;refine Oa (Nl (Rg (Om (Om (Ol (St.bool (J25 C144 Jvb rfl rfl (Je8 C144.bd hR h146 hRt (Yk _) (by omega) (by omega)) ?_)))))));intro v149 w150 C151 s152 h153;replace r1:=(r1.sp s145).sp s152;replace hR:=hR.sp s152;replace h146:=h146.sp s152;replace o137:=(o137.spn s145).spn s152;refine⟨_,h153,fun hb154=>?_,fun hb154=>?_⟩
  ·refine Ol (St.not rfl (Nl (J28 rfl (W.skip (W.region (Om (Ol (St.sub (z:=(((k:Nat):Int) - 1)) rfl rfl (IntWalk.i64_in _ (by omega)) (Oa (Nl ?_))))))))));have hlow:val R < val b * 2 ^ k:=by have h7:=of_decide_eq_true hb154;rw [Js] at h7;exact h7
   refine⟨_,(by omega),_,_,k,R,q,pr,rc,C151,rfl,rfl,rfl,rfl,rfl,rfl,r1,hR,o137,(by omega),hv,hlow,(Jp7 hdv),hRt,hRl,rfl⟩
  refine Ol (St.not rfl (Nl (J26 rfl (W.seq ?_))));have hge:val b * 2 ^ k≤val R:=by have h7:=of_decide_eq_false hb154;rw [Js] at h7;omega
  have hyes:=Jku hv hlt hdv hge;have hqr:=Jf8 hbp hv hge hroom;have htR:=Ka (a:=R) (b:=digs (val b * 2 ^ k)) (Yk _) sR (by rw [Js];exact hge);refine W.region (Om (Om (Ol (J25 C151 Jof rfl rfl (Jbm C151.bd hR h146 (by omega) htR (by rw [Js];exact hge)) ?_))));intro v155 w156 C157 s158 h159;replace r1:=r1.sp s158;obtain⟨a160,c161,rfl,_,_⟩:=h159.len;refine Ol (J25 C157 Jg9 rfl rfl (k7 C157.bd h159 (by rw [Jj];omega)) ?_);intro v162 w163 C164 s165 h166;replace o137:=(o137.spn s158).spn s165;obtain⟨a167,c168,rfl,_,_⟩:=h166.len;refine Oa (Nl ?_);have hrr:(trim (Jt R.length (val R - val (digs (val b * 2 ^ k)))))=(digs (val R - val b * 2 ^ k)):=by rw [Js];exact Xw (Nat.lt_of_le_of_lt (Nat.sub_le _ _) (Zs R sR))
  rw [hrr] at h166 ⊢;have hdg:=zd (n:=S / 32+1) (show k / 32 < S / 32+1 by omega) hdv (by have:=Nat.two_pow_pos k;omega);refine W.region (Om (Om (Ol (St.quo rfl rfl (by decide) (Y8 (a:=k) (b:=32) (by omega)) (Om (Om (Ol (St.quo rfl rfl (by decide) (Y8 (a:=k) (b:=32) (by omega)) (Ol (J3r (j:=(k / 32)) sl24 Ji rfl rfl rfl (by omega) (Ol (J39 (j:=(k / 32)) (u:=((Jt (S / 32+1) q).getD (k / 32) 0)) o137 Ze rfl (Jg (by rw [Jj];omega)) ?_))))))))))));refine Om (Ol (St.rem rfl rfl (by decide) (X4 k 32) (Ol (J3d (z:=((k % 32:Nat):Int)) us3 Jpo rfl (IntWalk.u64_in _ (by omega)) (Ol (St.shl (z:=((2 ^ (k % 32):Nat):Int)) rfl rfl (by omega) (Jf2 (Nat.mod_lt _ (by decide))) (Ol (St.add rfl rfl (qp (a:=((Jt (S / 32+1) q).getD (k / 32) 0)) (b:=2 ^ (k % 32)) (by omega)) ?_))))))));refine Ol (J3r (j:=(k / 32)) sl24 Ji rfl rfl rfl (by omega) (On (J3n (j:=(k / 32)) (u:=((Jt (S / 32+1) q).getD (k / 32) 0)+(2 ^ (k % 32))) C164 o137 Ji rfl rfl (by rw [Jj];omega) ?_)));intro w169 C170 s171 o172;replace r1:=(r1.sp s165).sp s171;replace h166:=h166.sp s171;rw [Jcc (by omega) hdv hqr] at o172;refine Nl (W.region (Om (Ol (St.sub (z:=(((k:Nat):Int) - 1)) rfl rfl (IntWalk.i64_in _ (by omega)) (Oa (Nl (⟨_,(by omega),_,_,k,(digs (val R - val b * 2 ^ k)),(q+2 ^ k),a167,c168,C170,rfl,rfl,rfl,rfl,rfl,rfl,r1,h166,o172,(by omega),(by rw [Js];exact hyes.1),(by rw [Js];exact hyes.2.1),hyes.2.2,(Yk _),(Nat.le_trans (J1 (Nat.lt_of_le_of_lt (Nat.sub_le _ _) (Zs R sR))) hRl),rfl⟩)))))))
 refine Nl (J28 rfl (W.exit (Rg (Om (Om (Oa (Oa (Nl (W.ret (Zh rfl (resV.t rfl) (resV.t rfl) (Ret.intro ?_ C130.below)))))))))));refine⟨_,_,rfl,?_,?_⟩
 ·skip
  exact J3s (o137.rowRS C130 hX (by rw [Jj]) (by omega) (J0 _ _) id) ((by unfold dvQ;rw [if_neg (by omega),if_neg (by omega),← hS,← (Jah hv (by have h7:=hlt;rw [show K=0 by omega] at h7;exact h7)).1]))
 ·skip
  exact J3s ((hR:RS _ _ _ _ _).tr (Tr.weak C130.base)) ((by rw [← (Jah hv (by have h7:=hlt;rw [show K=0 by omega] at h7;exact h7)).2];exact Jpt hRt sR))
end Go.Wf
namespace Go.Wf
open Go
theorem Kq{z:Int}(h:z≠0):0 < val (ofZ z).mag:=by rw [Ki];omega
theorem Jt1{z:Int}(h:z≠0):(ofZ z).mag≠[]:=fun e=>h (J8.1 (by rw [e];rfl))
theorem Jyt{b:GInt}(h:val b.mag≠0):b.toZ≠0:=fun e=>h (zh.1 e)
theorem Jna{m:Nat}{y:Int}(h:y≠0):(digs (m % val (ofZ y).mag)).length≤(ofZ y).mag.length:=by
 rw [Qq,Js];exact kj (Nat.le_of_lt (Nat.mod_lt _ (by omega)))
theorem Jli{n:Nat}:(ofZ (Jk false n)).mag.length=0↔n=0:=by
 rw [J8,Z9];omega
theorem Jqz{x y:Int}(hy:y≠0)(hx:(ofZ x).neg=true)(hr:val (ofZ x).mag % val (ofZ y).mag≠0):
  Jk (!(ofZ y).neg) (val (ofZ x).mag / val (ofZ y).mag+1)=x / y∧(y.natAbs:Int) - ((val (ofZ x).mag % val (ofZ y).mag:Nat):Int)=x % y:=by
 have h:=Jbn (a:=ofZ x) (b:=ofZ y) (by have:=Kq hy;omega) hx hr;have h3:=Nat.mod_lt (val (ofZ x).mag) (Kq hy);rw [hx,Jw,Jw] at h;refine⟨?_,?_⟩
 ·rw [← h.1];cases (ofZ y).neg <;> rfl
 ·rw [← h.2];rw [Ki,Ki] at *;omega
theorem Jft{x y:Int}(hy:y≠0)(h:(ofZ x).neg=false∨val (ofZ x).mag % val (ofZ y).mag=0):
  Jk ((ofZ x).neg != (ofZ y).neg) (val (ofZ x).mag / val (ofZ y).mag)=x / y∧((val (ofZ x).mag % val (ofZ y).mag:Nat):Int)=x % y:=by
 have h:=jb (a:=ofZ x) (b:=ofZ y) (by have:=Kq hy;omega) h
 rwa [Jw,Jw] at h
theorem Jbw{x y:Int}(hx:0≤x)(hy:0≤y):Int.gcd y (x % y)=Int.gcd x y:=by
 obtain⟨n,rfl⟩:=Int.eq_ofNat_of_zero_le hx;obtain⟨m,rfl⟩:=Int.eq_ofNat_of_zero_le hy;rw [← Int.natCast_emod,Int.gcd_natCast_natCast,Int.gcd_natCast_natCast,Nat.gcd_comm m,Nat.gcd_comm n,← Nat.gcd_rec]
theorem Jln(x y:Int):Int.gcd ((x.natAbs:Nat):Int) ((y.natAbs:Nat):Int)=Int.gcd x y:=by
 unfold Int.gcd;rw [Int.natAbs_natCast,Int.natAbs_natCast]
theorem qo(z:Int):(ofZ ((z.natAbs:Nat):Int)).mag=(ofZ z).mag:=by rw [Qq,Qq,Int.natAbs_natCast]
theorem Jf7{x y:Int}{g:Nat}(hx:0≤x)(hg:Int.gcd x y=g)(h:(ofZ y).mag.length=0):x=(g:Int):=by
 rw [← hg,J8.1 h,Int.gcd_zero_right];omega
theorem ql{x y:Int}(hy:0≤y)(h:(ofZ y).mag.length≠0):(x % y).natAbs < y.natAbs:=by
 have h0:y≠0:=fun e=>h (J8.2 e);have h1:=Int.emod_nonneg x h0;have h2:=Int.emod_lt_of_pos x (show 0 < y by omega);omega
theorem Jlr{y:Int}(h:(ofZ y).mag.length≠0):val (ofZ y).mag≠0:=by
 rw [Ki];intro e;exact h (J8.2 (by omega))
theorem Jp0{x y:Int}(h:(ofZ y).mag.length≠0):0≤x % y:=Int.emod_nonneg x fun e=>h (J8.2 e)
theorem Jda{x y:Int}(h:(ofZ y).mag.length≠0):(ofZ (x % y)).mag.length≤(ofZ y).mag.length:=by
 have h0:y≠0:=fun e=>h (J8.2 e);have h1:=Int.emod_nonneg x h0;have h2:=Int.emod_lt x h0;refine vi ?_;omega
theorem xd{n:Nat}(h:n < 18446744073709551616):val [n % 4294967296,n / 4294967296 % 4294967296]=n:=by
 simp [val];omega
theorem Jnz{a b:GInt}(h:(a.neg != b.neg)=true):false=decide (a=b):=by
 refine(decide_eq_false ?_).symm
 rintro rfl;simp at h
theorem Jox{a b:GInt}(h:¬ ((a.mag.length:Nat):Int)=((b.mag.length:Nat):Int)):false=decide (a=b):=by
 refine(decide_eq_false ?_).symm
 rintro rfl;exact h rfl
theorem Jni{a b:GInt}{i:Nat}(h:¬ ((a.mag.getD i 0:Nat):Int)=((b.mag.getD i 0:Nat):Int)):false=decide (a=b):=by
 refine(decide_eq_false ?_).symm
 rintro rfl;exact h rfl
theorem Jnc{a b:GInt}{i:Nat}(h:(a.neg != b.neg)=false)(hl:((a.mag.length:Nat):Int)=((b.mag.length:Nat):Int))(hi:¬ (i:Int) < ((a.mag.length:Nat):Int))(he:a.mag.take i=b.mag.take i):true=decide (a=b):=by
 refine(decide_eq_true ?_).symm
 obtain⟨an,am⟩:=a;obtain⟨bn,bm⟩:=b;rw [List.take_of_length_le (by omega),List.take_of_length_le (by simp only at *;omega)] at he;simp only at *;rw [he,show an=bn by cases an <;> cases bn <;> simp_all]
theorem Jry{α:Type}{a b:List α}{d:α}{i:Nat}(ha:i < a.length)(hb:i < b.length)(he:a.take i=b.take i)(h:a.getD i d=b.getD i d):a.take (i+1)=b.take (i+1):=by
 rw [List.take_add_one,List.take_add_one,he];rw [List.getD_eq_getElem?_getD,List.getD_eq_getElem?_getD,List.getElem?_eq_getElem ha,List.getElem?_eq_getElem hb] at h;rw [List.getElem?_eq_getElem ha,List.getElem?_eq_getElem hb];simp only [Option.getD_some] at h;rw [h]
theorem Jva{n d:Int}(h:d.sign=0):ofQ (Rat.divInt 0 1)=ofQ (Rat.divInt n d):=by
 rw [Int.sign_eq_zero_iff_zero.1 h,Rat.divInt_zero,Rat.zero_divInt]
theorem J0i{n d:Int}(h:d.sign < 0):(⟨ofZ (n / -((Int.gcd n d:Nat):Int)),ofZ (d / -((Int.gcd n d:Nat):Int))⟩:GRat)=ofQ (Rat.divInt n d):=by
 have hd:d < 0:=Int.sign_neg_iff.1 h;have h1:=yd (n:= -n) (d:= -d) (by omega);rw [z8] at h1;rw [← h1,Int.gcd_neg,Int.neg_gcd,Int.ediv_neg,Int.ediv_neg,Int.neg_ediv_of_dvd (Int.gcd_dvd_left ..),Int.neg_ediv_of_dvd (Int.gcd_dvd_right ..)]
theorem Jq1{n d:Int}(h0:¬ d.sign=0)(h:¬ d.sign < 0):0 < d:=by
 have:=mt Int.sign_neg_iff.2 h
 have:d≠0:=fun e=>h0 (by rw [e];rfl)
 omega
theorem J0f{n d:Int}(h:ofZ (-((Int.gcd n d:Nat):Int))=ofZ 1):False:=by
 have:=Jlo h;omega
theorem xo_ne{n d:Int}(h0:¬ d.sign=0):Int.gcd n d≠0:=by
 intro e
 have:=(Int.gcd_eq_zero_iff.1 e).2
 exact h0 (by rw [this];rfl)
theorem Jxq{n d:Int}(h0:¬ d.sign=0):(ofZ ((Int.gcd n d:Nat):Int)).mag.length≤(ofZ d).mag.length:=Jdv fun e=>h0 (by rw [e];rfl)
end Go.Wf
namespace Go.Wf
open Go Go.Proofs Go.RowKit
theorem Jae{X:Nat→Prop}{w:World}(hX:XB X w){v0:Value}{a:GInt}(r0:RV Jx X w v0 a){v1:Value}{b:GInt}(r1:RV Jx X w v1 b)(hla:a.mag.length≤536870912)(hlb:b.mag.length≤536870912)(hb0:val b.mag≠0):Calls Tryz.prog 169 #[v0,v1] w (Ret w fun v w'=>∃ v0 v1,v= .tuple #[v0,v1]∧(RV Jx X w' v0 (ofZ (a.toZ / b.toZ)))∧(RV Jx X w' v1 (ofZ (a.toZ % b.toZ)))):=by
 obtain⟨a1,c2,rfl,h3⟩:=RV.int r0;obtain⟨a4,c5,rfl,h6⟩:=RV.int r1;have C:=Cx.start hX;have sa:=r0.int_small;have sb:=r1.int_small;have hN:=Za sa;have hD:=Za sb;have hbz:=Jyt hb0;have hrl:=Jna (m:=val (ofZ a.toZ).mag) hbz;have hql:=Ju1 (a:=(ofZ a.toZ).mag) (b:=(ofZ b.toZ).mag) (Kg _);have hr3:(ofZ (Jk false (val (digs (val (ofZ a.toZ).mag % val (ofZ b.toZ).mag))))).mag.length=0↔(val (ofZ a.toZ).mag % val (ofZ b.toZ).mag)=0:=by rw [Js];exact Jli
 have hr4:(ofZ (Jk false (val (digs (val (ofZ a.toZ).mag % val (ofZ b.toZ).mag))))).mag.length≤(ofZ b.toZ).mag.length:=by rw [Js,Z9,Qq,Int.natAbs_natCast];exact hrl
 have hba:=qo b.toZ;refine Cgo (args:=[(.agg #[(.bool a.neg),(.slice a1 a.mag.length c2)]),(.agg #[(.bool b.neg),(.slice a4 b.mag.length c5)])]) Tryz.func169 rfl rfl rfl (Rg (Ol (J3g C rfl ?_)));intro g7 w8 x9 y10 lt11 C12 s13 o14;replace h3:=h3.sp s13;replace h6:=h6.sp s13;refine Ol (J3g C12 rfl ?_);intro g15 w16 x17 y18 lt19 C20 s21 o22;replace o14:=o14.spn s21;refine Ol (J3b C20 io26 rfl ?_);intro g24 w25 x26 y27 lt28 C29 s30 o31;replace h3:=(h3.sp s21).sp s30;replace h6:=(h6.sp s21).sp s30;refine Ol (J3b C29 io26 rfl ?_);intro g34 w35 x36 y37 lt38 C39 s40 o41;have n44:=lt38 _ o31.blk.lt;replace o14:=(o14.spn s30).spn s40;replace o22:=(o22.spn s30).spn s40;replace o31:=o31.spn s40;refine Nl (W.seq (J4j J5 6 [[],[0],[],[2],[],[]] ((x36,y37),Jl2) (RL X w) [fx (.agg #[(.bool a.neg),(.slice a1 a.mag.length c2)]),fun(s:GhL) (v:Value) (w':World)=>RV Jx s.1.1 w' v (ofZ a.toZ),fx (.agg #[(.bool b.neg),(.slice a4 b.mag.length c5)]),fun(s:GhL) (v:Value) (w':World)=>RV Jx s.1.1 w' v (ofZ b.toZ),fun(s:GhL) (v:Value) (w':World)=>∃ g':Nat,v= .pointer (some ⟨g',0,none⟩)∧Own w s.1.2 w' g' [(.bool false),(.slice none 0 0)] 26∧w35.heap.size≤g'∧s.2 g'=some 4,fun(s:GhL) (v:Value) (w':World)=>∃ g':Nat,v= .pointer (some ⟨g',0,none⟩)∧Own w s.1.2 w' g' [(.bool false),(.slice none 0 0)] 26∧w35.heap.size≤g'∧s.2 g'=some 5] (by kernel_rfl) (J4v C39) RL.trans ⟨sx,(fun _ _ _ _ _ h r=>RV.tr h r.rc.sp.tx),sx,(fun _ _ _ _ _ h r=>RV.tr h r.rc.sp.tx),(fun _ _ _ _ _ ⟨g,e,o,l,q⟩ r=>⟨g,e,o.spn r.rc.sp,l,r.ext _ _ q⟩),(fun _ _ _ _ _ ⟨g,e,o,l,q⟩ r=>⟨g,e,o.spn r.rc.sp,l,r.ext _ _ q⟩),trivial⟩ fun f87 s88 w89 r90 k91=>?_))
 have C92:=r90.rc.cx;have S93:=r90.rc.sp;have lt94:=o14.blk.lt;have lt95:=o22.blk.lt;have lt96:=o31.blk.lt;have lt97:=o41.blk.lt;have hszS93:=S93.tx.size;replace h3:=(h3.sp s40).sp S93;replace h6:=(h6.sp s40).sp S93;replace o14:=o14.spn S93;replace o22:=o22.spn S93;replace o31:=o31.spn S93;replace o41:=o41.spn S93;have k91:Keep [11,12,13,14,6,7] _ f87:=k91;refine⟨⟨fun _=>?_,fun⟨e98,_⟩=>?_,fun _=>?_,fun⟨e99,_⟩=>?_,fun _=>?_,fun _=>?_,trivial⟩,fun⟨e100,d101,e102,d103,d104,d105,_⟩=>?_⟩
 ·exact Ja k91 aN fun _=>OpSt.op (J29 (vs:=[(.bool a.neg),(.slice a1 a.mag.length c2)]) o14 ag26 rfl rfl rfl ⟨s88,RL.same C92,rfl⟩)
 ·refine Ja k91 (aC e98 aN) fun _=>OpSt.op (J25 C92 kz rfl rfl (Vi C92.bd (a:=a) (Jo h3) (by omega)) ?_);intro v106 w107 C108 s109 h110;exact⟨s88,J4g ⟨C108,s109⟩,h110⟩
 ·exact Ja k91 aN fun _=>OpSt.op (J29 (vs:=[(.bool b.neg),(.slice a4 b.mag.length c5)]) o22 ag26 rfl rfl rfl ⟨s88,RL.same C92,rfl⟩)
 ·refine Ja k91 (aC e99 aN) fun _=>OpSt.op (J25 C92 kz rfl rfl (Vi C92.bd (a:=b) (Jo h6) (by omega)) ?_);intro v111 w112 C113 s114 h115;exact⟨s88,J4g ⟨C113,s114⟩,h115⟩
 ·refine Ja k91 aN fun _=>OpSt.op (J3b C92 io26 rfl ?_);intro g116 w117 x118 y119 lt120 C121 s122 o123;exact⟨((x118,y119),lab s88.2 g116 4),RL.new (r90.bd fun _ _ h=>by cases h) ⟨C121,s122⟩ (Nat.le_of_not_lt fun hh=>lt120 _ hh rfl) o123.blk.lt,g116,rfl,o123,Nat.le_of_not_lt fun hh=>lt120 _ (Nat.lt_of_lt_of_le hh hszS93) rfl,jq _ _ _⟩
 ·refine Ja k91 aN fun _=>OpSt.op (J3b C92 io26 rfl ?_);intro g128 w129 x130 y131 lt132 C133 s134 o135;exact⟨((x130,y131),lab s88.2 g128 5),RL.new (r90.bd fun _ _ h=>by cases h) ⟨C133,s134⟩ (Nat.le_of_not_lt fun hh=>lt132 _ hh rfl) o135.blk.lt,g128,rfl,o135,Nat.le_of_not_lt fun hh=>lt132 _ (Nat.lt_of_lt_of_le hh hszS93) rfl,jq _ _ _⟩
 obtain⟨a141,c142,e140,h143⟩:=RV.int d101;obtain⟨a145,c146,e144,h147⟩:=RV.int d103;obtain⟨g149,e148,o150,l151,q152⟩:=d104;have n153:g7≠g149:=Nat.ne_of_lt (Nat.lt_of_lt_of_le lt94 l151);have n154:g15≠g149:=Nat.ne_of_lt (Nat.lt_of_lt_of_le lt95 l151);have n155:g24≠g149:=Nat.ne_of_lt (Nat.lt_of_lt_of_le lt96 l151);have n156:g34≠g149:=Nat.ne_of_lt (Nat.lt_of_lt_of_le lt97 l151);obtain⟨g159,e158,o160,l161,q162⟩:=d105;have n163:g7≠g159:=Nat.ne_of_lt (Nat.lt_of_lt_of_le lt94 l161);have n164:g15≠g159:=Nat.ne_of_lt (Nat.lt_of_lt_of_le lt95 l161);have n165:g24≠g159:=Nat.ne_of_lt (Nat.lt_of_lt_of_le lt96 l161);have n166:g34≠g159:=Nat.ne_of_lt (Nat.lt_of_lt_of_le lt97 l161);have n167:g149≠g159:=Jkg q152 q162 rfl;obtain⟨f169,rfl⟩:=mixK k91 (aC e100 (aC e140 (aC e102 (aC e144 (aC e148 (aC e158 aN))))));refine On (J3a (cs':=[(.bool (ofZ a.toZ).neg),(.slice a141 (ofZ a.toZ).mag.length c142)]) C92 o150 io26 rfl rfl rfl rfl rfl rfl ?_);intro w170 C171 s172 o173;replace o160:=o160.spo s172 (Ne.symm n167);refine On (J3a (cs':=[(.bool (ofZ b.toZ).neg),(.slice a145 (ofZ b.toZ).mag.length c146)]) C171 o160 io26 rfl rfl rfl rfl rfl rfl ?_);intro w174 C175 s176 o177;replace h143:=(h143.sp s172).sp s176;replace h147:=(h147.sp s172).sp s176;replace o31:=(o31.spo s172 n155).spo s176 n165;replace o41:=(o41.spo s172 n156).spo s176 n166;replace o173:=o173.spo s176 n167;refine Nl (Rg (Ol (St.fieldAddr Jz rfl (Ol (J27 o173 pl24 rfl rfl (Ol (St.fieldAddr Jz rfl (Ol (J27 o177 pl24 rfl rfl (Ol (J25 C175 cb215 rfl rfl (Jjl C175.bd h143 h147 (Vg _) (Vg _) (Jt1 hbz) (by omega) (by omega)) ?_)))))))))));intro v178 w179 C180 s181 h182;replace h147:=h147.sp s181;obtain⟨v183,v184,rfl,h185,h186⟩:=h182;obtain⟨a187,c188,rfl,_,_⟩:=h185.len;obtain⟨a189,c190,rfl,_,_⟩:=h186.len;refine Om (Ol (St.extract rfl rfl (Ol (St.extract rfl rfl (Oa (Oa (Nl (Rg (Om (Ol (J25 C180 zt rfl rfl (Y2 C180.bd h186 (by omega)) ?_)))))))))));intro v191 w192 C193 s194 h195;replace o31:=(o31.spn s181).spn s194;replace o41:=(o41.spn s181).spn s194;replace o173:=(o173.spn s181).spn s194;replace o177:=(o177.spn s181).spn s194;obtain⟨a196,c197,rfl,h198⟩:=RV.int h195;refine Ol (J3b C193 io26 rfl ?_);intro g199 w200 x201 y202 lt203 C204 s205 o206;have n209:=lt203 _ o31.blk.lt;have n210:=lt203 _ o41.blk.lt;have n211:=lt203 _ o173.blk.lt;have n212:=lt203 _ o177.blk.lt;replace h147:=(h147.sp s194).sp s205;replace h185:=(h185.sp s194).sp s205;replace o41:=o41.spn s205;replace o177:=o177.spn s205;refine On (J3a (cs':=[(.bool (ofZ (Jk false (val (digs (val (ofZ a.toZ).mag % val (ofZ b.toZ).mag))))).neg),(.slice a196 (ofZ (Jk false (val (digs (val (ofZ a.toZ).mag % val (ofZ b.toZ).mag))))).mag.length c197)]) C204 o206 io26 rfl rfl rfl rfl rfl rfl ?_);intro w213 C214 s215 o216;replace h198:=(h198.sp s205).sp s215;replace o31:=(o31.spn s205).spo s215 n209;replace o173:=(o173.spn s205).spo s215 n211;refine Nl (Rh (Ol (St.fieldAddr Zv rfl (Ol (St.bool (J27 o173 pl4 rfl rfl ⟨_,rfl,fun hb217=>?_,fun hb217=>?_⟩))))))
 ·refine Om (Og rfl rfl (St.fieldAddr Jz rfl (Og rfl rfl (J27 o216 pl24 rfl rfl (Og rfl rfl (St.len sl24 rfl (Og rfl rfl (J3u rfl rfl (fun hc218=>?_) (fun hc218=>?_)))))))))
  ·refine OT (Nl (J26 rfl (W.seq (J3m J5 10 [[],[0],[1],[],[],[3,4],[2,5],[],[7],[]] C214 [fx (.pointer (some ⟨g159,0,none⟩)),fx (.bool (ofZ b.toZ).neg),fx (.bool (!(ofZ b.toZ).neg)),fx (.slice a187 (dvQ (ofZ a.toZ).mag (ofZ b.toZ).mag).length c188),fs Je [1],fs Je (Jt (max (dvQ (ofZ a.toZ).mag (ofZ b.toZ).mag).length [1].length+1) (val (dvQ (ofZ a.toZ).mag (ofZ b.toZ).mag)+val [1])),fr Jx (ofZ (Jk (!(ofZ b.toZ).neg) (val (Jt (max (dvQ (ofZ a.toZ).mag (ofZ b.toZ).mag).length [1].length+1) (val (dvQ (ofZ a.toZ).mag (ofZ b.toZ).mag)+val [1]))))),fx (.agg #[(.bool (ofZ b.toZ).neg),(.slice a145 (ofZ b.toZ).mag.length c146)]),fr Jx (ofZ (b.toZ.natAbs:Int)),fx (.agg #[(.bool (ofZ (Jk false (val (digs (val (ofZ a.toZ).mag % val (ofZ b.toZ).mag))))).neg),(.slice a196 (ofZ (Jk false (val (digs (val (ofZ a.toZ).mag % val (ofZ b.toZ).mag))))).mag.length c197)])] (by kernel_rfl) ⟨sx,sx,sx,sx,ss,ss,sr,sx,sr,sx,trivial⟩ fun f250 s251 w252 ⟨C255,S256⟩ k254=>?_))))
   replace h147:=(h147.sp s215).sp S256;replace h185:=(h185.sp s215).sp S256;replace h198:=h198.sp S256;replace o41:=(o41.spo s215 n210).spn S256;replace o177:=(o177.spo s215 n212).spn S256;replace o216:=o216.spn S256;have k254:Keep [33,34,35,36,37,38,39,40,41,42] _ f250:=k254;refine⟨⟨fun _=>?_,fun⟨e264,_⟩=>?_,fun⟨e265,_⟩=>?_,fun _=>?_,fun _=>?_,fun⟨e266,d267,_⟩=>?_,fun⟨e268,d269,_⟩=>?_,fun _=>?_,fun⟨e270,_⟩=>?_,fun _=>?_,trivial⟩,fun⟨e271,e272,e273,e274,d275,d276,d277,e278,d279,e280,_⟩=>?_⟩
   ·exact Ja k254 aN fun _=>OpSt.op (St.fieldAddr Zv rfl ⟨s251,RC.same C255,rfl⟩)
   ·exact Ja k254 (aC e264 aN) fun _=>OpSt.op (J27 o177 pl4 rfl rfl ⟨s251,RC.same C255,rfl⟩)
   ·exact Ja k254 (aC e265 aN) fun _=>OpSt.op (St.not rfl ⟨s251,RC.same C255,rfl⟩)
   ·exact Ja k254 aN fun _=>OpSt.op (St.move ⟨s251,RC.same C255,rfl⟩)
   ·refine Ja k254 aN fun _=>OpSt.op (J3t (T:=Je) (css:=[[(.int .u32 1)]]) (l:=[1]) C255 sl24 Ji (by decide) (by decide) rfl (by kernel_rfl) ⟨⟨rfl,(by omega)⟩,trivial⟩ ?_);intro g285 w281 C282 s283 h284;exact⟨s251,⟨C282,s283⟩,h284⟩
   ·obtain⟨a289,c290,e288,d267⟩:=RS.opn d267;refine Ja k254 (aC e266 (aC e288 aN)) fun _=>OpSt.op (J25 C255 Jzq rfl rfl (Jp6 C255.bd h185 d267 (by omega) (by simp)) ?_);intro v291 w292 C293 s294 h295;exact⟨s251,⟨C293,s294⟩,h295⟩
   ·obtain⟨a297,c298,e296,d269⟩:=RS.opn d269;refine Ja k254 (aC e268 (aC e296 aN)) fun _=>OpSt.op (J25 C255 zt rfl rfl (Y2 C255.bd d269 (by rw [Jj];simp only [List.length_cons,List.length_nil];omega)) ?_);intro v299 w300 C301 s302 h303;exact⟨s251,⟨C301,s302⟩,h303⟩
   ·exact Ja k254 aN fun _=>OpSt.op (J29 (vs:=[(.bool (ofZ b.toZ).neg),(.slice a145 (ofZ b.toZ).mag.length c146)]) o177 ag26 rfl rfl rfl ⟨s251,RC.same C255,rfl⟩)
   ·refine Ja k254 (aC e270 aN) fun _=>OpSt.op (J25 C255 Jtz rfl rfl (Jsi C255.bd (a:=(ofZ b.toZ)) (Jo h147) (by omega)) ?_);intro v304 w305 C306 s307 h308;simp only [Jw,Xy] at h308;exact⟨s251,⟨C306,s307⟩,h308⟩
   ·exact Ja k254 aN fun _=>OpSt.op (J29 (vs:=[(.bool (ofZ (Jk false (val (digs (val (ofZ a.toZ).mag % val (ofZ b.toZ).mag))))).neg),(.slice a196 (ofZ (Jk false (val (digs (val (ofZ a.toZ).mag % val (ofZ b.toZ).mag))))).mag.length c197)]) o216 ag26 rfl rfl rfl ⟨s251,RC.same C255,rfl⟩)
   obtain⟨a310,c311,e309,d275⟩:=RS.opn d275;obtain⟨a313,c314,e312,d276⟩:=RS.opn d276;obtain⟨a316,c317,e315,h318⟩:=RV.int d277;obtain⟨a320,c321,e319,h322⟩:=RV.int d279;obtain⟨f323,rfl⟩:=mixK k254 (aC e271 (aC e272 (aC e273 (aC e274 (aC e309 (aC e312 (aC e315 (aC e278 (aC e319 (aC e280 aN))))))))));refine Ol (J25 C255 cb217 rfl rfl (x_sub C255.bd (a:=(ofZ (b.toZ.natAbs:Int))) (Jo h322) (b:=(ofZ (Jk false (val (digs (val (ofZ a.toZ).mag % val (ofZ b.toZ).mag)))))) (Jo h198) (by rw [hba];omega) (by omega)) ?_);intro v324 w325 C326 s327 h328;replace h318:=h318.sp s327;replace o31:=(o31.spn S256).spn s327;simp only [Jw,Xy] at h328;obtain⟨a329,c330,rfl,h331⟩:=RV.int h328;refine On (J3a (cs':=[(.bool (ofZ (Jk (!(ofZ b.toZ).neg) (val (Jt (max (dvQ (ofZ a.toZ).mag (ofZ b.toZ).mag).length [1].length+1) (val (dvQ (ofZ a.toZ).mag (ofZ b.toZ).mag)+val [1]))))).neg),(.slice a316 (ofZ (Jk (!(ofZ b.toZ).neg) (val (Jt (max (dvQ (ofZ a.toZ).mag (ofZ b.toZ).mag).length [1].length+1) (val (dvQ (ofZ a.toZ).mag (ofZ b.toZ).mag)+val [1]))))).mag.length c317)]) C326 o31 io26 rfl rfl rfl rfl rfl rfl ?_);intro w332 C333 s334 o335;replace o41:=(o41.spn s327).spo s334 (Ne.symm n44);refine On (J3a (cs':=[(.bool (ofZ ((b.toZ.natAbs:Int) - (Jk false (val (digs (val (ofZ a.toZ).mag % val (ofZ b.toZ).mag)))))).neg),(.slice a329 (ofZ ((b.toZ.natAbs:Int) - (Jk false (val (digs (val (ofZ a.toZ).mag % val (ofZ b.toZ).mag)))))).mag.length c330)]) C333 o41 io26 rfl rfl rfl rfl rfl rfl ?_);intro w336 C337 s338 o339;replace h318:=(h318.sp s334).sp s338;replace h331:=(h331.sp s334).sp s338;replace o335:=o335.spo s338 n44;refine Nl (W.ret (Zh rfl (resV.c o335 rfl ag26 rfl) (resV.c o339 rfl ag26 rfl) (Ret.intro ?_ C337.below)));refine⟨_,_,rfl,?_,?_⟩
   ·skip
    exact J3l (a:=(ofZ (Jk (!(ofZ b.toZ).neg) (val (Jt (max (dvQ (ofZ a.toZ).mag (ofZ b.toZ).mag).length [1].length+1) (val (dvQ (ofZ a.toZ).mag (ofZ b.toZ).mag)+val [1])))))) ((Jo h318).tr (Tr.weak C337.base)) (congrArg ofZ (by rw [Zi _ _ (Jeb Jka Jkn),Jep (Kq hbz),show val [1]=1 from rfl];exact(Jqz hbz hb217 (fun e=>by have:=hr3.2 e;omega)).1))
   ·skip
    exact J3l (a:=(ofZ ((b.toZ.natAbs:Int) - (Jk false (val (digs (val (ofZ a.toZ).mag % val (ofZ b.toZ).mag))))))) ((Jo h331).tr (Tr.weak C337.base)) (congrArg ofZ (by rw [Js,Z9];exact(Jqz hbz hb217 (fun e=>by have:=hr3.2 e;omega)).2))
  refine OT (Nl (J28 rfl (W.skip (W.seq ?_))));have ow349:=o31;have hp350:∀ (s:Gh) (u:World) (s2:Gh) (u2:World),Sp s.1 s.2 u s2.1 s2.2 u2 Zf→(fun(s:Gh) (w':World)=>∃ (a1':Option Addr) (c1':Nat),Own w s.2 w' g24 [(.bool (ofZ (Jk ((ofZ a.toZ).neg != (ofZ b.toZ).neg) (val (dvQ (ofZ a.toZ).mag (ofZ b.toZ).mag)))).neg),(.slice a1' (ofZ (Jk ((ofZ a.toZ).neg != (ofZ b.toZ).neg) (val (dvQ (ofZ a.toZ).mag (ofZ b.toZ).mag)))).mag.length c1')] 26∧RS Je s.1 w' (.slice a1' (ofZ (Jk ((ofZ a.toZ).neg != (ofZ b.toZ).neg) (val (dvQ (ofZ a.toZ).mag (ofZ b.toZ).mag)))).mag.length c1') ((ofZ (Jk ((ofZ a.toZ).neg != (ofZ b.toZ).neg) (val (dvQ (ofZ a.toZ).mag (ofZ b.toZ).mag)))).mag)) s u→(fun(s:Gh) (w':World)=>∃ (a1':Option Addr) (c1':Nat),Own w s.2 w' g24 [(.bool (ofZ (Jk ((ofZ a.toZ).neg != (ofZ b.toZ).neg) (val (dvQ (ofZ a.toZ).mag (ofZ b.toZ).mag)))).neg),(.slice a1' (ofZ (Jk ((ofZ a.toZ).neg != (ofZ b.toZ).neg) (val (dvQ (ofZ a.toZ).mag (ofZ b.toZ).mag)))).mag.length c1')] 26∧RS Je s.1 w' (.slice a1' (ofZ (Jk ((ofZ a.toZ).neg != (ofZ b.toZ).neg) (val (dvQ (ofZ a.toZ).mag (ofZ b.toZ).mag)))).mag.length c1') ((ofZ (Jk ((ofZ a.toZ).neg != (ofZ b.toZ).neg) (val (dvQ (ofZ a.toZ).mag (ofZ b.toZ).mag)))).mag)) s2 u2:=fun _ _ _ _ p ⟨a1',c1',o,r0⟩=>⟨a1',c1',o.spn p,r0.sp p⟩;refine J4y J5 9 8 [[],[0],[],[2],[1,3],[],[4,5],[],[6]] (x201,y202) (RW X w g24 (fun(s:Gh) (w':World)=>∃ (a1':Option Addr) (c1':Nat),Own w s.2 w' g24 [(.bool (ofZ (Jk ((ofZ a.toZ).neg != (ofZ b.toZ).neg) (val (dvQ (ofZ a.toZ).mag (ofZ b.toZ).mag)))).neg),(.slice a1' (ofZ (Jk ((ofZ a.toZ).neg != (ofZ b.toZ).neg) (val (dvQ (ofZ a.toZ).mag (ofZ b.toZ).mag)))).mag.length c1')] 26∧RS Je s.1 w' (.slice a1' (ofZ (Jk ((ofZ a.toZ).neg != (ofZ b.toZ).neg) (val (dvQ (ofZ a.toZ).mag (ofZ b.toZ).mag)))).mag.length c1') ((ofZ (Jk ((ofZ a.toZ).neg != (ofZ b.toZ).neg) (val (dvQ (ofZ a.toZ).mag (ofZ b.toZ).mag)))).mag))) [fx (.pointer (some ⟨g149,0,none⟩)),fx (.bool (ofZ a.toZ).neg),fx (.pointer (some ⟨g159,0,none⟩)),fx (.bool (ofZ b.toZ).neg),fx (.bool ((ofZ a.toZ).neg != (ofZ b.toZ).neg)),fx (.slice a187 (dvQ (ofZ a.toZ).mag (ofZ b.toZ).mag).length c188),fr Jx (ofZ (Jk ((ofZ a.toZ).neg != (ofZ b.toZ).neg) (val (dvQ (ofZ a.toZ).mag (ofZ b.toZ).mag)))),fx (.agg #[(.bool (ofZ (Jk false (val (digs (val (ofZ a.toZ).mag % val (ofZ b.toZ).mag))))).neg),(.slice a196 (ofZ (Jk false (val (digs (val (ofZ a.toZ).mag % val (ofZ b.toZ).mag))))).mag.length c197)]),fun(s:Gh) (_:Value) (w':World)=>∃ (a1':Option Addr) (c1':Nat),Own w s.2 w' g24 [(.bool (ofZ (Jk ((ofZ a.toZ).neg != (ofZ b.toZ).neg) (val (dvQ (ofZ a.toZ).mag (ofZ b.toZ).mag)))).neg),(.slice a1' (ofZ (Jk ((ofZ a.toZ).neg != (ofZ b.toZ).neg) (val (dvQ (ofZ a.toZ).mag (ofZ b.toZ).mag)))).mag.length c1')] 26∧RS Je s.1 w' (.slice a1' (ofZ (Jk ((ofZ a.toZ).neg != (ofZ b.toZ).neg) (val (dvQ (ofZ a.toZ).mag (ofZ b.toZ).mag)))).mag.length c1') ((ofZ (Jk ((ofZ a.toZ).neg != (ofZ b.toZ).neg) (val (dvQ (ofZ a.toZ).mag (ofZ b.toZ).mag)))).mag)] (by kernel_rfl) (J3z hp350 (J4e C214)) RW.trans ⟨sx,sx,sx,sx,sx,sx,(fun _ _ _ _ _ h r=>RV.tr h r.sp.tx),sx,(fun _ _ _ _ _ h r=>r.tn h),trivial⟩ (fun _ _ _ _ h=>h) fun f351 s352 w353 r354 k355=>?_
  have C356:=r354.cx;have S357:=r354.sp;replace h185:=(h185.sp s215).sp S357;replace o41:=(o41.spo s215 n210).spo S357 (Ne.symm n44);replace o173:=o173.spo S357 (Ne.symm n155);replace o177:=(o177.spo s215 n212).spo S357 (Ne.symm n165);replace o216:=o216.spo S357 (Ne.symm n209);have k355:Keep [44,45,46,47,48,49,50,51] _ f351:=k355;refine⟨⟨fun _=>?_,fun⟨e365,_⟩=>?_,fun _=>?_,fun⟨e366,_⟩=>?_,fun⟨e367,e368,_⟩=>?_,fun _=>?_,fun⟨e369,e370,_⟩=>?_,fun _=>?_,fun⟨d371,_⟩=>?_,trivial⟩,fun⟨e372,e373,e374,e375,e376,e377,d378,e379,d380,_⟩=>?_⟩
  ·exact Ja k355 aN fun _=>OpSt.op (St.fieldAddr Zv rfl ⟨s352,J3z hp350 (RC.same C356),rfl⟩)
  ·exact Ja k355 (aC e365 aN) fun _=>OpSt.op (J27 o173 pl4 rfl rfl ⟨s352,J3z hp350 (RC.same C356),rfl⟩)
  ·exact Ja k355 aN fun _=>OpSt.op (St.fieldAddr Zv rfl ⟨s352,J3z hp350 (RC.same C356),rfl⟩)
  ·exact Ja k355 (aC e366 aN) fun _=>OpSt.op (J27 o177 pl4 rfl rfl ⟨s352,J3z hp350 (RC.same C356),rfl⟩)
  ·exact Ja k355 (aC e367 (aC e368 aN)) fun _=>OpSt.op (J4b un4 rfl rfl rfl ⟨s352,J3z hp350 (RC.same C356),rfl⟩)
  ·exact Ja k355 aN fun _=>OpSt.op (St.move ⟨s352,J3z hp350 (RC.same C356),rfl⟩)
  ·refine Ja k355 (aC e369 (aC e370 aN)) fun _=>OpSt.op (J25 C356 zt rfl rfl (Y2 C356.bd h185 (by omega)) ?_);intro v381 w382 C383 s384 h385;exact⟨s352,J3z hp350 ⟨C383,s384⟩,h385⟩
  ·exact Ja k355 aN fun _=>OpSt.op (J29 (vs:=[(.bool (ofZ (Jk false (val (digs (val (ofZ a.toZ).mag % val (ofZ b.toZ).mag))))).neg),(.slice a196 (ofZ (Jk false (val (digs (val (ofZ a.toZ).mag % val (ofZ b.toZ).mag))))).mag.length c197)]) o216 ag26 rfl rfl rfl ⟨s352,J3z hp350 (RC.same C356),rfl⟩)
  ·obtain⟨a387,c388,e386,h389⟩:=RV.int d371;obtain⟨cs390,hl391,o392⟩:=r354.ow _ _ ow349;refine Ja k355 (aC e386 aN) fun _=>OpSt.op (J4k (vs:=[(.bool (ofZ (Jk ((ofZ a.toZ).neg != (ofZ b.toZ).neg) (val (dvQ (ofZ a.toZ).mag (ofZ b.toZ).mag)))).neg),(.slice a387 (ofZ (Jk ((ofZ a.toZ).neg != (ofZ b.toZ).neg) (val (dvQ (ofZ a.toZ).mag (ofZ b.toZ).mag)))).mag.length c388)]) C356 o392 io26 rfl rfl rfl (by rw [hl391];rfl) rfl ?_);intro w393 C394 s395 o396;have hq:(fun(s:Gh) (w':World)=>∃ (a1':Option Addr) (c1':Nat),Own w s.2 w' g24 [(.bool (ofZ (Jk ((ofZ a.toZ).neg != (ofZ b.toZ).neg) (val (dvQ (ofZ a.toZ).mag (ofZ b.toZ).mag)))).neg),(.slice a1' (ofZ (Jk ((ofZ a.toZ).neg != (ofZ b.toZ).neg) (val (dvQ (ofZ a.toZ).mag (ofZ b.toZ).mag)))).mag.length c1')] 26∧RS Je s.1 w' (.slice a1' (ofZ (Jk ((ofZ a.toZ).neg != (ofZ b.toZ).neg) (val (dvQ (ofZ a.toZ).mag (ofZ b.toZ).mag)))).mag.length c1') ((ofZ (Jk ((ofZ a.toZ).neg != (ofZ b.toZ).neg) (val (dvQ (ofZ a.toZ).mag (ofZ b.toZ).mag)))).mag)) s352 w393:=⟨a387,c388,o396,h389.sp s395⟩;exact⟨s352,RW.turn C394 s395 o392 o396 (by rw [hl391];rfl) hq,hq⟩
  obtain⟨a398,c399,e397,h400⟩:=RV.int d378;obtain⟨a402,c403,o401,h404⟩:=d380;obtain⟨f405,rfl⟩:=mixK k355 (aC e372 (aC e373 (aC e374 (aC e375 (aC e376 (aC e377 (aC e397 (aC e379 aN))))))));refine On (J3a (cs':=[(.bool (ofZ (Jk false (val (digs (val (ofZ a.toZ).mag % val (ofZ b.toZ).mag))))).neg),(.slice a196 (ofZ (Jk false (val (digs (val (ofZ a.toZ).mag % val (ofZ b.toZ).mag))))).mag.length c197)]) C356 o41 io26 rfl rfl rfl rfl rfl rfl ?_);intro w406 C407 s408 o409;replace h198:=(h198.sp S357).sp s408;replace h404:=h404.sp s408;replace o401:=o401.spo s408 n44;refine Nl (W.ret (Zh rfl (resV.c o401 rfl ag26 rfl) (resV.c o409 rfl ag26 rfl) (Ret.intro ?_ C407.below)));refine⟨_,_,rfl,?_,?_⟩
  ·skip
   exact J3l (a:=(ofZ (Jk ((ofZ a.toZ).neg != (ofZ b.toZ).neg) (val (dvQ (ofZ a.toZ).mag (ofZ b.toZ).mag))))) ((Jo h404).tr (Tr.weak C407.base)) (congrArg ofZ (by rw [Jep (Kq hbz)];exact(Jft hbz (.inr (hr3.1 (by omega)))).1))
  ·skip
   exact J3l (a:=(ofZ (Jk false (val (digs (val (ofZ a.toZ).mag % val (ofZ b.toZ).mag)))))) ((Jo h198).tr (Tr.weak C407.base)) (congrArg ofZ (by rw [Js,Z9];exact(Jft hbz (.inr (hr3.1 (by omega)))).2))
 refine Om (Oz (Oz (Oz (Oz (OF (Nl (J28 rfl (W.skip (W.seq ?_)))))))));have ow419:=o31;have hp420:∀ (s:Gh) (u:World) (s2:Gh) (u2:World),Sp s.1 s.2 u s2.1 s2.2 u2 Zf→(fun(s:Gh) (w':World)=>∃ (a1':Option Addr) (c1':Nat),Own w s.2 w' g24 [(.bool (ofZ (Jk ((ofZ a.toZ).neg != (ofZ b.toZ).neg) (val (dvQ (ofZ a.toZ).mag (ofZ b.toZ).mag)))).neg),(.slice a1' (ofZ (Jk ((ofZ a.toZ).neg != (ofZ b.toZ).neg) (val (dvQ (ofZ a.toZ).mag (ofZ b.toZ).mag)))).mag.length c1')] 26∧RS Je s.1 w' (.slice a1' (ofZ (Jk ((ofZ a.toZ).neg != (ofZ b.toZ).neg) (val (dvQ (ofZ a.toZ).mag (ofZ b.toZ).mag)))).mag.length c1') ((ofZ (Jk ((ofZ a.toZ).neg != (ofZ b.toZ).neg) (val (dvQ (ofZ a.toZ).mag (ofZ b.toZ).mag)))).mag)) s u→(fun(s:Gh) (w':World)=>∃ (a1':Option Addr) (c1':Nat),Own w s.2 w' g24 [(.bool (ofZ (Jk ((ofZ a.toZ).neg != (ofZ b.toZ).neg) (val (dvQ (ofZ a.toZ).mag (ofZ b.toZ).mag)))).neg),(.slice a1' (ofZ (Jk ((ofZ a.toZ).neg != (ofZ b.toZ).neg) (val (dvQ (ofZ a.toZ).mag (ofZ b.toZ).mag)))).mag.length c1')] 26∧RS Je s.1 w' (.slice a1' (ofZ (Jk ((ofZ a.toZ).neg != (ofZ b.toZ).neg) (val (dvQ (ofZ a.toZ).mag (ofZ b.toZ).mag)))).mag.length c1') ((ofZ (Jk ((ofZ a.toZ).neg != (ofZ b.toZ).neg) (val (dvQ (ofZ a.toZ).mag (ofZ b.toZ).mag)))).mag)) s2 u2:=fun _ _ _ _ p ⟨a1',c1',o,r0⟩=>⟨a1',c1',o.spn p,r0.sp p⟩;refine J4y J5 9 8 [[],[0],[],[2],[1,3],[],[4,5],[],[6]] (x201,y202) (RW X w g24 (fun(s:Gh) (w':World)=>∃ (a1':Option Addr) (c1':Nat),Own w s.2 w' g24 [(.bool (ofZ (Jk ((ofZ a.toZ).neg != (ofZ b.toZ).neg) (val (dvQ (ofZ a.toZ).mag (ofZ b.toZ).mag)))).neg),(.slice a1' (ofZ (Jk ((ofZ a.toZ).neg != (ofZ b.toZ).neg) (val (dvQ (ofZ a.toZ).mag (ofZ b.toZ).mag)))).mag.length c1')] 26∧RS Je s.1 w' (.slice a1' (ofZ (Jk ((ofZ a.toZ).neg != (ofZ b.toZ).neg) (val (dvQ (ofZ a.toZ).mag (ofZ b.toZ).mag)))).mag.length c1') ((ofZ (Jk ((ofZ a.toZ).neg != (ofZ b.toZ).neg) (val (dvQ (ofZ a.toZ).mag (ofZ b.toZ).mag)))).mag))) [fx (.pointer (some ⟨g149,0,none⟩)),fx (.bool (ofZ a.toZ).neg),fx (.pointer (some ⟨g159,0,none⟩)),fx (.bool (ofZ b.toZ).neg),fx (.bool ((ofZ a.toZ).neg != (ofZ b.toZ).neg)),fx (.slice a187 (dvQ (ofZ a.toZ).mag (ofZ b.toZ).mag).length c188),fr Jx (ofZ (Jk ((ofZ a.toZ).neg != (ofZ b.toZ).neg) (val (dvQ (ofZ a.toZ).mag (ofZ b.toZ).mag)))),fx (.agg #[(.bool (ofZ (Jk false (val (digs (val (ofZ a.toZ).mag % val (ofZ b.toZ).mag))))).neg),(.slice a196 (ofZ (Jk false (val (digs (val (ofZ a.toZ).mag % val (ofZ b.toZ).mag))))).mag.length c197)]),fun(s:Gh) (_:Value) (w':World)=>∃ (a1':Option Addr) (c1':Nat),Own w s.2 w' g24 [(.bool (ofZ (Jk ((ofZ a.toZ).neg != (ofZ b.toZ).neg) (val (dvQ (ofZ a.toZ).mag (ofZ b.toZ).mag)))).neg),(.slice a1' (ofZ (Jk ((ofZ a.toZ).neg != (ofZ b.toZ).neg) (val (dvQ (ofZ a.toZ).mag (ofZ b.toZ).mag)))).mag.length c1')] 26∧RS Je s.1 w' (.slice a1' (ofZ (Jk ((ofZ a.toZ).neg != (ofZ b.toZ).neg) (val (dvQ (ofZ a.toZ).mag (ofZ b.toZ).mag)))).mag.length c1') ((ofZ (Jk ((ofZ a.toZ).neg != (ofZ b.toZ).neg) (val (dvQ (ofZ a.toZ).mag (ofZ b.toZ).mag)))).mag)] (by kernel_rfl) (J3z hp420 (J4e C214)) RW.trans ⟨sx,sx,sx,sx,sx,sx,(fun _ _ _ _ _ h r=>RV.tr h r.sp.tx),sx,(fun _ _ _ _ _ h r=>r.tn h),trivial⟩ (fun _ _ _ _ h=>h) fun f421 s422 w423 r424 k425=>?_
 have C426:=r424.cx;have S427:=r424.sp;replace h185:=(h185.sp s215).sp S427;replace o41:=(o41.spo s215 n210).spo S427 (Ne.symm n44);replace o173:=o173.spo S427 (Ne.symm n155);replace o177:=(o177.spo s215 n212).spo S427 (Ne.symm n165);replace o216:=o216.spo S427 (Ne.symm n209);have k425:Keep [44,45,46,47,48,49,50,51] _ f421:=k425;refine⟨⟨fun _=>?_,fun⟨e435,_⟩=>?_,fun _=>?_,fun⟨e436,_⟩=>?_,fun⟨e437,e438,_⟩=>?_,fun _=>?_,fun⟨e439,e440,_⟩=>?_,fun _=>?_,fun⟨d441,_⟩=>?_,trivial⟩,fun⟨e442,e443,e444,e445,e446,e447,d448,e449,d450,_⟩=>?_⟩
 ·exact Ja k425 aN fun _=>OpSt.op (St.fieldAddr Zv rfl ⟨s422,J3z hp420 (RC.same C426),rfl⟩)
 ·exact Ja k425 (aC e435 aN) fun _=>OpSt.op (J27 o173 pl4 rfl rfl ⟨s422,J3z hp420 (RC.same C426),rfl⟩)
 ·exact Ja k425 aN fun _=>OpSt.op (St.fieldAddr Zv rfl ⟨s422,J3z hp420 (RC.same C426),rfl⟩)
 ·exact Ja k425 (aC e436 aN) fun _=>OpSt.op (J27 o177 pl4 rfl rfl ⟨s422,J3z hp420 (RC.same C426),rfl⟩)
 ·exact Ja k425 (aC e437 (aC e438 aN)) fun _=>OpSt.op (J4b un4 rfl rfl rfl ⟨s422,J3z hp420 (RC.same C426),rfl⟩)
 ·exact Ja k425 aN fun _=>OpSt.op (St.move ⟨s422,J3z hp420 (RC.same C426),rfl⟩)
 ·refine Ja k425 (aC e439 (aC e440 aN)) fun _=>OpSt.op (J25 C426 zt rfl rfl (Y2 C426.bd h185 (by omega)) ?_);intro v451 w452 C453 s454 h455;exact⟨s422,J3z hp420 ⟨C453,s454⟩,h455⟩
 ·exact Ja k425 aN fun _=>OpSt.op (J29 (vs:=[(.bool (ofZ (Jk false (val (digs (val (ofZ a.toZ).mag % val (ofZ b.toZ).mag))))).neg),(.slice a196 (ofZ (Jk false (val (digs (val (ofZ a.toZ).mag % val (ofZ b.toZ).mag))))).mag.length c197)]) o216 ag26 rfl rfl rfl ⟨s422,J3z hp420 (RC.same C426),rfl⟩)
 ·obtain⟨a457,c458,e456,h459⟩:=RV.int d441;obtain⟨cs460,hl461,o462⟩:=r424.ow _ _ ow419;refine Ja k425 (aC e456 aN) fun _=>OpSt.op (J4k (vs:=[(.bool (ofZ (Jk ((ofZ a.toZ).neg != (ofZ b.toZ).neg) (val (dvQ (ofZ a.toZ).mag (ofZ b.toZ).mag)))).neg),(.slice a457 (ofZ (Jk ((ofZ a.toZ).neg != (ofZ b.toZ).neg) (val (dvQ (ofZ a.toZ).mag (ofZ b.toZ).mag)))).mag.length c458)]) C426 o462 io26 rfl rfl rfl (by rw [hl461];rfl) rfl ?_);intro w463 C464 s465 o466;have hq:(fun(s:Gh) (w':World)=>∃ (a1':Option Addr) (c1':Nat),Own w s.2 w' g24 [(.bool (ofZ (Jk ((ofZ a.toZ).neg != (ofZ b.toZ).neg) (val (dvQ (ofZ a.toZ).mag (ofZ b.toZ).mag)))).neg),(.slice a1' (ofZ (Jk ((ofZ a.toZ).neg != (ofZ b.toZ).neg) (val (dvQ (ofZ a.toZ).mag (ofZ b.toZ).mag)))).mag.length c1')] 26∧RS Je s.1 w' (.slice a1' (ofZ (Jk ((ofZ a.toZ).neg != (ofZ b.toZ).neg) (val (dvQ (ofZ a.toZ).mag (ofZ b.toZ).mag)))).mag.length c1') ((ofZ (Jk ((ofZ a.toZ).neg != (ofZ b.toZ).neg) (val (dvQ (ofZ a.toZ).mag (ofZ b.toZ).mag)))).mag)) s422 w463:=⟨a457,c458,o466,h459.sp s465⟩;exact⟨s422,RW.turn C464 s465 o462 o466 (by rw [hl461];rfl) hq,hq⟩
 obtain⟨a468,c469,e467,h470⟩:=RV.int d448;obtain⟨a472,c473,o471,h474⟩:=d450;obtain⟨f475,rfl⟩:=mixK k425 (aC e442 (aC e443 (aC e444 (aC e445 (aC e446 (aC e447 (aC e467 (aC e449 aN))))))));refine On (J3a (cs':=[(.bool (ofZ (Jk false (val (digs (val (ofZ a.toZ).mag % val (ofZ b.toZ).mag))))).neg),(.slice a196 (ofZ (Jk false (val (digs (val (ofZ a.toZ).mag % val (ofZ b.toZ).mag))))).mag.length c197)]) C426 o41 io26 rfl rfl rfl rfl rfl rfl ?_);intro w476 C477 s478 o479;replace h198:=(h198.sp S427).sp s478;replace h474:=h474.sp s478;replace o471:=o471.spo s478 n44;refine Nl (W.ret (Zh rfl (resV.c o471 rfl ag26 rfl) (resV.c o479 rfl ag26 rfl) (Ret.intro ?_ C477.below)));refine⟨_,_,rfl,?_,?_⟩
 ·skip
  exact J3l (a:=(ofZ (Jk ((ofZ a.toZ).neg != (ofZ b.toZ).neg) (val (dvQ (ofZ a.toZ).mag (ofZ b.toZ).mag))))) ((Jo h474).tr (Tr.weak C477.base)) (congrArg ofZ (by rw [Jep (Kq hbz)];exact(Jft hbz (.inl hb217)).1))
 ·skip
  exact J3l (a:=(ofZ (Jk false (val (digs (val (ofZ a.toZ).mag % val (ofZ b.toZ).mag)))))) ((Jo h198).tr (Tr.weak C477.base)) (congrArg ofZ (by rw [Js,Z9];exact(Jft hbz (.inl hb217)).2))
theorem Q5{X:Nat→Prop}{w:World}(hX:XB X w){v0:Value}{a:GInt}(r0:RV Jx X w v0 a){v1:Value}{b:GInt}(r1:RV Jx X w v1 b)(hla:a.mag.length≤536870912)(hlb:b.mag.length≤536870912)(hb0:val b.mag≠0):Calls Tryz.prog 119 #[v0,v1] w (Ret w fun v w'=>RV Jx X w' v (ofZ (a.toZ / b.toZ))):=by
 obtain⟨a1,c2,rfl,h3⟩:=RV.int r0;obtain⟨a4,c5,rfl,h6⟩:=RV.int r1;have C:=Cx.start hX;refine Cgo (args:=[(.agg #[(.bool a.neg),(.slice a1 a.mag.length c2)]),(.agg #[(.bool b.neg),(.slice a4 b.mag.length c5)])]) Tryz.func119 rfl rfl rfl (Rg (Ol (J3g C rfl ?_)));intro g7 w8 x9 y10 lt11 C12 s13 o14;replace h3:=h3.sp s13;replace h6:=h6.sp s13;refine Ol (J3g C12 rfl ?_);intro g15 w16 x17 y18 lt19 C20 s21 o22;refine Ol (J3b C20 io26 rfl ?_);intro g24 w25 x26 y27 lt28 C29 s30 o31;replace h3:=(h3.sp s21).sp s30;replace h6:=(h6.sp s21).sp s30;replace o14:=(o14.spn s21).spn s30;replace o22:=o22.spn s30;refine Nl (Rg (Ol (J29 (vs:=[(.bool a.neg),(.slice a1 a.mag.length c2)]) o14 ag26 rfl rfl rfl (Ol (J29 (vs:=[(.bool b.neg),(.slice a4 b.mag.length c5)]) o22 ag26 rfl rfl rfl (Ol (J25 C29 Js0 rfl rfl (Jae C29.bd (a:=a) (Jo h3) (b:=b) (Jo h6) hla hlb hb0) ?_)))))));intro v34 w35 C36 s37 h38;replace o31:=o31.spn s37;obtain⟨v39,v40,rfl,h41,h42⟩:=h38;obtain⟨a43,c44,rfl,h45⟩:=RV.int h41;obtain⟨a46,c47,rfl,h48⟩:=RV.int h42;refine Om (Ol (St.extract rfl rfl (Ol (St.extract rfl rfl (Ol (J3b C36 io26 rfl ?_))))));intro g49 w50 x51 y52 lt53 C54 s55 o56;have n59:=lt53 _ o31.blk.lt;replace h45:=h45.sp s55;replace o31:=o31.spn s55;refine Ol (J3b C54 io26 rfl ?_);intro g60 w61 x62 y63 lt64 C65 s66 o67;have n70:=lt64 _ o31.blk.lt;have n71:=lt64 _ o56.blk.lt;replace o31:=o31.spn s66;replace o56:=o56.spn s66;refine On (J3a (cs':=[(.bool (ofZ (a.toZ / b.toZ)).neg),(.slice a43 (ofZ (a.toZ / b.toZ)).mag.length c44)]) C65 o56 io26 rfl rfl rfl rfl rfl rfl ?_);intro w72 C73 s74 o75;replace h45:=(h45.sp s66).sp s74;replace o67:=o67.spo s74 (Ne.symm n71);refine On (J3a (cs':=[(.bool (ofZ (a.toZ % b.toZ)).neg),(.slice a46 (ofZ (a.toZ % b.toZ)).mag.length c47)]) C73 o67 io26 rfl rfl rfl rfl rfl rfl ?_);intro w76 C77 s78 o79;replace o31:=(o31.spo s74 n59).spo s78 n70;replace o75:=o75.spo s78 n71;refine Nl (Rg (Ol (J29 (vs:=[(.bool (ofZ (a.toZ / b.toZ)).neg),(.slice a43 (ofZ (a.toZ / b.toZ)).mag.length c44)]) o75 ag26 rfl rfl rfl (On (J3a (cs':=[(.bool (ofZ (a.toZ / b.toZ)).neg),(.slice a43 (ofZ (a.toZ / b.toZ)).mag.length c44)]) C77 o31 io26 rfl rfl rfl rfl rfl rfl ?_)))));intro w80 C81 s82 o83;replace h45:=(h45.sp s78).sp s82;refine Nl (W.ret (J7 rfl (resV.c o83 rfl ag26 rfl) (Ret.intro ?_ C81.below)));exact J3l (a:=(ofZ (a.toZ / b.toZ))) ((Jo h45).tr (Tr.weak C81.base)) rfl
end Go.Wf
