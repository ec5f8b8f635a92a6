/- Part 7 of the texts for the claim. -/
import Derived.Test.YtjiojpmoleilgaaGreatDoorForms6
set_option linter.unusedVariables false
set_option linter.unusedSimpArgs false
set_option maxRecDepth 100000
set_option maxHeartbeats 4000000
noncomputable section
namespace Go.Ev
open Go Go.Wf Go.RowKit
section
variable {fc:Fence} {P:Program} {call:CallF} {n:Nat}
def V3(fc:Fence)(P:Program)(n:Nat)(c:Code)(o:Fr→Hp→Out):Prop:=∀ f h,okO (o f h)→Gw h (hpO (o f h) h)∧
 ∀ (Φ:Phi) (τ:Tau) (F:Wf.Fr) (w:World) (D:List Deferred),FR Φ f F→Rel Φ τ h w→Fre Φ h.n (hpO (o f h) h).n→W fc P c n D (OutQ Φ τ h w (o f h)) F w
theorem Jmq[Fw fc](hc:CallS P call)(hn:n≤4096)(hm:P.follows .mixedOrders=true)(id:Nat)(ops:Array Oper)(draw:Bool):V3 fc P n (.region id ops draw) (zz P call n ops draw):=by
 intro f h e
 cases draw with
 | false=>
  rw [kw] at e ⊢;obtain⟨g,s⟩:=Jvd hc hn ops.toList f h e;exact⟨g,fun Φ τ F w D hF hR hFr=>W.region (s Φ τ F w _ hF hR hFr fun _ _ _ q=>q)⟩
 | true=>
  have ed:zz P call n ops true f h=Jlo P call n ops f h:=rfl;rw [ed] at e ⊢;unfold Jlo at e ⊢
  cases hb:Jpe P n ops (ancM ops.toList []) with
  | false=>rw [hb] at e;exact e.elim
  | true=>
   rw [hb] at e;simp only at e ⊢;obtain⟨S,s0,e1,hst⟩:=Ju2 _ _ _ _ _ e;rw [e1] at e ⊢;have hlen:0+ops.toList.length=ops.size:=by simp
   rw [hlen] at e ⊢;obtain⟨e2,hwin⟩:=Jtr _ e;rw [e2] at e ⊢;have K:=Juw hb;have run:h.n≤big5→Run P call n ops f h S:=fun hl=>⟨s0,fun k o ho=>by
    obtain⟨a,ha,hs⟩:=hst k o (by simpa using ho);have hkN:=(Array.getElem?_eq_some_iff.1 ho).1;rw [Jdo hkN] at ha
    cases ha
    rw [Nat.zero_add] at hs;exact hs,hc,hn,hl⟩
   have hone:∀ {q:Nat},q < ops.size→tb (Nat.sub (Nat.pow 2 ops.size) 1) q=true:=by
    intro q hq;rw [ju]
    have:=Nat.testBit_two_pow_sub_one ops.size q
    show(2 ^ ops.size - 1).testBit q=true
    rw [this];simpa using hq
   refine⟨fun hl=>?_,fun Φ τ F w D hF hR hFr=>?_⟩
   ·have R:=run hl;obtain⟨hhl,hlx,hlat,hlt,hln⟩:=R.hs ops.size (Nat.le_refl _);have hlims:=R.lims ops.size (Nat.le_refl _);refine⟨hlims.2,?_,fun _=>hlims.1⟩
    intro i h5 hid hnn;have hid:¬ (h.n≤i∧i < (S ops.size).h.n):=hid
    show get5 i (Z8 (S ops.size).qt _ (S ops.size).fl (S ops.size).h.t)=none
    rcases zr (a:=Nat.sub (Nat.pow 2 ops.size) 1) (fl:=(S ops.size).fl) (t:=(S ops.size).h.t) (id:=i) h5 (S ops.size).qt (fun e he=>(R.qt_id (Nat.le_refl _) e he).2.1) with ⟨q1,_⟩ | ⟨e',q1,q2,_⟩
    ·rw [q1,hlt];exact R.none2 ops.size (Nat.le_refl _) _ _ hlat i h5 hid hnn
    ·have q9:=R.qt_id (Nat.le_refl _) e' q1;exact absurd ⟨by omega,by omega⟩ hid
   ·have R:=run hR.lim;have hFr:Fre Φ h.n (S ops.size).h.n:=hFr;have hlims:=R.lims ops.size (Nat.le_refl _);refine J46 hm (fun L F' w'=>∃ Φ' τ',IvS P ops f h S Φ τ w.drew L F' w' Φ' τ') K.back ?_ ?_ ?_
    ·have hz:∀ i,(Array.replicate ops.size false).getD i false=false:=by
      intro i;simp [Array.getD_eq_getD_getElem?]
      by_cases hi:i < ops.size <;> simp [hi]
     have hcnt:cnt P ops (Array.replicate ops.size false)=0:=by
      unfold cnt
      apply List.countP_eq_zero.2
      intro i _;rw [hz];simp
     have hs0:(S ops.size).hs[0]? =some (h,0):=by
      have:=(R.hs_pre 0 ops.size (Nat.zero_le _) (Nat.le_refl _)).1 0 (h,0)
      exact this (by rw [R.s0];rfl)
     refine⟨Φ,τ,Tw.refl _ _ _ _ _,?_,?_,?_,?_,?_⟩
     ·intro i hi _ id h1 h2;have q1:=R.mono (i+1) ops.size (by omega) (Nat.le_refl _);have q2:=(R.lims i (by omega)).2;exact hFr id (by omega) (by omega)
     ·intro t _ j o _ _ hl;rw [hz] at hl;cases hl
     ·intro t ht _;exact hF t ht
     ·intro x hx;rw [hcnt,hs0] at hx;cases hx;exact hR.kept (Sub.refl _) fun g _=>⟨rfl,rfl⟩
     ·intro x _ e _ hl;rw [hz] at hl;cases hl
    ·intro L i o F' w' hs hcl ho hi hp ⟨Φ',τ',I⟩;have hiN:=(Array.getElem?_eq_some_iff.1 ho).1;have hi':L.getD i false=false:=by
      have:L[i]? =some L[i]:=by simp [hs,hiN]
      simp [Array.getD_eq_getD_getElem?,this] at hi ⊢;exact hi
     exact stepI R K hR.fin hwin I hs hcl ho hi' hp
    ·intro L F' w' hs hall ⟨Φ',τ',I⟩;have hall':∀ i,i < ops.size→L.getD i false=true:=by
      intro i hi
      have:=hall i hi
      have h9:L[i]? =some L[i]:=by simp [hs,hi]
      simp [Array.getD_eq_getD_getElem?,h9] at this ⊢;exact this
     have hcnt:cnt P ops L=mcn P ops ops.size:=by
      unfold cnt mcn
      apply List.countP_congr
      intro j hj;rw [hall' j (by simpa using hj)];simp
     obtain⟨hhl,hlx,hlat,hlt,hln⟩:=R.hs ops.size (Nat.le_refl _);refine⟨Φ',τ',?_,?_,?_⟩
     ·intro t ht
      by_cases hex:∃ (j:Nat) (o':Oper),ops[j]? =some o'∧o'.dst=some t
      ·obtain⟨j,o',hj,hd⟩:=hex;have hjN:=(Array.getElem?_eq_some_iff.1 hj).1;have e9:getF t (S ops.size).f=getF t (S (j+1)).f:=R.frames ht (j+1) ops.size (by omega) (Nat.le_refl _) fun k ok h2 h3 hk hd2=>by
        have:=K.uniq j k o' ok t hj hk hd hd2
        omega
       rw [e9];exact I.fw t ht j o' hj hd (hall' j hjN)
      ·have e9:getF t (S ops.size).f=getF t (S 0).f:=R.frames ht 0 ops.size (Nat.zero_le _) (Nat.le_refl _) fun k ok _ _ hk hd=>hex ⟨k,ok,hk,hd⟩;rw [e9,R.s0];exact I.f0 t ht fun j o' hj hd=>absurd ⟨j,o',hj,hd⟩ hex
     ·have hr:=I.rel _ (by rw [hcnt];exact hlat)
      have:=Jgd (a:=Nat.sub (Nat.pow 2 ops.size) 1) (fl:=(S ops.size).fl) hr hln hlims.1 (fun e he=>(R.qt_id (Nat.le_refl _) e he).1) (fun e he _ hf b hb=>I.qs _ (by rw [hcnt];exact hlat) e he (hall' _ (R.qt _ (Nat.le_refl _) e he).1) hf b hb)
      rw [← hlt] at this;exact this
     ·exact⟨I.tw.os,I.tw.tape,I.tw.output,I.tw.size,I.tw.sub,I.tw.same,I.tw.keep⟩
theorem sq_s{c d:Code}{x y:Fr→Hp→Out}(hx:V3 fc P n c x)(hy:V3 fc P n d y):V3 fc P n (.seq c d) (fun f h=>sq (x f h) y):=by
 intro f h e;have e:okO (sq (x f h) y):=e
 show Gw h (hpO (sq (x f h) y) h)∧_
 have hx:=hx f h
 revert e hx
 cases hq:x f h with
 | nx f1 h1=>
  intro e hx;obtain⟨g1,s1⟩:=hx trivial;have e:okO (y f1 h1):=e;obtain⟨g2,s2⟩:=hy f1 h1 e;have g1:Gw h h1:=g1;have eqq:sq (Out.nx f1 h1) y=y f1 h1:=rfl;simp only [hq,eqq];rw [Jkp e h h1];refine⟨g1.trans g2,fun Φ τ F w D hF hR hFr=>?_⟩
  have k1:=g1 hR.lim;have k2:=g2 (k1.lim hR.lim);refine W.seq ((s1 Φ τ F w D hF hR fun id a b=>hFr id a (Nat.lt_of_lt_of_le b k2.le)).mono ?_);intro ex F1 w1 q
  cases ex with
  | normal=>
   obtain⟨Φ1,τ1,hF1,hR1,t1⟩:=q
   refine(s2 Φ1 τ1 F1 w1 D hF1 hR1 fun id a b=>by rw [t1.same id (fun hh=>by have:id < h1.n:=hh.2;omega)];exact hFr id (Nat.le_trans k1.le a) b).mono ?_
   intro ex F2 w2 q2;exact q2.trans t1 k1 (k1.lim hR.lim) k2.le
  | _=>exact q.elim
 | ex i f1 h1=>
  intro e hx;obtain⟨g1,s1⟩:=hx trivial;have eqq:sq (Out.ex i f1 h1) y= .ex i f1 h1:=rfl;simp only [hq,eqq];refine⟨g1,fun Φ τ F w D hF hR hFr=>W.seq ((s1 Φ τ F w D hF hR hFr).mono ?_)⟩;intro ex F1 w1 q
  cases ex with
  | normal=>exact q.elim
  | exit j=>exact q
  | _=>exact q.elim
 | rt f1 h1=>
  intro e hx;obtain⟨g1,s1⟩:=hx trivial;have eqq:sq (Out.rt f1 h1) y= .rt f1 h1:=rfl;simp only [hq,eqq];refine⟨g1,fun Φ τ F w D hF hR hFr=>W.seq ((s1 Φ τ F w D hF hR hFr).mono ?_)⟩;intro ex F1 w1 q
  cases ex with
  | normal=>exact q.elim
  | ret=>exact q
  | _=>exact q.elim
 | pn v f1 h1=>
  intro e hx;obtain⟨g1,s1⟩:=hx trivial;have eqq:sq (Out.pn v f1 h1) y= .pn v f1 h1:=rfl;simp only [hq,eqq];refine⟨g1,fun Φ τ F w D hF hR hFr=>W.seq ((s1 Φ τ F w D hF hR hFr).mono ?_)⟩;intro ex F1 w1 q
  cases ex with
  | normal=>exact q.elim
  | panic ch=>exact q
  | _=>exact q.elim
 | no m=>intro e;exact e.elim
theorem Jy1{c d:Code}{x y:Fr→Hp→Out}(o:Operand)(hx:V3 fc P n c x)(hy:V3 fc P n d y):V3 fc P n (.cond o c d) (Jlh o x y):=by
 intro f h e;unfold Jlh at e ⊢
 split at e
 ·rename_i t ht
  cases t with
  | true=>
   obtain⟨g,s⟩:=hx f h e;refine⟨g,fun Φ τ F w D hF hR hFr=>?_⟩
   have:=Jf hF o
   rw [ht] at this;exact J2z this.bI (s Φ τ F w D hF hR hFr)
  | false=>
   obtain⟨g,s⟩:=hy f h e;refine⟨g,fun Φ τ F w D hF hR hFr=>?_⟩
   have:=Jf hF o
   rw [ht] at this;exact J21 this.bI (s Φ τ F w D hF hR hFr)
 ·exact e.elim
theorem blk_s{c:Code}{x:Fr→Hp→Out}(id:Nat)(hx:V3 fc P n c x):V3 fc P n (.block id c) (fun f h=>blkO id (x f h)):=by
 intro f h e;have e:okO (blkO id (x f h)):=e
 show Gw h (hpO (blkO id (x f h)) h)∧_
 have hx:=hx f h
 revert e hx
 cases hq:x f h with
 | nx f1 h1=>
  intro e hx;obtain⟨g1,s1⟩:=hx trivial;have eqq:blkO id (Out.nx f1 h1)= .nx f1 h1:=rfl;simp only [hq,eqq];refine⟨g1,fun Φ τ F w D hF hR hFr=>W.block ((s1 Φ τ F w D hF hR hFr).mono ?_)⟩;intro ex F1 w1 q
  cases ex with
  | normal=>exact q
  | _=>exact q.elim
 | ex i f1 h1=>
  intro e hx;obtain⟨g1,s1⟩:=hx trivial
  by_cases hi:i=id
  ·subst hi;have eqq:blkO i (Out.ex i f1 h1)= .nx f1 h1:=by
    show(Bool.rec (Out.ex i f1 h1) (Out.nx f1 h1) (Nat.beq i i):Out)=_
    rw [show Nat.beq i i=true from Nat.beq_refl i]
   simp only [hq,eqq];refine⟨g1,fun Φ τ F w D hF hR hFr=>W.block ((s1 Φ τ F w D hF hR hFr).mono ?_)⟩;intro ex F1 w1 q
   cases ex with
   | exit j=>
    obtain⟨rfl,q⟩:=q
    show(if i=i then _ else _)
    rw [if_pos rfl];exact q
   | _=>exact q.elim
  ·have eqq:blkO id (Out.ex i f1 h1)= .ex i f1 h1:=by
    show(Bool.rec (Out.ex i f1 h1) (Out.nx f1 h1) (Nat.beq i id):Out)=_
    rw [show Nat.beq i id=false by rw [zq];exact decide_eq_false hi]
   simp only [hq,eqq];refine⟨g1,fun Φ τ F w D hF hR hFr=>W.block ((s1 Φ τ F w D hF hR hFr).mono ?_)⟩;intro ex F1 w1 q
   cases ex with
   | exit j=>
    obtain⟨rfl,q⟩:=q
    show(if i=id then _ else _)
    rw [if_neg hi];exact⟨rfl,q⟩
   | _=>exact q.elim
 | rt f1 h1=>
  intro e hx;obtain⟨g1,s1⟩:=hx trivial;have eqq:blkO id (Out.rt f1 h1)= .rt f1 h1:=rfl;simp only [hq,eqq];refine⟨g1,fun Φ τ F w D hF hR hFr=>W.block ((s1 Φ τ F w D hF hR hFr).mono ?_)⟩;intro ex F1 w1 q
  cases ex with
  | ret=>exact q
  | _=>exact q.elim
 | pn v f1 h1=>
  intro e hx;obtain⟨g1,s1⟩:=hx trivial;have eqq:blkO id (Out.pn v f1 h1)= .pn v f1 h1:=rfl;simp only [hq,eqq];refine⟨g1,fun Φ τ F w D hF hR hFr=>W.block ((s1 Φ τ F w D hF hR hFr).mono ?_)⟩;intro ex F1 w1 q
  cases ex with
  | panic ch=>exact q
  | _=>exact q.elim
 | no m=>intro e;exact e.elim
end
end Go.Ev
namespace Go.Ev
open Go Go.Wf Go.RowKit
section
variable {fc:Fence} {P:Program} {call:CallF} {n:Nat}
theorem Jgz{c:Code}{x:Fr→Hp→Out}(hx:V3 fc P n c x):∀ (m:Nat) (f:Fr) (h:Hp),okO (iter m x f h)→Gw h (hpO (iter m x f h) h):=by
 intro m
 induction m with
 | zero=>intro f h e;exact e.elim
 | succ m ih=>
  intro f h e;have e0:iter (m+1) x f h=sq (x f h) (iter m x):=rfl;rw [e0] at e ⊢;have hx:=hx f h
  revert e hx
  cases hq:x f h with
  | nx f1 h1=>
   intro e hx;obtain⟨g1,_⟩:=hx trivial;have g1:Gw h h1:=g1;have e:okO (iter m x f1 h1):=e;have g2:=ih f1 h1 e;have eqq:sq (Out.nx f1 h1) (iter m x)=iter m x f1 h1:=rfl;rw [eqq];have hh:hpO (iter m x f1 h1) h=hpO (iter m x f1 h1) h1:=by cases hy1:iter m x f1 h1 <;> first | rfl | (rw [hy1] at e;exact e.elim)
   rw [hh];exact g1.trans g2
  | ex i f1 h1=>intro e hx;exact(hx trivial).1
  | rt f1 h1=>intro e hx;exact(hx trivial).1
  | pn v f1 h1=>intro e hx;exact(hx trivial).1
  | no q=>intro e;exact e.elim
theorem Jyo{c:Code}{x:Fr→Hp→Out}(hx:V3 fc P n c x)(m:Nat):V3 fc P n (.loop c) (iter m x):=by
 intro f h e;refine⟨Jgz hx m f h e,fun Φ τ F w D hF hR hFr=>?_⟩
 have hG:=Jgz hx m f h e hR.lim
 generalize hout:iter m x f h=out at e hFr hG
 refine J3g (fun k F' w'=>∃ f' h' Φ' τ',iter k x f' h'=out∧FR Φ' f' F'∧Rel Φ' τ' h' w'∧Tw Φ τ h w Φ' τ' h'.n w'∧Grow h h') m ⟨f,h,Φ,τ,hout,hF,hR,Tw.refl _ _ _ _ _,Grow.refl _⟩ ?_;rintro k F' w' ⟨f',h',Φ',τ',ho,hF',hR',tw,gr⟩;have hi:okO (iter k x f' h'):=by rw [ho];exact e
 cases k with
 | zero=>exact hi.elim
 | succ k=>
  have e0:iter (k+1) x f' h'=sq (x f' h') (iter k x):=rfl;rw [e0] at ho hi;have hgr:=Jgz hx (k+1) f' h' (by rw [e0];exact hi) hR'.lim;rw [e0,ho] at hgr;have hnn:(hpO out h').n=(hpO out h).n:=by cases out <;> first | rfl | exact e.elim
  have hFr':Fre Φ' h'.n (hpO out h).n:=fun id a b=>by
   rw [tw.same id (fun hh=>by have:=hh.2;omega)];exact hFr id (Nat.le_trans gr.le a) b
  have hx':=hx f' h'
  revert ho hi hx'
  cases hq:x f' h' with
  | nx f1 h1=>
   intro ho hi hx';obtain⟨g1,s1⟩:=hx' trivial;have ho:iter k x f1 h1=out:=ho;have k1:Grow h' h1:=g1 hR'.lim;have k2:=Jgz hx k f1 h1 (by rw [ho];exact e) (k1.lim hR'.lim);rw [ho] at k2;have hn1:(hpO out h1).n=(hpO out h).n:=by cases out <;> first | rfl | exact e.elim
   refine(s1 Φ' τ' F' w' D hF' hR' fun id a b=>hFr' id a (Nat.lt_of_lt_of_le b (by rw [← hn1];exact k2.le))).mono ?_
   intro ex F1 w1 q
   cases ex with
   | normal=>
    obtain⟨Φ1,τ1,a,b,c⟩:=q;exact⟨k,Nat.lt_succ_self k,f1,h1,Φ1,τ1,ho,a,b,tw.trans gr k1.le hR'.lim c,gr.trans k1⟩
   | _=>exact q.elim
  | ex i f1 h1=>
   intro ho hi hx';obtain⟨g1,s1⟩:=hx' trivial;have ho:Out.ex i f1 h1=out:=ho;subst ho;have k1:Grow h' h1:=g1 hR'.lim
   refine(s1 Φ' τ' F' w' D hF' hR' hFr').mono ?_
   intro ex F1 w1 q
   cases ex with
   | exit j=>
    obtain⟨rfl,Φ1,τ1,a,b,c⟩:=q;exact⟨rfl,Φ1,τ1,a,b,tw.trans gr k1.le hR'.lim c⟩
   | _=>exact q.elim
  | rt f1 h1=>
   intro ho hi hx';obtain⟨g1,s1⟩:=hx' trivial;have ho:Out.rt f1 h1=out:=ho;subst ho;have k1:Grow h' h1:=g1 hR'.lim
   refine(s1 Φ' τ' F' w' D hF' hR' hFr').mono ?_
   intro ex F1 w1 q
   cases ex with
   | ret=>
    obtain⟨Φ1,τ1,a,b,c⟩:=q;exact⟨Φ1,τ1,a,b,tw.trans gr k1.le hR'.lim c⟩
   | _=>exact q.elim
  | pn v f1 h1=>
   intro ho hi hx';obtain⟨g1,s1⟩:=hx' trivial;have ho:Out.pn v f1 h1=out:=ho;subst ho;have k1:Grow h' h1:=g1 hR'.lim
   refine(s1 Φ' τ' F' w' D hF' hR' hFr').mono ?_
   intro ex F1 w1 q
   cases ex with
   | panic ch=>
    obtain⟨z,Φ1,τ1,d1,d2,a,b,c⟩:=q;exact⟨z,Φ1,τ1,d1,d2,a,b,tw.trans gr k1.le hR'.lim c⟩
   | _=>exact q.elim
  | no q=>intro _ hi;exact hi.elim
theorem W.label{l:Nat}{D:List Deferred}{Q:Wf.Post}{F:Wf.Fr}{w:World}(h:Q .normal F w):W fc P (Code.label l) n D Q F w:=fun a ha hf=>wpIn_label ⟨ha,by rw [hf];exact h⟩
theorem Kl{b:Frame}{a:Act}{k:List Item}{cs:List Frame}{w:World}{c:Code}:step P (lone (b.atR a (.code (.scope c)::k)) cs w)= .next (lone (b.atR a (.code c:: .inScope c::k)) cs w):=
 step_lone_go (by simp [stepG,stepG.exec,Frame.atR])
theorem Ja4{b:Frame}{a:Act}{k:List Item}{cs:List Frame}{w:World}{c:Code}:step P (lone (b.atR a (.inScope c::k)) cs w)= .next (lone (b.atR a k) cs w):=
 step_lone_go (by simp [stepG,stepG.exec,Frame.atR])
theorem Jhl{Q:Exit→Act→World→Prop}{a:Act}{w:World}{c:Code}{m:Nat}(h:c.wpIn fc m P (Exit.noGoto Q) a w):(Code.scope c).wpIn fc m P Q a w:=by
 intro b k cs hro hb hr;have h0:(lone (b.atR a (.code (.scope c)::k)) cs w).fenced P fc:=fenced_calm hb hr rfl;obtain⟨e,a₁,w₁,hq,harr⟩:=h b (.inScope c::k) cs hro hb hr
 cases e with
 | normal=>exact⟨.normal,a₁,w₁,hq,.head h0 Kl (StepsIn.trans harr (.one (fenced_calm hb hr rfl) Ja4))⟩
 | exit id=>
  have hx:exitTo id (.inScope c::k)=exitTo id k:=by simp [exitTo]
  exact⟨_,a₁,w₁,hq,fun k' hk=> .head h0 Kl (harr.1 k' (by rw [hx];exact hk)),
   fun hr' hk=>let ⟨k₁,h1,h2⟩:=harr.2 hr' (by rw [hx];exact hk);⟨k₁,h1,.head h0 Kl h2⟩⟩
 | goto l=>exact hq.elim
 | ret=>exact⟨_,a₁,w₁,hq,.of_steps (.one h0 Kl) harr⟩
 | panic ch=>exact⟨_,a₁,w₁,hq,.of_steps (.one h0 Kl) harr⟩
 | outgrown=>exact⟨_,a₁,w₁,hq,.of_steps (.one h0 Kl) harr⟩
theorem Jux{c:Code}{x:Fr→Hp→Out}(hx:V3 fc P n c x):V3 fc P n (.scope c) x:=by
 intro f h e;obtain⟨g,s⟩:=hx f h e;refine⟨g,fun Φ τ F w D hF hR hFr a ha hf=>Jhl (wpIn_mono (s Φ τ F w D hF hR hFr a ha hf) ?_)⟩;rintro ex a' w' ⟨k1,k2⟩
 cases ex with
 | goto l=>cases hq:x f h <;> rw [hq] at k2 <;> exact k2.elim
 | _=>exact⟨k1,k2⟩
theorem Jft[Fw fc](hc:CallS P call)(hn:n≤4096)(hm:P.follows .mixedOrders=true)(c:Code):V3 fc P n c (Xi P call n c):=by
 induction c with
 | skip=>intro f h e;exact⟨Gw.refl _,fun Φ τ F w D hF hR _=>W.skip ⟨Φ,τ,hF,hR,Tw.refl _ _ _ _ _⟩⟩
 | region id ops draw=>exact Jmq hc hn hm id ops draw
 | seq a b iha ihb=>exact sq_s iha ihb
 | cond o a b iha ihb=>exact Jy1 o iha ihb
 | block id c ih=>exact blk_s id ih
 | loop c ih=>exact Jyo ih 1000000
 | exit id=>intro f h e;exact⟨Gw.refl _,fun Φ τ F w D hF hR _=>W.exit ⟨rfl,Φ,τ,hF,hR,Tw.refl _ _ _ _ _⟩⟩
 | ret=>intro f h e;exact⟨Gw.refl _,fun Φ τ F w D hF hR _=>W.ret ⟨Φ,τ,hF,hR,Tw.refl _ _ _ _ _⟩⟩
 | rangeFunc o ps a b _ _=>intro f h e;exact e.elim
 | scope c ih=>exact Jux ih
 | label l=>intro f h e;exact⟨Gw.refl _,fun Φ τ F w D hF hR _=>W.label ⟨Φ,τ,hF,hR,Tw.refl _ _ _ _ _⟩⟩
 | goto l=>intro f h e;exact e.elim
 | refuse why=>intro f h e;exact e.elim
theorem Jhz{Φ:Phi}{t:Nat}(ht:t < 4096):∀ (l:List AV) (i:Nat),i+l.length≤4096→getF t (Xe l i)=if i≤t then(l[t - i]?).getD .u else .u:=by
 intro l
 induction l with
 | nil=>
  intro i _
  have:getF t (Xe [] i)=AV.u:=Jdh t AV.u
  rw [this];simp
 | cons a l ih=>
  intro i hi;simp only [List.length_cons] at hi;have e0:getF t (Xe (a::l) i)=getF t (setF i a (Xe l (Nat.succ i))):=rfl;rw [e0,Xn _ _ _ _ ht (by omega),ih (i+1) (by omega)]
  rcases Nat.lt_trichotomy t i with h | h | h
  ·rw [if_neg (by omega),if_neg (by omega),if_neg (by omega)]
  ·subst h;rw [if_pos rfl,if_pos (Nat.le_refl _),Nat.sub_self];rfl
  ·rw [if_neg (by omega),if_pos (by omega),if_pos (by omega),show t - i=(t - (i+1))+1 by omega];rfl
theorem vf{Φ:Phi}{l:List AV}{vs:List Value}(h:RvL Φ l vs)(hl:l.length≤4096):FR Φ (Xe l 0) (qh vs):=by
 intro t ht;rw [Jhz (Φ:=Φ) ht l 0 (by omega),if_pos (Nat.zero_le _),Nat.sub_zero]
 cases hi:l[t]? with
 | none=>simp only [Option.getD_none,Rv]
 | some a=>
  obtain⟨v,hv,hr⟩:=h.at hi
  have:qh vs t=v:=by unfold qh;rw [List.getD_eq_getElem?_getD,hv];rfl
  rw [this];exact hr
theorem recRR{r:Res}{k:AV→Hp→Res}{v:AV}{h:Hp}{m:Nat}(e:(Res.rec k Res.no (fun _ _=> .no m) r:Res)= .ok v h):∃ y h',r= .ok y h'∧k y h'= .ok v h:=by
 cases r with
 | ok y h'=>exact⟨y,h',rfl,e⟩
 | no m=>cases e
 | pn v h=>cases e
theorem Jt4{ρ:Operand→Value}{t:TypeId}{a:Operand}{w:World}{K:Value→World→Prop}(h:St P ρ ⟨none,.load t a,0,"",#[],none⟩ w K KF):∃ u w',(Instr.loadAt t (ρ a)).run P w= .ok u w'∧K u w':=by
 unfold St at h
 cases hr:(Instr.loadAt t (ρ a)).run P w with
 | ok u w'=>
  have:(execOp ρ ⟨none,.load t a,0,"",#[],none⟩).run P w= .ok (.value u) w':=by simp [execOp,hr]
  rw [this] at h;exact⟨u,w',rfl,h⟩
 | halt q w'=>
  have:(execOp ρ ⟨none,.load t a,0,"",#[],none⟩).run P w= .halt q w':=by simp [execOp,hr]
  rw [this] at h
  cases q <;> exact h.elim
theorem Jxr{f:Fr}{h h':Hp}{r:ResultVar}{k:AV→Res}{v:AV}(e:resA P f h r k= .ok v h'):∃ a,k a= .ok v h'∧
  ∀ (Φ:Phi) (τ:Tau) (F:Wf.Fr) (w:World) (tmps:Array Value),FR Φ f F→Rel Φ τ h w→(∀ t,tmps.getD t undef=F t)→∃ x,Rv Φ a x∧(resM tmps r).run P w= .ok x w:=by
 unfold resA at e
 cases r with
 | tmp t=>
  refine⟨_,e,fun Φ τ F w tmps hF hR ht=>⟨F t,Jf hF (.tmp t),?_⟩⟩;unfold resM;simp only [Sem.run_pure,ht t]
 | cell p t=>
  obtain⟨a,h1,e1,e2⟩:=recRR e;have he:=e1;obtain⟨rfl,rd⟩:=Jgj e1;refine⟨a,e2,fun Φ τ F w tmps hF hR ht=>?_⟩
  obtain⟨u,w',hrun,rfl,hv⟩:=Jt4 (rd Φ τ F w none 0 "" #[] none hF hR);refine⟨u,hv,?_⟩;unfold resM;simp only [ht p];have hp:∃ ad,F p= .pointer (some ad):=by
   unfold Ql at he
   split at he
   ·rename_i id off hx
    have:=Jf hF (.tmp p)
    rw [hx] at this;obtain⟨en,_,hh⟩:=this.pI;exact⟨_,hh⟩
   ·rename_i g off hx
    have:=Jf hF (.tmp p)
    rw [hx] at this;simp only [Rv] at this;exact⟨_,this⟩
   ·cases he
  obtain⟨ad,had⟩:=hp;have hrun:(Instr.loadAt t (F p)).run P w'= .ok u w':=hrun;rw [had] at hrun ⊢;simpa [Instr.loadAt,Instr.sureAddr,asAddr] using hrun
theorem Jyd{f:Fr}{h h':Hp}{v:AV}:∀ (l:List ResultVar) (k:List AV→Res),resL P f h l k= .ok v h'→∃ as0:List AV,k as0= .ok v h'∧as0.length=l.length∧
  ∀ (Φ:Phi) (τ:Tau) (F:Wf.Fr) (w:World) (tmps:Array Value),FR Φ f F→Rel Φ τ h w→(∀ t,tmps.getD t undef=F t)→∃ xs,RvL Φ as0 xs∧(l.mapM (resM tmps)).run P w= .ok xs w:=by
 intro l
 induction l with
 | nil=>intro k e;exact⟨[],e,rfl,fun Φ τ F w tmps _ _ _=>⟨[],by simp only [RvL],by simp⟩⟩
 | cons r l ih=>
  intro k e;have e:resA P f h r (fun v=>resL P f h l fun vs=>k (v::vs))= .ok v h':=e;obtain⟨a,e1,s1⟩:=Jxr e;obtain⟨as0,e2,hl,s2⟩:=ih _ e1;refine⟨a::as0,e2,by simp [hl],fun Φ τ F w tmps hF hR ht=>?_⟩
  obtain⟨x,hx,r1⟩:=s1 Φ τ F w tmps hF hR ht;obtain⟨xs,hxs,r2⟩:=s2 Φ τ F w tmps hF hR ht;refine⟨x::xs,by simp only [RvL];exact⟨x,xs,rfl,hx,hxs⟩,?_⟩;simp [List.mapM_cons,r1,r2]
theorem Jz5{fn:Func}{f:Fr}{h h':Hp}{v:AV}(e:finR P f h fn.results.toList= .ok v h'):h'=h∧
  ∀ (Φ:Phi) (τ:Tau) (F:Wf.Fr) (w:World),FR Φ f F→Rel Φ τ h w→∃ x,Rv Φ v x∧∀ tmps:Array Value,(∀ t,tmps.getD t undef=F t)→(results fn tmps).run P w= .ok x w:=by
 unfold finR at e;obtain⟨as0,e1,hl,s⟩:=Jyd _ _ e;have hres:∀ (w:World) (tmps:Array Value) (xs:List Value),(fn.results.toList.mapM (resM tmps)).run P w= .ok xs w→(results fn tmps).run P w= .ok (if xs.length=1 then xs.getD 0 undef else .tuple xs.toArray) w:=by
  intro w tmps xs hr;have e9:fn.results=fn.results.toList.toArray:=by simp
  rw [K8,e9,List.mapM_toArray];simp only [Sem.run_bind,Sem.run_map,hr];simp
  cases xs with
  | nil=>rfl
  | cons x xs=>cases xs with
   | nil=>rfl
   | cons y ys=>rfl
 have det:∀ (Φ:Phi) (τ:Tau) (F:Wf.Fr) (w:World),FR Φ f F→Rel Φ τ h w→∃ xs,RvL Φ as0 xs∧∀ tmps:Array Value,(∀ t,tmps.getD t undef=F t)→(fn.results.toList.mapM (resM tmps)).run P w= .ok xs w:=by
  intro Φ τ F w hF hR
  by_cases hex:∃ tmps:Array Value,∀ t,tmps.getD t undef=F t
  ·obtain⟨t0,h0⟩:=hex;obtain⟨xs,h1,h2⟩:=s Φ τ F w t0 hF hR h0;refine⟨xs,h1,fun tmps ht=>?_⟩
   have:resM tmps=resM t0:=by
    funext r
    unfold resM
    cases r <;> simp only [ht,h0]
   rw [this];exact h2
  ·
   have hsome:∃ xs,RvL Φ as0 xs:=by
    obtain⟨xs,h1,_⟩:=s Φ τ (fun t=>(Array.ofFn (n:=4096) fun i=>F i).getD t undef) w (Array.ofFn (n:=4096) fun i=>F i) (fun t ht=>by
     have:(Array.ofFn (n:=4096) fun i=>F i).getD t undef=F t:=by simp [Array.getD_eq_getD_getElem?,ht]
     show Rv Φ (getF t f) ((Array.ofFn (n:=4096) fun i=>F i).getD t undef)
     rw [this];exact hF t ht) hR fun t=>rfl
    exact⟨xs,h1⟩
   obtain⟨xs,hxs⟩:=hsome;exact⟨xs,hxs,fun tmps ht=>absurd ⟨tmps,ht⟩ hex⟩
 cases as0 with
 | nil=>
  obtain⟨rfl,rfl⟩:=Jx e1;refine⟨rfl,fun Φ τ F w hF hR=>?_⟩
  obtain⟨xs,h1,h2⟩:=det Φ τ F w hF hR;have hx:xs=[]:=by simp only [RvL] at h1;exact h1
  subst hx;refine⟨.tuple #[],by simp only [Rv];exact⟨[],rfl,by simp only [RvL]⟩,fun tmps ht=>?_⟩
  have:=hres w tmps [] (h2 tmps ht)
  simpa using this
 | cons a r=>
  cases r with
  | nil=>
   obtain⟨rfl,rfl⟩:=Jx e1;refine⟨rfl,fun Φ τ F w hF hR=>?_⟩
   obtain⟨xs,h1,h2⟩:=det Φ τ F w hF hR;simp only [RvL] at h1;obtain⟨x,r,rfl,hx,rfl⟩:=h1;refine⟨x,hx,fun tmps ht=>?_⟩
   have:=hres w tmps _ (h2 tmps ht)
   simpa using this
  | cons b r=>
   obtain⟨rfl,rfl⟩:=Jx e1;refine⟨rfl,fun Φ τ F w hF hR=>?_⟩
   obtain⟨xs,h1,h2⟩:=det Φ τ F w hF hR;have hlen:=h1.len;refine⟨.tuple xs.toArray,by simp only [Rv];exact⟨xs,rfl,h1⟩,fun tmps ht=>?_⟩
   have:=hres w tmps _ (h2 tmps ht)
   rw [if_neg (by rw [hlen];simp)] at this;exact this
theorem Jyq{f:Fr}{h h':Hp}{r:ResultVar}{k:AV→Res}{v:AV}(hk:∀ a,k a≠ .pn v h'):resA P f h r k≠ .pn v h':=by
 intro e;unfold resA at e
 cases r with
 | tmp t=>exact hk _ e
 | cell p t=>
  simp only at e
  cases hq:Ql P t (.tmp p) f h with
  | ok a h1=>rw [hq] at e;exact hk _ e
  | no m=>rw [hq] at e;cases e
  | pn a h1=>rw [hq] at e;cases e
theorem Jwl{f:Fr}{h h':Hp}{v:AV}:∀ (l:List ResultVar) (k:List AV→Res),(∀ a,k a≠ .pn v h')→resL P f h l k≠ .pn v h':=by
 intro l
 induction l with
 | nil=>intro k hk;exact hk []
 | cons r l ih=>intro k hk;exact Jyq fun a=>ih _ fun as0=>hk (a::as0)
theorem Jx9{f:Fr}{h h':Hp}{v:AV}{l:List ResultVar}:finR P f h l≠ .pn v h':=by
 unfold finR;refine Jwl _ _ fun as0=>?_
 cases as0 with
 | nil=>intro e;cases e
 | cons a r=>cases r <;> intro e <;> cases e
theorem Jix{fn:Func}{f:Fr}{h:Hp}{r:Res}(e:finR P f h fn.results.toList=r)(hr:okR r):∃ v,r= .ok v h∧
  ∀ (Φ:Phi) (τ:Tau) (F:Wf.Fr) (w:World),FR Φ f F→Rel Φ τ h w→∃ x,Rv Φ v x∧∀ tmps:Array Value,(∀ t,tmps.getD t undef=F t)→(results fn tmps).run P w= .ok x w:=by
 cases r with
 | no m=>exact hr.elim
 | pn v h'=>exact absurd e Jx9
 | ok v h'=>
  obtain⟨rfl,s⟩:=Jz5 e;exact⟨v,rfl,s⟩
theorem Jyu(hc:CallS P call)(hm:P.follows .mixedOrders=true){fn:Func}(hn:fn.ntmps≤4096){c:Code}{f:Fr}{h:Hp}{r:Res}(e:Jg4 P call fn.ntmps c fn.results.toList f h=r)(hr:okR r):
  Gw h (hpR r h)∧∀ (Φ:Phi) (τ:Tau) (F:Wf.Fr) (w:World),FR Φ f F→Rel Φ τ h w→Fre Φ h.n (hpR r h).n→W Fence.wide P c fn.ntmps [] (retQ P fn (RetE Φ τ h w r)) F w:=by
 have hS:=Jft (fc:=Fence.wide) hc hn hm c f h;unfold Jg4 at e
 revert e hS
 cases hq:Xi P call fn.ntmps c f h with
 | nx f1 h1=>
  intro e hS;obtain⟨g,s⟩:=hS trivial;obtain⟨v,rfl,fr⟩:=Jix e hr;refine⟨g,fun Φ τ F w hF hR hFr=>(s Φ τ F w [] hF hR hFr).mono ?_⟩;intro ex F1 w1 q
  cases ex with
  | normal=>
   obtain⟨Φ1,τ1,a,b,t⟩:=q;obtain⟨x,hx,hrun⟩:=fr Φ1 τ1 F1 w1 a b;exact⟨x,hrun,v,h1,rfl,Φ1,τ1,hx,b,t⟩
  | _=>exact q.elim
 | rt f1 h1=>
  intro e hS;obtain⟨g,s⟩:=hS trivial;obtain⟨v,rfl,fr⟩:=Jix e hr;refine⟨g,fun Φ τ F w hF hR hFr=>(s Φ τ F w [] hF hR hFr).mono ?_⟩;intro ex F1 w1 q
  cases ex with
  | ret=>
   obtain⟨Φ1,τ1,a,b,t⟩:=q;obtain⟨x,hx,hrun⟩:=fr Φ1 τ1 F1 w1 a b;exact⟨x,hrun,v,h1,rfl,Φ1,τ1,hx,b,t⟩
  | _=>exact q.elim
 | pn v f1 h1=>
  intro e hS;obtain⟨g,s⟩:=hS trivial;have e:Res.pn v h1=r:=e;subst e;refine⟨g,fun Φ τ F w hF hR hFr=>(s Φ τ F w [] hF hR hFr).mono ?_⟩;intro ex F1 w1 q
  cases ex with
  | panic ch=>
   obtain⟨x,Φ1,τ1,d1,d2,a,b,t⟩:=q;exact⟨v,h1,rfl,x,Φ1,τ1,d1,d2,b,t⟩
  | _=>exact q.elim
 | ex i f1 h1=>intro e;have e:Res.no 53=r:=e;subst e;exact hr.elim
 | no m=>intro e;have e:Res.no m=r:=e;subst e;exact hr.elim
theorem Jpg{c:Code}{t u:Tmp}{b:Code}(h:Jml c=some (t,u,b)):∃ (id:Nat) (ts:Array TypeId) (y1 y2:TypeId) (p1 p2:String) (a1 a2:Array Edge),
  c= .seq (.region id #[⟨some t,.call ⟨.builtin .recover,#[],ts⟩,y1,p1,a1,none⟩,⟨some u,.assign (.tmp t),y2,p2,a2,none⟩] false) b:=by
 unfold Jml at h
 split at h
 ·rename_i id ops b'
  split at h
  ·rename_i t' args ts y1 p1 a1 u' v' y2 p2 a2 hops
   split at h
   ·rename_i hargs
    cases hb:Nat.beq t' v' with
    | false=>rw [hb] at h;cases h
    | true=>
     rw [hb] at h
     have:=Nat.eq_of_beq_eq_true hb
     subst this;simp only [cond_true,Option.some.injEq,Prod.mk.injEq] at h;obtain⟨rfl,rfl,rfl⟩:=h;have ha:args= #[]:=by apply Array.ext';rw [hargs]
     subst ha;have ho:ops= #[⟨some t',.call ⟨.builtin .recover,#[],ts⟩,y1,p1,a1,none⟩,⟨some u',.assign (.tmp t'),y2,p2,a2,none⟩]:=by apply Array.ext';rw [hops]
     subst ho;exact⟨id,ts,y1,y2,p1,p2,a1,a2,rfl⟩
   ·cases h
  ·cases h
 ·cases h
theorem Jnp{c a b:Code}{t:Tmp}{k:FuncId}{caps:List Operand}(h:Jl9 c=some (a,t,k,caps,b)):∃ (id:Nat) (ts:Array TypeId) (cp:Array Operand) (y1 y2:TypeId) (p1 p2:String) (a1 a2:Array Edge),cp.toList=caps∧
  c= .seq a (.seq (.region id #[⟨some t,.makeFunc (.func k) #[] cp,y1,p1,a1,none⟩,⟨none,.defer ⟨.value (.tmp t),#[],ts⟩,y2,p2,a2,none⟩] false) b):=by
 unfold Jl9 at h
 split at h
 ·rename_i a' id ops b'
  split at h
  ·rename_i t' k' first cp y1 p1 a1 u' args ts y2 p2 a2 hops
   split at h
   ·rename_i hf hargs
    cases hb:Nat.beq t' u' with
    | false=>rw [hb] at h;cases h
    | true=>
     rw [hb] at h
     have:=Nat.eq_of_beq_eq_true hb
     subst this;simp only [cond_true,Option.some.injEq,Prod.mk.injEq] at h;obtain⟨rfl,rfl,rfl,rfl,rfl⟩:=h;have ha:args= #[]:=by apply Array.ext';rw [hargs]
     subst ha;have hf:first= #[]:=by apply Array.ext';rw [hf]
     subst hf;have ho:ops= #[⟨some t',.makeFunc (.func k') #[] cp,y1,p1,a1,none⟩,⟨none,.defer ⟨.value (.tmp t'),#[],ts⟩,y2,p2,a2,none⟩]:=by apply Array.ext';rw [hops]
     subst ho;exact⟨id,ts,cp,y1,y2,p1,p2,a1,a2,rfl,rfl⟩
   ·cases h
  ·cases h
 ·cases h
theorem Jxo{n:Nat}{vs:List Value}(hl:vs.length≤n):Wf.Good n [] {tmps:=vs.toArray++Array.replicate (n - vs.toArray.size) undef,defers:=[]}∧frOf {tmps:=vs.toArray++Array.replicate (n - vs.toArray.size) undef,defers:=[]}=qh vs:=by
 refine⟨⟨by simp;omega,rfl⟩,?_⟩
 funext t
 simp only [frOf,qh,Array.getD_eq_getD_getElem?,List.getD_eq_getElem?_getD,Array.getElem?_append]
 by_cases ht:t < vs.length
 ·simp [ht]
 ·simp only [List.size_toArray,ht,if_false];rw [List.getElem?_eq_none (by omega)];simp only [Array.getElem?_replicate]
  split <;> rfl
def Mode(Φ:Phi)(p:AV)(u:FrameMode):Prop:=(p= .nif∧u= .returning)∨∃ x,u= .panicking [{v:=x,recovered:=false}]∧Rv Φ p x
theorem def_s(hc:CallS P call)(hm:P.follows .mixedOrders=true){k:FuncId}{args:List AV}{p:AV}{h:Hp}{q:Hp→Res}{r:Res}(e:Jik P call k args p h q=r)(hr:okR r):
  ∃ fn c h2,P.funcs[k]? =some fn∧(fn.name == "runtime.NumGoroutine")=false∧fn.body=some c∧q h2=r∧Gw h h2∧
  ∀ (Φ:Phi) (τ:Tau) (w:World) (vs:List Value) (u:FrameMode),Mode Φ p u→Rel Φ τ h w→Fre Φ h.n h2.n→RvL Φ args vs→
   CallsD P k vs.toArray u w fun en u' w'=>(∃ y,en= .returned y)∧settle u'= .returning∧∃ Φ' τ',Rel Φ' τ' h2 w'∧Tw Φ τ h w Φ' τ' h2.n w':=by
 unfold Jik at e
 split at e
 ·subst e;exact hr.elim
 ·rename_i fn hf
  split at e
  ·subst e;exact hr.elim
  ·rename_i c hb
   split at e
   ·subst e;exact hr.elim
   ·rename_i s hs
    obtain⟨t,u0,b⟩:=s;rw [zs] at e
    split at e
    ·rename_i hcd
     obtain⟨hcd,h6⟩:=Zs hcd;obtain⟨hcd,h5⟩:=Zs hcd;obtain⟨hcd,h4⟩:=Zs hcd;obtain⟨hcd,h3⟩:=Zs hcd;obtain⟨h1,h2⟩:=Zs hcd;have h1:=Nat.le_of_ble_eq_true h1;have h2:=Nat.le_of_ble_eq_true h2;have h3:t < fn.ntmps:=Yj h3;have h4:u0 < fn.ntmps:=Yj h4;have h6:=Jht h6;rw [Qd] at h2;have hres:fn.results= #[]:=by
      unfold nilB at h5
      split at h5
      ·rename_i hh;apply Array.ext';rw [hh]
      ·cases h5
     obtain⟨id,ts,y1,y2,p1,p2,a1,a2,rfl⟩:=Jpg hs;have hS:=Jft (fc:=Fence.wide) hc h1 hm b (setF u0 p (setF t p (Xe args 0))) h;have fin:∀ {f2:Fr} {h2':Hp},(Xi P call fn.ntmps b (setF u0 p (setF t p (Xe args 0))) h= .nx f2 h2'∨Xi P call fn.ntmps b (setF u0 p (setF t p (Xe args 0))) h= .rt f2 h2')→q h2'=r→
       ∃ fn' c' h2,P.funcs[k]? =some fn'∧(fn'.name == "runtime.NumGoroutine")=false∧fn'.body=some c'∧q h2=r∧Gw h h2∧
       ∀ (Φ:Phi) (τ:Tau) (w:World) (vs:List Value) (u:FrameMode),Mode Φ p u→Rel Φ τ h w→Fre Φ h.n h2.n→RvL Φ args vs→
        CallsD P k vs.toArray u w fun en u' w'=>(∃ y,en= .returned y)∧settle u'= .returning∧∃ Φ' τ',Rel Φ' τ' h2 w'∧Tw Φ τ h w Φ' τ' h2.n w':=by
      intro f2 h2' ho hq;obtain⟨g,sS⟩:=hS (by rcases ho with ho | ho <;> rw [ho] <;> trivial);have hh:hpO (Xi P call fn.ntmps b (setF u0 p (setF t p (Xe args 0))) h) h=h2':=by rcases ho with ho | ho <;> rw [ho] <;> rfl
      rw [hh] at g sS;refine⟨fn,_,h2',hf,h6,hb,hq,g,fun Φ τ w vs u hu hR hFr hv=>?_⟩
      refine callsD_of_wpS hf hb fun c₀ cs hc0=>?_
      obtain⟨hgood,hfr⟩:=Jxo (n:=fn.ntmps) (vs:=vs) (by rw [hv.len];exact h2);obtain⟨x,c1,hx,hset,hrec⟩:∃ (x:Value) (c1:FrameMode),Rv Φ p x∧settle c1= .returning∧((recoverD (c₀::cs)=some (x,{c₀ with mode:=c1}::cs))∨(recoverD (c₀::cs)=none∧x= .nilIface∧c₀::cs={c₀ with mode:=c1}::cs)):=by
       rcases hu with ⟨rfl,rfl⟩ | ⟨x,rfl,hx⟩
       ·refine⟨.nilIface,.returning,by simp only [Rv],rfl,.inr ⟨?_,rfl,?_⟩⟩
        ·simp [recoverD,hc0]
        ·rw [← hc0]
       ·exact⟨x,.panicking [{v:=x,recovered:=true}],hx,rfl,.inl (by simp [recoverD,hc0])⟩
      refine wpS_seq (wpS_region ?_);have hrange:List.range (#[(⟨some t,.call ⟨.builtin .recover,#[],ts⟩,y1,p1,a1,none⟩:Oper),⟨some u0,.assign (.tmp t),y2,p2,a2,none⟩]).size=[0,1]:=rfl;rw [hrange];have hend:∀ (act:Act),Wf.Good fn.ntmps [] act→frOf act=upd (upd (qh vs) t x) u0 x→b.wpS P (bodyPostS P fn c₀ cs fun en u' w'=>(∃ y,en= .returned y)∧settle u'= .returning∧∃ Φ' τ',Rel Φ' τ' h2' w'∧Tw Φ τ h w Φ' τ' h2'.n w') act ({c₀ with mode:=c1}::cs) w:=by
       intro act hact hfa;have hFR:FR Φ (setF u0 p (setF t p (Xe args 0))) (upd (upd (qh vs) t x) u0 x):=((vf hv (by omega)).set (Nat.lt_of_lt_of_le h3 h1) hx).set (Nat.lt_of_lt_of_le h4 h1) hx;have hW:=(sS Φ τ _ w [] hFR hR hFr).wide hact hfa;refine wpS_of_wp (wp_mono hW ?_);rintro ex act' w' ⟨ga,qa⟩;have done:∀ {Φ':Phi} {τ':Tau},Rel Φ' τ' h2' w'→Tw Φ τ h w Φ' τ' h2'.n w'→act'.defers=[]∧∃ u',({c₀ with mode:=c1}::cs:List Frame)={c₀ with mode:=u'}::cs∧∃ v,(results fn act'.tmps).run P w'= .ok v w'∧((∃ y,Ending.returned v= .returned y)∧settle u'= .returning∧∃ Φ' τ',Rel Φ' τ' h2' w'∧Tw Φ τ h w Φ' τ' h2'.n w'):=by
        intro Φ' τ' k1 k2;refine⟨ga.defers,c1,rfl,.tuple #[],?_,⟨_,rfl⟩,hset,Φ',τ',k1,k2⟩;rw [K8,hres];simp
       rcases ho with ho | ho <;> rw [ho] at qa
       ·cases ex with
        | normal=>obtain⟨Φ',τ',_,k1,k2⟩:=qa;exact done k1 k2
        | _=>exact qa.elim
       ·cases ex with
        | ret=>obtain⟨Φ',τ',_,k1,k2⟩:=qa;exact done k1 k2
        | _=>exact qa.elim
      have hput:∀ (act:Act),Wf.Good fn.ntmps [] act→frOf act=qh vs→Wf.Good fn.ntmps [] ((act.put (some t) x).put (some u0) x)∧frOf ((act.put (some t) x).put (some u0) x)=upd (upd (qh vs) t x) u0 x:=by
       intro act hact hfa;refine⟨(hact.put _ _).put _ _,?_⟩;rw [Yq (hact.put _ _) (some u0) (show lo fn.ntmps (some u0) from h4),Yq hact (some t) (show lo fn.ntmps (some t) from h3),hfa];rfl
      have hev:∀ (act:Act),Wf.Good fn.ntmps [] act→(act.put (some t) x).eval (.tmp t)=x:=by
       intro act hact;rw [qw,Yq hact (some t) (show lo fn.ntmps (some t) from h3)]
       show upd (frOf act) t x t=x
       simp [upd]
      obtain⟨k1,k2⟩:=hput _ hgood hfr;have k3:=hev _ hgood;have h0:(execOp (Act.eval {tmps:=vs.toArray++Array.replicate (fn.ntmps - vs.toArray.size) undef,defers:=[]}) ⟨some t,.call ⟨.builtin .recover,#[],ts⟩,y1,p1,a1,none⟩).run P w= .ok .recover w:=by
       simp [execOp,resolve,invoke,builtin]
      have hop0:(#[(⟨some t,.call ⟨.builtin .recover,#[],ts⟩,y1,p1,a1,none⟩:Oper),⟨some u0,.assign (.tmp t),y2,p2,a2,none⟩])[0]? =some ⟨some t,.call ⟨.builtin .recover,#[],ts⟩,y1,p1,a1,none⟩:=rfl;have hop1:(#[(⟨some t,.call ⟨.builtin .recover,#[],ts⟩,y1,p1,a1,none⟩:Oper),⟨some u0,.assign (.tmp t),y2,p2,a2,none⟩])[1]? =some ⟨some u0,.assign (.tmp t),y2,p2,a2,none⟩:=rfl;have hw0:∀ (z:Nat→Option Bool),Region.wanted (⟨some t,.call ⟨.builtin .recover,#[],ts⟩,y1,p1,a1,none⟩:Oper) z=true:=fun z=>rfl
      have hw1:∀ (z:Nat→Option Bool),Region.wanted (⟨some u0,.assign (.tmp t),y2,p2,a2,none⟩:Oper) z=true:=fun z=>rfl
      have second:∀ cs',cs'={c₀ with mode:=c1}::cs→wpOpsS P #[(⟨some t,.call ⟨.builtin .recover,#[],ts⟩,y1,p1,a1,none⟩:Oper),⟨some u0,.assign (.tmp t),y2,p2,a2,none⟩] (Exit.thenS (b.wpS P (bodyPostS P fn c₀ cs fun en u' w'=>(∃ y,en= .returned y)∧settle u'= .returning∧∃ Φ' τ',Rel Φ' τ' h2' w'∧Tw Φ τ h w Φ' τ' h2'.n w')) (bodyPostS P fn c₀ cs fun en u' w'=>(∃ y,en= .returned y)∧settle u'= .returning∧∃ Φ' τ',Rel Φ' τ' h2' w'∧Tw Φ τ h w Φ' τ' h2'.n w')) [1] (Act.put {tmps:=vs.toArray++Array.replicate (fn.ntmps - vs.toArray.size) undef,defers:=[]} (some t) x) cs' w:=by
       rintro cs' rfl;simp only [wpOpsS,hop1,hw1,if_true];have h1':(execOp (Act.put {tmps:=vs.toArray++Array.replicate (fn.ntmps - vs.toArray.size) undef,defers:=[]} (some t) x).eval ⟨some u0,.assign (.tmp t),y2,p2,a2,none⟩).run P w= .ok (.value x) w:=by
        simp only [execOp,k3,Sem.run_pure]
       rw [h1'];exact hend _ k1 k2
      unfold wpOpsS;simp only [hop0,hw0,if_true,h0]
      rcases hrec with hrec | ⟨hrec,rfl,hcs⟩
      ·rw [hrec];exact second _ rfl
      ·rw [hrec];exact second _ hcs
     revert e
     cases ho:Xi P call fn.ntmps b (setF u0 p (setF t p (Xe args 0))) h with
     | nx f2 h2'=>intro e;exact fin (.inl ho) e
     | rt f2 h2'=>intro e;exact fin (.inr ho) e
     | ex i f2 h2'=>intro e;have e:Res.no 55=r:=e;subst e;exact hr.elim
     | pn v f2 h2'=>intro e;have e:Res.no 55=r:=e;subst e;exact hr.elim
     | no m=>intro e;have e:Res.no m=r:=e;subst e;exact hr.elim
    ·subst e;exact hr.elim
theorem Jb0{fn:Func}{c:Code}{k:FuncId}{cs:Array Value}{w:World}(hf:P.funcs[k]? =some fn)(hname:(fn.name == "runtime.NumGoroutine")=false)(hb:fn.body=some c):(invoke (.fn (.func k) cs) #[]).run P w= .ok (.enter k cs) w:=by
 have h1:fn.name≠ "runtime.NumGoroutine" :=by simpa using hname
 simp [invoke,callFunc,hf,h1,hb]
theorem Jt5 (hc:CallS P call) (hm:P.follows .mixedOrders=true) {fn:Func} (hn:fn.ntmps≤4096) {t:Tmp} {k:FuncId} {caps:List Operand} {b:Code} {f:Fr} {h:Hp} {r:Res} (e:Ja7 P call fn.ntmps t k caps b fn.results.toList f h=r) (hr:okR r)
  {id:Nat} {ts:Array TypeId} {cp:Array Operand} {y1 y2:TypeId} {p1 p2:String} {a1 a2:Array Edge} (hcp:cp.toList=caps):
  Gw h (hpR r h)∧∀ (Φ:Phi) (τ:Tau) (a:Act) (w:World),Wf.Good fn.ntmps [] a→FR Φ f (frOf a)→Rel Φ τ h w→Fre Φ h.n (hpR r h).n→
   (Code.seq (.region id #[⟨some t,.makeFunc (.func k) #[] cp,y1,p1,a1,none⟩,⟨none,.defer ⟨.value (.tmp t),#[],ts⟩,y2,p2,a2,none⟩] false) b).wp P (bodyPostD P fn (RetE Φ τ h w r)) a w:=by
 subst hcp;unfold Ja7 at e;rw [zs] at e
 split at e
 ·rename_i htn
  have htn:t < fn.ntmps:=Yj htn;have hS:=Jft (fc:=Fence.wide) hc hn hm b (setF t (.fn k (opds f cp.toList)) f) h;have main:∀ {out:Out} {p:AV} {f1:Fr} {h1:Hp},Xi P call fn.ntmps b (setF t (.fn k (opds f cp.toList)) f) h=out→okO out→hpO out h=h1→Jik P call k (opds f cp.toList) p h1 (fun h=>finR P f1 h fn.results.toList)=r→
    (∀ (Φ:Phi) (τ:Tau) (h:Hp) (w:World) (ex:Exit) (F1:Wf.Fr) (w1:World),OutQ Φ τ h w out ex F1 w1→∃ u Φ1 τ1,((ex= .normal∧u= .returning)∨(ex= .ret∧u= .returning)∨∃ ch,ex= .panic ch∧u= .panicking ch)∧Mode Φ1 p u∧FR Φ1 f1 F1∧Rel Φ1 τ1 h1 w1∧Tw Φ τ h w Φ1 τ1 h1.n w1)→
    Gw h (hpR r h)∧∀ (Φ:Phi) (τ:Tau) (a:Act) (w:World),Wf.Good fn.ntmps [] a→FR Φ f (frOf a)→Rel Φ τ h w→Fre Φ h.n (hpR r h).n→
     (Code.seq (.region id #[⟨some t,.makeFunc (.func k) #[] cp,y1,p1,a1,none⟩,⟨none,.defer ⟨.value (.tmp t),#[],ts⟩,y2,p2,a2,none⟩] false) b).wp P (bodyPostD P fn (RetE Φ τ h w r)) a w:=by
   intro out p f1 h1 ho hok hh1 he hout;obtain⟨g1,s1⟩:=hS (by rw [ho];exact hok);rw [ho,hh1] at g1 s1;obtain⟨fn',c',h2,hf',hname',hb',hq,g2,s2⟩:=def_s hc hm he hr;obtain⟨v,rfl,fr⟩:=Jix hq hr;refine⟨g1.trans g2,fun Φ τ a w ha hF hR hFr=>?_⟩
   have k1:Grow h h1:=g1 hR.lim;have k2:Grow h1 h2:=g2 (k1.lim hR.lim);have hFr:Fre Φ h.n h2.n:=hFr;have hcaps:=K7 hF cp.toList
   generalize hcv:(cp.toList.map (fe (frOf a)))=cvs at hcaps
   have hce:cp.map a.eval=cvs.toArray:=by apply Array.ext';rw [qw,← hcv];simp
   refine wp_seq (wp_region ?_);have hrange:List.range (#[(⟨some t,.makeFunc (.func k) #[] cp,y1,p1,a1,none⟩:Oper),⟨none,.defer ⟨.value (.tmp t),#[],ts⟩,y2,p2,a2,none⟩]).size=[0,1]:=rfl;rw [hrange];have hop0:(#[(⟨some t,.makeFunc (.func k) #[] cp,y1,p1,a1,none⟩:Oper),⟨none,.defer ⟨.value (.tmp t),#[],ts⟩,y2,p2,a2,none⟩])[0]? =some ⟨some t,.makeFunc (.func k) #[] cp,y1,p1,a1,none⟩:=rfl;have hop1:(#[(⟨some t,.makeFunc (.func k) #[] cp,y1,p1,a1,none⟩:Oper),⟨none,.defer ⟨.value (.tmp t),#[],ts⟩,y2,p2,a2,none⟩])[1]? =some ⟨none,.defer ⟨.value (.tmp t),#[],ts⟩,y2,p2,a2,none⟩:=rfl;have hw0:∀ (z:Nat→Option Bool),Region.wanted (⟨some t,.makeFunc (.func k) #[] cp,y1,p1,a1,none⟩:Oper) z=true:=fun z=>rfl
   have hw1:∀ (z:Nat→Option Bool),Region.wanted (⟨none,.defer ⟨.value (.tmp t),#[],ts⟩,y2,p2,a2,none⟩:Oper) z=true:=fun z=>rfl
   simp only [wpOps,hop0,hop1,hw0,hw1,if_true]
   left
   unfold Oper.wp;have r0:(execOp a.eval ⟨some t,.makeFunc (.func k) #[] cp,y1,p1,a1,none⟩).run P w= .ok (.value (.func (.func k) #[] cvs.toArray)) w:=by
    simp [execOp,Instr.makeFunc,hce]
   rw [r0]
   show(_:Prop)∨_
   left
   have hev:(a.put (some t) (.func (.func k) #[] cvs.toArray)).eval (.tmp t)= .func (.func k) #[] cvs.toArray:=by
    rw [qw,Yq ha (some t) (show lo fn.ntmps (some t) from htn)]
    show upd (frOf a) t _ t=_
    simp [upd]
   have r1:(execOp (a.put (some t) (.func (.func k) #[] cvs.toArray)).eval ⟨none,.defer ⟨.value (.tmp t),#[],ts⟩,y2,p2,a2,none⟩).run P w= .ok (.defer ⟨.fn (.func k) cvs.toArray,#[]⟩) w:=by
    simp [execOp,resolve,Deferred.ofValue,hev]
   rw [r1]
   show(b.wp P _ _ w)
   have ga:Wf.Good fn.ntmps [⟨.fn (.func k) cvs.toArray,#[]⟩] (({(a.put (some t) (.func (.func k) #[] cvs.toArray)) with defers:=(⟨.fn (.func k) cvs.toArray,#[]⟩:Deferred)::(a.put (some t) (.func (.func k) #[] cvs.toArray)).defers}:Act).put none undef):=by
    have:=ha.put (some t) (.func (.func k) #[] cvs.toArray)
    exact⟨this.size,by show _::(a.put (some t) _).defers=_;rw [this.defers]⟩
   have gf:frOf (({(a.put (some t) (.func (.func k) #[] cvs.toArray)) with defers:=(⟨.fn (.func k) cvs.toArray,#[]⟩:Deferred)::(a.put (some t) (.func (.func k) #[] cvs.toArray)).defers}:Act).put none undef)=upd (frOf a) t (.func (.func k) #[] cvs.toArray):=by
    have:=Yq ha (some t) (show lo fn.ntmps (some t) from htn) (.func (.func k) #[] cvs.toArray)
    exact this
   have hF1:FR Φ (setF t (.fn k (opds f cp.toList)) f) (upd (frOf a) t (.func (.func k) #[] cvs.toArray)):=hF.set (Nat.lt_of_lt_of_le htn hn) (by simp only [Rv];exact⟨cvs,rfl,hcaps⟩);refine wp_mono ((s1 Φ τ _ w [⟨.fn (.func k) cvs.toArray,#[]⟩] hF1 hR (fun id x1 x2=>hFr id x1 (Nat.lt_of_lt_of_le x2 k2.le))).wide ga gf) ?_;rintro ex a' w1 ⟨gg,qq⟩;obtain⟨u,Φ1,τ1,hex,hmode,hFR1,hR1,t1⟩:=hout Φ τ h w ex (frOf a') w1 qq;have hune:u≠ .run:=by
    rcases hmode with ⟨_,rfl⟩ | ⟨x,rfl,_⟩ <;> intro hq <;> cases hq
   have leaves:Leaves P fn a'.tmps (RetE Φ τ h w (.ok v h2)) a'.defers u w1:=by
    rw [gg.defers];refine leaves_cons hune (Jb0 hf' hname' hb') ((s2 Φ1 τ1 w1 cvs u hmode hR1 ?_ (RvL.mono t1.sub _ _ hcaps)).mono ?_)
    ·intro id x1 x2;rw [t1.same id (fun hh=>by have:id < h1.n:=hh.2;omega)];exact hFr id (Nat.le_trans k1.le x1) x2
    ·rintro en u' w2 ⟨⟨y,rfl⟩,hset,Φ2,τ2,hR2,t2⟩
     show Leaves P fn a'.tmps _ [] (settle u') w2
     rw [hset];obtain⟨x,hx,hrun⟩:=fr Φ2 τ2 (frOf a') w2 (hFR1.mono t2.sub) hR2;exact⟨x,hrun a'.tmps (fun _=>rfl),v,h2,rfl,Φ2,τ2,hx,hR2,t1.trans k1 k2.le (k1.lim hR.lim) t2⟩
   rcases hex with ⟨rfl,rfl⟩ | ⟨rfl,rfl⟩ | ⟨ch,rfl,rfl⟩
   ·exact leaves
   ·exact leaves
   ·exact leaves
  cases ho:Xi P call fn.ntmps b (setF t (.fn k (opds f cp.toList)) f) h with
  | nx f1 h1=>
   rw [ho] at e;refine main (p:= .nif) (f1:=f1) ho trivial rfl e ?_;intro Φ τ h w ex F1 w1 q
   cases ex with
   | normal=>obtain⟨Φ1,τ1,x1,x2,x3⟩:=q;exact⟨.returning,Φ1,τ1,.inl ⟨rfl,rfl⟩,.inl ⟨rfl,rfl⟩,x1,x2,x3⟩
   | _=>exact q.elim
  | rt f1 h1=>
   rw [ho] at e;refine main (p:= .nif) (f1:=f1) ho trivial rfl e ?_;intro Φ τ h w ex F1 w1 q
   cases ex with
   | ret=>obtain⟨Φ1,τ1,x1,x2,x3⟩:=q;exact⟨.returning,Φ1,τ1,.inr (.inl ⟨rfl,rfl⟩),.inl ⟨rfl,rfl⟩,x1,x2,x3⟩
   | _=>exact q.elim
  | pn v f1 h1=>
   rw [ho] at e;refine main (p:=v) (f1:=f1) ho trivial rfl e ?_;intro Φ τ h w ex F1 w1 q
   cases ex with
   | panic ch=>obtain⟨x,Φ1,τ1,rfl,d2,x1,x2,x3⟩:=q;exact⟨_,Φ1,τ1,.inr (.inr ⟨_,rfl,rfl⟩),.inr ⟨x,rfl,d2⟩,x1,x2,x3⟩
   | _=>exact q.elim
  | ex i f1 h1=>rw [ho] at e;have e:Res.no 53=r:=e;subst e;exact hr.elim
  | no m=>rw [ho] at e;have e:Res.no m=r:=e;subst e;exact hr.elim
 ·subst e;exact hr.elim
theorem LR.turn {Φ:Phi} {τ:Tau} {h:Hp} {w:World} {id:Nat} {b:Blk} {en:Ent} {l:Loop} (hR:Rel Φ τ h w) (hid:id < h.n) (hb:get5 id h.t=some b) (L:LR Φ τ w b en id l) {busy busy':Bool} {n:Nat} {ps:List Tmp} {a bb:Code} {f:TF AV}
  (hob:b.ob= .lp busy n ps a bb f):Rel Φ τ (putB h id (some (lpB busy' n ps a bb f))) (za w en.g (.loop {l with state:=if busy' then .busy else .ready,pending:=none}))∧
   Tw Φ τ h w Φ τ h.n (za w en.g (.loop {l with state:=if busy' then .busy else .ready,pending:=none})):=by
 have hlt:=(Array.getElem?_eq_some_iff.1 L.obj).1;refine hR.turn (en:=en) hid hb L.lab rfl rfl rfl xo (fun g hg=>qd hg) (.inr (.inr (.inr ⟨en,{l with state:=if busy' then .busy else .ready,pending:=none},L.ent,L.lab,rfl,Jf0 hlt,?_⟩)));obtain⟨y0,y1,y2,y3,y4,y5,h1,h2,h3,h4,h5,h6,h7,h8,h9⟩:=L.ob;rw [hob] at h1
 cases h1
 exact⟨busy',n,ps,a,bb,f,rfl,rfl,rfl,h4,h5,h6,h7,h8,h9⟩
theorem Jvb(hc:CallS P call)(hm:P.follows .mixedOrders=true){id:Nat}{args:List AV}{h:Hp}{r:Res}(e:Ji7 P call id args h=r)(hr:okR r):∃ v h',r= .ok v h'∧(h.n≤big5→Grow h h')∧
  ∀ Φ τ w vs en,Rel Φ τ h w→Fre Φ h.n h'.n→RvL Φ args vs→Φ id=some en→∃ l g tmps as0 bo,(Instr.yield en.g vs.toArray).run P w= .ok (.round l g tmps as0 bo) w∧
   RoundIn Fence.wide 0 P l g tmps as0 bo w fun e w'=>∃ x,e= .returned x∧∃ Φ' τ',Rv Φ' v x∧Rel Φ' τ' h' w'∧Tw Φ τ h w Φ' τ' h'.n w':=by have e:Res.no 99=r:=e;subst e;exact hr.elim
theorem fun_s(hc:CallS P call)(hm:P.follows .mixedOrders=true){k:FuncId}{args:List AV}{h:Hp}{r:Res}(e:Jop P call k args h=r)(hr:okR r):
  (∃ fn,P.funcs[k]? =some fn∧(fn.name == "runtime.NumGoroutine")=false∧fn.body.isNone=false)∧(h.n≤big5→Grow h (hpR r h))∧
  ∀ Φ τ w vs,Rel Φ τ h w→Fre Φ h.n (hpR r h).n→RvL Φ args vs→Calls P k vs.toArray w (RetE Φ τ h w r):=by
 unfold Jop at e
 split at e
 ·subst e;exact hr.elim
 ·rename_i fn hf
  split at e
  ·subst e;exact hr.elim
  ·rename_i c hb
   rw [zs] at e
   split at e
   ·rename_i hcd
    obtain⟨hcd,h3⟩:=Zs hcd;obtain⟨h1,h2⟩:=Zs hcd;have h1:=Nat.le_of_ble_eq_true h1;have h2:=Nat.le_of_ble_eq_true h2;have h3:=Jht h3;rw [Qd] at h2;unfold Jpt at e
    split at e
    ·split at e
     ·obtain⟨g,s⟩:=Jyu hc hm h1 e hr;refine⟨⟨fn,hf,h3,by rw [hb];rfl⟩,g,fun Φ τ w vs hR hFr hv=>?_⟩
      exact J24 hf hb rfl (by rw [hv.len];exact h2) (s Φ τ _ w (vf hv (by omega)) hR hFr)
     ·rename_i s hs
      have hs:(none:Option (List Code × (Code × Nat × Operand × List Tmp × Code × Code) × Code))=some s:=hs
      cases hs
    ·rename_i s hs
     obtain⟨a,t,k',caps,b⟩:=s;obtain⟨id,ts,cp,y1,y2,p1,p2,a1,a2,hcp,rfl⟩:=Jnp hs;have hS:=Jft (fc:=Fence.wide) hc h1 hm a (Xe args 0) h
     revert e
     cases ho:Xi P call fn.ntmps a (Xe args 0) h with
     | nx f1 h1'=>
      intro e;have e:Ja7 P call fn.ntmps t k' caps b fn.results.toList f1 h1'=r:=e;obtain⟨g1,s1⟩:=hS (by rw [ho];trivial);rw [ho] at g1 s1;have g1:Gw h h1':=g1;obtain⟨g2,s2⟩:=Jt5 hc hm h1 e hr (id:=id) (ts:=ts) (y1:=y1) (y2:=y2) (p1:=p1) (p2:=p2) (a1:=a1) (a2:=a2) hcp;have hh:hpR r h1'=hpR r h:=by cases r <;> first | rfl | exact hr.elim
      rw [hh] at g2 s2;refine⟨⟨fn,hf,h3,by rw [hb];rfl⟩,g1.trans g2,fun Φ τ w vs hR hFr hv=>?_⟩
      have k1:Grow h h1':=g1 hR.lim;have k2:=g2 (k1.lim hR.lim);obtain⟨hgood,hfr⟩:=Jxo (n:=fn.ntmps) (vs:=vs) (by rw [hv.len];exact h2);refine calls_of_wp_defers hf hb (wp_seq (wp_mono ((s1 Φ τ _ w [] (vf hv (by omega)) hR (fun id x1 x2=>hFr id x1 (Nat.lt_of_lt_of_le x2 k2.le))).wide hgood hfr) ?_));rintro ex a' w1 ⟨gg,qq⟩
      cases ex with
      | normal=>
       obtain⟨Φ1,τ1,x1,x2,x3⟩:=qq;refine wp_mono (s2 Φ1 τ1 a' w1 gg x1 x2 ?_) ?_
       ·intro id q1 q2;rw [x3.same id (fun hh=>by have:id < h1'.n:=hh.2;omega)];exact hFr id (Nat.le_trans k1.le q1) q2
       ·have conv:∀ en w2,RetE Φ1 τ1 h1' w1 r en w2→RetE Φ τ h w r en w2:=by
         intro en w2 hq
         cases en with
         | returned y=>
          obtain⟨v,h2',rfl,Φ2,τ2,z1,z2,z3⟩:=hq;exact⟨v,h2',rfl,Φ2,τ2,z1,z2,x3.trans k1 k2.le (k1.lim hR.lim) z3⟩
         | panicked ch=>
          obtain⟨v,h2',rfl,x,Φ2,τ2,z0,z1,z2,z3⟩:=hq;exact⟨v,h2',rfl,x,Φ2,τ2,z0,z1,z2,x3.trans k1 k2.le (k1.lim hR.lim) z3⟩
         | outgrown=>exact hq
        have lmono:∀ (tm:Array Value) (ds:List Deferred) (u:FrameMode) (w2:World),Leaves P fn tm (RetE Φ1 τ1 h1' w1 r) ds u w2→Leaves P fn tm (RetE Φ τ h w r) ds u w2:=by
         intro tm ds
         induction ds with
         | nil=>
          intro u w2 hL
          cases u with
          | run=>exact hL
          | returning=>obtain⟨v,q1,q2⟩:=hL;exact⟨v,q1,conv _ _ q2⟩
          | panicking ch=>exact conv _ _ hL
         | cons d ds ih=>
          intro u w2 hL;obtain⟨q0,fv,cap,ff,aa,q1,q2,q3⟩:=hL;refine⟨q0,fv,cap,ff,aa,q1,q2,q3.mono ?_⟩;intro en u' w3 hq
          cases en with
          | returned y=>exact ih _ _ hq
          | panicked ch=>exact ih _ _ hq
          | outgrown=>exact conv .outgrown w2 hq
        intro ex a2 w2 hq
        cases ex with
        | normal=>exact lmono _ _ _ _ hq
        | ret=>exact lmono _ _ _ _ hq
        | panic ch=>exact lmono _ _ _ _ hq
        | exit i=>exact hq
        | goto l=>exact hq
        | outgrown=>exact conv .outgrown w2 hq
      | _=>exact qq.elim
     | rt f1 h1'=>intro e;have e:Res.no 53=r:=e;subst e;exact hr.elim
     | ex i f1 h1'=>intro e;have e:Res.no 53=r:=e;subst e;exact hr.elim
     | pn v f1 h1'=>intro e;have e:Res.no 53=r:=e;subst e;exact hr.elim
     | no m=>intro e;have e:Res.no m=r:=e;subst e;exact hr.elim
   ·subst e;exact hr.elim
def Jo4(P:Program)(pr:Prim):Prop:=∀ k p,pr k=some p→∀ args h r,p args h=r→okR r→
 (∃ fn,P.funcs[k]? =some fn∧(fn.name == "runtime.NumGoroutine")=false∧fn.body.isNone=false)∧(h.n≤big5→Grow h (hpR r h))∧
 ∀ Φ τ w vs,Rel Φ τ h w→Fre Φ h.n (hpR r h).n→RvL Φ args vs→Calls P k vs.toArray w (RetE Φ τ h w r)
def ExS(P:Program)(ex:FuncId→Nat):Prop:=∀ k,ex k≠0→ExK P k (ex k)
theorem Jxp{pr:Prim}{ex:FuncId→Nat}(hx:ExS P ex)(hp:Jo4 P pr)(hm:P.follows .mixedOrders=true):∀ m,CallS P (vm P pr ex m):=by
 intro m
 induction m with
 | zero=>exact⟨hx,fun k args h r e hr=>by have e:Res.no 54=r:=e;subst e;exact hr.elim,fun k args h r e hr=>by have e:Res.no 54=r:=e;subst e;exact hr.elim⟩
 | succ m ih=>
  refine⟨hx,fun k args h r e hr=>?_,fun id args h r e hr=>Jvb ih hm e hr⟩;have e0:(vm P pr ex (m+1)).run k args h=Option.rec (Jop P (vm P pr ex m) k args h) (fun p=>p args h) (pr k):=rfl;rw [e0] at e
  cases hk:pr k with
  | none=>rw [hk] at e;exact fun_s ih hm e hr
  | some p=>rw [hk] at e;exact hp k p hk args h r e hr
def tt(r:Res):Bool:=match r with
 | .ok (.b true) _=>true
 | _=>false
theorem J0c:Jo4 P fun _=>none:=fun _ _ h=>by cases h
end
end Go.Ev
namespace Go.Ev
open Go Go.Wf Go.RowKit
def blkG(cs:List AV):Blk:=⟨0,false,true,cs,.glb⟩
def tabs(l:List (Nat × List AV)):T5 (Option Blk):=List.rec (Jo2 none) (fun p _ ih=>set5 p.1 (some (blkG p.2)) ih) l
def hpG(n:Nat)(l:List (Nat × List AV)):Hp:=⟨tabs l,n⟩
def Jks(w:World)(n:Nat)(l:List (Nat × List AV)):Prop:=∀ p ∈ l,p.1 < n∧∃ C T fr,w.heap[p.1]? =some (.cells C T fr)∧∀ Φ,CR Φ C 0 p.2
theorem Jfy{l:List (Nat × List AV)}(hl:∀ p ∈ l,p.1 < big5){id:Nat}(hid:id < big5):(∃ p ∈ l,p.1=id∧get5 id (tabs l)=some (blkG p.2))∨(∀ p ∈ l,p.1≠id)∧get5 id (tabs l)=none:=by
 induction l with
 | nil=>exact .inr ⟨fun _ h=>(by cases h),Jlj id none⟩
 | cons p l ih=>
  have e:tabs (p::l)=set5 p.1 (some (blkG p.2)) (tabs l):=rfl;rw [e,Zr _ _ _ _ hid (hl p (by simp))]
  by_cases h:id=p.1
  ·rw [if_pos h];exact .inl ⟨p,by simp,h.symm,rfl⟩
  ·rw [if_neg h]
   rcases ih (fun q hq=>hl q (by simp [hq])) with ⟨q,h1,h2,h3⟩ | ⟨h1,h2⟩
   ·exact .inl ⟨q,by simp [h1],h2,h3⟩
   ·refine .inr ⟨?_,h2⟩;intro q hq
    rcases List.mem_cons.1 hq with rfl | hq
    ·exact fun e=>h e.symm
    ·exact h1 q hq
def PhiG(l:List (Nat × List AV)):Phi:=fun id=>if id ∈ l.map (·.1) then some ⟨id,0,0⟩ else none
def TauG(l:List (Nat × List AV)):Tau:=fun g=>if g ∈ l.map (·.1) then .ro else .out
theorem relG{w:World}{n:Nat}{l:List (Nat × List AV)}(hn:n≤big5)(h:Jks w n l):Rel (PhiG l) (TauG l) (hpG n l) w:=by
 have hl:∀ p ∈ l,p.1 < big5:=fun p hp=>Nat.lt_of_lt_of_le (h p hp).1 hn;refine⟨hn,?_,?_⟩
 ·intro id b hid hb;have hb:get5 id (tabs l)=some b:=hb;have hid:id < n:=hid
  rcases Jfy hl (Nat.lt_of_lt_of_le hid hn) with ⟨p,h1,rfl,h3⟩ | ⟨_,h2⟩
  ·rw [h3] at hb
   cases hb
   obtain⟨_,C,T,fr,h4,h5⟩:=h p h1;have hm:p.1 ∈ l.map (·.1):=List.mem_map_of_mem h1;exact .inr (.inr (.inl ⟨⟨p.1,0,0⟩,C,⟨if_pos hm,rfl,if_pos hm,rfl,rfl,⟨T,fr,h4⟩,h5 _⟩⟩))
  ·rw [h2] at hb;cases hb
 ·intro id h1 h2
  rcases Jfy hl h2 with ⟨p,h3,rfl,_⟩ | ⟨_,h3⟩
  ·exact absurd (h p h3).1 (Nat.not_lt.2 h1)
  ·exact h3
section
variable {P:Program}
theorem Jtn {pr:Prim} {ex:FuncId→Nat} (hx:ExS P ex) (hp:Jo4 P pr) (hm:P.follows .mixedOrders=true) {m k n:Nat} {l:List (Nat × List AV)} {args:List AV} {v:AV} {h':Hp} (e:Jmk P pr ex m k args (hpG n l)= .ok v h')
  (w:World) (hn:n≤big5) (hw:Jks w n l) (vs:List Value) (hv:∀ Φ,RvL Φ args vs):Calls P k vs.toArray w fun en w'=>(∃ x Φ,en= .returned x∧Rv Φ v x)∧Below w.heap.size w w':=by
 obtain⟨_,_,s⟩:=(Jxp hx hp hm m).run k args (hpG n l) _ e trivial
 have:=s (PhiG l) (TauG l) w vs (relG hn hw) (fun id h1 _=>if_neg (fun hh=>by
  obtain⟨p,hp,rfl⟩:=List.mem_map.1 hh;exact absurd (hw p hp).1 (Nat.not_lt.2 h1))) (hv _)
 refine this.mono ?_;intro en w' hh
 cases en with
 | returned x=>
  obtain⟨v2,h2,e9,Φ',τ',hv,_,t⟩:=hh
  cases e9
  refine⟨⟨x,Φ',rfl,hv⟩,⟨t.os,t.tape,t.output,t.size,fun g hg=>(t.keep g hg fun id e=>?_).1⟩⟩
  have e:TauG l g= .own id:=e;unfold TauG at e
  split at e <;> cases e
 | panicked ch=>obtain⟨v2,h2,e9,_⟩:=hh;cases e9
 | outgrown=>exact hh.elim
theorem Jci{pr:Prim}{ex:FuncId→Nat}(hx:ExS P ex)(hp:Jo4 P pr)(hm:P.follows .mixedOrders=true){m k n:Nat}{l:List (Nat × List AV)}(e:tt (Jmk P pr ex m k [] (hpG n l))=true)(hn:n≤big5)(w:World)(hw:Jks w n l):
  Calls P k #[] w fun en w'=>en= .returned (.bool true)∧Below w.heap.size w w':=by
 unfold tt at e
 split at e
 ·rename_i h' he
  refine(Jtn hx hp hm he w hn hw [] (fun _=>by simp only [RvL])).mono ?_
  rintro en w' ⟨⟨x,Φ,rfl,hv⟩,hb⟩;rw [hv.bI];exact⟨rfl,hb⟩
 ·cases e
end
end Go.Ev
namespace Go.Proofs.YtjiojpmoleilgaaGreatDoor
open Go Go.Ev Go.Wf
def ex52(k:Nat):Nat:=bif Nat.beq k 237 then 1 else bif Nat.beq k 238 then 2 else 0
theorem Jkr:tt (Jmk Tryz.prog (fun _=>none) ex52 200 9 [] (hpG 7 []))=true:=by kernel_rfl
theorem ord52:Tryz.prog.follows .mixedOrders=true:=by kernel_rfl
theorem exS52:ExS Tryz.prog ex52:=by
 intro k hk;unfold ex52 at hk
 cases h:Nat.beq k 237 with
 | true=>
  obtain rfl:=Nat.eq_of_beq_eq_true h;exact⟨_,_,Tryz.func237,by rfl,by rfl,by rfl,by rfl,.inl ⟨rfl,rfl⟩⟩
 | false=>
  rw [h] at hk
  cases h2:Nat.beq k 238 with
  | true=>
   obtain rfl:=Nat.eq_of_beq_eq_true h2;exact⟨_,_,Tryz.func238,by rfl,by rfl,by rfl,by rfl,.inr ⟨rfl,rfl,_,rfl⟩⟩
  | false=>rw [h2] at hk;exact absurd rfl hk
theorem Jba{w:World}:Calls Tryz.prog 9 #[] w (Ret w fun v _=>v= .bool true):=by
 refine(Jci exS52 J0c ord52 Jkr (by decide) w (fun _ h=>by cases h)).mono ?_
 rintro en w' ⟨rfl,hb⟩;exact⟨rfl,hb⟩
end Go.Proofs.YtjiojpmoleilgaaGreatDoor
namespace Go.Wf
open Go Go.Proofs Go.RowKit Go.Proofs.YtjiojpmoleilgaaGreatDoor
theorem Jdy{X:Nat→Prop}{w:World}(hX:∀ b,X b→b < w.heap.size){v0:Value}{a:GExpr}(r0:RV Jm X w v0 a){v1:Value}{b:GExpr}(r1:RV Jm X w v1 b){s:List UInt8}  :Calls Tryz.prog 5 #[v0,v1,(str s)] w (Ret w fun v w'=>v=(.bool true)):=by
 obtain⟨a1,c2,a3,c4,a5,c6,a7,c8,rfl,h9⟩:=J3k r0;have h10:=h9.n;have h11:=h9.num;have h12:=h9.den;have h13:=h9.args;obtain⟨a14,c15,a16,c17,a18,c19,a20,c21,rfl,h22⟩:=J3k r1;have h23:=h22.n;have h24:=h22.num;have h25:=h22.den;have h26:=h22.args;have C:=J25 hX;refine J24 (args:=[(.agg #[(.int .i64 a.op),(.slice a1 a.n.length c2),(.bool a.c.num.neg),(.slice a3 a.c.num.mag.length c4),(.bool a.c.den.neg),(.slice a5 a.c.den.mag.length c6),(str a.name),(.slice a7 a.args.length c8)]),(.agg #[(.int .i64 b.op),(.slice a14 b.n.length c15),(.bool b.c.num.neg),(.slice a16 b.c.num.mag.length c17),(.bool b.c.den.neg),(.slice a18 b.c.den.mag.length c19),(str b.name),(.slice a20 b.args.length c21)]),(str s)]) Tryz.func5 rfl rfl (Nat.le_of_ble_eq_true rfl) ?_;refine Rg (O rfl (J3a C rfl ?_));intro g27 w28 x29 y30 lt31 C32 s33 o34;replace h23:=h23.sp s33;replace h24:=h24.sp s33;replace h25:=h25.sp s33;replace h26:=h26.sp s33;refine O rfl (J3a C32 rfl ?_);intro g35 w36 x37 y38 lt39 C40 s41 o42;replace h10:=(h10.sp s33).sp s41;replace h11:=(h11.sp s33).sp s41;replace h12:=(h12.sp s33).sp s41;replace h13:=(h13.sp s33).sp s41;replace o34:=o34.spn s41;refine Oa (Nl (Rh (O rfl (J22 (vs:=[(.int .i64 a.op),(.slice a1 a.n.length c2),(.bool a.c.num.neg),(.slice a3 a.c.num.mag.length c4),(.bool a.c.den.neg),(.slice a5 a.c.den.mag.length c6),(str a.name),(.slice a7 a.args.length c8)]) o34 ag31 rfl rfl rfl (O rfl (St.bool (J2y C40 cb13 rfl rfl (Jg0 C40.bd (Jz a h9.lo h9.hi h9.name h10 h11 h12 h13)) ?_)))))));intro v44 w45 C46 s47 h48;replace h10:=h10.sp s47;replace h11:=h11.sp s47;replace h12:=h12.sp s47;replace h13:=h13.sp s47;replace h23:=(h23.sp s41).sp s47;replace h24:=(h24.sp s41).sp s47;replace h25:=(h25.sp s41).sp s47;replace h26:=(h26.sp s41).sp s47;replace o34:=o34.spn s47;replace o42:=o42.spn s47;obtain⟨b50,e51,hp52⟩:=h48;refine⟨b50,e51,fun hb49=>?_,fun hb49=>?_⟩
 ·replace hp52:=hp52 hb49;refine O rfl (St.not rfl (Om (Og rfl rfl (J22 (vs:=[(.int .i64 b.op),(.slice a14 b.n.length c15),(.bool b.c.num.neg),(.slice a16 b.c.num.mag.length c17),(.bool b.c.den.neg),(.slice a18 b.c.den.mag.length c19),(str b.name),(.slice a20 b.args.length c21)]) o42 ag31 rfl rfl rfl (Og rfl rfl (St.bool (J2y C46 cb13 rfl rfl (Jg0 C46.bd (Jz b h22.lo h22.hi h22.name h23 h24 h25 h26)) ?_)))))));intro v53 w54 C55 s56 h57;obtain⟨b59,e60,hp61⟩:=h57;refine⟨b59,e60,fun hb58=>?_,fun hb58=>?_⟩
  ·replace hp61:=hp61 hb58;refine Og rfl rfl (St.not rfl (OF (Om (Og rfl rfl (St.move (Og rfl rfl (J35 un9 rfl (Og rfl rfl (J3m rfl rfl (fun hc62=>?_) (fun hc62=>?_))))))))))
   ·refine OF (Nl (J2z rfl (Rg (O rfl (J2y C55 cb9 rfl rfl (Jba) ?_)))));intro v63 w64 C65 s66 h67;subst h67;refine Oa (Nl (W.ret (Je rfl (resV.t rfl) (Ret.intro ?_ C65.below))))
    rfl
   refine OF (Nl (J21 rfl (W.skip (W.seq (J3e Za 21 [[],[0],[],[2],[1,3],[4],[5],[5,6],[5,7],[5],[5,9],[5,8,10],[5,11],[12],[13],[13,14],[13],[13,16],[13,15,17],[13],[13]] C55 [fx (str s),fx (.bool (Kt s)),fx (str s),fx (.bool (Kt s)),fx (.bool true),fx (.bool true),fx (.agg #[(.int .i64 a.op),(.slice a1 a.n.length c2),(.bool a.c.num.neg),(.slice a3 a.c.num.mag.length c4),(.bool a.c.den.neg),(.slice a5 a.c.den.mag.length c6),(str a.name),(.slice a7 a.args.length c8)]),fr Jm a,fx (.int .i64 (zm a)),fx (.agg #[(.int .i64 a.op),(.slice a1 a.n.length c2),(.bool a.c.num.neg),(.slice a3 a.c.num.mag.length c4),(.bool a.c.den.neg),(.slice a5 a.c.den.mag.length c6),(str a.name),(.slice a7 a.args.length c8)]),fx (.int .i64 (zm a)),fx (.bool true),fx (.bool true),fx (.bool true),fx (.agg #[(.int .i64 a.op),(.slice a1 a.n.length c2),(.bool a.c.num.neg),(.slice a3 a.c.num.mag.length c4),(.bool a.c.den.neg),(.slice a5 a.c.den.mag.length c6),(str a.name),(.slice a7 a.args.length c8)]),fr Jm a,fx (.agg #[(.int .i64 b.op),(.slice a14 b.n.length c15),(.bool b.c.num.neg),(.slice a16 b.c.num.mag.length c17),(.bool b.c.den.neg),(.slice a18 b.c.den.mag.length c19),(str b.name),(.slice a20 b.args.length c21)]),fr Jm b,fx (.bool (decide (cmpE a b < 0))),fx (.agg #[(.int .i64 a.op),(.slice a1 a.n.length c2),(.bool a.c.num.neg),(.slice a3 a.c.num.mag.length c4),(.bool a.c.den.neg),(.slice a5 a.c.den.mag.length c6),(str a.name),(.slice a7 a.args.length c8)]),fx (.agg #[(.int .i64 b.op),(.slice a14 b.n.length c15),(.bool b.c.num.neg),(.slice a16 b.c.num.mag.length c17),(.bool b.c.den.neg),(.slice a18 b.c.den.mag.length c19),(str b.name),(.slice a20 b.args.length c21)])] (by kernel_rfl) ⟨sx,sx,sx,sx,sx,sx,sx,sr,sx,sx,sx,sx,sx,sx,sx,sr,sx,sr,sx,sx,sx,trivial⟩ fun f148 s149 w150 ⟨C153,S154⟩ k152=>?_)))))
   replace h10:=(h10.sp s56).sp S154;replace h11:=(h11.sp s56).sp S154;replace h12:=(h12.sp s56).sp S154;replace h13:=(h13.sp s56).sp S154;replace h23:=(h23.sp s56).sp S154;replace h24:=(h24.sp s56).sp S154;replace h25:=(h25.sp s56).sp S154;replace h26:=(h26.sp s56).sp S154;replace o34:=(o34.spn s56).spn S154;replace o42:=(o42.spn s56).spn S154;have k152:Keep [21,22,23,24,25,26,27,28,29,30,31,32,33,34,35,36,37,38,39,40,41] _ f148:=k152;refine⟨⟨fun _=>?_,fun⟨e157,_⟩=>?_,fun _=>?_,fun⟨e158,_⟩=>?_,fun⟨e159,e160,_⟩=>?_,fun⟨e161,_⟩=>?_,fun⟨e162,_⟩=>?_,fun⟨e163,e164,_⟩=>?_,fun⟨e165,d166,_⟩=>?_,fun⟨e167,_⟩=>?_,fun⟨e168,e169,_⟩=>?_,fun⟨e170,e171,e172,_⟩=>?_,fun⟨e173,e174,_⟩=>?_,fun⟨e175,_⟩=>?_,fun⟨e176,_⟩=>?_,fun⟨e177,e178,_⟩=>?_,fun⟨e179,_⟩=>?_,fun⟨e180,e181,_⟩=>?_,fun⟨e182,d183,d184,_⟩=>?_,fun⟨e185,_⟩=>?_,fun⟨e186,_⟩=>?_,trivial⟩,fun⟨e187,e188,e189,e190,e191,e192,e193,d194,e195,e196,e197,e198,e199,e200,e201,d202,e203,d204,e205,e206,e207,_⟩=>?_⟩
   ·exact Ja k152 aN fun _=>OpSt.op (St.move ⟨s149,RC.same C153,rfl⟩)
   ·refine Ja k152 (aC e157 aN) fun _=>OpSt.op (J2y C153 cb18 rfl rfl (Jab C153.bd) ?_);intro v209 w210 C211 s212 h213;exact⟨s149,⟨C211,s212⟩,h213⟩
   ·exact Ja k152 aN fun _=>OpSt.op (St.move ⟨s149,RC.same C153,rfl⟩)
   ·refine Ja k152 (aC e158 aN) fun _=>OpSt.op (J2y C153 cb19 rfl rfl (Jgl C153.bd (by omega)) ?_);intro v214 w215 C216 s217 h218;exact⟨s149,⟨C216,s217⟩,h218⟩
   ·exact Ja k152 (aC e159 (aC e160 aN)) fun _=>OpSt.op (J4i (u:=true) un4 rfl rfl (beq_self_eq_true _) ⟨s149,RC.same C153,rfl⟩)
   ·exact Ja k152 (aC e161 aN) fun _=>OpSt.op (St.move ⟨s149,RC.same C153,rfl⟩)
   ·exact Ja k152 (aC e162 aN) fun _=>J3l rfl (J22 (vs:=[(.int .i64 a.op),(.slice a1 a.n.length c2),(.bool a.c.num.neg),(.slice a3 a.c.num.mag.length c4),(.bool a.c.den.neg),(.slice a5 a.c.den.mag.length c6),(str a.name),(.slice a7 a.args.length c8)]) o34 ag31 rfl rfl rfl ⟨s149,RC.same C153,rfl⟩)
   ·refine Ja k152 (aC e163 (aC e164 aN)) fun _=>J3l rfl (J2y C153 cb15 rfl rfl (Jju C153.bd (Jz a h9.lo h9.hi h9.name h10 h11 h12 h13) hp52.1 (Nat.le_trans hp52.2 (by decide))) ?_);intro v219 w220 C221 s222 h223;exact⟨s149,⟨C221,s222⟩,h223⟩
   ·obtain⟨a225,c226,a227,c228,a229,c230,a231,c232,e224,h233⟩:=J3k d166;have h234:=h233.n;have h235:=h233.num;have h236:=h233.den;have h237:=h233.args;refine Ja k152 (aC e165 (aC e224 aN)) fun _=>J3l rfl (J2y C153 cb20 rfl rfl (Js0 C153.bd (Jz a h233.lo h233.hi h233.name h234 h235 h236 h237) (Jgq hp52.1)) ?_);intro v238 w239 C240 s241 h242;exact⟨s149,⟨C240,s241⟩,h242⟩
   ·exact Ja k152 (aC e167 aN) fun _=>J3l rfl (J22 (vs:=[(.int .i64 a.op),(.slice a1 a.n.length c2),(.bool a.c.num.neg),(.slice a3 a.c.num.mag.length c4),(.bool a.c.den.neg),(.slice a5 a.c.den.mag.length c6),(str a.name),(.slice a7 a.args.length c8)]) o34 ag31 rfl rfl rfl ⟨s149,RC.same C153,rfl⟩)
   ·refine Ja k152 (aC e168 (aC e169 aN)) fun _=>J3l rfl (J2y C153 cb21 rfl rfl (Juo C153.bd (Jz a h9.lo h9.hi h9.name h10 h11 h12 h13) (Nat.le_trans hp52.2 (by decide)) (Jgq hp52.1)) ?_);intro v243 w244 C245 s246 h247;exact⟨s149,⟨C245,s246⟩,h247⟩
   ·exact Ja k152 (aC e170 (aC e171 (aC e172 aN))) fun _=>J3l rfl (St.eql (t:=true) rfl rfl (decide_eq_true rfl) ⟨s149,RC.same C153,rfl⟩)
   ·exact Ja k152 (aC e173 (aC e174 aN)) fun _=>OpSt.op (St.pick (t:=true) rfl ⟨s149,RC.same C153,rfl⟩)
   ·exact Ja k152 (aC e175 aN) fun _=>OpSt.op (St.move ⟨s149,RC.same C153,rfl⟩)
   ·exact Ja k152 (aC e176 aN) fun _=>J3l rfl (J22 (vs:=[(.int .i64 a.op),(.slice a1 a.n.length c2),(.bool a.c.num.neg),(.slice a3 a.c.num.mag.length c4),(.bool a.c.den.neg),(.slice a5 a.c.den.mag.length c6),(str a.name),(.slice a7 a.args.length c8)]) o34 ag31 rfl rfl rfl ⟨s149,RC.same C153,rfl⟩)
   ·refine Ja k152 (aC e177 (aC e178 aN)) fun _=>J3l rfl (J2y C153 cb15 rfl rfl (Jju C153.bd (Jz a h9.lo h9.hi h9.name h10 h11 h12 h13) hp52.1 (Nat.le_trans hp52.2 (by decide))) ?_);intro v248 w249 C250 s251 h252;exact⟨s149,⟨C250,s251⟩,h252⟩
   ·exact Ja k152 (aC e179 aN) fun _=>J3l rfl (J22 (vs:=[(.int .i64 b.op),(.slice a14 b.n.length c15),(.bool b.c.num.neg),(.slice a16 b.c.num.mag.length c17),(.bool b.c.den.neg),(.slice a18 b.c.den.mag.length c19),(str b.name),(.slice a20 b.args.length c21)]) o42 ag31 rfl rfl rfl ⟨s149,RC.same C153,rfl⟩)
   ·refine Ja k152 (aC e180 (aC e181 aN)) fun _=>J3l rfl (J2y C153 cb15 rfl rfl (Jju C153.bd (Jz b h22.lo h22.hi h22.name h23 h24 h25 h26) hp61.1 (Nat.le_trans hp61.2 (by decide))) ?_);intro v253 w254 C255 s256 h257;exact⟨s149,⟨C255,s256⟩,h257⟩
   ·obtain⟨a259,c260,a261,c262,a263,c264,a265,c266,e258,h267⟩:=J3k d183;have h268:=h267.n;have h269:=h267.num;have h270:=h267.den;have h271:=h267.args;obtain⟨a273,c274,a275,c276,a277,c278,a279,c280,e272,h281⟩:=J3k d184;have h282:=h281.n;have h283:=h281.num;have h284:=h281.den;have h285:=h281.args;refine Ja k152 (aC e182 (aC e258 (aC e272 aN))) fun _=>J3l rfl (J2y C153 cb22 rfl rfl (Juk C153.bd (Jz a h267.lo h267.hi h267.name h268 h269 h270 h271) (Jz b h281.lo h281.hi h281.name h282 h283 h284 h285) hp52.1 hp61.1) ?_);intro v286 w287 C288 s289 h290;exact⟨s149,⟨C288,s289⟩,h290⟩
   ·exact Ja k152 (aC e185 aN) fun _=>J3l rfl (J22 (vs:=[(.int .i64 a.op),(.slice a1 a.n.length c2),(.bool a.c.num.neg),(.slice a3 a.c.num.mag.length c4),(.bool a.c.den.neg),(.slice a5 a.c.den.mag.length c6),(str a.name),(.slice a7 a.args.length c8)]) o34 ag31 rfl rfl rfl ⟨s149,RC.same C153,rfl⟩)
   ·exact Ja k152 (aC e186 aN) fun _=>J3l rfl (J22 (vs:=[(.int .i64 b.op),(.slice a14 b.n.length c15),(.bool b.c.num.neg),(.slice a16 b.c.num.mag.length c17),(.bool b.c.den.neg),(.slice a18 b.c.den.mag.length c19),(str b.name),(.slice a20 b.args.length c21)]) o42 ag31 rfl rfl rfl ⟨s149,RC.same C153,rfl⟩)
   obtain⟨a292,c293,a294,c295,a296,c297,a298,c299,e291,h300⟩:=J3k d194;have h301:=h300.n;have h302:=h300.num;have h303:=h300.den;have h304:=h300.args;obtain⟨a306,c307,a308,c309,a310,c311,a312,c313,e305,h314⟩:=J3k d202;have h315:=h314.n;have h316:=h314.num;have h317:=h314.den;have h318:=h314.args;obtain⟨a320,c321,a322,c323,a324,c325,a326,c327,e319,h328⟩:=J3k d204;have h329:=h328.n;have h330:=h328.num;have h331:=h328.den;have h332:=h328.args;obtain⟨f333,rfl⟩:=mixK k152 (aC e187 (aC e188 (aC e189 (aC e190 (aC e191 (aC e192 (aC e193 (aC e291 (aC e195 (aC e196 (aC e197 (aC e198 (aC e199 (aC e200 (aC e201 (aC e305 (aC e203 (aC e319 (aC e205 (aC e206 (aC e207 aN)))))))))))))))))))));refine Og rfl rfl (J2y C153 cb23 rfl rfl (Js3 C153.bd (Jz a h9.lo h9.hi h9.name h10 h11 h12 h13) (Jz b h22.lo h22.hi h22.name h23 h24 h25 h26) hp52.1 hp61.1) ?_);intro v334 w335 C336 s337 h338;subst h338;refine Og rfl rfl (J4i (u:=true) un4 rfl rfl (beq_self_eq_true _) (OT (Om (Og rfl rfl (J2y C336 cb9 rfl rfl (Jba) ?_)))));intro v339 w340 C341 s342 h343;subst h343;refine OT (Oa (Nl (W.ret (Je rfl (resV.t rfl) (Ret.intro ?_ C341.below)))))
   rfl
  refine Og rfl rfl (St.not rfl (OF (Om (Ox rfl rfl rfl (Ox rfl rfl rfl (Ox rfl rfl rfl (OT (Nl (J2z rfl (Rg (O rfl (J2y C55 cb9 rfl rfl (Jba) ?_))))))))))));intro v344 w345 C346 s347 h348;subst h348;refine Oa (Nl (W.ret (Je rfl (resV.t rfl) (Ret.intro ?_ C346.below))))
  rfl
 refine O rfl (St.not rfl (Om (Ox rfl rfl rfl (Ox rfl rfl rfl (Ox rfl rfl rfl (OT (Om (Ox rfl rfl rfl (Ox rfl rfl rfl (Ox rfl rfl rfl (OT (Nl (J2z rfl (Rg (O rfl (J2y C46 cb9 rfl rfl (Jba) ?_))))))))))))))));intro v349 w350 C351 s352 h353;subst h353;refine Oa (Nl (W.ret (Je rfl (resV.t rfl) (Ret.intro ?_ C351.below))))
 rfl
end Go.Wf
namespace Go.Proofs.YtjiojpmoleilgaaGreatDoor
open Go Go.Proofs Go.Wf Go.RowKit Go.ChangeShapes Go.WideShapes Go.ChangeMaps
theorem Jun:Tryz.prog.inits.idxOf? 5=none:=by kernel_rfl
theorem Jz8(s:ByteArray):Value.string s=str s.data.toList:=by obtain⟨⟨d⟩⟩:=s;rfl
def wE:Value:= .agg #[.int .i64 0,.slice none 0 0,.bool false,.slice none 0 0,.bool false,.slice none 0 0,.string ⟨#[]⟩,.slice none 0 0]
def kn:Array Value:= #[wE,wE,.string ⟨#[]⟩]
theorem wOk5(os:Os):Input.okWideB Tryz.prog ((World.laidAll Tryz.prog os j1).forCall (fun _ _=>0) ⟨#[],kn,[]⟩) 5 ⟨#[],kn,[]⟩=true:=by kernel_rfl
theorem wPre5(os:Os)(H:Type)(enc:TypeId × Value→H):Rows.exprFormsSpec.preB enc Tryz.prog Tryz.f5 [] false ((World.laidAll Tryz.prog os j1).forCall (fun _ _=>0) ⟨#[],kn,[]⟩).memory kn 8=true:=by kernel_rfl
theorem Jsl(os:Os)(H:Type)(enc:TypeId × Value→H):Rows.exprFormsSpec.sizedB enc Tryz.prog Tryz.f5 false ((World.laidAll Tryz.prog os j1).forCall (fun _ _=>0) ⟨#[],kn,[]⟩).memory kn 8=true:=by kernel_rfl
theorem Jsg(os:Os)(started:os.Started)(H:Type)(enc:TypeId × Value→H):
  ReturnsInHanded {} Tryz.checked os 5 .any (fun w args=>(Rows.exprFormsSpec.pre enc Tryz.prog Tryz.f5 [] false w args∧laidMetH Tryz.prog j1 w)∧sizedMet enc Tryz.prog Tryz.f5 (OpenSpec.ofChange Rows.exprFormsSpec) false w args)
   (Rows.exprFormsSpec.post enc Tryz.prog Tryz.f5 false true false false):=by
 refine returnsInHanded_of_change_and (C:=Tryz.checked) (X:=fun w _=>laidMetH Tryz.prog j1 w) (fun _ _ _ hh h=>h.of_heap hh) own52 started Jun Tryz.func5
  (ChangeSpec.witness_shaped (enc:=enc) (C:=Tryz.checked) (os:=os) (X:=fun w _=>laidMetH Tryz.prog j1 w) false (World.laidAll Tryz.prog os j1) kn 8 (World.laidAll_os _ _ _)
   (World.shaped_of_ZipB (wZip os _) (wRest os _)) (wOk5 os) (wPre5 os H enc) (Jsl os H enc)
   (by rw [MakeChecks.laidMetH_plain _ _ _ Jv3];exact laidMet_laidAll _ (wFits os) (Jro os))) ?_
 intro W base args ds gs before hval0 hW _ _ hL _;have hval:∀ (j:Nat) t v,Tryz.f5.params[j]? =some t→args[j]? =some v→Value.okWide Tryz.prog W .any base t v:=hval0;have hW':=hW;obtain⟨p,q,hA0,hV,rfl,_,_⟩:=hW;have hA:DataW.TrodAll enc Tryz.prog W 0 (fun _=>true) true Tryz.f5.params.toList args.toList ds p:=hA0;rw [Tryz.params5] at hA hval;obtain⟨v0,v1,v2,d0,d1,d2,p0,p1,p2,rfl,rfl,rfl,h0,h1,h2⟩:=trodAll_three hA;obtain⟨rfl,rfl⟩:=trodVars_none hV;obtain⟨a,ha⟩:=Jps (hval 0 31 v0 rfl rfl) h0;obtain⟨b,hb⟩:=Jps (hval 1 31 v1 rfl rfl) h1;obtain⟨s2,z2,_,_,l2⟩:=open_string und9 (hval 2 9 v2 rfl rfl) h2;replace z2:=z2.trans (Jz8 s2);subst z2;have hlt:∀ x ∈ p0++p1++p2,x.block < W.heap.size:=fun x hx=>hW'.lt x (by simpa using hx);have call:=Jdy (X:=NX) (fun _ h=>h.elim) ha hb (s:=s2.data.toList);refine call.mono fun e W' hr=>?_
 cases e with
 | returned v=>
  obtain⟨rfl,hb⟩:=hr;exact⟨_,rfl,_,_,_,[],p0++(p1++p2),[],hW',trodAll_mk1 (shut_bool und4 _),
   trodAll_mk3 (Below.trod yf Jp6 lt31 h0 hb (fun x hx=>hlt x (by simp [hx]))) (Below.trod yf Jp6 lt31 h1 hb (fun x hx=>hlt x (by simp [hx]))) (Below.trod yf read9 lt9 h2 hb (fun x hx=>hlt x (by simp [hx]))),rfl,hb.frame _,fun h=>by cases h⟩
 | panicked ch=>exact hr.elim
 | outgrown=>exact hr.elim
theorem Jq7:Tryz.prog.funcNamed "halfplane/halfplanelaw52.ExprForms" =some 5:=by kernel_rfl
theorem inst5:Tryz.f5.isInstance Tryz.prog Rows.exprFormsRow.origin Rows.exprFormsRow.targs:=of_decide_eq_true (by kernel_rfl)
theorem vw:Rows.ExprFormsSaid:=
 OpenClaim.holds_of_wide 5 Tryz.f5 rfl rfl rfl rfl rfl rfl rfl ⟨rfl,rfl,rfl,rfl,rfl⟩ rfl rfl rfl rfl rfl Jq7 Tryz.func5 Jw5
  inst5 (by unfold Func.isWrapper;first | (rw [if_pos (by decide +kernel)];kernel_rfl) | (rw [if_neg (by decide +kernel)];exact⟨rfl,rfl⟩))
  (fun os started H enc _=>Jsg os started H enc)
end Go.Proofs.YtjiojpmoleilgaaGreatDoor
