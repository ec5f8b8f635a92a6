/- Part 7 of the texts for the claim. -/
import Derived.Test.YtjiojpmoleilgaaGreatDoorNames6
set_option linter.unusedVariables false
set_option linter.unusedSimpArgs false
set_option maxRecDepth 100000
set_option maxHeartbeats 4000000
noncomputable section
namespace Go.Ev
open Go Go.Wf Go.RowKit
section
variable {P:Program} {call:CallF} {n:Nat} {ops:Array Oper} {f:Fr} {h:Hp} {S:Nat→DS}
theorem Je3{F:Wf.Fr}{d t:Nat}{v:Value}:Wf.updO F (some d) v t=if t=d then v else F t:=rfl
theorem IvS.upd {Φ0 Φ Φ':Phi} {τ0 τ τ':Tau} {w0 w w':World} {L:Array Bool} {F:Wf.Fr} {i:Nat} {o:Oper} {v:Value} (R:Run P call n ops f h S) (K:Lk P n ops) (I:IvS P ops f h S Φ0 τ0 w0 L F w Φ τ) (hs:L.size=ops.size)
  (ho:ops[i]? =some o) (hi:L.getD i false=false) (tw:Tw Φ0 τ0 h w0 Φ' τ' (S ops.size).h.n w') (sub:Sub Φ Φ')
  (fre:∀ j,j < ops.size→j≠i→L.getD j false=false→Fre Φ' (S j).h.n (S (j+1)).h.n) (val:∀ t,t < 4096→o.dst=some t→Rv Φ' (getF t (S (i+1)).f) v)
  (rel:∀ x,(S ops.size).hs[cnt P ops L+if isMv P ops i then 1 else 0]? =some x→Rel Φ' τ' x.1 w')
  (qs:∀ x,(S ops.size).hs[cnt P ops L+if isMv P ops i then 1 else 0]? =some x→∀ e ∈ (S ops.size).qt,(e.1=i∨L.getD e.1 false=true)→tb x.2 e.1=false→∀ b,e.2.2=some b→Ko Φ' τ' w' e.2.1 b):
  IvS P ops f h S Φ0 τ0 w0 (L.setIfInBounds i true) (updO F o.dst v) w' Φ' τ':=by
 have hiN:=(Array.getElem?_eq_some_iff.1 ho).1;have hg:=fun j=>Jat (L:=L) (i:=i) (by omega) j;have hc:=Jtt (P:=P) hiN hs hi;refine⟨tw,?_,?_,?_,?_,?_⟩
 ·intro j hj hl;rw [hg] at hl
  split at hl
  ·cases hl
  ·rename_i hne;exact fre j hj hne hl
 ·intro t ht j o' hj hd hl;rw [hg] at hl
  by_cases e:j=i
  ·subst e;rw [ho] at hj;cases hj
   have:=val t ht hd
   rw [hd,Je3,if_pos rfl];exact this
  ·rw [if_neg e] at hl;have hne:o.dst≠some t:=fun hd2=>e (K.uniq j i o' o t hj ho hd hd2)
   have:=(I.fw t ht j o' hj hd hl).mono sub
   cases hod:o.dst with
   | none=>exact this
   | some d=>
    rw [Je3,if_neg (fun e=>hne (by rw [hod,e]))];exact this
 ·intro t ht hall;have hne:o.dst≠some t:=by
   intro hd
   have:=hall i o ho hd
   rw [hg,if_pos rfl] at this;cases this
  have:=(I.f0 t ht fun j o' hj hd=>by
   have:=hall j o' hj hd
   rw [hg] at this
   split at this
   ·cases this
   ·exact this).mono sub
  cases hod:o.dst with
  | none=>exact this
  | some d=>
   rw [Je3,if_neg (fun e=>hne (by rw [hod,e]))];exact this
 ·intro x hx;rw [hc] at hx;exact rel x hx
 ·intro x hx e he hl hb;rw [hc] at hx;rw [hg] at hl;refine qs x hx e he ?_ hb
  split at hl
  ·exact .inl (by assumption)
  ·exact .inr hl
theorem Jzn{m a:Nat}{qt:QT}{g:Fr}{o:Oper}{v:AV}{k:Out}:∀ (l:List (Hp × Nat)),okO (winK P call m qt a g o v l k)→winK P call m qt a g o v l k=k∧∀ x ∈ l,∃ h',evOp P call o.op g ⟨Z7 qt a x.2 x.1.t,m⟩= .ok v h':=by
 intro l
 induction l with
 | nil=>intro _;exact⟨rfl,fun x hx=>by cases hx⟩
 | cons y l ih=>
  intro e;have e0:winK P call m qt a g o v (y::l) k=Res.rec (fun v' _=>Bool.rec (.no 61) (winK P call m qt a g o v l k) (Jkj v v')) Out.no (fun _ _=> .no 60) (evOp P call o.op g ⟨Z7 qt a y.2 y.1.t,m⟩):=rfl;rw [e0] at e ⊢;obtain⟨v',h',h1,h2⟩:=Jja e;rw [h2] at e ⊢
  cases hb:Jkj v v' with
  | false=>rw [hb] at e;exact e.elim
  | true=>
   rw [hb] at e;obtain⟨h3,h4⟩:=ih e;refine⟨h3,fun x hx=>?_⟩
   cases hx with
   | head=>rw [Jtj hb];exact⟨h',h1⟩
   | tail _ hx=>exact h4 x hx
theorem Jv7{m:Nat}{qt:QT}{rs:List (Nat × Fr × AV)}{hs:List (Hp × Nat)}{k:Out}:∀ (l:List (Nat × Oper × Nat × Nat × Nat)),okO (Jhx P call m qt rs hs k l)→Jhx P call m qt rs hs k l=k∧
  ∀ p ∈ l,∀ r,Jdn rs p.1=some r→∀ x ∈ tk (dr hs p.2.2.2.1) (Nat.succ (Nat.sub p.2.2.2.2 p.2.2.2.1)),∃ h',evOp P call p.2.1.op r.1 ⟨Z7 qt p.2.2.1 x.2 x.1.t,m⟩= .ok r.2 h':=by
 intro l
 induction l with
 | nil=>intro _;exact⟨rfl,fun p hp=>by cases hp⟩
 | cons q l ih=>
  intro e;have e0:Jhx P call m qt rs hs k (q::l)=Option.rec (Jhx P call m qt rs hs k l) (fun r=>winK P call m qt q.2.2.1 r.1 q.2.1 r.2 (tk (dr hs q.2.2.2.1) (Nat.succ (Nat.sub q.2.2.2.2 q.2.2.2.1))) (Jhx P call m qt rs hs k l)) (Jdn rs q.1):=rfl;rw [e0] at e ⊢
  cases hf:Jdn rs q.1 with
  | none=>
   rw [hf] at e;obtain⟨h1,h2⟩:=ih e;refine⟨h1,fun p hp=>?_⟩
   cases hp with
   | head=>intro r hr;rw [hf] at hr;cases hr
   | tail _ hp=>exact h2 p hp
  | some r=>
   rw [hf] at e;simp only at e ⊢;obtain⟨h1,h2⟩:=Jzn _ e;rw [h1] at e ⊢;obtain⟨h3,h4⟩:=ih e;refine⟨h3,fun p hp=>?_⟩
   cases hp with
   | head=>intro r' hr;rw [hf] at hr;cases hr;exact h2
   | tail _ hp=>exact h4 p hp
theorem Jzc(mv a:Nat):∀ (l:List Nat) (i:Nat),loM mv a l i=(List.range l.length).countP fun j=>tb (Nat.land mv a) (i+j):=by
 intro l
 induction l with
 | nil=>intro i;rfl
 | cons b l ih=>
  intro i;have e0:loM mv a (b::l) i=Bool.rec (loM mv a l (Nat.succ i)) (Nat.succ (loM mv a l (Nat.succ i))) (tb (Nat.land mv a) i):=rfl;rw [e0,ih,List.length_cons,List.range_succ_eq_map,List.countP_cons,List.countP_map];have e1:(List.range l.length).countP ((fun j=>tb (Nat.land mv a) (i+j)) ∘ Nat.succ)=(List.range l.length).countP fun j=>tb (Nat.land mv a) (Nat.succ i+j):=by
   apply List.countP_congr
   intro j _;simp only [Function.comp];rw [show i+Nat.succ j=Nat.succ i+j by omega]
  rw [e1,Nat.add_zero]
  cases tb (Nat.land mv a) i <;> rfl
theorem Jx0(p r:Bool)(G:Nat):(Bool.rec G (Bool.rec (Nat.succ G) G r) p:Nat)=G+if p && !r then 1 else 0:=by cases p <;> cases r <;> rfl
theorem Jwl(mv q:Nat):∀ (l:List Nat) (i:Nat),hiM mv q l i=(List.range l.length).countP fun j=>tb mv (i+j) && !tb ((l[j]?).getD 0) q:=by
 intro l
 induction l with
 | nil=>intro i;rfl
 | cons b l ih=>
  intro i;have e0:hiM mv q (b::l) i=Bool.rec (hiM mv q l (Nat.succ i)) (Bool.rec (Nat.succ (hiM mv q l (Nat.succ i))) (hiM mv q l (Nat.succ i)) (tb b q)) (tb mv i):=rfl;rw [e0,ih,List.length_cons,List.range_succ_eq_map,List.countP_cons,List.countP_map];have e1:(List.range l.length).countP ((fun j=>tb mv (i+j) && !tb (((b::l)[j]?).getD 0) q) ∘ Nat.succ)=(List.range l.length).countP fun j=>tb mv (Nat.succ i+j) && !tb ((l[j]?).getD 0) q:=by
   apply List.countP_congr
   intro j _;simp only [Function.comp,List.getElem?_cons_succ];rw [show i+Nat.succ j=Nat.succ i+j by omega]
  rw [e1,Nat.add_zero];simp only [List.getElem?_cons_zero,Option.getD_some];exact Jx0 _ _ _
theorem Jyj{P:Program}{mv:Nat}{ms:List Nat}:∀ (l:List Oper) (m:List Nat) (i j:Nat) (o:Oper) (a:Nat),l[j]? =some o→m[j]? =some a→Jfj (kdOf P o.op)=true→loM mv a ms 0≠hiM mv (i+j) ms 0→
  m.length=l.length→(i+j,o,a,loM mv a ms 0,hiM mv (i+j) ms 0) ∈ winM P mv ms l m i:=by
 intro l
 induction l with
 | nil=>intro m i j o a h;simp at h
 | cons x l ih=>
  intro m i j o a hj hm hr hne hlen
  cases m with
  | nil=>simp at hm
  | cons b m=>
   have e0:winM P mv ms (x::l) (b::m) i=Bool.rec (winM P mv ms l m (Nat.succ i)) (Bool.rec ((i,x,b,loM mv b ms 0,hiM mv i ms 0)::winM P mv ms l m (Nat.succ i)) (winM P mv ms l m (Nat.succ i)) (Nat.beq (loM mv b ms 0) (hiM mv i ms 0))) (Jfj (kdOf P x.op)):=rfl;rw [e0]
   cases j with
   | zero=>
    simp at hj hm;subst hj;subst hm;rw [Nat.add_zero] at hne ⊢;have hb:Nat.beq (loM mv b ms 0) (hiM mv i ms 0)=false:=by rw [ze];exact decide_eq_false hne
    rw [hr,hb];exact List.mem_cons_self
   | succ j=>
    have:=ih m (Nat.succ i) j o a (by simpa using hj) (by simpa using hm) hr (by rw [show Nat.succ i+j=i+(j+1) by omega];exact hne) (by simpa using hlen)
    rw [show Nat.succ i+j=i+(j+1) by omega] at this
    cases Jfj (kdOf P x.op) with
    | false=>exact this
    | true=>
     cases Nat.beq (loM mv b ms 0) (hiM mv i ms 0) with
     | true=>exact this
     | false=>exact List.mem_cons_of_mem _ this
section
variable (R:Run P call n ops f h S) (K:Lk P n ops)
include R
theorem Run.rs{k:Nat}{o:Oper}(ho:ops[k]? =some o)(hr:kdOf P o.op= .read)(hw:zw ops o.guard (S k).f=some true):
  ∃ v h',evOp P call o.op (S k).f ⟨Z7 (S k).qt (msk ops k) (S k).fl (S k).h.t,(S k).h.n⟩= .ok v h'∧(∀ t,o.dst=some t→t < 4096→getF t (S (k+1)).f=v)∧∀ j,k+1≤j→j≤ops.size→Jdn (S j).rs k=some ((S k).f,v):=by
 have hkN:=(Array.getElem?_eq_some_iff.1 ho).1;obtain⟨hlo,⟨_,v,s1,⟨h',g1⟩,g2⟩ | ⟨hw2,g2⟩⟩:=R.st k o ho
 ·rw [hr] at g1;simp only at g1;refine⟨v,h',g1.1,?_,?_⟩
  ·intro t hd ht;rw [g2,hd]
   show getF t (setF t v (S k).f)=v
   rw [Xt _ _ _ _ ht ht,if_pos rfl]
  ·intro j hj
   induction hj with
   | refl=>
    intro _;rw [g2,g1.2]
    show(Bool.rec (Jdn (S k).rs k) (some ((S k).f,v)) (Nat.beq k k):Option (Fr × AV))=_
    rw [show Nat.beq k k=true from Nat.beq_refl k]
   | step hj ih=>
    rename_i j
    intro hjN;have hjN:j+1≤ops.size:=hjN;have hj:k+1≤j:=hj;have hoj:ops[j]? =some ops[j]:=by simp [show j < ops.size by omega]
    have ih:=ih (by omega);obtain⟨_,⟨_,v2,s2,⟨h2,q1⟩,q2⟩ | ⟨_,q2⟩⟩:=R.st j _ hoj
    ·cases hk:kdOf P ops[j].op with
     | pure=>rw [hk] at q1;simp only at q1;rw [q2,q1.2];exact ih
     | quiet=>rw [hk] at q1;simp only at q1;rw [q2,q1.2];exact ih
     | move=>rw [hk] at q1;simp only at q1;rw [q2,q1.2];exact ih
     | read=>
      rw [hk] at q1;simp only at q1;rw [q2,q1.2]
      show(Bool.rec (Jdn (S j).rs k) (some ((S j).f,v2)) (Nat.beq j k):Option (Fr × AV))=_
      have:Nat.beq j k=false:=by rw [ze];exact decide_eq_false (by omega)
      rw [this];exact ih
    ·rw [q2];exact ih
 ·rw [hw] at hw2;cases hw2
include K
theorem stepI (hfin:∀ id,h.n≤id→id < big5→get5 id h.t=none) (hwin:∀ p ∈ winM P (movM P ops.toList 0) (ancM ops.toList []) ops.toList (ancM ops.toList []) 0,∀ r,Jdn (S ops.size).rs p.1=some r→∀ x ∈ tk (dr (S ops.size).hs p.2.2.2.1) (Nat.succ (Nat.sub p.2.2.2.2 p.2.2.2.1)),
   ∃ h',evOp P call p.2.1.op r.1 ⟨Z7 (S ops.size).qt p.2.2.1 x.2 x.1.t,(S ops.size).h.n⟩= .ok r.2 h')
  {Φ0 Φ:Phi} {τ0 τ:Tau} {w0 w:World} {L:Array Bool} {F:Wf.Fr} (I:IvS P ops f h S Φ0 τ0 w0 L F w Φ τ) (hs:L.size=ops.size) (hc:Yh ops L) {i:Nat} {o:Oper} (ho:ops[i]? =some o) (hi:L.getD i false=false)
  (hp:∀ e ∈ o.after,Region.binds .any e=true→L.getD e.on false=true):
  lo n o.dst∧OpSt P ops F o w (fun v w'=>∃ Φ' τ',IvS P ops f h S Φ0 τ0 w0 (L.setIfInBounds i true) (updO F o.dst v) w' Φ' τ') (fun _ _=>False):=by
 have hiN:=(Array.getElem?_eq_some_iff.1 ho).1;have hmono1:=R.mono i (i+1) (by omega) (by omega);have hmonoN:=R.mono (i+1) ops.size (by omega) (Nat.le_refl _);have hlimN:=(R.lims ops.size (Nat.le_refl _));have hlimi:=R.lims i (by omega);obtain⟨hhl,hlx,hlat,hlt,hln⟩:=R.hs i (by omega);have hlatN:=(R.hs_pre i ops.size (by omega) (Nat.le_refl _)).1 _ _ hlat;have hqN:=(R.hs_pre i ops.size (by omega) (Nat.le_refl _)).2;have setv:∀ {t:Nat} {v:AV} {g:Fr},t < 4096→o.dst=some t→getF t (setd o.dst v g)=v:=by
  intro t v g ht hd;rw [hd]
  show getF t (setF t v g)=v
  rw [Xt _ _ _ _ ht ht,if_pos rfl]
 have relAt:∀ {x:Hp × Nat},(S ops.size).hs[cnt P ops L]? =some x→∀ {qt:QT} {m:Nat},(∀ e ∈ qt,e ∈ (S ops.size).qt∧e.2.1 < m)→x.1.n≤m→m≤big5→Rel Φ τ ⟨Z7 qt (msk ops i) x.2 x.1.t,m⟩ w:=by
  intro x hx qt m hq h1 h2;refine Jgs (I.rel x hx) h1 h2 (fun e he=>(hq e he).2) fun e he ha hf b hb=>?_
  exact I.qs x hx e (hq e he).1 (Jkw hs hc i o e.1 ho hp ha) hf b hb
 obtain⟨hlo,hst⟩:=R.st i o ho;refine⟨hlo,?_⟩;obtain⟨g,hF,hev⟩:=frmOp R K I hs hc ho hi hp
 rcases hst with ⟨hw,v,s1,⟨h',g1⟩,g2⟩ | ⟨hw,g2⟩
 ·have hwant:=Jl1 R K I hs hc ho hi hp hw;unfold OpSt;rw [if_pos hwant]
  cases hk:kdOf P o.op with
  | pure=>
   have hmv:isMv P ops i=false:=by rw [Vp ho,hk];rfl
   rw [hk] at g1;simp only at g1;obtain⟨g1,rfl⟩:=g1;rw [hev] at g1;obtain⟨_,pu⟩:=Jcm hk g1;obtain⟨dst,op,ty,pos,after,gd⟩:=o
   refine(pu Φ F w dst ty pos after gd hF).mono ?_ fun _ _ h=>h
   rintro x w' ⟨rfl,hv⟩;refine⟨Φ,τ,I.upd R K hs ho hi I.tw (Sub.refl _) (fun j hj hne hl=>I.fre j hj hl) (fun t ht hd=>?_) ?_ ?_⟩
   ·rw [g2];simp only;rw [setv ht hd];exact hv
   ·rw [hmv];exact I.rel
   ·rw [hmv];intro x hx e he hl
    rcases hl with hl | hl
    ·obtain⟨_,o',_,_,ho',hk',_⟩:=R.qt _ (Nat.le_refl _) e he;rw [hl,ho] at ho';cases ho';rw [hk] at hk';cases hk'
    ·exact I.qs x hx e he hl
  | read=>
   have hmv:isMv P ops i=false:=by rw [Vp ho,hk];rfl
   obtain⟨vr,hr',e1,e2,e3⟩:=R.rs ho hk hw;have e3:=e3 ops.size (by omega) (Nat.le_refl _);have hlo1:loM (movM P ops.toList 0) (msk ops i) (ancM ops.toList []) 0≤cnt P ops L:=by
    rw [Jzc,j2];unfold cnt
    apply List.countP_mono_left
    intro j hj hb;rw [Nat.zero_add] at hb;have e5:tb (Nat.land (movM P ops.toList 0) (msk ops i)) j=(tb (movM P ops.toList 0) j && tb (msk ops i) j):=by rw [j9,j9,j9];exact Nat.testBit_and _ _ _
    rw [e5,mvM] at hb;obtain⟨b1,b2⟩:=Zp hb;rw [Jkw hs hc i o j ho hp b2,b1];rfl
   have hhi1:cnt P ops L≤hiM (movM P ops.toList 0) i (ancM ops.toList []) 0:=by
    rw [Jwl,j2];unfold cnt
    apply List.countP_mono_left
    intro j hj hb;have hj:j < ops.size:=by simpa using hj
    obtain⟨b1,b2⟩:=Zp hb;rw [Nat.zero_add,mvM,b2]
    cases hd:tb (((ancM ops.toList [])[j]?).getD 0) i with
    | false=>rfl
    | true=>
     have:=notL hs hc hj hi hd
     rw [b1] at this;cases this
   have hlo2:loM (movM P ops.toList 0) (msk ops i) (ancM ops.toList []) 0≤mcn P ops i:=by
    rw [Jzc,j2];unfold mcn;rw [← qk (isMv P ops) ops.size i (by omega)]
    apply List.countP_mono_left
    intro j hj hb;rw [Nat.zero_add] at hb;have e5:tb (Nat.land (movM P ops.toList 0) (msk ops i)) j=(tb (movM P ops.toList 0) j && tb (msk ops i) j):=by rw [j9,j9,j9];exact Nat.testBit_and _ _ _
    rw [e5,mvM] at hb;obtain⟨b1,b2⟩:=Zp hb;rw [b1,decide_eq_true (Jfr i o j ho K.back b2)];rfl
   have hhi2:mcn P ops i≤hiM (movM P ops.toList 0) i (ancM ops.toList []) 0:=by
    rw [Jwl,j2];unfold mcn;rw [← qk (isMv P ops) ops.size i (by omega)]
    apply List.countP_mono_left
    intro j hj hb;have hj:j < ops.size:=by simpa using hj
    obtain⟨b1,b2⟩:=Zp hb;have b1:j < i:=of_decide_eq_true b1;rw [Nat.zero_add,mvM,b2]
    cases hd:tb (((ancM ops.toList [])[j]?).getD 0) i with
    | false=>rfl
    | true=>
     have:=Jfr j ops[j] i (by simp [hj]) K.back hd
     omega
   have hlenN:=(R.hs ops.size (Nat.le_refl _)).1;have hcN:cnt P ops L≤mcn P ops ops.size:=by
    unfold cnt mcn
    apply List.countP_mono_left
    intro j _ hb
    exact(Zp hb).2
   obtain⟨x,hx⟩:∃ x,(S ops.size).hs[cnt P ops L]? =some x:=⟨_,List.getElem?_eq_getElem (by omega)⟩;have rd:∃ hq,evOp P call o.op (S i).f hq= .ok vr hr'∨(∃ h2,evOp P call o.op (S i).f hq= .ok vr h2)∧True:=⟨_,.inl e1⟩;have core:∃ H h2,evOp P call o.op (S i).f H= .ok vr h2∧Rel Φ τ H w:=by
    by_cases hne:loM (movM P ops.toList 0) (msk ops i) (ancM ops.toList []) 0=hiM (movM P ops.toList 0) i (ancM ops.toList []) 0
    ·have hcc:cnt P ops L=mcn P ops i:=by omega
     rw [← hcc] at hlatN;refine⟨_,_,e1,?_⟩
     have:=relAt hlatN (qt:=(S i).qt) (m:=(S i).h.n) (fun e he=>⟨hqN e he,(R.qt_id (by omega) e he).1⟩) hln hlimi.1
     rw [hlt];exact this
    ·have hmem:=Jyj (P:=P) (mv:=movM P ops.toList 0) (ms:=ancM ops.toList []) ops.toList (ancM ops.toList []) 0 i o (msk ops i) (by simpa using ho) (Jc9 hiN) (by rw [hk];rfl) (by rw [Nat.zero_add];exact hne) (by rw [j2];simp);rw [Nat.zero_add] at hmem;have hxm:x ∈ tk (dr (S ops.size).hs (loM (movM P ops.toList 0) (msk ops i) (ancM ops.toList []) 0)) (Nat.succ (Nat.sub (hiM (movM P ops.toList 0) i (ancM ops.toList []) 0) (loM (movM P ops.toList 0) (msk ops i) (ancM ops.toList []) 0))):=by
      rw [Js8,vg]
      apply List.mem_of_getElem? (i:=cnt P ops L - loM (movM P ops.toList 0) (msk ops i) (ancM ops.toList []) 0)
      rw [List.getElem?_take,if_pos,List.getElem?_drop]
      ·rw [← hx];congr 1;omega
      ·show _ < (hiM (movM P ops.toList 0) i (ancM ops.toList []) 0 - loM (movM P ops.toList 0) (msk ops i) (ancM ops.toList []) 0)+1
       omega
     obtain⟨h2,hh2⟩:=hwin _ hmem _ e3 x hxm;refine⟨_,h2,hh2,?_⟩;have hxn:x.1.n≤(S ops.size).h.n:=by
      have key:∀ j,j≤ops.size→∀ (p:Nat) y,(S j).hs[p]? =some y→y.1.n≤(S j).h.n:=by
       intro j
       induction j with
       | zero=>
        intro _ p y hy;rw [R.s0] at hy ⊢
        cases p with
        | zero=>simp at hy;subst hy;exact Nat.le_refl _
        | succ p=>simp at hy
       | succ j ih=>
        intro hj p y hy;have hoj:ops[j]? =some ops[j]:=by simp [show j < ops.size by omega]
        have hm:=R.mono j (j+1) (by omega) hj;have old:(S j).hs[p]? =some y→y.1.n≤(S (j+1)).h.n:=fun hy=>Nat.le_trans (ih (by omega) p y hy) hm;have new_:∀ z:Hp × Nat,z.1.n≤(S (j+1)).h.n→((S j).hs++[z])[p]? =some y→y.1.n≤(S (j+1)).h.n:=by
         intro z hz hy;rw [List.getElem?_append] at hy
         split at hy
         ·exact old hy
         ·have:=(List.getElem?_eq_some_iff.1 hy).1
          have e0:p - (S j).hs.length=0:=by simp at this;omega
          rw [e0] at hy;simp at hy;subst hy;exact hz
        obtain⟨_,⟨_,v2,s2,⟨h2,q1⟩,q2⟩ | ⟨_,q2⟩⟩:=R.st j _ hoj
        ·cases hkj:kdOf P ops[j].op with
         | pure=>
              rw [hkj] at q1;simp only at q1;have e9:(S (j+1)).hs=(S j).hs:=by rw [q2,q1.2]
              rw [e9] at hy;exact old hy
         | read=>
              rw [hkj] at q1;simp only at q1;have e9:(S (j+1)).hs=(S j).hs:=by rw [q2,q1.2]
              rw [e9] at hy;exact old hy
         | quiet=>
               rw [hkj] at q1;simp only at q1;have e9:(S (j+1)).hs=(S j).hs:=by rw [q2,q1.2]
               rw [e9] at hy;exact old hy
         | move=>
          rw [hkj] at q1;simp only at q1;have e9:(S (j+1)).hs=(S j).hs++[(h2,Nat.lor (S j).fl (msk ops j))]:=by rw [q2,q1.2]
          rw [e9] at hy;exact new_ _ (by rw [q2,q1.2];exact Nat.le_refl _) hy
        ·have e9:(S (j+1)).hs=if Y0 (kdOf P ops[j].op) then(S j).hs++[((S j).h,(S j).fl)] else(S j).hs:=by rw [q2]
         rw [e9] at hy
         split at hy
         ·exact new_ _ hm hy
         ·exact old hy
      exact key ops.size (Nat.le_refl _) _ x hx
     exact relAt hx (fun e he=>⟨he,(R.qt_id (Nat.le_refl _) e he).1⟩) hxn hlimN.1
   obtain⟨H,h2,hev2,hrel⟩:=core;rw [hev] at hev2;obtain⟨_,rdd⟩:=Jcp hk hev2;obtain⟨dst,op,ty,pos,after,gd⟩:=o
   refine(rdd Φ τ F w dst ty pos after gd hF hrel).mono ?_ fun _ _ h=>h
   rintro y w' ⟨rfl,hv⟩;refine⟨Φ,τ,I.upd R K hs ho hi I.tw (Sub.refl _) (fun j hj hne hl=>I.fre j hj hl) (fun t ht hd=>?_) ?_ ?_⟩
   ·rw [e2 t hd ht];exact hv
   ·rw [hmv];exact I.rel
   ·rw [hmv];intro x hx e he hl
    rcases hl with hl | hl
    ·obtain⟨_,o',_,_,ho',hk',_⟩:=R.qt _ (Nat.le_refl _) e he;rw [hl,ho] at ho';cases ho';rw [hk] at hk';cases hk'
    ·exact I.qs x hx e he hl
  | quiet=>
   have hmv:isMv P ops i=false:=by rw [Vp ho,hk];rfl
   rw [hk] at g1;simp only at g1;obtain⟨g1,hs1⟩:=g1;have g1':=g1;rw [hev] at g1;obtain⟨b,hb,hh,qt⟩:=Xq hk g1;have hni:(S (i+1)).h.n=(S i).h.n+1:=by rw [g2,hs1,hh]
   have hfr:Φ (S i).h.n=none:=I.fre i hiN hi _ (Nat.le_refl _) (by omega);obtain⟨dst,op,ty,pos,after,gd⟩:=o
   refine(qt Φ F w dst ty pos after gd hF hfr).mono ?_ fun _ _ h=>h
   rintro y w' ⟨kk,O,wn,hv,nb⟩;have hsub:Sub Φ (ext Φ (S i).h.n ⟨w.heap.size,0,kk⟩):=Sub.ext hfr;have hkeep:∀ g,g < w.heap.size→w'.heap[g]? =w.heap[g]? ∧(if g=w.heap.size then(if b.ro then Lab.ro else Lab.own (S i).h.n) else τ g)=τ g:=fun g hg=>⟨wn.old g hg,if_neg (by omega)⟩;refine⟨_,fun g=>if g=w.heap.size then(if b.ro then Lab.ro else Lab.own (S i).h.n) else τ g,I.upd R K hs ho hi ?_ hsub ?_ ?_ ?_ ?_⟩
   ·refine⟨wn.os.trans I.tw.os,wn.tape.trans I.tw.tape,wn.output.trans I.tw.output,by rw [wn.size];have:=I.tw.size;omega,I.tw.sub.trans hsub,?_,?_⟩
    ·intro id hid;rw [← I.tw.same id hid];unfold ext;rw [if_neg (by omega)]
    ·intro g hg hkp;obtain⟨k1,k2⟩:=I.tw.keep g hg hkp;obtain⟨k3,k4⟩:=hkeep g (Nat.lt_of_lt_of_le hg I.tw.size);exact⟨k3.trans k1,k4.trans k2⟩
   ·intro j hj hne hl id h1 h2
    have:=I.fre j hj hl id h1 h2
    unfold ext;rw [if_neg]
    ·exact this
    ·rintro rfl;exact R.apart hiN hj (fun e=>hne e.symm) (Nat.le_refl _) (by omega) ⟨h1,h2⟩
   ·intro t ht hd;rw [g2];simp only;rw [setv ht hd];exact hv
   ·rw [hmv];intro x hx
    exact(I.rel x hx).kept hsub hkeep
   ·rw [hmv];intro x hx e he hl htb b' hb'
    rcases hl with hl | hl
    ·
     obtain⟨he0,oq,vq,bq,hoq,hkq,hwq,hevq,hidq,hbq,_,_⟩:=R.qt _ (Nat.le_refl _) e he;rw [hl,ho] at hoq;cases hoq;rw [hl] at hevq hidq;rw [g1'] at hevq;have h9:=(Jv hevq).2;rw [hh] at h9;have h10:=congrArg Hp.t h9;have h11:get5 (S i).h.n (set5 (S i).h.n (some b) (S i).h.t)=get5 (S i).h.n (set5 (S i).h.n (some bq) (S i).h.t):=by
      have:set5 (S i).h.n (some b) (S i).h.t=set5 (S i).h.n (some bq) (S i).h.t:=h10
      rw [this]
     rw [Zo _ _ _ _ hb hb,Zo _ _ _ _ hb hb,if_pos rfl,if_pos rfl] at h11
     cases h11
     rw [hbq] at hb'
     cases hb'
     rw [hidq];exact nb _ _ _ hsub (Vj _ _ _) wn.new_ (if_pos rfl)
    ·obtain⟨en,_,hlt,_,k⟩:=(I.qs x hx e he hl htb b' hb').at_;exact k hsub (hkeep _ hlt).1 (hkeep _ hlt).2
  | move=>
   have hmv:isMv P ops i=true:=by rw [Vp ho,hk];rfl
   have hcc:=yr K hs hc ho hi hp hmv;rw [hk] at g1;simp only at g1;obtain⟨g1,hs1⟩:=g1;rw [hev] at g1;obtain⟨gw,sop⟩:=Jcw R.cs g1;have gw:=gw hlimi.1;have hn1:(S (i+1)).h=h':=by rw [g2,hs1]
   have hlatC:(S ops.size).hs[cnt P ops L]? =some (hlx,(S i).fl):=by rw [hcc];exact hlatN
   have hrelE:Rel Φ τ ⟨Z7 (S i).qt (msk ops i) (S i).fl (S i).h.t,(S i).h.n⟩ w:=by
    have:=relAt hlatC (qt:=(S i).qt) (m:=(S i).h.n) (fun e he=>⟨hqN e he,(R.qt_id (by omega) e he).1⟩) hln hlimi.1
    rw [hlt];exact this
   have hqb:∀ e ∈ (S i).qt,e.2.1 < big5:=fun e he=>(R.qt_id (by omega) e he).2.1;have hnone:=R.none_ hfin ops.size (Nat.le_refl _) _ _ hlatN;obtain⟨dst,op,ty,pos,after,gd⟩:=o
   refine(sop Φ τ F w dst ty pos after gd hF hrelE (by rw [← hn1];exact I.fre i hiN hi)).mono ?_ fun _ _ h=>h
   rintro y w' ⟨Φ',τ',hv,hrel',tw'⟩;have hnew:(S ops.size).hs[cnt P ops L+1]? =some (h',Nat.lor (S i).fl (msk ops i)):=by
    refine(R.hs_pre (i+1) ops.size (by omega) (Nat.le_refl _)).1 _ _ ?_
    have e9:(S (i+1)).hs=(S i).hs++[(h',Nat.lor (S i).fl (msk ops i))]:=by rw [g2,hs1]
    rw [e9,hcc,List.getElem?_append_right (by omega),hhl,Nat.sub_self];rfl
   have hnN:h'.n≤(S ops.size).h.n:=by rw [← hn1];exact hmonoN
   refine⟨Φ',τ',I.upd R K hs ho hi ?_ tw'.sub ?_ ?_ ?_ ?_⟩
   ·refine⟨tw'.os.trans I.tw.os,tw'.tape.trans I.tw.tape,tw'.output.trans I.tw.output,Nat.le_trans I.tw.size tw'.size,I.tw.sub.trans tw'.sub,?_,?_⟩
    ·intro id hid;rw [tw'.same id (fun hh=>hid ⟨Nat.le_trans hlimi.2 hh.1,Nat.lt_of_lt_of_le hh.2 hnN⟩),I.tw.same id hid]
    ·intro g hg hkp;obtain⟨k1,k2⟩:=I.tw.keep g hg hkp;obtain⟨k3,k4⟩:=tw'.keep g (Nat.lt_of_lt_of_le hg I.tw.size) (fun id e=>by
      rw [k2] at e;obtain⟨z1,z2⟩:=hkp id e;refine⟨fun hid=>?_,fun hh=>z2 ⟨Nat.le_trans hlimi.2 hh.1,Nat.lt_of_lt_of_le hh.2 hnN⟩⟩;have hid:id < (S i).h.n:=hid;have hidh:id < h.n:=by
       rcases Nat.lt_or_ge id h.n with hl | hl
       ·exact hl
       ·exact absurd ⟨hl,by omega⟩ z2
      show get5 id (Z7 (S i).qt (msk ops i) (S i).fl (S i).h.t)=none
      rcases zf (a:=msk ops i) (fl:=(S i).fl) (t:=(S i).h.t) (id:=id) (by have:=R.lim;omega) (S i).qt hqb with ⟨q1,_⟩ | ⟨e',q1,q2,_⟩
      ·rw [q1,hlt];exact hnone.2 id hidh (z1 hidh)
      ·have:=(R.qt_id (by omega) e' q1).2.2
       omega)
     exact⟨k3.trans k1,k4.trans k2⟩
   ·intro j hj hne hl id h1 h2;rw [tw'.same id (fun hh=>R.apart hj hiN hne h1 h2 ⟨hh.1,by rw [hn1];exact hh.2⟩)];exact I.fre j hj hl id h1 h2
   ·intro t ht hd;rw [g2];simp only;rw [setv ht hd];exact hv
   ·rw [hmv];intro x hx;simp only [if_true] at hx;rw [hnew] at hx;cases hx;exact hrel'
   ·rw [hmv];intro x hx e he hl htb b' hb';simp only [if_true] at hx;rw [hnew] at hx;cases hx;simp only at htb;rw [zl] at htb;obtain⟨t1,t2⟩:=Bool.or_eq_false_iff.1 htb;obtain⟨he0,oq,vq,bq,hoq,hkq,_,_,hidq,_,hnq,hbq⟩:=R.qt _ (Nat.le_refl _) e he;have hne:e.1≠i:=by
     intro e1;rw [e1,ho] at hoq;cases hoq;rw [hk] at hkq;cases hkq
    have hl:L.getD e.1 false=true:=hl.resolve_left hne;have hnoq:=hnone.1 e he t1;obtain⟨en,_,hlt2,hlab,kk⟩:=(I.qs _ hlatC e he hl t1 b' hb').at_;have hkp:=tw'.keep en.g hlt2 (fun id e9=>by
     rw [hlab] at e9
     split at e9
     ·cases e9
     ·cases e9
      refine⟨fun _=>?_,fun hh=>R.apart he0 hiN hne (by omega) (by omega) ⟨hh.1,by rw [hn1];exact hh.2⟩⟩
      show get5 e.2.1 (Z7 (S i).qt (msk ops i) (S i).fl (S i).h.t)=none
      rcases zf (a:=msk ops i) (fl:=(S i).fl) (t:=(S i).h.t) (id:=e.2.1) (by omega) (S i).qt hqb with ⟨q1,_⟩ | ⟨e',q1,q2,q3,q4,_⟩
      ·rw [q1,hlt];exact hnoq
      ·have:=R.one (Nat.le_refl _) (hqN e' q1) he q2
       rw [this] at q3;rw [q3] at t2;cases t2)
    exact kk tw'.sub hkp.1 hkp.2
 ·
  have hwant:=Jl1 R K I hs hc ho hi hp hw;unfold OpSt;rw [if_neg (by rw [hwant];simp)];refine⟨Φ,τ,I.upd R K hs ho hi I.tw (Sub.refl _) (fun j hj hne hl=>I.fre j hj hl) (fun t ht hd=>?_) ?_ ?_⟩
  ·rw [g2];simp only;rw [setv ht hd];simp only [Rv,RvL];exact⟨[],rfl,rfl⟩
  ·cases hmv:isMv P ops i with
   | false=>exact I.rel
   | true=>
    have hcc:=yr K hs hc ho hi hp hmv;have hnew:(S ops.size).hs[cnt P ops L+1]? =some ((S i).h,(S i).fl):=by
     refine(R.hs_pre (i+1) ops.size (by omega) (Nat.le_refl _)).1 _ _ ?_
     have hm2:Y0 (kdOf P o.op)=true:=by rw [← Vp (P:=P) ho];exact hmv
     have e9:(S (i+1)).hs=(S i).hs++[((S i).h,(S i).fl)]:=by rw [g2];simp only;rw [if_pos hm2]
     rw [e9,hcc,List.getElem?_append_right (by omega),hhl,Nat.sub_self];rfl
    intro x hx;simp only [if_true] at hx;rw [hnew] at hx;cases hx;have r0:=I.rel (hlx,(S i).fl) (by rw [hcc];exact hlatN);refine⟨hlimi.1,fun id b hid hb=>?_,fun id hid h5=>?_⟩
    ·have hid:id < (S i).h.n:=hid;have hb:get5 id (S i).h.t=some b:=hb;rw [hlt] at hb
     rcases Nat.lt_or_ge id hlx.n with hl | hl
     ·exact r0.blk id b hl hb
     ·rw [r0.fin id hl (by omega)] at hb;cases hb
    ·show get5 id (S i).h.t=none
     rw [hlt];exact r0.fin id (Nat.le_trans hln hid) h5
  ·intro x hx e he hl htb b' hb';have hq:e.1=i→False:=by
    intro e1;obtain⟨_,o',_,_,ho',_,hwq,_⟩:=R.qt _ (Nat.le_refl _) e he;rw [e1,ho] at ho';cases ho';rw [e1,hw] at hwq;cases hwq
   have hl:L.getD e.1 false=true:=hl.resolve_left hq
   cases hmv:isMv P ops i with
   | false=>rw [hmv] at hx;exact I.qs x hx e he hl htb b' hb'
   | true=>
    rw [hmv] at hx;have hcc:=yr K hs hc ho hi hp hmv;have hnew:(S ops.size).hs[cnt P ops L+1]? =some ((S i).h,(S i).fl):=by
     refine(R.hs_pre (i+1) ops.size (by omega) (Nat.le_refl _)).1 _ _ ?_
     have hm2:Y0 (kdOf P o.op)=true:=by rw [← Vp (P:=P) ho];exact hmv
     have e9:(S (i+1)).hs=(S i).hs++[((S i).h,(S i).fl)]:=by rw [g2];simp only;rw [if_pos hm2]
     rw [e9,hcc,List.getElem?_append_right (by omega),hhl,Nat.sub_self];rfl
    simp only [if_true] at hx;rw [hnew] at hx;cases hx;exact I.qs (hlx,(S i).fl) (by rw [hcc];exact hlatN) e he hl htb b' hb'
end
end
end Go.Ev
namespace Go.Ev
open Go Go.Wf Go.RowKit
section
variable {fc:Fence} {P:Program} {call:CallF} {n:Nat}
def Vq(fc:Fence)(P:Program)(n:Nat)(c:Code)(o:Fr→Hp→Out):Prop:=∀ f h,okO (o f h)→Gw h (hpO (o f h) h)∧
 ∀ (Φ:Phi) (τ:Tau) (F:Wf.Fr) (w:World) (D:List Deferred),FR Φ f F→Rel Φ τ h w→Fre Φ h.n (hpO (o f h) h).n→W fc P c n D (OutQ Φ τ h w (o f h)) F w
theorem Jmx[Fw fc](hc:CallS P call)(hn:n≤4096)(hm:P.follows .mixedOrders=true)(id:Nat)(ops:Array Oper)(draw:Bool):Vq fc P n (.region id ops draw) (yb P call n ops draw):=by
 intro f h e
 cases draw with
 | false=>
  rw [ky] at e ⊢;obtain⟨g,s⟩:=Jv3 hc hn ops.toList f h e;exact⟨g,fun Φ τ F w D hF hR hFr=>W.region (s Φ τ F w _ hF hR hFr fun _ _ _ q=>q)⟩
 | true=>
  have ed:yb P call n ops true f h=Jjx P call n ops f h:=rfl;rw [ed] at e ⊢;unfold Jjx at e ⊢
  cases hb:Jpw P n ops (ancM ops.toList []) with
  | false=>rw [hb] at e;exact e.elim
  | true=>
   rw [hb] at e;simp only at e ⊢;obtain⟨S,s0,e1,hst⟩:=Jvm _ _ _ _ _ e;rw [e1] at e ⊢;have hlen:0+ops.toList.length=ops.size:=by simp
   rw [hlen] at e ⊢;obtain⟨e2,hwin⟩:=Jv7 _ e;rw [e2] at e ⊢;have K:=Jsa hb;have run:h.n≤big5→Run P call n ops f h S:=fun hl=>⟨s0,fun k o ho=>by
    obtain⟨a,ha,hs⟩:=hst k o (by simpa using ho);have hkN:=(Array.getElem?_eq_some_iff.1 ho).1;rw [Jc9 hkN] at ha
    cases ha
    rw [Nat.zero_add] at hs;exact hs,hc,hn,hl⟩
   have hone:∀ {q:Nat},q < ops.size→tb (Nat.sub (Nat.pow 2 ops.size) 1) q=true:=by
    intro q hq;rw [j9]
    have:=Nat.testBit_two_pow_sub_one ops.size q
    show(2 ^ ops.size - 1).testBit q=true
    rw [this];simpa using hq
   refine⟨fun hl=>?_,fun Φ τ F w D hF hR hFr=>?_⟩
   ·have R:=run hl;obtain⟨hhl,hlx,hlat,hlt,hln⟩:=R.hs ops.size (Nat.le_refl _);have hlims:=R.lims ops.size (Nat.le_refl _);refine⟨hlims.2,?_,fun _=>hlims.1⟩
    intro i h5 hid hnn;have hid:¬ (h.n≤i∧i < (S ops.size).h.n):=hid
    show get5 i (Z7 (S ops.size).qt _ (S ops.size).fl (S ops.size).h.t)=none
    rcases zf (a:=Nat.sub (Nat.pow 2 ops.size) 1) (fl:=(S ops.size).fl) (t:=(S ops.size).h.t) (id:=i) h5 (S ops.size).qt (fun e he=>(R.qt_id (Nat.le_refl _) e he).2.1) with ⟨q1,_⟩ | ⟨e',q1,q2,_⟩
    ·rw [q1,hlt];exact R.none2 ops.size (Nat.le_refl _) _ _ hlat i h5 hid hnn
    ·have q9:=R.qt_id (Nat.le_refl _) e' q1;exact absurd ⟨by omega,by omega⟩ hid
   ·have R:=run hR.lim;have hFr:Fre Φ h.n (S ops.size).h.n:=hFr;have hlims:=R.lims ops.size (Nat.le_refl _);refine J48 hm (fun L F' w'=>∃ Φ' τ',IvS P ops f h S Φ τ w.drew L F' w' Φ' τ') K.back ?_ ?_ ?_
    ·have hz:∀ i,(Array.replicate ops.size false).getD i false=false:=by
      intro i;simp [Array.getD_eq_getD_getElem?]
      by_cases hi:i < ops.size <;> simp [hi]
     have hcnt:cnt P ops (Array.replicate ops.size false)=0:=by
      unfold cnt
      apply List.countP_eq_zero.2
      intro i _;rw [hz];simp
     have hs0:(S ops.size).hs[0]? =some (h,0):=by
      have:=(R.hs_pre 0 ops.size (Nat.zero_le _) (Nat.le_refl _)).1 0 (h,0)
      exact this (by rw [R.s0];rfl)
     refine⟨Φ,τ,Tw.refl _ _ _ _ _,?_,?_,?_,?_,?_⟩
     ·intro i hi _ id h1 h2;have q1:=R.mono (i+1) ops.size (by omega) (Nat.le_refl _);have q2:=(R.lims i (by omega)).2;exact hFr id (by omega) (by omega)
     ·intro t _ j o _ _ hl;rw [hz] at hl;cases hl
     ·intro t ht _;exact hF t ht
     ·intro x hx;rw [hcnt,hs0] at hx;cases hx;exact hR.kept (Sub.refl _) fun g _=>⟨rfl,rfl⟩
     ·intro x _ e _ hl;rw [hz] at hl;cases hl
    ·intro L i o F' w' hs hcl ho hi hp ⟨Φ',τ',I⟩;have hiN:=(Array.getElem?_eq_some_iff.1 ho).1;have hi':L.getD i false=false:=by
      have:L[i]? =some L[i]:=by simp [hs,hiN]
      simp [Array.getD_eq_getD_getElem?,this] at hi ⊢;exact hi
     exact stepI R K hR.fin hwin I hs hcl ho hi' hp
    ·intro L F' w' hs hall ⟨Φ',τ',I⟩;have hall':∀ i,i < ops.size→L.getD i false=true:=by
      intro i hi
      have:=hall i hi
      have h9:L[i]? =some L[i]:=by simp [hs,hi]
      simp [Array.getD_eq_getD_getElem?,h9] at this ⊢;exact this
     have hcnt:cnt P ops L=mcn P ops ops.size:=by
      unfold cnt mcn
      apply List.countP_congr
      intro j hj;rw [hall' j (by simpa using hj)];simp
     obtain⟨hhl,hlx,hlat,hlt,hln⟩:=R.hs ops.size (Nat.le_refl _);refine⟨Φ',τ',?_,?_,?_⟩
     ·intro t ht
      by_cases hex:∃ (j:Nat) (o':Oper),ops[j]? =some o'∧o'.dst=some t
      ·obtain⟨j,o',hj,hd⟩:=hex;have hjN:=(Array.getElem?_eq_some_iff.1 hj).1;have e9:getF t (S ops.size).f=getF t (S (j+1)).f:=R.frames ht (j+1) ops.size (by omega) (Nat.le_refl _) fun k ok h2 h3 hk hd2=>by
        have:=K.uniq j k o' ok t hj hk hd hd2
        omega
       rw [e9];exact I.fw t ht j o' hj hd (hall' j hjN)
      ·have e9:getF t (S ops.size).f=getF t (S 0).f:=R.frames ht 0 ops.size (Nat.zero_le _) (Nat.le_refl _) fun k ok _ _ hk hd=>hex ⟨k,ok,hk,hd⟩;rw [e9,R.s0];exact I.f0 t ht fun j o' hj hd=>absurd ⟨j,o',hj,hd⟩ hex
     ·have hr:=I.rel _ (by rw [hcnt];exact hlat)
      have:=Jgs (a:=Nat.sub (Nat.pow 2 ops.size) 1) (fl:=(S ops.size).fl) hr hln hlims.1 (fun e he=>(R.qt_id (Nat.le_refl _) e he).1) (fun e he _ hf b hb=>I.qs _ (by rw [hcnt];exact hlat) e he (hall' _ (R.qt _ (Nat.le_refl _) e he).1) hf b hb)
      rw [← hlt] at this;exact this
     ·exact⟨I.tw.os,I.tw.tape,I.tw.output,I.tw.size,I.tw.sub,I.tw.same,I.tw.keep⟩
theorem sq_s{c d:Code}{x y:Fr→Hp→Out}(hx:Vq fc P n c x)(hy:Vq fc P n d y):Vq fc P n (.seq c d) (fun f h=>sq (x f h) y):=by
 intro f h e;have e:okO (sq (x f h) y):=e
 show Gw h (hpO (sq (x f h) y) h)∧_
 have hx:=hx f h
 revert e hx
 cases hq:x f h with
 | nx f1 h1=>
  intro e hx;obtain⟨g1,s1⟩:=hx trivial;have e:okO (y f1 h1):=e;obtain⟨g2,s2⟩:=hy f1 h1 e;have g1:Gw h h1:=g1;have eqq:sq (Out.nx f1 h1) y=y f1 h1:=rfl;simp only [hq,eqq];rw [Jmr e h h1];refine⟨g1.trans g2,fun Φ τ F w D hF hR hFr=>?_⟩
  have k1:=g1 hR.lim;have k2:=g2 (k1.lim hR.lim);refine W.seq ((s1 Φ τ F w D hF hR fun id a b=>hFr id a (Nat.lt_of_lt_of_le b k2.le)).mono ?_);intro ex F1 w1 q
  cases ex with
  | normal=>
   obtain⟨Φ1,τ1,hF1,hR1,t1⟩:=q
   refine(s2 Φ1 τ1 F1 w1 D hF1 hR1 fun id a b=>by rw [t1.same id (fun hh=>by have:id < h1.n:=hh.2;omega)];exact hFr id (Nat.le_trans k1.le a) b).mono ?_
   intro ex F2 w2 q2;exact q2.trans t1 k1 (k1.lim hR.lim) k2.le
  | _=>exact q.elim
 | ex i f1 h1=>
  intro e hx;obtain⟨g1,s1⟩:=hx trivial;have eqq:sq (Out.ex i f1 h1) y= .ex i f1 h1:=rfl;simp only [hq,eqq];refine⟨g1,fun Φ τ F w D hF hR hFr=>W.seq ((s1 Φ τ F w D hF hR hFr).mono ?_)⟩;intro ex F1 w1 q
  cases ex with
  | normal=>exact q.elim
  | exit j=>exact q
  | _=>exact q.elim
 | rt f1 h1=>
  intro e hx;obtain⟨g1,s1⟩:=hx trivial;have eqq:sq (Out.rt f1 h1) y= .rt f1 h1:=rfl;simp only [hq,eqq];refine⟨g1,fun Φ τ F w D hF hR hFr=>W.seq ((s1 Φ τ F w D hF hR hFr).mono ?_)⟩;intro ex F1 w1 q
  cases ex with
  | normal=>exact q.elim
  | ret=>exact q
  | _=>exact q.elim
 | pn v f1 h1=>
  intro e hx;obtain⟨g1,s1⟩:=hx trivial;have eqq:sq (Out.pn v f1 h1) y= .pn v f1 h1:=rfl;simp only [hq,eqq];refine⟨g1,fun Φ τ F w D hF hR hFr=>W.seq ((s1 Φ τ F w D hF hR hFr).mono ?_)⟩;intro ex F1 w1 q
  cases ex with
  | normal=>exact q.elim
  | panic ch=>exact q
  | _=>exact q.elim
 | no m=>intro e;exact e.elim
theorem Jw1{c d:Code}{x y:Fr→Hp→Out}(o:Operand)(hx:Vq fc P n c x)(hy:Vq fc P n d y):Vq fc P n (.cond o c d) (Jj5 o x y):=by
 intro f h e;unfold Jj5 at e ⊢
 split at e
 ·rename_i t ht
  cases t with
  | true=>
   obtain⟨g,s⟩:=hx f h e;refine⟨g,fun Φ τ F w D hF hR hFr=>?_⟩
   have:=Jd hF o
   rw [ht] at this;exact J26 this.bI (s Φ τ F w D hF hR hFr)
  | false=>
   obtain⟨g,s⟩:=hy f h e;refine⟨g,fun Φ τ F w D hF hR hFr=>?_⟩
   have:=Jd hF o
   rw [ht] at this;exact J28 this.bI (s Φ τ F w D hF hR hFr)
 ·exact e.elim
theorem blk_s{c:Code}{x:Fr→Hp→Out}(id:Nat)(hx:Vq fc P n c x):Vq fc P n (.block id c) (fun f h=>blkO id (x f h)):=by
 intro f h e;have e:okO (blkO id (x f h)):=e
 show Gw h (hpO (blkO id (x f h)) h)∧_
 have hx:=hx f h
 revert e hx
 cases hq:x f h with
 | nx f1 h1=>
  intro e hx;obtain⟨g1,s1⟩:=hx trivial;have eqq:blkO id (Out.nx f1 h1)= .nx f1 h1:=rfl;simp only [hq,eqq];refine⟨g1,fun Φ τ F w D hF hR hFr=>W.block ((s1 Φ τ F w D hF hR hFr).mono ?_)⟩;intro ex F1 w1 q
  cases ex with
  | normal=>exact q
  | _=>exact q.elim
 | ex i f1 h1=>
  intro e hx;obtain⟨g1,s1⟩:=hx trivial
  by_cases hi:i=id
  ·subst hi;have eqq:blkO i (Out.ex i f1 h1)= .nx f1 h1:=by
    show(Bool.rec (Out.ex i f1 h1) (Out.nx f1 h1) (Nat.beq i i):Out)=_
    rw [show Nat.beq i i=true from Nat.beq_refl i]
   simp only [hq,eqq];refine⟨g1,fun Φ τ F w D hF hR hFr=>W.block ((s1 Φ τ F w D hF hR hFr).mono ?_)⟩;intro ex F1 w1 q
   cases ex with
   | exit j=>
    obtain⟨rfl,q⟩:=q
    show(if i=i then _ else _)
    rw [if_pos rfl];exact q
   | _=>exact q.elim
  ·have eqq:blkO id (Out.ex i f1 h1)= .ex i f1 h1:=by
    show(Bool.rec (Out.ex i f1 h1) (Out.nx f1 h1) (Nat.beq i id):Out)=_
    rw [show Nat.beq i id=false by rw [ze];exact decide_eq_false hi]
   simp only [hq,eqq];refine⟨g1,fun Φ τ F w D hF hR hFr=>W.block ((s1 Φ τ F w D hF hR hFr).mono ?_)⟩;intro ex F1 w1 q
   cases ex with
   | exit j=>
    obtain⟨rfl,q⟩:=q
    show(if i=id then _ else _)
    rw [if_neg hi];exact⟨rfl,q⟩
   | _=>exact q.elim
 | rt f1 h1=>
  intro e hx;obtain⟨g1,s1⟩:=hx trivial;have eqq:blkO id (Out.rt f1 h1)= .rt f1 h1:=rfl;simp only [hq,eqq];refine⟨g1,fun Φ τ F w D hF hR hFr=>W.block ((s1 Φ τ F w D hF hR hFr).mono ?_)⟩;intro ex F1 w1 q
  cases ex with
  | ret=>exact q
  | _=>exact q.elim
 | pn v f1 h1=>
  intro e hx;obtain⟨g1,s1⟩:=hx trivial;have eqq:blkO id (Out.pn v f1 h1)= .pn v f1 h1:=rfl;simp only [hq,eqq];refine⟨g1,fun Φ τ F w D hF hR hFr=>W.block ((s1 Φ τ F w D hF hR hFr).mono ?_)⟩;intro ex F1 w1 q
  cases ex with
  | panic ch=>exact q
  | _=>exact q.elim
 | no m=>intro e;exact e.elim
end
end Go.Ev
namespace Go.Ev
open Go Go.Wf Go.RowKit
section
variable {fc:Fence} {P:Program} {call:CallF} {n:Nat}
theorem Jgp{c:Code}{x:Fr→Hp→Out}(hx:Vq fc P n c x):∀ (m:Nat) (f:Fr) (h:Hp),okO (iter m x f h)→Gw h (hpO (iter m x f h) h):=by
 intro m
 induction m with
 | zero=>intro f h e;exact e.elim
 | succ m ih=>
  intro f h e;have e0:iter (m+1) x f h=sq (x f h) (iter m x):=rfl;rw [e0] at e ⊢;have hx:=hx f h
  revert e hx
  cases hq:x f h with
  | nx f1 h1=>
   intro e hx;obtain⟨g1,_⟩:=hx trivial;have g1:Gw h h1:=g1;have e:okO (iter m x f1 h1):=e;have g2:=ih f1 h1 e;have eqq:sq (Out.nx f1 h1) (iter m x)=iter m x f1 h1:=rfl;rw [eqq];have hh:hpO (iter m x f1 h1) h=hpO (iter m x f1 h1) h1:=by cases hy1:iter m x f1 h1 <;> first | rfl | (rw [hy1] at e;exact e.elim)
   rw [hh];exact g1.trans g2
  | ex i f1 h1=>intro e hx;exact(hx trivial).1
  | rt f1 h1=>intro e hx;exact(hx trivial).1
  | pn v f1 h1=>intro e hx;exact(hx trivial).1
  | no q=>intro e;exact e.elim
theorem Jzm{c:Code}{x:Fr→Hp→Out}(hx:Vq fc P n c x)(m:Nat):Vq fc P n (.loop c) (iter m x):=by
 intro f h e;refine⟨Jgp hx m f h e,fun Φ τ F w D hF hR hFr=>?_⟩
 have hG:=Jgp hx m f h e hR.lim
 generalize hout:iter m x f h=out at e hFr hG
 refine J3j (fun k F' w'=>∃ f' h' Φ' τ',iter k x f' h'=out∧FR Φ' f' F'∧Rel Φ' τ' h' w'∧Tw Φ τ h w Φ' τ' h'.n w'∧Grow h h') m ⟨f,h,Φ,τ,hout,hF,hR,Tw.refl _ _ _ _ _,Grow.refl _⟩ ?_;rintro k F' w' ⟨f',h',Φ',τ',ho,hF',hR',tw,gr⟩;have hi:okO (iter k x f' h'):=by rw [ho];exact e
 cases k with
 | zero=>exact hi.elim
 | succ k=>
  have e0:iter (k+1) x f' h'=sq (x f' h') (iter k x):=rfl;rw [e0] at ho hi;have hgr:=Jgp hx (k+1) f' h' (by rw [e0];exact hi) hR'.lim;rw [e0,ho] at hgr;have hnn:(hpO out h').n=(hpO out h).n:=by cases out <;> first | rfl | exact e.elim
  have hFr':Fre Φ' h'.n (hpO out h).n:=fun id a b=>by
   rw [tw.same id (fun hh=>by have:=hh.2;omega)];exact hFr id (Nat.le_trans gr.le a) b
  have hx':=hx f' h'
  revert ho hi hx'
  cases hq:x f' h' with
  | nx f1 h1=>
   intro ho hi hx';obtain⟨g1,s1⟩:=hx' trivial;have ho:iter k x f1 h1=out:=ho;have k1:Grow h' h1:=g1 hR'.lim;have k2:=Jgp hx k f1 h1 (by rw [ho];exact e) (k1.lim hR'.lim);rw [ho] at k2;have hn1:(hpO out h1).n=(hpO out h).n:=by cases out <;> first | rfl | exact e.elim
   refine(s1 Φ' τ' F' w' D hF' hR' fun id a b=>hFr' id a (Nat.lt_of_lt_of_le b (by rw [← hn1];exact k2.le))).mono ?_
   intro ex F1 w1 q
   cases ex with
   | normal=>
    obtain⟨Φ1,τ1,a,b,c⟩:=q;exact⟨k,Nat.lt_succ_self k,f1,h1,Φ1,τ1,ho,a,b,tw.trans gr k1.le hR'.lim c,gr.trans k1⟩
   | _=>exact q.elim
  | ex i f1 h1=>
   intro ho hi hx';obtain⟨g1,s1⟩:=hx' trivial;have ho:Out.ex i f1 h1=out:=ho;subst ho;have k1:Grow h' h1:=g1 hR'.lim
   refine(s1 Φ' τ' F' w' D hF' hR' hFr').mono ?_
   intro ex F1 w1 q
   cases ex with
   | exit j=>
    obtain⟨rfl,Φ1,τ1,a,b,c⟩:=q;exact⟨rfl,Φ1,τ1,a,b,tw.trans gr k1.le hR'.lim c⟩
   | _=>exact q.elim
  | rt f1 h1=>
   intro ho hi hx';obtain⟨g1,s1⟩:=hx' trivial;have ho:Out.rt f1 h1=out:=ho;subst ho;have k1:Grow h' h1:=g1 hR'.lim
   refine(s1 Φ' τ' F' w' D hF' hR' hFr').mono ?_
   intro ex F1 w1 q
   cases ex with
   | ret=>
    obtain⟨Φ1,τ1,a,b,c⟩:=q;exact⟨Φ1,τ1,a,b,tw.trans gr k1.le hR'.lim c⟩
   | _=>exact q.elim
  | pn v f1 h1=>
   intro ho hi hx';obtain⟨g1,s1⟩:=hx' trivial;have ho:Out.pn v f1 h1=out:=ho;subst ho;have k1:Grow h' h1:=g1 hR'.lim
   refine(s1 Φ' τ' F' w' D hF' hR' hFr').mono ?_
   intro ex F1 w1 q
   cases ex with
   | panic ch=>
    obtain⟨z,Φ1,τ1,d1,d2,a,b,c⟩:=q;exact⟨z,Φ1,τ1,d1,d2,a,b,tw.trans gr k1.le hR'.lim c⟩
   | _=>exact q.elim
  | no q=>intro _ hi;exact hi.elim
theorem W.label{l:Nat}{D:List Deferred}{Q:Wf.Post}{F:Wf.Fr}{w:World}(h:Q .normal F w):W fc P (Code.label l) n D Q F w:=fun a ha hf=>wpIn_label ⟨ha,by rw [hf];exact h⟩
theorem Ku{b:Frame}{a:Act}{k:List Item}{cs:List Frame}{w:World}{c:Code}:step P (lone (b.atR a (.code (.scope c)::k)) cs w)= .next (lone (b.atR a (.code c:: .inScope c::k)) cs w):=
 step_lone_go (by simp [stepG,stepG.exec,Frame.atR])
theorem Jba{b:Frame}{a:Act}{k:List Item}{cs:List Frame}{w:World}{c:Code}:step P (lone (b.atR a (.inScope c::k)) cs w)= .next (lone (b.atR a k) cs w):=
 step_lone_go (by simp [stepG,stepG.exec,Frame.atR])
theorem Jhj{Q:Exit→Act→World→Prop}{a:Act}{w:World}{c:Code}{m:Nat}(h:c.wpIn fc m P (Exit.noGoto Q) a w):(Code.scope c).wpIn fc m P Q a w:=by
 intro b k cs hro hb hr;have h0:(lone (b.atR a (.code (.scope c)::k)) cs w).fenced P fc:=fenced_calm hb hr rfl;obtain⟨e,a₁,w₁,hq,harr⟩:=h b (.inScope c::k) cs hro hb hr
 cases e with
 | normal=>exact⟨.normal,a₁,w₁,hq,.head h0 Ku (StepsIn.trans harr (.one (fenced_calm hb hr rfl) Jba))⟩
 | exit id=>
  have hx:exitTo id (.inScope c::k)=exitTo id k:=by simp [exitTo]
  exact⟨_,a₁,w₁,hq,fun k' hk=> .head h0 Ku (harr.1 k' (by rw [hx];exact hk)),
   fun hr' hk=>let ⟨k₁,h1,h2⟩:=harr.2 hr' (by rw [hx];exact hk);⟨k₁,h1,.head h0 Ku h2⟩⟩
 | goto l=>exact hq.elim
 | ret=>exact⟨_,a₁,w₁,hq,.of_steps (.one h0 Ku) harr⟩
 | panic ch=>exact⟨_,a₁,w₁,hq,.of_steps (.one h0 Ku) harr⟩
 | outgrown=>exact⟨_,a₁,w₁,hq,.of_steps (.one h0 Ku) harr⟩
theorem Jr2{c:Code}{x:Fr→Hp→Out}(hx:Vq fc P n c x):Vq fc P n (.scope c) x:=by
 intro f h e;obtain⟨g,s⟩:=hx f h e;refine⟨g,fun Φ τ F w D hF hR hFr a ha hf=>Jhj (wpIn_mono (s Φ τ F w D hF hR hFr a ha hf) ?_)⟩;rintro ex a' w' ⟨k1,k2⟩
 cases ex with
 | goto l=>cases hq:x f h <;> rw [hq] at k2 <;> exact k2.elim
 | _=>exact⟨k1,k2⟩
theorem Jgj[Fw fc](hc:CallS P call)(hn:n≤4096)(hm:P.follows .mixedOrders=true)(c:Code):Vq fc P n c (Xm P call n c):=by
 induction c with
 | skip=>intro f h e;exact⟨Gw.refl _,fun Φ τ F w D hF hR _=>W.skip ⟨Φ,τ,hF,hR,Tw.refl _ _ _ _ _⟩⟩
 | region id ops draw=>exact Jmx hc hn hm id ops draw
 | seq a b iha ihb=>exact sq_s iha ihb
 | cond o a b iha ihb=>exact Jw1 o iha ihb
 | block id c ih=>exact blk_s id ih
 | loop c ih=>exact Jzm ih 1000000
 | exit id=>intro f h e;exact⟨Gw.refl _,fun Φ τ F w D hF hR _=>W.exit ⟨rfl,Φ,τ,hF,hR,Tw.refl _ _ _ _ _⟩⟩
 | ret=>intro f h e;exact⟨Gw.refl _,fun Φ τ F w D hF hR _=>W.ret ⟨Φ,τ,hF,hR,Tw.refl _ _ _ _ _⟩⟩
 | rangeFunc o ps a b _ _=>intro f h e;exact e.elim
 | scope c ih=>exact Jr2 ih
 | label l=>intro f h e;exact⟨Gw.refl _,fun Φ τ F w D hF hR _=>W.label ⟨Φ,τ,hF,hR,Tw.refl _ _ _ _ _⟩⟩
 | goto l=>intro f h e;exact e.elim
 | refuse why=>intro f h e;exact e.elim
theorem Jhp{Φ:Phi}{t:Nat}(ht:t < 4096):∀ (l:List AV) (i:Nat),i+l.length≤4096→getF t (Xi l i)=if i≤t then(l[t - i]?).getD .u else .u:=by
 intro l
 induction l with
 | nil=>
  intro i _
  have:getF t (Xi [] i)=AV.u:=Jbu t AV.u
  rw [this];simp
 | cons a l ih=>
  intro i hi;simp only [List.length_cons] at hi;have e0:getF t (Xi (a::l) i)=getF t (setF i a (Xi l (Nat.succ i))):=rfl;rw [e0,Xt _ _ _ _ ht (by omega),ih (i+1) (by omega)]
  rcases Nat.lt_trichotomy t i with h | h | h
  ·rw [if_neg (by omega),if_neg (by omega),if_neg (by omega)]
  ·subst h;rw [if_pos rfl,if_pos (Nat.le_refl _),Nat.sub_self];rfl
  ·rw [if_neg (by omega),if_pos (by omega),if_pos (by omega),show t - i=(t - (i+1))+1 by omega];rfl
theorem vt{Φ:Phi}{l:List AV}{vs:List Value}(h:RvL Φ l vs)(hl:l.length≤4096):FR Φ (Xi l 0) (zs vs):=by
 intro t ht;rw [Jhp (Φ:=Φ) ht l 0 (by omega),if_pos (Nat.zero_le _),Nat.sub_zero]
 cases hi:l[t]? with
 | none=>simp only [Option.getD_none,Rv]
 | some a=>
  obtain⟨v,hv,hr⟩:=h.at hi
  have:zs vs t=v:=by unfold zs;rw [List.getD_eq_getElem?_getD,hv];rfl
  rw [this];exact hr
theorem recRR{r:Res}{k:AV→Hp→Res}{v:AV}{h:Hp}{m:Nat}(e:(Res.rec k Res.no (fun _ _=> .no m) r:Res)= .ok v h):∃ y h',r= .ok y h'∧k y h'= .ok v h:=by
 cases r with
 | ok y h'=>exact⟨y,h',rfl,e⟩
 | no m=>cases e
 | pn v h=>cases e
theorem Juv{ρ:Operand→Value}{t:TypeId}{a:Operand}{w:World}{K:Value→World→Prop}(h:St P ρ ⟨none,.load t a,0,"",#[],none⟩ w K KF):∃ u w',(Instr.loadAt t (ρ a)).run P w= .ok u w'∧K u w':=by
 unfold St at h
 cases hr:(Instr.loadAt t (ρ a)).run P w with
 | ok u w'=>
  have:(execOp ρ ⟨none,.load t a,0,"",#[],none⟩).run P w= .ok (.value u) w':=by simp [execOp,hr]
  rw [this] at h;exact⟨u,w',rfl,h⟩
 | halt q w'=>
  have:(execOp ρ ⟨none,.load t a,0,"",#[],none⟩).run P w= .halt q w':=by simp [execOp,hr]
  rw [this] at h
  cases q <;> exact h.elim
theorem Jy1{f:Fr}{h h':Hp}{r:ResultVar}{k:AV→Res}{v:AV}(e:resA P f h r k= .ok v h'):∃ a,k a= .ok v h'∧
  ∀ (Φ:Phi) (τ:Tau) (F:Wf.Fr) (w:World) (tmps:Array Value),FR Φ f F→Rel Φ τ h w→(∀ t,tmps.getD t undef=F t)→∃ x,Rv Φ a x∧(resM tmps r).run P w= .ok x w:=by
 unfold resA at e
 cases r with
 | tmp t=>
  refine⟨_,e,fun Φ τ F w tmps hF hR ht=>⟨F t,Jd hF (.tmp t),?_⟩⟩;unfold resM;simp only [Sem.run_pure,ht t]
 | cell p t=>
  obtain⟨a,h1,e1,e2⟩:=recRR e;have he:=e1;obtain⟨rfl,rd⟩:=Jf0 e1;refine⟨a,e2,fun Φ τ F w tmps hF hR ht=>?_⟩
  obtain⟨u,w',hrun,rfl,hv⟩:=Juv (rd Φ τ F w none 0 "" #[] none hF hR);refine⟨u,hv,?_⟩;unfold resM;simp only [ht p];have hp:∃ ad,F p= .pointer (some ad):=by
   unfold Qi at he
   split at he
   ·rename_i id off hx
    have:=Jd hF (.tmp p)
    rw [hx] at this;obtain⟨en,_,hh⟩:=this.pI;exact⟨_,hh⟩
   ·rename_i g off hx
    have:=Jd hF (.tmp p)
    rw [hx] at this;simp only [Rv] at this;exact⟨_,this⟩
   ·cases he
  obtain⟨ad,had⟩:=hp;have hrun:(Instr.loadAt t (F p)).run P w'= .ok u w':=hrun;rw [had] at hrun ⊢;simpa [Instr.loadAt,Instr.sureAddr,asAddr] using hrun
theorem Jwy{f:Fr}{h h':Hp}{v:AV}:∀ (l:List ResultVar) (k:List AV→Res),resL P f h l k= .ok v h'→∃ as0:List AV,k as0= .ok v h'∧as0.length=l.length∧
  ∀ (Φ:Phi) (τ:Tau) (F:Wf.Fr) (w:World) (tmps:Array Value),FR Φ f F→Rel Φ τ h w→(∀ t,tmps.getD t undef=F t)→∃ xs,RvL Φ as0 xs∧(l.mapM (resM tmps)).run P w= .ok xs w:=by
 intro l
 induction l with
 | nil=>intro k e;exact⟨[],e,rfl,fun Φ τ F w tmps _ _ _=>⟨[],by simp only [RvL],by simp⟩⟩
 | cons r l ih=>
  intro k e;have e:resA P f h r (fun v=>resL P f h l fun vs=>k (v::vs))= .ok v h':=e;obtain⟨a,e1,s1⟩:=Jy1 e;obtain⟨as0,e2,hl,s2⟩:=ih _ e1;refine⟨a::as0,e2,by simp [hl],fun Φ τ F w tmps hF hR ht=>?_⟩
  obtain⟨x,hx,r1⟩:=s1 Φ τ F w tmps hF hR ht;obtain⟨xs,hxs,r2⟩:=s2 Φ τ F w tmps hF hR ht;refine⟨x::xs,by simp only [RvL];exact⟨x,xs,rfl,hx,hxs⟩,?_⟩;simp [List.mapM_cons,r1,r2]
theorem Jxb{fn:Func}{f:Fr}{h h':Hp}{v:AV}(e:finR P f h fn.results.toList= .ok v h'):h'=h∧
  ∀ (Φ:Phi) (τ:Tau) (F:Wf.Fr) (w:World),FR Φ f F→Rel Φ τ h w→∃ x,Rv Φ v x∧∀ tmps:Array Value,(∀ t,tmps.getD t undef=F t)→(results fn tmps).run P w= .ok x w:=by
 unfold finR at e;obtain⟨as0,e1,hl,s⟩:=Jwy _ _ e;have hres:∀ (w:World) (tmps:Array Value) (xs:List Value),(fn.results.toList.mapM (resM tmps)).run P w= .ok xs w→(results fn tmps).run P w= .ok (if xs.length=1 then xs.getD 0 undef else .tuple xs.toArray) w:=by
  intro w tmps xs hr;have e9:fn.results=fn.results.toList.toArray:=by simp
  rw [Xc,e9,List.mapM_toArray];simp only [Sem.run_bind,Sem.run_map,hr];simp
  cases xs with
  | nil=>rfl
  | cons x xs=>cases xs with
   | nil=>rfl
   | cons y ys=>rfl
 have det:∀ (Φ:Phi) (τ:Tau) (F:Wf.Fr) (w:World),FR Φ f F→Rel Φ τ h w→∃ xs,RvL Φ as0 xs∧∀ tmps:Array Value,(∀ t,tmps.getD t undef=F t)→(fn.results.toList.mapM (resM tmps)).run P w= .ok xs w:=by
  intro Φ τ F w hF hR
  by_cases hex:∃ tmps:Array Value,∀ t,tmps.getD t undef=F t
  ·obtain⟨t0,h0⟩:=hex;obtain⟨xs,h1,h2⟩:=s Φ τ F w t0 hF hR h0;refine⟨xs,h1,fun tmps ht=>?_⟩
   have:resM tmps=resM t0:=by
    funext r
    unfold resM
    cases r <;> simp only [ht,h0]
   rw [this];exact h2
  ·
   have hsome:∃ xs,RvL Φ as0 xs:=by
    obtain⟨xs,h1,_⟩:=s Φ τ (fun t=>(Array.ofFn (n:=4096) fun i=>F i).getD t undef) w (Array.ofFn (n:=4096) fun i=>F i) (fun t ht=>by
     have:(Array.ofFn (n:=4096) fun i=>F i).getD t undef=F t:=by simp [Array.getD_eq_getD_getElem?,ht]
     show Rv Φ (getF t f) ((Array.ofFn (n:=4096) fun i=>F i).getD t undef)
     rw [this];exact hF t ht) hR fun t=>rfl
    exact⟨xs,h1⟩
   obtain⟨xs,hxs⟩:=hsome;exact⟨xs,hxs,fun tmps ht=>absurd ⟨tmps,ht⟩ hex⟩
 cases as0 with
 | nil=>
  obtain⟨rfl,rfl⟩:=Jv e1;refine⟨rfl,fun Φ τ F w hF hR=>?_⟩
  obtain⟨xs,h1,h2⟩:=det Φ τ F w hF hR;have hx:xs=[]:=by simp only [RvL] at h1;exact h1
  subst hx;refine⟨.tuple #[],by simp only [Rv];exact⟨[],rfl,by simp only [RvL]⟩,fun tmps ht=>?_⟩
  have:=hres w tmps [] (h2 tmps ht)
  simpa using this
 | cons a r=>
  cases r with
  | nil=>
   obtain⟨rfl,rfl⟩:=Jv e1;refine⟨rfl,fun Φ τ F w hF hR=>?_⟩
   obtain⟨xs,h1,h2⟩:=det Φ τ F w hF hR;simp only [RvL] at h1;obtain⟨x,r,rfl,hx,rfl⟩:=h1;refine⟨x,hx,fun tmps ht=>?_⟩
   have:=hres w tmps _ (h2 tmps ht)
   simpa using this
  | cons b r=>
   obtain⟨rfl,rfl⟩:=Jv e1;refine⟨rfl,fun Φ τ F w hF hR=>?_⟩
   obtain⟨xs,h1,h2⟩:=det Φ τ F w hF hR;have hlen:=h1.len;refine⟨.tuple xs.toArray,by simp only [Rv];exact⟨xs,rfl,h1⟩,fun tmps ht=>?_⟩
   have:=hres w tmps _ (h2 tmps ht)
   rw [if_neg (by rw [hlen];simp)] at this;exact this
theorem Jyb{f:Fr}{h h':Hp}{r:ResultVar}{k:AV→Res}{v:AV}(hk:∀ a,k a≠ .pn v h'):resA P f h r k≠ .pn v h':=by
 intro e;unfold resA at e
 cases r with
 | tmp t=>exact hk _ e
 | cell p t=>
  simp only at e
  cases hq:Qi P t (.tmp p) f h with
  | ok a h1=>rw [hq] at e;exact hk _ e
  | no m=>rw [hq] at e;cases e
  | pn a h1=>rw [hq] at e;cases e
theorem Jw3{f:Fr}{h h':Hp}{v:AV}:∀ (l:List ResultVar) (k:List AV→Res),(∀ a,k a≠ .pn v h')→resL P f h l k≠ .pn v h':=by
 intro l
 induction l with
 | nil=>intro k hk;exact hk []
 | cons r l ih=>intro k hk;exact Jyb fun a=>ih _ fun as0=>hk (a::as0)
theorem Jxp{f:Fr}{h h':Hp}{v:AV}{l:List ResultVar}:finR P f h l≠ .pn v h':=by
 unfold finR;refine Jw3 _ _ fun as0=>?_
 cases as0 with
 | nil=>intro e;cases e
 | cons a r=>cases r <;> intro e <;> cases e
theorem Jjw{fn:Func}{f:Fr}{h:Hp}{r:Res}(e:finR P f h fn.results.toList=r)(hr:okR r):∃ v,r= .ok v h∧
  ∀ (Φ:Phi) (τ:Tau) (F:Wf.Fr) (w:World),FR Φ f F→Rel Φ τ h w→∃ x,Rv Φ v x∧∀ tmps:Array Value,(∀ t,tmps.getD t undef=F t)→(results fn tmps).run P w= .ok x w:=by
 cases r with
 | no m=>exact hr.elim
 | pn v h'=>exact absurd e Jxp
 | ok v h'=>
  obtain⟨rfl,s⟩:=Jxb e;exact⟨v,rfl,s⟩
theorem Jyc(hc:CallS P call)(hm:P.follows .mixedOrders=true){fn:Func}(hn:fn.ntmps≤4096){c:Code}{f:Fr}{h:Hp}{r:Res}(e:Jfq P call fn.ntmps c fn.results.toList f h=r)(hr:okR r):
  Gw h (hpR r h)∧∀ (Φ:Phi) (τ:Tau) (F:Wf.Fr) (w:World),FR Φ f F→Rel Φ τ h w→Fre Φ h.n (hpR r h).n→W Fence.wide P c fn.ntmps [] (retQ P fn (RetE Φ τ h w r)) F w:=by
 have hS:=Jgj (fc:=Fence.wide) hc hn hm c f h;unfold Jfq at e
 revert e hS
 cases hq:Xm P call fn.ntmps c f h with
 | nx f1 h1=>
  intro e hS;obtain⟨g,s⟩:=hS trivial;obtain⟨v,rfl,fr⟩:=Jjw e hr;refine⟨g,fun Φ τ F w hF hR hFr=>(s Φ τ F w [] hF hR hFr).mono ?_⟩;intro ex F1 w1 q
  cases ex with
  | normal=>
   obtain⟨Φ1,τ1,a,b,t⟩:=q;obtain⟨x,hx,hrun⟩:=fr Φ1 τ1 F1 w1 a b;exact⟨x,hrun,v,h1,rfl,Φ1,τ1,hx,b,t⟩
  | _=>exact q.elim
 | rt f1 h1=>
  intro e hS;obtain⟨g,s⟩:=hS trivial;obtain⟨v,rfl,fr⟩:=Jjw e hr;refine⟨g,fun Φ τ F w hF hR hFr=>(s Φ τ F w [] hF hR hFr).mono ?_⟩;intro ex F1 w1 q
  cases ex with
  | ret=>
   obtain⟨Φ1,τ1,a,b,t⟩:=q;obtain⟨x,hx,hrun⟩:=fr Φ1 τ1 F1 w1 a b;exact⟨x,hrun,v,h1,rfl,Φ1,τ1,hx,b,t⟩
  | _=>exact q.elim
 | pn v f1 h1=>
  intro e hS;obtain⟨g,s⟩:=hS trivial;have e:Res.pn v h1=r:=e;subst e;refine⟨g,fun Φ τ F w hF hR hFr=>(s Φ τ F w [] hF hR hFr).mono ?_⟩;intro ex F1 w1 q
  cases ex with
  | panic ch=>
   obtain⟨x,Φ1,τ1,d1,d2,a,b,t⟩:=q;exact⟨v,h1,rfl,x,Φ1,τ1,d1,d2,b,t⟩
  | _=>exact q.elim
 | ex i f1 h1=>intro e;have e:Res.no 53=r:=e;subst e;exact hr.elim
 | no m=>intro e;have e:Res.no m=r:=e;subst e;exact hr.elim
theorem Jne{c:Code}{t u:Tmp}{b:Code}(h:Jk8 c=some (t,u,b)):∃ (id:Nat) (ts:Array TypeId) (y1 y2:TypeId) (p1 p2:String) (a1 a2:Array Edge),
  c= .seq (.region id #[⟨some t,.call ⟨.builtin .recover,#[],ts⟩,y1,p1,a1,none⟩,⟨some u,.assign (.tmp t),y2,p2,a2,none⟩] false) b:=by
 unfold Jk8 at h
 split at h
 ·rename_i id ops b'
  split at h
  ·rename_i t' args ts y1 p1 a1 u' v' y2 p2 a2 hops
   split at h
   ·rename_i hargs
    cases hb:Nat.beq t' v' with
    | false=>rw [hb] at h;cases h
    | true=>
     rw [hb] at h
     have:=Nat.eq_of_beq_eq_true hb
     subst this;simp only [cond_true,Option.some.injEq,Prod.mk.injEq] at h;obtain⟨rfl,rfl,rfl⟩:=h;have ha:args= #[]:=by apply Array.ext';rw [hargs]
     subst ha;have ho:ops= #[⟨some t',.call ⟨.builtin .recover,#[],ts⟩,y1,p1,a1,none⟩,⟨some u',.assign (.tmp t'),y2,p2,a2,none⟩]:=by apply Array.ext';rw [hops]
     subst ho;exact⟨id,ts,y1,y2,p1,p2,a1,a2,rfl⟩
   ·cases h
  ·cases h
 ·cases h
theorem Jo0{c a b:Code}{t:Tmp}{k:FuncId}{caps:List Operand}(h:Jl5 c=some (a,t,k,caps,b)):∃ (id:Nat) (ts:Array TypeId) (cp:Array Operand) (y1 y2:TypeId) (p1 p2:String) (a1 a2:Array Edge),cp.toList=caps∧
  c= .seq a (.seq (.region id #[⟨some t,.makeFunc (.func k) #[] cp,y1,p1,a1,none⟩,⟨none,.defer ⟨.value (.tmp t),#[],ts⟩,y2,p2,a2,none⟩] false) b):=by
 unfold Jl5 at h
 split at h
 ·rename_i a' id ops b'
  split at h
  ·rename_i t' k' first cp y1 p1 a1 u' args ts y2 p2 a2 hops
   split at h
   ·rename_i hf hargs
    cases hb:Nat.beq t' u' with
    | false=>rw [hb] at h;cases h
    | true=>
     rw [hb] at h
     have:=Nat.eq_of_beq_eq_true hb
     subst this;simp only [cond_true,Option.some.injEq,Prod.mk.injEq] at h;obtain⟨rfl,rfl,rfl,rfl,rfl⟩:=h;have ha:args= #[]:=by apply Array.ext';rw [hargs]
     subst ha;have hf:first= #[]:=by apply Array.ext';rw [hf]
     subst hf;have ho:ops= #[⟨some t',.makeFunc (.func k') #[] cp,y1,p1,a1,none⟩,⟨none,.defer ⟨.value (.tmp t'),#[],ts⟩,y2,p2,a2,none⟩]:=by apply Array.ext';rw [hops]
     subst ho;exact⟨id,ts,cp,y1,y2,p1,p2,a1,a2,rfl,rfl⟩
   ·cases h
  ·cases h
 ·cases h
theorem Jxu{n:Nat}{vs:List Value}(hl:vs.length≤n):Wf.Good n [] {tmps:=vs.toArray++Array.replicate (n - vs.toArray.size) undef,defers:=[]}∧frOf {tmps:=vs.toArray++Array.replicate (n - vs.toArray.size) undef,defers:=[]}=zs vs:=by
 refine⟨⟨by simp;omega,rfl⟩,?_⟩
 funext t
 simp only [frOf,zs,Array.getD_eq_getD_getElem?,List.getD_eq_getElem?_getD,Array.getElem?_append]
 by_cases ht:t < vs.length
 ·simp [ht]
 ·simp only [List.size_toArray,ht,if_false];rw [List.getElem?_eq_none (by omega)];simp only [Array.getElem?_replicate]
  split <;> rfl
def Mode(Φ:Phi)(p:AV)(u:FrameMode):Prop:=(p= .nif∧u= .returning)∨∃ x,u= .panicking [{v:=x,recovered:=false}]∧Rv Φ p x
theorem def_s(hc:CallS P call)(hm:P.follows .mixedOrders=true){k:FuncId}{args:List AV}{p:AV}{h:Hp}{q:Hp→Res}{r:Res}(e:Jh4 P call k args p h q=r)(hr:okR r):
  ∃ fn c h2,P.funcs[k]? =some fn∧(fn.name == "runtime.NumGoroutine")=false∧fn.body=some c∧q h2=r∧Gw h h2∧
  ∀ (Φ:Phi) (τ:Tau) (w:World) (vs:List Value) (u:FrameMode),Mode Φ p u→Rel Φ τ h w→Fre Φ h.n h2.n→RvL Φ args vs→
   CallsD P k vs.toArray u w fun en u' w'=>(∃ y,en= .returned y)∧settle u'= .returning∧∃ Φ' τ',Rel Φ' τ' h2 w'∧Tw Φ τ h w Φ' τ' h2.n w':=by
 unfold Jh4 at e
 split at e
 ·subst e;exact hr.elim
 ·rename_i fn hf
  split at e
  ·subst e;exact hr.elim
  ·rename_i c hb
   split at e
   ·subst e;exact hr.elim
   ·rename_i s hs
    obtain⟨t,u0,b⟩:=s;rw [zu] at e
    split at e
    ·rename_i hcd
     obtain⟨hcd,h6⟩:=Zp hcd;obtain⟨hcd,h5⟩:=Zp hcd;obtain⟨hcd,h4⟩:=Zp hcd;obtain⟨hcd,h3⟩:=Zp hcd;obtain⟨h1,h2⟩:=Zp hcd;have h1:=Nat.le_of_ble_eq_true h1;have h2:=Nat.le_of_ble_eq_true h2;have h3:t < fn.ntmps:=Yc h3;have h4:u0 < fn.ntmps:=Yc h4;have h6:=Jhm h6;rw [Qe] at h2;have hres:fn.results= #[]:=by
      unfold nilB at h5
      split at h5
      ·rename_i hh;apply Array.ext';rw [hh]
      ·cases h5
     obtain⟨id,ts,y1,y2,p1,p2,a1,a2,rfl⟩:=Jne hs;have hS:=Jgj (fc:=Fence.wide) hc h1 hm b (setF u0 p (setF t p (Xi args 0))) h;have fin:∀ {f2:Fr} {h2':Hp},(Xm P call fn.ntmps b (setF u0 p (setF t p (Xi args 0))) h= .nx f2 h2'∨Xm P call fn.ntmps b (setF u0 p (setF t p (Xi args 0))) h= .rt f2 h2')→q h2'=r→
       ∃ fn' c' h2,P.funcs[k]? =some fn'∧(fn'.name == "runtime.NumGoroutine")=false∧fn'.body=some c'∧q h2=r∧Gw h h2∧
       ∀ (Φ:Phi) (τ:Tau) (w:World) (vs:List Value) (u:FrameMode),Mode Φ p u→Rel Φ τ h w→Fre Φ h.n h2.n→RvL Φ args vs→
        CallsD P k vs.toArray u w fun en u' w'=>(∃ y,en= .returned y)∧settle u'= .returning∧∃ Φ' τ',Rel Φ' τ' h2 w'∧Tw Φ τ h w Φ' τ' h2.n w':=by
      intro f2 h2' ho hq;obtain⟨g,sS⟩:=hS (by rcases ho with ho | ho <;> rw [ho] <;> trivial);have hh:hpO (Xm P call fn.ntmps b (setF u0 p (setF t p (Xi args 0))) h) h=h2':=by rcases ho with ho | ho <;> rw [ho] <;> rfl
      rw [hh] at g sS;refine⟨fn,_,h2',hf,h6,hb,hq,g,fun Φ τ w vs u hu hR hFr hv=>?_⟩
      refine callsD_of_wpS hf hb fun c₀ cs hc0=>?_
      obtain⟨hgood,hfr⟩:=Jxu (n:=fn.ntmps) (vs:=vs) (by rw [hv.len];exact h2);obtain⟨x,c1,hx,hset,hrec⟩:∃ (x:Value) (c1:FrameMode),Rv Φ p x∧settle c1= .returning∧((recoverD (c₀::cs)=some (x,{c₀ with mode:=c1}::cs))∨(recoverD (c₀::cs)=none∧x= .nilIface∧c₀::cs={c₀ with mode:=c1}::cs)):=by
       rcases hu with ⟨rfl,rfl⟩ | ⟨x,rfl,hx⟩
       ·refine⟨.nilIface,.returning,by simp only [Rv],rfl,.inr ⟨?_,rfl,?_⟩⟩
        ·simp [recoverD,hc0]
        ·rw [← hc0]
       ·exact⟨x,.panicking [{v:=x,recovered:=true}],hx,rfl,.inl (by simp [recoverD,hc0])⟩
      refine wpS_seq (wpS_region ?_);have hrange:List.range (#[(⟨some t,.call ⟨.builtin .recover,#[],ts⟩,y1,p1,a1,none⟩:Oper),⟨some u0,.assign (.tmp t),y2,p2,a2,none⟩]).size=[0,1]:=rfl;rw [hrange];have hend:∀ (act:Act),Wf.Good fn.ntmps [] act→frOf act=upd (upd (zs vs) t x) u0 x→b.wpS P (bodyPostS P fn c₀ cs fun en u' w'=>(∃ y,en= .returned y)∧settle u'= .returning∧∃ Φ' τ',Rel Φ' τ' h2' w'∧Tw Φ τ h w Φ' τ' h2'.n w') act ({c₀ with mode:=c1}::cs) w:=by
       intro act hact hfa;have hFR:FR Φ (setF u0 p (setF t p (Xi args 0))) (upd (upd (zs vs) t x) u0 x):=((vt hv (by omega)).set (Nat.lt_of_lt_of_le h3 h1) hx).set (Nat.lt_of_lt_of_le h4 h1) hx;have hW:=(sS Φ τ _ w [] hFR hR hFr).wide hact hfa;refine wpS_of_wp (wp_mono hW ?_);rintro ex act' w' ⟨ga,qa⟩;have done:∀ {Φ':Phi} {τ':Tau},Rel Φ' τ' h2' w'→Tw Φ τ h w Φ' τ' h2'.n w'→act'.defers=[]∧∃ u',({c₀ with mode:=c1}::cs:List Frame)={c₀ with mode:=u'}::cs∧∃ v,(results fn act'.tmps).run P w'= .ok v w'∧((∃ y,Ending.returned v= .returned y)∧settle u'= .returning∧∃ Φ' τ',Rel Φ' τ' h2' w'∧Tw Φ τ h w Φ' τ' h2'.n w'):=by
        intro Φ' τ' k1 k2;refine⟨ga.defers,c1,rfl,.tuple #[],?_,⟨_,rfl⟩,hset,Φ',τ',k1,k2⟩;rw [Xc,hres];simp
       rcases ho with ho | ho <;> rw [ho] at qa
       ·cases ex with
        | normal=>obtain⟨Φ',τ',_,k1,k2⟩:=qa;exact done k1 k2
        | _=>exact qa.elim
       ·cases ex with
        | ret=>obtain⟨Φ',τ',_,k1,k2⟩:=qa;exact done k1 k2
        | _=>exact qa.elim
      have hput:∀ (act:Act),Wf.Good fn.ntmps [] act→frOf act=zs vs→Wf.Good fn.ntmps [] ((act.put (some t) x).put (some u0) x)∧frOf ((act.put (some t) x).put (some u0) x)=upd (upd (zs vs) t x) u0 x:=by
       intro act hact hfa;refine⟨(hact.put _ _).put _ _,?_⟩;rw [Zy (hact.put _ _) (some u0) (show lo fn.ntmps (some u0) from h4),Zy hact (some t) (show lo fn.ntmps (some t) from h3),hfa];rfl
      have hev:∀ (act:Act),Wf.Good fn.ntmps [] act→(act.put (some t) x).eval (.tmp t)=x:=by
       intro act hact;rw [yo,Zy hact (some t) (show lo fn.ntmps (some t) from h3)]
       show upd (frOf act) t x t=x
       simp [upd]
      obtain⟨k1,k2⟩:=hput _ hgood hfr;have k3:=hev _ hgood;have h0:(execOp (Act.eval {tmps:=vs.toArray++Array.replicate (fn.ntmps - vs.toArray.size) undef,defers:=[]}) ⟨some t,.call ⟨.builtin .recover,#[],ts⟩,y1,p1,a1,none⟩).run P w= .ok .recover w:=by
       simp [execOp,resolve,invoke,builtin]
      have hop0:(#[(⟨some t,.call ⟨.builtin .recover,#[],ts⟩,y1,p1,a1,none⟩:Oper),⟨some u0,.assign (.tmp t),y2,p2,a2,none⟩])[0]? =some ⟨some t,.call ⟨.builtin .recover,#[],ts⟩,y1,p1,a1,none⟩:=rfl;have hop1:(#[(⟨some t,.call ⟨.builtin .recover,#[],ts⟩,y1,p1,a1,none⟩:Oper),⟨some u0,.assign (.tmp t),y2,p2,a2,none⟩])[1]? =some ⟨some u0,.assign (.tmp t),y2,p2,a2,none⟩:=rfl;have hw0:∀ (z:Nat→Option Bool),Region.wanted (⟨some t,.call ⟨.builtin .recover,#[],ts⟩,y1,p1,a1,none⟩:Oper) z=true:=fun z=>rfl
      have hw1:∀ (z:Nat→Option Bool),Region.wanted (⟨some u0,.assign (.tmp t),y2,p2,a2,none⟩:Oper) z=true:=fun z=>rfl
      have second:∀ cs',cs'={c₀ with mode:=c1}::cs→wpOpsS P #[(⟨some t,.call ⟨.builtin .recover,#[],ts⟩,y1,p1,a1,none⟩:Oper),⟨some u0,.assign (.tmp t),y2,p2,a2,none⟩] (Exit.thenS (b.wpS P (bodyPostS P fn c₀ cs fun en u' w'=>(∃ y,en= .returned y)∧settle u'= .returning∧∃ Φ' τ',Rel Φ' τ' h2' w'∧Tw Φ τ h w Φ' τ' h2'.n w')) (bodyPostS P fn c₀ cs fun en u' w'=>(∃ y,en= .returned y)∧settle u'= .returning∧∃ Φ' τ',Rel Φ' τ' h2' w'∧Tw Φ τ h w Φ' τ' h2'.n w')) [1] (Act.put {tmps:=vs.toArray++Array.replicate (fn.ntmps - vs.toArray.size) undef,defers:=[]} (some t) x) cs' w:=by
       rintro cs' rfl;simp only [wpOpsS,hop1,hw1,if_true];have h1':(execOp (Act.put {tmps:=vs.toArray++Array.replicate (fn.ntmps - vs.toArray.size) undef,defers:=[]} (some t) x).eval ⟨some u0,.assign (.tmp t),y2,p2,a2,none⟩).run P w= .ok (.value x) w:=by
        simp only [execOp,k3,Sem.run_pure]
       rw [h1'];exact hend _ k1 k2
      unfold wpOpsS;simp only [hop0,hw0,if_true,h0]
      rcases hrec with hrec | ⟨hrec,rfl,hcs⟩
      ·rw [hrec];exact second _ rfl
      ·rw [hrec];exact second _ hcs
     revert e
     cases ho:Xm P call fn.ntmps b (setF u0 p (setF t p (Xi args 0))) h with
     | nx f2 h2'=>intro e;exact fin (.inl ho) e
     | rt f2 h2'=>intro e;exact fin (.inr ho) e
     | ex i f2 h2'=>intro e;have e:Res.no 55=r:=e;subst e;exact hr.elim
     | pn v f2 h2'=>intro e;have e:Res.no 55=r:=e;subst e;exact hr.elim
     | no m=>intro e;have e:Res.no m=r:=e;subst e;exact hr.elim
    ·subst e;exact hr.elim
theorem Jcy{fn:Func}{c:Code}{k:FuncId}{cs:Array Value}{w:World}(hf:P.funcs[k]? =some fn)(hname:(fn.name == "runtime.NumGoroutine")=false)(hb:fn.body=some c):(invoke (.fn (.func k) cs) #[]).run P w= .ok (.enter k cs) w:=by
 have h1:fn.name≠ "runtime.NumGoroutine" :=by simpa using hname
 simp [invoke,callFunc,hf,h1,hb]
theorem Jv5 (hc:CallS P call) (hm:P.follows .mixedOrders=true) {fn:Func} (hn:fn.ntmps≤4096) {t:Tmp} {k:FuncId} {caps:List Operand} {b:Code} {f:Fr} {h:Hp} {r:Res} (e:vo P call fn.ntmps t k caps b fn.results.toList f h=r) (hr:okR r)
  {id:Nat} {ts:Array TypeId} {cp:Array Operand} {y1 y2:TypeId} {p1 p2:String} {a1 a2:Array Edge} (hcp:cp.toList=caps):
  Gw h (hpR r h)∧∀ (Φ:Phi) (τ:Tau) (a:Act) (w:World),Wf.Good fn.ntmps [] a→FR Φ f (frOf a)→Rel Φ τ h w→Fre Φ h.n (hpR r h).n→
   (Code.seq (.region id #[⟨some t,.makeFunc (.func k) #[] cp,y1,p1,a1,none⟩,⟨none,.defer ⟨.value (.tmp t),#[],ts⟩,y2,p2,a2,none⟩] false) b).wp P (bodyPostD P fn (RetE Φ τ h w r)) a w:=by
 subst hcp;unfold vo at e;rw [zu] at e
 split at e
 ·rename_i htn
  have htn:t < fn.ntmps:=Yc htn;have hS:=Jgj (fc:=Fence.wide) hc hn hm b (setF t (.fn k (opds f cp.toList)) f) h;have main:∀ {out:Out} {p:AV} {f1:Fr} {h1:Hp},Xm P call fn.ntmps b (setF t (.fn k (opds f cp.toList)) f) h=out→okO out→hpO out h=h1→Jh4 P call k (opds f cp.toList) p h1 (fun h=>finR P f1 h fn.results.toList)=r→
    (∀ (Φ:Phi) (τ:Tau) (h:Hp) (w:World) (ex:Exit) (F1:Wf.Fr) (w1:World),OutQ Φ τ h w out ex F1 w1→∃ u Φ1 τ1,((ex= .normal∧u= .returning)∨(ex= .ret∧u= .returning)∨∃ ch,ex= .panic ch∧u= .panicking ch)∧Mode Φ1 p u∧FR Φ1 f1 F1∧Rel Φ1 τ1 h1 w1∧Tw Φ τ h w Φ1 τ1 h1.n w1)→
    Gw h (hpR r h)∧∀ (Φ:Phi) (τ:Tau) (a:Act) (w:World),Wf.Good fn.ntmps [] a→FR Φ f (frOf a)→Rel Φ τ h w→Fre Φ h.n (hpR r h).n→
     (Code.seq (.region id #[⟨some t,.makeFunc (.func k) #[] cp,y1,p1,a1,none⟩,⟨none,.defer ⟨.value (.tmp t),#[],ts⟩,y2,p2,a2,none⟩] false) b).wp P (bodyPostD P fn (RetE Φ τ h w r)) a w:=by
   intro out p f1 h1 ho hok hh1 he hout;obtain⟨g1,s1⟩:=hS (by rw [ho];exact hok);rw [ho,hh1] at g1 s1;obtain⟨fn',c',h2,hf',hname',hb',hq,g2,s2⟩:=def_s hc hm he hr;obtain⟨v,rfl,fr⟩:=Jjw hq hr;refine⟨g1.trans g2,fun Φ τ a w ha hF hR hFr=>?_⟩
   have k1:Grow h h1:=g1 hR.lim;have k2:Grow h1 h2:=g2 (k1.lim hR.lim);have hFr:Fre Φ h.n h2.n:=hFr;have hcaps:=Xd hF cp.toList
   generalize hcv:(cp.toList.map (fe (frOf a)))=cvs at hcaps
   have hce:cp.map a.eval=cvs.toArray:=by apply Array.ext';rw [yo,← hcv];simp
   refine wp_seq (wp_region ?_);have hrange:List.range (#[(⟨some t,.makeFunc (.func k) #[] cp,y1,p1,a1,none⟩:Oper),⟨none,.defer ⟨.value (.tmp t),#[],ts⟩,y2,p2,a2,none⟩]).size=[0,1]:=rfl;rw [hrange];have hop0:(#[(⟨some t,.makeFunc (.func k) #[] cp,y1,p1,a1,none⟩:Oper),⟨none,.defer ⟨.value (.tmp t),#[],ts⟩,y2,p2,a2,none⟩])[0]? =some ⟨some t,.makeFunc (.func k) #[] cp,y1,p1,a1,none⟩:=rfl;have hop1:(#[(⟨some t,.makeFunc (.func k) #[] cp,y1,p1,a1,none⟩:Oper),⟨none,.defer ⟨.value (.tmp t),#[],ts⟩,y2,p2,a2,none⟩])[1]? =some ⟨none,.defer ⟨.value (.tmp t),#[],ts⟩,y2,p2,a2,none⟩:=rfl;have hw0:∀ (z:Nat→Option Bool),Region.wanted (⟨some t,.makeFunc (.func k) #[] cp,y1,p1,a1,none⟩:Oper) z=true:=fun z=>rfl
   have hw1:∀ (z:Nat→Option Bool),Region.wanted (⟨none,.defer ⟨.value (.tmp t),#[],ts⟩,y2,p2,a2,none⟩:Oper) z=true:=fun z=>rfl
   simp only [wpOps,hop0,hop1,hw0,hw1,if_true]
   left
   unfold Oper.wp;have r0:(execOp a.eval ⟨some t,.makeFunc (.func k) #[] cp,y1,p1,a1,none⟩).run P w= .ok (.value (.func (.func k) #[] cvs.toArray)) w:=by
    simp [execOp,Instr.makeFunc,hce]
   rw [r0]
   show(_:Prop)∨_
   left
   have hev:(a.put (some t) (.func (.func k) #[] cvs.toArray)).eval (.tmp t)= .func (.func k) #[] cvs.toArray:=by
    rw [yo,Zy ha (some t) (show lo fn.ntmps (some t) from htn)]
    show upd (frOf a) t _ t=_
    simp [upd]
   have r1:(execOp (a.put (some t) (.func (.func k) #[] cvs.toArray)).eval ⟨none,.defer ⟨.value (.tmp t),#[],ts⟩,y2,p2,a2,none⟩).run P w= .ok (.defer ⟨.fn (.func k) cvs.toArray,#[]⟩) w:=by
    simp [execOp,resolve,Deferred.ofValue,hev]
   rw [r1]
   show(b.wp P _ _ w)
   have ga:Wf.Good fn.ntmps [⟨.fn (.func k) cvs.toArray,#[]⟩] (({(a.put (some t) (.func (.func k) #[] cvs.toArray)) with defers:=(⟨.fn (.func k) cvs.toArray,#[]⟩:Deferred)::(a.put (some t) (.func (.func k) #[] cvs.toArray)).defers}:Act).put none undef):=by
    have:=ha.put (some t) (.func (.func k) #[] cvs.toArray)
    exact⟨this.size,by show _::(a.put (some t) _).defers=_;rw [this.defers]⟩
   have gf:frOf (({(a.put (some t) (.func (.func k) #[] cvs.toArray)) with defers:=(⟨.fn (.func k) cvs.toArray,#[]⟩:Deferred)::(a.put (some t) (.func (.func k) #[] cvs.toArray)).defers}:Act).put none undef)=upd (frOf a) t (.func (.func k) #[] cvs.toArray):=by
    have:=Zy ha (some t) (show lo fn.ntmps (some t) from htn) (.func (.func k) #[] cvs.toArray)
    exact this
   have hF1:FR Φ (setF t (.fn k (opds f cp.toList)) f) (upd (frOf a) t (.func (.func k) #[] cvs.toArray)):=hF.set (Nat.lt_of_lt_of_le htn hn) (by simp only [Rv];exact⟨cvs,rfl,hcaps⟩);refine wp_mono ((s1 Φ τ _ w [⟨.fn (.func k) cvs.toArray,#[]⟩] hF1 hR (fun id x1 x2=>hFr id x1 (Nat.lt_of_lt_of_le x2 k2.le))).wide ga gf) ?_;rintro ex a' w1 ⟨gg,qq⟩;obtain⟨u,Φ1,τ1,hex,hmode,hFR1,hR1,t1⟩:=hout Φ τ h w ex (frOf a') w1 qq;have hune:u≠ .run:=by
    rcases hmode with ⟨_,rfl⟩ | ⟨x,rfl,_⟩ <;> intro hq <;> cases hq
   have leaves:Leaves P fn a'.tmps (RetE Φ τ h w (.ok v h2)) a'.defers u w1:=by
    rw [gg.defers];refine leaves_cons hune (Jcy hf' hname' hb') ((s2 Φ1 τ1 w1 cvs u hmode hR1 ?_ (RvL.mono t1.sub _ _ hcaps)).mono ?_)
    ·intro id x1 x2;rw [t1.same id (fun hh=>by have:id < h1.n:=hh.2;omega)];exact hFr id (Nat.le_trans k1.le x1) x2
    ·rintro en u' w2 ⟨⟨y,rfl⟩,hset,Φ2,τ2,hR2,t2⟩
     show Leaves P fn a'.tmps _ [] (settle u') w2
     rw [hset];obtain⟨x,hx,hrun⟩:=fr Φ2 τ2 (frOf a') w2 (hFR1.mono t2.sub) hR2;exact⟨x,hrun a'.tmps (fun _=>rfl),v,h2,rfl,Φ2,τ2,hx,hR2,t1.trans k1 k2.le (k1.lim hR.lim) t2⟩
   rcases hex with ⟨rfl,rfl⟩ | ⟨rfl,rfl⟩ | ⟨ch,rfl,rfl⟩
   ·exact leaves
   ·exact leaves
   ·exact leaves
  cases ho:Xm P call fn.ntmps b (setF t (.fn k (opds f cp.toList)) f) h with
  | nx f1 h1=>
   rw [ho] at e;refine main (p:= .nif) (f1:=f1) ho trivial rfl e ?_;intro Φ τ h w ex F1 w1 q
   cases ex with
   | normal=>obtain⟨Φ1,τ1,x1,x2,x3⟩:=q;exact⟨.returning,Φ1,τ1,.inl ⟨rfl,rfl⟩,.inl ⟨rfl,rfl⟩,x1,x2,x3⟩
   | _=>exact q.elim
  | rt f1 h1=>
   rw [ho] at e;refine main (p:= .nif) (f1:=f1) ho trivial rfl e ?_;intro Φ τ h w ex F1 w1 q
   cases ex with
   | ret=>obtain⟨Φ1,τ1,x1,x2,x3⟩:=q;exact⟨.returning,Φ1,τ1,.inr (.inl ⟨rfl,rfl⟩),.inl ⟨rfl,rfl⟩,x1,x2,x3⟩
   | _=>exact q.elim
  | pn v f1 h1=>
   rw [ho] at e;refine main (p:=v) (f1:=f1) ho trivial rfl e ?_;intro Φ τ h w ex F1 w1 q
   cases ex with
   | panic ch=>obtain⟨x,Φ1,τ1,rfl,d2,x1,x2,x3⟩:=q;exact⟨_,Φ1,τ1,.inr (.inr ⟨_,rfl,rfl⟩),.inr ⟨x,rfl,d2⟩,x1,x2,x3⟩
   | _=>exact q.elim
  | ex i f1 h1=>rw [ho] at e;have e:Res.no 53=r:=e;subst e;exact hr.elim
  | no m=>rw [ho] at e;have e:Res.no m=r:=e;subst e;exact hr.elim
 ·subst e;exact hr.elim
theorem LR.turn {Φ:Phi} {τ:Tau} {h:Hp} {w:World} {id:Nat} {b:Blk} {en:Ent} {l:Loop} (hR:Rel Φ τ h w) (hid:id < h.n) (hb:get5 id h.t=some b) (L:LR Φ τ w b en id l) {busy busy':Bool} {n:Nat} {ps:List Tmp} {a bb:Code} {f:TF AV}
  (hob:b.ob= .lp busy n ps a bb f):Rel Φ τ (putB h id (some (lpB busy' n ps a bb f))) (j7 w en.g (.loop {l with state:=if busy' then .busy else .ready,pending:=none}))∧
   Tw Φ τ h w Φ τ h.n (j7 w en.g (.loop {l with state:=if busy' then .busy else .ready,pending:=none})):=by
 have hlt:=(Array.getElem?_eq_some_iff.1 L.obj).1;refine hR.turn (en:=en) hid hb L.lab rfl rfl rfl xv (fun g hg=>qi hg) (.inr (.inr (.inr ⟨en,{l with state:=if busy' then .busy else .ready,pending:=none},L.ent,L.lab,rfl,Jfn hlt,?_⟩)));obtain⟨y0,y1,y2,y3,y4,y5,h1,h2,h3,h4,h5,h6,h7,h8,h9⟩:=L.ob;rw [hob] at h1
 cases h1
 exact⟨busy',n,ps,a,bb,f,rfl,rfl,rfl,h4,h5,h6,h7,h8,h9⟩
theorem Jue(hc:CallS P call)(hm:P.follows .mixedOrders=true){id:Nat}{args:List AV}{h:Hp}{r:Res}(e:Ji8 P call id args h=r)(hr:okR r):∃ v h',r= .ok v h'∧(h.n≤big5→Grow h h')∧
  ∀ Φ τ w vs en,Rel Φ τ h w→Fre Φ h.n h'.n→RvL Φ args vs→Φ id=some en→∃ l g tmps as0 bo,(Instr.yield en.g vs.toArray).run P w= .ok (.round l g tmps as0 bo) w∧
   RoundIn Fence.wide 0 P l g tmps as0 bo w fun e w'=>∃ x,e= .returned x∧∃ Φ' τ',Rv Φ' v x∧Rel Φ' τ' h' w'∧Tw Φ τ h w Φ' τ' h'.n w':=by have e:Res.no 99=r:=e;subst e;exact hr.elim
theorem fun_s(hc:CallS P call)(hm:P.follows .mixedOrders=true){k:FuncId}{args:List AV}{h:Hp}{r:Res}(e:Jps P call k args h=r)(hr:okR r):
  (∃ fn,P.funcs[k]? =some fn∧(fn.name == "runtime.NumGoroutine")=false∧fn.body.isNone=false)∧(h.n≤big5→Grow h (hpR r h))∧
  ∀ Φ τ w vs,Rel Φ τ h w→Fre Φ h.n (hpR r h).n→RvL Φ args vs→Calls P k vs.toArray w (RetE Φ τ h w r):=by
 unfold Jps at e
 split at e
 ·subst e;exact hr.elim
 ·rename_i fn hf
  split at e
  ·subst e;exact hr.elim
  ·rename_i c hb
   rw [zu] at e
   split at e
   ·rename_i hcd
    obtain⟨hcd,h3⟩:=Zp hcd;obtain⟨h1,h2⟩:=Zp hcd;have h1:=Nat.le_of_ble_eq_true h1;have h2:=Nat.le_of_ble_eq_true h2;have h3:=Jhm h3;rw [Qe] at h2;unfold Jqc at e
    split at e
    ·split at e
     ·obtain⟨g,s⟩:=Jyc hc hm h1 e hr;refine⟨⟨fn,hf,h3,by rw [hb];rfl⟩,g,fun Φ τ w vs hR hFr hv=>?_⟩
      exact J4q hf hb rfl (by rw [hv.len];exact h2) (s Φ τ _ w (vt hv (by omega)) hR hFr)
     ·rename_i s hs
      have hs:(none:Option (List Code × (Code × Nat × Operand × List Tmp × Code × Code) × Code))=some s:=hs
      cases hs
    ·rename_i s hs
     obtain⟨a,t,k',caps,b⟩:=s;obtain⟨id,ts,cp,y1,y2,p1,p2,a1,a2,hcp,rfl⟩:=Jo0 hs;have hS:=Jgj (fc:=Fence.wide) hc h1 hm a (Xi args 0) h
     revert e
     cases ho:Xm P call fn.ntmps a (Xi args 0) h with
     | nx f1 h1'=>
      intro e;have e:vo P call fn.ntmps t k' caps b fn.results.toList f1 h1'=r:=e;obtain⟨g1,s1⟩:=hS (by rw [ho];trivial);rw [ho] at g1 s1;have g1:Gw h h1':=g1;obtain⟨g2,s2⟩:=Jv5 hc hm h1 e hr (id:=id) (ts:=ts) (y1:=y1) (y2:=y2) (p1:=p1) (p2:=p2) (a1:=a1) (a2:=a2) hcp;have hh:hpR r h1'=hpR r h:=by cases r <;> first | rfl | exact hr.elim
      rw [hh] at g2 s2;refine⟨⟨fn,hf,h3,by rw [hb];rfl⟩,g1.trans g2,fun Φ τ w vs hR hFr hv=>?_⟩
      have k1:Grow h h1':=g1 hR.lim;have k2:=g2 (k1.lim hR.lim);obtain⟨hgood,hfr⟩:=Jxu (n:=fn.ntmps) (vs:=vs) (by rw [hv.len];exact h2);refine calls_of_wp_defers hf hb (wp_seq (wp_mono ((s1 Φ τ _ w [] (vt hv (by omega)) hR (fun id x1 x2=>hFr id x1 (Nat.lt_of_lt_of_le x2 k2.le))).wide hgood hfr) ?_));rintro ex a' w1 ⟨gg,qq⟩
      cases ex with
      | normal=>
       obtain⟨Φ1,τ1,x1,x2,x3⟩:=qq;refine wp_mono (s2 Φ1 τ1 a' w1 gg x1 x2 ?_) ?_
       ·intro id q1 q2;rw [x3.same id (fun hh=>by have:id < h1'.n:=hh.2;omega)];exact hFr id (Nat.le_trans k1.le q1) q2
       ·have conv:∀ en w2,RetE Φ1 τ1 h1' w1 r en w2→RetE Φ τ h w r en w2:=by
         intro en w2 hq
         cases en with
         | returned y=>
          obtain⟨v,h2',rfl,Φ2,τ2,z1,z2,z3⟩:=hq;exact⟨v,h2',rfl,Φ2,τ2,z1,z2,x3.trans k1 k2.le (k1.lim hR.lim) z3⟩
         | panicked ch=>
          obtain⟨v,h2',rfl,x,Φ2,τ2,z0,z1,z2,z3⟩:=hq;exact⟨v,h2',rfl,x,Φ2,τ2,z0,z1,z2,x3.trans k1 k2.le (k1.lim hR.lim) z3⟩
         | outgrown=>exact hq
        have lmono:∀ (tm:Array Value) (ds:List Deferred) (u:FrameMode) (w2:World),Leaves P fn tm (RetE Φ1 τ1 h1' w1 r) ds u w2→Leaves P fn tm (RetE Φ τ h w r) ds u w2:=by
         intro tm ds
         induction ds with
         | nil=>
          intro u w2 hL
          cases u with
          | run=>exact hL
          | returning=>obtain⟨v,q1,q2⟩:=hL;exact⟨v,q1,conv _ _ q2⟩
          | panicking ch=>exact conv _ _ hL
         | cons d ds ih=>
          intro u w2 hL;obtain⟨q0,fv,cap,ff,aa,q1,q2,q3⟩:=hL;refine⟨q0,fv,cap,ff,aa,q1,q2,q3.mono ?_⟩;intro en u' w3 hq
          cases en with
          | returned y=>exact ih _ _ hq
          | panicked ch=>exact ih _ _ hq
          | outgrown=>exact conv .outgrown w2 hq
        intro ex a2 w2 hq
        cases ex with
        | normal=>exact lmono _ _ _ _ hq
        | ret=>exact lmono _ _ _ _ hq
        | panic ch=>exact lmono _ _ _ _ hq
        | exit i=>exact hq
        | goto l=>exact hq
        | outgrown=>exact conv .outgrown w2 hq
      | _=>exact qq.elim
     | rt f1 h1'=>intro e;have e:Res.no 53=r:=e;subst e;exact hr.elim
     | ex i f1 h1'=>intro e;have e:Res.no 53=r:=e;subst e;exact hr.elim
     | pn v f1 h1'=>intro e;have e:Res.no 53=r:=e;subst e;exact hr.elim
     | no m=>intro e;have e:Res.no m=r:=e;subst e;exact hr.elim
   ·subst e;exact hr.elim
def Jn3(P:Program)(pr:Prim):Prop:=∀ k p,pr k=some p→∀ args h r,p args h=r→okR r→
 (∃ fn,P.funcs[k]? =some fn∧(fn.name == "runtime.NumGoroutine")=false∧fn.body.isNone=false)∧(h.n≤big5→Grow h (hpR r h))∧
 ∀ Φ τ w vs,Rel Φ τ h w→Fre Φ h.n (hpR r h).n→RvL Φ args vs→Calls P k vs.toArray w (RetE Φ τ h w r)
def ExS(P:Program)(ex:FuncId→Nat):Prop:=∀ k,ex k≠0→ExK P k (ex k)
theorem Jw5{pr:Prim}{ex:FuncId→Nat}(hx:ExS P ex)(hp:Jn3 P pr)(hm:P.follows .mixedOrders=true):∀ m,CallS P (Ja4 P pr ex m):=by
 intro m
 induction m with
 | zero=>exact⟨hx,fun k args h r e hr=>by have e:Res.no 54=r:=e;subst e;exact hr.elim,fun k args h r e hr=>by have e:Res.no 54=r:=e;subst e;exact hr.elim⟩
 | succ m ih=>
  refine⟨hx,fun k args h r e hr=>?_,fun id args h r e hr=>Jue ih hm e hr⟩;have e0:(Ja4 P pr ex (m+1)).run k args h=Option.rec (Jps P (Ja4 P pr ex m) k args h) (fun p=>p args h) (pr k):=rfl;rw [e0] at e
  cases hk:pr k with
  | none=>rw [hk] at e;exact fun_s ih hm e hr
  | some p=>rw [hk] at e;exact hp k p hk args h r e hr
def tt(r:Res):Bool:=match r with
 | .ok (.b true) _=>true
 | _=>false
theorem Jwq:Jn3 P fun _=>none:=fun _ _ h=>by cases h
end
end Go.Ev
namespace Go.Ev
open Go Go.Wf Go.RowKit
def blkG(cs:List AV):Blk:=⟨0,false,true,cs,.glb⟩
def tabs(l:List (Nat × List AV)):T5 (Option Blk):=List.rec (Jny none) (fun p _ ih=>set5 p.1 (some (blkG p.2)) ih) l
def hpG(n:Nat)(l:List (Nat × List AV)):Hp:=⟨tabs l,n⟩
def Jkk(w:World)(n:Nat)(l:List (Nat × List AV)):Prop:=∀ p ∈ l,p.1 < n∧∃ C T fr,w.heap[p.1]? =some (.cells C T fr)∧∀ Φ,CR Φ C 0 p.2
theorem Jgr{l:List (Nat × List AV)}(hl:∀ p ∈ l,p.1 < big5){id:Nat}(hid:id < big5):(∃ p ∈ l,p.1=id∧get5 id (tabs l)=some (blkG p.2))∨(∀ p ∈ l,p.1≠id)∧get5 id (tabs l)=none:=by
 induction l with
 | nil=>exact .inr ⟨fun _ h=>(by cases h),Jk5 id none⟩
 | cons p l ih=>
  have e:tabs (p::l)=set5 p.1 (some (blkG p.2)) (tabs l):=rfl;rw [e,Zo _ _ _ _ hid (hl p (by simp))]
  by_cases h:id=p.1
  ·rw [if_pos h];exact .inl ⟨p,by simp,h.symm,rfl⟩
  ·rw [if_neg h]
   rcases ih (fun q hq=>hl q (by simp [hq])) with ⟨q,h1,h2,h3⟩ | ⟨h1,h2⟩
   ·exact .inl ⟨q,by simp [h1],h2,h3⟩
   ·refine .inr ⟨?_,h2⟩;intro q hq
    rcases List.mem_cons.1 hq with rfl | hq
    ·exact fun e=>h e.symm
    ·exact h1 q hq
def PhiG(l:List (Nat × List AV)):Phi:=fun id=>if id ∈ l.map (·.1) then some ⟨id,0,0⟩ else none
def TauG(l:List (Nat × List AV)):Tau:=fun g=>if g ∈ l.map (·.1) then .ro else .out
theorem relG{w:World}{n:Nat}{l:List (Nat × List AV)}(hn:n≤big5)(h:Jkk w n l):Rel (PhiG l) (TauG l) (hpG n l) w:=by
 have hl:∀ p ∈ l,p.1 < big5:=fun p hp=>Nat.lt_of_lt_of_le (h p hp).1 hn;refine⟨hn,?_,?_⟩
 ·intro id b hid hb;have hb:get5 id (tabs l)=some b:=hb;have hid:id < n:=hid
  rcases Jgr hl (Nat.lt_of_lt_of_le hid hn) with ⟨p,h1,rfl,h3⟩ | ⟨_,h2⟩
  ·rw [h3] at hb
   cases hb
   obtain⟨_,C,T,fr,h4,h5⟩:=h p h1;have hm:p.1 ∈ l.map (·.1):=List.mem_map_of_mem h1;exact .inr (.inr (.inl ⟨⟨p.1,0,0⟩,C,⟨if_pos hm,rfl,if_pos hm,rfl,rfl,⟨T,fr,h4⟩,h5 _⟩⟩))
  ·rw [h2] at hb;cases hb
 ·intro id h1 h2
  rcases Jgr hl h2 with ⟨p,h3,rfl,_⟩ | ⟨_,h3⟩
  ·exact absurd (h p h3).1 (Nat.not_lt.2 h1)
  ·exact h3
section
variable {P:Program}
theorem Jvo {pr:Prim} {ex:FuncId→Nat} (hx:ExS P ex) (hp:Jn3 P pr) (hm:P.follows .mixedOrders=true) {m k n:Nat} {l:List (Nat × List AV)} {args:List AV} {v:AV} {h':Hp} (e:Jk4 P pr ex m k args (hpG n l)= .ok v h')
  (w:World) (hn:n≤big5) (hw:Jkk w n l) (vs:List Value) (hv:∀ Φ,RvL Φ args vs):Calls P k vs.toArray w fun en w'=>(∃ x Φ,en= .returned x∧Rv Φ v x)∧Below w.heap.size w w':=by
 obtain⟨_,_,s⟩:=(Jw5 hx hp hm m).run k args (hpG n l) _ e trivial
 have:=s (PhiG l) (TauG l) w vs (relG hn hw) (fun id h1 _=>if_neg (fun hh=>by
  obtain⟨p,hp,rfl⟩:=List.mem_map.1 hh;exact absurd (hw p hp).1 (Nat.not_lt.2 h1))) (hv _)
 refine this.mono ?_;intro en w' hh
 cases en with
 | returned x=>
  obtain⟨v2,h2,e9,Φ',τ',hv,_,t⟩:=hh
  cases e9
  refine⟨⟨x,Φ',rfl,hv⟩,⟨t.os,t.tape,t.output,t.size,fun g hg=>(t.keep g hg fun id e=>?_).1⟩⟩
  have e:TauG l g= .own id:=e;unfold TauG at e
  split at e <;> cases e
 | panicked ch=>obtain⟨v2,h2,e9,_⟩:=hh;cases e9
 | outgrown=>exact hh.elim
theorem Jdi{pr:Prim}{ex:FuncId→Nat}(hx:ExS P ex)(hp:Jn3 P pr)(hm:P.follows .mixedOrders=true){m k n:Nat}{l:List (Nat × List AV)}(e:tt (Jk4 P pr ex m k [] (hpG n l))=true)(hn:n≤big5)(w:World)(hw:Jkk w n l):
  Calls P k #[] w fun en w'=>en= .returned (.bool true)∧Below w.heap.size w w':=by
 unfold tt at e
 split at e
 ·rename_i h' he
  refine(Jvo hx hp hm he w hn hw [] (fun _=>by simp only [RvL])).mono ?_
  rintro en w' ⟨⟨x,Φ,rfl,hv⟩,hb⟩;rw [hv.bI];exact⟨rfl,hb⟩
 ·cases e
end
end Go.Ev
namespace Go.Proofs.YtjiojpmoleilgaaGreatDoor
open Go Go.Ev Go.Wf
def ex52(k:Nat):Nat:=bif Nat.beq k 237 then 1 else bif Nat.beq k 238 then 2 else 0
theorem Jky:tt (Jk4 Tryz.prog (fun _=>none) ex52 200 9 [] (hpG 7 []))=true:=by kernel_rfl
theorem ord52:Tryz.prog.follows .mixedOrders=true:=by kernel_rfl
theorem exS52:ExS Tryz.prog ex52:=by
 intro k hk;unfold ex52 at hk
 cases h:Nat.beq k 237 with
 | true=>
  obtain rfl:=Nat.eq_of_beq_eq_true h;exact⟨_,_,Tryz.func237,by rfl,by rfl,by rfl,by rfl,.inl ⟨rfl,rfl⟩⟩
 | false=>
  rw [h] at hk
  cases h2:Nat.beq k 238 with
  | true=>
   obtain rfl:=Nat.eq_of_beq_eq_true h2;exact⟨_,_,Tryz.func238,by rfl,by rfl,by rfl,by rfl,.inr ⟨rfl,rfl,_,rfl⟩⟩
  | false=>rw [h2] at hk;exact absurd rfl hk
theorem vw{w:World}:Calls Tryz.prog 9 #[] w (Ret w fun v _=>v= .bool true):=by
 refine(Jdi exS52 Jwq ord52 Jky (by decide) w (fun _ h=>by cases h)).mono ?_
 rintro en w' ⟨rfl,hb⟩;exact⟨rfl,hb⟩
end Go.Proofs.YtjiojpmoleilgaaGreatDoor
namespace Go.Wf
open Go Go.RowKit
def Jdt(ops:Array Oper)(m p n:Nat)(dl:List (List Nat)):Bool:=
 let N:=ops.size
 m < N && p < m && dl.length == m && ((ops[m]?).bind (·.dst)).isNone &&
 (ops.toList.all fun o=>match o.dst with | some d=>d < n | none=>true) &&
 ((List.range N).all fun k=>((ops[k]?).map fun o=>o.after.all fun e=> !Region.binds .any e || e.on < k).getD false) &&
 ((List.range m).all fun k=>(dl.getD k []).all fun j=>ancB ops N j k && j < m) &&
 ((List.range N).all fun k=>k < m+1 || (List.range k).all fun j=>ancB ops N j k) &&
 ((List.range m).all fun j=>j == p || ancB ops N j m) &&
 ((List.range m).all fun k=>((ops[k]?).bind (·.dst)).isSome && (List.range m).all fun j=>j == k || Zr ops j != Zr ops k)
section
variable {fc:Fence} [Fw fc] {P:Program} {ops:Array Oper} {n:Nat} {D:List Deferred} {Q:Post} {f0:Fr} {w0:World}
structure DrawFactsF (ops:Array Oper) (m p n:Nat) (dl:List (List Nat)):Prop where
 le:m < ops.size
 pm:p < m
 len:dl.length=m
 none:((ops[m]?).bind (·.dst))=none
 dst:∀ (k:Nat) (o:Oper),ops[k]? =some o→lo n o.dst
 back:∀ (k:Nat) (o:Oper),ops[k]? =some o→∀ e ∈ o.after,Region.binds .any e=true→e.on < k
 deps:∀ k,k < m→∀ j ∈ dl.getD k [],ancB ops ops.size j k=true∧j < m
 tail:∀ k,k < ops.size→m < k→∀ j,j < k→ancB ops ops.size j k=true
 q:∀ j,j < m→j≠p→ancB ops ops.size j m=true
 some:∀ k,k < m→((ops[k]?).bind (·.dst)).isSome=true
 apart:∀ k,k < m→∀ j,j < m→j≠k→Zr ops j≠Zr ops k
theorem vv{m p:Nat}{dl:List (List Nat)}(h:Jdt ops m p n dl=true):DrawFactsF ops m p n dl:=by
 simp only [Jdt,Bool.and_eq_true,decide_eq_true_eq,beq_iff_eq,List.all_eq_true,List.mem_range,Bool.or_eq_true,bne_iff_ne,Option.isNone_iff_eq_none] at h;obtain⟨⟨⟨⟨⟨⟨⟨⟨⟨h1,h2⟩,h3⟩,h4⟩,h5⟩,h6⟩,h7⟩,h8⟩,h9⟩,h10⟩:=h;refine⟨h1,h2,h3,h4,?_,?_,fun k hk j hj=>by have:=h7 k hk j hj;exact this,?_,?_,fun k hk=>(h10 k hk).1,?_⟩
 ·intro k o ho;have hm:o ∈ ops.toList:=by
   have:=Array.getElem?_eq_some_iff.1 ho
   obtain⟨hk,rfl⟩:=this;simp
  have:=h5 o hm
  unfold lo
  cases hd:o.dst with
  | none=>trivial
  | some d=>rw [hd] at this;simpa using this
 ·intro k o ho e he hb;have hk:=(Array.getElem?_eq_some_iff.1 ho).1
  have:=h6 k hk
  rw [ho] at this;simp only [Option.map_some,Option.getD_some,Array.all_eq_true'] at this
  have:=this e he
  simpa [hb] using this
 ·intro k hk hm j hj
  rcases h8 k hk with h | h
  ·omega
  ·exact h j hj
 ·intro j hj hne
  rcases h9 j hj with h | h
  ·exact absurd h hne
  ·exact h
 ·intro k hk j hj hne
  rcases(h10 k hk).2 j hj with h | h
  ·exact absurd h hne
  ·exact h
theorem Jwf(hB:∀ (k:Nat) (o:Oper),ops[k]? =some o→∀ e ∈ o.after,Region.binds .any e=true→e.on < k):∀ fuel j k,k < ops.size→ancB ops fuel j k=true→j < k:=by
 intro fuel
 induction fuel with
 | zero=>intro j k _ h;simp [ancB] at h
 | succ fuel ih=>
  intro j k hk h;have ho:ops[k]? =some ops[k]:=by simp [hk]
  simp only [ancB,Jej,ho,Option.map_some,Option.getD_some,Bool.or_eq_true,Array.any_eq_true',Bool.and_eq_true,beq_iff_eq] at h
  rcases h with ⟨e,he,hb,rfl⟩ | ⟨e,he,hb,hanc⟩
  ·exact hB k _ ho e he hb
  ·have h1:=hB k _ ho e he hb
   have:=ih j e.on (by omega) hanc
   omega
theorem cntG{L:Array Bool}(m:Nat)(hle:m≤ops.size)(h1:∀ i,i < m→L.getD i true=true)(h2:∀ i,i < ops.size→m≤i→L.getD i true=false):unl ops.size L=ops.size - m:=by
 have:∀ N,m≤N→N≤ops.size→unl N L=N - m:=by
  intro N hN
  induction N with
  | zero=>intro _;simp [unl]
  | succ N ih=>
   intro hNs;simp only [unl,List.range_succ,List.countP_append,List.countP_singleton]
   rcases Nat.eq_or_lt_of_le hN with e | hlt
   ·have:unl N L=0:=by
     refine List.countP_eq_zero.2 ?_;intro i hi;have hi':i < N:=by simpa using hi
     simp [h1 i (by omega)]
    unfold unl at this;rw [this,h1 N (by omega)];simp;omega
   ·have:=ih (by omega) (by omega)
    unfold unl at this;rw [this,h2 N (by omega) (by omega)];simp;omega
 exact this ops.size hle (Nat.le_refl _)
theorem Jgd{m:Nat}(hB:∀ (k:Nat) (o:Oper),ops[k]? =some o→∀ e ∈ o.after,Region.binds .any e=true→e.on < k)(hT:∀ k,k < ops.size→m≤k→∀ j,j < k→ancB ops ops.size j k=true):∀ (fuel k:Nat) (L:Array Bool) (a:Act) (w:World),m≤k→k+fuel=ops.size→L.size=ops.size→
  (∀ i,i < ops.size→(L.getD i true=true↔i < k))→Good n D a→Sq P ops n Q (ops.toList.drop k) (frOf a) w→
  wpAnyIn fc 0 P .any ops (fun e a' w'=>Good n D a'∧Q e (frOf a') w') fuel L a w:=by
 intro fuel;have bridge:∀ (L:Array Bool),L.size=ops.size→∀ i,i < ops.size→L.getD i false=L.getD i true:=by
  intro L hs i hi
  have:L[i]? =some L[i]:=by simp [hs,hi]
  simp [Array.getD_eq_getD_getElem?,this]
 induction fuel with
 | zero=>
  intro k L a w hm hk hs hL ha h;refine⟨?_,?_⟩
  ·rw [List.eq_nil_iff_forall_not_mem];intro i hi;obtain⟨h1,h2,_⟩:=Zc.1 hi
   have:=(hL i h1).2 (by omega)
   rw [this] at h2;cases h2
  ·rw [List.drop_of_length_le (by simp;omega)] at h;exact⟨ha,h⟩
 | succ fuel ih=>
  intro k L a w hm hk hs hL ha h;have hkN:k < ops.size:=by omega
  have hok:ops[k]? =some ops[k]:=by simp [hkN]
  have hdr:ops.toList.drop k=ops[k]::ops.toList.drop (k+1):=by
   rw [List.drop_eq_getElem_cons (by simpa using hkN)];simp
  rw [hdr] at h;have hrk:k ∈ Region.ready .any ops L:=by
   refine Zc.2 ⟨hkN,?_,ops[k],hok,?_⟩
   ·cases hb:L.getD k true with
    | false=>rfl
    | true=>have:=(hL k hkN).1 hb;omega
   ·intro e he hb;have hlt:=hB k _ hok e he hb;rw [bridge L hs _ (by omega)]
    exact(hL _ (by omega)).2 hlt
  refine⟨(fun hnil=>by rw [hnil] at hrk;cases hrk),?_⟩;intro i hi;obtain⟨h1,h2,o,ho,h3⟩:=Zc.1 hi;have hik:i=k:=by
   have hge:k≤i:=by
    rcases Nat.lt_or_ge i k with hl | hl
    ·rw [(hL i h1).2 hl] at h2;cases h2
    ·exact hl
   rcases Nat.eq_or_lt_of_le hge with e | hlt
   ·exact e.symm
   ·exfalso
    have hc:Yh ops L:=by
     intro k' hk' hl o' ho' e' he' hb';have hlt':=hB k' _ ho' e' he' hb';rw [bridge L hs _ (by omega)]
     have:=(hL k' hk').1 hl
     exact(hL _ (by omega)).2 (by omega)
    have:=Z5 hs hc ops.size k i h1 (fun o' ho'=>by rw [ho] at ho';cases ho';exact h3) (hT i h1 (by omega) k hlt)
    rw [bridge L hs k hkN] at this
    have:=(hL k hkN).1 this
    omega
  subst hik;simp only [Sq] at h;obtain⟨hlo,h⟩:=h;refine X8 (Kv:=fun v w'=>Sq P ops n Q (ops.toList.drop (i+1)) (updO (frOf a) ops[i].dst v) w') (Kp:=fun ch w'=>Q (.panic ch) (frOf a) w') hok ha h ?_ (fun _ _ q=>q)
  intro v w' hk';refine ih (i+1) _ _ _ (by omega) (by omega) (by simp [hs]) ?_ (ha.put _ _) (by rw [Zy ha _ hlo];exact hk');intro j hj;rw [Array.getD_eq_getD_getElem?,Array.getElem?_setIfInBounds]
  by_cases e:i=j
  ·subst e;simp [hs,hkN]
  ·have:=hL j hj
   rw [Array.getD_eq_getD_getElem?] at this;simp only [e,if_false];rw [this];omega
theorem Jpp {σ:Type} {s0:σ} {m p:Nat} {c:Value} {dl:List (List Nat)} (F:DrawFactsF ops m p n dl) {R:σ→World→σ→World→Prop} {Gl:List (σ→Value→World→Prop)}
  (htr:∀ s a t b u c,R s a t b→R t b u c→R s a u c) (hG:K4 R Gl)
  (hst:zx P ops Q R Gl f0 s0 w0 (J4 ops m) ops.toList dl 0)
  (hc:∀ s v w,(Gl.getD p noG) s v w→v=c)
  (hp:∀ f s w,R s0 w0 s w→Keep (J4 ops m) f0 f→Deps ops Gl f s w (dl.getD p [])→∀ w' o,ops[p]? =some o→OpSt P ops f o w' (fun v w2=>v=c∧w2=w') (fun ch w2=>∀ f,Q (.panic ch) f w2))
  (hq:∀ f s w,R s0 w0 s w→Keep (J4 ops m) f0 f→Deps ops Gl f s w ((List.range m).filter fun j=> !Nat.beq j p)→∀ o,ops[m]? =some o→
   OpSt P ops f o w (fun _ w'=>∀ f',(∀ t,t≠Zr ops p→f' t=f t)→f' (Zr ops p)=c→Sq P ops n Q (ops.toList.drop (m+1)) f' w') (fun ch w2=>∀ f,Q (.panic ch) f w2)):
  ∀ (fuel:Nat) (L:Array Bool) (a:Act) (s:σ) (w:World),unl ops.size L=fuel→L.size=ops.size→Yh ops L→
   (∀ i,i < ops.size→m≤i→L.getD i true=false)→Good n D a→R s0 w0 s w→Keep (J4 ops m) f0 (frOf a)→
   (∀ j,j < m→L.getD j true=true→(Gl.getD j noG) s (frOf a (Zr ops j)) w)→
   wpAnyIn fc 0 P .any ops (fun e a' w'=>Good n D a'∧Q e (frOf a') w') fuel L a w:=by
 intro fuel;have bridge:∀ (L:Array Bool),L.size=ops.size→∀ i,i < ops.size→L.getD i false=L.getD i true:=by
  intro L hs i hi
  have:L[i]? =some L[i]:=by simp [hs,hi]
  simp [Array.getD_eq_getD_getElem?,this]
 induction fuel with
 | zero=>
  intro L a s w hu hs hc' hno ha hR hK hg
  have:=yg hu m F.le
  rw [hno m F.le (Nat.le_refl _)] at this;cases this
 | succ fuel ih=>
  intro L a s w hu hs hc' hno ha hR hK hg
  ·have hle:=F.le;have hm0:=hno m hle (Nat.le_refl _);have hmin:∃ i,i≤m∧L.getD i true=false∧∀ j,j < i→L.getD j true=true:=by
    have key:∀ i,i≤m→L.getD i true=false→∃ i,i≤m∧L.getD i true=false∧∀ j,j < i→L.getD j true=true:=by
     intro i
     induction i using Nat.strongRecOn with
     | _ i ihh=>
      intro hi hb
      by_cases h:∃ j,j < i∧L.getD j true=false
      ·obtain⟨j,hj,hjb⟩:=h;exact ihh j hj (by omega) hjb
      ·refine⟨i,hi,hb,fun j hj=>?_⟩
       cases hjb:L.getD j true with
       | true=>rfl
       | false=>exact absurd ⟨j,hj,hjb⟩ h
    exact key m (Nat.le_refl _) hm0
   obtain⟨i0,hi0,hb0,hlow⟩:=hmin;have hr0:i0 ∈ Region.ready .any ops L:=by
    have hok:ops[i0]? =some ops[i0]:=by simp [show i0 < ops.size by omega]
    refine Zc.2 ⟨by omega,hb0,ops[i0],hok,?_⟩;intro e he hbe;have hlt:=F.back i0 _ hok e he hbe;rw [bridge L hs _ (by omega)];exact hlow _ hlt
   refine⟨(fun hnil=>by rw [hnil] at hr0;cases hr0),?_⟩;intro i hi;obtain⟨h1,h2,o,ho,h3⟩:=Zc.1 hi;have him':i≤m:=by
    rcases Nat.lt_or_ge m i with hl | hl
    ·exfalso
     have:=Z5 hs hc' ops.size m i h1 (fun o' ho'=>by rw [ho] at ho';cases ho';exact h3) (F.tail i h1 hl m hl)
     rw [bridge L hs m hle,hm0] at this
     cases this
    ·exact hl
   rcases Nat.eq_or_lt_of_le him' with him | him
   ·
    subst him;have hdone:∀ j,j < i→j≠p→L.getD j true=true:=by
     intro j hj hjp
     have:=Z5 hs hc' ops.size j i h1 (fun o' ho'=>by rw [ho] at ho';cases ho';exact h3) (F.q j hj hjp)
     rw [bridge L hs j (by omega)] at this;exact this
    have hdep:Deps ops Gl (frOf a) s w ((List.range i).filter fun j=> !Nat.beq j p):=by
     refine Deps.of _ fun j hj=>?_
     obtain⟨hj1,hj2⟩:=List.mem_filter.1 hj;have hjp:j≠p:=fun e=>by subst e;rw [Nat.beq_refl] at hj2;cases hj2
     exact hg j (by simpa using hj1) (hdone j (by simpa using hj1) hjp)
    have hstep:=hq (frOf a) s w hR hK hdep o ho;have hnone:o.dst=none:=by have:=F.none;rw [ho] at this;simpa using this
    refine X8 (Kv:=fun _ w'=>∀ f',(∀ t,t≠Zr ops p→f' t=frOf a t)→f' (Zr ops p)=c→Sq P ops n Q (ops.toList.drop (i+1)) f' w') (Kp:=fun ch w'=>∀ f,Q (.panic ch) f w') ho ha hstep ?_ (fun c' w' hq'=>hq' _);intro v w' hS;rw [hnone];have hput:a.put none v=a:=rfl;rw [hput];have hpi:p < i:=F.pm;have hpp:¬ p=i:=by omega
    obtain⟨op,hop⟩:∃ op,ops[p]? =some op:=⟨ops[p],by simp [show p < ops.size by omega]⟩;have hset:∀ j,j < ops.size→(L.setIfInBounds i true).getD j true=(if i=j then true else L.getD j true):=by
     intro j hj;rw [Array.getD_eq_getD_getElem?,Array.getElem?_setIfInBounds]
     by_cases e:i=j
     ·subst e;simp [hs,h1]
     ·simp only [e,if_false];rw [← Array.getD_eq_getD_getElem?]
    have hfu:fuel=unl ops.size (L.setIfInBounds i true):=by have:=j3 hs h1 h2;omega
    cases hpb:L.getD p true with
    | true=>
     have hcp:=hc _ _ _ (hg p hpi hpb);have hu1:fuel=ops.size - (i+1):=by
      rw [hfu];refine cntG (i+1) (by omega) ?_ ?_
      ·intro j hj;rw [hset j (by omega)]
       by_cases e:i=j
       ·rw [if_pos e]
       ·rw [if_neg e]
        by_cases e2:j=p
        ·subst e2;exact hpb
        ·exact hdone j (by omega) e2
      ·intro j hj hjm;rw [hset j hj,if_neg (by omega)];exact hno j hj (by omega)
     rw [hu1];refine Jgd (m:=i+1) F.back (fun k hk hm j hj=>F.tail k hk (by omega) j hj) (ops.size - (i+1)) (i+1) _ a w' (Nat.le_refl _) (by omega) (by simp [hs]) ?_ ha (hS _ (fun _ _=>rfl) hcp);intro j hj;rw [hset j hj]
     by_cases e:i=j
     ·rw [if_pos e];simp;omega
     ·rw [if_neg e]
      constructor
      ·intro h
       rcases Nat.lt_or_ge j (i+1) with hl | hl
       ·exact hl
       ·rw [hno j hj (by omega)] at h;cases h
      ·intro h
       by_cases e2:j=p
       ·subst e2;exact hpb
       ·exact hdone j (by omega) e2
    | false=>
     have hu1:fuel=ops.size - (i+1)+1:=by
      have h9:=j3 (L:=L.setIfInBounds i true) (by simp [hs]) (show p < ops.size by omega) (by rw [hset p (by omega),if_neg (fun e=>hpp e.symm)];exact hpb);have h10:=cntG (ops:=ops) (L:=(L.setIfInBounds i true).setIfInBounds p true) (i+1) (by omega) (by
       intro j hj;rw [Array.getD_eq_getD_getElem?,Array.getElem?_setIfInBounds]
       by_cases e:p=j
       ·subst e;simp [hs,show p < ops.size by omega]
       ·simp only [e,if_false];rw [← Array.getD_eq_getD_getElem?,hset j (by omega)]
        by_cases e2:i=j
        ·rw [if_pos e2]
        ·rw [if_neg e2];exact hdone j (by omega) (fun e3=>e e3.symm)) (by
       intro j hj hjm;rw [Array.getD_eq_getD_getElem?,Array.getElem?_setIfInBounds];have e:¬ p=j:=by omega
       simp only [e,if_false];rw [← Array.getD_eq_getD_getElem?,hset j hj,if_neg (by omega)];exact hno j hj (by omega))
      omega
     rw [hu1];have hpr:p ∈ Region.ready .any ops (L.setIfInBounds i true):=by
      refine Zc.2 ⟨by omega,by rw [hset p (by omega),if_neg (fun e=>hpp e.symm)];exact hpb,op,hop,?_⟩;intro e he hbe;have hlt:=F.back p _ hop e he hbe;rw [bridge _ (by simp [hs]) _ (by omega),hset _ (by omega),if_neg (by omega)];exact hdone _ (by omega) (by omega)
     refine⟨(fun hnil=>by rw [hnil] at hpr;cases hpr),?_⟩;intro k hk;obtain⟨k1,k2,ok,hok,k3⟩:=Zc.1 hk;have hkp:k=p:=by
      rcases Nat.lt_or_ge k i with hl | hl
      ·by_cases e:k=p
       ·exact e
       ·rw [hset k k1,if_neg (by omega),hdone k hl e] at k2;cases k2
      ·rcases Nat.eq_or_lt_of_le hl with e | hl2
       ·rw [hset k k1,if_pos e] at k2;cases k2
       ·exfalso
        have hc2:Yh ops (L.setIfInBounds i true):=by
         intro k' hk' hl' o' ho' e' he' hb';rw [bridge _ (by simp [hs]) _ (by have:=F.back k' _ ho' e' he' hb';omega)];rw [hset k' hk'] at hl';rw [hset _ (by have:=F.back k' _ ho' e' he' hb';omega)]
         by_cases e:i=e'.on
         ·rw [if_pos e]
         ·rw [if_neg e]
          by_cases e2:i=k'
          ·subst e2;rw [ho] at ho';cases ho'
           have:=h3 e' he' hb'
           rw [bridge L hs _ (by have:=F.back i _ ho e' he' hb';omega)] at this;exact this
          ·rw [if_neg e2] at hl'
           have:=hc' k' hk' hl' o' ho' e' he' hb'
           rw [bridge L hs _ (by have:=F.back k' _ ho' e' he' hb';omega)] at this;exact this
        have:=Z5 (by simp [hs]) hc2 ops.size p k k1 (fun o' ho'=>by rw [hok] at ho';cases ho';exact k3) (F.tail k k1 hl2 p (by omega))
        rw [bridge _ (by simp [hs]) p (by omega),hset p (by omega),if_neg (fun e=>hpp e.symm),hpb] at this
        cases this
     subst hkp;rw [hop] at hok;cases hok;have hdepp:Deps ops Gl (frOf a) s w (dl.getD k []):=by
      refine Deps.of _ fun j hj=>?_
      obtain⟨hanc,hjm⟩:=F.deps k hpi j hj;have hjk:j≠k:=fun e=>by
       have h12:=Jwf F.back ops.size j k k1 hanc;omega
      exact hg j hjm (hdone j hjm hjk)
     have hsp:=hp (frOf a) s w hR hK hdepp w' op hop;have hsome:=F.some k hpi;rw [hop] at hsome;have hdi:Zr ops k=(op.dst).getD 0:=by simp [Zr,hop]
     obtain⟨dk,hdk⟩:=Option.isSome_iff_exists.1 hsome;simp only [Option.bind_some] at hdk;have hdd:Zr ops k=dk:=by rw [hdi,hdk];rfl
     have hlo:=F.dst k op hop;refine X8 (Kv:=fun v w2=>v=c∧w2=w') (Kp:=fun ch w2=>∀ f,Q (.panic ch) f w2) hop ha hsp ?_ (fun c' w2 hq'=>hq' _);rintro v2 w2 ⟨rfl,rfl⟩;refine Jgd (m:=i+1) F.back (fun k hk hm j hj=>F.tail k hk (by omega) j hj) (ops.size - (i+1)) (i+1) _ _ _ (Nat.le_refl _) (by omega) (by simp [hs]) ?_ (ha.put _ _) ?_
     ·intro j hj;rw [Array.getD_eq_getD_getElem?,Array.getElem?_setIfInBounds]
      by_cases e:k=j
      ·subst e;simp [hs,k1];omega
      ·simp only [e,if_false];rw [← Array.getD_eq_getD_getElem?,hset j hj]
       by_cases e2:i=j
       ·rw [if_pos e2];simp;omega
       ·rw [if_neg e2]
        constructor
        ·intro h
         rcases Nat.lt_or_ge j (i+1) with hl | hl
         ·exact hl
         ·rw [hno j hj (by omega)] at h;cases h
        ·intro h;exact hdone j (by omega) (fun e3=>e e3.symm)
     ·rw [Zy ha _ hlo,hdk];refine hS _ (fun t ht=>?_) ?_
      ·rw [hdd] at ht;simp only [updO,upd,ht,if_false]
      ·rw [hdd];simp only [updO,upd,if_true]
   ·have hdep:Deps ops Gl (frOf a) s w (dl.getD i []):=by
     refine Deps.of _ fun j hj=>?_
     obtain⟨hanc,hjm⟩:=F.deps i him j hj
     have:=Z5 hs hc' ops.size j i h1 (fun o' ho'=>by rw [ho] at ho';cases ho';exact h3) hanc
     rw [bridge L hs j (by omega)] at this;exact hg j hjm this
    have hstep:=zx.at ops.toList dl 0 hst i o (by simpa using ho) (by rw [F.len];exact him) (frOf a) s w hR hK hdep;rw [Nat.zero_add] at hstep;have hsome:=F.some i him;rw [ho] at hsome;have hdi:Zr ops i=(o.dst).getD 0:=by simp [Zr,ho]
    obtain⟨d,hd⟩:=Option.isSome_iff_exists.1 hsome;simp only [Option.bind_some] at hd;have hdd:Zr ops i=d:=by rw [hdi,hd];rfl
    have hlo:=F.dst i o ho;refine X8 (Kv:=fun v w'=>∃ s',R s w s' w'∧(Gl.getD i noG) s' v w') (Kp:=fun ch w'=>∀ f,Q (.panic ch) f w') ho ha hstep ?_ ?_
    ·rintro v w' ⟨s',hRR,hgv⟩;refine ih _ _ s' _ ?_ (by simp [hs]) ?_ ?_ (ha.put _ _) (htr _ _ _ _ _ _ hR hRR) ?_ ?_
     ·have:=j3 hs h1 h2;omega
     ·intro k hk hl o' ho' e he hb;rw [Array.getD_eq_getD_getElem?,Array.getElem?_setIfInBounds]
      by_cases e1:i=e.on
      ·subst e1;simp [hs,h1]
      ·simp only [e1,if_false];rw [← Array.getD_eq_getD_getElem?]
       by_cases e2:i=k
       ·subst e2;rw [ho] at ho';cases ho';exact h3 e he hb
       ·rw [Array.getD_eq_getD_getElem?,Array.getElem?_setIfInBounds] at hl;simp only [e2,if_false] at hl;rw [← Array.getD_eq_getD_getElem?] at hl;exact hc' k hk hl o' ho' e he hb
     ·intro k hk hmk
      have:¬ i=k:=by omega
      rw [Array.getD_eq_getD_getElem?,Array.getElem?_setIfInBounds];simp only [this,if_false];rw [← Array.getD_eq_getD_getElem?];exact hno k hk hmk
     ·rw [Zy ha _ hlo,hd];intro t ht;have htd:t≠d:=by
       rintro rfl
       have:t ∈ J4 ops m:=by
        refine List.mem_filterMap.2 ⟨o,?_,hd⟩;have h':ops.toList[i]? =some o:=by simpa using ho
        have:(ops.toList.take m)[i]? =some o:=by rw [List.getElem?_take,if_pos him];exact h'
        exact List.mem_of_getElem? this
       have:(J4 ops m).contains t=true:=by simpa using this
       rw [this] at ht;cases ht
      simp only [updO,upd,htd,if_false];exact hK t ht
     ·intro j hj hl;rw [Zy ha _ hlo,hd]
      by_cases e:j=i
      ·subst e;rw [hdd];simp only [updO,upd,if_true];exact hgv
      ·have hne:Zr ops j≠d:=by rw [← hdd];exact F.apart i him j hj e
       simp only [updO,upd,hne,if_false];have e':¬ i=j:=fun h=>e h.symm;rw [Array.getD_eq_getD_getElem?,Array.getElem?_setIfInBounds] at hl;simp only [e',if_false] at hl;rw [← Array.getD_eq_getD_getElem?] at hl;exact K4.at Gl hG j _ s w s' w' (hg j hj hl) hRR
    ·intro c w' hq;exact hq _
def AtOp(K:Oper→Prop):List Oper→Prop
 | o::_=>K o
 | []=>True
theorem AtOp.get{K:Oper→Prop}{k:Nat}{o:Oper}(ho:ops[k]? =some o)(h:AtOp K (ops.toList.drop k)):K o:=by
 obtain⟨hk,rfl⟩:=Array.getElem?_eq_some_iff.1 ho;rw [List.drop_eq_getElem_cons (by simpa using hk)] at h;simpa [AtOp] using h
theorem J5n {σ:Type} {id:Nat} {c:Value} (hm:P.follows .mixedOrders=true) (m p:Nat) (dl:List (List Nat)) (s0:σ) (R:σ→World→σ→World→Prop) (Gl:List (σ→Value→World→Prop))
  (chk:Jdt ops m p n dl=true) (h0:R s0 w0 s0 w0.drew) (htr:∀ s a t b u c,R s a t b→R t b u c→R s a u c) (hG:K4 R Gl) (hc:∀ s v w,(Gl.getD p noG) s v w→v=c)
  (h:∀ f s w,R s0 w0 s w→Keep (J4 ops m) f0 f→qz P ops Q R Gl f s w ops.toList dl 0∧
   (Deps ops Gl f s w (dl.getD p [])→∀ w',AtOp (fun o=>OpSt P ops f o w' (fun v w2=>v=c∧w2=w') (fun ch w2=>∀ f,Q (.panic ch) f w2)) (ops.toList.drop p))∧
   (Deps ops Gl f s w ((List.range m).filter fun j=> !Nat.beq j p)→
    AtOp (fun o=>OpSt P ops f o w (fun _ w'=>∀ f',(∀ t,t≠Zr ops p→f' t=f t)→f' (Zr ops p)=c→Sq P ops n Q (ops.toList.drop (m+1)) f' w') (fun ch w2=>∀ f,Q (.panic ch) f w2)) (ops.toList.drop m))):
  W fc P (Code.region id ops true) n D Q f0 w0:=by
 intro a ha hf;have F:=vv chk;refine wpIn_region_any hm ?_;have hz:∀ i,i < ops.size→(Array.replicate ops.size false).getD i true=false:=by
  intro i hi;simp [Array.getD_eq_getD_getElem?,hi]
 refine Jpp F htr hG (zz _ _ _ fun f s w r k=>(h f s w r k).1) hc (fun f s w r k d w' o ho=>AtOp.get ho ((h f s w r k).2.1 d w')) (fun f s w r k d o ho=>AtOp.get ho ((h f s w r k).2.2 d)) ops.size _ a s0 _ ?_ (by simp) ?_ (fun i hi _=>hz i hi) ha h0 (fun t _=>by rw [hf]) ?_
 ·unfold unl
  have:(List.range ops.size).countP (fun i=> !(Array.replicate ops.size false).getD i true)=(List.range ops.size).length:=by
   refine List.countP_eq_length.2 ?_;intro i hi;simp [hz i (by simpa using hi)]
  rw [this];simp
 ·intro k hk hl;rw [hz k hk] at hl;cases hl
 ·intro j hj hl;rw [hz j (by have:=F.le;omega)] at hl;cases hl
end
end Go.Wf
namespace Go.Wf
open Go Go.Proofs Go.RowKit Go.Proofs.YtjiojpmoleilgaaGreatDoor
theorem Je6{X:Nat→Prop}{w:World}(hX:XB X w){v0:Value}{en:GExpr}(r0:RV Jf X w v0 en){v1:Value}{xn:GExpr}(r1:RV Jf X w v1 xn){sn:List UInt8}  :Calls Tryz.prog 7 #[v0,v1,(str sn)] w (Ret w fun v w'=>v=(.bool true)):=by
 obtain⟨a1,c2,a3,c4,a5,c6,a7,c8,rfl,h9⟩:=J3f r0;obtain⟨a10,c11,a12,c13,a14,c15,a16,c17,rfl,h18⟩:=J3f r1;have C:=Cx.start hX;refine Cgo (args:=[(ea en a1 c2 a3 c4 a5 c6 a7 c8),(ea xn a10 c11 a12 c13 a14 c15 a16 c17),(str sn)]) Tryz.func7 rfl rfl rfl (Rg (Ol (J3g C rfl ?_)));intro g19 w20 x21 y22 lt23 C24 s25 o26;replace h18:=h18.sp s25;refine Ol (J3g C24 rfl ?_);intro g27 w28 x29 y30 lt31 C32 s33 o34;replace h9:=(h9.sp s25).sp s33;replace o26:=o26.spn s33;refine Oa (Nl (Rh (Ol (J29 (vs:=(ec en a1 c2 a3 c4 a5 c6 a7 c8)) o26 ag31 rfl rfl rfl (Ol (St.bool (J25 C32 cb13 rfl rfl (Jgc C32.bd (Jh en h9.lo h9.hi h9.name h9.n h9.num h9.den h9.args)) ?_)))))));intro v36 w37 C38 s39 h40;replace h18:=(h18.sp s33).sp s39;replace o34:=o34.spn s39;obtain⟨b42,e43,hp44⟩:=h40;refine⟨b42,e43,fun hb41=>?_,fun hb41=>?_⟩
 ·replace hp44:=hp44 hb41;refine Ol (St.not rfl (Om (Og rfl rfl (J29 (vs:=(ec xn a10 c11 a12 c13 a14 c15 a16 c17)) o34 ag31 rfl rfl rfl (Og rfl rfl (St.bool (J25 C38 cb13 rfl rfl (Jgc C38.bd (Jh xn h18.lo h18.hi h18.name h18.n h18.num h18.den h18.args)) ?_)))))));intro v45 w46 C47 s48 h49;replace h9:=(h9.sp s39).sp s48;replace o26:=(o26.spn s39).spn s48;obtain⟨b51,e52,hp53⟩:=h49;refine⟨b51,e52,fun hb50=>?_,fun hb50=>?_⟩
  ·replace hp53:=hp53 hb50;refine Og rfl rfl (St.not rfl (OF (Om (Og rfl rfl (St.move (Og rfl rfl (J4a un9 rfl (Og rfl rfl (J3u rfl rfl (fun hc54=>?_) (fun hc54=>?_))))))))))
   ·refine OF (Nl (J26 rfl (Rg (Ol (J25 C47 cb9 rfl rfl (vw) ?_)))));intro v55 w56 C57 s58 h59;subst h59;refine Oa (Nl (W.ret (J7 rfl (resV.t rfl) (Ret.intro ?_ C57.below))))
    rfl
   refine OF (Nl (J28 rfl (W.skip (Rg (Ol (J29 (vs:=(ec en a1 c2 a3 c4 a5 c6 a7 c8)) o26 ag31 rfl rfl rfl (Ol (J25 C47 cb15 rfl rfl (Jj8 C47.bd (Jh en h9.lo h9.hi h9.name h9.n h9.num h9.den h9.args) hp44.1 (Nat.le_trans hp44.2 (by decide))) ?_))))))));intro v60 w61 C62 s63 h64;replace h18:=(h18.sp s48).sp s63;replace o34:=(o34.spn s48).spn s63;obtain⟨a65,c66,a67,c68,a69,c70,a71,c72,rfl,h73⟩:=J3f h64;refine Ol (J25 C62 cb25 rfl rfl (Jv4 C62.bd (Jh en h73.lo h73.hi h73.name h73.n h73.num h73.den h73.args) (Q8 hp44.1) (Nat.le_trans hp44.2 (by decide))) ?_);intro v74 w75 C76 s77 h78;replace h9:=(h9.sp s63).sp s77;replace o26:=(o26.spn s63).spn s77;obtain⟨v79,v80,rfl,h81,rfl⟩:=h78;obtain⟨a83,c84,rfl,_,_⟩:=h81.len;refine Om (Ol (St.extract rfl rfl (Ol (St.extract rfl rfl (Oa (Oa (Nl (Rg (Ol (J29 (vs:=(ec en a1 c2 a3 c4 a5 c6 a7 c8)) o26 ag31 rfl rfl rfl (Ol (J25 C76 cb26 rfl rfl (Js5 C76.bd (Jh en h9.lo h9.hi h9.name h9.n h9.num h9.den h9.args) (Q8 hp44.1) (Nat.le_trans hp44.2 (by decide))) ?_))))))))))));intro v85 w86 C87 s88 h89;replace h9:=h9.sp s88;replace h18:=(h18.sp s77).sp s88;replace h81:=h81.sp s88;replace o26:=o26.spn s88;replace o34:=(o34.spn s77).spn s88;obtain⟨v90,v91,rfl,h92,rfl⟩:=h89;obtain⟨a94,c95,rfl,_,_⟩:=h92.len;refine Om (Ol (St.extract rfl rfl (Ol (St.extract rfl rfl (Oa (Oa (Nl (Rh (Om (Om (Ol (St.neq (t:=false) rfl rfl (by rw [decide_eq_true rfl];rfl) (Om (Og rfl rfl (St.move (Og rfl rfl (St.len sl50 rfl (Og rfl rfl (St.move (Og rfl rfl (St.len sl50 rfl ?_)))))))))))))))))))));refine Og rfl rfl (St.neq (t:=false) rfl rfl (by rw [decide_eq_true rfl];rfl) (OF (Nl (J28 rfl (W.skip (Rh (Oa (Nl (W.block (J3j (fun μ f v=>∃ (x y:Nat→Prop) (i:Nat),Cx X w x y v∧f 2=(str sn)∧f 3=(.pointer (some ⟨g19,0,none⟩))∧f 4=(.pointer (some ⟨g27,0,none⟩))∧f 7=(.slice a83 (nmR en).length c84)∧f 9=(.slice a94 (nmR en).length c95)∧f 11=(.int .i64 ((i:Nat):Int))∧ExprParts x v en a1 c2 a3 c4 a5 c6 a7 c8∧ExprParts x v xn a10 c11 a12 c13 a14 c15 a16 c17∧RS Zm x v (.slice a83 (nmR en).length c84) (nmR en)∧RS Zm x v (.slice a94 (nmR en).length c95) (nmR en)∧Own w y v g19 (ec en a1 c2 a3 c4 a5 c6 a7 c8) 31∧Own w y v g27 (ec xn a10 c11 a12 c13 a14 c15 a16 c17) 31∧i≤(nmR en).length∧μ=((nmR en).length - i)) _ ⟨_,_,0,C87,rfl,rfl,rfl,rfl,rfl,rfl,h9,h18,h81,h92,o26,o34,(Nat.zero_le _),rfl⟩ ?_))))))))));rintro m110 f96 w97 ⟨x98,y99,i,C100,e101,e102,e103,e104,e105,e106,h9,h18,h81,h92,o107,o108,hi,hmu109⟩;obtain⟨f111,rfl⟩:=rebK (aC e101 (aC e102 (aC e103 (aC e104 (aC e105 (aC e106 aN))))));clear e101 e102 e103 e104 e105 e106;have hnl:=Jth en;have hc8:=hp44.2;refine Rh (Om (Om (Ol (St.len sl50 rfl (Ol (J3i rfl rfl (fun hc112=>?_) (fun hc112=>?_)))))))
   ·refine Nl (J26 rfl (W.skip (W.seq (W.block (W.seq (J3m J5 8 [[],[],[0,1],[2],[],[],[4,5],[6]] C100 [fx (.slice a83 (nmR en).length c84),fx (.int .i64 ((i:Nat):Int)),fE Zm ((nmR en).getD i []),fx (str ((nmR en).getD i [])),fx (.slice a94 (nmR en).length c95),fx (.int .i64 ((i:Nat):Int)),fE Zm ((nmR en).getD i []),fx (str ((nmR en).getD i []))] (by kernel_rfl) ⟨sx,sx,sE,sx,sx,sx,sE,sx,trivial⟩ fun f124 s125 w126 ⟨C129,S130⟩ k128=>?_))))))
    replace h9:=h9.sp S130;replace h18:=h18.sp S130;replace h81:=h81.sp S130;replace h92:=h92.sp S130;replace o107:=o107.spn S130;replace o108:=o108.spn S130;have k128:Keep [57,58,59,60,61,62,63,64] _ f124:=k128;refine⟨⟨fun _=>?_,fun _=>?_,fun⟨e133,e134,_⟩=>?_,fun⟨d135,_⟩=>?_,fun _=>?_,fun _=>?_,fun⟨e136,e137,_⟩=>?_,fun⟨d138,_⟩=>?_,trivial⟩,fun⟨e139,e140,d141,e142,e143,e144,d145,e146,_⟩=>?_⟩
    ·exact Ja k128 aN fun _=>OpSt.op (St.move ⟨s125,RC.same C129,rfl⟩)
    ·exact Ja k128 aN fun _=>OpSt.op (St.move ⟨s125,RC.same C129,rfl⟩)
    ·refine Ja k128 (aC e133 (aC e134 aN)) fun _=>OpSt.op (J3k (j:=i) (u:=((nmR en).getD i [])) h81 sl50 io9 rfl rfl rfl (Jg (by omega)) ?_);intro b148 o149 cs150 e151;obtain⟨rfl,bd152⟩:cs150=_∧_:=e151.rd;exact⟨s125,RC.same C129,⟨_,_,_,rfl,e151⟩⟩
    ·obtain⟨b154,o155,cs156,e153,e157⟩:=d135;obtain⟨rfl,bd158⟩:cs156=_∧_:=e157.rd;exact Ja k128 (aC e153 aN) fun _=>OpSt.op (J3e pl9 rfl (e157.cell 0 _ rfl) ⟨s125,RC.same C129,rfl⟩)
    ·exact Ja k128 aN fun _=>OpSt.op (St.move ⟨s125,RC.same C129,rfl⟩)
    ·exact Ja k128 aN fun _=>OpSt.op (St.move ⟨s125,RC.same C129,rfl⟩)
    ·refine Ja k128 (aC e136 (aC e137 aN)) fun _=>OpSt.op (J3k (j:=i) (u:=((nmR en).getD i [])) h92 sl50 io9 rfl rfl rfl (Jg (by omega)) ?_);intro b159 o160 cs161 e162;obtain⟨rfl,bd163⟩:cs161=_∧_:=e162.rd;exact⟨s125,RC.same C129,⟨_,_,_,rfl,e162⟩⟩
    ·obtain⟨b165,o166,cs167,e164,e168⟩:=d138;obtain⟨rfl,bd169⟩:cs167=_∧_:=e168.rd;exact Ja k128 (aC e164 aN) fun _=>OpSt.op (J3e pl9 rfl (e168.cell 0 _ rfl) ⟨s125,RC.same C129,rfl⟩)
    obtain⟨b171,o172,cs173,e170,e174⟩:=d141;obtain⟨rfl,bd175⟩:cs173=_∧_:=e174.rd;obtain⟨b177,o178,cs179,e176,e180⟩:=d145;obtain⟨rfl,bd181⟩:cs179=_∧_:=e180.rd;obtain⟨f182,rfl⟩:=mixK k128 (aC e139 (aC e140 (aC e170 (aC e142 (aC e143 (aC e144 (aC e176 (aC e146 aN))))))));refine Ol (J4f rfl rfl (fun hc183=>absurd rfl hc183) (fun hc183=>(Nl (J28 rfl (W.skip (W.region (Om (Ol (St.add rfl rfl (Jc (a:=i) (b:=1) (by omega)) (Oa (Nl (⟨_,(by omega),_,_,(i+1),C129,rfl,rfl,rfl,rfl,rfl,rfl,h9,h18,h81,h92,o107,o108,(by omega),rfl⟩))))))))))))
   refine Nl (J28 rfl (W.exit (W.seq (J5n (c:=(.int .i64 ((subE en sn xn).2))) J5 10 8 [[],[0],[],[],[3],[1,2,4],[5],[6],[6],[]] (x98,y99) (RC X w) [fx (ea en a1 c2 a3 c4 a5 c6 a7 c8),fr Jf en,fx (str sn),fx (ea xn a10 c11 a12 c13 a14 c15 a16 c17),fr Jf xn,fun(s:Gh) (v:Value) (w':World)=>∃ u0 u1,v= .tuple #[u0,u1]∧(RV Jf s.1 w' u0 ((subE en sn xn).1))∧(u1=(.int .i64 ((subE en sn xn).2))),fun(s:Gh) (v:Value) (w':World)=>∃ u0 u1,v= .tuple #[u0,u1]∧(RV Jf s.1 w' u0 ((subE en sn xn).1))∧(u1=(.int .i64 ((subE en sn xn).2))),fr Jf ((subE en sn xn).1),fx (.int .i64 ((subE en sn xn).2)),fun(s:Gh) (v:Value) (w':World)=>∃ g':Nat,v= .pointer (some ⟨g',0,none⟩)∧Own w s.2 w' g' [(.int .i64 0),(.slice none 0 0),(.bool false),(.slice none 0 0),(.bool false),(.slice none 0 0),(str []),(.slice none 0 0)] 31∧w97.heap.size≤g'] (by kernel_rfl) (J4e C100) RC.trans ⟨sx,sr,sx,sx,sr,(fun _ _ _ _ _ ⟨u0,u1,e,h0,h1⟩ r=>⟨u0,u1,e,h0.tr r.sp.tx,h1⟩),(fun _ _ _ _ _ ⟨u0,u1,e,h0,h1⟩ r=>⟨u0,u1,e,h0.tr r.sp.tx,h1⟩),sr,sx,(fun _ _ _ _ _ ⟨g,e,o,l⟩ r=>⟨g,e,o.spn r.sp,l⟩),trivial⟩ (fun _ _ _ h=>h) fun f241 s242 w243 ⟨C245,S246⟩ k244=>?_))))
   have lt247:=o107.blk.lt;have lt248:=o108.blk.lt;have hszS246:=S246.tx.size;replace h9:=h9.sp S246;replace h18:=h18.sp S246;replace o107:=o107.spn S246;replace o108:=o108.spn S246;have k244:Keep [67,68,69,70,71,72,66,73,74,12] _ f241:=k244;refine⟨⟨fun _=>?_,fun⟨e249,_⟩=>?_,fun _=>?_,fun _=>?_,fun⟨e250,_⟩=>?_,fun⟨d251,e252,d253,_⟩=>?_,fun⟨d254,_⟩=>?_,fun⟨d255,_⟩=>?_,fun⟨d256,_⟩=>?_,fun _=>?_,trivial⟩,fun⟨d257,_⟩ _=>?_,fun⟨e258,d259,e260,e261,d262,d263,d264,d265,d266,_⟩=>?_⟩
   ·exact Ja k244 aN fun _=>OpSt.op (J29 (vs:=(ec en a1 c2 a3 c4 a5 c6 a7 c8)) o107 ag31 rfl rfl rfl ⟨s242,RC.same C245,rfl⟩)
   ·refine Ja k244 (aC e249 aN) fun _=>OpSt.op (J25 C245 cb15 rfl rfl (Jj8 C245.bd (Jh en h9.lo h9.hi h9.name h9.n h9.num h9.den h9.args) hp44.1 (Nat.le_trans hp44.2 (by decide))) ?_);intro v267 w268 C269 s270 h271;exact⟨s242,⟨C269,s270⟩,h271⟩
   ·exact Ja k244 aN fun _=>OpSt.op (St.move ⟨s242,RC.same C245,rfl⟩)
   ·exact Ja k244 aN fun _=>OpSt.op (J29 (vs:=(ec xn a10 c11 a12 c13 a14 c15 a16 c17)) o108 ag31 rfl rfl rfl ⟨s242,RC.same C245,rfl⟩)
   ·refine Ja k244 (aC e250 aN) fun _=>OpSt.op (J25 C245 cb15 rfl rfl (Jj8 C245.bd (Jh xn h18.lo h18.hi h18.name h18.n h18.num h18.den h18.args) hp53.1 (Nat.le_trans hp53.2 (by decide))) ?_);intro v272 w273 C274 s275 h276;exact⟨s242,⟨C274,s275⟩,h276⟩
   ·obtain⟨a278,c279,a280,c281,a282,c283,a284,c285,e277,h286⟩:=J3f d251;obtain⟨a288,c289,a290,c291,a292,c293,a294,c295,e287,h296⟩:=J3f d253;refine Ja k244 (aC e277 (aC e252 (aC e287 aN))) fun _=>OpSt.op (J25 C245 cb27 rfl rfl (c_Sub C245.bd (Jh en h286.lo h286.hi h286.name h286.n h286.num h286.den h286.args) (Jh xn h296.lo h296.hi h296.name h296.n h296.num h296.den h296.args) hp44.1 hp44.2 hp53.1 hp53.2) ?_);intro v297 w298 C299 s300 h301;exact⟨s242,⟨C299,s300⟩,h301⟩
   ·obtain⟨v303,v304,e302,h305,rfl⟩:=d254;obtain⟨a307,c308,a309,c310,a311,c312,a313,c314,rfl,h315⟩:=J3f h305;exact Ja k244 (aC e302 aN) fun _=>OpSt.op (St.move (⟨s242,RC.same C245,⟨_,_,rfl,(Jh ((subE en sn xn).1) h315.lo h315.hi h315.name h315.n h315.num h315.den h315.args),rfl⟩⟩))
   ·obtain⟨v317,v318,e316,h319,rfl⟩:=d255;obtain⟨a321,c322,a323,c324,a325,c326,a327,c328,rfl,h329⟩:=J3f h319;exact Ja k244 (aC e316 aN) fun _=>OpSt.op (St.extract rfl rfl ⟨s242,RC.same C245,(Jh ((subE en sn xn).1) h329.lo h329.hi h329.name h329.n h329.num h329.den h329.args)⟩)
   ·obtain⟨v331,v332,e330,h333,rfl⟩:=d256;obtain⟨a335,c336,a337,c338,a339,c340,a341,c342,rfl,h343⟩:=J3f h333;exact Ja k244 (aC e330 aN) fun _=>OpSt.op (St.extract rfl rfl ⟨s242,RC.same C245,rfl⟩)
   ·refine Ja k244 aN fun _=>OpSt.op (J3b C245 io31 rfl ?_);intro g344 w345 x346 y347 lt348 C349 s350 o351;exact⟨(x346,y347),⟨C349,s350⟩,g344,rfl,o351,Nat.le_of_not_lt fun hh=>lt348 _ (Nat.lt_of_lt_of_le hh hszS246) rfl⟩
   ·obtain⟨v355,v356,e354,h357,rfl⟩:=d257;obtain⟨a359,c360,a361,c362,a363,c364,a365,c366,rfl,h367⟩:=J3f h357;exact Ja k244 (aC e354 aN) fun _=>OpSt.op (St.extract rfl rfl ⟨rfl,rfl⟩)
   obtain⟨a369,c370,a371,c372,a373,c374,a375,c376,e368,h377⟩:=J3f d259;obtain⟨a379,c380,a381,c382,a383,c384,a385,c386,e378,h387⟩:=J3f d262;obtain⟨v389,v390,e388,h391,rfl⟩:=d263;obtain⟨a393,c394,a395,c396,a397,c398,a399,c400,rfl,h401⟩:=J3f h391;obtain⟨v403,v404,e402,h405,rfl⟩:=d264;obtain⟨a407,c408,a409,c410,a411,c412,a413,c414,rfl,h415⟩:=J3f h405;obtain⟨a417,c418,a419,c420,a421,c422,a423,c424,e416,h425⟩:=J3f d265;obtain⟨g427,e426,o428,l429⟩:=d266;have n430:g19≠g427:=Nat.ne_of_lt (Nat.lt_of_lt_of_le lt247 l429);have n431:g27≠g427:=Nat.ne_of_lt (Nat.lt_of_lt_of_le lt248 l429);refine Ja k244 (aC e258 (aC e368 (aC e260 (aC e261 (aC e378 (aC e388 (aC e402 (aC e416 (aC e426 aN))))))))) fun _=>OpSt.op (J3a (cs':=(ec ((subE en sn xn).1) a417 c418 a419 c420 a421 c422 a423 c424)) C245 o428 io31 rfl rfl rfl rfl rfl rfl ?_);intro w433 C434 s435 o436;replace h9:=h9.sp s435;replace h18:=h18.sp s435;replace o107:=o107.spo s435 n430;replace o108:=o108.spo s435 n431;intro f437 hf438 hc439;replace hf438:∀ t,t≠74→f437 t=f241 t:=hf438;have k244:Keep [67,68,69,70,71,72,66,73,74,12] _ f437:=fun t ht=>(hf438 t fun e=>by subst e;exact absurd ht (by decide)).trans (k244 t ht);obtain⟨f440,rfl⟩:=mixK k244 (aC hc439 (aC ((hf438 67 (by decide)).trans e258) (aC ((hf438 68 (by decide)).trans e368) (aC ((hf438 69 (by decide)).trans e260) (aC ((hf438 70 (by decide)).trans e261) (aC ((hf438 71 (by decide)).trans e378) (aC ((hf438 72 (by decide)).trans e388) (aC ((hf438 66 (by decide)).trans e402) (aC ((hf438 73 (by decide)).trans e416) (aC ((hf438 12 (by decide)).trans e426) aN))))))))));refine Oa (Nl (Rg (Ol (J29 (vs:=(ec en a1 c2 a3 c4 a5 c6 a7 c8)) o107 ag31 rfl rfl rfl (Om (Ol (J29 (vs:=(ec xn a10 c11 a12 c13 a14 c15 a16 c17)) o108 ag31 rfl rfl rfl (Ol (J25 C434 cb28 rfl rfl (x_Sub C434.bd (Jh en h9.lo h9.hi h9.name h9.n h9.num h9.den h9.args) (Jh xn h18.lo h18.hi h18.name h18.n h18.num h18.den h18.args) hp44.1 hp44.2 hp53.1 hp53.2 (by omega)) ?_)))))))));intro v441 w442 C443 s444 h445;replace h425:=(h425.sp s435).sp s444;replace o436:=o436.spn s444;obtain⟨v446,v447,rfl,h448,rfl⟩:=h445;obtain⟨a450,c451,a452,c453,a454,c455,a456,c457,rfl,h458⟩:=J3f h448;refine Om (Ol (St.extract rfl rfl (Ol (St.extract rfl rfl (Ol (J3b C443 io31 rfl ?_))))));intro g459 w460 x461 y462 lt463 C464 s465 o466;have n469:=lt463 _ o436.blk.lt;refine On (J3a (cs':=(ec ((subE en sn xn).1) a450 c451 a452 c453 a454 c455 a456 c457)) C464 o466 io31 rfl rfl rfl rfl rfl rfl ?_);intro w470 C471 s472 o473;replace h425:=(h425.sp s465).sp s472;replace h458:=(h458.sp s465).sp s472;replace o436:=(o436.spn s465).spo s472 n469;refine Oa (Nl (Rg (Ol (J29 (vs:=(ec ((subE en sn xn).1) a417 c418 a419 c420 a421 c422 a423 c424)) o436 ag31 rfl rfl rfl (Ol (J29 (vs:=(ec ((subE en sn xn).1) a450 c451 a452 c453 a454 c455 a456 c457)) o473 ag31 rfl rfl rfl (Ol (J25 C471 cb12 rfl rfl (Jvy C471.bd (Jh ((subE en sn xn).1) h425.lo h425.hi h425.name h425.n h425.num h425.den h425.args) (Jh ((subE en sn xn).1) h458.lo h458.hi h458.name h458.n h458.num h458.den h458.args) rfl) ?_))))))))
   intro v474 w475 C476 s477 h478;subst h478;refine Om (Og rfl rfl (St.move (Og rfl rfl (St.move (Og rfl rfl (St.eql (t:=true) rfl rfl (decide_eq_true rfl) (OT (Om (Og rfl rfl (J25 C476 cb9 rfl rfl (vw) ?_))))))))));intro v479 w480 C481 s482 h483;subst h483;refine OT (Oa (Nl (W.ret (J7 rfl (resV.t rfl) (Ret.intro ?_ C481.below)))))
   rfl
  refine Og rfl rfl (St.not rfl (OF (Om (Oz (Oz (Oz (OT (Nl (J26 rfl (Rg (Ol (J25 C47 cb9 rfl rfl (vw) ?_))))))))))));intro v484 w485 C486 s487 h488;subst h488;refine Oa (Nl (W.ret (J7 rfl (resV.t rfl) (Ret.intro ?_ C486.below))))
  rfl
 refine Ol (St.not rfl (Om (Oz (Oz (Oz (OT (Om (Oz (Oz (Oz (OT (Nl (J26 rfl (Rg (Ol (J25 C38 cb9 rfl rfl (vw) ?_))))))))))))))));intro v489 w490 C491 s492 h493;subst h493;refine Oa (Nl (W.ret (J7 rfl (resV.t rfl) (Ret.intro ?_ C491.below))))
 rfl
end Go.Wf
namespace Go.Proofs.YtjiojpmoleilgaaGreatDoor
open Go Go.Proofs Go.Wf Go.RowKit Go.ChangeShapes Go.WideShapes Go.ChangeMaps
theorem Juz:Tryz.prog.inits.idxOf? 7=none:=by kernel_rfl
theorem Jw4(s:ByteArray):Value.string s=str s.data.toList:=by obtain⟨⟨d⟩⟩:=s;rfl
def wE:Value:= .agg #[.int .i64 0,.slice none 0 0,.bool false,.slice none 0 0,.bool false,.slice none 0 0,.string ⟨#[]⟩,.slice none 0 0]
def ku:Array Value:= #[wE,wE,.string ⟨#[]⟩]
theorem wOk7(os:Os):Input.okWideB Tryz.prog ((World.laidAll Tryz.prog os j8).forCall (fun _ _=>0) ⟨#[],ku,[]⟩) 7 ⟨#[],ku,[]⟩=true:=by kernel_rfl
theorem wPre7(os:Os)(H:Type)(enc:TypeId × Value→H):Rows.exprNamesSpec.preB enc Tryz.prog Tryz.f7 [] false ((World.laidAll Tryz.prog os j8).forCall (fun _ _=>0) ⟨#[],ku,[]⟩).memory ku 8=true:=by kernel_rfl
theorem Jta(os:Os)(H:Type)(enc:TypeId × Value→H):Rows.exprNamesSpec.sizedB enc Tryz.prog Tryz.f7 false ((World.laidAll Tryz.prog os j8).forCall (fun _ _=>0) ⟨#[],ku,[]⟩).memory ku 8=true:=by kernel_rfl
theorem Jvl(os:Os)(started:os.Started)(H:Type)(enc:TypeId × Value→H):
  ReturnsInHanded {} Tryz.checked os 7 .any (fun w args=>(Rows.exprNamesSpec.pre enc Tryz.prog Tryz.f7 [] false w args∧laidMetH Tryz.prog j8 w)∧sizedMet enc Tryz.prog Tryz.f7 (OpenSpec.ofChange Rows.exprNamesSpec) false w args)
   (Rows.exprNamesSpec.post enc Tryz.prog Tryz.f7 false true false false):=by
 refine returnsInHanded_of_change_and (C:=Tryz.checked) (X:=fun w _=>laidMetH Tryz.prog j8 w) (fun _ _ _ hh h=>h.of_heap hh) own52 started Juz Tryz.func7
  (ChangeSpec.witness_shaped (enc:=enc) (C:=Tryz.checked) (os:=os) (X:=fun w _=>laidMetH Tryz.prog j8 w) false (World.laidAll Tryz.prog os j8) ku 8 (World.laidAll_os _ _ _)
   (World.shaped_of_ZipB (wZip os _) (wRest os _)) (wOk7 os) (wPre7 os H enc) (Jta os H enc)
   (by rw [MakeChecks.laidMetH_plain _ _ _ Jye];exact laidMet_laidAll _ (wFits os) (Jux os))) ?_
 intro W base args ds gs before hval0 hW _ _ hL _;have hval:∀ (j:Nat) t v,Tryz.f7.params[j]? =some t→args[j]? =some v→Value.okWide Tryz.prog W .any base t v:=hval0;have hW':=hW;obtain⟨p,q,hA0,hV,rfl,_,_⟩:=hW;have hA:DataW.TrodAll enc Tryz.prog W 0 (fun _=>true) true Tryz.f7.params.toList args.toList ds p:=hA0;rw [Tryz.params7] at hA hval;obtain⟨v0,v1,v2,d0,d1,d2,p0,p1,p2,rfl,rfl,rfl,h0,h1,h2⟩:=trodAll_three hA;obtain⟨rfl,rfl⟩:=trodVars_none hV;obtain⟨a,ha⟩:=Jqd (hval 0 31 v0 rfl rfl) h0;obtain⟨b,hb⟩:=Jqd (hval 1 31 v1 rfl rfl) h1;obtain⟨s2,z2,_,_,l2⟩:=open_string und9 (hval 2 9 v2 rfl rfl) h2;replace z2:=z2.trans (Jw4 s2);subst z2;have hlt:∀ x ∈ p0++p1++p2,x.block < W.heap.size:=fun x hx=>hW'.lt x (by simpa using hx);have call:=Je6 (X:=NX) (fun _ h=>h.elim) ha hb (sn:=s2.data.toList);refine call.mono fun e W' hr=>?_
 cases e with
 | returned v=>
  obtain⟨rfl,hb⟩:=hr;exact⟨_,rfl,_,_,_,[],p0++(p1++p2),[],hW',trodAll_mk1 (shut_bool und4 _),
   trodAll_mk3 (Below.trod qg Jro lt31 h0 hb (fun x hx=>hlt x (by simp [hx]))) (Below.trod qg Jro lt31 h1 hb (fun x hx=>hlt x (by simp [hx]))) (Below.trod qg read9 lt9 h2 hb (fun x hx=>hlt x (by simp [hx]))),rfl,hb.frame _,fun h=>by cases h⟩
 | panicked ch=>exact hr.elim
 | outgrown=>exact hr.elim
theorem Jp3:Tryz.prog.funcNamed "halfplane/halfplanelaw52.ExprNames" =some 7:=by kernel_rfl
theorem inst7:Tryz.f7.isInstance Tryz.prog Rows.exprNamesRow.origin Rows.exprNamesRow.targs:=of_decide_eq_true (by kernel_rfl)
theorem Jaa:Rows.ExprNamesSaid:=
 OpenClaim.holds_of_wide 7 Tryz.f7 rfl rfl rfl rfl rfl rfl rfl ⟨rfl,rfl,rfl,rfl,rfl⟩ rfl rfl rfl rfl rfl Jp3 Tryz.func7 Jx2
  inst7 (by unfold Func.isWrapper;first | (rw [if_pos (by decide +kernel)];kernel_rfl) | (rw [if_neg (by decide +kernel)];exact⟨rfl,rfl⟩))
  (fun os started H enc _=>Jvl os started H enc)
end Go.Proofs.YtjiojpmoleilgaaGreatDoor
