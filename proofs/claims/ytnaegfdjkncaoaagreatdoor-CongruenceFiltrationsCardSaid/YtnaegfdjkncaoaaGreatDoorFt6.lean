/- Part 6 of the texts for the claim. -/
import Derived.Test.YtnaegfdjkncaoaaGreatDoorFt5
set_option linter.unusedVariables false
set_option linter.unusedSimpArgs false
set_option maxRecDepth 100000
set_option maxHeartbeats 4000000
noncomputable section
namespace Go.Ev
open Go Go.Wf Go.RowKit
section
variable {P:Program} {call:CallF} {n:Nat} {ops:Array Oper} {f:Fr} {h:Hp} {S:Nat→DS}
theorem nB{F:Wf.Fr}{d t:Nat}{v:Value}:Wf.updO F (some d) v t=if t=d then v else F t:=rfl
theorem IvS.upd {Φ0 Φ Φ':Phi} {τ0 τ τ':Tau} {a w w':World} {L:Array Bool} {F:Wf.Fr} {i:Nat} {o:Oper} {v:Value} (R:Run P call n ops f h S) (K:Lk P n ops) (I:IvS P ops f h S Φ0 τ0 a L F w Φ τ) (hs:L.size=ops.size)
  (ho:ops[i]? =some o) (hi:L.getD i false=false) (tw:Tw Φ0 τ0 h a Φ' τ' (S ops.size).h.n w') (sub:Sub Φ Φ')
  (fre:∀j,j<ops.size→j≠i→L.getD j false=false→Fre Φ' (S j).h.n (S (j+1)).h.n) (val:∀t,t<4096→o.dst=some t→Rv Φ' (getF t (S (i+1)).f) v)
  (rel:∀x,(S ops.size).hs[cnt P ops L+if isMv P ops i then 1 else 0]? =some x→Rel Φ' τ' x.1 w')
  (qs:∀x,(S ops.size).hs[cnt P ops L+if isMv P ops i then 1 else 0]? =some x→∀e∈(S ops.size).qt,(e.1=i∨L.getD e.1 false=true)→tb x.2 e.1=false→∀b,e.2.2=some b→Kf Φ' τ' w' e.2.1 b):
  IvS P ops f h S Φ0 τ0 a (L.setIfInBounds i true) (updO F o.dst v) w' Φ' τ':=by
 have hiN:=(VE.1 ho).1;have hg:=fun j=>jG (L:=L) (i:=i) (by omega) j;have hc:=Gg (P:=P) hiN hs hi;refine⟨tw,?_,?_,?_,?_,?_⟩
 ·intro j hj hl;rw[hg] at hl;split at hl
  ·cases hl
  ·rename_i hne;exact fre j hj hne hl
 ·intro t ht j o' hj hd hl;rw[hg] at hl;by_cases e:j=i
  ·subst e;rw[ho] at hj;cases hj
   have:=val t ht hd
   rw[hd,nB,if_pos rfl];exact this
  ·rw[if_neg e] at hl;have hne:o.dst≠some t:=fun g=>e (K.uniq j i o' o t hj ho hd g)
   have:=(I.fw t ht j o' hj hd hl).mono sub
   cases hod:o.dst with
   |none=>exact this
   |some d=>
    rw[nB,if_neg (fun e=>hne (by rw[hod,e]))];exact this
 ·intro t ht hall;have hne:o.dst≠some t:=by
   intro hd
   have:=hall i o ho hd
   rw[hg,if_pos rfl] at this;cases this
  have:=(I.f0 t ht fun j o' hj hd=>by
   have:=hall j o' hj hd
   rw[hg] at this;split at this
   ·cases this
   ·exact this).mono sub
  cases hod:o.dst with
  |none=>exact this
  |some d=>
   rw[nB,if_neg (fun e=>hne (by rw[hod,e]))];exact this
 ·intro x hx;rw[hc] at hx;exact rel x hx
 ·intro x hx e he hl hb;rw[hc] at hx;rw[hg] at hl;refine qs x hx e he ?_ hb;split at hl
  ·exact .inl (by assumption)
  ·exact .inr hl
theorem Iv{m a:Nat}{qt:QT}{g:Fr}{o:Oper}{v:AV}{k:Out}:∀(l:List (Hp×Nat)),okO (winK P call m qt a g o v l k)→winK P call m qt a g o v l k=k∧∀x∈l,∃h',evOp P call o.op g ⟨Yb qt a x.2 x.1.t,m⟩= .ok v h':=by
 intro l
 induction l with
 |nil=>intro _;exact⟨rfl,fun x hx=>by cases hx⟩
 |cons y l ih=>
  intro e;have b:winK P call m qt a g o v (y::l) k=Res.rec (fun v' _=>Bool.rec (.no 61) (winK P call m qt a g o v l k) (sP v v')) Out.no (fun _ _=> .no 60) (evOp P call o.op g ⟨Yb qt a y.2 y.1.t,m⟩):=rfl;rw[b] at e ⊢;obtain⟨v',h',d,i⟩:=vW e;rw[i] at e ⊢;cases hb:sP v v' with
  |false=>rw[hb] at e;exact e.elim
  |true=>
   rw[hb] at e;obtain⟨j,p⟩:=ih e;refine⟨j,fun x hx=>?_⟩
   cases hx with
   |head=>rw[DJ hb];exact⟨h',d⟩
   |tail _ hx=>exact p x hx
theorem FY{m:Nat}{qt:QT}{rs:List (Nat×Fr×AV)}{hs:List (Hp×Nat)}{k:Out}:∀(l:List (Nat×Oper×Nat×Nat×Nat)),okO (rz P call m qt rs hs k l)→rz P call m qt rs hs k l=k∧
  ∀p∈l,∀r,kN rs p.1=some r→∀x∈tk (dr hs p.2.2.2.1) (Nat.succ (Nat.sub p.2.2.2.2 p.2.2.2.1)),∃h',evOp P call p.2.1.op r.1 ⟨Yb qt p.2.2.1 x.2 x.1.t,m⟩= .ok r.2 h':=by
 intro l
 induction l with
 |nil=>intro _;exact⟨rfl,fun p hp=>by cases hp⟩
 |cons q l ih=>
  intro e;have d:rz P call m qt rs hs k (q::l)=Option.rec (rz P call m qt rs hs k l) (fun r=>winK P call m qt q.2.2.1 r.1 q.2.1 r.2 (tk (dr hs q.2.2.2.1) (Nat.succ (Nat.sub q.2.2.2.2 q.2.2.2.1))) (rz P call m qt rs hs k l)) (kN rs q.1):=rfl;rw[d] at e ⊢;cases hf:kN rs q.1 with
  |none=>
   rw[hf] at e;obtain⟨a,b⟩:=ih e;refine⟨a,fun p hp=>?_⟩
   cases hp with
   |head=>intro r hr;rw[hf] at hr;cases hr
   |tail _ hp=>exact b p hp
  |some r=>
   rw[hf] at e;simp only at e ⊢;obtain⟨a,b⟩:=Iv _ e;rw[a] at e ⊢;obtain⟨g,i⟩:=ih e;refine⟨g,fun p hp=>?_⟩
   cases hp with
   |head=>intro r' hr;rw[hf] at hr;cases hr;exact b
   |tail _ hp=>exact i p hp
theorem Ii(mv a:Nat):∀(l:List Nat) (i:Nat),loM mv a l i=(List.range l.length).countP fun j=>tb (Nat.land mv a) (i+j):=by
 intro l
 induction l with
 |nil=>intro i;rfl
 |cons b l ih=>
  intro i;have d:loM mv a (b::l) i=Bool.rec (loM mv a l (Nat.succ i)) (Nat.succ (loM mv a l (Nat.succ i))) (tb (Nat.land mv a) i):=rfl;rw[d,ih,Uw,XT,WH,List.countP_map];have e:(List.range l.length).countP ((fun j=>tb (Nat.land mv a) (i+j)) ∘ Nat.succ)=(List.range l.length).countP fun j=>tb (Nat.land mv a) (Nat.succ i+j):=by
   apply WG;intro j _;simp only[Function.comp];rw[show i+Nat.succ j=Nat.succ i+j by omega]
  rw[e,YH];cases tb (Nat.land mv a) i<;>rfl
theorem MV(p r:Bool)(G:Nat):(Bool.rec G (Bool.rec (Nat.succ G) G r) p:Nat)=G+if p && !r then 1 else 0:=by cases p<;>cases r<;>rfl
theorem Ni(mv q:Nat):∀(l:List Nat) (i:Nat),hiM mv q l i=(List.range l.length).countP fun j=>tb mv (i+j) && !tb ((l[j]?).getD 0) q:=by
 intro l
 induction l with
 |nil=>intro i;rfl
 |cons b l ih=>
  intro i;have a:hiM mv q (b::l) i=Bool.rec (hiM mv q l (Nat.succ i)) (Bool.rec (Nat.succ (hiM mv q l (Nat.succ i))) (hiM mv q l (Nat.succ i)) (tb b q)) (tb mv i):=rfl;rw[a,ih,Uw,XT,WH,List.countP_map];have d:(List.range l.length).countP ((fun j=>tb mv (i+j) && !tb (((b::l)[j]?).getD 0) q) ∘ Nat.succ)=(List.range l.length).countP fun j=>tb mv (Nat.succ i+j) && !tb ((l[j]?).getD 0) q:=by
   apply WG;intro j _;simp only[Function.comp,WV];rw[show i+Nat.succ j=Nat.succ i+j by omega]
  rw[d,YH];simp only[WW,Jaf];exact MV _ _ _
theorem Hw{P:Program}{mv:Nat}{ms:List Nat}:∀(l:List Oper) (m:List Nat) (i j:Nat) (o:Oper) (a:Nat),l[j]? =some o→m[j]? =some a→ov (kdOf P o.op)=true→loM mv a ms 0≠hiM mv (i+j) ms 0→
  m.length=l.length→(i+j,o,a,loM mv a ms 0,hiM mv (i+j) ms 0)∈winM P mv ms l m i:=by
 intro l
 induction l with
 |nil=>intro m i j o a h;simp at h
 |cons x l ih=>
  intro m i j o a hj hm hr hne hlen;cases m with
  |nil=>simp at hm
  |cons b m=>
   have d:winM P mv ms (x::l) (b::m) i=Bool.rec (winM P mv ms l m (Nat.succ i)) (Bool.rec ((i,x,b,loM mv b ms 0,hiM mv i ms 0)::winM P mv ms l m (Nat.succ i)) (winM P mv ms l m (Nat.succ i)) (Nat.beq (loM mv b ms 0) (hiM mv i ms 0))) (ov (kdOf P x.op)):=rfl;rw[d];cases j with
   |zero=>
    simp at hj hm;subst hj;subst hm;rw[YH] at hne ⊢;have hb:Nat.beq (loM mv b ms 0) (hiM mv i ms 0)=false:=by rw[yc];exact decide_eq_false hne
    rw[hr,hb];exact XH
   |succ j=>
    have:=ih m (Nat.succ i) j o a (by simpa using hj) (by simpa using hm) hr (by rw[show Nat.succ i+j=i+(j+1) by omega];exact hne) (by simpa using hlen)
    rw[show Nat.succ i+j=i+(j+1) by omega] at this;cases ov (kdOf P x.op) with
    |false=>exact this
    |true=>
     cases Nat.beq (loM mv b ms 0) (hiM mv i ms 0) with
     |true=>exact this
     |false=>exact XG _ this
section
variable (R:Run P call n ops f h S) (K:Lk P n ops)
include R
theorem Run.rs{k:Nat}{o:Oper}(ho:ops[k]? =some o)(hr:kdOf P o.op= .read)(hw:yo ops o.guard (S k).f=some true):
  ∃v h',evOp P call o.op (S k).f ⟨Yb (S k).qt (msk ops k) (S k).fl (S k).h.t,(S k).h.n⟩= .ok v h'∧(∀t,o.dst=some t→t<4096→getF t (S (k+1)).f=v)∧∀j,k+1≤j→j≤ops.size→kN (S j).rs k=some ((S k).f,v):=by
 have hkN:=(VE.1 ho).1;obtain⟨hlo,⟨_,v,l,⟨h',d⟩,g⟩|⟨e,g⟩⟩:=R.st k o ho
 ·rw[hr] at d;simp only at d;refine⟨v,h',d.1,?_,?_⟩
  ·intro t hd ht;rw[g,hd];show getF t (setF t v (S k).f)=v;rw[Xe _ _ _ _ ht ht,if_pos rfl]
  ·intro j hj
   induction hj with
   |refl=>
    intro _;rw[g,d.2]
    show(Bool.rec (kN (S k).rs k) (some ((S k).f,v)) (Nat.beq k k):Option (Fr×AV))=_
    rw[show Nat.beq k k=true from YK k]
   |step hj ih=>
    rename_i j;intro hjN;have hjN:j+1≤ops.size:=hjN;have hj:k+1≤j:=hj;have hoj:ops[j]? =some ops[j]:=by simp[show j<ops.size by omega]
    have ih:=ih (by omega);obtain⟨_,⟨_,i,m,⟨p,a⟩,b⟩|⟨_,b⟩⟩:=R.st j _ hoj
    ·cases hk:kdOf P ops[j].op with
     |pure=>rw[hk] at a;simp only at a;rw[b,a.2];exact ih
     |quiet=>rw[hk] at a;simp only at a;rw[b,a.2];exact ih
     |move=>rw[hk] at a;simp only at a;rw[b,a.2];exact ih
     |read=>
      rw[hk] at a;simp only at a;rw[b,a.2]
      show(Bool.rec (kN (S j).rs k) (some ((S j).f,i)) (Nat.beq j k):Option (Fr×AV))=_
      have:Nat.beq j k=false:=by rw[yc];exact decide_eq_false (by omega)
      rw[this];exact ih
    ·rw[b];exact ih
 ·rw[hw] at e;cases e
include K
theorem Rb (hfin:∀id,h.n≤id→id<big5→get5 id h.t=none) (hwin:∀p∈winM P (movM P ops.toList 0) (ancM ops.toList []) ops.toList (ancM ops.toList []) 0,∀r,kN (S ops.size).rs p.1=some r→∀x∈tk (dr (S ops.size).hs p.2.2.2.1) (Nat.succ (Nat.sub p.2.2.2.2 p.2.2.2.1)),
   ∃h',evOp P call p.2.1.op r.1 ⟨Yb (S ops.size).qt p.2.2.1 x.2 x.1.t,(S ops.size).h.n⟩= .ok r.2 h')
  {Φ0 Φ:Phi} {τ0 τ:Tau} {w0 w:World} {L:Array Bool} {F:Wf.Fr} (I:IvS P ops f h S Φ0 τ0 w0 L F w Φ τ) (hs:L.size=ops.size) (hc:Yf ops L) {i:Nat} {o:Oper} (ho:ops[i]? =some o) (hi:L.getD i false=false)
  (hp:∀e∈o.after,Region.binds .any e=true→L.getD e.on false=true):
  lo n o.dst∧OpSt P ops F o w (fun v w'=>∃Φ' τ',IvS P ops f h S Φ0 τ0 w0 (L.setIfInBounds i true) (updO F o.dst v) w' Φ' τ') (fun _ _=>False):=by
 have hiN:=(VE.1 ho).1;have hmono1:=R.mono i (i+1) (by omega) (by omega);have hmonoN:=R.mono (i+1) ops.size (by omega) (UM _);have hlimN:=(R.lims ops.size (UM _));have hlimi:=R.lims i (by omega);obtain⟨hhl,hlx,hlat,hlt,hln⟩:=R.hs i (by omega);have hlatN:=(R.hs_pre i ops.size (by omega) (UM _)).1 _ _ hlat;have hqN:=(R.hs_pre i ops.size (by omega) (UM _)).2;have setv:∀ {t:Nat} {v:AV} {g:Fr},t<4096→o.dst=some t→getF t (setd o.dst v g)=v:=by
  intro t v g ht hd;rw[hd];show getF t (setF t v g)=v;rw[Xe _ _ _ _ ht ht,if_pos rfl]
 have relAt:∀ {x:Hp×Nat},(S ops.size).hs[cnt P ops L]? =some x→∀ {qt:QT} {m:Nat},(∀e∈qt,e∈(S ops.size).qt∧e.2.1<m)→x.1.n≤m→m≤big5→Rel Φ τ ⟨Yb qt (msk ops i) x.2 x.1.t,m⟩ w:=by
  intro x hx qt m hq D u;refine pz (I.rel x hx) D u (fun e he=>(hq e he).2) fun e he ha hf b hb=>?_
  exact I.qs x hx e (hq e he).1 (vZ hs hc i o e.1 ho hp ha) hf b hb
 obtain⟨hlo,hst⟩:=R.st i o ho;refine⟨hlo,?_⟩;obtain⟨g,hF,hev⟩:=Pr R K I hs hc ho hi hp;rcases hst with ⟨hw,v,s1,⟨h',s⟩,A⟩|⟨hw,A⟩
 ·have hwant:=tK R K I hs hc ho hi hp hw;unfold OpSt;rw[if_pos hwant];cases hk:kdOf P o.op with
  |pure=>
   have hmv:isMv P ops i=false:=by rw[Vu ho,hk];rfl
   rw[hk] at s;simp only at s;obtain⟨s,rfl⟩:=s;rw[hev] at s;obtain⟨_,pu⟩:=lZ hk s;obtain⟨dst,op,ty,pos,after,gd⟩:=o
   refine(pu Φ F w dst ty pos after gd hF).mono ?_ fun _ _ h=>h
   rintro x w' ⟨rfl,hv⟩;refine⟨Φ,τ,I.upd R K hs ho hi I.tw (Sub.refl _) (fun j hj hne hl=>I.fre j hj hl) (fun t ht hd=>?_) ?_ ?_⟩
   ·rw[A];simp only;rw[setv ht hd];exact hv
   ·rw[hmv];exact I.rel
   ·rw[hmv];intro x hx e he hl;rcases hl with hl|hl
    ·obtain⟨_,o',_,_,ho',hk',_⟩:=R.qt _ (UM _) e he;rw[hl,ho] at ho';cases ho';rw[hk] at hk';cases hk'
    ·exact I.qs x hx e he hl
  |read=>
   have hmv:isMv P ops i=false:=by rw[Vu ho,hk];rfl
   obtain⟨vr,hr',E,e2,X⟩:=R.rs ho hk hw;have X:=X ops.size (by omega) (UM _);have am:loM (movM P ops.toList 0) (msk ops i) (ancM ops.toList []) 0≤cnt P ops L:=by
    rw[Ii,zl];unfold cnt;apply WK;intro j hj hb;rw[Jab] at hb;have Y:tb (Nat.land (movM P ops.toList 0) (msk ops i)) j=(tb (movM P ops.toList 0) j&&tb (msk ops i) j):=by rw[zz,zz,zz];exact ZX _ _ _
    rw[Y,mvM] at hb;obtain⟨C,G⟩:=Za hb;rw[vZ hs hc i o j ho hp G,C];rfl
   have an:cnt P ops L≤hiM (movM P ops.toList 0) i (ancM ops.toList []) 0:=by
    rw[Ni,zl];unfold cnt;apply WK;intro j hj hb;have hj:j<ops.size:=by simpa using hj
    obtain⟨C,G⟩:=Za hb;rw[Jab,mvM,G];cases hd:tb (((ancM ops.toList [])[j]?).getD 0) i with
    |false=>rfl
    |true=>
     have:=notL hs hc hj hi hd
     rw[C] at this;cases this
   have ao:loM (movM P ops.toList 0) (msk ops i) (ancM ops.toList []) 0≤mcn P ops i:=by
    rw[Ii,zl];unfold mcn;rw[←xf (isMv P ops) ops.size i (by omega)];apply WK;intro j hj hb;rw[Jab] at hb;have Y:tb (Nat.land (movM P ops.toList 0) (msk ops i)) j=(tb (movM P ops.toList 0) j&&tb (msk ops i) j):=by rw[zz,zz,zz];exact ZX _ _ _
    rw[Y,mvM] at hb;obtain⟨C,G⟩:=Za hb;rw[C,decide_eq_true (oV i o j ho K.back G)];rfl
   have aq:mcn P ops i≤hiM (movM P ops.toList 0) i (ancM ops.toList []) 0:=by
    rw[Ni,zl];unfold mcn;rw[←xf (isMv P ops) ops.size i (by omega)];apply WK;intro j hj hb;have hj:j<ops.size:=by simpa using hj
    obtain⟨C,G⟩:=Za hb;have C:j<i:=of_decide_eq_true C;rw[Jab,mvM,G];cases hd:tb (((ancM ops.toList [])[j]?).getD 0) i with
    |false=>rfl
    |true=>
     have:=oV j ops[j] i (by simp[hj]) K.back hd
     omega
   have hlenN:=(R.hs ops.size (UM _)).1;have hcN:cnt P ops L≤mcn P ops ops.size:=by
    unfold cnt mcn;apply WK;intro j _ hb
    exact(Za hb).2
   obtain⟨x,hx⟩:∃x,(S ops.size).hs[cnt P ops L]? =some x:=⟨_,UL (by omega)⟩;have rd:∃hq,evOp P call o.op (S i).f hq= .ok vr hr'∨(∃u,evOp P call o.op (S i).f hq= .ok vr u)∧True:=⟨_,.inl E⟩;have core:∃H u,evOp P call o.op (S i).f H= .ok vr u∧Rel Φ τ H w:=by
    by_cases hne:loM (movM P ops.toList 0) (msk ops i) (ancM ops.toList []) 0=hiM (movM P ops.toList 0) i (ancM ops.toList []) 0
    ·have hcc:cnt P ops L=mcn P ops i:=by omega
     rw[←hcc] at hlatN;refine⟨_,_,E,?_⟩
     have:=relAt hlatN (qt:=(S i).qt) (m:=(S i).h.n) (fun e he=>⟨hqN e he,(R.qt_id (by omega) e he).1⟩) hln hlimi.1
     rw[hlt];exact this
    ·have hmem:=Hw (P:=P) (mv:=movM P ops.toList 0) (ms:=ancM ops.toList []) ops.toList (ancM ops.toList []) 0 i o (msk ops i) (by simpa using ho) (lL hiN) (by rw[hk];rfl) (by rw[Jab];exact hne) (by rw[zl];simp);rw[Jab] at hmem;have hxm:x∈tk (dr (S ops.size).hs (loM (movM P ops.toList 0) (msk ops i) (ancM ops.toList []) 0)) (Nat.succ (Nat.sub (hiM (movM P ops.toList 0) i (ancM ops.toList []) 0) (loM (movM P ops.toList 0) (msk ops i) (ancM ops.toList []) 0))):=by
      rw[ly,V6];apply XO (i:=cnt P ops L-loM (movM P ops.toList 0) (msk ops i) (ancM ops.toList []) 0);rw[W1,if_pos,WX]
      ·rw[←hx];congr 1;omega
      ·show _<(hiM (movM P ops.toList 0) i (ancM ops.toList []) 0-loM (movM P ops.toList 0) (msk ops i) (ancM ops.toList []) 0)+1;omega
     obtain⟨u,ae⟩:=hwin _ hmem _ X x hxm;refine⟨_,u,ae,?_⟩;have hxn:x.1.n≤(S ops.size).h.n:=by
      have key:∀j,j≤ops.size→∀(p:Nat) y,(S j).hs[p]? =some y→y.1.n≤(S j).h.n:=by
       intro j
       induction j with
       |zero=>
        intro _ p y hy;rw[R.s0] at hy ⊢;cases p with
        |zero=>simp at hy;subst hy;exact UM _
        |succ p=>simp at hy
       |succ j ih=>
        intro hj p y hy;have hoj:ops[j]? =some ops[j]:=by simp[show j<ops.size by omega]
        have hm:=R.mono j (j+1) (by omega) hj;have old:(S j).hs[p]? =some y→y.1.n≤(S (j+1)).h.n:=fun hy=>UC (ih (by omega) p y hy) hm;have new_:∀z:Hp×Nat,z.1.n≤(S (j+1)).h.n→((S j).hs++[z])[p]? =some y→y.1.n≤(S (j+1)).h.n:=by
         intro z hz hy;rw[WS] at hy;split at hy
         ·exact old hy
         ·have:=(WY.1 hy).1
          have e0:p-(S j).hs.length=0:=by simp at this;omega
          rw[e0] at hy;simp at hy;subst hy;exact hz
        obtain⟨_,⟨_,v2,s2,⟨u,d⟩,B⟩|⟨_,B⟩⟩:=R.st j _ hoj
        ·cases hkj:kdOf P ops[j].op with
         |pure=>
              rw[hkj] at d;simp only at d;have l:(S (j+1)).hs=(S j).hs:=by rw[B,d.2]
              rw[l] at hy;exact old hy
         |read=>
              rw[hkj] at d;simp only at d;have l:(S (j+1)).hs=(S j).hs:=by rw[B,d.2]
              rw[l] at hy;exact old hy
         |quiet=>
               rw[hkj] at d;simp only at d;have l:(S (j+1)).hs=(S j).hs:=by rw[B,d.2]
               rw[l] at hy;exact old hy
         |move=>
          rw[hkj] at d;simp only at d;have l:(S (j+1)).hs=(S j).hs++[(u,Nat.lor (S j).fl (msk ops j))]:=by rw[B,d.2]
          rw[l] at hy;exact new_ _ (by rw[B,d.2];exact UM _) hy
        ·have l:(S (j+1)).hs=if Yw (kdOf P ops[j].op) then(S j).hs++[((S j).h,(S j).fl)] else(S j).hs:=by rw[B]
         rw[l] at hy;split at hy
         ·exact new_ _ hm hy
         ·exact old hy
      exact key ops.size (UM _) _ x hx
     exact relAt hx (fun e he=>⟨he,(R.qt_id (UM _) e he).1⟩) hxn hlimN.1
   obtain⟨H,u,N,hrel⟩:=core;rw[hev] at N;obtain⟨_,rdd⟩:=kM hk N;obtain⟨dst,op,ty,pos,after,gd⟩:=o
   refine(rdd Φ τ F w dst ty pos after gd hF hrel).mono ?_ fun _ _ h=>h
   rintro y w' ⟨rfl,hv⟩;refine⟨Φ,τ,I.upd R K hs ho hi I.tw (Sub.refl _) (fun j hj hne hl=>I.fre j hj hl) (fun t ht hd=>?_) ?_ ?_⟩
   ·rw[e2 t hd ht];exact hv
   ·rw[hmv];exact I.rel
   ·rw[hmv];intro x hx e he hl;rcases hl with hl|hl
    ·obtain⟨_,o',_,_,ho',hk',_⟩:=R.qt _ (UM _) e he;rw[hl,ho] at ho';cases ho';rw[hk] at hk';cases hk'
    ·exact I.qs x hx e he hl
  |quiet=>
   have hmv:isMv P ops i=false:=by rw[Vu ho,hk];rfl
   rw[hk] at s;simp only at s;obtain⟨s,J⟩:=s;have g1':=s;rw[hev] at s;obtain⟨b,hb,hh,qt⟩:=Xw hk s;have hni:(S (i+1)).h.n=(S i).h.n+1:=by rw[A,J,hh]
   have hfr:Φ (S i).h.n=none:=I.fre i hiN hi _ (UM _) (by omega);obtain⟨dst,op,ty,pos,after,gd⟩:=o
   refine(qt Φ F w dst ty pos after gd hF hfr).mono ?_ fun _ _ h=>h
   rintro y w' ⟨kk,O,wn,hv,nb⟩;have hsub:Sub Φ (ext Φ (S i).h.n ⟨w.heap.size,0,kk⟩):=Sub.ext hfr;have hkeep:∀g,g<w.heap.size→w'.heap[g]? =w.heap[g]? ∧(if g=w.heap.size then(if b.ro then Lab.ro else Lab.own (S i).h.n) else τ g)=τ g:=fun g hg=>⟨wn.old g hg,if_neg (by omega)⟩;refine⟨_,fun g=>if g=w.heap.size then(if b.ro then Lab.ro else Lab.own (S i).h.n) else τ g,I.upd R K hs ho hi ?_ hsub ?_ ?_ ?_ ?_⟩
   ·refine⟨wn.os.trans I.tw.os,wn.tape.trans I.tw.tape,wn.output.trans I.tw.output,by rw[wn.size];have:=I.tw.size;omega,I.tw.sub.trans hsub,?_,?_⟩
    ·intro id hid;rw[←I.tw.same id hid];unfold ext;rw[if_neg (by omega)]
    ·intro g hg hkp;obtain⟨k1,T⟩:=I.tw.keep g hg hkp;obtain⟨Z,k4⟩:=hkeep g (UB hg I.tw.size);exact⟨Z.trans k1,k4.trans T⟩
   ·intro j hj hne hl id D u
    have:=I.fre j hj hl id D u
    unfold ext;rw[if_neg]
    ·exact this
    ·rintro rfl;exact R.apart hiN hj (fun e=>hne e.symm) (UM _) (by omega) ⟨D,u⟩
   ·intro t ht hd;rw[A];simp only;rw[setv ht hd];exact hv
   ·rw[hmv];intro x hx
    exact(I.rel x hx).kept hsub hkeep
   ·rw[hmv];intro x hx e he hl htb b' hb';rcases hl with hl|hl
    ·
     obtain⟨U,oq,vq,bq,hoq,hkq,hwq,hevq,hidq,hbq,_,_⟩:=R.qt _ (UM _) e he;rw[hl,ho] at hoq;cases hoq;rw[hl] at hevq hidq;rw[g1'] at hevq;have h9:=(Ju hevq).2;rw[hh] at h9;have ag:=congrArg Hp.t h9;have V:get5 (S i).h.n (set5 (S i).h.n (some b) (S i).h.t)=get5 (S i).h.n (set5 (S i).h.n (some bq) (S i).h.t):=by
      have:set5 (S i).h.n (some b) (S i).h.t=set5 (S i).h.n (some bq) (S i).h.t:=ag
      rw[this]
     rw[J8 _ _ _ _ hb hb,J8 _ _ _ _ hb hb,if_pos rfl,if_pos rfl] at V;cases V;rw[hbq] at hb';cases hb';rw[hidq];exact nb _ _ _ hsub (Kc _ _ _) wn.new_ (if_pos rfl)
    ·obtain⟨en,_,hlt,_,k⟩:=(I.qs x hx e he hl htb b' hb').at_;exact k hsub (hkeep _ hlt).1 (hkeep _ hlt).2
  |move=>
   have hmv:isMv P ops i=true:=by rw[Vu ho,hk];rfl
   have hcc:=kw K hs hc ho hi hp hmv;rw[hk] at s;simp only at s;obtain⟨s,J⟩:=s;rw[hev] at s;obtain⟨gw,sop⟩:=lO R.cs s;have gw:=gw hlimi.1;have M:(S (i+1)).h=h':=by rw[A,J]
   have hlatC:(S ops.size).hs[cnt P ops L]? =some (hlx,(S i).fl):=by rw[hcc];exact hlatN
   have hrelE:Rel Φ τ ⟨Yb (S i).qt (msk ops i) (S i).fl (S i).h.t,(S i).h.n⟩ w:=by
    have:=relAt hlatC (qt:=(S i).qt) (m:=(S i).h.n) (fun e he=>⟨hqN e he,(R.qt_id (by omega) e he).1⟩) hln hlimi.1
    rw[hlt];exact this
   have hqb:∀e∈(S i).qt,e.2.1<big5:=fun e he=>(R.qt_id (by omega) e he).2.1;have hnone:=R.none_ hfin ops.size (UM _) _ _ hlatN;obtain⟨dst,op,ty,pos,after,gd⟩:=o
   refine(sop Φ τ F w dst ty pos after gd hF hrelE (by rw[←M];exact I.fre i hiN hi)).mono ?_ fun _ _ h=>h
   rintro y w' ⟨Φ',τ',hv,hrel',tw'⟩;have hnew:(S ops.size).hs[cnt P ops L+1]? =some (h',Nat.lor (S i).fl (msk ops i)):=by
    refine(R.hs_pre (i+1) ops.size (by omega) (UM _)).1 _ _ ?_
    have l:(S (i+1)).hs=(S i).hs++[(h',Nat.lor (S i).fl (msk ops i))]:=by rw[A,J]
    rw[l,hcc,WU (by omega),hhl,ZV];rfl
   have hnN:h'.n≤(S ops.size).h.n:=by rw[←M];exact hmonoN
   refine⟨Φ',τ',I.upd R K hs ho hi ?_ tw'.sub ?_ ?_ ?_ ?_⟩
   ·refine⟨tw'.os.trans I.tw.os,tw'.tape.trans I.tw.tape,tw'.output.trans I.tw.output,UC I.tw.size tw'.size,I.tw.sub.trans tw'.sub,?_,?_⟩
    ·intro id hid;rw[tw'.same id (fun hh=>hid ⟨UC hlimi.2 hh.1,UB hh.2 hnN⟩),I.tw.same id hid]
    ·intro g hg hkp;obtain⟨k1,T⟩:=I.tw.keep g hg hkp;obtain⟨Z,k4⟩:=tw'.keep g (UB hg I.tw.size) (fun id e=>by
      rw[T] at e;obtain⟨z1,z2⟩:=hkp id e;refine⟨fun hid=>?_,fun hh=>z2 ⟨UC hlimi.2 hh.1,UB hh.2 hnN⟩⟩;have hid:id<(S i).h.n:=hid;have hidh:id<h.n:=by
       rcases U2 id h.n with hl|hl
       ·exact hl
       ·exact absurd ⟨hl,by omega⟩ z2
      show get5 id (Yb (S i).qt (msk ops i) (S i).fl (S i).h.t)=none;rcases yn (a:=msk ops i) (fl:=(S i).fl) (t:=(S i).h.t) (id:=id) (by have:=R.lim;omega) (S i).qt hqb with ⟨d,_⟩|⟨e',d,B,_⟩
      ·rw[d,hlt];exact hnone.2 id hidh (z1 hidh)
      ·have:=(R.qt_id (by omega) e' d).2.2
       omega)
     exact⟨Z.trans k1,k4.trans T⟩
   ·intro j hj hne hl id D u;rw[tw'.same id (fun hh=>R.apart hj hiN hne D u ⟨hh.1,by rw[M];exact hh.2⟩)];exact I.fre j hj hl id D u
   ·intro t ht hd;rw[A];simp only;rw[setv ht hd];exact hv
   ·rw[hmv];intro x hx;simp only[if_true] at hx;rw[hnew] at hx;cases hx;exact hrel'
   ·rw[hmv];intro x hx e he hl htb b' hb';simp only[if_true] at hx;rw[hnew] at hx;cases hx;simp only at htb;rw[yj] at htb;obtain⟨t1,t2⟩:=VO.1 htb;obtain⟨U,oq,vq,bq,hoq,hkq,_,_,hidq,_,hnq,hbq⟩:=R.qt _ (UM _) e he;have hne:e.1≠i:=by
     intro E;rw[E,ho] at hoq;cases hoq;rw[hk] at hkq;cases hkq
    have hl:L.getD e.1 false=true:=hl.resolve_left hne;have hnoq:=hnone.1 e he t1;obtain⟨en,_,ab,hlab,kk⟩:=(I.qs _ hlatC e he hl t1 b' hb').at_;have hkp:=tw'.keep en.g ab (fun id l=>by
     rw[hlab] at l;split at l
     ·cases l
     ·cases l;refine⟨fun _=>?_,fun hh=>R.apart U hiN hne (by omega) (by omega) ⟨hh.1,by rw[M];exact hh.2⟩⟩;show get5 e.2.1 (Yb (S i).qt (msk ops i) (S i).fl (S i).h.t)=none;rcases yn (a:=msk ops i) (fl:=(S i).fl) (t:=(S i).h.t) (id:=e.2.1) (by omega) (S i).qt hqb with ⟨d,_⟩|⟨e',d,B,q3,q4,_⟩
      ·rw[d,hlt];exact hnoq
      ·have:=R.one (UM _) (hqN e' d) he B
       rw[this] at q3;rw[q3] at t2;cases t2)
    exact kk tw'.sub hkp.1 hkp.2
 ·
  have hwant:=tK R K I hs hc ho hi hp hw;unfold OpSt;rw[if_neg (by rw[hwant];simp)];refine⟨Φ,τ,I.upd R K hs ho hi I.tw (Sub.refl _) (fun j hj hne hl=>I.fre j hj hl) (fun t ht hd=>?_) ?_ ?_⟩
  ·rw[A];simp only;rw[setv ht hd];simp only[Rv,RvL];exact⟨[],rfl,rfl⟩
  ·cases hmv:isMv P ops i with
   |false=>exact I.rel
   |true=>
    have hcc:=kw K hs hc ho hi hp hmv;have hnew:(S ops.size).hs[cnt P ops L+1]? =some ((S i).h,(S i).fl):=by
     refine(R.hs_pre (i+1) ops.size (by omega) (UM _)).1 _ _ ?_
     have Q:Yw (kdOf P o.op)=true:=by rw[←Vu (P:=P) ho];exact hmv
     have l:(S (i+1)).hs=(S i).hs++[((S i).h,(S i).fl)]:=by rw[A];simp only;rw[if_pos Q]
     rw[l,hcc,WU (by omega),hhl,ZV];rfl
    intro x hx;simp only[if_true] at hx;rw[hnew] at hx;cases hx;have r0:=I.rel (hlx,(S i).fl) (by rw[hcc];exact hlatN);refine⟨hlimi.1,fun id b hid hb=>?_,fun id hid h5=>?_⟩
    ·have hid:id<(S i).h.n:=hid;have hb:get5 id (S i).h.t=some b:=hb;rw[hlt] at hb;rcases U2 id hlx.n with hl|hl
     ·exact r0.blk id b hl hb
     ·rw[r0.fin id hl (by omega)] at hb;cases hb
    ·show get5 id (S i).h.t=none;rw[hlt];exact r0.fin id (UC hln hid) h5
  ·intro x hx e he hl htb b' hb';have hq:e.1=i→False:=by
    intro E;obtain⟨_,o',_,_,ho',_,hwq,_⟩:=R.qt _ (UM _) e he;rw[E,ho] at ho';cases ho';rw[E,hw] at hwq;cases hwq
   have hl:L.getD e.1 false=true:=hl.resolve_left hq;cases hmv:isMv P ops i with
   |false=>rw[hmv] at hx;exact I.qs x hx e he hl htb b' hb'
   |true=>
    rw[hmv] at hx;have hcc:=kw K hs hc ho hi hp hmv;have hnew:(S ops.size).hs[cnt P ops L+1]? =some ((S i).h,(S i).fl):=by
     refine(R.hs_pre (i+1) ops.size (by omega) (UM _)).1 _ _ ?_
     have Q:Yw (kdOf P o.op)=true:=by rw[←Vu (P:=P) ho];exact hmv
     have l:(S (i+1)).hs=(S i).hs++[((S i).h,(S i).fl)]:=by rw[A];simp only;rw[if_pos Q]
     rw[l,hcc,WU (by omega),hhl,ZV];rfl
    simp only[if_true] at hx;rw[hnew] at hx;cases hx;exact I.qs (hlx,(S i).fl) (by rw[hcc];exact hlatN) e he hl htb b' hb'
end
end
section
variable {fc:Fence} {P:Program} {call:CallF} {n:Nat}
def Vw(fc:Fence)(P:Program)(n:Nat)(c:Code)(o:Fr→Hp→Out):Prop:=∀f h,okO (o f h)→Gw h (hpO (o f h) h)∧
 ∀(Φ:Phi) (τ:Tau) (F:Wf.Fr) (w:World) (D:List Deferred),FR Φ f F→Rel Φ τ h w→Fre Φ h.n (hpO (o f h) h).n→W fc P c n D (OutQ Φ τ h w (o f h)) F w
theorem BC[Fw fc](hc:CallS P call)(hn:n≤4096)(hm:P.follows .mixedOrders=true)(id:Nat)(ops:Array Oper)(draw:Bool):Vw fc P n (.region id ops draw) (yz P call n ops draw):=by
 intro f h e;cases draw with
 |false=>
  rw[ve] at e ⊢;obtain⟨g,s⟩:=G6 hc hn ops.toList f h e;exact⟨g,fun Φ τ F w D hF hR hFr=>RK (s Φ τ F w _ hF hR hFr fun _ _ _ q=>q)⟩
 |true=>
  have ed:yz P call n ops true f h=r4 P call n ops f h:=rfl;rw[ed] at e ⊢;unfold r4 at e ⊢;cases hb:yD P n ops (ancM ops.toList []) with
  |false=>rw[hb] at e;exact e.elim
  |true=>
   rw[hb] at e;simp only at e ⊢;obtain⟨S,u,v,hst⟩:=GH _ _ _ _ _ e;rw[v] at e ⊢;have hlen:0+ops.toList.length=ops.size:=by simp
   rw[hlen] at e ⊢;obtain⟨y,hwin⟩:=FY _ e;rw[y] at e ⊢;have K:=EQ hb;have run:h.n≤big5→Run P call n ops f h S:=fun hl=>⟨u,fun k o ho=>by
    obtain⟨a,ha,hs⟩:=hst k o (by simpa using ho);have hkN:=(VE.1 ho).1;rw[lL hkN] at ha;cases ha;rw[Jab] at hs;exact hs,hc,hn,hl⟩
   have hone:∀ {q:Nat},q<ops.size→tb (Nat.sub (Nat.pow 2 ops.size) 1) q=true:=by
    intro q hq;rw[zz]
    have:=Nat.testBit_two_pow_sub_one ops.size q
    show(2^ops.size-1).testBit q=true
    rw[this];simpa using hq
   refine⟨fun hl=>?_,fun Φ τ F w D hF hR hFr=>?_⟩
   ·have R:=run hl;obtain⟨hhl,hlx,hlat,hlt,hln⟩:=R.hs ops.size (UM _);have hlims:=R.lims ops.size (UM _);refine⟨hlims.2,?_,fun _=>hlims.1⟩
    intro i m hid hnn;have hid:¬(h.n≤i∧i<(S ops.size).h.n):=hid;show get5 i (Yb (S ops.size).qt _ (S ops.size).fl (S ops.size).h.t)=none;rcases yn (a:=Nat.sub (Nat.pow 2 ops.size) 1) (fl:=(S ops.size).fl) (t:=(S ops.size).h.t) (id:=i) m (S ops.size).qt (fun e he=>(R.qt_id (UM _) e he).2.1) with ⟨d,_⟩|⟨e',d,z,_⟩
    ·rw[d,hlt];exact R.none2 ops.size (UM _) _ _ hlat i m hid hnn
    ·have C:=R.qt_id (UM _) e' d;exact absurd ⟨by omega,by omega⟩ hid
   ·have R:=run hR.lim;have hFr:Fre Φ h.n (S ops.size).h.n:=hFr;have hlims:=R.lims ops.size (UM _);refine To hm (fun L F' w'=>∃Φ' τ',IvS P ops f h S Φ τ w.drew L F' w' Φ' τ') K.back ?_ ?_ ?_
    ·have hz:∀i,(Array.replicate ops.size false).getD i false=false:=by
      intro i;simp[UK];by_cases hi:i<ops.size<;>simp[hi]
     have hcnt:cnt P ops (Array.replicate ops.size false)=0:=by
      unfold cnt;apply WJ.2;intro i _;rw[hz];simp
     have p:(S ops.size).hs[0]? =some (h,0):=by
      have:=(R.hs_pre 0 ops.size (UN _) (UM _)).1 0 (h,0)
      exact this (by rw[R.s0];rfl)
     refine⟨Φ,τ,Tw.refl _ _ _ _ _,?_,?_,?_,?_,?_⟩
     ·intro i hi _ id E A;have d:=R.mono (i+1) ops.size (by omega) (UM _);have z:=(R.lims i (by omega)).2;exact hFr id (by omega) (by omega)
     ·intro t _ j o _ _ hl;rw[hz] at hl;cases hl
     ·intro t ht _;exact hF t ht
     ·intro x hx;rw[hcnt,p] at hx;cases hx;exact hR.kept (Sub.refl _) fun g _=>⟨rfl,rfl⟩
     ·intro x _ e _ hl;rw[hz] at hl;cases hl
    ·intro L i o F' w' hs hcl ho hi hp ⟨Φ',τ',I⟩;have hiN:=(VE.1 ho).1;have hi':L.getD i false=false:=by
      have:L[i]? =some L[i]:=by simp[hs,hiN]
      simp[UK,this] at hi ⊢;exact hi
     exact Rb R K hR.fin hwin I hs hcl ho hi' hp
    ·intro L F' w' hs hall ⟨Φ',τ',I⟩;have hall':∀i,i<ops.size→L.getD i false=true:=by
      intro i hi
      have:=hall i hi
      have B:L[i]? =some L[i]:=by simp[hs,hi]
      simp[UK,B] at this ⊢;exact this
     have hcnt:cnt P ops L=mcn P ops ops.size:=by
      unfold cnt mcn;apply WG;intro j hj;rw[hall' j (by simpa using hj)];simp
     obtain⟨hhl,hlx,hlat,hlt,hln⟩:=R.hs ops.size (UM _);refine⟨Φ',τ',?_,?_,?_⟩
     ·intro t ht;by_cases hex:∃(j:Nat) (o':Oper),ops[j]? =some o'∧o'.dst=some t
      ·obtain⟨j,o',hj,hd⟩:=hex;have hjN:=(VE.1 hj).1;have l:getF t (S ops.size).f=getF t (S (j+1)).f:=R.frames ht (j+1) ops.size (by omega) (UM _) fun k ok A G hk r=>by
        have:=K.uniq j k o' ok t hj hk hd r
        omega
       rw[l];exact I.fw t ht j o' hj hd (hall' j hjN)
      ·have l:getF t (S ops.size).f=getF t (S 0).f:=R.frames ht 0 ops.size (UN _) (UM _) fun k ok _ _ hk hd=>hex ⟨k,ok,hk,hd⟩;rw[l,R.s0];exact I.f0 t ht fun j o' hj hd=>absurd ⟨j,o',hj,hd⟩ hex
     ·have hr:=I.rel _ (by rw[hcnt];exact hlat)
      have:=pz (a:=Nat.sub (Nat.pow 2 ops.size) 1) (fl:=(S ops.size).fl) hr hln hlims.1 (fun e he=>(R.qt_id (UM _) e he).1) (fun e he _ hf b hb=>I.qs _ (by rw[hcnt];exact hlat) e he (hall' _ (R.qt _ (UM _) e he).1) hf b hb)
      rw[←hlt] at this;exact this
     ·exact⟨I.tw.os,I.tw.tape,I.tw.output,I.tw.size,I.tw.sub,I.tw.same,I.tw.keep⟩
theorem sq_s{c d:Code}{x y:Fr→Hp→Out}(hx:Vw fc P n c x)(hy:Vw fc P n d y):Vw fc P n (.seq c d) (fun f h=>sq (x f h) y):=by
 intro f h e;have e:okO (sq (x f h) y):=e;show Gw h (hpO (sq (x f h) y) h)∧_;have hx:=hx f h;revert e hx;cases hq:x f h with
 |nx k g=>
  intro e hx;obtain⟨l,o⟩:=hx trivial;have e:okO (y k g):=e;obtain⟨s,C⟩:=hy k g e;have l:Gw h g:=l;have eqq:sq (Out.nx k g) y=y k g:=rfl;simp only[hq,eqq];rw[vY e h g];refine⟨l.trans s,fun Φ τ F w D hF hR hFr=>?_⟩
  have k1:=l hR.lim;have u:=s (k1.lim hR.lim);refine RZ ((o Φ τ F w D hF hR fun id a b=>hFr id a (UB b u.le)).mono ?_);intro ex p r q;cases ex with
  |normal=>
   obtain⟨Φ1,τ1,z,A,B⟩:=q
   refine(C Φ1 τ1 p r D z A fun id a b=>by rw[B.same id (fun hh=>by have:id<g.n:=hh.2;omega)];exact hFr id (UC k1.le a) b).mono ?_
   intro ex G H E;exact E.trans B k1 (k1.lim hR.lim) u.le
  |_=>exact q.elim
 |ex i k g=>
  intro e hx;obtain⟨l,o⟩:=hx trivial;have eqq:sq (Out.ex i k g) y= .ex i k g:=rfl;simp only[hq,eqq];refine⟨l,fun Φ τ F w D hF hR hFr=>RZ ((o Φ τ F w D hF hR hFr).mono ?_)⟩;intro ex p r q;cases ex with
  |normal=>exact q.elim
  |exit j=>exact q
  |_=>exact q.elim
 |rt k g=>
  intro e hx;obtain⟨l,o⟩:=hx trivial;have eqq:sq (Out.rt k g) y= .rt k g:=rfl;simp only[hq,eqq];refine⟨l,fun Φ τ F w D hF hR hFr=>RZ ((o Φ τ F w D hF hR hFr).mono ?_)⟩;intro ex p r q;cases ex with
  |normal=>exact q.elim
  |ret=>exact q
  |_=>exact q.elim
 |pn v k g=>
  intro e hx;obtain⟨l,o⟩:=hx trivial;have eqq:sq (Out.pn v k g) y= .pn v k g:=rfl;simp only[hq,eqq];refine⟨l,fun Φ τ F w D hF hR hFr=>RZ ((o Φ τ F w D hF hR hFr).mono ?_)⟩;intro ex p r q;cases ex with
  |normal=>exact q.elim
  |panic ch=>exact q
  |_=>exact q.elim
 |no m=>intro e;exact e.elim
theorem JX{c d:Code}{x y:Fr→Hp→Out}(o:Operand)(hx:Vw fc P n c x)(hy:Vw fc P n d y):Vw fc P n (.cond o c d) (sf o x y):=by
 intro f h e;unfold sf at e ⊢;split at e
 ·rename_i t ht;cases t with
  |true=>
   obtain⟨g,s⟩:=hx f h e;refine⟨g,fun Φ τ F w D hF hR hFr=>?_⟩
   have:=Jb hF o
   rw[ht] at this;exact RQ this.bI (s Φ τ F w D hF hR hFr)
  |false=>
   obtain⟨g,s⟩:=hy f h e;refine⟨g,fun Φ τ F w D hF hR hFr=>?_⟩
   have:=Jb hF o
   rw[ht] at this;exact RO this.bI (s Φ τ F w D hF hR hFr)
 ·exact e.elim
theorem Rr{c:Code}{x:Fr→Hp→Out}(id:Nat)(hx:Vw fc P n c x):Vw fc P n (.block id c) (fun f h=>blkO id (x f h)):=by
 intro f h e;have e:okO (blkO id (x f h)):=e;show Gw h (hpO (blkO id (x f h)) h)∧_;have hx:=hx f h;revert e hx;cases hq:x f h with
 |nx a b=>
  intro e hx;obtain⟨d,g⟩:=hx trivial;have eqq:blkO id (Out.nx a b)= .nx a b:=rfl;simp only[hq,eqq];refine⟨d,fun Φ τ F w D hF hR hFr=>W.block ((g Φ τ F w D hF hR hFr).mono ?_)⟩;intro ex k l q;cases ex with
  |normal=>exact q
  |_=>exact q.elim
 |ex i a b=>
  intro e hx;obtain⟨d,g⟩:=hx trivial;by_cases hi:i=id
  ·subst hi;have eqq:blkO i (Out.ex i a b)= .nx a b:=by
    show(Bool.rec (Out.ex i a b) (Out.nx a b) (Nat.beq i i):Out)=_
    rw[show Nat.beq i i=true from YK i]
   simp only[hq,eqq];refine⟨d,fun Φ τ F w D hF hR hFr=>W.block ((g Φ τ F w D hF hR hFr).mono ?_)⟩;intro ex k l q;cases ex with
   |exit j=>
    obtain⟨rfl,q⟩:=q
    show(if i=i then _ else _)
    rw[if_pos rfl];exact q
   |_=>exact q.elim
  ·have eqq:blkO id (Out.ex i a b)= .ex i a b:=by
    show(Bool.rec (Out.ex i a b) (Out.nx a b) (Nat.beq i id):Out)=_
    rw[show Nat.beq i id=false by rw[yc];exact decide_eq_false hi]
   simp only[hq,eqq];refine⟨d,fun Φ τ F w D hF hR hFr=>W.block ((g Φ τ F w D hF hR hFr).mono ?_)⟩;intro ex k l q;cases ex with
   |exit j=>
    obtain⟨rfl,q⟩:=q
    show(if i=id then _ else _)
    rw[if_neg hi];exact⟨rfl,q⟩
   |_=>exact q.elim
 |rt a b=>
  intro e hx;obtain⟨d,g⟩:=hx trivial;have eqq:blkO id (Out.rt a b)= .rt a b:=rfl;simp only[hq,eqq];refine⟨d,fun Φ τ F w D hF hR hFr=>W.block ((g Φ τ F w D hF hR hFr).mono ?_)⟩;intro ex k l q;cases ex with
  |ret=>exact q
  |_=>exact q.elim
 |pn v a b=>
  intro e hx;obtain⟨d,g⟩:=hx trivial;have eqq:blkO id (Out.pn v a b)= .pn v a b:=rfl;simp only[hq,eqq];refine⟨d,fun Φ τ F w D hF hR hFr=>W.block ((g Φ τ F w D hF hR hFr).mono ?_)⟩;intro ex k l q;cases ex with
  |panic ch=>exact q
  |_=>exact q.elim
 |no m=>intro e;exact e.elim
end
section
variable {fc:Fence} {P:Program} {call:CallF} {n:Nat}
theorem oU{c:Code}{x:Fr→Hp→Out}(hx:Vw fc P n c x):∀(m:Nat) (f:Fr) (h:Hp),okO (iter m x f h)→Gw h (hpO (iter m x f h) h):=by
 intro m
 induction m with
 |zero=>intro f h e;exact e.elim
 |succ m ih=>
  intro f h e;have j:iter (m+1) x f h=sq (x f h) (iter m x):=rfl;rw[j] at e ⊢;have hx:=hx f h;revert e hx;cases hq:x f h with
  |nx b a=>
   intro e hx;obtain⟨d,_⟩:=hx trivial;have d:Gw h a:=d;have e:okO (iter m x b a):=e;have k:=ih b a e;have eqq:sq (Out.nx b a) (iter m x)=iter m x b a:=rfl;rw[eqq];have hh:hpO (iter m x b a) h=hpO (iter m x b a) a:=by cases g:iter m x b a<;>first|rfl|(rw[g] at e;exact e.elim)
   rw[hh];exact d.trans k
  |ex i b a=>intro e hx;exact(hx trivial).1
  |rt b a=>intro e hx;exact(hx trivial).1
  |pn v b a=>intro e hx;exact(hx trivial).1
  |no q=>intro e;exact e.elim
theorem JT{c:Code}{x:Fr→Hp→Out}(hx:Vw fc P n c x)(m:Nat):Vw fc P n (.loop c) (iter m x):=by
 intro f h e;refine⟨oU hx m f h e,fun Φ τ F w D hF hR hFr=>?_⟩
 have hG:=oU hx m f h e hR.lim;generalize hout:iter m x f h=out at e hFr hG;refine Sc (fun k F' w'=>∃f' h' Φ' τ',iter k x f' h'=out∧FR Φ' f' F'∧Rel Φ' τ' h' w'∧Tw Φ τ h w Φ' τ' h'.n w'∧Grow h h') m ⟨f,h,Φ,τ,hout,hF,hR,Tw.refl _ _ _ _ _,Grow.refl _⟩ ?_;rintro k F' w' ⟨f',h',Φ',τ',ho,hF',hR',tw,gr⟩;have hi:okO (iter k x f' h'):=by rw[ho];exact e
 cases k with
 |zero=>exact hi.elim
 |succ k=>
  have p:iter (k+1) x f' h'=sq (x f' h') (iter k x):=rfl;rw[p] at ho hi;have hgr:=oU hx (k+1) f' h' (by rw[p];exact hi) hR'.lim;rw[p,ho] at hgr;have hnn:(hpO out h').n=(hpO out h).n:=by cases out<;>first|rfl|exact e.elim
  have hFr':Fre Φ' h'.n (hpO out h).n:=fun id a b=>by
   rw[tw.same id (fun hh=>by have:=hh.2;omega)];exact hFr id (UC gr.le a) b
  have hx':=hx f' h';revert ho hi hx';cases hq:x f' h' with
  |nx g d=>
   intro ho hi hx';obtain⟨l,o⟩:=hx' trivial;have ho:iter k x g d=out:=ho;have k1:Grow h' d:=l hR'.lim;have u:=oU hx k g d (by rw[ho];exact e) (k1.lim hR'.lim);rw[ho] at u;have y:(hpO out d).n=(hpO out h).n:=by cases out<;>first|rfl|exact e.elim
   refine(o Φ' τ' F' w' D hF' hR' fun id a b=>hFr' id a (UB b (by rw[←y];exact u.le))).mono ?_
   intro ex r s q;cases ex with
   |normal=>
    obtain⟨Φ1,τ1,a,b,c⟩:=q;exact⟨k,ZE k,g,d,Φ1,τ1,ho,a,b,tw.trans gr k1.le hR'.lim c,gr.trans k1⟩
   |_=>exact q.elim
  |ex i g d=>
   intro ho hi hx';obtain⟨l,o⟩:=hx' trivial;have ho:Out.ex i g d=out:=ho;subst ho;have k1:Grow h' d:=l hR'.lim
   refine(o Φ' τ' F' w' D hF' hR' hFr').mono ?_
   intro ex r s q;cases ex with
   |exit j=>
    obtain⟨rfl,Φ1,τ1,a,b,c⟩:=q;exact⟨rfl,Φ1,τ1,a,b,tw.trans gr k1.le hR'.lim c⟩
   |_=>exact q.elim
  |rt g d=>
   intro ho hi hx';obtain⟨l,o⟩:=hx' trivial;have ho:Out.rt g d=out:=ho;subst ho;have k1:Grow h' d:=l hR'.lim
   refine(o Φ' τ' F' w' D hF' hR' hFr').mono ?_
   intro ex r s q;cases ex with
   |ret=>
    obtain⟨Φ1,τ1,a,b,c⟩:=q;exact⟨Φ1,τ1,a,b,tw.trans gr k1.le hR'.lim c⟩
   |_=>exact q.elim
  |pn v g d=>
   intro ho hi hx';obtain⟨l,o⟩:=hx' trivial;have ho:Out.pn v g d=out:=ho;subst ho;have k1:Grow h' d:=l hR'.lim
   refine(o Φ' τ' F' w' D hF' hR' hFr').mono ?_
   intro ex r s q;cases ex with
   |panic ch=>
    obtain⟨z,Φ1,τ1,A,B,a,b,c⟩:=q;exact⟨z,Φ1,τ1,A,B,a,b,tw.trans gr k1.le hR'.lim c⟩
   |_=>exact q.elim
  |no q=>intro _ hi;exact hi.elim
theorem W.label{l:Nat}{D:List Deferred}{Q:Wf.Post}{F:Wf.Fr}{w:World}(h:Q .normal F w):W fc P (Code.label l) n D Q F w:=fun a ha hf=>wpIn_label ⟨ha,by rw[hf];exact h⟩
theorem Kg{b:Frame}{a:Act}{k:List Item}{cs:List Frame}{w:World}{c:Code}:step P (lone (b.atR a (.code (.scope c)::k)) cs w)= .next (lone (b.atR a (.code c:: .inScope c::k)) cs w):=
 step_lone_go (by simp[stepG,stepG.exec,Frame.atR])
theorem ik{b:Frame}{a:Act}{k:List Item}{cs:List Frame}{w:World}{c:Code}:step P (lone (b.atR a (.inScope c::k)) cs w)= .next (lone (b.atR a k) cs w):=
 step_lone_go (by simp[stepG,stepG.exec,Frame.atR])
theorem qD{Q:Exit→Act→World→Prop}{a:Act}{w:World}{c:Code}{m:Nat}(h:c.wpIn fc m P (Exit.noGoto Q) a w):(Code.scope c).wpIn fc m P Q a w:=by
 intro b k cs hro hb hr;have d:(lone (b.atR a (.code (.scope c)::k)) cs w).fenced P fc:=fenced_calm hb hr rfl;obtain⟨e,a₁,w₁,hq,harr⟩:=h b (.inScope c::k) cs hro hb hr;cases e with
 |normal=>exact⟨.normal,a₁,w₁,hq,.head d Kg (StepsIn.trans harr (.one (fenced_calm hb hr rfl) ik))⟩
 |exit id=>
  have hx:exitTo id (.inScope c::k)=exitTo id k:=by simp[exitTo]
  exact⟨_,a₁,w₁,hq,fun k' hk=> .head d Kg (harr.1 k' (by rw[hx];exact hk)),
   fun hr' hk=>let ⟨k₁,f,g⟩:=harr.2 hr' (by rw[hx];exact hk);⟨k₁,f,.head d Kg g⟩⟩
 |goto l=>exact hq.elim
 |ret=>exact⟨_,a₁,w₁,hq,.of_steps (.one d Kg) harr⟩
 |panic ch=>exact⟨_,a₁,w₁,hq,.of_steps (.one d Kg) harr⟩
 |outgrown=>exact⟨_,a₁,w₁,hq,.of_steps (.one d Kg) harr⟩
theorem Dr{c:Code}{x:Fr→Hp→Out}(hx:Vw fc P n c x):Vw fc P n (.scope c) x:=by
 intro f h e;obtain⟨g,s⟩:=hx f h e;refine⟨g,fun Φ τ F w D hF hR hFr a ha hf=>qD (wpIn_mono (s Φ τ F w D hF hR hFr a ha hf) ?_)⟩;rintro ex a' w' ⟨k1,b⟩;cases ex with
 |goto l=>cases hq:x f h<;>rw[hq] at b<;>exact b.elim
 |_=>exact⟨k1,b⟩
theorem kj[Fw fc](hc:CallS P call)(hn:n≤4096)(hm:P.follows .mixedOrders=true)(c:Code):Vw fc P n c (Qj P call n c):=by
 induction c with
 |skip=>intro f h e;exact⟨Gw.refl _,fun Φ τ F w D hF hR _=>RT ⟨Φ,τ,hF,hR,Tw.refl _ _ _ _ _⟩⟩
 |region id ops draw=>exact BC hc hn hm id ops draw
 |seq a b iha ihb=>exact sq_s iha ihb
 |cond o a b iha ihb=>exact JX o iha ihb
 |block id c ih=>exact Rr id ih
 |loop c ih=>exact JT ih 1000000
 |exit id=>intro f h e;exact⟨Gw.refl _,fun Φ τ F w D hF hR _=>Sf ⟨rfl,Φ,τ,hF,hR,Tw.refl _ _ _ _ _⟩⟩
 |ret=>intro f h e;exact⟨Gw.refl _,fun Φ τ F w D hF hR _=>RY ⟨Φ,τ,hF,hR,Tw.refl _ _ _ _ _⟩⟩
 |rangeFunc o ps a b _ _=>intro f h e;exact e.elim
 |scope c ih=>exact Dr ih
 |label l=>intro f h e;exact⟨Gw.refl _,fun Φ τ F w D hF hR _=>W.label ⟨Φ,τ,hF,hR,Tw.refl _ _ _ _ _⟩⟩
 |goto l=>intro f h e;exact e.elim
 |refuse why=>intro f h e;exact e.elim
theorem qN{Φ:Phi}{t:Nat}(ht:t<4096):∀(l:List AV) (i:Nat),i+l.length≤4096→getF t (q7 l i)=if i≤t then(l[t-i]?).getD .u else .u:=by
 intro l
 induction l with
 |nil=>
  intro i _
  have:getF t (q7 [] i)=AV.u:=kI t AV.u
  rw[this];simp
 |cons a l ih=>
  intro i hi;simp only[Uw] at hi;have b:getF t (q7 (a::l) i)=getF t (setF i a (q7 l (Nat.succ i))):=rfl;rw[b,Xe _ _ _ _ ht (by omega),ih (i+1) (by omega)];rcases Nat.lt_trichotomy t i with h|h|h
  ·rw[if_neg (by omega),if_neg (by omega),if_neg (by omega)]
  ·subst h;rw[if_pos rfl,if_pos (UM _),ZV];rfl
  ·rw[if_neg (by omega),if_pos (by omega),if_pos (by omega),show t-i=(t-(i+1))+1 by omega];rfl
theorem pL{Φ:Phi}{l:List AV}{vs:List Value}(h:RvL Φ l vs)(hl:l.length≤4096):FR Φ (q7 l 0) (mm vs):=by
 intro t ht;rw[qN (Φ:=Φ) ht l 0 (by omega),if_pos (UN _),Nat.sub_zero];cases hi:l[t]? with
 |none=>simp only[Option.getD_none,Rv]
 |some a=>
  obtain⟨v,hv,hr⟩:=h.at hi
  have:mm vs t=v:=by unfold mm;rw[UJ,hv];rfl
  rw[this];exact hr
theorem QC{r:Res}{k:AV→Hp→Res}{v:AV}{h:Hp}{m:Nat}(e:(Res.rec k Res.no (fun _ _=> .no m) r:Res)= .ok v h):∃y h',r= .ok y h'∧k y h'= .ok v h:=by
 cases r with
 |ok y h'=>exact⟨y,h',rfl,e⟩
 |no m=>cases e
 |pn v h=>cases e
theorem GJ{ρ:Operand→Value}{t:TypeId}{a:Operand}{w:World}{K:Value→World→Prop}(h:St P ρ ⟨none,.load t a,0,"",#[],none⟩ w K KF):∃u w',(Instr.loadAt t (ρ a)).run P w= .ok u w'∧K u w':=by
 unfold St at h;cases hr:(Instr.loadAt t (ρ a)).run P w with
 |ok u w'=>
  have:(execOp ρ ⟨none,.load t a,0,"",#[],none⟩).run P w= .ok (.value u) w':=by simp[execOp,hr]
  rw[this] at h;exact⟨u,w',rfl,h⟩
 |halt q w'=>
  have:(execOp ρ ⟨none,.load t a,0,"",#[],none⟩).run P w= .halt q w':=by simp[execOp,hr]
  rw[this] at h;cases q<;>exact h.elim
theorem I2{f:Fr}{h h':Hp}{r:ResultVar}{k:AV→Res}{v:AV}(e:resA P f h r k= .ok v h'):∃a,k a= .ok v h'∧
  ∀(Φ:Phi) (τ:Tau) (F:Wf.Fr) (w:World) (tmps:Array Value),FR Φ f F→Rel Φ τ h w→(∀t,tmps.getD t undef=F t)→∃x,Rv Φ a x∧(resM tmps r).run P w= .ok x w:=by
 unfold resA at e;cases r with
 |tmp t=>
  refine⟨_,e,fun Φ τ F w tmps hF hR ht=>⟨F t,Jb hF (.tmp t),?_⟩⟩;unfold resM;simp only[Sem.run_pure,ht t]
 |cell p t=>
  obtain⟨a,i,b,d⟩:=QC e;have he:=b;obtain⟨rfl,rd⟩:=pO b;refine⟨a,d,fun Φ τ F w tmps hF hR ht=>?_⟩
  obtain⟨u,w',hrun,rfl,hv⟩:=GJ (rd Φ τ F w none 0 "" #[] none hF hR);refine⟨u,hv,?_⟩;unfold resM;simp only[ht p];have hp:∃ad,F p= .pointer (some ad):=by
   unfold Q1 at he;split at he
   ·rename_i id off hx
    have:=Jb hF (.tmp p)
    rw[hx] at this;obtain⟨en,_,hh⟩:=this.pI;exact⟨_,hh⟩
   ·rename_i g off hx
    have:=Jb hF (.tmp p)
    rw[hx] at this;simp only[Rv] at this;exact⟨_,this⟩
   ·cases he
  obtain⟨ad,had⟩:=hp;have hrun:(Instr.loadAt t (F p)).run P w'= .ok u w':=hrun;rw[had] at hrun ⊢;simpa[Instr.loadAt,Instr.sureAddr,asAddr] using hrun
theorem JN{f:Fr}{h h':Hp}{v:AV}:∀(l:List ResultVar) (k:List AV→Res),resL P f h l k= .ok v h'→∃b:List AV,k b= .ok v h'∧b.length=l.length∧
  ∀(Φ:Phi) (τ:Tau) (F:Wf.Fr) (w:World) (tmps:Array Value),FR Φ f F→Rel Φ τ h w→(∀t,tmps.getD t undef=F t)→∃xs,RvL Φ b xs∧(l.mapM (resM tmps)).run P w= .ok xs w:=by
 intro l
 induction l with
 |nil=>intro k e;exact⟨[],e,rfl,fun Φ τ F w tmps _ _ _=>⟨[],by simp only[RvL],by simp⟩⟩
 |cons r l ih=>
  intro k e;have e:resA P f h r (fun v=>resL P f h l fun vs=>k (v::vs))= .ok v h':=e;obtain⟨a,d,g⟩:=I2 e;obtain⟨b,i,hl,j⟩:=ih _ d;refine⟨a::b,i,by simp[hl],fun Φ τ F w tmps hF hR ht=>?_⟩
  obtain⟨x,hx,m⟩:=g Φ τ F w tmps hF hR ht;obtain⟨xs,hxs,o⟩:=j Φ τ F w tmps hF hR ht;refine⟨x::xs,by simp only[RvL];exact⟨x,xs,rfl,hx,hxs⟩,?_⟩;simp[W8,m,o]
theorem HP{fn:Func}{f:Fr}{h h':Hp}{v:AV}(e:finR P f h fn.results.toList= .ok v h'):h'=h∧
  ∀(Φ:Phi) (τ:Tau) (F:Wf.Fr) (w:World),FR Φ f F→Rel Φ τ h w→∃x,Rv Φ v x∧∀tmps:Array Value,(∀t,tmps.getD t undef=F t)→(results fn tmps).run P w= .ok x w:=by
 unfold finR at e;obtain⟨j,k,hl,s⟩:=JN _ _ e;have hres:∀(w:World) (tmps:Array Value) (xs:List Value),(fn.results.toList.mapM (resM tmps)).run P w= .ok xs w→(results fn tmps).run P w= .ok (if xs.length=1 then xs.getD 0 undef else .tuple xs.toArray) w:=by
  intro w tmps xs hr;have o:fn.results=fn.results.toList.toArray:=by simp
  rw[X2,o,W9];simp only[Sem.run_bind,Sem.run_map,hr];simp;cases xs with
  |nil=>rfl
  |cons x xs=>cases xs with
   |nil=>rfl
   |cons y ys=>rfl
 have det:∀(Φ:Phi) (τ:Tau) (F:Wf.Fr) (w:World),FR Φ f F→Rel Φ τ h w→∃xs,RvL Φ j xs∧∀tmps:Array Value,(∀t,tmps.getD t undef=F t)→(fn.results.toList.mapM (resM tmps)).run P w= .ok xs w:=by
  intro Φ τ F w hF hR;by_cases hex:∃tmps:Array Value,∀t,tmps.getD t undef=F t
  ·obtain⟨l,m⟩:=hex;obtain⟨xs,d,g⟩:=s Φ τ F w l hF hR m;refine⟨xs,d,fun tmps ht=>?_⟩
   have:resM tmps=resM l:=by
    funext r
    unfold resM;cases r<;>simp only[ht,m]
   rw[this];exact g
  ·
   have hsome:∃xs,RvL Φ j xs:=by
    obtain⟨xs,d,_⟩:=s Φ τ (fun t=>(Array.ofFn (n:=4096) fun i=>F i).getD t undef) w (Array.ofFn (n:=4096) fun i=>F i) (fun t ht=>by
     have:(Array.ofFn (n:=4096) fun i=>F i).getD t undef=F t:=by simp[UK,ht]
     show Rv Φ (getF t f) ((Array.ofFn (n:=4096) fun i=>F i).getD t undef);rw[this];exact hF t ht) hR fun t=>rfl
    exact⟨xs,d⟩
   obtain⟨xs,hxs⟩:=hsome;exact⟨xs,hxs,fun tmps ht=>absurd ⟨tmps,ht⟩ hex⟩
 cases j with
 |nil=>
  obtain⟨rfl,rfl⟩:=Ju k;refine⟨rfl,fun Φ τ F w hF hR=>?_⟩
  obtain⟨xs,d,g⟩:=det Φ τ F w hF hR;have hx:xs=[]:=by simp only[RvL] at d;exact d
  subst hx;refine⟨.tuple #[],by simp only[Rv];exact⟨[],rfl,by simp only[RvL]⟩,fun tmps ht=>?_⟩
  have:=hres w tmps [] (g tmps ht)
  simpa using this
 |cons a r=>
  cases r with
  |nil=>
   obtain⟨rfl,rfl⟩:=Ju k;refine⟨rfl,fun Φ τ F w hF hR=>?_⟩
   obtain⟨xs,d,g⟩:=det Φ τ F w hF hR;simp only[RvL] at d;obtain⟨x,r,rfl,hx,rfl⟩:=d;refine⟨x,hx,fun tmps ht=>?_⟩
   have:=hres w tmps _ (g tmps ht)
   simpa using this
  |cons b r=>
   obtain⟨rfl,rfl⟩:=Ju k;refine⟨rfl,fun Φ τ F w hF hR=>?_⟩
   obtain⟨xs,d,g⟩:=det Φ τ F w hF hR;have hlen:=d.len;refine⟨.tuple xs.toArray,by simp only[Rv];exact⟨xs,rfl,d⟩,fun tmps ht=>?_⟩
   have:=hres w tmps _ (g tmps ht)
   rw[if_neg (by rw[hlen];simp)] at this;exact this
theorem KE{f:Fr}{h h':Hp}{r:ResultVar}{k:AV→Res}{v:AV}(hk:∀a,k a≠ .pn v h'):resA P f h r k≠ .pn v h':=by
 intro e;unfold resA at e;cases r with
 |tmp t=>exact hk _ e
 |cell p t=>
  simp only at e;cases hq:Q1 P t (.tmp p) f h with
  |ok a b=>rw[hq] at e;exact hk _ e
  |no m=>rw[hq] at e;cases e
  |pn a b=>rw[hq] at e;cases e
theorem M1{f:Fr}{h h':Hp}{v:AV}:∀(l:List ResultVar) (k:List AV→Res),(∀a,k a≠ .pn v h')→resL P f h l k≠ .pn v h':=by
 intro l
 induction l with
 |nil=>intro k hk;exact hk []
 |cons r l ih=>intro k hk;exact KE fun a=>ih _ fun b=>hk (a::b)
theorem Ll{f:Fr}{h h':Hp}{v:AV}{l:List ResultVar}:finR P f h l≠ .pn v h':=by
 unfold finR;refine M1 _ _ fun b=>?_
 cases b with
 |nil=>intro e;cases e
 |cons a r=>cases r<;>intro e<;>cases e
theorem lm{fn:Func}{f:Fr}{h:Hp}{r:Res}(e:finR P f h fn.results.toList=r)(hr:okR r):∃v,r= .ok v h∧
  ∀(Φ:Phi) (τ:Tau) (F:Wf.Fr) (w:World),FR Φ f F→Rel Φ τ h w→∃x,Rv Φ v x∧∀tmps:Array Value,(∀t,tmps.getD t undef=F t)→(results fn tmps).run P w= .ok x w:=by
 cases r with
 |no m=>exact hr.elim
 |pn v h'=>exact absurd e Ll
 |ok v h'=>
  obtain⟨rfl,s⟩:=HP e;exact⟨v,rfl,s⟩
theorem Ma(hc:CallS P call)(hm:P.follows .mixedOrders=true){fn:Func}(hn:fn.ntmps≤4096){c:Code}{f:Fr}{h:Hp}{r:Res}(e:vn P call fn.ntmps c fn.results.toList f h=r)(hr:okR r):
  Gw h (hpR r h)∧∀(Φ:Phi) (τ:Tau) (F:Wf.Fr) (w:World),FR Φ f F→Rel Φ τ h w→Fre Φ h.n (hpR r h).n→W Fence.wide P c fn.ntmps [] (retQ P fn (RetE Φ τ h w r)) F w:=by
 have hS:=kj (fc:=Fence.wide) hc hn hm c f h;unfold vn at e;revert e hS;cases hq:Qj P call fn.ntmps c f h with
 |nx l d=>
  intro e hS;obtain⟨g,s⟩:=hS trivial;obtain⟨v,rfl,fr⟩:=lm e hr;refine⟨g,fun Φ τ F w hF hR hFr=>(s Φ τ F w [] hF hR hFr).mono ?_⟩;intro ex j k q;cases ex with
  |normal=>
   obtain⟨Φ1,τ1,a,b,t⟩:=q;obtain⟨x,hx,hrun⟩:=fr Φ1 τ1 j k a b;exact⟨x,hrun,v,d,rfl,Φ1,τ1,hx,b,t⟩
  |_=>exact q.elim
 |rt l d=>
  intro e hS;obtain⟨g,s⟩:=hS trivial;obtain⟨v,rfl,fr⟩:=lm e hr;refine⟨g,fun Φ τ F w hF hR hFr=>(s Φ τ F w [] hF hR hFr).mono ?_⟩;intro ex j k q;cases ex with
  |ret=>
   obtain⟨Φ1,τ1,a,b,t⟩:=q;obtain⟨x,hx,hrun⟩:=fr Φ1 τ1 j k a b;exact⟨x,hrun,v,d,rfl,Φ1,τ1,hx,b,t⟩
  |_=>exact q.elim
 |pn v l d=>
  intro e hS;obtain⟨g,s⟩:=hS trivial;have e:Res.pn v d=r:=e;subst e;refine⟨g,fun Φ τ F w hF hR hFr=>(s Φ τ F w [] hF hR hFr).mono ?_⟩;intro ex j k q;cases ex with
  |panic ch=>
   obtain⟨x,Φ1,τ1,o,p,a,b,t⟩:=q;exact⟨v,d,rfl,x,Φ1,τ1,o,p,b,t⟩
  |_=>exact q.elim
 |ex i l d=>intro e;have e:Res.no 53=r:=e;subst e;exact hr.elim
 |no m=>intro e;have e:Res.no m=r:=e;subst e;exact hr.elim
theorem QM{n:Nat}{vs:List Value}(hl:vs.length≤n):Wf.Good n [] {tmps:=vs.toArray++Array.replicate (n-vs.toArray.size) undef,defers:=[]}∧frOf {tmps:=vs.toArray++Array.replicate (n-vs.toArray.size) undef,defers:=[]}=mm vs:=by
 refine⟨⟨by simp;omega,rfl⟩,?_⟩
 funext t
 simp only[frOf,mm,UK,UJ,Array.getElem?_append];by_cases ht:t<vs.length
 ·simp[ht]
 ·simp only[XZ,ht,if_false];rw[U5 (by omega)];simp only[Array.getElem?_replicate];split<;>rfl
theorem Ct{fn:Func}{c:Code}{k:FuncId}{cs:Array Value}{w:World}(hf:P.funcs[k]? =some fn)(hname:(fn.name == "runtime.NumGoroutine")=false)(hb:fn.body=some c):(invoke (.fn (.func k) cs) #[]).run P w= .ok (.enter k cs) w:=by
 have a:fn.name≠ "runtime.NumGoroutine" :=by simpa using hname
 simp[invoke,callFunc,hf,a,hb]
theorem nZ{h:Hp}{id:Nat}{k:Bool→Nat→List Tmp→Code→Code→TF AV→Res}{m:Nat}{r:Res}(e:getL h id k (.no m)=r)(hr:okR r):∃b busy n ps a bb f,id<h.n∧get5 id h.t=some b∧b.ob= .lp busy n ps a bb f∧k busy n ps a bb f=r:=by
 unfold getL at e;rw[Xx] at e;split at e
 ·rename_i d;cases hb:get5 id h.t with
  |none=>rw[hb] at e;subst e;exact hr.elim
  |some b=>
   rw[hb] at e;obtain⟨ty,ex,ro,cs,ob⟩:=b;cases ob<;>first|exact⟨_,_,_,_,_,_,_,Zx d,rfl,rfl,e⟩|(subst e;exact hr.elim)
 ·subst e;exact hr.elim
theorem GK{m:Nat}{r:Res}(hm:m≤4096)(hr:okR r):∀(ps:List Tmp) (l:List AV) (f:Fr) (k:Fr→Res),Fk m ps l f k=r→∃b,k b=r∧l.length=ps.length∧
  ∀(Φ:Phi) (vs:List Value) (tm:Array Value),RvL Φ l vs→tm.size=m→FR Φ f (fun t=>tm.getD t undef)→
   ((ps.zip vs).foldl (fun tm p=>tm.setIfInBounds p.1 p.2) tm).size=m∧FR Φ b fun t=>((ps.zip vs).foldl (fun tm p=>tm.setIfInBounds p.1 p.2) tm).getD t undef:=by
 intro ps
 induction ps with
 |nil=>
  intro l f k e;cases l with
  |nil=>exact⟨f,e,rfl,fun Φ vs tm _ hs hF=>⟨hs,hF⟩⟩
  |cons a l=>have e:Res.no 81=r:=e;subst e;exact hr.elim
 |cons t ps ih=>
  intro l f k e;cases l with
  |nil=>have e:Res.no 81=r:=e;subst e;exact hr.elim
  |cons a l=>
   have e:(Bool.rec (Res.no 81) (Fk m ps l (setF t a f) k) (Nat.blt t m):Res)=r:=e;rw[Xx] at e;split at e
   ·rename_i ht;have ht:t<m:=Zx ht;obtain⟨b,g,hl,s⟩:=ih l (setF t a f) k e;refine⟨b,g,by simp[hl],fun Φ vs tm hv hs hF=>?_⟩
    simp only[RvL] at hv;obtain⟨v,rest,rfl,h,i⟩:=hv;refine s Φ rest (tm.setIfInBounds t v) i (by simp[hs]) ?_;intro x hx;rw[Xe _ _ _ _ hx (UB ht hm)];simp only[UK,UR];by_cases d:x=t
    ·subst d;rw[if_pos rfl,if_pos rfl,if_pos (by rw[hs];exact ht)];exact h
    ·rw[if_neg d,if_neg (fun e=>d e.symm)]
     have:=hF x hx
     simp only[UK] at this;exact this
   ·subst e;exact hr.elim
theorem LR.turn {Φ:Phi} {τ:Tau} {h:Hp} {w:World} {id:Nat} {b:Blk} {en:Ent} {l:Loop} (hR:Rel Φ τ h w) (hid:id<h.n) (hb:get5 id h.t=some b) (L:LR Φ τ w b en id l) {busy busy':Bool} {n:Nat} {ps:List Tmp} {a bb:Code} {f:TF AV}
  (hob:b.ob= .lp busy n ps a bb f):Rel Φ τ (putB h id (some (lpB busy' n ps a bb f))) (Xl w en.g (.loop {l with state:=if busy' then .busy else .ready,pending:=none}))∧
   Tw Φ τ h w Φ τ h.n (Xl w en.g (.loop {l with state:=if busy' then .busy else .ready,pending:=none})):=by
 have hlt:=(VE.1 L.obj).1;refine hR.turn (en:=en) hid hb L.lab rfl rfl rfl Xz (fun g hg=>Kh hg) (.inr (.inr (.inr ⟨en,{l with state:=if busy' then .busy else .ready,pending:=none},L.ent,L.lab,rfl,n0 hlt,?_⟩)));obtain⟨p,r,s,u,v,x,d,y,z,e,i,j,k,m,o⟩:=L.ob;rw[hob] at d;cases d;exact⟨busy',n,ps,a,bb,f,rfl,rfl,rfl,e,i,j,k,m,o⟩
theorem Qb{w:World}{l:Nat}{r:Loop}(h:w.heap[l]? =some (.loop r)):(Instr.getLoop l).run P w= .ok r w:=by
 simp[Instr.getLoop,getObj,Sem.run,h]
theorem Fo(hc:CallS P call)(hm:P.follows .mixedOrders=true){id:Nat}{args:List AV}{h:Hp}{r:Res}(e:nR P call id args h=r)(hr:okR r):∃v h',r= .ok v h'∧(h.n≤big5→Grow h h')∧
  ∀Φ τ w vs en,Rel Φ τ h w→Fre Φ h.n h'.n→RvL Φ args vs→Φ id=some en→∃l g tmps X bo,(Instr.yield en.g vs.toArray).run P w= .ok (.round l g tmps X bo) w∧
   RoundIn Fence.wide 0 P l g tmps X bo w fun e w'=>∃x,e= .returned x∧∃Φ' τ',Rv Φ' v x∧Rel Φ' τ' h' w'∧Tw Φ τ h w Φ' τ' h'.n w':=by
 unfold nR at e;obtain⟨b0,busy,n,ps,a,bb,f,hid,ah,I,e⟩:=nZ e hr;rw[Xx] at e;split at e
 ·subst e;exact hr.elim
 ·rename_i hbusy;have hbn:busy=false∧n≤4096:=by simpa using hbusy
  obtain⟨rfl,hn⟩:=hbn
  ·obtain⟨f1,e,hlen,hps⟩:=GK hn hr ps args f _ e;revert e;cases ha:Qj P call n a f1 h with
   |nx f2 d=>
    intro e;obtain⟨b2,Q,z,k,A,o,B,s,E,C,e⟩:=nZ e hr;rw[Xx] at e;split at e
    ·subst e;exact hr.elim
    ·rename_i hbusy2;have hbusy2:Q=false:=by simpa using hbusy2
     subst hbusy2;revert e;cases hbo:Qj P call n bb f2 (putB d id (some (lpB true z k A o B))) with
     |nx H j=>
      intro e;obtain⟨b3,ay,n3,Y,a3,Z,g3,u,G,J,e⟩:=nZ e hr;rw[Xx] at e;split at e
      ·rename_i hbusy3;subst hbusy3;refine⟨.b true,putB j id (some (lpB false n3 Y a3 Z g3)),e.symm,?_,?_⟩
       ·intro hl;obtain⟨K,_⟩:=kj (fc:=Fence.wide) hc hn hm a f1 h (by rw[ha];trivial);rw[ha] at K;obtain⟨L,_⟩:=kj (fc:=Fence.wide) hc hn hm bb f2 (putB d id (some (lpB true z k A o B))) (by rw[hbo];trivial);rw[hbo] at L;have k1:Grow h d:=K hl;have R:Grow d (putB d id (some (lpB true z k A o B))):=Grow.put (k1.lim hl) s E;have D:Grow _ j:=L (k1.lim hl)
        exact((k1.trans R).trans D).trans (Grow.put (D.lim (k1.lim hl)) u G)
       ·intro Φ τ w vs en hR hFr hv hen;obtain⟨e0,y,L0⟩:=(hR.blk id b0 hid ah).loop I
        have:=L0.ent
        rw[hen] at this;cases this;obtain⟨y0,y1,y2,y3,y4,y5,o1,o2,o3,o4,o5,o6,o7,o8,o9⟩:=L0.ob;rw[I] at o1;cases o1;obtain⟨tsz,tfr⟩:=hps Φ vs y.tmps hv o7 o9;refine⟨en.g,y.fn,(ps.zip vs).foldl (fun tm p=>tm.setIfInBounds p.1 p.2) y.tmps,a,bb,?_,?_⟩
        ·have hsz:vs.toArray.size=y.params.size:=by
          rw[XZ,hv.len,hlen,←o4,VG]
         have hz:(y.params.zip vs.toArray).foldl (fun tmps (t,a)=>tmps.setIfInBounds t a) y.tmps=(ps.zip vs).foldl (fun tm p=>tm.setIfInBounds p.1 p.2) y.tmps:=by
          rw[←Array.foldl_toList,Array.toList_zip,o4]
         simp only[Instr.yield,Sem.run_bind,Qb L0.obj,Result.andThen,hsz,ne_eq,not_true_eq_false,if_false,Sem.run_pure,hz,o5,o6]
        ·refine roundIn_of_wpIn (F:=Fence.wide) trivial ?_;obtain⟨K,s1⟩:=kj (fc:=Fence.wide.inRound en.g) hc hn hm a f1 h (by rw[ha];trivial);obtain⟨L,s2⟩:=kj (fc:=Fence.wide.inRound en.g) hc hn hm bb f2 (putB d id (some (lpB true z k A o B))) (by rw[hbo];trivial);rw[ha] at K s1;rw[hbo] at L s2;have hlim:=hR.lim;have k1:Grow h d:=K hlim;have R:Grow d (putB d id (some (lpB true z k A o B))):=Grow.put (k1.lim hlim) s E;have D:Grow (putB d id (some (lpB true z k A o B))) j:=L (k1.lim hlim);have k4:Grow j (putB j id (some (lpB false n3 Y a3 Z g3))):=Grow.put (D.lim (k1.lim hlim)) u G;have aa:d.n≤j.n:=D.le;have hFr:Fre Φ h.n j.n:=hFr;refine wpIn_mono (s1 Φ τ _ w [] tfr hR (fun i M x2=>hFr i M (UB x2 aa)) {tmps:=(ps.zip vs).foldl (fun tm p=>tm.setIfInBounds p.1 p.2) y.tmps,defers:=[]} ⟨tsz,rfl⟩ rfl) ?_;rintro ex act w1 ⟨ga,qa⟩;cases ex with
         |normal=>
          obtain⟨Φ1,τ1,ar,ab,T⟩:=qa;obtain⟨e2,U,N⟩:=(ab.blk id b2 s E).loop C
          have:=N.ent
          rw[T.sub _ _ hen] at this;cases this;obtain⟨z0,z1,z2,z3,z4,z5,p1,p2,p3,_⟩:=N.ob;rw[C] at p1;cases p1;obtain⟨r2,u2⟩:=LR.turn (busy':=true) ab s E N C;have hbr:(Instr.beginRound en.g).run P w1= .ok () (Xl w1 en.g (.loop {U with state:= .busy,pending:=none})):=by
           have hst:=Xa (P:=P) (O:= .loop {U with state:= .busy}) N.obj;have hp:({U with state:= .busy}:Loop)={U with state:= .busy,pending:=none}:=by rw[←p3]
           simp only[Instr.beginRound,Sem.run_bind,Qb N.obj,Result.andThen,hst];rw[p2,hp]
           rfl
          refine⟨_,hbr,?_⟩;refine wpIn_mono (s2 Φ1 τ1 _ _ [] ar r2 (fun i M x2=>by
           have M:d.n≤i:=M;rw[T.same i (fun hh=>by have:=hh.2;omega)];exact hFr i (UC k1.le M) x2) act ga rfl) ?_
          rintro ex aK w3 ⟨g3',q3⟩;cases ex with
          |normal=>
           obtain⟨Φ3,τ3,aR,ac,t3⟩:=q3;obtain⟨e3,l3,V⟩:=(ac.blk id b3 u G).loop J
           have:=V.ent
           rw[t3.sub _ _ (T.sub _ _ hen)] at this;cases this;obtain⟨r3,u3⟩:=LR.turn (busy':=false) ac u G V J;refine⟨.bool true,Xl w3 en.g (.loop {l3 with state:= .ready,pending:=none}),?_,_,rfl,Φ3,τ3,Rv.mb,r3,?_⟩
           ·have hst:=Xa (P:=P) (O:= .loop {l3 with state:= .ready,pending:=none}) V.obj;simp only[Instr.endRound,Sem.run_bind,Qb V.obj,Result.andThen,Option.isNone_none,if_true,hst,Sem.run_pure]
           ·have c1:=T.trans k1 (UM d.n) (k1.lim hlim) u2;have c2:=Tw.trans (h':=putB d id (some (lpB true z k A o B))) c1 (k1.trans R) aa (k1.lim hlim) t3;exact c2.trans ((k1.trans R).trans D) (UM j.n) (D.lim (k1.lim hlim)) u3
          |_=>exact q3.elim
         |_=>exact qa.elim
      ·subst e;exact hr.elim
     |ex i H j=>intro e;have e:Res.no 83=r:=e;subst e;exact hr.elim
     |rt H j=>intro e;have e:Res.no 83=r:=e;subst e;exact hr.elim
     |pn v H j=>intro e;have e:Res.no 83=r:=e;subst e;exact hr.elim
     |no m=>intro e;have e:Res.no m=r:=e;subst e;exact hr.elim
   |ex i H j=>intro e;have e:Res.no 83=r:=e;subst e;exact hr.elim
   |rt H j=>intro e;have e:Res.no 83=r:=e;subst e;exact hr.elim
   |pn v H j=>intro e;have e:Res.no 83=r:=e;subst e;exact hr.elim
   |no m=>intro e;have e:Res.no m=r:=e;subst e;exact hr.elim
theorem Cc{r:Res}(hc:CallS P call)(hm:P.follows .mixedOrders=true)(hn:n≤4096)(hr:okR r){c:Code}{l:List Code}{f:Fr}{h:Hp}{k:Fr→Hp→Res}(e:yb P call n (c::l) f h k=r):
  ∃b a,yb P call n l b a k=r∧Gw h a∧∀(Φ:Phi) (τ:Tau) (F:Wf.Fr) (w:World) (D:List Deferred),FR Φ f F→Rel Φ τ h w→Fre Φ h.n a.n→
   W Fence.wide P c n D (fun ex j d=>ex= .normal∧∃Φ1 τ1,FR Φ1 b j∧Rel Φ1 τ1 a d∧Tw Φ τ h w Φ1 τ1 a.n d) F w:=by
 have e:(Out.rec (fun f h=>yb P call n l f h k) (fun _ _ _=> .no 87) (fun _ _=> .no 87) Res.no (fun _ _ _=> .no 87) (Qj P call n c f h):Res)=r:=e;have hS:=kj (fc:=Fence.wide) hc hn hm c f h;revert e hS;cases ho:Qj P call n c f h with
 |nx b a=>
  intro e hS;obtain⟨g,s⟩:=hS trivial;refine⟨b,a,e,g,fun Φ τ F w D hF hR hFr=>(s Φ τ F w D hF hR hFr).mono ?_⟩;intro ex j d q;cases ex with
  |normal=>exact⟨rfl,q⟩
  |_=>exact q.elim
 |rt b a=>intro e;have e:Res.no 87=r:=e;subst e;exact hr.elim
 |ex i b a=>intro e;have e:Res.no 87=r:=e;subst e;exact hr.elim
 |pn v b a=>intro e;have e:Res.no 87=r:=e;subst e;exact hr.elim
 |no m=>intro e;have e:Res.no m=r:=e;subst e;exact hr.elim
theorem F1{c u a b:Code}{id:Nat}{g:Operand}{ps:List Tmp}(h:Bo c=some (u,id,g,ps,a,b)):∃pa:Array Tmp,pa.toList=ps∧c= .seq u (.block id (.rangeFunc g pa a b)):=by
 unfold Bo at h;split at h
 ·simp only[Jak,Jal] at h;obtain⟨rfl,rfl,rfl,rfl,rfl,rfl⟩:=h;exact⟨_,rfl,rfl⟩
 ·cases h
theorem wu(hc:CallS P call)(hm:P.follows .mixedOrders=true)(hn:n≤4096){r:Res}(hr:okR r):∀(c:Code) (pre:List Code) (u:Code) (id:Nat) (g:Operand) (ps:List Tmp) (a b y:Code),ot c=some (pre,(u,id,g,ps,a,b),y)→
  ∃pa:Array Tmp,pa.toList=ps∧∀(f:Fr) (h:Hp) (k:Fr→Hp→Res),(yb P call n pre f h fun f h=>yb P call n [u] f h k)=r→∃o l,k o l=r∧Gw h l∧
   ∀(Φ:Phi) (τ:Tau) (act:Act) (w:World) (Q:Exit→Act→World→Prop),Wf.Good n [] act→FR Φ f (frOf act)→Rel Φ τ h w→Fre Φ h.n l.n→
    (∀j Φ1 τ1 m,Wf.Good n [] j→FR Φ1 o (frOf j)→Rel Φ1 τ1 l m→Tw Φ τ h w Φ1 τ1 l.n m→(Code.block id (.rangeFunc g pa a b)).wpIn Fence.wide 0 P (Exit.then (y.wpIn Fence.wide 0 P Q) Q) j m)→
    c.wpIn Fence.wide 0 P Q act w:=by
 intro c
 induction c with
 |seq x z _ ih=>
  intro pre u id g ps a b y hs;have hs:(match Bo x with
   |some d=>some ([],d,z)
   |none=>(Option.rec none (fun p=>some (x::p.1,p.2)) (ot z):Option (List Code×(Code×Nat×Operand×List Tmp×Code×Code)×Code)))=some (pre,(u,id,g,ps,a,b),y):=hs
  split at hs
  ·rename_i d hd;simp only[Jak,Jal] at hs;obtain⟨rfl,rfl,rfl⟩:=hs;obtain⟨pa,hpa,rfl⟩:=F1 hd;refine⟨pa,hpa,fun f h k e=>?_⟩
   have e:yb P call n [u] f h k=r:=e;obtain⟨o,l,E,C,F⟩:=Cc hc hm hn hr e;refine⟨o,l,E,C,fun Φ τ act w Q ha hF hR hFr hk=>?_⟩
   refine wpIn_seq (wpIn_seq (wpIn_mono (F Φ τ _ w [] hF hR hFr act ha rfl) ?_));rintro ex j m ⟨ga,rfl,Φ1,τ1,v,A,D⟩;refine wpIn_mono (hk j Φ1 τ1 m ga v A D) ?_;intro ex B G q;exact q
  ·cases hz:ot z with
   |none=>rw[hz] at hs;cases hs
   |some p=>
    rw[hz] at hs;obtain⟨J,d,y'⟩:=p;simp only[Jak,Jal] at hs;obtain⟨rfl,rfl,rfl⟩:=hs;obtain⟨pa,hpa,s⟩:=ih J u id g ps a b y' hz;refine⟨pa,hpa,fun f h k e=>?_⟩
    obtain⟨o,l,E,C,F⟩:=Cc hc hm hn hr e;obtain⟨K,L,M,H,N⟩:=s o l k E;refine⟨K,L,M,C.trans H,fun Φ τ act w Q ha hF hR hFr hk=>?_⟩
    have k1:=C hR.lim;have I:=H (k1.lim hR.lim);refine wpIn_seq (wpIn_mono (F Φ τ _ w [] hF hR (fun i v A=>hFr i v (UB A I.le)) act ha rfl) ?_);rintro ex j m ⟨ga,rfl,Φ1,τ1,v,A,D⟩;refine N Φ1 τ1 j m Q ga v A (fun i R T=>by rw[D.same i (fun hh=>by have:=hh.2;omega)];exact hFr i (UC k1.le R) T) ?_;intro B Φ2 τ2 G gb U V X;exact hk B Φ2 τ2 G gb U V (D.trans k1 I.le (k1.lim hR.lim) X)
 |_=>intro pre u id g ps a b y hs;cases hs
theorem Rel.aside{Φ:Phi}{τ:Tau}{h:Hp}{w:World}{g:Nat}{O:Obj}(hR:Rel Φ τ h w)(hg:τ g= .out):Rel Φ τ h (Xl w g O):=by
 refine⟨hR.lim,fun id b hid hb=>?_,hR.fin⟩
 obtain⟨e,_,_,hl,k⟩:=(hR.blk id b hid hb).at_;refine k (Sub.refl _) (Kh ?_) rfl;intro a;rw[a,hg] at hl;split at hl<;>cases hl
theorem PO(hc:CallS P call)(hm:P.follows .mixedOrders=true){fn:Func}(hn:fn.ntmps≤4096){g:Operand}{pa:Array Tmp}{a b rest:Code}{f:Fr}{h:Hp}{r:Res}(e:Eg P call fn.ntmps g pa.toList a b rest fn.results.toList f h=r)(hr:okR r){id:Nat}:
  Gw h (hpR r h)∧∀(Φ:Phi) (τ:Tau) (act:Act) (w:World),Wf.Good fn.ntmps [] act→FR Φ f (frOf act)→Rel Φ τ h w→Fre Φ h.n (hpR r h).n→
   (Code.block id (.rangeFunc g pa a b)).wpIn Fence.wide 0 P (Exit.then (rest.wpIn Fence.wide 0 P (bodyPostM Fence.wide 0 P fn (RetE Φ τ h w r))) (bodyPostM Fence.wide 0 P fn (RetE Φ τ h w r))) act w:=by
 unfold Eg at e;split at e
 ·rename_i k cap hg;unfold newB at e;rw[Xx] at e;split at e
  ·rename_i o;have o:h.n<big5:=Zx o;rw[Yx] at e;have e:(Res.rec (fun _ j=>getL j h.n (fun busy _ _ _ _ _=>Bool.rec (vn P call fn.ntmps rest fn.results.toList f (putB j h.n none)) (.no 86) busy) (.no 86)) Res.no (fun _ _=> .no 86) (call.run k (.yv h.n::cap) ⟨set5 h.n (some (lpB false fn.ntmps pa.toList a b f)) h.t,h.n+1⟩):Res)=r:=e;revert e;cases hcall:call.run k (.yv h.n::cap) ⟨set5 h.n (some (lpB false fn.ntmps pa.toList a b f)) h.t,h.n+1⟩ with
   |ok v3 j=>
    intro e;obtain⟨b3,Z,n3,aQ,a3,aR,g3,D,J,N,e⟩:=nZ e hr;rw[Xx] at e;split at e
    ·subst e;exact hr.elim
    ·rename_i hbusy3;have hbusy3:Z=false:=by simpa using hbusy3
     subst hbusy3;obtain⟨⟨fk,hfk,hnk,hbk⟩,gk,sk⟩:=hc.run _ _ _ _ hcall trivial;have gk:_→Grow _ j:=gk;have hS:=kj (fc:=Fence.wide) hc hn hm rest f (putB j h.n none);have tail:∃p d,hpR r h=d∨hpR r h=d:=⟨f,hpR r h,.inl rfl⟩;have main:∀(out:Out) (p:Fr) (d:Hp),Qj P call fn.ntmps rest f (putB j h.n none)=out→okO out→hpO out (putB j h.n none)=d→hpR r h=d→
       (∀(Φ:Phi) (τ:Tau) (Q:Hp) (w:World) (ex:Exit) (R:Wf.Fr) (L:World),OutQ Φ τ Q w out ex R L→∃Φ1 τ1,FR Φ1 p R∧Rel Φ1 τ1 d L∧Tw Φ τ Q w Φ1 τ1 d.n L∧
        (((ex= .normal∨ex= .ret)∧finR P p d fn.results.toList=r)∨∃v x,ex= .panic [{v:=x,recovered:=false}]∧r= .pn v d∧Rv Φ1 v x))→
       Gw h (hpR r h)∧∀(Φ:Phi) (τ:Tau) (act:Act) (w:World),Wf.Good fn.ntmps [] act→FR Φ f (frOf act)→Rel Φ τ h w→Fre Φ h.n (hpR r h).n→
        (Code.block id (.rangeFunc g pa a b)).wpIn Fence.wide 0 P (Exit.then (rest.wpIn Fence.wide 0 P (bodyPostM Fence.wide 0 P fn (RetE Φ τ h w r))) (bodyPostM Fence.wide 0 P fn (RetE Φ τ h w r))) act w:=by
      intro out p d ho hok al hrh hout;obtain⟨g5,s5⟩:=hS (by rw[ho];exact hok);rw[ho,al] at g5 s5;have kk:h.n≤big5→Grow h d:=fun hl=>by
       have T:Grow h ⟨set5 h.n (some (lpB false fn.ntmps pa.toList a b f)) h.t,h.n+1⟩:=Grow.new o;have y:Grow _ j:=gk o;have q3:Grow j (putB j h.n none):=Grow.put (y.lim o) D J
       exact((T.trans y).trans q3).trans (g5 (y.lim o))
      rw[hrh];refine⟨kk,fun Φ τ act w ha hF hR hFr=>?_⟩
      have T:Grow h ⟨set5 h.n (some (lpB false fn.ntmps pa.toList a b f)) h.t,h.n+1⟩:=Grow.new o;have y:Grow ⟨set5 h.n (some (lpB false fn.ntmps pa.toList a b f)) h.t,h.n+1⟩ j:=gk o;have q3:Grow j (putB j h.n none):=Grow.put (y.lim o) D J;have q5:Grow (putB j h.n none) d:=g5 (y.lim o);have n1:h.n+1≤j.n:=y.le;have n3:j.n≤d.n:=q5.le;refine wpIn_block (wpIn_rangeFunc fun fnn _=>?_)
      have hgv:=Jb hF g;rw[hg] at hgv;obtain⟨cvs,hgv,hcv⟩:=hgv.fnI;generalize z:w.alloc (.deferred (some []))=l;have hw0s:l.heap.size=w.heap.size+1:=by rw[←z];simp
      have K:∀i,i<w.heap.size→l.heap[i]? =w.heap[i]? :=fun i hi=>by rw[←z];exact Yz hi
      have aa:l.heap[w.heap.size]? =some (.deferred (some [])):=by rw[←z];exact heap_alloc_new w _
      have R0:Rel Φ (fun x=>if x=w.heap.size then .out else τ x) h l:=hR.kept (Sub.refl _) fun x hx=>⟨K x hx,if_neg (by omega)⟩;have T0:Tw Φ τ h w Φ (fun x=>if x=w.heap.size then .out else τ x) h.n l:=by
       refine⟨by rw[←z];rfl,by rw[←z];rfl,by rw[←z];rfl,by omega,Sub.refl _,fun _ _=>rfl,fun x hx _=>⟨K x hx,if_neg (by omega)⟩⟩
      generalize hrec:({state:= .ready,pending:=none,fn:=fnn,tmps:=act.tmps,params:=pa,assign:=a,body:=b,defers:=w.heap.size}:Loop)=rec;have hf:Φ h.n=none:=hFr h.n (UM _) (by omega);obtain⟨τ1,R1,T1⟩:=R0.new (k:=0) (b:=lpB false fn.ntmps pa.toList a b f) (O:= .loop rec) (w':=l.alloc (.loop rec)) o hf (by
       intro Φ' τ' w' s he ao hl;refine .inr (.inr (.inr ⟨_,rec,he,hl,rfl,ao,false,fn.ntmps,pa.toList,a,b,f,rfl,?_⟩));subst hrec;exact⟨rfl,rfl,rfl,rfl,rfl,ha.size,hn,hF.mono s⟩) (Wn.alloc l _)
      have U:=T0.trans (Grow.refl h) (show h.n≤h.n+1 by omega) hR.lim T1;have hrf:fe (frOf act) g=act.eval g:=by rw[nT]
      refine⟨l.heap.size,[{target:= .collected w.heap.size,args:= #[]}],l.alloc (.loop rec),⟨.fn (.func k) cvs.toArray,#[.func (.yield l.heap.size) #[] #[]]⟩,l.alloc (.loop rec),k,(Value.func (.yield l.heap.size) #[] #[]::cvs).toArray,l.alloc (.loop rec),?_,?_,?_,?_,?_,?_⟩
      ·subst hrec;subst z;simp[Instr.enterLoop,newObj,Sem.run,Fence.wide]
      ·simp only[resolve,rangeCall,←hrf,hgv];simp[Deferred.ofValue,Act.eval]
      ·intro f' _;trivial
      ·have e4:(#[Value.func (.yield l.heap.size) #[] #[]]:Array Value)++cvs.toArray=(Value.func (.yield l.heap.size) #[] #[]::cvs).toArray:=by apply VC;simp
       have h1:fk.name≠ "runtime.NumGoroutine" :=by simpa using hnk
       obtain⟨ck,hck⟩:=Jag.1 (show fk.body.isSome=true by cases hh:fk.body with|none=>rw[hh] at hbk;cases hbk|some c=>rfl)
       simp only[invoke,e4];simp[callFunc,hfk,h1,hck]
      ·intro hd;cases hd
      ·refine callsIn_wide.2 ((sk _ τ1 _ (Value.func (.yield l.heap.size) #[] #[]::cvs) R1 ?_ ?_).mono ?_)
       ·intro i A B;have A:h.n+1≤i:=A;have B:i<j.n:=B;rw[U.same i (by omega)];exact hFr i (by omega) (by omega)
       ·simp only[RvL];refine⟨_,_,rfl,?_,RvL.mono U.sub _ _ hcv⟩;simp only[Rv];exact⟨_,Kc _ _ _,rfl⟩
       ·intro en E hq;cases en with
        |outgrown=>exact hq.elim
        |panicked ch=>obtain⟨v9,h9,e9,_⟩:=hq;cases e9
        |returned M=>
         obtain⟨v9,h9,e9,Φ3,τ3,_,R3,T3⟩:=hq;cases e9;obtain⟨e3,V,X⟩:=(R3.blk h.n b3 D J).loop N;have ar:e3=⟨l.heap.size,0,0⟩:=by
          have:=X.ent
          rw[T3.sub _ _ (Kc _ _ _)] at this;cases this;rfl
         subst ar;obtain⟨y0,y1,y2,y3,y4,y5,o1,o2,o3,_⟩:=X.ob;rw[N] at o1;cases o1;have hst:=Xa (P:=P) (O:= .loop {V with state:= .exhausted,pending:=none}) X.obj;obtain⟨R4,T4⟩:=R3.lose (w':=Xl E l.heap.size (.loop {V with state:= .exhausted,pending:=none})) D J X.lab rfl rfl rfl Xz (fun g hg=>Kh hg);refine⟨none,Xl E l.heap.size (.loop {V with state:= .exhausted,pending:=none}),?_,?_⟩
         ·simp only[Instr.endLoop,Sem.run_bind,Qb X.obj,Result.andThen];rw[o2];simp only[VM,if_false];have hne:(LoopState.ready==LoopState.busy)=false:=rfl;simp only[hne,VM,if_false,Sem.run_bind,Sem.run_pure,hst,Result.andThen,o3]
         ·
          have C3:Tw Φ τ h w Φ3 τ3 j.n E:=Tw.trans (h':=⟨set5 h.n (some (lpB false fn.ntmps pa.toList a b f)) h.t,h.n+1⟩) U T n1 o T3;have C4:Tw Φ τ h w Φ3 τ3 j.n (Xl E l.heap.size (.loop {V with state:= .exhausted,pending:=none})):=C3.trans (T.trans y) (UM _) (y.lim o) T4;have F:τ1 w.heap.size= .out∧(l.alloc (.loop rec)).heap[w.heap.size]? =some (.deferred (some [])):=by
           have:=T1.keep w.heap.size (by omega) (fun i e=>by simp at e)
           exact⟨by rw[this.2];simp,by rw[this.1];exact aa⟩
          have Y:w.heap.size<(l.alloc (.loop rec)).heap.size:=by simp;omega
          have G:τ3 w.heap.size= .out∧E.heap[w.heap.size]? =some (.deferred (some [])):=by
           have:=T3.keep w.heap.size Y (fun i e=>by rw[F.1] at e;cases e)
           exact⟨this.2.trans F.1,this.1.trans F.2⟩
          have ag:w.heap.size<E.heap.size:=UB Y T3.size;have ah:(Xl E l.heap.size (.loop {V with state:= .exhausted,pending:=none})).heap[w.heap.size]? =some (.deferred (some [])):=by
           rw[Kh (by omega)];exact G.2
          have ga:Wf.Good fn.ntmps [{target:= .collected w.heap.size,args:= #[]}] {act with defers:=[{target:= .collected w.heap.size,args:= #[]}]++act.defers}:=⟨ha.size,by show _++act.defers=_;rw[ha.defers];rfl⟩;have hFa:FR Φ3 f (frOf {act with defers:=[{target:= .collected w.heap.size,args:= #[]}]++act.defers}):=hF.mono C3.sub
          show(rest.wpIn Fence.wide 0 P _ _ _)
          refine wpIn_mono (s5 Φ3 τ3 _ _ [{target:= .collected w.heap.size,args:= #[]}] hFa R4 (fun i A B=>by
           have A:j.n≤i:=A;rw[C3.same i (by omega)];exact hFr i (by omega) B) _ ga rfl) ?_
          rintro ex u C ⟨g5',q5'⟩;obtain⟨Φ5,τ5,F5,R5,T5,hend⟩:=hout Φ3 τ3 (putB j h.n none) _ ex _ C q5';have H:τ5 w.heap.size= .out∧C.heap[w.heap.size]? =some (.deferred (some [])):=by
           have:=T5.keep w.heap.size (by rw[Xz];exact ag) (fun i e=>by rw[G.1] at e;cases e)
           exact⟨this.2.trans G.1,this.1.trans ah⟩
          have I:Tw Φ τ h w Φ5 τ5 d.n C:=Tw.trans (h':=putB j h.n none) C4 ((T.trans y).trans q3) n3 (y.lim o) T5;have R6:=R5.aside (O:= .deferred none) H.1;have C6:Tw Φ τ h w Φ5 τ5 d.n (Xl C w.heap.size (.deferred none)):=
           ⟨I.os,I.tape,I.output,by rw[Xz];exact I.size,I.sub,I.same,fun x hx hk=>by rw[Kh (by omega)];exact I.keep x hx hk⟩
          have htake:(Instr.takeDeferred w.heap.size).run P C= .ok [] (Xl C w.heap.size (.deferred none)):=by
           have aj:=Xa (P:=P) (O:= .deferred none) H.2;have hgo:(getObj w.heap.size).run P C= .ok (.deferred (some [])) C:=by simp[getObj,Sem.run,H.2]
           simp only[Instr.takeDeferred,Sem.run_bind,hgo,Result.andThen,aj,Sem.run_pure]
          rcases hend with ⟨hex,hfin⟩|⟨v,x,rfl,rfl,hvx⟩
          ·obtain⟨v,rfl,fr⟩:=lm hfin hr;obtain⟨x,hx,hrun⟩:=fr Φ5 τ5 (frOf u) _ F5 R6;have lv:LeavesInM Fence.wide 0 P fn u.tmps (RetE Φ τ h w (.ok v d)) u.defers .returning C:=by
            rw[g5'.defers];refine⟨(by intro hq;cases hq),.inl ⟨w.heap.size,_,rfl,htake,?_⟩⟩;exact⟨x,hrun u.tmps (fun _=>rfl),v,d,rfl,Φ5,τ5,hx,R6,C6⟩
           rcases hex with rfl|rfl
           ·exact lv
           ·exact lv
          ·have lv:LeavesInM Fence.wide 0 P fn u.tmps (RetE Φ τ h w (.pn v d)) u.defers (.panicking [{v:=x,recovered:=false}]) C:=by
            rw[g5'.defers];refine⟨(by intro hq;cases hq),.inl ⟨w.heap.size,_,rfl,htake,?_⟩⟩;exact⟨v,d,rfl,x,Φ5,τ5,rfl,hvx,R6,C6⟩
           exact lv
     unfold vn at e;cases ho:Qj P call fn.ntmps rest f (putB j h.n none) with
     |nx p d=>
      rw[ho] at e;have e:finR P p d fn.results.toList=r:=e;obtain⟨v,hv,_⟩:=lm e hr;refine main _ p d ho trivial rfl (by rw[hv];rfl) ?_;intro Φ τ Q w ex R L q;cases ex with
      |normal=>obtain⟨Φ1,τ1,A,B,M⟩:=q;exact⟨Φ1,τ1,A,B,M,.inl ⟨.inl rfl,e⟩⟩
      |_=>exact q.elim
     |rt p d=>
      rw[ho] at e;have e:finR P p d fn.results.toList=r:=e;obtain⟨v,hv,_⟩:=lm e hr;refine main _ p d ho trivial rfl (by rw[hv];rfl) ?_;intro Φ τ Q w ex R L q;cases ex with
      |ret=>obtain⟨Φ1,τ1,A,B,M⟩:=q;exact⟨Φ1,τ1,A,B,M,.inl ⟨.inr rfl,e⟩⟩
      |_=>exact q.elim
     |pn v p d=>
      rw[ho] at e;have e:Res.pn v d=r:=e;refine main _ p d ho trivial rfl (by rw[←e];rfl) ?_;intro Φ τ Q w ex R L q;cases ex with
      |panic ch=>obtain⟨x,Φ1,τ1,rfl,d2,A,B,M⟩:=q;exact⟨Φ1,τ1,A,B,M,.inr ⟨v,x,rfl,e.symm,d2⟩⟩
      |_=>exact q.elim
     |ex i p d=>rw[ho] at e;have e:Res.no 53=r:=e;subst e;exact hr.elim
     |no m=>rw[ho] at e;have e:Res.no m=r:=e;subst e;exact hr.elim
   |no m=>intro e;have e:Res.no m=r:=e;subst e;exact hr.elim
   |pn v j=>intro e;have e:Res.no 86=r:=e;subst e;exact hr.elim
  ·subst e;exact hr.elim
 ·subst e;exact hr.elim
theorem O5(hc:CallS P call)(hm:P.follows .mixedOrders=true){k:FuncId}{args:List AV}{h:Hp}{r:Res}(e:Bw P call k args h=r)(hr:okR r):
  (∃fn,P.funcs[k]? =some fn∧(fn.name == "runtime.NumGoroutine")=false∧fn.body.isNone=false)∧(h.n≤big5→Grow h (hpR r h))∧
  ∀Φ τ w vs,Rel Φ τ h w→Fre Φ h.n (hpR r h).n→RvL Φ args vs→Calls P k vs.toArray w (RetE Φ τ h w r):=by
 unfold Bw at e;split at e
 ·subst e;exact hr.elim
 ·rename_i fn hf;split at e
  ·subst e;exact hr.elim
  ·rename_i c hb;rw[Xx] at e;split at e
   ·rename_i hcd;obtain⟨hcd,A⟩:=Za hcd;obtain⟨p,z⟩:=Za hcd;have p:=UW p;have z:=UW z;have A:=nv A;rw[Y4] at z;unfold Ch at e;split at e
    ·obtain⟨g,s⟩:=Ma hc hm p e hr;refine⟨⟨fn,hf,A,by rw[hb];rfl⟩,g,fun Φ τ w vs hR hFr hv=>?_⟩
     exact TX hf hb rfl (by rw[hv.len];exact z) (s Φ τ _ w (pL hv (by omega)) hR hFr)
    ·rename_i s hs;obtain⟨pre,⟨u,id,g,ps,a,b⟩,y⟩:=s;obtain⟨pa,rfl,sp⟩:=wu hc hm p hr c pre u id g ps a b y hs;obtain⟨Z,h1',R,M,T⟩:=sp (q7 args 0) h _ e;obtain⟨C,N⟩:=PO hc hm p R hr (id:=id);have hh:hpR r h1'=hpR r h:=by cases r<;>first|rfl|exact hr.elim
     rw[hh] at C N;refine⟨⟨fn,hf,A,by rw[hb];rfl⟩,M.trans C,fun Φ τ w vs hR hFr hv=>?_⟩
     have k1:Grow h h1':=M hR.lim;have D:=C (k1.lim hR.lim);obtain⟨hgood,hfr⟩:=QM (n:=fn.ntmps) (vs:=vs) (by rw[hv.len];exact z)
     refine(callsIn_wide (n:=0)).1 (callsIn_of_wp_marks hf hb trivial ?_ rfl)
     refine T Φ τ _ w _ hgood (by rw[hfr];exact pL hv (by omega)) hR (fun i E F=>hFr i E (UB F D.le)) ?_;intro G Φ1 τ1 B ga E F H;have conv:∀en f,RetE Φ1 τ1 h1' B r en f→RetE Φ τ h w r en f:=by
      intro en f hq;cases en with
      |returned y=>
       obtain⟨v,h2',rfl,Φ2,τ2,I,J,K⟩:=hq;exact⟨v,h2',rfl,Φ2,τ2,I,J,H.trans k1 D.le (k1.lim hR.lim) K⟩
      |panicked ch=>
       obtain⟨v,h2',rfl,x,Φ2,τ2,U,I,J,K⟩:=hq;exact⟨v,h2',rfl,x,Φ2,τ2,U,I,J,H.trans k1 D.le (k1.lim hR.lim) K⟩
      |outgrown=>exact hq
     have lmono:∀(tm:Array Value) (ds:List Deferred) (u:FrameMode) (f:World),LeavesInM Fence.wide 0 P fn tm (RetE Φ1 τ1 h1' B r) ds u f→LeavesInM Fence.wide 0 P fn tm (RetE Φ τ h w r) ds u f:=by
      intro tm ds
      induction ds with
      |nil=>
       intro u f hL;cases u with
       |run=>exact hL
       |returning=>obtain⟨v,j,m⟩:=hL;exact⟨v,j,conv _ _ m⟩
       |panicking ch=>exact conv (.panicked ch) f hL
      |cons d ds ih=>
       intro u f hL;obtain⟨Q,⟨rr,w',j,m,L⟩|⟨j,fv,cap,ff,aa,m,L,V,X⟩⟩:=hL
       ·exact⟨Q,.inl ⟨rr,w',j,m,ih _ _ L⟩⟩
       ·refine⟨Q,.inr ⟨j,fv,cap,ff,aa,m,L,V,X.mono ?_⟩⟩;intro en u' Y hq;cases en with
        |returned y=>exact ih _ _ hq
        |panicked ch=>exact ih _ _ hq
        |outgrown=>exact conv .outgrown Y hq
     have bmono:∀ex o f,bodyPostM Fence.wide 0 P fn (RetE Φ1 τ1 h1' B r) ex o f→bodyPostM Fence.wide 0 P fn (RetE Φ τ h w r) ex o f:=by
      intro ex o f hq;cases ex with
      |normal=>exact lmono _ _ _ _ hq
      |ret=>exact lmono _ _ _ _ hq
      |panic ch=>exact lmono _ _ _ _ hq
      |exit i=>exact hq
      |goto l=>exact hq
      |outgrown=>exact conv .outgrown f hq
     refine wpIn_mono (N Φ1 τ1 G B ga E F (fun i j m=>by rw[H.same i (fun hh=>by have:=hh.2;omega)];exact hFr i (UC k1.le j) m)) ?_;intro ex o f hq;cases ex with
     |normal=>exact wpIn_mono hq bmono
     |ret=>exact bmono .ret o f hq
     |panic ch=>exact bmono (.panic ch) o f hq
     |exit i=>exact hq
     |goto l=>exact hq
     |outgrown=>exact bmono .outgrown o f hq
   ·subst e;exact hr.elim
def kY(P:Program)(pr:Prim):Prop:=∀k p,pr k=some p→∀args h r,p args h=r→okR r→
 (∃fn,P.funcs[k]? =some fn∧(fn.name == "runtime.NumGoroutine")=false∧fn.body.isNone=false)∧(h.n≤big5→Grow h (hpR r h))∧
 ∀Φ τ w vs,Rel Φ τ h w→Fre Φ h.n (hpR r h).n→RvL Φ args vs→Calls P k vs.toArray w (RetE Φ τ h w r)
def ExS(P:Program)(ex:FuncId→Nat):Prop:=∀k,ex k≠0→ExK P k (ex k)
theorem Cm{pr:Prim}{ex:FuncId→Nat}(hx:ExS P ex)(hp:kY P pr)(hm:P.follows .mixedOrders=true):∀m,CallS P (iv P pr ex m):=by
 intro m
 induction m with
 |zero=>exact⟨hx,fun k args h r e hr=>by have e:Res.no 54=r:=e;subst e;exact hr.elim,fun k args h r e hr=>by have e:Res.no 54=r:=e;subst e;exact hr.elim⟩
 |succ m ih=>
  refine⟨hx,fun k args h r e hr=>?_,fun id args h r e hr=>Fo ih hm e hr⟩;have a:(iv P pr ex (m+1)).run k args h=Option.rec (Bw P (iv P pr ex m) k args h) (fun p=>p args h) (pr k):=rfl;rw[a] at e;cases hk:pr k with
  |none=>rw[hk] at e;exact O5 ih hm e hr
  |some p=>rw[hk] at e;exact hp k p hk args h r e hr
def tt(r:Res):Bool:=match r with
 |.ok (.b true) _=>true
 |_=>false
end
def blkG(cs:List AV):Blk:=⟨0,false,true,cs,.glb⟩
def tabs(l:List (Nat×List AV)):T5 (Option Blk):=List.rec (wZ none) (fun p _ ih=>set5 p.1 (some (blkG p.2)) ih) l
def hpG(n:Nat)(l:List (Nat×List AV)):Hp:=⟨tabs l,n⟩
def Xo(w:World)(n:Nat)(l:List (Nat×List AV)):Prop:=∀p∈l,p.1<n∧∃C T fr,w.heap[p.1]? =some (.cells C T fr)∧∀Φ,CR Φ C 0 p.2
theorem n4{l:List (Nat×List AV)}(hl:∀p∈l,p.1<big5){id:Nat}(hid:id<big5):(∃p∈l,p.1=id∧get5 id (tabs l)=some (blkG p.2))∨(∀p∈l,p.1≠id)∧get5 id (tabs l)=none:=by
 induction l with
 |nil=>exact .inr ⟨fun _ h=>(by cases h),vO id none⟩
 |cons p l ih=>
  have e:tabs (p::l)=set5 p.1 (some (blkG p.2)) (tabs l):=rfl;rw[e,J8 _ _ _ _ hid (hl p (by simp))];by_cases h:id=p.1
  ·rw[if_pos h];exact .inl ⟨p,by simp,h.symm,rfl⟩
  ·rw[if_neg h];rcases ih (fun q hq=>hl q (by simp[hq])) with ⟨q,a,b,d⟩|⟨a,b⟩
   ·exact .inl ⟨q,by simp[a],b,d⟩
   ·refine .inr ⟨?_,b⟩;intro q hq;rcases XF.1 hq with rfl|hq
    ·exact fun e=>h e.symm
    ·exact a q hq
def PhiG(l:List (Nat×List AV)):Phi:=fun id=>if id∈l.map (·.1) then some ⟨id,0,0⟩ else none
def TauG(l:List (Nat×List AV)):Tau:=fun g=>if g∈l.map (·.1) then .ro else .out
theorem relG{w:World}{n:Nat}{l:List (Nat×List AV)}(hn:n≤big5)(h:Xo w n l):Rel (PhiG l) (TauG l) (hpG n l) w:=by
 have hl:∀p∈l,p.1<big5:=fun p hp=>UB (h p hp).1 hn;refine⟨hn,?_,?_⟩
 ·intro id b hid hb;have hb:get5 id (tabs l)=some b:=hb;have hid:id<n:=hid;rcases n4 hl (UB hid hn) with ⟨p,d,rfl,a⟩|⟨_,e⟩
  ·rw[a] at hb;cases hb;obtain⟨_,C,T,fr,f,g⟩:=h p d;have hm:p.1∈l.map (·.1):=List.mem_map_of_mem d;exact .inr (.inr (.inl ⟨⟨p.1,0,0⟩,C,⟨if_pos hm,rfl,if_pos hm,rfl,rfl,⟨T,fr,f⟩,g _⟩⟩))
  ·rw[e] at hb;cases hb
 ·intro id d e;rcases n4 hl e with ⟨p,a,rfl,_⟩|⟨_,a⟩
  ·exact absurd (h p a).1 (Nat.not_lt.2 d)
  ·exact a
section
variable {P:Program}
theorem DG {pr:Prim} {ex:FuncId→Nat} (hx:ExS P ex) (hp:kY P pr) (hm:P.follows .mixedOrders=true) {m k n:Nat} {l:List (Nat×List AV)} {args:List AV} {v:AV} {h':Hp} (e:Qn P pr ex m k args (hpG n l)= .ok v h')
  (w:World) (hn:n≤big5) (hw:Xo w n l) (vs:List Value) (hv:∀Φ,RvL Φ args vs):Calls P k vs.toArray w fun en w'=>(∃x Φ,en= .returned x∧Rv Φ v x)∧Below w.heap.size w w':=by
 obtain⟨_,_,s⟩:=(Cm hx hp hm m).run k args (hpG n l) _ e trivial
 have:=s (PhiG l) (TauG l) w vs (relG hn hw) (fun id b _=>if_neg (fun hh=>by
  obtain⟨p,hp,rfl⟩:=XM.1 hh;exact absurd (hw p hp).1 (Nat.not_lt.2 b))) (hv _)
 refine this.mono ?_;intro en w' hh;cases en with
 |returned x=>
  obtain⟨d,f,a,Φ',τ',hv,_,t⟩:=hh;cases a;refine⟨⟨x,Φ',rfl,hv⟩,⟨t.os,t.tape,t.output,t.size,fun g hg=>(t.keep g hg fun id e=>?_).1⟩⟩
  have e:TauG l g= .own id:=e;unfold TauG at e;split at e<;>cases e
 |panicked ch=>obtain⟨d,f,a,_⟩:=hh;cases a
 |outgrown=>exact hh.elim
theorem lP{pr:Prim}{ex:FuncId→Nat}(hx:ExS P ex)(hp:kY P pr)(hm:P.follows .mixedOrders=true){m k n:Nat}{l:List (Nat×List AV)}(e:tt (Qn P pr ex m k [] (hpG n l))=true)(hn:n≤big5)(w:World)(hw:Xo w n l):
  Calls P k #[] w fun en w'=>en= .returned (.bool true)∧Below w.heap.size w w':=by
 unfold tt at e;split at e
 ·rename_i h' he
  refine(DG hx hp hm he w hn hw [] (fun _=>by simp only[RvL])).mono ?_
  rintro en w' ⟨⟨x,Φ,rfl,hv⟩,hb⟩;rw[hv.bI];exact⟨rfl,hb⟩
 ·cases e
end
inductive Tg|z|q|n|s
inductive In
 |z (m:GInt)
 |q (m:GRat)
 |n (x:Int)
 |s (l:List Nat)
def zR(l:List Int):List Rat:=l.map fun z:Int=>(z:Rat)
inductive Ou
 |z (x:Int)
 |q (x:Rat)
 |n (x:Int)
 |b (x:Bool)
 |s (l:List Nat)
 |qs (l:List Rat)
 |se (f:Int) (l:List Int)
def digN:List AV→Option (List Nat)
 |[]=>some []
 |.i .u32 (.ofNat d)::l=>bif Nat.blt d 4294967296 then(match digN l with|some r=>some (d::r)|none=>none) else none
 |_::_=>none
def frzS(h:Hp)(a:AV):Hp:=match a with
 |.sl id _ _ _ _=>getB h id (fun b=>bif b.ro then h else putB h id (some ⟨b.ty,b.ex,true,b.cs,b.ob⟩)) h
 |_=>h
def rdS(h:Hp)(a:AV):Option (List Nat):=match a with
 |.ns=>some []
 |.z0=>some []
 |.sl id off n z _=>bif Nat.beq z 1&&Nat.ble n 64 then getB h id (fun b=>bif b.ro&&Nat.ble (Nat.add off n) (len b.cs) then digN (tk (dr b.cs off) n) else none) none else none
 |_=>none
def frzA(h:Hp)(t:Tg)(a:AV):Hp:=match t,a with
 |.z,.ag [_,s]=>frzS h s
 |.q,.ag [_,s,_,s2]=>frzS (frzS h s) s2
 |_,_=>h
def rdA(h:Hp)(t:Tg)(a:AV):Option In:=match t,a with
 |.z,.ag [.b s,x]=>(match rdS h x with|some l=>some (.z ⟨s,l⟩)|none=>none)
 |.q,.ag [.b s,x,.b s2,y]=>(match rdS h x,rdS h y with|some l,some m=>some (.q ⟨⟨s,l⟩,⟨s2,m⟩⟩)|_,_=>none)
 |.n,.i .i64 x=>some (.n x)
 |.s,.s l=>some (.s l)
 |_,_=>none
def frzL(h:Hp):List Tg→List AV→Hp
 |t::ts,a::as0=>frzL (frzA h t a) ts as0
 |_,_=>h
def rdL(h:Hp):List Tg→List AV→Option (List In)
 |[],[]=>some []
 |t::ts,a::as0=>(match rdA h t a,rdL h ts as0 with|some i,some r=>some (i::r)|_,_=>none)
 |_,_=>none
def dgK:Nat→Nat→(List AV→Res)→Res
 |0,_,_=> .no 72
 |f+1,n,k=>bif Nat.beq n 0 then k [] else fz (Nat.mod n 4294967296) fun d=>fz (Nat.div n 4294967296) fun m=>dgK f m fun l=>k (.i .u32 (.ofNat d)::l)
def emS(h:Hp)(l:List AV)(k:AV→Hp→Res):Res:=match l with
 |[]=>k .z0 h
 |a::r=>newB h ⟨fo,false,true,a::r,.row⟩ fun id h'=>fz (len (a::r)) fun n=>k (.sl id 0 n 1 none) h'
def emI(h:Hp)(z:Int)(k:Bool→AV→Hp→Res):Res:=match z with
 |.ofNat n=>fz n fun n=>dgK 40 n fun l=>emS h l (k false)
 |.negSucc n=>fz (Nat.succ n) fun n=>dgK 40 n fun l=>emS h l (k true)
def fL:List Nat→(List Nat→Res)→Res
 |[],k=>k []
 |x::l,k=>fz x fun x=>fL l fun l=>k (x::l)
def emQc(h:Hp)(l:List Rat)(k:List AV→Hp→Res):Res:=match l with
 |[]=>k [] h
 |x::r=>emI h x.num fun s a h1=>emI h1 (Int.ofNat x.den) fun t b h2=>emQc h2 r fun cs h3=>k (.b s::a:: .b t::b::cs) h3
def emQs(h:Hp)(l:List Rat)(k:AV→Hp→Res):Res:=match l with
 |[]=>k .z0 h
 |x::r=>emQc h (x::r) fun cs h1=>newB h1 ⟨fo,false,true,cs,.row⟩ fun id h'=>fz (len (x::r)) fun n=>k (.sl id 0 n 4 none) h'
def emO(h:Hp)(o:Ou)(k:AV→Hp→Res):Res:=match o with
 |.z x=>emI h x fun s a h1=>k (.ag [.b s,a]) h1
 |.q x=>emI h x.num fun s a h1=>emI h1 (Int.ofNat x.den) fun t b h2=>k (.ag [.b s,a,.b t,b]) h2
 |.n x=>fI x fun x=>k (.i .i64 x) h
 |.b x=>Bool.rec (k (.b false) h) (k (.b true) h) x
 |.s l=>fL l fun l=>k (.s l) h
 |.qs l=>emQs h l k
 |.se f l=>fI f fun f=>emQs h (zR l) fun a h1=>k (.ag [.i .i64 f,a]) h1
def emL(h:Hp)(os:List Ou)(k:List AV→Hp→Res):Res:=match os with
 |[]=>k [] h
 |o::r=>emO h o fun a h1=>emL h1 r fun as0 h2=>k (a::as0) h2
def wrp(l:List AV):AV:=match l with
 |[a]=>a
 |l=> .tp l
def prF(ts:List Tg)(f:List In→Option (List Ou))(args:List AV)(h:Hp):Res:=
 (fun h1=>match rdL h1 ts args with
  |none=> .no 74
  |some ins=>match f ins with
   |none=> .no 75
   |some os=>emL h1 os fun as0 h2=> .ok (wrp as0) h2) (frzL h ts args)
def XR(τ:Tau)(w:World):Nat→Prop:=fun b=>b<w.heap.size∧τ b≠ .ro
def InR(X:Nat→Prop)(w:World):In→Value→Prop
 |.z m,v=>RV Jo X w v m∧m.mag.length≤64
 |.q m,v=>RV Jj X w v m∧m.num.mag.length≤64∧m.den.mag.length≤64
 |.n x,v=>v= .int .i64 x
 |.s l,v=>(∀n∈l,n<256)∧v=str (l.map UInt8.ofNat)
def InL(X:Nat→Prop)(w:World):List In→List Value→Prop
 |[],vs=>vs=[]
 |i::r,vs=>∃v us,vs=v::us∧InR X w i v∧InL X w r us
def OuR(X:Nat→Prop)(w:World):Ou→Value→Prop
 |.z x,v=>RV Jo X w v (ofZ x)
 |.q x,v=>RV Jj X w v (ofQ x)
 |.n x,v=>v= .int .i64 x
 |.b x,v=>v= .bool x
 |.s l,v=>(∀n∈l,n<256)∧v=str (l.map UInt8.ofNat)
 |.qs l,v=>RS Jj X w v (l.map ofQ)
 |.se f l,v=>∃u,v= .agg #[.int .i64 f,u]∧RS Jj X w u ((zR l).map ofQ)
def OuL(X:Nat→Prop)(w:World):List Ou→List Value→Prop
 |[],vs=>vs=[]
 |i::r,vs=>∃v us,vs=v::us∧OuR X w i v∧OuL X w r us
def PoR(X:Nat→Prop)(w:World)(os:List Ou)(v:Value):Prop:=match os with
 |[o]=>OuR X w o v
 |os=>∃vs:List Value,v= .tuple vs.toArray∧OuL X w os vs
def vd(P:Program)(k:FuncId)(f:List In→Option (List Ou)):Prop:=∀(X:Nat→Prop) (w:World) ins vs os,(∀b,X b→b<w.heap.size)→InL X w ins vs→f ins=some os→
 Calls P k vs.toArray w (Ret w fun v w'=>PoR X w' os v)
section
variable {Φ:Phi} {τ:Tau} {h h':Hp} {w w':World}
theorem Dd:∀ {l:List AV} {ds:List Nat},digN l=some ds→ds.length=l.length∧∀(i:Nat) (d:Nat),ds[i]? =some d→l[i]? =some (AV.i .u32 (Int.ofNat d))∧d<4294967296:=by
 intro l
 induction l with
 |nil=>intro ds e;cases e;exact⟨rfl,fun i d hi=>by simp at hi⟩
 |cons a l ih=>
  intro ds e;unfold digN at e;split at e
  ·rename_i hh;cases hh
  ·rename_i d l' hh;cases hh;cases hb:Nat.blt d 4294967296 with
   |false=>rw[hb] at e;cases e
   |true=>
    rw[hb] at e;simp only[cond_true] at e;cases hd:digN l with
    |none=>rw[hd] at e;cases e
    |some r=>
     rw[hd] at e;cases e;obtain⟨b,f⟩:=ih hd;refine⟨by simp[b],fun i x hi=>?_⟩
     cases i with
     |zero=>simp only[WW,Jak] at hi ⊢;subst hi;exact⟨rfl,Zx hb⟩
     |succ i=>simp only[WV] at hi ⊢;exact f i x hi
  ·cases e
theorem Rel.frz{id:Nat}{b:Blk}(r:Rel Φ τ h w)(hid:id<h.n)(hb:get5 id h.t=some b)(hrow:b.ob= .row)(hro:b.ro=false):
  ∃τ',Rel Φ τ' (putB h id (some ⟨b.ty,b.ex,true,b.cs,b.ob⟩)) w∧Tw Φ τ h w Φ τ' h.n w:=by
 obtain⟨en,C,T,br⟩:=(r.blk id b hid hb).row hrow;have hlab:=br.own hro;refine⟨fun g=>if g=en.g then .ro else τ g,⟨r.lim,?_,?_⟩,⟨rfl,rfl,rfl,UM _,Sub.refl _,fun _ _=>rfl,?_⟩⟩
 ·intro id' b'' hid' hb'';have hid':id'<h.n:=hid';have hb'':get5 id' (set5 id (some ⟨b.ty,b.ex,true,b.cs,b.ob⟩) h.t)=some b'':=hb'';rw[J8 _ _ _ _ (Qh r hid') (Qh r hid)] at hb'';by_cases e:id'=id
  ·rw[if_pos e] at hb'';cases hb'';subst e;exact .inl ⟨en,C,T,br.ent,if_pos rfl,hrow,.inl (br.own_ hro),let ⟨fr,j,_⟩:=br.obj;⟨fr,j,fun hh=>by cases hh⟩,br.le,br.exact_,br.cr⟩
  ·rw[if_neg e] at hb'';obtain⟨f,_,_,a,k⟩:=(r.blk id' b'' hid' hb'').at_;have hne:f.g≠en.g:=by
    intro hg;rw[hg,hlab] at a;split at a
    ·cases a
    ·cases a;exact e rfl
   exact k (Sub.refl _) rfl (if_neg hne)
 ·intro i hi d;have hi:h.n≤i:=hi;show get5 i (set5 id _ h.t)=none;rw[J8 _ _ _ _ d (Qh r hid),if_neg (by omega)];exact r.fin i hi d
 ·intro g hg hk;refine⟨rfl,if_neg ?_⟩;intro e;subst e
  have:=(hk id hlab).1 hid
  rw[hb] at this;cases this
theorem gX{α:Type}{id:Nat}{k:Blk→α}{no:α}:(∃b,id<h.n∧get5 id h.t=some b∧b.ob= .row∧getB h id k no=k b)∨getB h id k no=no:=by
 unfold getB;cases hn:Nat.blt id h.n with
 |false=>exact .inr rfl
 |true=>
  cases hb:get5 id h.t with
  |none=>exact .inr rfl
  |some b=>
   cases ho:b.ob with
   |row=>exact .inl ⟨b,Zx hn,rfl,ho,by simp only[ho]⟩
   |_=>exact .inr (by simp only[ho])
theorem gW(a:AV):(frzS h a).n=h.n∧(h.n≤big5→Grow h (frzS h a)):=by
 unfold frzS;split
 ·rename_i id _ _ _ _;rcases gX (h:=h) (id:=id) (k:=fun b=>bif b.ro then h else putB h id (some ⟨b.ty,b.ex,true,b.cs,b.ob⟩)) (no:=h) with ⟨b,d,f,_,e⟩|e
  ·rw[e];cases b.ro with
   |true=>exact⟨rfl,fun _=>Grow.refl _⟩
   |false=>exact⟨rfl,fun hl=>Grow.put hl d f⟩
  ·rw[e];exact⟨rfl,fun _=>Grow.refl _⟩
 ·exact⟨rfl,fun _=>Grow.refl _⟩
def Fz(Φ:Phi)(τ:Tau)(h:Hp)(w:World)(h':Hp):Prop:=∃τ',Rel Φ τ' h' w∧Tw Φ τ h w Φ τ' h'.n w
theorem t9(a:AV)(r:Rel Φ τ h w):Fz Φ τ h w (frzS h a):=by
 unfold frzS;split
 ·rename_i id _ _ _ _;rcases gX (h:=h) (id:=id) (k:=fun b=>bif b.ro then h else putB h id (some ⟨b.ty,b.ex,true,b.cs,b.ob⟩)) (no:=h) with ⟨b,d,f,g,e⟩|e
  ·rw[e];cases hro:b.ro with
   |true=>exact⟨τ,r,Tw.refl _ _ _ _ _⟩
   |false=>obtain⟨τ',i,j⟩:=r.frz d f g hro;exact⟨τ',i,j⟩
  ·rw[e];exact⟨τ,r,Tw.refl _ _ _ _ _⟩
 ·exact⟨τ,r,Tw.refl _ _ _ _ _⟩
theorem Fz.then{d e:Hp}(g:Gw h d)(hn:d.n=h.n)(a:Fz Φ τ h w d)(r:Rel Φ τ h w)(l:e.n=d.n)(b:∀τ',Rel Φ τ' d w→Fz Φ τ' d w e):Fz Φ τ h w e:=by
 obtain⟨τ1,f,i⟩:=a;obtain⟨τ2,j,k⟩:=b τ1 f;exact⟨τ2,j,i.trans (g r.lim) (by omega) f.lim k⟩
theorem rL(t:Tg)(a:AV):(frzA h t a).n=h.n∧Gw h (frzA h t a):=by
 unfold frzA;split
 ·exact gW _
 ·rename_i s _ b;obtain⟨d,e⟩:=gW (h:=h) s;obtain⟨f,g⟩:=gW (h:=frzS h s) b;exact⟨f.trans d,Gw.trans e g⟩
 ·exact⟨rfl,Gw.refl _⟩
theorem Mt(t:Tg)(a:AV)(r:Rel Φ τ h w):Fz Φ τ h w (frzA h t a):=by
 unfold frzA;split
 ·exact t9 _ r
 ·rename_i s _ b;exact Fz.then (gW s).2 (gW s).1 (t9 s r) r (gW b).1 fun τ' r'=>t9 b r'
 ·exact⟨τ,r,Tw.refl _ _ _ _ _⟩
theorem vC:∀(ts:List Tg) (b:List AV) (h:Hp),(frzL h ts b).n=h.n∧Gw h (frzL h ts b)
 |[],b,h=>by unfold frzL;exact⟨rfl,Gw.refl _⟩
 |_::_,[],h=>by unfold frzL;exact⟨rfl,Gw.refl _⟩
 |t::ts,a::b,h=>by
  unfold frzL;obtain⟨d,e⟩:=rL (h:=h) t a;obtain⟨f,g⟩:=vC ts b (frzA h t a);exact⟨f.trans d,Gw.trans e g⟩
theorem CC:∀(ts:List Tg) (b:List AV) (h:Hp) (τ:Tau),Rel Φ τ h w→Fz Φ τ h w (frzL h ts b)
 |[],b,h,τ,r=>by unfold frzL;exact⟨τ,r,Tw.refl _ _ _ _ _⟩
 |_::_,[],h,τ,r=>by unfold frzL;exact⟨τ,r,Tw.refl _ _ _ _ _⟩
 |t::ts,a::b,h,τ,r=>by
  unfold frzL;exact Fz.then (rL t a).2 (rL t a).1 (Mt t a r) r (vC ts b _).1 fun τ' r'=>CC ts b _ τ' r'
theorem GA{a:AV}{v:Value}{ds:List Nat}(r:Rel Φ τ h w)(hv:Rv Φ a v)(e:rdS h a=some ds):RS Jd (XR τ w) w v ds∧ds.length≤64:=by
 unfold rdS at e;split at e
 ·cases e;simp only[Rv] at hv;exact⟨⟨none,0,hv,UM _,UN _,.inl rfl⟩,by simp⟩
 ·cases e;simp only[Rv] at hv;obtain⟨p,c,hv,hc⟩:=hv;exact⟨⟨p,c,hv,UN _,hc,.inl rfl⟩,by simp⟩
 ·rename_i id off n z cap;cases hz:(Nat.beq z 1&&Nat.ble n 64) with
  |false=>rw[hz] at e;cases e
  |true=>
   rw[hz] at e;obtain⟨d,l⟩:=Za hz;have d:=YT d;have l:=UW l;subst d;simp only[cond_true] at e;rcases gX (h:=h) (id:=id) (k:=fun b=>bif b.ro&&Nat.ble (Nat.add off n) (len b.cs) then digN (tk (dr b.cs off) n) else none) (no:=none) with ⟨b,o,s,y,m⟩|m
   ·rw[m] at e;cases hq:(b.ro&&Nat.ble (Nat.add off n) (len b.cs)) with
    |false=>rw[hq] at e;cases e
    |true=>
     rw[hq] at e;obtain⟨A,f⟩:=Za hq;have f:=UW f;rw[Y4] at f;have f:off+n≤b.cs.length:=f;simp only[cond_true] at e;rw[ly,V6] at e;obtain⟨B,D⟩:=Dd e;obtain⟨en,c,hen,hvv,E,F,I,_⟩:=hv.slI;obtain⟨en',C,T,br⟩:=(r.blk id b o s).row y
     have:=br.ent
     rw[hen] at this;cases this;have hl:ds.length=n:=by rw[B,UH,UG];omega
     refine⟨⟨_,c,by rw[hl];exact hvv,by rw[hl];exact E,F,.inr ⟨en.g,en.base+off,rfl,?_,?_⟩⟩,by omega⟩
     ·intro hx
      have:=br.lab
      rw[A] at this;exact hx.2 this
     ·intro i x hi;obtain⟨k1,G⟩:=D i x hi;rw[W1] at k1;split at k1
      ·rw[WX] at k1;obtain⟨u,H,u2⟩:=br.cell k1;refine⟨[.int .u32 x],⟨rfl,G⟩,fun j u' hj=>?_⟩
       cases j with
       |zero=>
        cases hj;simp only[Rv] at u2;subst u2;show w.cell? ⟨en.g,en.base+off+i*1+0,none⟩=_;rw[show en.base+off+i*1+0=en.base+(off+i) by omega];exact H
       |succ j=>simp at hj
      ·cases k1
   ·rw[m] at e;cases e
 ·cases e
theorem P5{t:Tg}{a:AV}{v:Value}{i:In}(r:Rel Φ τ h w)(hv:Rv Φ a v)(e:rdA h t a=some i):InR (XR τ w) w i v:=by
 unfold rdA at e;split at e
 ·rename_i s x;cases hx:rdS h x with
  |none=>rw[hx] at e;cases e
  |some l=>
   rw[hx] at e;cases e;simp only[Rv,RvL] at hv;obtain⟨vs,rfl,f,g,rfl,rfl,j,k,rfl,b,rfl⟩:=hv;obtain⟨k1,d⟩:=GA r b hx;exact⟨Je k1,d⟩
 ·rename_i s x u y;cases hx:rdS h x with
  |none=>rw[hx] at e;cases e
  |some l=>
   cases hy:rdS h y with
   |none=>rw[hx,hy] at e;cases e
   |some m=>
    rw[hx,hy] at e;cases e;simp only[Rv,RvL] at hv;obtain⟨vs,rfl,f,g,rfl,rfl,j,k,rfl,b,z,A,rfl,rfl,B,C,rfl,n,rfl⟩:=hv;obtain⟨k1,d⟩:=GA r b hx;obtain⟨o,p⟩:=GA r n hy;exact⟨J2 k1 o,d,p⟩
 ·cases e;simp only[Rv] at hv;exact hv
 ·cases e;simp only[Rv] at hv;exact hv
 ·cases e
theorem O4:∀ {ts:List Tg} {b:List AV} {vs:List Value} {is:List In},Rel Φ τ h w→RvL Φ b vs→rdL h ts b=some is→InL (XR τ w) w is vs:=by
 intro ts
 induction ts with
 |nil=>
  intro b vs is r hv e;cases b with
  |nil=>cases e;simp only[RvL] at hv;exact hv
  |cons a b=>unfold rdL at e;cases e
 |cons t ts ih=>
  intro b vs is r hv e;cases b with
  |nil=>unfold rdL at e;cases e
  |cons a b=>
   unfold rdL at e;cases d:rdA h t a with
   |none=>rw[d] at e;cases e
   |some i=>
    cases f:rdL h ts b with
    |none=>rw[d,f] at e;cases e
    |some is'=>
     rw[d,f] at e;cases e;simp only[RvL] at hv;obtain⟨v,us,rfl,g,j⟩:=hv;exact⟨v,us,rfl,P5 r g d,ih r j f⟩
def dA(d:Nat):AV:= .i .u32 (Int.ofNat d)
theorem lK{n:Nat}(h:n≠0):digs n=n%4294967296::digs (n/4294967296):=by
 have hs:Jp (n%4294967296::digs (n/4294967296)):=Zs (UI _ (by decide)) (Zv _);have hv:val (n%4294967296::digs (n/4294967296))=n:=by
  rw[val,Jw];omega
 have ht:trim (n%4294967296::digs (n/4294967296))=n%4294967296::digs (n/4294967296):=by
  rw[trim,Z9];cases hd:digs (n/4294967296) with
  |nil=>
   have:=(Qv _).1 hd
   show(if n%4294967296=0 then [] else _)=_
   rw[if_neg (by omega)]
  |cons a t=>rfl
 have:=uL ht hs
 rw[hv] at this;exact this.symm
theorem Iz:∀(f n:Nat) (k:List AV→Res) (r:Res),dgK f n k=r→okR r→k ((digs n).map dA)=r:=by
 intro f
 induction f with
 |zero=>intro n k r e hr;unfold dgK at e;subst e;exact hr.elim
 |succ f ih=>
  intro n k r e hr;unfold dgK at e;cases hn:Nat.beq n 0 with
  |true=>
   rw[hn] at e
   have:=YT hn
   subst this;exact e
  |false=>
   rw[hn] at e;simp only[cond_false,Yx] at e;have a:n≠0:=fun hh=>by subst hh;cases hn
   have:=ih _ _ _ e hr
   rw[lK a];exact this
def hRow(h:Hp)(l:List Nat):Hp:=⟨set5 h.n (some ⟨fo,false,true,l.map dA,.row⟩) h.t,h.n+1⟩
theorem qn{b o:Nat}{u:Value}(hc:w.cell? ⟨b,o,none⟩=some u):∃C T fr,w.heap[b]? =some (.cells C T fr)∧C[o]? =some u:=by
 unfold World.cell? at hc;split at hc
 ·rename_i C T fr ho;exact⟨C,T,fr,ho,by simpa using hc⟩
 ·cases hc
theorem Rel.row{l:List Nat}{v:Value}{X:Nat→Prop}(r:Rel Φ τ h w)(hb:h.n<big5)(hf:Φ h.n=none)(hX:∀b,¬X b→τ b= .ro)(rs:RS Jd X w v l)(hl:l≠[]):
  ∃Φ',Rel Φ' τ (hRow h l) w∧Rv Φ' (.sl h.n 0 l.length 1 none) v∧Tw Φ τ h w Φ' τ (h.n+1) w:=by
 obtain⟨a,c,rfl,j,m,g⟩:=rs;obtain⟨b,o,rfl,hx,g⟩:=g.resolve_left hl;obtain⟨d,l',rfl⟩:=List.exists_cons_of_ne_nil hl;obtain⟨cs,hcs,hcell⟩:=g 0 d rfl;have hcs:=hcs.1;subst hcs;obtain⟨C,T,fr,ho,_⟩:=qn (hcell 0 _ rfl);have hall:CR (ext Φ h.n ⟨b,o,c⟩) C o ((d::l').map dA):=by
  intro i a hi;rw[VA] at hi;cases hd:(d::l')[i]? with
  |none=>rw[hd] at hi;cases hi
  |some x=>
   rw[hd] at hi;cases hi;obtain⟨cs,k1,p⟩:=g i x hd;have k1:=k1.1;subst k1;obtain⟨C',T',fr',ho',hc'⟩:=qn (p 0 _ rfl);rw[ho] at ho';cases ho';refine⟨.int .u32 x,?_,by unfold dA;simp only[Rv];rfl⟩
   have:Jd.sz=1:=rfl
   rw[this] at hc';rw[show o+i=o+i*1+0 by omega];exact hc'
 have hlt:b<w.heap.size:=(VE.1 ho).1;refine⟨ext Φ h.n ⟨b,o,c⟩,⟨hb,?_,?_⟩,?_,⟨rfl,rfl,rfl,UM _,Sub.ext hf,?_,fun _ _ _=>⟨rfl,rfl⟩⟩⟩
 ·intro id b' hid hb';have hid:id<h.n+1:=hid;have hb':get5 id (set5 h.n (some ⟨fo,false,true,(d::l').map dA,.row⟩) h.t)=some b':=hb';rw[J8 _ _ _ _ (by omega) hb] at hb';by_cases e:id=h.n
  ·rw[if_pos e] at hb';cases hb';subst e;exact .inl ⟨⟨b,o,c⟩,C,T,Kc _ _ _,(hX b hx).trans rfl,rfl,.inr ⟨rfl,rfl⟩,⟨fr,ho,fun hh=>by cases hh⟩,by rw[W4];exact j,(fun hh=>by cases hh),hall⟩
  ·rw[if_neg e] at hb';obtain⟨en,_,_,_,k⟩:=(r.blk id b' (by omega) hb').at_;exact k (Sub.ext hf) rfl rfl
 ·intro id hid f;have hid:h.n+1≤id:=hid;show get5 id (set5 h.n _ h.t)=none;rw[J8 _ _ _ _ f hb,if_neg (by omega)];exact r.fin id (by omega) f
 ·have:=Rv.msl (Φ:=ext Φ h.n ⟨b,o,c⟩) (id:=h.n) (off:=0) (n:=(d::l').length) (z:=1) (cap:=none) (e:=⟨b,o,c⟩) (c:=c) (Kc _ _ _) j m (by show 0+c*1≤c;omega) trivial
  exact this
 ·intro id hid;unfold Ev.ext;rw[if_neg (by omega)]
def Em(h h1:Hp)(φ:(Nat→Prop)→World→Value→Prop)(a:AV):Prop:=h.n≤h1.n∧Gw h h1∧
 ∀(Φ:Phi) (τ:Tau) (w:World) (X:Nat→Prop) (v:Value),Rel Φ τ h w→(∀b,¬X b→τ b= .ro)→φ X w v→Fre Φ h.n h1.n→∃Φ',Rel Φ' τ h1 w∧Rv Φ' a v∧Tw Φ τ h w Φ' τ h1.n w
theorem HU{l:List Nat}{k:AV→Hp→Res}{r:Res}(e:emS h (l.map dA) k=r)(hr:okR r):∃a b,k a b=r∧Em h b (fun X w v=>RS Jd X w v l) a:=by
 cases l with
 |nil=>
  refine⟨.z0,h,e,UM _,Gw.refl _,fun Φ τ w X v hR _ rs _=>⟨Φ,hR,?_,Tw.refl _ _ _ _ _⟩⟩;obtain⟨a,c,rfl,b,f,_⟩:=rs;simp only[Rv];exact⟨a,c,rfl,f⟩
 |cons d l=>
  have e:newB h ⟨fo,false,true,(d::l).map dA,.row⟩ (fun id h'=>fz (len ((d::l).map dA)) fun n=>k (.sl id 0 n 1 none) h')=r:=e;unfold newB at e;cases hb:Nat.blt h.n big5 with
  |false=>rw[hb] at e;have e:Res.no 30=r:=e;subst e;exact hr.elim
  |true=>
   rw[hb] at e;simp only[Yx,Y4,W4] at e;have hb:=Zx hb;refine⟨.sl h.n 0 (d::l).length 1 none,hRow h (d::l),e,Nat.le_succ _,fun _=>Grow.new hb,fun Φ τ w X v hR hX rs hF=>?_⟩
   exact hR.row hb (hF _ (UM _) (ZE _)) hX rs (by simp)
theorem rI{z:Int}{k:Bool→AV→Hp→Res}{r:Res}(e:emI h z k=r)(hr:okR r):∃a b,k (decide (z<0)) a b=r∧Em h b (fun X w v=>RS Jd X w v (digs z.natAbs)) a:=by
 unfold emI at e;split at e
 ·rename_i n;rw[Yx] at e;obtain⟨a,b,k1,d⟩:=HU (Iz _ _ _ _ e hr) hr;refine⟨a,b,?_,d⟩;rw[decide_eq_false (by simp)];exact k1
 ·rename_i n;rw[Yx] at e;obtain⟨a,b,k1,d⟩:=HU (Iz _ _ _ _ e hr) hr;refine⟨a,b,?_,d⟩;rw[decide_eq_true (Int.negSucc_lt_zero n)];exact k1
theorem Fre.on{Φ Φ':Phi}{a b c:Nat}(hf:Fre Φ a c)(hab:a≤b)(hs:∀id,¬(a≤id∧id<b)→Φ' id=Φ id):Fre Φ' b c:=fun id e d=>by
 rw[hs id (by omega)];exact hf id (by omega) d
def RdQ(X:Nat→Prop)(w:World):List GRat→List Value→Prop
 |[],vs=>vs=[]
 |q::r,vs=>∃s u us,vs= .bool q.num.neg::s:: .bool q.den.neg::u::us∧RS Jd X w s q.num.mag∧RS Jd X w u q.den.mag∧RdQ X w r us
theorem C2{X:Nat→Prop}:∀(l:List GRat) (p:Nat→Value→Prop),(∀(i:Nat) x,l[i]? =some x→∃cs,Jj.rd X w cs x∧∀(j:Nat) u,cs[j]? =some u→p (i*4+j) u)→
  ∃vs,RdQ X w l vs∧vs.length=l.length*4∧∀(i:Nat) v,vs[i]? =some v→p i v
 |[],p,_=>⟨[],rfl,rfl,fun i v h=>by simp at h⟩
 |q::r,p,h=>by
  obtain⟨cs,hcs,hp⟩:=h 0 q rfl;obtain⟨s,u,rfl,a,b⟩:=hcs;obtain⟨us,k1,d,e⟩:=C2 r (fun i v=>p (i+4) v) (fun i x hi=>by
   obtain⟨cs,f,g⟩:=h (i+1) x (by simpa using hi);exact⟨cs,f,fun j u hj=>by
    have:=g j u hj
    rw[show(i+1)*4+j=i*4+j+4 by omega] at this;exact this⟩)
  refine⟨_,⟨s,u,us,rfl,a,b,k1⟩,by simp[d];omega,?_⟩;intro i v hv
  match i with
  |0=>exact hp 0 v hv
  |1=>exact hp 1 v hv
  |2=>exact hp 2 v hv
  |3=>exact hp 3 v hv
  |i+4=>exact e i v (by simpa using hv)
def EmC(h h1:Hp)(l:List Rat)(cs:List AV):Prop:=h.n≤h1.n∧Gw h h1∧
 ∀(Φ:Phi) (τ:Tau) (w:World) (X:Nat→Prop) (vs:List Value),Rel Φ τ h w→(∀b,¬X b→τ b= .ro)→RdQ X w (l.map ofQ) vs→Fre Φ h.n h1.n→∃Φ',Rel Φ' τ h1 w∧RvL Φ' cs vs∧Tw Φ τ h w Φ' τ h1.n w
theorem IP:∀ {l:List Rat} {h:Hp} {k:List AV→Hp→Res} {r:Res},emQc h l k=r→okR r→∃cs d,k cs d=r∧cs.length=l.length*4∧EmC h d l cs:=by
 intro l
 induction l with
 |nil=>
  intro h k r e hr;refine⟨[],h,e,rfl,UM _,Gw.refl _,fun Φ τ w X vs hR _ hv _=>⟨Φ,hR,?_,Tw.refl _ _ _ _ _⟩⟩;simp only[RvL];exact hv
 |cons x l ih=>
  intro h k r e hr;unfold emQc at e;obtain⟨a,d,F,z,j,G⟩:=rI e hr;obtain⟨b,Q,H,f,A,I⟩:=rI F hr;obtain⟨cs,B,J,hl,g,K,L⟩:=ih H hr;refine⟨_,B,J,by simp[hl];omega,UC z (UC f g),Gw.trans j (Gw.trans A K),fun Φ τ w X vs hR hX hv hF=>?_⟩
  obtain⟨s,u,us,rfl,rs,C,hv⟩:=hv;obtain⟨Φ1,m,M,D⟩:=G Φ τ w X _ hR hX rs (fun id o p=>hF id o (UB p (UC f g)));have i:Fre Φ1 d.n B.n:=hF.on z D.same;obtain⟨Φ2,E,u2,v⟩:=I Φ1 τ w X _ m hX C (fun id o p=>i id o (UB p g));obtain⟨Φ3,N,P,y⟩:=L Φ2 τ w X _ E hX hv (i.on f v.same);refine⟨Φ3,N,?_,(D.trans (j hR.lim) f m.lim v).trans (Grow.trans (j hR.lim) (A m.lim)) g E.lim y⟩;simp only[RvL];refine⟨_,_,rfl,?_,_,_,rfl,(M.mono v.sub).mono y.sub,_,_,rfl,?_,_,_,rfl,u2.mono y.sub,P⟩
  ·simp only[Rv];rfl
  ·simp only[Rv];rfl
theorem RvL.at_{Φ:Phi}:∀ {l:List AV} {vs:List Value},RvL Φ l vs→∀(i:Nat) a,l[i]? =some a→∃v,vs[i]? =some v∧Rv Φ a v
 |[],_,_,i,a,h=>by simp at h
 |x::l,vs,h,i,a,hi=>by
  simp only[RvL] at h;obtain⟨v,r,rfl,b,d⟩:=h;cases i with
  |zero=>cases hi;exact⟨v,rfl,b⟩
  |succ i=>exact RvL.at_ d i a (by simpa using hi)
theorem Rel.rows {cs:List AV} {vs:List Value} {b o c n z:Nat} (r:Rel Φ τ h w) (hb:h.n<big5) (hf:Φ h.n=none) (hro:τ b= .ro) (hv:RvL Φ cs vs) (hc:∀(i:Nat) v,vs[i]? =some v→w.cell? ⟨b,o+i,none⟩=some v)
  (g:0<cs.length) (hl:cs.length=n*z) (hn:n≤c) (hcm:c≤maxLen):
  ∃Φ',Rel Φ' τ ⟨set5 h.n (some ⟨fo,false,true,cs,.row⟩) h.t,h.n+1⟩ w∧Rv Φ' (.sl h.n 0 n z none) (.slice (some ⟨b,o,none⟩) n c)∧Tw Φ τ h w Φ' τ (h.n+1) w:=by
 obtain⟨j,f,_⟩:=hv.at_ 0 cs[0] (UL g);obtain⟨C,T,fr,ho,_⟩:=qn (hc 0 j f);have hall:CR (ext Φ h.n ⟨b,o,c*z⟩) C o cs:=by
  intro i a hi;obtain⟨v,k1,l⟩:=hv.at_ i a hi;obtain⟨C',T',fr',ho',hc'⟩:=qn (hc i v k1);rw[ho] at ho';cases ho';exact⟨v,hc',l.mono (Sub.ext hf)⟩
 refine⟨ext Φ h.n ⟨b,o,c*z⟩,⟨hb,?_,?_⟩,?_,⟨rfl,rfl,rfl,UM _,Sub.ext hf,?_,fun _ _ _=>⟨rfl,rfl⟩⟩⟩
 ·intro id b' hid hb';have hid:id<h.n+1:=hid;have hb':get5 id (set5 h.n (some ⟨fo,false,true,cs,.row⟩) h.t)=some b':=hb';rw[J8 _ _ _ _ (by omega) hb] at hb';by_cases e:id=h.n
  ·rw[if_pos e] at hb';cases hb';subst e;exact .inl ⟨⟨b,o,c*z⟩,C,T,Kc _ _ _,hro.trans rfl,rfl,.inr ⟨rfl,rfl⟩,⟨fr,ho,fun hh=>by cases hh⟩,by rw[hl];exact ZI z hn,(fun hh=>by cases hh),hall⟩
  ·rw[if_neg e] at hb';obtain⟨en,_,_,_,k⟩:=(r.blk id b' (by omega) hb').at_;exact k (Sub.ext hf) rfl rfl
 ·intro id hid d;have hid:h.n+1≤id:=hid;show get5 id (set5 h.n _ h.t)=none;rw[J8 _ _ _ _ d hb,if_neg (by omega)];exact r.fin id (by omega) d
 ·have:=Rv.msl (Φ:=ext Φ h.n ⟨b,o,c*z⟩) (id:=h.n) (off:=0) (n:=n) (z:=z) (cap:=none) (e:=⟨b,o,c*z⟩) (c:=c) (Kc _ _ _) hn hcm (by show 0+c*z≤c*z;omega) trivial
  exact this
 ·intro id hid;unfold Ev.ext;rw[if_neg (by omega)]
theorem Da{l:List Rat}{k:AV→Hp→Res}{r:Res}(e:emQs h l k=r)(hr:okR r):∃a d,k a d=r∧Em h d (fun X w v=>RS Jj X w v (l.map ofQ)) a:=by
 cases l with
 |nil=>
  refine⟨.z0,h,e,UM _,Gw.refl _,fun Φ τ w X v hR _ rs _=>⟨Φ,hR,?_,Tw.refl _ _ _ _ _⟩⟩;obtain⟨a,c,rfl,d,E,_⟩:=rs;simp only[Rv];exact⟨a,c,rfl,E⟩
 |cons x l=>
  have e:emQc h (x::l) (fun cs d=>newB d ⟨fo,false,true,cs,.row⟩ fun id h'=>fz (len (x::l)) fun n=>k (.sl id 0 n 4 none) h')=r:=e;obtain⟨cs,d,f,hl,s,A,F⟩:=IP e hr;unfold newB at f;cases hb:Nat.blt d.n big5 with
  |false=>rw[hb] at f;have f:Res.no 30=r:=f;subst f;exact hr.elim
  |true=>
   rw[hb] at f;simp only[Yx,Y4] at f;have hb:=Zx hb;refine⟨.sl d.n 0 (x::l).length 4 none,⟨set5 d.n (some ⟨fo,false,true,cs,.row⟩) d.t,d.n+1⟩,f,ZC s,Gw.trans A (fun _=>Grow.new hb),fun Φ τ w X v hR hX rs hF=>?_⟩
   obtain⟨a,c,rfl,B,G,m⟩:=rs;obtain⟨b,o,rfl,hx,m⟩:=m.resolve_left (by simp);have hF:Fre Φ h.n (d.n+1):=hF;obtain⟨vs,H,N,I⟩:=C2 ((x::l).map ofQ) (fun i v=>w.cell? ⟨b,o+i,none⟩=some v) (fun i y hi=>by
    obtain⟨cs,g,p⟩:=m i y hi;refine⟨cs,g,fun j u hj=>?_⟩
    have:=p j u hj
    have hs:Jj.sz=4:=rfl;rw[hs] at this;rw[←YD];exact this)
   obtain⟨Φ',g,p,C⟩:=F Φ τ w X vs hR hX H (fun id J K=>hF id J (Nat.lt_succ_of_lt K));have D:Fre Φ' d.n (d.n+1):=hF.on s C.same;obtain⟨Φ2,L,u2,M⟩:=g.rows (n:=(x::l).length) (z:=4) hb (D _ (UM _) (ZE _)) (hX b hx) p I (by rw[hl];simp) hl (by rw[W4] at B;exact B) G;refine⟨Φ2,L,?_,C.trans (A hR.lim) (Nat.le_succ _) g.lim M⟩;rw[W4];exact u2
theorem Mi:∀(l:List Nat) (k:List Nat→Res),fL l k=k l
 |[],_=>rfl
 |x::l,k=>by unfold fL;rw[Yx,Mi l]
theorem PL{o:Ou}{k:AV→Hp→Res}{r:Res}(e:emO h o k=r)(hr:okR r):∃a d,k a d=r∧Em h d (fun X w v=>OuR X w o v) a:=by
 unfold emO at e;split at e
 ·rename_i x;obtain⟨a,d,k1,g,j,y⟩:=rI e hr;refine⟨.ag [.b (decide (x<0)),a],d,k1,g,j,fun Φ τ w X v hR hX hv hF=>?_⟩
  obtain⟨p,c,rfl,rs⟩:=RV.int hv;obtain⟨Φ',m,z,n⟩:=y Φ τ w X _ hR hX rs hF;refine⟨Φ',m,?_,n⟩;simp only[Rv,RvL];exact⟨_,rfl,_,_,rfl,rfl,_,_,rfl,z,rfl⟩
 ·rename_i x;obtain⟨a,d,D,g,j,y⟩:=rI e hr;obtain⟨b,E,k1,A,F,G⟩:=rI D hr;refine⟨.ag [.b (decide (x.num<0)),a,.b (decide ((Int.ofNat x.den)<0)),b],E,k1,UC g A,Gw.trans j F,fun Φ τ w X v hR hX hv hF=>?_⟩
  obtain⟨p,c,K,L,rfl,rs,B⟩:=TN hv;obtain⟨Φ',m,z,n⟩:=y Φ τ w X _ hR hX rs (fun id H I=>hF id H (UB I A));obtain⟨Φ2,J,u2,C⟩:=G Φ' τ w X _ m hX B (hF.on g n.same);refine⟨Φ2,J,?_,n.trans (j hR.lim) A m.lim C⟩;simp only[Rv,RvL];exact⟨_,rfl,_,_,rfl,rfl,_,_,rfl,z.mono C.sub,_,_,rfl,rfl,_,_,rfl,u2,rfl⟩
 ·rename_i x;rw[GB] at e;refine⟨_,h,e,UM _,Gw.refl _,fun Φ τ w X v hR _ hv _=>⟨Φ,hR,?_,Tw.refl _ _ _ _ _⟩⟩;simp only[Rv];exact hv
 ·rename_i x;refine⟨.b x,h,by cases x<;>exact e,UM _,Gw.refl _,fun Φ τ w X v hR _ hv _=>⟨Φ,hR,?_,Tw.refl _ _ _ _ _⟩⟩;simp only[Rv];exact hv
 ·rename_i l;rw[Mi] at e;refine⟨.s l,h,e,UM _,Gw.refl _,fun Φ τ w X v hR _ hv _=>⟨Φ,hR,?_,Tw.refl _ _ _ _ _⟩⟩;simp only[Rv];exact hv
 ·exact Da e hr
 ·rename_i f l;rw[GB] at e;obtain⟨a,d,k1,g,j,y⟩:=Da e hr;refine⟨.ag [.i .i64 f,a],d,k1,g,j,fun Φ τ w X v hR hX hv hF=>?_⟩
  obtain⟨u,rfl,rs⟩:=hv;obtain⟨Φ',m,z,n⟩:=y Φ τ w X _ hR hX rs hF;refine⟨Φ',m,?_,n⟩;simp only[Rv,RvL];exact⟨_,rfl,_,_,rfl,rfl,_,_,rfl,z,rfl⟩
def EmL(h h1:Hp)(os:List Ou)(as0:List AV):Prop:=h.n≤h1.n∧Gw h h1∧
 ∀(Φ:Phi) (τ:Tau) (w:World) (X:Nat→Prop) (vs:List Value),Rel Φ τ h w→(∀b,¬X b→τ b= .ro)→OuL X w os vs→Fre Φ h.n h1.n→∃Φ',Rel Φ' τ h1 w∧RvL Φ' as0 vs∧Tw Φ τ h w Φ' τ h1.n w
theorem Rm:∀ {os:List Ou} {h:Hp} {k:List AV→Hp→Res} {r:Res},emL h os k=r→okR r→∃b d,k b d=r∧b.length=os.length∧EmL h d os b:=by
 intro os
 induction os with
 |nil=>
  intro h k r e hr;refine⟨[],h,e,rfl,UM _,Gw.refl _,fun Φ τ w X vs hR _ hv _=>⟨Φ,hR,?_,Tw.refl _ _ _ _ _⟩⟩;simp only[RvL];exact hv
 |cons o os ih=>
  intro h k r e hr;unfold emL at e;obtain⟨a,d,n,g,i,p⟩:=PL e hr;obtain⟨b,s,k1,hl,f,u,x⟩:=ih n hr;refine⟨a::b,s,k1,by simp[hl],UC g f,Gw.trans i u,fun Φ τ w X vs hR hX hv hF=>?_⟩
  obtain⟨v,us,rfl,y,z⟩:=hv;obtain⟨Φ',j,A,l⟩:=p Φ τ w X _ hR hX y (fun id B C=>hF id B (UB C f));obtain⟨Φ2,D,u2,m⟩:=x Φ' τ w X _ j hX z (hF.on g l.same);refine⟨Φ2,D,?_,l.trans (i hR.lim) f j.lim m⟩;simp only[RvL];exact⟨_,_,rfl,A.mono m.sub,u2⟩
theorem QD{os:List Ou}{b:List AV}{h j:Hp}(hl:b.length=os.length)(g:EmL h j os b):Em h j (fun X w v=>PoR X w os v) (wrp b):=by
 obtain⟨l,m,k⟩:=g;refine⟨l,m,fun Φ τ w X v hR hX hv hF=>?_⟩
 unfold PoR at hv;split at hv
 ·rename_i o
  match b,hl with
  |[a],_=>
   obtain⟨Φ',f,d,i⟩:=k Φ τ w X [v] hR hX ⟨v,[],rfl,hv,rfl⟩ hF;simp only[RvL] at d;obtain⟨_,_,e,d,rfl⟩:=d;cases e;exact⟨Φ',f,d,i⟩
 ·rename_i hne;obtain⟨vs,rfl,hv⟩:=hv;obtain⟨Φ',f,d,i⟩:=k Φ τ w X vs hR hX hv hF;refine⟨Φ',f,?_,i⟩;have hw:wrp b= .tp b:=by
   unfold wrp;split
   ·rename_i a
    match os,hl with
    |[o],_=>exact absurd rfl (hne o)
   ·rfl
  rw[hw];simp only[Rv];exact⟨vs,rfl,d⟩
end
theorem JI {P:Program} {k:FuncId} {ts:List Tg} {f:List In→Option (List Ou)} (hk:Ja P k=true) {args:List AV} {h:Hp} {r:Res}
  (con:∀(Φ:Phi) (τ τ1:Tau) (w:World),Rel Φ τ h w→Tw Φ τ h w Φ τ1 h.n w→∀ins vs os,InL (XR τ1 w) w ins vs→f ins=some os→Calls P k vs.toArray w (Ret w fun v w'=>PoR (XR τ1 w) w' os v)) (e:prF ts f args h=r) (hr:okR r):
  (∃fn,P.funcs[k]? =some fn∧(fn.name == "runtime.NumGoroutine")=false∧fn.body.isNone=false)∧(h.n≤big5→Grow h (hpR r h))∧
  ∀Φ τ w vs,Rel Φ τ h w→Fre Φ h.n (hpR r h).n→RvL Φ args vs→Calls P k vs.toArray w (RetE Φ τ h w r):=by
 refine⟨?_,?_⟩
 ·unfold Ja at hk;cases hf:P.funcs[k]? with
  |none=>rw[hf] at hk;cases hk
  |some fn=>
   rw[hf] at hk;obtain⟨k1,l⟩:=Za hk;exact⟨fn,rfl,nv k1,nv l⟩
 unfold prF at e;cases hrd:rdL (frzL h ts args) ts args with
 |none=>simp only[hrd] at e;subst e;exact hr.elim
 |some ins=>
  cases hf:f ins with
  |none=>simp only[hrd,hf] at e;subst e;exact hr.elim
  |some os=>
   simp only[hrd,hf] at e;obtain⟨C,m,rfl,hl,g⟩:=Rm e hr;obtain⟨i,d⟩:=vC ts args h;obtain⟨o,p,s⟩:=QD hl g;refine⟨Gw.trans d p,fun Φ τ w vs hR hF hv=>?_⟩
   have hF:Fre Φ h.n m.n:=hF;obtain⟨τ1,a,j⟩:=CC ts args h τ hR;have hin:=O4 a hv hrd
   refine(con Φ τ τ1 w hR (i▸j) ins vs os hin hf).mono ?_
   intro en w' hq;cases en with
   |returned x=>
    obtain⟨po,be⟩:=hq;have hb:∀g,g<w.heap.size→w'.heap[g]? =w.heap[g]? ∧(fun g=>if g<w.heap.size then τ1 g else Lab.ro) g=τ1 g:=fun g hg=>⟨be.block g hg,if_pos hg⟩;have u:Rel Φ (fun g=>if g<w.heap.size then τ1 g else .ro) (frzL h ts args) w':=a.kept (Sub.refl _) hb;have y:Tw Φ τ1 (frzL h ts args) w Φ (fun g=>if g<w.heap.size then τ1 g else .ro) (frzL h ts args).n w':=⟨be.os,be.tape,be.output,be.size,Sub.refl _,fun _ _=>rfl,fun g hg _=>hb g hg⟩;have hX:∀b,¬XR τ1 w b→(fun g=>if g<w.heap.size then τ1 g else Lab.ro) b= .ro:=by
     intro b hx
     show(if b<w.heap.size then τ1 b else Lab.ro)= .ro
     by_cases hlt:b<w.heap.size
     ·rw[if_pos hlt];exact VR fun hne=>hx ⟨hlt,hne⟩
     ·rw[if_neg hlt]
    obtain⟨Φ',z,A,B⟩:=s Φ _ w' _ x u hX po (by rw[i];exact hF);exact⟨_,_,rfl,Φ',_,A,z,(j.trans (d hR.lim) (UM _) a.lim y).trans (d hR.lim) o a.lim B⟩
   |panicked ch=>exact hq.elim
   |outgrown=>exact hq.elim
theorem Oi{P:Program}{k:FuncId}{ts:List Tg}{f:List In→Option (List Ou)}(hk:Ja P k=true)(con:vd P k f){args:List AV}{h:Hp}{r:Res}(e:prF ts f args h=r)(hr:okR r):
  (∃fn,P.funcs[k]? =some fn∧(fn.name == "runtime.NumGoroutine")=false∧fn.body.isNone=false)∧(h.n≤big5→Grow h (hpR r h))∧
  ∀Φ τ w vs,Rel Φ τ h w→Fre Φ h.n (hpR r h).n→RvL Φ args vs→Calls P k vs.toArray w (RetE Φ τ h w r):=
 JI hk (fun Φ τ τ1 w _ _ ins vs os hin hf=>con (XR τ1 w) w ins vs os (fun b hb=>hb.1) hin hf) e hr
abbrev PrL:=List (FuncId×(List AV→Hp→Res))
def prL:PrL→Prim
 |[]=>fun _=>none
 |e::r=>fun j=>bif Nat.beq j e.1 then some e.2 else prL r j
def re(P:Program)(k:FuncId)(p:List AV→Hp→Res):Prop:=∀args h r,p args h=r→okR r→
 (∃fn,P.funcs[k]? =some fn∧(fn.name == "runtime.NumGoroutine")=false∧fn.body.isNone=false)∧(h.n≤big5→Grow h (hpR r h))∧
 ∀Φ τ w vs,Rel Φ τ h w→Fre Φ h.n (hpR r h).n→RvL Φ args vs→Calls P k vs.toArray w (RetE Φ τ h w r)
theorem uH{P:Program}:∀ {T:PrL},(∀e∈T,re P e.1 e.2)→kY P (prL T):=by
 intro T
 induction T with
 |nil=>intro _ k p h;cases h
 |cons x T ih=>
  intro hT k p hp args h r e hr;have hp:(bif Nat.beq k x.1 then some x.2 else prL T k)=some p:=hp;cases hb:Nat.beq k x.1 with
  |true=>
   rw[hb] at hp;cases hp
   have:=YT hb
   subst this;exact hT x (by simp) args h r e hr
  |false=>
   rw[hb] at hp;exact ih (fun e he=>hT e (by simp[he])) k p hp args h r e hr
theorem Xk{P:Program}{k:FuncId}{ts:List Tg}{f:List In→Option (List Ou)}(hk:Ja P k=true)(con:vd P k f):re P k (prF ts f):=fun _ _ _ e hr=>Oi hk con e hr
def tabB(h:Hp):List (Nat×List AV)→Bool
 |[]=>true
 |p::r=>getG h p.1 (fun cs=>wT cs p.2) false&&tabB h r
def allI:List AV→Bool
 |[]=>true
 |.i _ _::l=>allI l
 |_::_=>false
theorem Mw:∀ {l:List AV},allI l=true→∀(i:Nat) a,l[i]? =some a→∃k n,a= .i k n:=by
 intro l
 induction l with
 |nil=>intro _ i a h;simp at h
 |cons x l ih=>
  intro h i a hi;unfold allI at h;split at h
  ·rename_i hh;cases hh
  ·rename_i k n l' hh;cases hh;cases i with
   |zero=>cases hi;exact⟨k,n,rfl⟩
   |succ i=>exact ih h i a (by simpa using hi)
  ·cases h
theorem IK{h:Hp}{id:Nat}{k:List AV→Bool}(e:getG h id k false=true):∃b,id<h.n∧get5 id h.t=some b∧b.ob= .glb∧k b.cs=true:=by
 unfold getG at e;cases hn:Nat.blt id h.n with
 |false=>rw[hn] at e;cases e
 |true=>
  rw[hn] at e;cases hb:get5 id h.t with
  |none=>rw[hb] at e;cases e
  |some b=>
   rw[hb] at e;cases ho:b.ob with
   |glb=>simp only[ho] at e;exact⟨b,Zx hn,rfl,ho,e⟩
   |_=>simp only[ho] at e;cases e
theorem Mq{Φ:Phi}{τ:Tau}{h:Hp}{w:World}:∀ {l:List (Nat×List AV)},tabB h l=true→(∀p∈l,allI p.2=true)→Rel Φ τ h w→Xo w h.n l∧∀p∈l,p.1<w.heap.size∧τ p.1= .ro:=by
 intro l
 induction l with
 |nil=>intro _ _ _;exact⟨fun p hp=>by simp at hp,fun p hp=>by simp at hp⟩
 |cons q l ih=>
  intro d f hR;unfold tabB at d;obtain⟨k1,k⟩:=Za d;obtain⟨b,hid,hb,hg,he⟩:=IK k1;have he:=vT _ _ he;obtain⟨e,C,g⟩:=(hR.blk q.1 b hid hb).tab hg;obtain⟨T,fr,ho⟩:=g.obj;have hat:=g.at_;obtain⟨m,o⟩:=ih k (fun p hp=>f p (by simp[hp])) hR;have hq:=f q (by simp);refine⟨fun p hp=>?_,fun p hp=>?_⟩
  ·rcases XF.1 hp with rfl|hp
   ·refine⟨hid,C,T,fr,by rw[←hat];exact ho,fun Φ2 i a hi=>?_⟩
    obtain⟨kk,n,rfl⟩:=Mw hq i a hi;obtain⟨v,r,j⟩:=g.cr i _ (by rw[he];exact hi);exact⟨v,r,by simp only[Rv] at j ⊢;exact j⟩
   ·exact m p hp
  ·rcases XF.1 hp with rfl|hp
   ·rw[←hat];exact⟨(VE.1 ho).1,g.lab⟩
   ·exact o p hp
def ConT(P:Program)(l:List (Nat×List AV))(k:FuncId)(f:List In→Option (List Ou)):Prop:=∀(X:Nat→Prop) (w:World) (n:Nat) ins vs os,(∀b,X b→b<w.heap.size)→(∀p∈l,¬X p.1)→n≤big5→Xo w n l→InL X w ins vs→f ins=some os→
 Calls P k vs.toArray w (Ret w fun v w'=>PoR X w' os v)
def prFT(l:List (Nat×List AV))(ts:List Tg)(f:List In→Option (List Ou))(args:List AV)(h:Hp):Res:=bif tabB h l then prF ts f args h else .no 77
theorem Im{P:Program}{l:List (Nat×List AV)}{k:FuncId}{ts:List Tg}{f:List In→Option (List Ou)}(hl:∀p∈l,allI p.2=true)(hk:Ja P k=true)(con:ConT P l k f):re P k (prFT l ts f):=by
 intro args h r e hr;unfold prFT at e;cases hb:tabB h l with
 |false=>rw[hb] at e;have e:Res.no 77=r:=e;subst e;exact hr.elim
 |true=>
  rw[hb] at e;refine JI hk ?_ e hr;intro Φ τ τ1 w hR t ins vs os hin hf;obtain⟨d,g⟩:=Mq hb hl hR;refine con (XR τ1 w) w h.n ins vs os (fun b hb=>hb.1) ?_ hR.lim d hin hf;intro p hp hx;obtain⟨i,a⟩:=g p hp
  have:=(t.keep p.1 i (fun id hh=>by rw[a] at hh;cases hh)).2
  exact hx.2 (this.trans a)
def rd0(h:Hp)(a:AV):Option (List Nat):=match a with
 |.ns=>some []
 |.z0=>some []
 |.sl id off n z _=>bif Nat.beq z 1 then getB h id (fun b=>bif Nat.ble (Nat.add off n) (len b.cs) then digN (tk (dr b.cs off) n) else none) none else none
 |_=>none
def rdQc(h:Hp):List AV→Option (List GRat)
 |[]=>some []
 |.b s::x:: .b s2::y::r=>(match rd0 h x,rd0 h y,rdQc h r with|some l,some m,some k=>some (⟨⟨s,l⟩,⟨s2,m⟩⟩::k)|_,_,_=>none)
 |_=>none
def rdQs(h:Hp)(a:AV):Option (List GRat):=match a with
 |.ns=>some []
 |.z0=>some []
 |.sl id off n z _=>bif Nat.beq z 4 then getB h id (fun b=>bif Nat.ble (Nat.add off (Nat.mul n 4)) (len b.cs) then rdQc h (tk (dr b.cs off) (Nat.mul n 4)) else none) none else none
 |_=>none
def dgF:Nat→Nat→Option (List Nat)
 |0,_=>none
 |f+1,n=>bif Nat.beq n 0 then some [] else(match dgF f (Nat.div n 4294967296) with|some l=>some (Nat.mod n 4294967296::l)|none=>none)
def eqZ(g:GInt)(z:Int):Bool:=match dgF 40 z.natAbs with
 |some l=>g.neg==(match z with | .ofNat _=>false | .negSucc _=>true)&&leqL g.mag l
 |none=>false
theorem NK:∀ {f n:Nat} {l:List Nat},dgF f n=some l→l=digs n:=by
 intro f
 induction f with
 |zero=>intro n l e;cases e
 |succ f ih=>
  intro n l e;unfold dgF at e;cases hn:Nat.beq n 0 with
  |true=>
   rw[hn] at e
   have:=YT hn
   subst this;cases e;rfl
  |false=>
   rw[hn] at e;simp only[cond_false] at e;have a:n≠0:=fun hh=>by subst hh;cases hn
   cases hd:dgF f (Nat.div n 4294967296) with
   |none=>rw[hd] at e;cases e
   |some k=>
    rw[hd] at e;cases e;rw[lK a,ih hd];rfl
theorem wJ{g:GInt}{z:Int}(h:eqZ g z=true):g=ofZ z:=by
 unfold eqZ at h;split at h
 ·rename_i l hl;obtain⟨d,b⟩:=Za h;rw[zf] at b;have b:=of_decide_eq_true b;have d:=eq_of_beq d;cases g with
  |mk a m=>
   have b:m=l:=b;have d:a=_:=d;subst b;rw[d,NK hl];unfold ofZ;cases z with
   |ofNat n=>simp
   |negSucc n=>simp[Int.negSucc_lt_zero]
 ·cases h
section
variable {Φ:Phi} {τ:Tau} {h h':Hp} {w w':World} {X:Nat→Prop}
def Out_(Φ:Phi)(h:Hp)(X:Nat→Prop):Prop:=∀id b e,id<h.n→get5 id h.t=some b→Φ id=some e→¬X e.g
theorem ws{a:AV}{v:Value}{ds:List Nat}(r:Rel Φ τ h w)(hO:Out_ Φ h X)(hv:Rv Φ a v)(e:rd0 h a=some ds):RS Jd X w v ds:=by
 unfold rd0 at e;split at e
 ·cases e;simp only[Rv] at hv;exact⟨none,0,hv,UM _,UN _,.inl rfl⟩
 ·cases e;simp only[Rv] at hv;obtain⟨p,c,hv,hc⟩:=hv;exact⟨p,c,hv,UN _,hc,.inl rfl⟩
 ·rename_i id off n z cap;cases hz:Nat.beq z 1 with
  |false=>rw[hz] at e;cases e
  |true=>
   rw[hz] at e;have l:=YT hz;subst l;simp only[cond_true] at e;rcases gX (h:=h) (id:=id) (k:=fun b=>bif Nat.ble (Nat.add off n) (len b.cs) then digN (tk (dr b.cs off) n) else none) (no:=none) with ⟨b,m,o,s,d⟩|d
   ·rw[d] at e;cases hq:Nat.ble (Nat.add off n) (len b.cs) with
    |false=>rw[hq] at e;cases e
    |true=>
     rw[hq] at e;have f:=UW hq;rw[Y4] at f;have f:off+n≤b.cs.length:=f;simp only[cond_true] at e;rw[ly,V6] at e;obtain⟨y,A⟩:=Dd e;obtain⟨en,c,hen,hvv,B,D,G,_⟩:=hv.slI;obtain⟨en',C,T,br⟩:=(r.blk id b m o).row s
     have:=br.ent
     rw[hen] at this;cases this;have hl:ds.length=n:=by rw[y,UH,UG];omega
     refine⟨_,c,by rw[hl];exact hvv,by rw[hl];exact B,D,.inr ⟨en.g,en.base+off,rfl,hO id b en m o hen,?_⟩⟩;intro i x hi;obtain⟨k1,E⟩:=A i x hi;rw[W1] at k1;split at k1
     ·rw[WX] at k1;obtain⟨u,F,u2⟩:=br.cell k1;refine⟨[.int .u32 x],⟨rfl,E⟩,fun j u' hj=>?_⟩
      cases j with
      |zero=>
       cases hj;simp only[Rv] at u2;subst u2;show w.cell? ⟨en.g,en.base+off+i*1+0,none⟩=_;rw[show en.base+off+i*1+0=en.base+(off+i) by omega];exact F
      |succ j=>simp at hj
     ·cases k1
   ·rw[d] at e;cases e
 ·cases e
theorem Dj(r:Rel Φ τ h w)(hO:Out_ Φ h X):∀ {cs:List AV} {vs:List Value} {gs:List GRat},RvL Φ cs vs→rdQc h cs=some gs→gs.length*4=cs.length∧∀(i:Nat) g,gs[i]? =some g→∃us,Jj.rd X w us g∧∀(j:Nat) u,us[j]? =some u→vs[i*4+j]? =some u
 |[],vs,gs,hv,e=>by
  unfold rdQc at e;cases e;exact⟨rfl,fun i g hi=>by simp at hi⟩
 |.b s::x:: .b q::y::cs,vs,gs,hv,e=>by
  unfold rdQc at e;cases hx:rd0 h x with
  |none=>rw[hx] at e;cases e
  |some l=>
   cases hy:rd0 h y with
   |none=>rw[hx,hy] at e;cases e
   |some m=>
    cases hc:rdQc h cs with
    |none=>rw[hx,hy,hc] at e;cases e
    |some k=>
     rw[hx,hy,hc] at e;cases e;simp only[RvL,Rv] at hv;obtain⟨v,z,rfl,rfl,a,A,rfl,f,B,C,rfl,rfl,d,D,rfl,n,hv⟩:=hv;obtain⟨E,o⟩:=Dj r hO hv hc;refine⟨by simp only[Uw];omega,fun i g hi=>?_⟩
     cases i with
     |zero=>
      cases hi;refine⟨[.bool s,a,.bool q,d],⟨a,d,rfl,ws r hO f hx,ws r hO n hy⟩,fun j u hj=>?_⟩
      match j with
      |0=>cases hj;rfl
      |1=>cases hj;rfl
      |2=>cases hj;rfl
      |3=>cases hj;rfl
      |j+4=>simp at hj
     |succ i=>
      obtain⟨us,p,u2⟩:=o i g (by simpa using hi);refine⟨us,p,fun j u hj=>?_⟩
      rw[show(i+1)*4+j=i*4+j+4 by omega];exact u2 j u hj
theorem CU{a:AV}{v:Value}{gs:List GRat}(r:Rel Φ τ h w)(hO:Out_ Φ h X)(hv:Rv Φ a v)(e:rdQs h a=some gs):RS Jj X w v gs:=by
 unfold rdQs at e;split at e
 ·cases e;simp only[Rv] at hv;exact⟨none,0,hv,UM _,UN _,.inl rfl⟩
 ·cases e;simp only[Rv] at hv;obtain⟨p,c,hv,hc⟩:=hv;exact⟨p,c,hv,UN _,hc,.inl rfl⟩
 ·rename_i id off n z cap;cases hz:Nat.beq z 4 with
  |false=>rw[hz] at e;cases e
  |true=>
   rw[hz] at e;have l:=YT hz;subst l;simp only[cond_true] at e;rcases gX (h:=h) (id:=id) (k:=fun b=>bif Nat.ble (Nat.add off (Nat.mul n 4)) (len b.cs) then rdQc h (tk (dr b.cs off) (Nat.mul n 4)) else none) (no:=none) with ⟨b,m,o,s,d⟩|d
   ·rw[d] at e;cases hq:Nat.ble (Nat.add off (Nat.mul n 4)) (len b.cs) with
    |false=>rw[hq] at e;cases e
    |true=>
     rw[hq] at e;have f:=UW hq;rw[Y4] at f;have f:off+n*4≤b.cs.length:=f;simp only[cond_true] at e;rw[ly,V6] at e;have e:rdQc h ((b.cs.drop off).take (n*4))=some gs:=e;obtain⟨en,c,hen,hvv,y,A,H,_⟩:=hv.slI;obtain⟨en',C,T,br⟩:=(r.blk id b m o).row s
     have:=br.ent
     rw[hen] at this;cases this;obtain⟨vs,I,B,D⟩:=br.cells off (n*4) (by rw[UG];omega);obtain⟨E,F⟩:=Dj r hO B e;have hl:gs.length=n:=by rw[UH,UG] at E;omega
     refine⟨_,c,by rw[hl];exact hvv,by rw[hl];exact y,A,.inr ⟨en.g,en.base+off,rfl,hO id b en m o hen,?_⟩⟩;intro i x hi;obtain⟨us,G,u2⟩:=F i x hi;refine⟨us,G,fun j u hj=>?_⟩
     have:=D _ _ (u2 j u hj)
     have hs:Jj.sz=4:=rfl;rw[hs,YD (en.base+off)];exact this
   ·rw[d] at e;cases e
 ·cases e
end
theorem nW {P:Program} {pr:Prim} {ex:FuncId→Nat} (hx:ExS P ex) (hp:kY P pr) (hm:P.follows .mixedOrders=true) {m k n:Nat} {l:List (Nat×List AV)} {args:List AV} {v:AV} {h':Hp} (e:Qn P pr ex m k args (hpG n l)= .ok v h')
  (X:Nat→Prop) (w:World) (hX:∀b,X b→b<w.heap.size) (hT:∀p∈l,¬X p.1) (hn:n≤big5) (hw:Xo w n l) (vs:List Value) (hv:∀Φ,RvL Φ args vs):
  Calls P k vs.toArray w (Ret w fun x w'=>∃Φ τ,Rv Φ v x∧Rel Φ τ h' w'∧Out_ Φ h' X):=by
 obtain⟨_,_,s⟩:=(Cm hx hp hm m).run k args (hpG n l) _ e trivial
 have:=s (PhiG l) (TauG l) w vs (relG hn hw) (fun id i _=>if_neg (fun hh=>by
  obtain⟨p,hp,rfl⟩:=XM.1 hh;exact absurd (hw p hp).1 (Nat.not_lt.2 i))) (hv _)
 refine this.mono ?_;intro en w' hh;have hlab:∀g id,TauG l g= .own id→False:=by
  intro g id e;unfold TauG at e;split at e<;>cases e
 cases en with
 |returned x=>
  obtain⟨j,o,f,Φ',τ',hv,hr,t⟩:=hh;cases f;refine⟨⟨Φ',τ',hv,hr,?_⟩,⟨t.os,t.tape,t.output,t.size,fun g hg=>(t.keep g hg fun id e=>(hlab g id e).elim).1⟩⟩;intro id b en hid hb hen hxg;have hlt:=hX _ hxg;obtain⟨u,d,_,a,_⟩:=(hr.blk id b hid hb).at_;rw[hen] at d;cases d;have hk:=(t.keep en.g hlt fun id e=>(hlab en.g id e).elim).2;rw[hk] at a;have hro:TauG l en.g= .ro:=by
   split at a
   ·exact a
   ·exact(hlab _ _ a).elim
  unfold TauG at hro;split at hro
  ·rename_i hm;obtain⟨p,hp,r⟩:=XM.1 hm;exact hT p hp (by rw[r];exact hxg)
  ·cases hro
 |panicked ch=>obtain⟨j,o,f,_⟩:=hh;cases f
 |outgrown=>exact hh.elim
end Go.Ev
namespace Go.Ev
open Go Go.Wf
def fZ(g:GInt→Ou):List In→Option (List Ou)|[.z a]=>some [g a]|_=>none
def fZZ(g:GInt→GInt→Ou):List In→Option (List Ou)|[.z a,.z b]=>some [g a b]|_=>none
def fQ(g:GRat→Ou):List In→Option (List Ou)|[.q a]=>some [g a]|_=>none
def fQQ(g:GRat→GRat→Ou):List In→Option (List Ou)|[.q a,.q b]=>some [g a b]|_=>none
def i64B(n:Int):Bool:=match n with
 |.ofNat m=>Nat.ble m 9223372036854775807
 |.negSucc m=>Nat.ble m 9223372036854775807
def fN(g:Int→Ou):List In→Option (List Ou)|[.n a]=>bif i64B a then some [g a] else none|_=>none
def fDM:List In→Option (List Ou)|[.z a,.z b]=>bif Nat.beq (val b.mag) 0 then none else some [.z (a.toZ/b.toZ),.z (a.toZ%b.toZ),.n 0]|_=>none
def fEx:List In→Option (List Ou)|[.z a,.z b]=>bif Nat.beq (val b.mag) 0 then none else bif Nat.beq (Int.natAbs (a.toZ%b.toZ)) 0 then some [.z (a.toZ/b.toZ),.n 0] else none|_=>none
def oneB(a:GInt):Bool:=match a with
 |⟨false,[1]⟩=>true
 |_=>false
def fOv:List In→Option (List Ou)|[.z a,.z b]=>some [.q (Rat.divInt a.toZ b.toZ)]|_=>none
end Go.Ev
namespace Go.Ev
open Go Go.Wf Go.Proofs
section
variable {P:Program} {k:FuncId}
theorem conZ{g:GInt→Ou}(h:∀(X:Nat→Prop) (w:World) v a,(∀b,X b→b<w.heap.size)→RV Jo X w v a→a.mag.length≤64→Calls P k #[v] w (Ret w fun v w'=>OuR X w' (g a) v)):vd P k (fZ g):=by
 intro X w ins vs os hX hin e;unfold fZ at e;split at e
 ·cases e;obtain⟨v,u,rfl,⟨d,f⟩,rfl⟩:=hin;exact h X w v _ hX d f
 ·cases e
theorem A2{g:GInt→GInt→Ou}(h:∀(X:Nat→Prop) (w:World) v a d b,(∀b,X b→b<w.heap.size)→RV Jo X w v a→a.mag.length≤64→RV Jo X w d b→b.mag.length≤64→Calls P k #[v,d] w (Ret w fun v w'=>OuR X w' (g a b) v)):vd P k (fZZ g):=by
 intro X w ins vs os hX hin e;unfold fZZ at e;split at e
 ·cases e;obtain⟨v,u,rfl,⟨f,i⟩,d,m,rfl,⟨j,l⟩,rfl⟩:=hin;exact h X w v _ d _ hX f i j l
 ·cases e
theorem conQ{g:GRat→Ou}(h:∀(X:Nat→Prop) (w:World) v a,(∀b,X b→b<w.heap.size)→RV Jj X w v a→a.num.mag.length≤64→a.den.mag.length≤64→Calls P k #[v] w (Ret w fun v w'=>OuR X w' (g a) v)):vd P k (fQ g):=by
 intro X w ins vs os hX hin e;unfold fQ at e;split at e
 ·cases e;obtain⟨v,u,rfl,⟨d,f,i⟩,rfl⟩:=hin;exact h X w v _ hX d f i
 ·cases e
theorem xZ {g:GRat→GRat→Ou} (h:∀(X:Nat→Prop) (w:World) v a d b,(∀b,X b→b<w.heap.size)→RV Jj X w v a→a.num.mag.length≤64→a.den.mag.length≤64→RV Jj X w d b→b.num.mag.length≤64→b.den.mag.length≤64→
  Calls P k #[v,d] w (Ret w fun v w'=>OuR X w' (g a b) v)):vd P k (fQQ g):=by
 intro X w ins vs os hX hin e;unfold fQQ at e;split at e
 ·cases e;obtain⟨v,u,rfl,⟨f,i,j⟩,d,o,rfl,⟨l,m,n⟩,rfl⟩:=hin;exact h X w v _ d _ hX f i j l m n
 ·cases e
theorem Nf{n:Int}(h:i64B n=true): -9223372036854775808≤n∧n≤9223372036854775807:=by
 unfold i64B at h;split at h
 ·rename_i m
  have:=UW h
  have e:Int.ofNat m=(m:Int):=rfl;rw[e];constructor<;>omega
 ·rename_i m
  have:=UW h
  have e:Int.negSucc m= -(m:Int)-1:=by omega
  rw[e];constructor<;>omega
theorem conN{g:Int→Ou}(h:∀(X:Nat→Prop) (w:World) n,(∀b,X b→b<w.heap.size)→ -9223372036854775808≤n→n≤9223372036854775807→Calls P k #[.int .i64 n] w (Ret w fun v w'=>OuR X w' (g n) v)):vd P k (fN g):=by
 intro X w ins vs os hX hin e;unfold fN at e;split at e
 ·rename_i a;cases hb:i64B a with
  |false=>rw[hb] at e;cases e
  |true=>
   rw[hb] at e;cases e;obtain⟨v,u,rfl,rfl,rfl⟩:=hin;obtain⟨d,f⟩:=Nf hb;exact h X w a hX d f
 ·cases e
theorem TV{args:Array Value}{w:World}{φ ψ:Value→World→Prop}(c:Calls P k args w (Ret w φ))(h:∀v w',φ v w'→ψ v w'):Calls P k args w (Ret w ψ):=by
 refine Calls.mono c ?_;intro en w' hq;cases en with
 |returned v=>exact⟨h _ _ hq.1,hq.2⟩
 |panicked ch=>exact hq.elim
 |outgrown=>exact hq.elim
end
theorem HR:vd Tryz.prog 58 fDM:=by
 intro X w ins vs os hX hin e;unfold fDM at e;split at e
 ·rename_i a b;cases hb:Nat.beq (val b.mag) 0 with
  |true=>rw[hb] at e;cases e
  |false=>
   rw[hb] at e;cases e;obtain⟨v,u,rfl,⟨f,l⟩,d,m,rfl,⟨g,n⟩,rfl⟩:=hin;refine TV (Q3 hX f g (by omega) (by omega) (fun hh=>by rw[hh] at hb;cases hb)) ?_;rintro v w' ⟨h,d,o,rfl,i,j,rfl⟩;exact⟨[h,d,_],rfl,_,_,rfl,i,_,_,rfl,j,_,_,rfl,rfl,rfl⟩
 ·cases e
theorem ME:vd Tryz.prog 145 fEx:=by
 intro X w ins vs os hX hin e;unfold fEx at e;split at e
 ·rename_i a b;cases hb:Nat.beq (val b.mag) 0 with
  |true=>rw[hb] at e;cases e
  |false=>
   rw[hb] at e;simp only[cond_false] at e;cases hm:Nat.beq (Int.natAbs (a.toZ%b.toZ)) 0 with
   |false=>rw[hm] at e;cases e
   |true=>
    rw[hm] at e;cases e;have hm:=YT hm;obtain⟨v,u,rfl,⟨d,j⟩,f,l,rfl,⟨g,m⟩,rfl⟩:=hin;refine TV (jb hX d g (by omega) (by omega) (fun hh=>by rw[hh] at hb;cases hb) (by omega)) ?_;rintro v w' ⟨h,f,rfl,i,rfl⟩;exact⟨[h,_],rfl,_,_,rfl,i,_,_,rfl,rfl,rfl⟩
 ·cases e
theorem LC:vd Tryz.prog 96 fOv:=by
 intro X w ins vs os hX hin e;unfold fOv at e;split at e
 ·cases e;obtain⟨v,u,rfl,⟨a,d⟩,f,g,rfl,⟨b,h⟩,rfl⟩:=hin;exact gU hX a b (by omega) (by omega)
 ·cases e
theorem Mg(a:GInt):oneB a=decide (a=ofZ 1):=by
 unfold oneB;split
 ·exact(decide_eq_true rfl).symm
 ·rename_i h
  refine(decide_eq_false fun e=>?_).symm
  exact h e
def T0:PrL:=[
 (143,prF [.z] (fZ fun a=> .z a.toZ)),
 (59,prF [.z] (fZ fun a=> .n a.toZ.sign)),
 (144,prF [.z] (fZ fun a=> .z (-a.toZ))),
 (528,prF [.z] (fZ fun a=> .z (a.toZ.natAbs:Int))),
 (189,prF [.z,.z] (fZZ fun a b=> .z (a.toZ+b.toZ))),
 (276,prF [.z,.z] (fZZ fun a b=> .z (a.toZ-b.toZ))),
 (116,prF [.z,.z] (fZZ fun a b=> .z (a.toZ*b.toZ))),
 (58,prF [.z,.z] (fDM)),
 (145,prF [.z,.z] (fEx)),
 (45,prF [.z,.z] (fZZ fun a b=> .z (Int.gcd a.toZ b.toZ:Int))),
 (44,prF [.n] (fN fun n=> .z n)),
 (82,prF [.z] (fZ fun a=> .b (oneB a))),
 (96,prF [.z,.z] (fOv)),
 (56,prF [.q] (fQ fun a=> .q a.q)),
 (243,prF [.q] (fQ fun a=> .q (-a.q))),
 (142,prF [.q] (fQ fun a=> .n (io a.q))),
 (135,prF [.q,.q] (fQQ fun a b=> .q (a.q+b.q))),
 (236,prF [.q,.q] (fQQ fun a b=> .q (a.q-b.q))),
 (326,prF [.q,.q] (fQQ fun a b=> .n (qcmp a.q b.q))),
 (97,prF [.n] (fN fun n=> .q (Rat.divInt n 1)))]
theorem Nv:∀e∈T0,re Tryz.prog e.1 e.2:=by
 unfold T0;simp only[WR];exact⟨Xk wI (conZ fun _ _ _ _ hX r l=>yp hX r (by omega)),
  Xk cb59 (conZ fun _ _ _ _ hX r l=>z9 hX r (by omega)),
  Xk zJ (conZ fun _ _ _ _ hX r l=>nX hX r (by omega)),
  Xk PE (conZ fun _ _ _ _ hX r l=>KG hX r (by omega)),
  Xk wS (A2 fun _ _ _ _ _ _ hX r l s m=>n9 hX r s (by omega) (by omega)),
  Xk NR (A2 fun _ _ _ _ _ _ hX r l s m=>Lc hX r s (by omega) (by omega)),
  Xk h4 (A2 fun _ _ _ _ _ _ hX r l s m=>jr hX r s (by omega) (by omega)),
  Xk cb58 (HR),
  Xk sF (ME),
  Xk cb45 (A2 fun _ _ _ _ _ _ hX r l s m=>vD hX r s (by omega) (by omega)),
  Xk cb44 (conN fun _ _ _ hX a b=>xv hX a b),
  Xk cb82 (conZ fun _ _ _ _ hX r l=>TV (m6 hX r) fun v w' e=>e.trans (by rw[Mg])),
  Xk cb96 (LC),
  Xk cb56 (conQ fun _ _ _ _ hX r l m=>Xj hX r (by omega) (by omega)),
  Xk HX (conQ fun _ _ _ _ hX r l m=>B7 hX r (by omega) (by omega)),
  Xk GC (conQ fun _ _ _ _ hX r l m=>mK hX r (by omega) (by omega)),
  Xk GV (xZ fun _ _ _ _ _ _ hX r l m s o p=>sG hX r s (by omega) (by omega) (by omega) (by omega)),
  Xk LJ (xZ fun _ _ _ _ _ _ hX r l m s o p=>CO hX r s (by omega) (by omega) (by omega) (by omega)),
  Xk QQ (xZ fun _ _ _ _ _ _ hX r l m s o p=>LB hX r s (by omega) (by omega) (by omega) (by omega)),
  Xk cb97 (conN fun _ _ _ hX a b=>E5 hX a b),fun _ h=>by cases h⟩
end Go.Ev
namespace Go.Ev
open Go Go.Wf Go.RowKit
theorem exS0{P:Program}:ExS P (fun _=>0):=fun _ h=>absurd rfl h
section
variable {fc:Fence} [Fw fc] {P:Program} {call:CallF} {n:Nat}
end
def rdSc(h:Hp):List AV→Option (List GSer)
 |[]=>some []
 |.i .i64 f::x::r=>(match rdQs h x,rdSc h r with|some l,some k=>some (⟨f,l⟩::k)|_,_=>none)
 |_=>none
def rdSs(h:Hp)(a:AV):Option (List GSer):=match a with
 |.ns=>some []
 |.z0=>some []
 |.sl id off n z _=>bif Nat.beq z 2 then getB h id (fun b=>bif Nat.ble (Nat.add off (Nat.mul n 2)) (len b.cs) then rdSc h (tk (dr b.cs off) (Nat.mul n 2)) else none) none else none
 |_=>none
def eqIs:List GRat→List Int→Bool
 |[],[]=>true
 |g::r,z::s=>eqZ g.num z&&eqZ g.den 1&&eqIs r s
 |_,_=>false
def smI:Int→Bool
 |.ofNat m=>Nat.ble m 9223372036854775807
 |.negSucc m=>Nat.ble m 9223372036854775807
def eqSs:List GSer→List (Int×List Int)→Bool
 |[],[]=>true
 |g::r,z::s=>(match z.1 with | .ofNat n=>(match g.fr with | .ofNat m=>Nat.beq m n|_=>false) | .negSucc n=>(match g.fr with | .negSucc m=>Nat.beq m n|_=>false))&&smI z.1&&eqIs g.cs z.2&&eqSs r s
 |_,_=>false
def Jq(r:Res)(l:List (Int×List Int)):Bool:=match r with
 |.ok v h=>(match rdSs h v with|some gs=>eqSs gs l|none=>false)
 |_=>false
def zQ(z:Int):GRat:=⟨ofZ z,ofZ 1⟩
def serI(p:Int×List Int):GSer:=⟨p.1,p.2.map zQ⟩
theorem CB:∀ {gs:List GRat} {l:List Int},eqIs gs l=true→gs=l.map zQ:=by
 intro gs
 induction gs with
 |nil=>intro l h;cases l with
  |nil=>rfl
  |cons q l=>cases h
 |cons g gs ih=>
  intro l h;cases l with
  |nil=>cases h
  |cons q l=>
   unfold eqIs at h;obtain⟨h,f⟩:=Za h;obtain⟨i,j⟩:=Za h;have d:=wJ i;have e:=wJ j;rw[ih f];cases g with
   |mk a b=>
    have d:a=_:=d;have e:b=_:=e;subst d e
    rfl
theorem JM:∀ {gs:List GSer} {l:List (Int×List Int)},eqSs gs l=true→gs=l.map serI∧∀g∈gs,-9223372036854775808≤g.fr∧g.fr≤9223372036854775807:=by
 intro gs
 induction gs with
 |nil=>intro l h;cases l with
  |nil=>exact⟨rfl,fun _ h=>by simp at h⟩
  |cons q l=>cases h
 |cons g gs ih=>
  intro l h;cases l with
  |nil=>cases h
  |cons q l=>
   unfold eqSs at h;obtain⟨h,k⟩:=Za h;obtain⟨h,o⟩:=Za h;obtain⟨d,f⟩:=Za h;have j:=CB o;obtain⟨p,r⟩:=ih k;have i:g.fr=q.1:=by
    split at d
    ·rename_i n hn;split at d
     ·rename_i m hm;rw[hm,hn,YT d]
     ·cases d
    ·rename_i n hn;split at d
     ·rename_i m hm;rw[hm,hn,YT d]
     ·cases d
   refine⟨?_,fun x hx=>?_⟩
   ·rw[p];cases g with
    |mk a b=>
     have i:a=_:=i;have j:b=_:=j;subst i j
     rfl
   ·rcases XF.1 hx with rfl|hx
    ·rw[i];unfold smI at f;split at f
     ·rename_i m hm;rw[hm];have:=UW f;have e:Int.ofNat m=(m:Int):=rfl;rw[e];omega
     ·rename_i m hm;rw[hm];have:=UW f;have e:Int.negSucc m= -(m:Int)-1:=by omega
      rw[e];omega
    ·exact r x hx
section
variable {Φ:Phi} {τ:Tau} {h h':Hp} {w w':World} {X:Nat→Prop}
theorem Cg(r:Rel Φ τ h w)(hO:Out_ Φ h X):∀ {cs:List AV} {vs:List Value} {gs:List GSer},RvL Φ cs vs→rdSc h cs=some gs→(∀g∈gs,-9223372036854775808≤g.fr∧g.fr≤9223372036854775807)→
  gs.length*2=cs.length∧∀(i:Nat) g,gs[i]? =some g→∃us,Zu.rd X w us g∧∀(j:Nat) u,us[j]? =some u→vs[i*2+j]? =some u
 |[],vs,gs,hv,e,_=>by
  unfold rdSc at e;cases e;exact⟨rfl,fun i g hi=>by simp at hi⟩
 |.i .i64 f::x::cs,vs,gs,hv,e,hb=>by
  unfold rdSc at e;cases hx:rdQs h x with
  |none=>rw[hx] at e;cases e
  |some l=>
   cases hc:rdSc h cs with
   |none=>rw[hx,hc] at e;cases e
   |some k=>
    rw[hx,hc] at e;cases e;simp only[RvL,Rv] at hv;obtain⟨o,p,rfl,rfl,b,s,rfl,d,hv⟩:=hv;obtain⟨v,m⟩:=Cg r hO hv hc fun g hg=>hb g (.tail _ hg);refine⟨by simp only[Uw];omega,fun i g hi=>?_⟩
    cases i with
    |zero=>
     cases hi;have a:=hb _ (.head _);refine⟨[.int .i64 f,b],⟨b,rfl,a.1,a.2,CU r hO d hx⟩,fun j u hj=>?_⟩
     match j with
     |0=>cases hj;rfl
     |1=>cases hj;rfl
     |j+2=>simp at hj
    |succ i=>
     obtain⟨us,n,u2⟩:=m i g (by simpa using hi);refine⟨us,n,fun j u hj=>?_⟩
     rw[show(i+1)*2+j=i*2+j+2 by omega];exact u2 j u hj
theorem Nh{a:AV}{v:Value}{gs:List GSer}(r:Rel Φ τ h w)(hO:Out_ Φ h X)(hv:Rv Φ a v)(e:rdSs h a=some gs)(hbd:∀g∈gs,-9223372036854775808≤g.fr∧g.fr≤9223372036854775807):RS Zu X w v gs:=by
 unfold rdSs at e;split at e
 ·cases e;simp only[Rv] at hv;exact⟨none,0,hv,UM _,UN _,.inl rfl⟩
 ·cases e;simp only[Rv] at hv;obtain⟨p,c,hv,hc⟩:=hv;exact⟨p,c,hv,UN _,hc,.inl rfl⟩
 ·rename_i id off n z cap;cases hz:Nat.beq z 2 with
  |false=>rw[hz] at e;cases e
  |true=>
   rw[hz] at e;have l:=YT hz;subst l;simp only[cond_true] at e;rcases gX (h:=h) (id:=id) (k:=fun b=>bif Nat.ble (Nat.add off (Nat.mul n 2)) (len b.cs) then rdSc h (tk (dr b.cs off) (Nat.mul n 2)) else none) (no:=none) with ⟨b,m,o,s,d⟩|d
   ·rw[d] at e;cases hq:Nat.ble (Nat.add off (Nat.mul n 2)) (len b.cs) with
    |false=>rw[hq] at e;cases e
    |true=>
     rw[hq] at e;have f:=UW hq;rw[Y4] at f;have f:off+n*2≤b.cs.length:=f;simp only[cond_true] at e;rw[ly,V6] at e;have e:rdSc h ((b.cs.drop off).take (n*2))=some gs:=e;obtain⟨en,c,hen,hvv,y,A,H,_⟩:=hv.slI;obtain⟨en',C,T,br⟩:=(r.blk id b m o).row s
     have:=br.ent
     rw[hen] at this;cases this;obtain⟨vs,I,B,D⟩:=br.cells off (n*2) (by rw[UG];omega);obtain⟨E,F⟩:=Cg r hO B e hbd;have hl:gs.length=n:=by rw[UH,UG] at E;omega
     refine⟨_,c,by rw[hl];exact hvv,by rw[hl];exact y,A,.inr ⟨en.g,en.base+off,rfl,hO id b en m o hen,?_⟩⟩;intro i x hi;obtain⟨us,G,u2⟩:=F i x hi;refine⟨us,G,fun j u hj=>?_⟩
     have:=D _ _ (u2 j u hj)
     have hs:Zu.sz=2:=rfl;rw[hs,YD (en.base+off)];exact this
   ·rw[d] at e;cases e
 ·cases e
end
theorem AZ {P:Program} {pr:Prim} {ex:FuncId→Nat} (hx:ExS P ex) (hp:kY P pr) (hm:P.follows .mixedOrders=true) {m k n:Nat} {l:List (Nat×List AV)} {args:List AV} {qs:List (Int×List Int)} (e:Jq (Qn P pr ex m k args (hpG n l)) qs=true)
  (X:Nat→Prop) (w:World) (hX:∀b,X b→b<w.heap.size) (hT:∀p∈l,¬X p.1) (hn:n≤big5) (hw:Xo w n l) (vs:List Value) (hv:∀Φ,RvL Φ args vs):
  Calls P k vs.toArray w (Ret w fun x w'=>RS Zu X w' x (qs.map serI)):=by
 unfold Jq at e;split at e
 ·rename_i v h' he;split at e
  ·rename_i gs hg;obtain⟨a,d⟩:=JM e
   refine(nW hx hp hm he X w hX hT hn hw vs hv).mono ?_
   intro en w' hh;cases en with
   |returned x=>
    obtain⟨⟨Φ,τ,f,g,i⟩,hb⟩:=hh;exact⟨by rw[←a];exact Nh g i f hg d,hb⟩
   |panicked ch=>exact hh.elim
   |outgrown=>exact hh.elim
  ·cases e
 ·cases e
def Ya(r:Res)(f:Int)(l:List Int):Bool:=match r with
 |.ok (.tp [.ag [.i .i64 g,x],.i .i64 z]) h=>(match rdQs h x with|some gs=>(match f with | .ofNat n=>(match g with | .ofNat m=>Nat.beq m n|_=>false) | .negSucc _=>false)&&(match z with | .ofNat n=>Nat.beq n 0|_=>false)&&eqIs gs l|none=>false)
 |_=>false
theorem Dw(z:Int):zQ z=ofQ (z:Rat):=by unfold zQ ofQ;rw[Jap,Jam];rfl
theorem HC(l:List Int):l.map zQ=(zR l).map ofQ:=by unfold zR;rw[XD];exact XC fun z _=>Dw z
theorem oP {P:Program} {pr:Prim} {ex:FuncId→Nat} (hx:ExS P ex) (hp:kY P pr) (hm:P.follows .mixedOrders=true) {m k n:Nat} {l:List (Nat×List AV)} {args:List AV} {f:Int} {zs:List Int} (e:Ya (Qn P pr ex m k args (hpG n l)) f zs=true)
  (X:Nat→Prop) (w:World) (hX:∀b,X b→b<w.heap.size) (hT:∀p∈l,¬X p.1) (hn:n≤big5) (hw:Xo w n l) (vs:List Value) (hv:∀Φ,RvL Φ args vs):
  Calls P k vs.toArray w (Ret w fun x w'=>PoR X w' [.se f zs,.n 0] x):=by
 unfold Ya at e;split at e
 ·rename_i g x z h' he;split at e
  ·rename_i gs hg;obtain⟨e,j⟩:=Za e;obtain⟨a,d⟩:=Za e
   refine(nW hx hp hm he X w hX hT hn hw vs hv).mono ?_
   intro en w' hh;cases en with
   |returned y=>
    obtain⟨⟨Φ,τ,i,o,r⟩,hb⟩:=hh;refine⟨?_,hb⟩;simp only[Rv,RvL] at i;obtain⟨_,rfl,_,_,rfl,⟨_,rfl,_,_,rfl,rfl,u,_,rfl,hu,rfl⟩,_,_,rfl,rfl,rfl⟩:=i;have eg:g=f:=by
     split at a
     ·split at a
      ·rw[YT a]
      ·cases a
     ·cases a
    have ez:z=0:=by
     split at d
     ·rw[YT d];rfl
     ·cases d
    subst eg ez;refine⟨[_,_],rfl,_,_,rfl,⟨u,rfl,?_⟩,_,_,rfl,rfl,rfl⟩;rw[←HC,←CB j];exact CU o r hu hg
   |panicked ch=>exact hh.elim
   |outgrown=>exact hh.elim
  ·cases e
 ·cases e
end Go.Ev
namespace Go.Ev
open Go Go.Wf Go.Proofs
def vc:List AV:=[.i .u8 (Int.ofNat 0),.i .u8 (Int.ofNat 1),.i .u8 (Int.ofNat 56),.i .u8 (Int.ofNat 2),.i .u8 (Int.ofNat 57),.i .u8 (Int.ofNat 49),.i .u8 (Int.ofNat 28),.i .u8 (Int.ofNat 3),.i .u8 (Int.ofNat 61),.i .u8 (Int.ofNat 58),.i .u8 (Int.ofNat 42),.i .u8 (Int.ofNat 50),.i .u8 (Int.ofNat 38),.i .u8 (Int.ofNat 29),.i .u8 (Int.ofNat 17),.i .u8 (Int.ofNat 4),.i .u8 (Int.ofNat 62),.i .u8 (Int.ofNat 47),.i .u8 (Int.ofNat 59),.i .u8 (Int.ofNat 36),.i .u8 (Int.ofNat 45),.i .u8 (Int.ofNat 43),.i .u8 (Int.ofNat 51),.i .u8 (Int.ofNat 22),.i .u8 (Int.ofNat 53),.i .u8 (Int.ofNat 39),.i .u8 (Int.ofNat 33),.i .u8 (Int.ofNat 30),.i .u8 (Int.ofNat 24),.i .u8 (Int.ofNat 18),.i .u8 (Int.ofNat 12),.i .u8 (Int.ofNat 5),.i .u8 (Int.ofNat 63),.i .u8 (Int.ofNat 55),.i .u8 (Int.ofNat 48),.i .u8 (Int.ofNat 27),.i .u8 (Int.ofNat 60),.i .u8 (Int.ofNat 41),.i .u8 (Int.ofNat 37),.i .u8 (Int.ofNat 16),.i .u8 (Int.ofNat 46),.i .u8 (Int.ofNat 35),.i .u8 (Int.ofNat 44),.i .u8 (Int.ofNat 21),.i .u8 (Int.ofNat 52),.i .u8 (Int.ofNat 32),.i .u8 (Int.ofNat 23),.i .u8 (Int.ofNat 11),.i .u8 (Int.ofNat 54),.i .u8 (Int.ofNat 26),.i .u8 (Int.ofNat 40),.i .u8 (Int.ofNat 15),.i .u8 (Int.ofNat 34),.i .u8 (Int.ofNat 20),.i .u8 (Int.ofNat 31),.i .u8 (Int.ofNat 10),.i .u8 (Int.ofNat 25),.i .u8 (Int.ofNat 14),.i .u8 (Int.ofNat 19),.i .u8 (Int.ofNat 9),.i .u8 (Int.ofNat 13),.i .u8 (Int.ofNat 8),.i .u8 (Int.ofNat 7),.i .u8 (Int.ofNat 6)]
abbrev Vx:List (Nat×List AV):=[(1,vc)]
theorem rX:∀p∈Vx,allI p.2=true:=by
 intro p hp;obtain rfl:p=(1,vc):=by simpa using hp
 rfl
def milT:List (List (List Int)):=[
 [[1,0,0,0,0,0]],
 [],
 [[1,240,2160,6720,17520,30240]],
 [[1,-504,-16632,-122976,-532728,-1575504]],
 [[1,480,61920,1050240,7926240,37500480]],
 [[1,-264,-135432,-5196576,-69341448,-515625264]],
 [[1,0,196560,16773120,398034000,4629381120],[0,1,-24,252,-1472,4830]],
 [[1,-24,-196632,-38263776,-1610809368,-29296875024]],
 [[1,0,146880,64757760,4844836800,137695887360],[0,1,216,-3348,13888,52110]],
 [[1,0,-86184,-84575232,-11250890280,-499641053184],[0,1,-528,-4284,147712,-1025850]],
 [[1,0,39600,87859200,20779902000,1441891123200],[0,1,456,50652,-316352,-2377410]],
 [[1,0,-14904,-74330112,-31251675960,-3388310175744],[0,1,-288,-128844,-2014208,21640950]],
 [[1,0,0,52416000,39007332000,6609020221440],[0,1,0,195660,12080128,44656110],[0,0,1,-48,1080,-15040]],
 [[1,0,-1224,-30907392,-41070567240,-10871288008704],[0,1,-48,-195804,-33552128,-741989850]],
 [[1,0,0,15590400,36957286800,15284192071680],[0,1,0,151740,61032448,3331201950],[0,0,1,192,-8280,147200]],
 [[1,0,0,-6874560,-28746831960,-18577497464064],[0,1,0,-99180,-82300928,-9240014250],[0,0,1,-552,8640,116000]],
 [[1,0,0,2611200,19524758400,19715347537920],[0,1,0,50220,87866368,18647219790],[0,0,1,432,39960,-1418560]],
 [[1,0,0,-880320,-11679270120,-18426376813824],[0,1,0,-22140,-76894208,-29447408250],[0,0,1,-312,-121680,1004000]],
 [[1,0,0,0,6218175600,15281788354560],[0,1,0,0,57093088,37927345230],[0,0,1,0,194184,7442432],[0,0,0,1,-72,2484]],
 [[1,0,0,-70080,-2939804280,-11323698787584],[0,1,0,-2700,-35545088,-41021887050],[0,0,1,-72,-194400,-28866400]],
 [[1,0,0,0,1250172000,7541401190400],[0,1,0,0,19291168,37956369150],[0,0,1,0,156024,57085952],[0,0,0,1,168,-12636]],
 [[1,0,0,0,-484694280,-4538245791744],[0,1,0,0,-9436928,-30492794250],[0,0,1,0,-112752,-79390720],[0,0,0,1,-576,22140]],
 [[1,0,0,0,168498000,2480127344640],[0,1,0,0,3953248,21551594670],[0,0,1,0,60264,87375872],[0,0,0,1,408,29844]],
 [[1,0,0,0,-53890200,-1236281647104],[0,1,0,0,-1515968,-13527797850],[0,0,1,0,-29952,-79098880],[0,0,0,1,-336,-113940]],
 [[1,0,0,0,0,565866362880],[0,1,0,0,0,7651069278],[0,0,1,0,0,61726976],[0,0,0,1,0,192132],[0,0,0,0,1,-96]],
 [[1,0,0,0,-4225320,-236820824064],[0,1,0,0,-161408,-3852023850],[0,0,1,0,-4752,-40099840],[0,0,0,1,-96,-192420]],
 [[1,0,0,0,0,91508901120],[0,1,0,0,0,1764223758],[0,0,1,0,0,23086976],[0,0,0,1,0,159732],[0,0,0,0,1,144]],
 [[1,0,0,0,0,-32968482624],[0,1,0,0,0,-749581050],[0,0,1,0,0,-12332800],[0,0,0,1,0,-126900],[0,0,0,0,1,-600]],
 [[1,0,0,0,0,10888335360],[0,1,0,0,0,284181438],[0,0,1,0,0,5528576],[0,0,0,1,0,69732],[0,0,0,0,1,384]],
 [[1,0,0,0,0,-3376344384],[0,1,0,0,0,-101078730],[0,0,1,0,0,-2346880],[0,0,0,1,0,-38340],[0,0,0,0,1,-360]],
 [[1,0,0,0,0,0],[0,1,0,0,0,0],[0,0,1,0,0,0],[0,0,0,1,0,0],[0,0,0,0,1,0],[0,0,0,0,0,1]]]
def milR(k:Nat):List (List Int):=milT.getD (k/2) []
def cutR(n:Nat):Nat→List (List Int)→List (Int×List Int)
 |_,[]=>[]
 |i,r::l=>(Int.ofNat (min i n),(r.take n).drop i)::cutR n (i+1) l
def milC(k n:Nat):List (Int×List Int):=cutR n 0 (milR k)
def TA:PrL:=(136,prF [.q,.q] (fQQ fun a b=> .q (a.q*b.q)))::(239,prF [.z] (fZ fun a=> .q (Rat.divInt a.toZ 1)))::T0
theorem xR:∀e∈TA,re Tryz.prog e.1 e.2:=by
 unfold TA;rw[WR,WR];exact⟨Xk Ek (xZ fun _ _ _ _ _ _ hX r l m s o p=>tJ hX r s (by omega) (by omega) (by omega) (by omega)),Xk Po (conZ fun _ _ _ _ hX r l=>yZ hX r (by omega)),Nv⟩
abbrev eisR(k p:Nat):Res:=Qn Tryz.prog (prL TA) (fun _=>0) 100 138 [.i .i64 (Int.ofNat k),.i .i64 (Int.ofNat p)] (hpG 2 Vx)
abbrev delR(p:Nat):Res:=Qn Tryz.prog (prL TA) (fun _=>0) 100 139 [.i .i64 (Int.ofNat p)] (hpG 2 Vx)
def eisT(k:Nat):List Int:=bif Nat.beq k 4 then [1,240,2160,6720,17520,30240] else bif Nat.beq k 6 then [1,-504,-16632,-122976,-532728,-1575504] else bif Nat.beq k 8 then [1,480,61920,1050240,7926240,37500480] else bif Nat.beq k 10 then [1,-264,-135432,-5196576,-69341448,-515625264] else [1,-24,-196632,-38263776,-1610809368,-29296875024]
def eisC(k p:Nat):List Int:=(eisT k).take p
def delC(p:Nat):List Int:=([1,-24,252,-1472,4830]:List Int).take (p-1)
def eisL:List (Nat×Nat):=[(4,1),(6,1),(8,1),(10,1),(14,1),(4,2),(6,2),(8,2),(10,2),(14,2),(4,3),(6,3),(8,3),(10,3),(14,3),(4,4),(6,4),(8,4),(10,4),(14,4),(4,5),(6,5),(8,5),(10,5),(14,5),(4,6),(6,6),(8,6),(10,6),(14,6)]
end Go.Ev
