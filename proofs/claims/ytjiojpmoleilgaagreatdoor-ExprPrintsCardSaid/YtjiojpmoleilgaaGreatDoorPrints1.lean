/- Part 1 of the texts for the claim. -/
import Derived.Test.YtjiojpmoleilgaaGreatDoorRows
import Derived.ProofKit
import Derived.Lay
import Derived.Carry
import Derived.LaidMore
import Derived.OpenShut
import Derived.MakeChecks
import Derived.SevenTiedAt
import Derived.Lib.LaidU8
import Derived.Lib.SmallJoins
import Derived.KernelRfl
import Derived.Test.YtjiojpmoleilgaaGreatDoorProg
import Derived.JoinedOf
import Derived.WalkKit
import Derived.OrdersIn
import Derived.Scope
import Derived.Orders
import Derived.Lib.Hide
import Derived.Laws.AppendOwnNone
import Derived.Lib.SliceRun
import Derived.Laws.Externs
import Derived.Lib.Bytealg
import Derived.ChangeSlices
import Derived.Deep.Slices
import Derived.Laws.RangeString
import Derived.Laws.RangeAny
import Derived.Lib.ConvBytes
import Derived.Laws.IdiomStrings
import Derived.Lib.LaidTab
import Derived.Laws.BytesString
import Derived.Shelf.Strings.OnBuilder
import Derived.Shelf.LaysM
import Derived.Shelf.Strconv.Itoa3
import Derived.Shelf.SlicesE.Reverse
import Derived.Lib.OwnBridge
import Derived.Lib.Builder
import Derived.Lib.UnsafeStr
import Derived.Lib.MakeNoZero
import Derived.Recover
import Derived.RangeFuncLeaves
import Derived.Lib.Join
import Derived.Lib.ItoaLen
import Derived.ChangeMaps5
import Derived.Test.YtjiojpmoleilgaaGreatDoorCards
import Derived.Test.YtjiojpmoleilgaaGreatDoorTie
set_option linter.unusedVariables false
set_option linter.unusedSimpArgs false
set_option maxRecDepth 100000
set_option maxHeartbeats 4000000
noncomputable section
namespace Go
abbrev J8z:=@List.length_append
abbrev J80:=@List.length_cons
abbrev J81:=@List.length_nil
abbrev J82:=@List.length_singleton
abbrev J83:=@decide_eq_false
abbrev J84:=@decide_eq_true
abbrev J85:=@Nat.lt_of_lt_of_le
abbrev J86:=@Nat.le_trans
abbrev J87:=@congrArg
abbrev J88:=@List.length_replicate
abbrev J89:=@List.append_assoc
abbrev J9a:=@List.length_drop
abbrev J9b:=@List.length_take
abbrev J9c:=@Nat.mod_lt
abbrev J9d:=@List.getD_eq_getElem?_getD
abbrev J9e:=@Array.getD_eq_getD_getElem?
abbrev J9f:=@List.getElem?_eq_getElem
abbrev J9g:=@Nat.le_refl
abbrev J9h:=@Nat.zero_le
abbrev J9i:=@IntWalk.u64_in
abbrev J9j:=@IntWalk.i64_in
abbrev J9k:=@Ne.symm
abbrev J9l:=@Array.getElem?_setIfInBounds
abbrev J9m:=@Nat.not_lt_zero
abbrev J9n:=@List.eq_nil_of_length_eq_zero
abbrev J9o:=@List.take_of_length_le
abbrev J9p:=@Nat.pow_succ
abbrev J9q:=@Nat.le_of_ble_eq_true
abbrev J9r:=@Nat.mul_add
abbrev J9s:=@List.drop_of_length_le
abbrev J9t:=@List.nil_append
abbrev J9u:=@List.getD_cons_zero
abbrev J9v:=@Nat.pow_le_pow_right
abbrev J9w:=@Nat.lt_or_ge
abbrev J9x:=@Nat.mul_assoc
abbrev J9y:=@Nat.mul_le_mul_left
abbrev J9z:=@List.getElem?_eq_none
abbrev J90:=@Nat.mul_comm
abbrev J91:=@Nat.lt_of_le_of_lt
abbrev J92:=@List.append_nil
abbrev J93:=@List.map_cons
abbrev J94:=@List.getElem?_map
end Go
namespace Go.Proofs.YtjiojpmoleilgaaGreatDoor
open Go Go.Proofs Go.RowKit
def ya:List (String × DataW Unit):=Rows.exprOrderRow.laid
theorem own52:ownKnob Tryz.prog.godebug=none:=by kernel_rfl
theorem Jir:laidOutB Tryz.prog=true:=by kernel_rfl
theorem wZip(os:Os)(args:Array Value):((World.laidAll Tryz.prog os ya).forCall (fun _ _=>0) ⟨#[],args,[]⟩).variablesZipB Tryz.prog=true:=by kernel_rfl
theorem wRest(os:Os)(args:Array Value):(((World.laidAll Tryz.prog os ya).forCall (fun _ _=>0) ⟨#[],args,[]⟩).heap.toList.drop Tryz.prog.globals.size).take ((begin Tryz.prog (fun _ _=>0) default).world.heap.size - Tryz.prog.globals.size)=(begin Tryz.prog (fun _ _=>0) default).world.heap.toList.drop Tryz.prog.globals.size:=by kernel_rfl
theorem wFits(os:Os):(World.holding Tryz.prog os ⟨#[],#[],[]⟩).layFits Tryz.prog ya []=true:=by kernel_rfl
theorem Jup(os:Os):(World.holding Tryz.prog os ⟨#[],#[],[]⟩).layIfaces Tryz.prog ya (World.laidAll Tryz.prog os ya)=true:=by kernel_rfl
theorem Jqr:(ya.all fun x=>x.2.handleName?.isNone)=true:=by kernel_rfl
theorem Jxz:Tryz.prog.readableRec 31=true:=by kernel_rfl
theorem lt31:31 < Tryz.prog.types.size:=of_decide_eq_true (by kernel_rfl)
theorem lt9:9 < Tryz.prog.types.size:=of_decide_eq_true (by kernel_rfl)
end Go.Proofs.YtjiojpmoleilgaaGreatDoor
namespace Go.Proofs.YtjiojpmoleilgaaGreatDoor
open Go Go.Proofs
theorem Jxo:joinedFacts Tryz.prog 4 Tryz.f4 Rows.exprPrintsSpec Rows.exprPrintsRow=true:=by kernel_rfl
end Go.Proofs.YtjiojpmoleilgaaGreatDoor
namespace Go.Wf
open Go
abbrev Fr:=Nat→Value
def fe(f:Fr):Operand→Value
 | .tmp t=>f t
 | .const v=>v
 | .global g=> .pointer (some ⟨g,0,none⟩)
 | .func k=> .func (.func k) #[] #[]
def upd(f:Fr)(d:Nat)(v:Value):Fr:=fun t=>if t=d then v else f t
def updO(f:Fr)(o:Option Tmp)(v:Value):Fr:=match o with | some d=>upd f d v | none=>f
def frOf(a:Act):Fr:=fun t=>a.tmps.getD t undef
def lo(n:Nat)(o:Option Tmp):Prop:=match o with | some d=>d < n | none=>True
structure Good (n:Nat) (D:List Deferred) (a:Act):Prop where
 size:a.tmps.size=n
 defers:a.defers=D
theorem vu(a:Act):a.eval=fe (frOf a):=by
 funext x;cases x <;> rfl
theorem Yg{n:Nat}{D:List Deferred}{a:Act}(h:Good n D a)(o:Option Tmp)(ho:lo n o)(v:Value):frOf (a.put o v)=updO (frOf a) o v:=by
 cases o with
 | none=>rfl
 | some d=>
  have hd:d < a.tmps.size:=by rw [h.size];exact ho
  funext t
  simp only [frOf,Act.put,updO,upd,J9e,J9l]
  by_cases e:t=d
  ·subst e;simp [hd]
  ·have e':¬ d=t:=fun h=>e h.symm;simp [e,e']
theorem Good.put{n:Nat}{D:List Deferred}{a:Act}(h:Good n D a)(o:Option Tmp)(v:Value):Good n D (a.put o v):=by
 cases o with
 | none=>exact h
 | some d=>exact⟨by simp [Act.put,h.size],h.defers⟩
abbrev Post:=Exit→Fr→World→Prop
class Fw (fc:Fence):Prop where
 fn:∀ f,fc.fn f
 depth:fc.depth=none
 calls:∀ {n:Nat} {P:Program} {f:FuncId} {args:Array Value} {w:World} {R:Ending→World→Prop},Calls P f args w R→CallsIn fc n P f args w R
 round:∀ {n:Nat} {P:Program} {l:Nat} {f:FuncId} {tmps:Array Value} {a b:Code} {w:World} {R:Ending→World→Prop},RoundIn Fence.wide n P l f tmps a b w R→RoundIn fc n P l f tmps a b w R
instance:Fw Fence.wide:=⟨fun _=>trivial,rfl,fun h=>callsIn_wide.2 h,fun h=>h⟩
instance (l:Nat):Fw (Fence.wide.inRound l):=⟨fun _=>trivial,rfl,fun h=>(callsIn_wide.2 h:CallsIn Fence.wide _ _ _ _ _ _),fun h=>h⟩
def W(fc:Fence)(P:Program)(c:Code)(n:Nat)(D:List Deferred)(Q:Post)(f:Fr)(w:World):Prop:=
 ∀ a,Good n D a→frOf a=f→c.wpIn fc 0 P (fun e a' w'=>Good n D a'∧Q e (frOf a') w') a w
theorem W.wide{P:Program}{c:Code}{n:Nat}{D:List Deferred}{Q:Post}{f:Fr}{w:World}(h:W Fence.wide P c n D Q f w){a:Act}(ha:Good n D a)(hf:frOf a=f):c.wp P (fun e a' w'=>Good n D a'∧Q e (frOf a') w') a w:=wpIn_wide.1 (h a ha hf)
def Jag(K:Fr→World→Prop)(Q:Post):Post
 | .normal,f,w=>K f w
 | e,f,w=>Q e f w
def Jr0(id:Nat)(Q:Post):Post
 | .exit id',f,w=>if id'=id then Q .normal f w else Q (.exit id') f w
 | e,f,w=>Q e f w
section
variable {fc:Fence} {P:Program} {n:Nat} {D:List Deferred} {Q:Post} {f:Fr} {w:World}
theorem W.mono{c:Code}{Q':Post}(h:W fc P c n D Q f w)(hq:∀ e f w,Q e f w→Q' e f w):W fc P c n D Q' f w:=
 fun a ha hf=>wpIn_mono (h a ha hf) fun _ _ _ ⟨g,q⟩=>⟨g,hq _ _ _ q⟩
theorem J40{x y:Code}(h:W fc P x n D (Jag (W fc P y n D Q) Q) f w):W fc P (Code.seq x y) n D Q f w:=by
 intro a ha hf;refine wpIn_seq (wpIn_mono (h a ha hf) ?_);rintro e a' w' ⟨g,q⟩
 cases e with
 | normal=>exact q a' g rfl
 | exit id=>exact⟨g,q⟩
 | goto l=>exact⟨g,q⟩
 | ret=>exact⟨g,q⟩
 | panic ch=>exact⟨g,q⟩
 | outgrown=>exact⟨g,q⟩
theorem J4v(h:Q .normal f w):W fc P Code.skip n D Q f w:=fun a ha hf=>wpIn_skip ⟨ha,by rw [hf];exact h⟩
theorem J4y(h:Q .ret f w):W fc P Code.ret n D Q f w:=fun a ha hf=>wpIn_ret ⟨ha,by rw [hf];exact h⟩
theorem J5i{id:Nat}(h:Q (.exit id) f w):W fc P (Code.exit id) n D Q f w:=fun a ha hf=>wpIn_exit ⟨ha,by rw [hf];exact h⟩
theorem W.block{id:Nat}{c:Code}(h:W fc P c n D (Jr0 id Q) f w):W fc P (Code.block id c) n D Q f w:=by
 intro a ha hf;refine wpIn_block (wpIn_mono (h a ha hf) ?_);rintro e a' w' ⟨g,q⟩
 cases e with
 | exit id'=>
  simp only [Jr0] at q;simp only [Exit.inBlock]
  split at q <;> rename_i hid
  ·simp only [hid,if_true];exact⟨g,q⟩
  ·simp only [hid,if_false];exact⟨g,q⟩
 | normal=>exact⟨g,q⟩
 | goto l=>exact⟨g,q⟩
 | ret=>exact⟨g,q⟩
 | panic ch=>exact⟨g,q⟩
 | outgrown=>exact⟨g,q⟩
theorem J7c{c:Operand}{x y:Code}{t:Bool}(hc:fe f c= .bool t)(ht:t=true→W fc P x n D Q f w)(hf:t=false→W fc P y n D Q f w):
  W fc P (Code.cond c x y) n D Q f w:=by
 intro a ha he;refine wpIn_cond_split (t:=t) (by rw [vu,he];exact hc) (fun e=>ht e a ha he) (fun e=>hf e a ha he)
theorem J4r{c:Operand}{x y:Code}(hc:fe f c= .bool true)(h:W fc P x n D Q f w):W fc P (Code.cond c x y) n D Q f w:=
 J7c hc (fun _=>h) (fun e=>by cases e)
theorem J4s{c:Operand}{x y:Code}(hc:fe f c= .bool false)(h:W fc P y n D Q f w):W fc P (Code.cond c x y) n D Q f w:=
 J7c hc (fun e=>by cases e) (fun _=>h)
theorem W.loop {c:Code} (I:Fr→World→Prop) (μ:Fr→World→Nat) (h0:I f w)
  (round:∀ f w,I f w→W fc P c n D (Jag (fun f' w'=>I f' w'∧μ f' w' < μ f w) Q) f w):W fc P (Code.loop c) n D Q f w:=by
 intro a ha hf;subst hf;refine wpIn_loop (fun a w=>Good n D a∧I (frOf a) w) (fun a w=>μ (frOf a) w) ⟨ha,h0⟩ ?_;rintro a w ⟨g,hI⟩;refine wpIn_mono (round _ _ hI a g rfl) ?_;rintro e a' w' ⟨g',q⟩
 cases e with
 | normal=>exact⟨⟨g',q.1⟩,q.2⟩
 | exit id=>exact⟨g',q⟩
 | goto l=>exact⟨g',q⟩
 | ret=>exact⟨g',q⟩
 | panic ch=>exact⟨g',q⟩
 | outgrown=>exact⟨g',q⟩
theorem J5e {c:Code} (I:Nat→Fr→World→Prop) (k0:Nat) (h0:I k0 f w)
  (round:∀ k f w,I k f w→W fc P c n D (Jag (fun f' w'=>∃ j,j < k∧I j f' w') Q) f w):W fc P (Code.loop c) n D Q f w:=by
 classical
 have ex:∀ f w,(∃ k,I k f w)→∃ k,I k f w∧∀ j,I j f w→k≤j:=by
  rintro f w ⟨k,hk⟩
  induction k using Nat.strongRecOn with
  | _ k ih=>
   by_cases h:∃ j,j < k∧I j f w
   ·obtain⟨j,hj,hI⟩:=h;exact ih j hj hI
   ·refine⟨k,hk,fun j hj=>?_⟩
    rcases J9w j k with hl | hl
    ·exact absurd ⟨j,hl,hj⟩ h
    ·exact hl
 refine W.loop (fun f w=>∃ k,I k f w) (fun f w=>if h:∃ k,I k f w then Classical.choose (ex f w h) else 0) ⟨k0,h0⟩ ?_;intro f w hI;have hs:=Classical.choose_spec (ex f w hI);refine W.mono (round _ f w hs.1) ?_;intro e f' w' q
 cases e with
 | normal=>
  obtain⟨j,hj,hI'⟩:=q;have h':∃ k,I k f' w':=⟨j,hI'⟩;refine⟨h',?_⟩;rw [dif_pos h',dif_pos hI];exact J91 ((Classical.choose_spec (ex f' w' h')).2 j hI') hj
 | exit id=>exact q
 | goto l=>exact q
 | ret=>exact q
 | panic ch=>exact q
 | outgrown=>exact q
theorem J55{c:Code}(M:Fr→World→Prop)(h:W fc P c n D (Jag M Q) f w)(k:∀ f w,M f w→Q .normal f w):W fc P c n D Q f w:=by
 refine W.mono h ?_;intro e f w q
 cases e with
 | normal=>exact k f w q
 | exit id=>exact q
 | goto l=>exact q
 | ret=>exact q
 | panic ch=>exact q
 | outgrown=>exact q
end
def St(P:Program)(ρ:Operand→Value)(o:Oper)(w:World)(K:Value→World→Prop)(Kp:List PanicEntry→World→Prop):Prop:=
 match (execOp ρ o).run P w with
 | .ok (.value v) w'=>K v w'
 | .ok .skip w'=>K undef w'
 | .ok (.enter g args) w'=>Calls P g args w' fun
  | .returned v,w''=>K v w''
  | .panicked ch,w''=>Kp ch w''
  | .outgrown,_=>False
 | .ok (.round l g tmps assign body) w'=>RoundIn Fence.wide 0 P l g tmps assign body w' fun
  | .returned v,w''=>K v w''
  | .panicked ch,w''=>Kp ch w''
  | .outgrown,_=>False
 | .halt (.panic v) w'=>Kp [{v,recovered:=false}] w'
 | _=>False
theorem St.mono {P:Program} {ρ:Operand→Value} {o:Oper} {w:World} {K K':Value→World→Prop} {Kp Kp':List PanicEntry→World→Prop} (h:St P ρ o w K Kp)
  (hk:∀ v w,K v w→K' v w) (hp:∀ c w,Kp c w→Kp' c w):St P ρ o w K' Kp':=by
 unfold St at h ⊢
 split at h
 ·exact hk _ _ h
 ·exact hk _ _ h
 ·refine Calls.mono h ?_;intro e w' h
  cases e with
  | returned v=>exact hk _ _ h
  | panicked ch=>exact hp _ _ h
  | outgrown=>exact h
 ·refine RoundIn.mono h ?_;intro e w' h
  cases e with
  | returned v=>exact hk _ _ h
  | panicked ch=>exact hp _ _ h
  | outgrown=>exact h
 ·exact hp _ _ h
 ·exact h.elim
def Zl(ops:Array Oper)(f:Fr)(j:Nat):Option Bool:=
 match (((ops[j]?).bind (·.dst)).map f:Option Value) with
 | some (.bool b)=>some b
 | _=>none
theorem Jaw(ops:Array Oper)(a:Act)(j:Nat):yielded ops a.tmps j=Zl ops (frOf a) j:=by
 unfold yielded Zl
 cases h:(ops[j]?).bind (·.dst) with
 | none=>rfl
 | some d=>
  simp only [Option.bind_some,Option.map_some,frOf,J9e]
  cases h2:a.tmps[d]? with
  | none=>rfl
  | some v=>rfl
def Sq(P:Program)(ops:Array Oper)(n:Nat)(Q:Post):List Oper→Fr→World→Prop
 | [],f,w=>Q .normal f w
 | o::r,f,w=>
  lo n o.dst∧(if Region.wanted o (Zl ops f) then St P (fe f) o w (fun v w'=>Sq P ops n Q r (updO f o.dst v) w') (fun ch w'=>Q (.panic ch) f w')
  else Sq P ops n Q r (updO f o.dst undef) w)
theorem St.nodefer{P:Program}{ρ:Operand→Value}{o:Oper}{w:World}{K:Value→World→Prop}{Kp:List PanicEntry→World→Prop}(h:St P ρ o w K Kp)(ro:Option Nat):Oper.semAt ro ρ o=execOp ρ o:=by
 refine Oper.semAt_eq ro ρ o fun c hc=>?_
 unfold St at h;have e:execOp ρ o=(do pure (.defer (← resolve ρ c o.type))):=by unfold execOp;rw [hc]
 rw [e] at h;simp only [Sem.run_bind] at h
 cases hr:(resolve ρ c o.type).run P w with
 | ok d w'=>rw [hr] at h;exact h.elim
 | halt x w'=>
  rw [hr] at h
  cases x with
  | panic v=>
   obtain⟨ce,args,ts⟩:=c
   cases ce with
   | builtin b=>simp [resolve] at hr
   | invoke r m=>simp [resolve] at hr
   | value x=>
    simp only [resolve] at hr;unfold Deferred.ofValue at hr
    split at hr <;> simp [stuck] at hr
  | _=>exact h.elim
theorem Ja7 {fc:Fence} [Fw fc] {P:Program} {n:Nat} {D:List Deferred} {o:Oper} {a:Act} {w:World} {K:Value→World→Prop} {Kp:List PanicEntry→World→Prop}
  {next:Act→World→Prop} {Q:Exit→Act→World→Prop} (_ha:Good n D a)
  (h:St P (fe (frOf a)) o w K Kp) (hk:∀ v w',K v w'→next (a.put o.dst v) w') (hp:∀ c w',Kp c w'→Q (.panic c) a w'):o.wpIn fc 0 P a w next Q:=by
 unfold Oper.wpIn;refine⟨fun f _=>Fw.fn f,?_⟩;rw [vu,h.nodefer];have hd:fc.depth.isSome=true→1≤0:=by rw [Fw.depth (fc:=fc)];intro h;cases h
 unfold St at h
 split at h
 ·rename_i v w' hr;rw [hr];exact hk _ _ h
 ·rename_i w' hr;rw [hr];exact hk _ _ h
 ·rename_i g args w' hr
  rw [hr];refine⟨hd,CallsIn.mono (Fw.calls h) ?_⟩;intro e w'' h
  cases e with
  | returned v=>exact hk _ _ h
  | panicked ch=>exact hp _ _ h
  | outgrown=>exact h.elim
 ·rename_i l g tmps as0 bo w' hr
  rw [hr];refine⟨hd,RoundIn.mono (Fw.round h) ?_⟩;intro e w'' h
  cases e with
  | returned v=>exact hk _ _ h
  | panicked ch=>exact hp _ _ h
  | outgrown=>exact h.elim
 ·rename_i v w' hr;rw [hr];exact hp _ _ h
 ·exact h.elim
theorem Jfi{fc:Fence}[Fw fc]{P:Program}{n:Nat}{D:List Deferred}{ops:Array Oper}{Q:Post}:
  ∀ (l:List Nat) (a:Act) (w:World),Good n D a→Sq P ops n Q (l.filterMap fun i=>ops[i]?) (frOf a) w→
   wpOpsIn fc 0 P ops (fun e a' w'=>Good n D a'∧Q e (frOf a') w') l a w:=by
 intro l
 induction l with
 | nil=>intro a w ha h;exact⟨ha,h⟩
 | cons i rest ih=>
  intro a w ha h;simp only [wpOpsIn]
  cases ho:ops[i]? with
  | none=>
   simp only [List.filterMap_cons,ho] at h;exact ih a w ha h
  | some o=>
   simp only [List.filterMap_cons,ho,Sq] at h;obtain⟨hlo,h⟩:=h;have hy:yielded ops a.tmps=Zl ops (frOf a):=funext (Jaw ops a);simp only [hy]
   split at h <;> rename_i hw
   ·rw [if_pos hw];refine Ja7 ha h ?_ ?_
    ·intro v w' hk;exact ih _ _ (ha.put _ _) (by rw [Yg ha _ hlo];exact hk)
    ·intro c w' hk;exact⟨ha,hk⟩
   ·rw [if_neg hw];exact⟨fun f _=>Fw.fn f,ih _ _ (ha.put _ _) (by rw [Yg ha _ hlo];exact h)⟩
theorem J4u{fc:Fence}[Fw fc]{P:Program}{n:Nat}{D:List Deferred}{Q:Post}{f:Fr}{w:World}{id:Nat}{ops:Array Oper}(h:Sq P ops n Q ops.toList f w):
  W fc P (Code.region id ops false) n D Q f w:=by
 intro a ha hf;subst hf;refine wpIn_region (Jfi _ a w ha ?_)
 have:((List.range ops.size).filterMap fun i=>ops[i]?)=ops.toList:=by
  apply List.ext_getElem?
  intro i
  have:∀ (l:List Oper),((List.range l.length).filterMap fun i=>l[i]?)=l:=by
   intro l
   induction l with
   | nil=>rfl
   | cons x l ih=>
    rw [J80,List.range_succ_eq_map,List.filterMap_cons];simp only [List.getElem?_cons_zero,List.filterMap_map]
    congr 1
  have h2:=this ops.toList;rw [Array.length_toList] at h2;have h3:(fun x:Nat=>ops[x]?)=(fun x=>ops.toList[x]?):=by funext x;simp
  rw [h3,h2]
 rw [this];exact h
section
variable {P:Program} {ops:Array Oper} {n:Nat} {Q:Post} {r:List Oper} {f:Fr} {w:World}
theorem Sq.nil(h:Q .normal f w):Sq P ops n Q [] f w:=h
theorem Sq.op {dst:Option Tmp} {op:Op} {ty:TypeId} {pos:String} {after:Array Edge} (hlo:lo n dst)
  (h:St P (fe f) ⟨dst,op,ty,pos,after,none⟩ w (fun v w'=>Sq P ops n Q r (updO f dst v) w') (fun ch w'=>Q (.panic ch) f w')):
  Sq P ops n Q (⟨dst,op,ty,pos,after,none⟩::r) f w:=⟨hlo,by simp only [Region.wanted,if_true];exact h⟩
theorem J8q {dst:Option Tmp} {op:Op} {ty:TypeId} {pos:String} {after:Array Edge} {j:Nat} {b:Bool} (hy:Zl ops f j=some b) (hlo:lo n dst)
  (h:St P (fe f) ⟨dst,op,ty,pos,after,some (j,b)⟩ w (fun v w'=>Sq P ops n Q r (updO f dst v) w') (fun ch w'=>Q (.panic ch) f w')):
  Sq P ops n Q (⟨dst,op,ty,pos,after,some (j,b)⟩::r) f w:=⟨hlo,by simp only [Region.wanted,hy,beq_self_eq_true,if_true];exact h⟩
theorem Sq.opn {dst:Option Tmp} {op:Op} {ty:TypeId} {pos:String} {after:Array Edge} {j:Nat} {b c:Bool} (hy:Zl ops f j=some c) (hc:(some c == some b)=false) (hlo:lo n dst)
  (h:Sq P ops n Q r (updO f dst undef) w):
  Sq P ops n Q (⟨dst,op,ty,pos,after,some (j,b)⟩::r) f w:=⟨hlo,by simp only [Region.wanted,hy,hc];exact h⟩
end
def retQ(P:Program)(fn:Func)(R:Ending→World→Prop):Post
 | .normal,f,w | .ret,f,w=>∃ v,(∀ tmps:Array Value,(∀ t,tmps.getD t undef=f t)→(results fn tmps).run P w= .ok v w)∧R (.returned v) w
 | .panic chain,_,w=>R (.panicked chain) w
 | _,_,_=>False
def Jaj(args:List Value):Fr:=fun t=>args.getD t undef
theorem J8o {P:Program} {k:FuncId} {fn:Func} {c:Code} {args:List Value} {w:World} {R:Ending→World→Prop} {n:Nat}
  (hf:P.funcs[k]? =some fn) (hb:fn.body=some c) (hn:fn.ntmps=n) (ha:args.length≤n)
  (h:W Fence.wide P c n [] (retQ P fn R) (Jaj args) w):Calls P k args.toArray w R:=by
 refine calls_of_wp hf hb (wp_mono (W.wide h ⟨?_,rfl⟩ ?_) ?_)
 ·simp [hn];omega
 ·funext t
  simp only [frOf,Jaj,J9e,J9d,Array.getElem?_append]
  by_cases ht:t < args.length
  ·simp [ht]
  ·simp only [List.size_toArray,ht,if_false];rw [J9z (by omega)];simp only [Array.getElem?_replicate]
   split <;> rfl
 ·rintro e a w ⟨g,q⟩
  cases e with
  | normal=>obtain⟨v,h1,h2⟩:=q;exact⟨g.defers,v,h1 _ (fun _=>rfl),h2⟩
  | ret=>obtain⟨v,h1,h2⟩:=q;exact⟨g.defers,v,h1 _ (fun _=>rfl),h2⟩
  | panic ch=>exact⟨g.defers,q⟩
  | exit id=>exact q.elim
  | goto l=>exact q.elim
  | outgrown=>exact q.elim
def Ya(ops:Array Oper)(j:Nat):Nat:=((ops[j]?).bind (·.dst)).getD 0
def Jis(ops:Array Oper)(j k:Nat):Bool:=((ops[k]?).map fun o=>o.after.any fun e=>Region.binds .any e && e.on == j).getD false
def ancB(ops:Array Oper):Nat→Nat→Nat→Bool
 | 0,_,_=>false
 | n+1,j,k=>Jis ops j k || ((ops[k]?).map fun o=>o.after.any fun e=>Region.binds .any e && ancB ops n j e.on).getD false
def Keep(ds:List Nat)(f0 f:Fr):Prop:=∀ t,ds.contains t=false→f t=f0 t
def noG{σ:Type}:σ→Value→World→Prop:=fun _ _ _=>True
def Deps{σ:Type}(ops:Array Oper)(Gl:List (σ→Value→World→Prop))(f:Fr)(s:σ)(w:World):List Nat→Prop
 | []=>True
 | j::r=>(Gl.getD j noG) s (f (Ya ops j)) w∧Deps ops Gl f s w r
def OpSt(P:Program)(ops:Array Oper)(f:Fr)(o:Oper)(w:World)(K:Value→World→Prop)(Kp:List PanicEntry→World→Prop):Prop:=
 if Region.wanted o (Zl ops f) then St P (fe f) o w K Kp else K undef w
def xl{σ:Type}(P:Program)(ops:Array Oper)(Q:Post)(R:σ→World→σ→World→Prop)(Gl:List (σ→Value→World→Prop))(f0:Fr)(s0:σ)(w0:World)(ds:List Nat):List Oper→List (List Nat)→Nat→Prop
 | o::l,d::dl,k=>
  (∀ f s w,R s0 w0 s w→Keep ds f0 f→Deps ops Gl f s w d→OpSt P ops f o w (fun v w'=>∃ s',R s w s' w'∧(Gl.getD k noG) s' v w') (fun ch w'=>∀ f,Q (.panic ch) f w'))∧
   xl P ops Q R Gl f0 s0 w0 ds l dl (k+1)
 | _,_,_=>True
def Xz{σ:Type}(R:σ→World→σ→World→Prop):List (σ→Value→World→Prop)→Prop
 | []=>True
 | g::r=>(∀ v s w s' w',g s v w→R s w s' w'→g s' v w')∧Xz R r
def J4(ops:Array Oper)(m:Nat):List Nat:=(ops.toList.take m).filterMap (·.dst)
def qg(ops:Array Oper)(m n:Nat)(dl:List (List Nat)):Bool:=
 let N:=ops.size
 m≤N && dl.length == m &&
 (ops.toList.all fun o=>match o.dst with | some d=>d < n | none=>true) &&
 ((List.range N).all fun k=>((ops[k]?).map fun o=>o.after.all fun e=> !Region.binds .any e || e.on < k).getD false) &&
 ((List.range m).all fun k=>(dl.getD k []).all fun j=>ancB ops N j k && j < m) &&
 ((List.range N).all fun k=>k < m || (List.range k).all fun j=>ancB ops N j k) &&
 ((List.range m).all fun k=>((ops[k]?).bind (·.dst)).isSome && (List.range m).all fun j=>j == k || Ya ops j != Ya ops k)
section
variable {fc:Fence} [Fw fc] {P:Program} {ops:Array Oper} {n:Nat} {D:List Deferred} {Q:Post} {f0:Fr} {w0:World}
def Qv(ops:Array Oper)(L:Array Bool):Prop:=∀ k,k < ops.size→L.getD k true=true→∀ o,ops[k]? =some o→∀ e ∈ o.after,Region.binds .any e=true→L.getD e.on false=true
theorem Ko{L:Array Bool}(hs:L.size=ops.size)(hc:Qv ops L):∀ fuel j k,k < ops.size→
  (∀ o,ops[k]? =some o→∀ e ∈ o.after,Region.binds .any e=true→L.getD e.on false=true)→ancB ops fuel j k=true→L.getD j false=true:=by
 intro fuel
 induction fuel with
 | zero=>intro j k _ _ h;simp [ancB] at h
 | succ fuel ih=>
  intro j k hk hd h;obtain⟨o,ho⟩:∃ o,ops[k]? =some o:=⟨ops[k],by simp [hk]⟩;simp only [ancB,Jis,ho,Option.map_some,Option.getD_some,Bool.or_eq_true,Array.any_eq_true',Bool.and_eq_true,beq_iff_eq] at h
  rcases h with ⟨e,he,hb,rfl⟩ | ⟨e,he,hb,hanc⟩
  ·exact hd o ho e he hb
  ·have hl:=hd o ho e he hb;have hlt:e.on < ops.size:=by
    rcases J9w e.on L.size with h | h
    ·omega
    ·simp [J9e,Array.getElem?_eq_none h] at hl
   refine ih j e.on hlt ?_ hanc;intro o' ho' e' he' hb';refine hc e.on hlt ?_ o' ho' e' he' hb';simp only [J9e] at hl ⊢
   have:L[e.on]? =some L[e.on]:=by simp [hs,hlt]
   rw [this] at hl ⊢;exact hl
def unl(N:Nat)(L:Array Bool):Nat:=(List.range N).countP fun i=> !L.getD i true
theorem Jif(l:List Nat)(hn:l.Nodup)(p q:Nat→Bool)(i:Nat)(hi:i ∈ l)(hp:p i=true)(hq:q i=false)(h:∀ j,j≠i→q j=p j):l.countP p=l.countP q+1:=by
 induction l with
 | nil=>cases hi
 | cons x l ih=>
  obtain⟨hx,hn'⟩:=List.nodup_cons.1 hn
  by_cases e:x=i
  ·subst e
   have:l.countP p=l.countP q:=by
    apply List.countP_congr
    intro y hy
    have:y≠x:=fun e=>hx (e ▸ hy)
    rw [h y this]
   rw [List.countP_cons_of_pos hp,List.countP_cons_of_neg (by simp [hq]),this]
  ·have hi':i ∈ l:=by cases hi with | head=>exact absurd rfl e | tail _ h=>exact h
   have:=ih hn' hi'
   rw [List.countP_cons,List.countP_cons,h x e,this];omega
theorem Jbl{N:Nat}{L:Array Bool}(hs:L.size=N){i:Nat}(hi:i < N)(hf:L.getD i true=false):unl N L=unl N (L.setIfInBounds i true)+1:=by
 refine Jif _ List.nodup_range _ _ i (by simpa using hi) (by simp [hf]) ?_ ?_
 ·simp [J9e,hs,hi]
 ·intro j hj
  have:¬ i=j:=fun e=>hj e.symm
  simp [J9e,J9l,this]
theorem q5{N:Nat}{L:Array Bool}(h:unl N L=0):∀ i,i < N→L.getD i true=true:=by
 intro i hi
 have:=List.countP_eq_zero.1 h i (by simpa using hi)
 simpa using this
theorem Z4{L:Array Bool}{i:Nat}:i ∈ Region.ready .any ops L↔i < ops.size∧L.getD i true=false∧∃ o,ops[i]? =some o∧∀ e ∈ o.after,Region.binds .any e=true→L.getD e.on false=true:=by
 unfold Region.ready;simp only [List.mem_filter,List.mem_range,Bool.and_eq_true,Bool.not_eq_true']
 constructor
 ·rintro⟨h1,h2,h3⟩
  refine⟨h1,h2,ops[i],by simp [h1],?_⟩;have ho:ops[i]? =some ops[i]:=by simp [h1]
  rw [ho] at h3;simp only [Option.map_some,Option.getD_some,Array.all_eq_true'] at h3;intro e he hb
  have:=h3 e he
  simpa [hb] using this
 ·rintro⟨h1,h2,o,ho,h3⟩
  refine⟨h1,h2,?_⟩;rw [ho];simp only [Option.map_some,Option.getD_some,Array.all_eq_true'];intro e he
  cases hb:Region.binds .any e with
  | false=>simp
  | true=>simp [h3 e he hb]
structure DrawFacts (ops:Array Oper) (m n:Nat) (dl:List (List Nat)):Prop where
 le:m≤ops.size
 len:dl.length=m
 dst:∀ (k:Nat) (o:Oper),ops[k]? =some o→lo n o.dst
 back:∀ (k:Nat) (o:Oper),ops[k]? =some o→∀ e ∈ o.after,Region.binds .any e=true→e.on < k
 deps:∀ k,k < m→∀ j ∈ dl.getD k [],ancB ops ops.size j k=true∧j < m
 tail:∀ k,k < ops.size→m≤k→∀ j,j < k→ancB ops ops.size j k=true
 some:∀ k,k < m→((ops[k]?).bind (·.dst)).isSome=true
 apart:∀ k,k < m→∀ j,j < m→j≠k→Ya ops j≠Ya ops k
theorem Vo{m:Nat}{dl:List (List Nat)}(h:qg ops m n dl=true):DrawFacts ops m n dl:=by
 simp only [qg,Bool.and_eq_true,decide_eq_true_eq,beq_iff_eq,List.all_eq_true,List.mem_range,Bool.or_eq_true,bne_iff_ne] at h;obtain⟨⟨⟨⟨⟨⟨h1,h2⟩,h3⟩,h4⟩,h5⟩,h6⟩,h7⟩:=h;refine⟨h1,h2,?_,?_,fun k hk j hj=>by have:=h5 k hk j hj;exact this,?_,fun k hk=>(h7 k hk).1,?_⟩
 ·intro k o ho;have hm:o ∈ ops.toList:=by
   have:=Array.getElem?_eq_some_iff.1 ho
   obtain⟨hk,rfl⟩:=this;simp
  have:=h3 o hm
  unfold lo
  cases hd:o.dst with
  | none=>trivial
  | some d=>rw [hd] at this;simpa using this
 ·intro k o ho e he hb;have hk:=(Array.getElem?_eq_some_iff.1 ho).1
  have:=h4 k hk
  rw [ho] at this;simp only [Option.map_some,Option.getD_some,Array.all_eq_true'] at this
  have:=this e he
  simpa [hb] using this
 ·intro k hk hm j hj
  rcases h6 k hk with h | h
  ·omega
  ·exact h j hj
 ·intro k hk j hj hne
  rcases(h7 k hk).2 j hj with h | h
  ·exact absurd h hne
  ·exact h
theorem yp {i:Nat} {o:Oper} {a:Act} {w:World} {K:Act→World→Prop} {Kv:Value→World→Prop} {Kp:List PanicEntry→World→Prop}
  (ho:ops[i]? =some o) (ha:Good n D a)
  (h:OpSt P ops (frOf a) o w Kv Kp) (hk:∀ v w',Kv v w'→K (a.put o.dst v) w') (hp:∀ c w',Kp c w'→Q (.panic c) (frOf a) w'):
  wpOpIn fc 0 P ops (fun e a' w'=>Good n D a'∧Q e (frOf a') w') i K a w:=by
 unfold wpOpIn;rw [ho];have hy:yielded ops a.tmps=Zl ops (frOf a):=funext (Jaw ops a);simp only [hy];unfold OpSt at h
 split at h <;> rename_i hw
 ·rw [if_pos hw];exact Ja7 ha h hk (fun c w' q=>⟨ha,hp c w' q⟩)
 ·rw [if_neg hw];exact⟨fun f _=>Fw.fn f,hk _ _ h⟩
theorem Jm8{m:Nat}{dl:List (List Nat)}(F:DrawFacts ops m n dl):∀ (fuel k:Nat) (L:Array Bool) (a:Act) (w:World),m≤k→k+fuel=ops.size→L.size=ops.size→
  (∀ i,i < ops.size→(L.getD i true=true↔i < k))→Good n D a→Sq P ops n Q (ops.toList.drop k) (frOf a) w→
  wpAnyIn fc 0 P .any ops (fun e a' w'=>Good n D a'∧Q e (frOf a') w') fuel L a w:=by
 intro fuel;have bridge:∀ (L:Array Bool),L.size=ops.size→∀ i,i < ops.size→L.getD i false=L.getD i true:=by
  intro L hs i hi
  have:L[i]? =some L[i]:=by simp [hs,hi]
  simp [J9e,this]
 induction fuel with
 | zero=>
  intro k L a w hm hk hs hL ha h;refine⟨?_,?_⟩
  ·rw [List.eq_nil_iff_forall_not_mem];intro i hi;obtain⟨h1,h2,_⟩:=Z4.1 hi
   have:=(hL i h1).2 (by omega)
   rw [this] at h2;cases h2
  ·rw [J9s (by simp;omega)] at h;exact⟨ha,h⟩
 | succ fuel ih=>
  intro k L a w hm hk hs hL ha h;have hkN:k < ops.size:=by omega
  have hok:ops[k]? =some ops[k]:=by simp [hkN]
  have hdr:ops.toList.drop k=ops[k]::ops.toList.drop (k+1):=by
   rw [List.drop_eq_getElem_cons (by simpa using hkN)];simp
  rw [hdr] at h;have hrk:k ∈ Region.ready .any ops L:=by
   refine Z4.2 ⟨hkN,?_,ops[k],hok,?_⟩
   ·cases hb:L.getD k true with
    | false=>rfl
    | true=>have:=(hL k hkN).1 hb;omega
   ·intro e he hb;have hlt:=F.back k _ hok e he hb;rw [bridge L hs _ (by omega)]
    exact(hL _ (by omega)).2 hlt
  refine⟨(fun hnil=>by rw [hnil] at hrk;cases hrk),?_⟩;intro i hi;obtain⟨h1,h2,o,ho,h3⟩:=Z4.1 hi;have hik:i=k:=by
   have hge:k≤i:=by
    rcases J9w i k with hl | hl
    ·rw [(hL i h1).2 hl] at h2;cases h2
    ·exact hl
   rcases Nat.eq_or_lt_of_le hge with e | hlt
   ·exact e.symm
   ·exfalso
    have hc:Qv ops L:=by
     intro k' hk' hl o' ho' e' he' hb';have hlt':=F.back k' _ ho' e' he' hb';rw [bridge L hs _ (by omega)]
     have:=(hL k' hk').1 hl
     exact(hL _ (by omega)).2 (by omega)
    have:=Ko hs hc ops.size k i h1 (fun o' ho'=>by rw [ho] at ho';cases ho';exact h3) (F.tail i h1 (by omega) k hlt)
    rw [bridge L hs k hkN] at this
    have:=(hL k hkN).1 this
    omega
  subst hik;simp only [Sq] at h;obtain⟨hlo,h⟩:=h;refine yp (Kv:=fun v w'=>Sq P ops n Q (ops.toList.drop (i+1)) (updO (frOf a) ops[i].dst v) w') (Kp:=fun ch w'=>Q (.panic ch) (frOf a) w') hok ha h ?_ (fun _ _ q=>q)
  intro v w' hk';refine ih (i+1) _ _ _ (by omega) (by omega) (by simp [hs]) ?_ (ha.put _ _) (by rw [Yg ha _ hlo];exact hk');intro j hj;rw [J9e,J9l]
  by_cases e:i=j
  ·subst e;simp [hs,hkN]
  ·have:=hL j hj
   rw [J9e] at this;simp only [e,if_false];rw [this];omega
theorem Deps.of{σ:Type}{Gl:List (σ→Value→World→Prop)}{f:Fr}{s:σ}{w:World}:∀ (d:List Nat),(∀ j ∈ d,(Gl.getD j noG) s (f (Ya ops j)) w)→Deps ops Gl f s w d:=by
 intro d
 induction d with
 | nil=>intro _;trivial
 | cons j r ih=>intro h;exact⟨h j (by simp),ih fun i hi=>h i (by simp [hi])⟩
theorem Xz.at{σ:Type}{R:σ→World→σ→World→Prop}:∀ (Gl:List (σ→Value→World→Prop)),Xz R Gl→∀ j v s w s' w',(Gl.getD j noG) s v w→R s w s' w'→(Gl.getD j noG) s' v w':=by
 intro Gl
 induction Gl with
 | nil=>intro _ j v s w s' w' _ _;simp [List.getD,noG]
 | cons g r ih=>
  intro h j v s w s' w' hg hr
  cases j with
  | zero=>exact h.1 v s w s' w' hg hr
  | succ j=>exact ih h.2 j v s w s' w' hg hr
theorem xl.at{σ:Type}{s0:σ}{R:σ→World→σ→World→Prop}{Gl:List (σ→Value→World→Prop)}{ds:List Nat}:∀ (l:List Oper) (dl:List (List Nat)) (k:Nat),xl P ops Q R Gl f0 s0 w0 ds l dl k→
  ∀ i o,l[i]? =some o→i < dl.length→∀ f s w,R s0 w0 s w→Keep ds f0 f→Deps ops Gl f s w (dl.getD i [])→
   OpSt P ops f o w (fun v w'=>∃ s',R s w s' w'∧(Gl.getD (k+i) noG) s' v w') (fun ch w'=>∀ f,Q (.panic ch) f w'):=by
 intro l
 induction l with
 | nil=>intro dl k _ i o h;simp at h
 | cons x l ih=>
  intro dl k hst i o ho hi
  cases dl with
  | nil=>simp at hi
  | cons d dl=>
   cases i with
   | zero=>simp at ho;subst ho;exact hst.1
   | succ i=>
    have:=ih dl (k+1) hst.2 i o (by simpa using ho) (by simpa using hi)
    intro f s w h1 h2 h3
    have:=this f s w h1 h2 (by simpa using h3)
    rw [show k+(i+1)=k+1+i by omega];exact this
theorem Jt7 {σ:Type} {s0:σ} {m:Nat} {dl:List (List Nat)} (F:DrawFacts ops m n dl) {R:σ→World→σ→World→Prop} {Gl:List (σ→Value→World→Prop)}
  (htr:∀ s a t b u c,R s a t b→R t b u c→R s a u c) (hG:Xz R Gl)
  (hst:xl P ops Q R Gl f0 s0 w0 (J4 ops m) ops.toList dl 0)
  (htail:∀ f s w,R s0 w0 s w→Keep (J4 ops m) f0 f→Deps ops Gl f s w (List.range m)→Sq P ops n Q (ops.toList.drop m) f w):
  ∀ (fuel:Nat) (L:Array Bool) (a:Act) (s:σ) (w:World),unl ops.size L=fuel→L.size=ops.size→Qv ops L→
   (∀ i,i < ops.size→m≤i→L.getD i true=false)→Good n D a→R s0 w0 s w→Keep (J4 ops m) f0 (frOf a)→
   (∀ j,j < m→L.getD j true=true→(Gl.getD j noG) s (frOf a (Ya ops j)) w)→
   wpAnyIn fc 0 P .any ops (fun e a' w'=>Good n D a'∧Q e (frOf a') w') fuel L a w:=by
 intro fuel;have bridge:∀ (L:Array Bool),L.size=ops.size→∀ i,i < ops.size→L.getD i false=L.getD i true:=by
  intro L hs i hi
  have:L[i]? =some L[i]:=by simp [hs,hi]
  simp [J9e,this]
 have done:∀ (L:Array Bool) (a:Act) (s:σ) (w:World),unl ops.size L=ops.size - m→L.size=ops.size→(∀ i,i < m→L.getD i true=true)→
   (∀ i,i < ops.size→m≤i→L.getD i true=false)→Good n D a→R s0 w0 s w→Keep (J4 ops m) f0 (frOf a)→
   (∀ j,j < m→L.getD j true=true→(Gl.getD j noG) s (frOf a (Ya ops j)) w)→
   wpAnyIn fc 0 P .any ops (fun e a' w'=>Good n D a'∧Q e (frOf a') w') (ops.size - m) L a w:=by
  intro L a s w _ hs hall hno ha hR hK hg;refine Jm8 F (ops.size - m) m L a w (J9g _) (by have:=F.le;omega) hs ?_ ha (htail _ _ _ hR hK (Deps.of _ fun j hj=>hg j (by simpa using hj) (hall j (by simpa using hj))));intro i hi
  constructor
  ·intro h
   rcases J9w i m with hl | hl
   ·exact hl
   ·rw [hno i hi hl] at h;cases h
  ·intro h;exact hall i h
 have cnt:∀ (L:Array Bool),(∀ i,i < m→L.getD i true=true)→(∀ i,i < ops.size→m≤i→L.getD i true=false)→unl ops.size L=ops.size - m:=by
  intro L h1 h2;have hle:=F.le
  have:∀ N,m≤N→N≤ops.size→unl N L=N - m:=by
   intro N hN
   induction N with
   | zero=>intro _;simp [unl]
   | succ N ih=>
    intro hNs;simp only [unl,List.range_succ,List.countP_append,List.countP_singleton]
    rcases Nat.eq_or_lt_of_le hN with e | hlt
    ·have:unl N L=0:=by
      refine List.countP_eq_zero.2 ?_;intro i hi;have hi':i < N:=by simpa using hi
      simp [h1 i (by omega)]
     unfold unl at this;rw [this,h1 N (by omega)];simp;omega
    ·have:=ih (by omega) (by omega)
     unfold unl at this;rw [this,h2 N (by omega) (by omega)];simp;omega
  exact this ops.size hle (J9g _)
 induction fuel with
 | zero=>
  intro L a s w hu hs hc hno ha hR hK hg;have hall:=q5 hu;have hall':∀ i,i < m→L.getD i true=true:=fun i hi=>hall i (by have:=F.le;omega);have hu':=cnt L hall' hno
  have:=done L a s w hu' hs hall' hno ha hR hK hg
  rw [hu'.symm,hu] at this;exact this
 | succ fuel ih=>
  intro L a s w hu hs hc hno ha hR hK hg
  by_cases hall:∀ i,i < m→L.getD i true=true
  ·have hu':=cnt L hall hno
   have:=done L a s w hu' hs hall hno ha hR hK hg
   rw [hu'.symm,hu] at this;exact this
  ·
   have hex:∃ i,i < m∧L.getD i true=false:=by
    refine Classical.byContradiction fun hn=>hall fun i hi=>?_
    cases hb:L.getD i true with
    | true=>rfl
    | false=>exact absurd ⟨i,hi,hb⟩ hn
   have hmin:∃ i,i < m∧L.getD i true=false∧∀ j,j < i→L.getD j true=true:=by
    obtain⟨i,hi,hb⟩:=hex
    induction i using Nat.strongRecOn with
    | _ i ihh=>
     by_cases h:∃ j,j < i∧L.getD j true=false
     ·obtain⟨j,hj,hjb⟩:=h;exact ihh j hj (by omega) hjb
     ·refine⟨i,hi,hb,fun j hj=>?_⟩
      cases hjb:L.getD j true with
      | true=>rfl
      | false=>exact absurd ⟨j,hj,hjb⟩ h
   obtain⟨i0,hi0,hb0,hlow⟩:=hmin;have hle:=F.le;have hr0:i0 ∈ Region.ready .any ops L:=by
    have hok:ops[i0]? =some ops[i0]:=by simp [show i0 < ops.size by omega]
    refine Z4.2 ⟨by omega,hb0,ops[i0],hok,?_⟩;intro e he hbe;have hlt:=F.back i0 _ hok e he hbe;rw [bridge L hs _ (by omega)];exact hlow _ hlt
   refine⟨(fun hnil=>by rw [hnil] at hr0;cases hr0),?_⟩;intro i hi;obtain⟨h1,h2,o,ho,h3⟩:=Z4.1 hi;have him:i < m:=by
    rcases J9w i m with hl | hl
    ·exact hl
    ·exfalso
     have:=Ko hs hc ops.size i0 i h1 (fun o' ho'=>by rw [ho] at ho';cases ho';exact h3) (F.tail i h1 hl i0 (by omega))
     rw [bridge L hs i0 (by omega),hb0] at this
     cases this
   have hdep:Deps ops Gl (frOf a) s w (dl.getD i []):=by
    refine Deps.of _ fun j hj=>?_
    obtain⟨hanc,hjm⟩:=F.deps i him j hj
    have:=Ko hs hc ops.size j i h1 (fun o' ho'=>by rw [ho] at ho';cases ho';exact h3) hanc
    rw [bridge L hs j (by omega)] at this;exact hg j hjm this
   have hstep:=xl.at ops.toList dl 0 hst i o (by simpa using ho) (by rw [F.len];exact him) (frOf a) s w hR hK hdep;rw [Nat.zero_add] at hstep;have hsome:=F.some i him;rw [ho] at hsome;have hdi:Ya ops i=(o.dst).getD 0:=by simp [Ya,ho]
   obtain⟨d,hd⟩:=Option.isSome_iff_exists.1 hsome;simp only [Option.bind_some] at hd;have hdd:Ya ops i=d:=by rw [hdi,hd];rfl
   have hlo:=F.dst i o ho;refine yp (Kv:=fun v w'=>∃ s',R s w s' w'∧(Gl.getD i noG) s' v w') (Kp:=fun ch w'=>∀ f,Q (.panic ch) f w') ho ha hstep ?_ ?_
   ·rintro v w' ⟨s',hRR,hgv⟩;refine ih _ _ s' _ ?_ (by simp [hs]) ?_ ?_ (ha.put _ _) (htr _ _ _ _ _ _ hR hRR) ?_ ?_
    ·have:=Jbl hs h1 h2;omega
    ·intro k hk hl o' ho' e he hb;rw [J9e,J9l]
     by_cases e1:i=e.on
     ·subst e1;simp [hs,h1]
     ·simp only [e1,if_false];rw [← J9e]
      by_cases e2:i=k
      ·subst e2;rw [ho] at ho';cases ho';exact h3 e he hb
      ·rw [J9e,J9l] at hl;simp only [e2,if_false] at hl;rw [← J9e] at hl;exact hc k hk hl o' ho' e he hb
    ·intro k hk hmk
     have:¬ i=k:=by omega
     rw [J9e,J9l];simp only [this,if_false];rw [← J9e];exact hno k hk hmk
    ·rw [Yg ha _ hlo,hd];intro t ht;have htd:t≠d:=by
      rintro rfl
      have:t ∈ J4 ops m:=by
       refine List.mem_filterMap.2 ⟨o,?_,hd⟩;have h':ops.toList[i]? =some o:=by simpa using ho
       have:(ops.toList.take m)[i]? =some o:=by rw [List.getElem?_take,if_pos him];exact h'
       exact List.mem_of_getElem? this
      have:(J4 ops m).contains t=true:=by simpa using this
      rw [this] at ht;cases ht
     simp only [updO,upd,htd,if_false];exact hK t ht
    ·intro j hj hl;rw [Yg ha _ hlo,hd]
     by_cases e:j=i
     ·subst e;rw [hdd];simp only [updO,upd,if_true];exact hgv
     ·have hne:Ya ops j≠d:=by rw [← hdd];exact F.apart i him j hj e
      simp only [updO,upd,hne,if_false];have e':¬ i=j:=fun h=>e h.symm;rw [J9e,J9l] at hl;simp only [e',if_false] at hl;rw [← J9e] at hl;exact Xz.at Gl hG j _ s w s' w' (hg j hj hl) hRR
   ·intro c w' hq;exact hq _
theorem J8c {σ:Type} {id:Nat} (hm:P.follows .mixedOrders=true) (m:Nat) (dl:List (List Nat)) (s0:σ) (R:σ→World→σ→World→Prop) (Gl:List (σ→Value→World→Prop))
  (chk:qg ops m n dl=true) (h0:R s0 w0 s0 w0.drew) (htr:∀ s a t b u c,R s a t b→R t b u c→R s a u c) (hG:Xz R Gl)
  (hst:xl P ops Q R Gl f0 s0 w0 (J4 ops m) ops.toList dl 0)
  (htail:∀ f s w,R s0 w0 s w→Keep (J4 ops m) f0 f→Deps ops Gl f s w (List.range m)→Sq P ops n Q (ops.toList.drop m) f w):
  W fc P (Code.region id ops true) n D Q f0 w0:=by
 intro a ha hf;have F:=Vo chk;refine wpIn_region_any hm ?_;have hz:∀ i,i < ops.size→(Array.replicate ops.size false).getD i true=false:=by
  intro i hi;simp [J9e,hi]
 refine Jt7 F htr hG hst htail ops.size _ a s0 _ ?_ (by simp) ?_ (fun i hi _=>hz i hi) ha h0 (fun t _=>by rw [hf]) ?_
 ·unfold unl
  have:(List.range ops.size).countP (fun i=> !(Array.replicate ops.size false).getD i true)=(List.range ops.size).length:=by
   refine List.countP_eq_length.2 ?_;intro i hi;simp [hz i (by simpa using hi)]
  rw [this];simp
 ·intro k hk hl;rw [hz k hk] at hl;cases hl
 ·intro j hj hl;rw [hz j (by have:=F.le;omega)] at hl;cases hl
end
end Go.Wf
namespace Go.Wf
open Go Go.RowKit
section
variable {P:Program} {ρ:Operand→Value} {dst:Option Tmp} {ty:TypeId} {pos:String} {after:Array Edge} {gd:Option (Nat × Bool)} {w:World} {K:Value→World→Prop} {Kp:List PanicEntry→World→Prop}
theorem J5d{o:Oper}{v:Value}{w':World}(hr:(execOp ρ o).run P w= .ok (.value v) w')(h:K v w'):St P ρ o w K Kp:=by
 unfold St;rw [hr];exact h
theorem J7s{o:Oper}{w':World}(hr:(execOp ρ o).run P w= .ok .skip w')(h:K undef w'):St P ρ o w K Kp:=by
 unfold St;rw [hr];exact h
theorem J4x{x:Operand}(h:K (ρ x) w):St P ρ ⟨dst,.move x,ty,pos,after,gd⟩ w K Kp:=J5d (v:=ρ x) rfl h
theorem J6k{x:Operand}(h:K (ρ x) w):St P ρ ⟨dst,.assign x,ty,pos,after,gd⟩ w K Kp:=J5d (v:=ρ x) rfl h
theorem J5j{c a b:Operand}{t:Bool}(hc:ρ c= .bool t)(h:K (if t then ρ a else ρ b) w):St P ρ ⟨dst,.pick c a b,ty,pos,after,gd⟩ w K Kp:=by
 refine J5d (v:=if t then ρ a else ρ b) ?_ h;simp [execOp,asBool,hc]
theorem Zc{op:BinOp}{x y:Operand}{xt yt:TypeId}{v:Value}(hg:eqGuard op xt x y (ρ x) (ρ y)=pure ())(hr:(binOp op xt (ρ x) (ρ y)).run P w= .ok v w)(h:K v w):
  St P ρ ⟨dst,.binOp op xt x y yt,ty,pos,after,gd⟩ w K Kp:=by
 refine J5d (v:=v) ?_ h;simp [execOp,hg,hr]
theorem Jmk(a b:List UInt8):(a == b)=decide (a=b):=by rw [Bool.eq_iff_iff];simp
section
variable {x y:Operand} {xt yt:TypeId} {k:IntKind} {a b z:Int}
theorem St.add(hx:ρ x= .int k a)(hy:ρ y= .int k b)(hz:k.wrap (a+b)=z)(h:K (.int k z) w):St P ρ ⟨dst,.binOp .add xt x y yt,ty,pos,after,gd⟩ w K Kp:=by
 subst hz;refine Zc (by rfl) ?_ h;rw [hx,hy,binOp_add];rfl
theorem St.sub(hx:ρ x= .int k a)(hy:ρ y= .int k b)(hz:k.wrap (a - b)=z)(h:K (.int k z) w):St P ρ ⟨dst,.binOp .sub xt x y yt,ty,pos,after,gd⟩ w K Kp:=by
 subst hz;refine Zc (by rfl) ?_ h;rw [hx,hy,binOp_sub];rfl
theorem J6l(hx:ρ x= .int k a)(hy:ρ y= .int k b)(hz:k.wrap (a * b)=z)(h:K (.int k z) w):St P ρ ⟨dst,.binOp .mul xt x y yt,ty,pos,after,gd⟩ w K Kp:=by
 subst hz;refine Zc (by rfl) ?_ h;rw [hx,hy,binOp_mul];rfl
theorem J6c(hx:ρ x= .int k a)(hy:ρ y= .int k b)(hb:b≠0)(hz:k.wrap (a.tdiv b)=z)(h:K (.int k z) w):St P ρ ⟨dst,.binOp .quo xt x y yt,ty,pos,after,gd⟩ w K Kp:=by
 subst hz;refine Zc (by rfl) ?_ h;rw [hx,hy,binOp_quo];simp [Op.intDiv,hb]
theorem J6p(hx:ρ x= .int k a)(hy:ρ y= .int k b)(hb:b≠0)(hz:a.tmod b=z)(h:K (.int k z) w):St P ρ ⟨dst,.binOp .rem xt x y yt,ty,pos,after,gd⟩ w K Kp:=by
 subst hz;refine Zc (by rfl) ?_ h;rw [hx,hy,binOp_rem];simp [Op.intDiv,hb]
theorem J6o{yk:IntKind}(hx:ρ x= .int k a)(hy:ρ y= .int yk b)(hb:0≤b)(hz:k.wrap (a * 2 ^ min b.toNat k.bits)=z)(h:K (.int k z) w):St P ρ ⟨dst,.binOp .shl xt x y yt,ty,pos,after,gd⟩ w K Kp:=by
 subst hz;refine Zc (by rfl) ?_ h;rw [hx,hy,binOp_shl,shift_shl_any _ _ _ _ hb];rfl
theorem J57{yk:IntKind}(hx:ρ x= .int k a)(hy:ρ y= .int yk b)(hb:0≤b)(hz:a / 2 ^ min b.toNat k.bits=z)(h:K (.int k z) w):St P ρ ⟨dst,.binOp .shr xt x y yt,ty,pos,after,gd⟩ w K Kp:=by
 subst hz;refine Zc (by rfl) ?_ h;rw [hx,hy,binOp_shr,shift_shr_any _ _ _ _ hb];rfl
theorem J8b(hx:ρ x= .int k a)(hy:ρ y= .int k b)(hz:k.wrap (BitVec.ofInt k.bits a &&& BitVec.ofInt k.bits b).toNat=z)(h:K (.int k z) w):St P ρ ⟨dst,.binOp .and xt x y yt,ty,pos,after,gd⟩ w K Kp:=by
 subst hz;refine Zc (by rfl) ?_ h;rw [hx,hy,binOp_and];rfl
theorem J69(hx:ρ x= .int k a)(hy:ρ y= .int k b)(hz:k.wrap (BitVec.ofInt k.bits a ||| BitVec.ofInt k.bits b).toNat=z)(h:K (.int k z) w):St P ρ ⟨dst,.binOp .or xt x y yt,ty,pos,after,gd⟩ w K Kp:=by
 subst hz;refine Zc (by rfl) ?_ h;rw [hx,hy,binOp_or];rfl
theorem J5y{t:Bool}(hx:ρ x= .int k a)(hy:ρ y= .int k b)(hz:decide (a=b)=t)(h:K (.bool t) w):St P ρ ⟨dst,.binOp .eql xt x y yt,ty,pos,after,gd⟩ w K Kp:=by
 refine Zc (v:= .bool t) ?_ ?_ h
 ·rw [hx];rfl
 ·rw [hx,hy,binOp_eql,← hz];rfl
theorem J58{t:Bool}(hx:ρ x= .int k a)(hy:ρ y= .int k b)(hz:(!decide (a=b))=t)(h:K (.bool t) w):St P ρ ⟨dst,.binOp .neq xt x y yt,ty,pos,after,gd⟩ w K Kp:=by
 refine Zc (v:= .bool t) ?_ ?_ h
 ·rw [hx];rfl
 ·rw [hx,hy,binOp_neq,← hz];rfl
theorem J56{t:Bool}(hx:ρ x= .int k a)(hy:ρ y= .int k b)(hz:decide (a < b)=t)(h:K (.bool t) w):St P ρ ⟨dst,.binOp .lss xt x y yt,ty,pos,after,gd⟩ w K Kp:=by
 subst hz;refine Zc (by rfl) ?_ h;rw [hx,hy,binOp_lss];rfl
theorem J6j{t:Bool}(hx:ρ x= .int k a)(hy:ρ y= .int k b)(hz:decide (a≤b)=t)(h:K (.bool t) w):St P ρ ⟨dst,.binOp .leq xt x y yt,ty,pos,after,gd⟩ w K Kp:=by
 subst hz;refine Zc (by rfl) ?_ h;rw [hx,hy,binOp_leq];rfl
theorem J6a{t:Bool}(hx:ρ x= .int k a)(hy:ρ y= .int k b)(hz:decide (b < a)=t)(h:K (.bool t) w):St P ρ ⟨dst,.binOp .gtr xt x y yt,ty,pos,after,gd⟩ w K Kp:=by
 subst hz;refine Zc (by rfl) ?_ h;rw [hx,hy,binOp_gtr];rfl
theorem J7a{t:Bool}(hx:ρ x= .int k a)(hy:ρ y= .int k b)(hz:decide (b≤a)=t)(h:K (.bool t) w):St P ρ ⟨dst,.binOp .geq xt x y yt,ty,pos,after,gd⟩ w K Kp:=by
 subst hz;refine Zc (by rfl) ?_ h;rw [hx,hy,binOp_geq];rfl
theorem St.neg(hx:ρ x= .int k a)(hz:k.wrap (0 - a)=z)(h:K (.int k z) w):St P ρ ⟨dst,.unOp .neg xt x,ty,pos,after,gd⟩ w K Kp:=by
 subst hz;refine J5d (v:= .int k (k.wrap (0 - a))) ?_ h;simp [execOp,hx,Op.unary,Op.intArith]
theorem J5n{t:Bool}(hx:ρ x= .bool t)(h:K (.bool (!t)) w):St P ρ ⟨dst,.unOp .not xt x,ty,pos,after,gd⟩ w K Kp:=by
 refine J5d (v:= .bool (!t)) ?_ h;simp [execOp,hx,Op.unary]
theorem J75{s t u:Bool}(hT:P.underlying xt=some .bool)(hx:ρ x= .bool s)(hy:ρ y= .bool t)(hz:(s == t)=u)(h:K (.bool u) w):St P ρ ⟨dst,.binOp .eql xt x y yt,ty,pos,after,gd⟩ w K Kp:=by
 refine Zc (v:= .bool u) ?_ ?_ h
 ·rw [hx];rfl
 ·rw [hx,hy,run_eql_bool w xt s t hT,hz]
theorem J6m{s t u:Bool}(hT:P.underlying xt=some .bool)(hx:ρ x= .bool s)(hy:ρ y= .bool t)(hz:(s != t)=u)(h:K (.bool u) w):St P ρ ⟨dst,.binOp .neq xt x y yt,ty,pos,after,gd⟩ w K Kp:=by
 refine Zc (v:= .bool u) ?_ ?_ h
 ·rw [hx];rfl
 ·rw [hx,hy,run_neq_bool w xt s t hT,← hz];rfl
theorem J7w{s t:ByteArray}{u:Bool}(hx:ρ x= .string s)(hy:ρ y= .string t)(hz:decide (s.data.toList=t.data.toList)=u)(h:K (.bool u) w):St P ρ ⟨dst,.binOp .eql xt x y yt,ty,pos,after,gd⟩ w K Kp:=by
 refine Zc (v:= .bool u) ?_ ?_ h
 ·rw [hx];rfl
 ·rw [hx,hy,binOp_string_eql,← hz,ByteArray.toList_eq,ByteArray.toList_eq,Jmk];rfl
theorem J73{s t:ByteArray}{u:Bool}(hx:ρ x= .string s)(hy:ρ y= .string t)(hz:(!decide (s.data.toList=t.data.toList))=u)(h:K (.bool u) w):St P ρ ⟨dst,.binOp .neq xt x y yt,ty,pos,after,gd⟩ w K Kp:=by
 refine Zc (v:= .bool u) ?_ ?_ h
 ·rw [hx];rfl
 ·rw [hx,hy,binOp_string_neq,← hz,ByteArray.toList_eq,ByteArray.toList_eq,Jmk];rfl
theorem J8u{s t:ByteArray}(hx:ρ x= .string s)(hy:ρ y= .string t)(hl:s.size+t.size≤9223372036854775807)(h:K (.string (s++t)) w):St P ρ ⟨dst,.binOp .add xt x y yt,ty,pos,after,gd⟩ w K Kp:=by
 refine Zc (v:= .string (s++t)) ?_ ?_ h
 ·rw [hx];rfl
 ·rw [hx,hy,binOp_string_add]
  have:¬ (((s.size+t.size:Nat):Int) > IntKind.i64.max):=by rw [IntKind.max_i64];omega
  simp only [Op.stringOp,this,if_false];rfl
end
theorem J48{src d:TypeId}{x:Operand}{k j:IntKind}{a z:Int}(hs:(P.underlying src).isSome=true)(hd:P.underlying d=some (.int j))(hx:ρ x= .int k a)(hz:j.wrap a=z)(h:K (.int j z) w):
  St P ρ ⟨dst,.convert src d x,ty,pos,after,gd⟩ w K Kp:=by
 subst hz;refine J5d (v:= .int j (j.wrap a)) ?_ h;obtain⟨dd,hd'⟩:=Option.isSome_iff_exists.mp hs;simp [execOp,hx,convert,run_underlying hd',run_underlying hd,Conv.intToInt]
theorem St.len{x:Operand}{t e:TypeId}{a:Option Addr}{n c:Nat}(ht:P.underlying t=some (.slice e))(hx:ρ x= .slice a n c)(h:K (.int .i64 n) w):
  St P ρ ⟨dst,.call {callee:= .builtin .len,args:= #[x],argTypes:= #[t]},ty,pos,after,gd⟩ w K Kp:=by
 refine J5d (v:= .int .i64 n) ?_ h;simp [execOp,resolve,invoke,builtin,Builtin.len_,run_underlying ht,hx,goInt]
theorem J8v{x:Operand}{t:TypeId}{s:ByteArray}(ht:P.underlying t=some .string)(hx:ρ x= .string s)(h:K (.int .i64 s.size) w):
  St P ρ ⟨dst,.call {callee:= .builtin .len,args:= #[x],argTypes:= #[t]},ty,pos,after,gd⟩ w K Kp:=by
 refine J5d (v:= .int .i64 s.size) ?_ h;simp [execOp,resolve,invoke,builtin,Builtin.len_,run_underlying ht,hx,goInt]
theorem St.max{x y:Operand}{ts:Array TypeId}{k k':IntKind}{a b z:Int}(hx:ρ x= .int k a)(hy:ρ y= .int k' b)(hz:(if b > a then b else a)=z)(h:K (.int k z) w):
  St P ρ ⟨dst,.call {callee:= .builtin .max,args:= #[x,y],argTypes:=ts},ty,pos,after,gd⟩ w K Kp:=by
 subst hz;refine J5d (v:= .int k (if b > a then b else a)) ?_ h;simp [execOp,resolve,invoke,builtin,hx,hy,run_max_int2]
theorem J7e{x y:Operand}{ts:Array TypeId}{k k':IntKind}{a b z:Int}(hx:ρ x= .int k a)(hy:ρ y= .int k' b)(hz:(if b < a then b else a)=z)(h:K (.int k z) w):
  St P ρ ⟨dst,.call {callee:= .builtin .min,args:= #[x,y],argTypes:=ts},ty,pos,after,gd⟩ w K Kp:=by
 subst hz;refine J5d (v:= .int k (if b < a then b else a)) ?_ h;simp [execOp,resolve,invoke,builtin,hx,hy,run_min_int2]
theorem St.extract{x:Operand}{i:Nat}{vs:Array Value}{v:Value}(hx:ρ x= .tuple vs)(hv:vs[i]? =some v)(h:K v w):St P ρ ⟨dst,.extract x i,ty,pos,after,gd⟩ w K Kp:=by
 refine J5d (v:=v) ?_ h;simp [execOp,hx,Instr.extract,hv]
theorem J6y {k:FuncId} {args:Array Operand} {ts:Array TypeId} {vs:List Value} {fn:Func} (hf:P.funcs[k]? =some fn) (hn:(fn.name == "runtime.NumGoroutine")=false) (hb:fn.body.isNone=false)
  (ha:args.toList.map ρ=vs) (h:Calls P k vs.toArray w fun
   | .returned v,w'=>K v w'
   | .panicked ch,w'=>Kp ch w'
   | .outgrown,_=>False) (he:ρ (.func k)= .func (.func k) #[] #[]):
  St P ρ ⟨dst,.call {callee:= .value (.func k),args:=args,argTypes:=ts},ty,pos,after,gd⟩ w K Kp:=by
 unfold St;have hr:(execOp ρ ⟨dst,.call {callee:= .value (.func k),args:=args,argTypes:=ts},ty,pos,after,gd⟩).run P w= .ok (.enter k vs.toArray) w:=by
  have ha':args.map ρ=vs.toArray:=by rw [← ha];apply Array.ext';simp
  have hn':¬ fn.name= "runtime.NumGoroutine" :=by intro e;rw [e] at hn;simp at hn
  simp [execOp,resolve,Deferred.ofValue,he,invoke,callFunc,hf,ha',hn'];intro e;rw [e] at hb;cases hb
 rw [hr];exact h
theorem J79 {x:Operand} {k:FuncId} {cap:Array Value} {args:Array Operand} {ts:Array TypeId} {vs:List Value} {fn:Func} (hx:ρ x= .func (.func k) #[] cap) (hf:P.funcs[k]? =some fn) (hn:(fn.name == "runtime.NumGoroutine")=false) (hb:fn.body.isNone=false)
  (ha:args.toList.map ρ++cap.toList=vs) (h:Calls P k vs.toArray w fun
   | .returned v,w'=>K v w'
   | .panicked ch,w'=>Kp ch w'
   | .outgrown,_=>False):
  St P ρ ⟨dst,.call {callee:= .value x,args:=args,argTypes:=ts},ty,pos,after,gd⟩ w K Kp:=by
 unfold St;have hr:(execOp ρ ⟨dst,.call {callee:= .value x,args:=args,argTypes:=ts},ty,pos,after,gd⟩).run P w= .ok (.enter k vs.toArray) w:=by
  have ha':args.map ρ++cap=vs.toArray:=by rw [← ha];apply Array.ext';simp
  have hn':¬ fn.name= "runtime.NumGoroutine" :=by intro e;rw [e] at hn;simp at hn
  simp [execOp,resolve,Deferred.ofValue,hx,invoke,callFunc,hf,ha',hn'];intro e;rw [e] at hb;cases hb
 rw [hr];exact h
theorem J5v{x:Operand}{t:TypeId}(ht:P.concrete t=true)(h:K (.iface t (ρ x)) w):St P ρ ⟨dst,.makeInterface t x,ty,pos,after,gd⟩ w K Kp:=by
 refine J5d (v:= .iface t (ρ x)) ?_ h;simp [execOp,run_makeInterface w t (ρ x) ht]
theorem J7z{x i:Operand}{t:TypeId}{s:ByteArray}{k:IntKind}{a:Int}{j:Nat}(ht:P.underlying t=some .string)(hx:ρ x= .string s)(hi:ρ i= .int k a)(ha:a=j)(hj:j < s.size)(h:K (.int .u8 (s[j]'hj).toNat) w):
  St P ρ ⟨dst,.index t x i,ty,pos,after,gd⟩ w K Kp:=by
 subst ha;refine J5d (v:= .int .u8 (s[j]'hj).toNat) ?_ h
 have:s[j]? =some (s[j]'hj):=ByteArray.getElem?_lt' s j hj
 simp [execOp,hx,hi,Instr.index,asIntOf,run_underlying ht,this]
theorem J74 {x:Operand} {t:TypeId} {s:ByteArray} {l r:Operand} {kl kr:IntKind} {a b:Int} {i j:Nat} (ht:P.underlying t=some .string) (hx:ρ x= .string s) (hl:ρ l= .int kl a) (hr:ρ r= .int kr b) (ha:a=i) (hb:b=j) (hij:i≤j) (hj:j≤s.size)
  (h:K (.string (s.extract i j)) w):St P ρ ⟨dst,.slice t x (some l) (some r) none,ty,pos,after,gd⟩ w K Kp:=by
 subst ha;subst hb;refine J5d (v:= .string (s.extract i j)) ?_ h;simp [execOp,hx,hl,hr,Instr.sliceAt,Instr.slice,run_underlying ht,Instr.sliceBounds,Instr.sliceBound,asIntOf,hij,hj]
theorem J7r {x:Operand} {t:TypeId} {s:ByteArray} {l:Operand} {kl:IntKind} {a:Int} {i:Nat} (ht:P.underlying t=some .string) (hx:ρ x= .string s) (hl:ρ l= .int kl a) (ha:a=i) (hij:i≤s.size)
  (h:K (.string (s.extract i s.size)) w):St P ρ ⟨dst,.slice t x (some l) none none,ty,pos,after,gd⟩ w K Kp:=by
 subst ha;refine J5d (v:= .string (s.extract i s.size)) ?_ h;simp [execOp,hx,hl,Instr.sliceAt,Instr.slice,run_underlying ht,Instr.sliceBounds,Instr.sliceBound,asIntOf,hij]
theorem J7p {x:Operand} {t:TypeId} {s:ByteArray} {r:Operand} {kr:IntKind} {b:Int} {j:Nat} (ht:P.underlying t=some .string) (hx:ρ x= .string s) (hr:ρ r= .int kr b) (hb:b=j) (hj:j≤s.size)
  (h:K (.string (s.extract 0 j)) w):St P ρ ⟨dst,.slice t x none (some r) none,ty,pos,after,gd⟩ w K Kp:=by
 subst hb;refine J5d (v:= .string (s.extract 0 j)) ?_ h;simp [execOp,hx,hr,Instr.sliceAt,Instr.slice,run_underlying ht,Instr.sliceBounds,Instr.sliceBound,asIntOf,hj]
theorem J45{x:Operand}{a:Addr}(hx:ρ x= .pointer (some a))(h:K (.pointer (some a)) w):St P ρ ⟨dst,.nilCheck x,ty,pos,after,gd⟩ w K Kp:=by
 refine J5d (v:= .pointer (some a)) ?_ h;simp [execOp,hx]
def Zy(P:Program)(s:TypeId)(i:Nat):Option Nat:=
 match P.underlying s with
 | some (.struct fs)=>match fs[i]? with
  | some f=>match P.info? f.type with
   | some inf=>if inf.size=0 then none else some f.offset
   | none=>none
  | none=>none
 | _=>none
theorem J4o{x:Operand}{s i off:Nat}{b o:Nat}(hs:Zy P s i=some off)(hx:ρ x= .pointer (some ⟨b,o,none⟩))(h:K (.pointer (some ⟨b,o+off,none⟩)) w):
  St P ρ ⟨dst,.fieldAddr s x i,ty,pos,after,gd⟩ w K Kp:=by
 refine J5d (v:= .pointer (some ⟨b,o+off,none⟩)) ?_ h;unfold Zy at hs
 split at hs
 ·rename_i fs hu
  split at hs
  ·rename_i f hf
   split at hs
   ·rename_i inf hi
    split at hs
    ·cases hs
    ·rename_i hz
     cases hs
     simp [execOp,hx,Instr.fieldAt,run_underlying hu,hf,Instr.sureAddr,fieldPlace,sizeOf,typeInfo,hi,hz,Addr.add_lit]
   ·cases hs
  ·cases hs
 ·cases hs
theorem J6h {x i:Operand} {t e sz:Nat} {b o n c:Nat} {k:IntKind} {a:Int} {j:Nat} {inf:TypeInfo} (ht:P.underlying t=some (.slice e)) (hi:P.info? e=some inf) (hsz:inf.size=sz)
  (hx:ρ x= .slice (some ⟨b,o,none⟩) n c) (hy:ρ i= .int k a) (ha:a=j) (hj:j < n) (h:K (.pointer (some ⟨b,o+j * sz,none⟩)) w):
  St P ρ ⟨dst,.indexAddr t x i,ty,pos,after,gd⟩ w K Kp:=by
 subst ha;subst hsz;refine J5d (v:= .pointer (some ⟨b,o+j * inf.size,none⟩)) ?_ h;simp [execOp,hx,hy,Instr.indexAt,asIntOf,run_underlying ht,sizeOf,typeInfo,hi,hj,Addr.add_lit]
def Ym(P:Program)(t:TypeId):Bool:=match P.underlying t with
 | none | some (.struct _) | some (.array _ _)=>false
 | some _=>true
def vr(P:Program)(t:TypeId)(sz:Nat):Bool:=(match P.underlying t with
 | some (.struct _) | some (.array _ _)=>true
 | _=>false) && (match P.info? t with | some i=>i.size == sz | none=>false)
theorem Q8{t:TypeId}(h:Ym P t=true):(isAgg t).run P w= .ok false w:=by
 unfold Ym at h
 split at h
 ·cases h
 ·cases h
 ·cases h
 ·rename_i d h1 h2 hu
  simp only [isAgg,Sem.run_bind,run_underlying hu,Result.andThen_ok]
  cases d <;> first | rfl | (exfalso;first | exact h1 _ rfl | exact h2 _ _ rfl)
theorem zo{t:TypeId}{sz:Nat}(h:vr P t sz=true):(isAgg t).run P w= .ok true w∧(sizeOf t).run P w= .ok sz w:=by
 simp only [vr,Bool.and_eq_true] at h;obtain⟨h1,h2⟩:=h
 constructor
 ·split at h1
  ·rename_i hu;simp [isAgg,run_underlying hu]
  ·rename_i hu;simp [isAgg,run_underlying hu]
  ·cases h1
 ·split at h2
  ·rename_i i hi
   have:i.size=sz:=by simpa using h2
   simp [sizeOf,typeInfo,hi,this]
  ·cases h2
theorem J44{x:Operand}{t:TypeId}{a:Addr}{v:Value}(ht:Ym P t=true)(hx:ρ x= .pointer (some a))(hc:w.cell? a=some v)(h:K v w):
  St P ρ ⟨dst,.load t x,ty,pos,after,gd⟩ w K Kp:=by
 refine J5d (v:=v) ?_ h;simp [execOp,hx,Instr.loadAt,Instr.sureAddr,loadVar,Q8 ht,hc]
theorem J5l {x:Operand} {t:TypeId} {sz b o:Nat} {cs:List Value} (ht:vr P t sz=true) (hx:ρ x= .pointer (some ⟨b,o,none⟩)) (hl:cs.length=sz)
  (hc:∀ j v,cs[j]? =some v→w.cell? ⟨b,o+j,none⟩=some v) (h:K (.agg cs.toArray) w):
  St P ρ ⟨dst,.load t x,ty,pos,after,gd⟩ w K Kp:=by
 refine J5d (v:= .agg cs.toArray) ?_ h
 have:=run_loadCells_list (P:=P) (w:=w) ⟨b,o,none⟩ cs (fun j v hv=>by rw [Addr.add_lit];exact hc j v hv)
 rw [hl] at this;simp [execOp,hx,Instr.loadAt,Instr.sureAddr,loadVar,zo ht,this]
def Blk(w:World)(g:Nat)(C:List Value)(T:TypeId):Prop:=w.heap[g]? =some (.cells C.toArray T (0,0))
theorem Blk.cell{g:Nat}{C:List Value}{T:TypeId}(h:Blk w g C T){j:Nat}{v:Value}(hv:C[j]? =some v):w.cell? ⟨g,j,none⟩=some v:=by
 rw [cell_of_row w g j C.toArray T (0,0) h];simpa using hv
theorem Blk.cells{g:Nat}{C:List Value}{T:TypeId}(h:Blk w g C T){o:Nat}{cs:List Value}(hcs:(C.drop o).take cs.length=cs):∀ j v,cs[j]? =some v→w.cell? ⟨g,o+j,none⟩=some v:=by
 intro j v hv;refine h.cell ?_;rw [← hcs,List.getElem?_take] at hv
 split at hv
 ·rw [List.getElem?_drop] at hv;exact hv
 ·cases hv
theorem Blk.lt{g:Nat}{C:List Value}{T:TypeId}(h:Blk w g C T):g < w.heap.size:=(Array.getElem?_eq_some_iff.1 h).1
theorem Blk.same{g:Nat}{C:List Value}{T:TypeId}{w':World}(h:Blk w g C T)(hs:w'.heap[g]? =w.heap[g]?):Blk w' g C T:=by unfold Blk;rw [hs];exact h
def Kn(w:World)(g:Nat)(C:List Value):World:=w.setRow g C.toArray
theorem Blk.set{g:Nat}{C C':List Value}{T:TypeId}(h:Blk w g C T):Blk (Kn w g C') g C' T:=setRow_heap w g _ _ T (0,0) h
theorem Ve{g k:Nat}{C:List Value}(h:k≠g):(Kn w g C).heap[k]? =w.heap[k]? :=setRow_other w g k _ h
theorem J65 {x y:Operand} {t:TypeId} {sz g o:Nat} {inf:TypeInfo} {C:List Value} {T:TypeId} {vs:List Value} (hi:P.info? t=some inf) (hsz:inf.size=sz)
  (hx:ρ x= .pointer (some ⟨g,o,none⟩)) (hy:(ρ y).cells=vs.toArray) (hl:vs.length=sz) (hb:Blk w g C T) (hfit:o+sz≤C.length) (h1:vs.all Value.oneCell'=true)
  (h:∀ C',C'=C.take o++vs++C.drop (o+vs.length)→K undef (Kn w g C')):St P ρ ⟨dst,.store t x y,ty,pos,after,gd⟩ w K Kp:=by
 refine J7s ?_ (h _ rfl);have hst:=run_storeCells_at P g o T vs 0 C.toArray w hb (by simp;omega) (fun v hv=>List.all_eq_true.1 h1 v hv);simp only [Nat.add_zero] at hst;simp [execOp,hx,hy,Instr.storeAt,Instr.sureAddr,storeVar,sizeOf,typeInfo,hi,hsz,hl,hst,Kn]
theorem St.box{e:TypeId}{x:Operand}{vs:List Value}(hx:(ρ x).cells=vs.toArray)(h:K (.pointer (some ⟨w.heap.size,0,none⟩)) (w.alloc (.cells vs.toArray e (0,0)))):
  St P ρ ⟨dst,.box e x,ty,pos,after,gd⟩ w K Kp:=by
 refine J5d (v:= .pointer (some ⟨w.heap.size,0,none⟩)) ?_ h;simp [execOp,Instr.box,newVar,newRow,hx]
theorem St.alloc{e:TypeId}{inf:TypeInfo}{z:Value}{vs:List Value}(hi:P.info? e=some inf)(hz:inf.zero=some z)(hv:z.cells=vs.toArray)(h:K (.pointer (some ⟨w.heap.size,0,none⟩)) (w.alloc (.cells vs.toArray e (0,0)))):
  St P ρ ⟨dst,.alloc e,ty,pos,after,gd⟩ w K Kp:=by
 refine J5d (v:= .pointer (some ⟨w.heap.size,0,none⟩)) ?_ h;simp [execOp,Instr.alloc,zeroValue,typeInfo,hi,hz,newVar,newRow,hv]
theorem Blk.alloc{C:List Value}{T:TypeId}:Blk (w.alloc (.cells C.toArray T (0,0))) w.heap.size C T:=heap_alloc_new w _
theorem Y4{o:Obj}{k:Nat}(h:k < w.heap.size):(w.alloc o).heap[k]? =w.heap[k]? :=Below.heap_alloc w o k h
end
end Go.Wf
namespace Go.Wf
structure GInt where
 neg:Bool
 mag:List Nat
 deriving DecidableEq,Inhabited
structure GRat where
 num:GInt
 den:GInt
 deriving DecidableEq,Inhabited
inductive GExpr where
 | mk (op:Int) (n:List Int) (c:GRat) (name:List UInt8) (args:List GExpr)
 deriving Inhabited
def GExpr.op:GExpr→Int | .mk o _ _ _ _=>o
def GExpr.n:GExpr→List Int | .mk _ n _ _ _=>n
def GExpr.c:GExpr→GRat | .mk _ _ c _ _=>c
def GExpr.name:GExpr→List UInt8 | .mk _ _ _ s _=>s
def GExpr.args:GExpr→List GExpr | .mk _ _ _ _ a=>a
def trim:List Nat→List Nat
 | []=>[]
 | d::r=>match trim r with
  | []=>if d=0 then [] else [d]
  | t=>d::t
theorem yb:∀ l:List Nat,trim (l++[0])=trim l
 | []=>by simp [trim]
 | d::r=>by rw [List.cons_append,trim,trim,yb r]
theorem Jdh{d:Nat}(h:d≠0):∀ l:List Nat,trim (l++[d])=l++[d]
 | []=>by simp [trim,h]
 | e::r=>by
  rw [List.cons_append,trim,Jdh h r]
  cases r <;> rfl
theorem xb(m:List Nat)(j:Nat)(h:j < m.length):m.take (j+1)=m.take j++[m.getD j 0]:=by
 rw [List.take_succ_eq_append_getElem h,J9d,J9f h];rfl
theorem Jv6{m:List Nat}{i j:Nat}(hj:j≤m.length)(hi:i < j):(m.take j)[i]? =some (m.getD i 0):=by
 rw [List.getElem?_take,if_pos hi,J9d,J9f (by omega)];rfl
theorem Jdo{m:List Nat}{j:Nat}(hj:j≤m.length)(h0:(0:Int) < (j:Int))(hz:((m.getD (j - 1) 0:Nat):Int)=0)(h:trim (m.take j)=trim m):trim (m.take (j - 1))=trim m:=by
 obtain⟨i,rfl⟩:∃ i,j=i+1:=⟨j - 1,by omega⟩;rw [Nat.add_sub_cancel] at hz ⊢;have hz':m.getD i 0=0:=by omega
 rw [xb m i (by omega),hz',yb] at h;exact h
theorem Jhi{m:List Nat}{j:Nat}(_hj:j≤m.length)(h0:¬ (0:Int) < (j:Int))(h:trim (m.take j)=trim m):m.take j=trim m:=by
 have:j=0:=by omega
 subst this;rw [← h];rfl
theorem Jdm{m:List Nat}{j:Nat}(hj:j≤m.length)(h0:(0:Int) < (j:Int))(hz:¬ ((m.getD (j - 1) 0:Nat):Int)=0)(h:trim (m.take j)=trim m):m.take j=trim m:=by
 obtain⟨i,rfl⟩:∃ i,j=i+1:=⟨j - 1,by omega⟩;rw [Nat.add_sub_cancel] at hz;have hz':m.getD i 0≠0:=by omega
 rw [xb m i (by omega),Jdh hz'] at h;rw [xb m i (by omega)];exact h
def val:List Nat→Nat
 | []=>0
 | d::r=>d+4294967296 * val r
def Jq:Nat→Nat→List Nat
 | 0,_=>[]
 | n+1,v=>v % 4294967296::Jq n (v / 4294967296)
def digs(v:Nat):List Nat:=trim (Jq v v)
def Jn(l:List Nat):Prop:=∀ u ∈ l,u < 4294967296
theorem J6:Jn []:=fun _ h=>by cases h
theorem Zu{d:Nat}{l:List Nat}(hd:d < 4294967296)(h:Jn l):Jn (d::l):=by
 intro u hu
 cases hu with
 | head=>exact hd
 | tail _ hu=>exact h u hu
theorem Zz{l m:List Nat}(h:Jn l)(k:Jn m):Jn (l++m):=by
 intro u hu
 rcases List.mem_append.1 hu with hu | hu
 ·exact h u hu
 ·exact k u hu
theorem Vt{l:List Nat}(h:Jn l)(n:Nat):Jn (l.take n):=fun u hu=>h u (List.mem_of_mem_take hu)
theorem yf{l:List Nat}(h:Jn l)(n:Nat):Jn (l.drop n):=fun u hu=>h u (List.mem_of_mem_drop hu)
theorem Kt(n:Nat):Jn (List.replicate n 0):=fun u hu=>by rw [List.eq_of_mem_replicate hu];omega
theorem Jj{l:List Nat}(h:Jn l)(i:Nat):l.getD i 0 < 4294967296:=by
 rw [J9d]
 cases hi:l[i]? with
 | none=>simp
 | some u=>exact h u (List.mem_of_getElem? hi)
theorem Jg:∀ n v,(Jq n v).length=n
 | 0,_=>rfl
 | n+1,v=>by rw [Jq,J80,Jg n]
theorem J0:∀ n v,Jn (Jq n v)
 | 0,_=>J6
 | n+1,v=>Zu (J9c _ (by omega)) (J0 n _)
theorem Qa:∀ l m:List Nat,val (l++m)=val l+4294967296 ^ l.length * val m
 | [],m=>by simp [val]
 | d::l,m=>by
  rw [List.cons_append,val,val,Qa l m,J80,J9p];rw [J9r,← J9x,J90 (4294967296 ^ l.length) 4294967296];omega
theorem Jd9(n:Nat):val (List.replicate n 0)=0:=by
 induction n with
 | zero=>rfl
 | succ n ih=>rw [List.replicate_succ,val,ih]
theorem Z3(l:List Nat)(d:Nat):val (l++[d])=val l+4294967296 ^ l.length * d:=by rw [Qa];simp [val]
theorem Zp:∀ l:List Nat,Jn l→val l < 4294967296 ^ l.length
 | [],_=>by simp [val]
 | d::l,h=>by
  have h1:d < 4294967296:=h d (by simp);have h2:=Zp l fun u hu=>h u (by simp [hu]);rw [val,J80,J9p];omega
theorem Zd:∀ n v,v < 4294967296 ^ n→val (Jq n v)=v
 | 0,v,h=>by simp at h;subst h;rfl
 | n+1,v,h=>by
  rw [Jq,val,Zd n (v / 4294967296) (by rw [J9p] at h;exact Nat.div_lt_of_lt_mul (by rw [J90];exact h))];omega
theorem Jdv:∀ l:List Nat,Jn l→Jq l.length (val l)=l
 | [],_=>rfl
 | d::l,h=>by
  have h1:d < 4294967296:=h d (by simp);have h2:=Jdv l fun u hu=>h u (by simp [hu]);rw [J80,Jq,val];rw [show(d+4294967296 * val l) % 4294967296=d by omega,show(d+4294967296 * val l) / 4294967296=val l by omega,h2]
theorem Y2:∀ l:List Nat,val (trim l)=val l
 | []=>rfl
 | d::r=>by
  have:=Y2 r
  rw [trim]
  split
  ·rename_i h
   rw [h] at this;simp only [val] at this
   split
   ·rename_i hd;simp only [val];omega
   ·simp only [val];omega
  ·simp only [val];omega
theorem Ks:∀ l:List Nat,trim l=[]↔val l=0
 | []=>by simp [trim,val]
 | d::r=>by
  have:=Ks r
  rw [trim,val]
  split
  ·rename_i h
   have hv:=this.1 h
   split
   ·rename_i hd;simp [hd,hv]
   ·rename_i hd;simp;omega
  ·rename_i h
   constructor
   ·intro e;cases e
   ·intro e;exact absurd (this.2 (by omega)) h
theorem Jw:∀ l:List Nat,(trim l).length≤l.length
 | []=>J9g _
 | d::r=>by
  have:=Jw r
  rw [trim]
  split
  ·split <;> simp
  ·simp only [J80];omega
theorem Zk:∀ {l:List Nat},Jn l→Jn (trim l)
 | [],_=>J6
 | d::r,h=>by
  have hd:d < 4294967296:=h d (by simp);have hr:=Zk (l:=r) fun u hu=>h u (by simp [hu]);rw [trim]
  split
  ·split
   ·exact J6
   ·exact Zu hd J6
  ·exact Zu hd hr
theorem Jft:∀ {l m:List Nat},Jn l→Jn m→val l=val m→trim l=trim m
 | [],m,_,_,h=>by rw [(Ks m).2 h.symm];rfl
 | d::r,[],_,_,h=>by rw [(Ks (d::r)).2 h];rfl
 | d::r,e::q,hl,hm,h=>by
  have h1:d < 4294967296:=hl d (by simp);have h2:e < 4294967296:=hm e (by simp);rw [val,val] at h;have hde:d=e:=by omega
  have:=Jft (l:=r) (m:=q) (fun u hu=>hl u (by simp [hu])) (fun u hu=>hm u (by simp [hu])) (by omega)
  rw [trim,trim,this,hde]
theorem Jmx(v:Nat):v < 4294967296 ^ v:=Nat.lt_pow_self (by omega)
theorem Jt(v:Nat):val (digs v)=v:=by rw [digs,Y2,Zd v v (Jmx v)]
theorem Zx(v:Nat):Jn (digs v):=Zk (J0 _ _)
theorem X5{l:List Nat}(h:Jn l):trim l=digs (val l):=by
 unfold digs;exact Jft h (J0 _ _) (by rw [Zd _ _ (Jmx _)])
theorem yd{l:List Nat}{v:Nat}(h:Jn l)(hv:val l=v):trim l=digs v:=by rw [X5 h,hv]
theorem Yx(v:Nat):trim (digs v)=digs v:=by rw [X5 (Zx v),Jt]
theorem Xt{l:List Nat}(h:Jn l):trim (trim l)=trim l:=by rw [X5 h,Yx]
theorem xh:digs 0=[]:=rfl
theorem X1(v:Nat):digs v=[]↔v=0:=by
 unfold digs;rw [Ks,Zd _ _ (Jmx v)]
theorem Jz{v n:Nat}(h:v < 4294967296 ^ n):(digs v).length≤n:=by
 have:digs v=trim (Jq n v):=(yd (J0 n v) (Zd n v h)).symm
 rw [this];exact J86 (Jw _) (by rw [Jg];exact J9g _)
theorem Qk(v:Nat):v < 4294967296 ^ (digs v).length:=by
 have:=Zp _ (Zx v);rwa [Jt] at this
theorem Jb0{v:Nat}(h0:v≠0)(h:v < 4294967296):digs v=[v]:=by
 have:trim [v]=digs v:=yd (Zu h J6) (by simp [val])
 rw [← this];simp [trim,h0]
theorem Jp1{v:Nat}(h0:4294967296≤v)(h:v < 18446744073709551616):digs v=[v % 4294967296,v / 4294967296]:=by
 have:trim [v % 4294967296,v / 4294967296]=digs v:=yd (Zu (J9c _ (by omega)) (Zu (by omega) J6)) (by simp [val];omega)
 rw [← this];simp [trim,show ¬ v / 4294967296=0 by omega]
theorem Jr(l:List Nat)(i:Nat):val (l.take (i+1))=val (l.take i)+4294967296 ^ i * l.getD i 0:=by
 rcases J9w i l.length with h | h
 ·rw [xb l i h,Z3,J9b,Nat.min_eq_left (by omega)]
 ·rw [J9o (by omega),J9o h,J9d,J9z h];simp
theorem Y0{l:List Nat}{n v:Nat}(hs:Jn l)(hl:l.length=n)(hv:val l=v):l=Jq n v:=by
 rw [← hl,← hv,Jdv l hs]
theorem K1{n v:Nat}(h:v < 4294967296 ^ n):trim (Jq n v)=digs v:=yd (J0 n v) (Zd n v h)
def Jl(b:Bool)(n:Nat):Int:=if b then -(n:Int) else n
def GInt.toZ(a:GInt):Int:=Jl a.neg (val a.mag)
def ofZ(z:Int):GInt:=⟨decide (z < 0),digs z.natAbs⟩
def mkSg(neg:Bool)(m:List Nat):GInt:=⟨neg && decide (0 < (trim m).length),trim m⟩
end Go.Wf
namespace Go.Wf
open Go Go.RowKit
structure Tr (X:Nat→Prop) (w:World) (X':Nat→Prop) (w':World):Prop where
 sub:∀ b,b < w.heap.size→X' b→X b
 blk:∀ b,b < w.heap.size→¬ X b→w'.heap[b]? =w.heap[b]?
 size:w.heap.size≤w'.heap.size
theorem Tr.refl(X:Nat→Prop)(w:World):Tr X w X w:=⟨fun _ _ h=>h,fun _ _ _=>rfl,J9g _⟩
theorem Tr.trans{X Y Z:Nat→Prop}{a b c:World}(h:Tr X a Y b)(k:Tr Y b Z c):Tr X a Z c:=
 ⟨fun i hi hz=>h.sub i hi (k.sub i (J85 hi h.size) hz),
  fun i hi hx=>(k.blk i (J85 hi h.size) (fun hy=>hx (h.sub i hi hy))).trans (h.blk i hi hx),
  J86 h.size k.size⟩
theorem Tr.weak{X X':Nat→Prop}{w:World}(h:∀ b,X' b→X b):Tr X w X' w:=⟨fun b _ hb=>h b hb,fun _ _ _=>rfl,J9g _⟩
theorem Tr.below{X:Nat→Prop}{w w':World}(h:Below w.heap.size w w'):Tr X w X w':=⟨fun _ _ h=>h,fun b hb _=>h.block b hb,h.size⟩
theorem Tr.cell{X X':Nat→Prop}{w w':World}(h:Tr X w X' w'){a:Addr}{v:Value}(hx:¬ X a.block)(hc:w.cell? a=some v):w'.cell? a=some v:=
 (World.cell?_of_block (h.blk a.block (World.block_lt_of_cell? w a hc) hx)).trans hc
structure Ty (α:Type) where
 sz:Nat
 pos:0 < sz
 rd:(Nat→Prop)→World→List Value→α→Prop
 len:∀ {X w cs a},rd X w cs a→cs.length=sz
 one:∀ {X w cs a},rd X w cs a→∀ u ∈ cs,u.oneCell'=true
 tr:∀ {X w X' w' cs a},rd X w cs a→Tr X w X' w'→rd X' w' cs a
section
variable {α:Type} (T:Ty α)
def RS(X:Nat→Prop)(w:World)(v:Value)(l:List α):Prop:=
 ∃ a c,v= .slice a l.length c∧l.length≤c∧c≤maxLen∧(l=[]∨∃ b o,a=some ⟨b,o,none⟩∧¬ X b∧
  ∀ i x,l[i]? =some x→∃ cs,T.rd X w cs x∧∀ j u,cs[j]? =some u→w.cell? ⟨b,o+i * T.sz+j,none⟩=some u)
end
section
variable {α:Type} {T:Ty α} {X X':Nat→Prop} {w w':World} {v:Value} {l:List α}
theorem RS.tr(h:RS T X w v l)(t:Tr X w X' w'):RS T X' w' v l:=by
 obtain⟨a,c,rfl,h1,h2,h3⟩:=h;refine⟨a,c,rfl,h1,h2,?_⟩
 by_cases hl:l=[]
 ·exact .inl hl
 rcases h3 with h3 | ⟨b,o,rfl,hx,h3⟩
 ·exact .inl h3
 ·refine .inr ⟨b,o,rfl,?_,?_⟩
  ·have hpos:0 < l.length:=List.length_pos_iff.2 hl;obtain⟨cs,hr,hc⟩:=h3 0 l[0] (by simp [hpos]);have hp:0 < cs.length:=by rw [T.len hr];exact T.pos
   have:=hc 0 cs[0] (by simp [hp])
   have hlt:=World.block_lt_of_cell? w _ this;exact fun hx'=>hx (t.sub b hlt hx')
  ·intro i x hi;obtain⟨cs,hr,hc⟩:=h3 i x hi;exact⟨cs,T.tr hr t,fun j u hu=>t.cell hx (hc j u hu)⟩
theorem RS.len(h:RS T X w v l):∃ a c,v= .slice a l.length c∧l.length≤c∧c≤maxLen:=by
 obtain⟨a,c,rfl,h1,h2,_⟩:=h;exact⟨a,c,rfl,h1,h2⟩
theorem RS.le{a:Option Addr}{n c:Nat}(h:RS T X w (.slice a n c) l):n=l.length∧l.length≤c∧c≤maxLen:=by
 obtain⟨a',c',e,h1,h2,_⟩:=h;cases e;exact⟨rfl,h1,h2⟩
theorem J8g:RS T X w (.slice none 0 0) []:=⟨none,0,rfl,J9g _,by unfold maxLen;omega,.inl rfl⟩
theorem RS.one(h:RS T X w v l):v.oneCell'=true:=by obtain⟨a,c,rfl,_⟩:=h;rfl
theorem RS.at{a:Option Addr}{n c:Nat}(h:RS T X w (.slice a n c) l){i:Nat}{x:α}(hi:l[i]? =some x):
  ∃ b o cs,a=some ⟨b,o,none⟩∧¬ X b∧T.rd X w cs x∧∀ j u,cs[j]? =some u→w.cell? ⟨b,o+i * T.sz+j,none⟩=some u:=by
 obtain⟨a',c',e,h1,h2,h3⟩:=h
 cases e
 rcases h3 with h3 | ⟨b,o,rfl,hx,h3⟩
 ·subst h3;simp at hi
 ·obtain⟨cs,hr,hc⟩:=h3 i x hi;exact⟨b,o,cs,rfl,hx,hr,hc⟩
theorem RS.sub{a:Option Addr}{n c:Nat}(h:RS T X w (.slice a n c) l){i j:Nat}(hij:i≤j)(hj:j≤l.length):
  RS T X w (.slice (if c=i then a else a.map (·.add (i * T.sz))) (j - i) (c - i)) ((l.take j).drop i):=by
 obtain⟨a',c',e,h1,h2,h3⟩:=h
 cases e
 refine⟨if c=i then a else a.map (·.add (i * T.sz)),c - i,?_,?_,?_,?_⟩
 ·have:((l.take j).drop i).length=j - i:=by rw [J9a,J9b];omega
  rw [this]
 ·rw [J9a,J9b];omega
 ·omega
 ·by_cases he:(l.take j).drop i=[]
  ·exact .inl he
  ·have hlt:i < j:=by
    rcases J9w i j with h | h
    ·exact h
    ·exact absurd (J9s (by rw [J9b];omega)) he
   rcases h3 with h3 | ⟨b,o,rfl,hx,h3⟩
   ·subst h3;simp at he
   ·have hci:¬ c=i:=by omega
    refine .inr ⟨b,o+i * T.sz,?_,hx,?_⟩
    ·simp only [hci,if_false,Option.map_some,Addr.add_lit]
    ·intro k x hk;rw [List.getElem?_drop,List.getElem?_take] at hk
     split at hk
     ·obtain⟨cs,hr,hc⟩:=h3 (i+k) x hk;refine⟨cs,hr,fun m u hu=>?_⟩
      have:=hc m u hu
      rw [Nat.add_mul] at this;rw [show o+i * T.sz+k * T.sz+m=o+(i * T.sz+k * T.sz)+m by omega];exact this
     ·cases hk
end
def Je:Ty Nat where
 sz:=1
 pos:=by omega
 rd _ _ cs n:=cs=[.int .u32 n]∧n < 4294967296
 len h:=by rw [h.1];rfl
 one h:=by rw [h.1];intro u hu;simp at hu;subst hu;rfl
 tr h _:=h
def u8Ty:Ty UInt8 where
 sz:=1
 pos:=by omega
 rd _ _ cs n:=cs=[.int .u8 n.toNat]
 len h:=by rw [h];rfl
 one h:=by rw [h];intro u hu;simp at hu;subst hu;rfl
 tr h _:=h
def Zi:Ty Int where
 sz:=1
 pos:=by omega
 rd _ _ cs n:=cs=[.int .i64 n]∧ -9223372036854775808≤n∧n≤9223372036854775807
 len h:=by rw [h.1];rfl
 one h:=by rw [h.1];intro u hu;simp at hu;subst hu;rfl
 tr h _:=h
def str(l:List UInt8):Value:= .string ⟨l.toArray⟩
def K6:Ty (List UInt8) where
 sz:=1
 pos:=by omega
 rd _ _ cs s:=cs=[str s]∧s.length≤maxLen
 len h:=by rw [h.1];rfl
 one h:=by rw [h.1];intro u hu;simp at hu;subst hu;rfl
 tr h _:=h
def intRd(X:Nat→Prop)(w:World)(cs:List Value)(x:GInt):Prop:=∃ s,cs=[.bool x.neg,s]∧RS Je X w s x.mag
def Jv:Ty GInt where
 sz:=2
 pos:=by omega
 rd:=intRd
 len h:=by obtain⟨s,rfl,_⟩:=h;rfl
 one h:=by
  obtain⟨s,rfl,h⟩:=h;intro u hu;simp at hu
  rcases hu with rfl | rfl
  ·rfl
  ·exact h.one
 tr h t:=by obtain⟨s,rfl,h⟩:=h;exact⟨s,rfl,h.tr t⟩
def ratRd(X:Nat→Prop)(w:World)(cs:List Value)(x:GRat):Prop:=
 ∃ s t,cs=[.bool x.num.neg,s,.bool x.den.neg,t]∧RS Je X w s x.num.mag∧RS Je X w t x.den.mag
def Yp:Ty GRat where
 sz:=4
 pos:=by omega
 rd:=ratRd
 len h:=by obtain⟨s,t,rfl,_⟩:=h;rfl
 one h:=by
  obtain⟨s,t,rfl,h,k⟩:=h;intro u hu;simp at hu
  rcases hu with rfl | rfl | rfl | rfl
  ·rfl
  ·exact h.one
  ·rfl
  ·exact k.one
 tr h t:=by obtain⟨s,s',rfl,h,k⟩:=h;exact⟨s,s',rfl,h.tr t,k.tr t⟩
def Xk:Nat→Ty GExpr
 | 0=>{sz:=8,pos:=by omega,rd:=fun _ _ _ _=>False,len:=fun h=>h.elim,one:=fun h=>h.elim,tr:=fun h _=>h.elim}
 | k+1=>
  {
   sz:=8
   pos:=by omega
   rd:=fun X w cs e=>∃ s1 s2 s3 s4,cs=[.int .i64 e.op,s1,.bool e.c.num.neg,s2,.bool e.c.den.neg,s3,str e.name,s4]∧
    -9223372036854775808≤e.op∧e.op≤9223372036854775807∧e.name.length≤maxLen∧
    RS Zi X w s1 e.n∧RS Je X w s2 e.c.num.mag∧RS Je X w s3 e.c.den.mag∧RS (Xk k) X w s4 e.args
   len:=by rintro X w cs a ⟨s1,s2,s3,s4,rfl,_⟩;rfl
   one:=by
    rintro X w cs a ⟨s1,s2,s3,s4,rfl,_,_,_,h1,h2,h3,h4⟩ u hu;simp at hu
    rcases hu with rfl | rfl | rfl | rfl | rfl | rfl | rfl | rfl
    ·rfl
    ·exact h1.one
    ·rfl
    ·exact h2.one
    ·rfl
    ·exact h3.one
    ·rfl
    ·exact h4.one
   tr:=by
    rintro X w X' w' cs a ⟨s1,s2,s3,s4,rfl,g1,g2,g3,h1,h2,h3,h4⟩ t;exact⟨s1,s2,s3,s4,rfl,g1,g2,g3,h1.tr t,h2.tr t,h3.tr t,h4.tr t⟩}
theorem Qe(k:Nat):(Xk k).sz=8:=by cases k <;> rfl
theorem RS.up{α:Type}{T T':Ty α}{X:Nat→Prop}{w:World}{v:Value}{l:List α}(h:RS T X w v l)(hs:T'.sz=T.sz)(hr:∀ cs x,T.rd X w cs x→T'.rd X w cs x):RS T' X w v l:=by
 obtain⟨a,c,rfl,h1,h2,h3⟩:=h;refine⟨a,c,rfl,h1,h2,?_⟩
 rcases h3 with h3 | ⟨b,o,rfl,hx,h3⟩
 ·exact .inl h3
 ·refine .inr ⟨b,o,rfl,hx,fun i x hi=>?_⟩
  obtain⟨cs,hr',hc⟩:=h3 i x hi;exact⟨cs,hr _ _ hr',by rw [hs];exact hc⟩
theorem Jav{X:Nat→Prop}{w:World}:∀ (k j:Nat) (cs:List Value) (e:GExpr),k≤j→(Xk k).rd X w cs e→(Xk j).rd X w cs e:=by
 intro k
 induction k with
 | zero=>intro j cs e _ h;exact h.elim
 | succ k ih=>
  intro j cs e hj h
  cases j with
  | zero=>omega
  | succ j=>
   obtain⟨s1,s2,s3,s4,rfl,g1,g2,g3,h1,h2,h3,h4⟩:=h;exact⟨s1,s2,s3,s4,rfl,g1,g2,g3,h1,h2,h3,h4.up (by rw [Qe,Qe]) fun cs x hx=>ih j cs x (by omega) hx⟩
def Jf:Ty GExpr where
 sz:=8
 pos:=by omega
 rd X w cs e:=∃ k,(Xk k).rd X w cs e
 len h:=by obtain⟨k,h⟩:=h;rw [(Xk k).len h,Qe]
 one h:=by obtain⟨k,h⟩:=h;exact(Xk k).one h
 tr h t:=by obtain⟨k,h⟩:=h;exact⟨k,(Xk k).tr h t⟩
theorem RS.exprs{X:Nat→Prop}{w:World}{v:Value}:∀ {l:List GExpr},RS Jf X w v l→∃ k,RS (Xk k) X w v l:=by
 rintro l ⟨a,c,rfl,h1,h2,h3⟩
 rcases h3 with h3 | ⟨b,o,rfl,hx,h3⟩
 ·exact⟨0,a,c,rfl,h1,h2,.inl h3⟩
 ·have:∃ K,∀ i x,l[i]? =some x→∃ cs,(Xk K).rd X w cs x∧∀ j u,cs[j]? =some u→w.cell? ⟨b,o+i * 8+j,none⟩=some u:=by
   clear h1 h2;have key:∀ n,∃ K,∀ i x,i < n→l[i]? =some x→∃ cs,(Xk K).rd X w cs x∧∀ j u,cs[j]? =some u→w.cell? ⟨b,o+i * 8+j,none⟩=some u:=by
    intro n
    induction n with
    | zero=>exact⟨0,fun i x h=>by omega⟩
    | succ n ih=>
     obtain⟨K,hK⟩:=ih
     by_cases hn:n < l.length
     ·obtain⟨cs,⟨k,hk⟩,hc⟩:=h3 n l[n] (by simp [hn]);refine⟨max K k,fun i x hi hx=>?_⟩
      rcases J9w i n with hl | hl
      ·obtain⟨cs,hr,hc⟩:=hK i x hl hx;exact⟨cs,Jav K _ cs x (by omega) hr,hc⟩
      ·have:i=n:=by omega
       subst this
       have:x=l[i]:=by simpa [hn] using hx.symm
       subst this;exact⟨cs,Jav k _ cs _ (by omega) hk,hc⟩
     ·refine⟨K,fun i x hi hx=>?_⟩
      rcases J9w i n with hl | hl
      ·exact hK i x hl hx
      ·rw [J9z (by omega)] at hx;cases hx
   obtain⟨K,hK⟩:=key l.length;refine⟨K,fun i x hi=>hK i x ?_ hi⟩
   rcases J9w i l.length with h | h
   ·exact h
   ·rw [J9z (by omega)] at hi;cases hi
  obtain⟨K,hK⟩:=this;exact⟨K,some ⟨b,o,none⟩,c,rfl,h1,h2,.inr ⟨b,o,rfl,hx,fun i x hi=>by
   obtain⟨cs,hr,hc⟩:=hK i x hi;exact⟨cs,hr,by rw [Qe];exact hc⟩⟩⟩
theorem yi{X:Nat→Prop}{w:World}{cs:List Value}{e:GExpr}:Jf.rd X w cs e↔
  ∃ s1 s2 s3 s4,cs=[.int .i64 e.op,s1,.bool e.c.num.neg,s2,.bool e.c.den.neg,s3,str e.name,s4]∧
    -9223372036854775808≤e.op∧e.op≤9223372036854775807∧e.name.length≤maxLen∧
    RS Zi X w s1 e.n∧RS Je X w s2 e.c.num.mag∧RS Je X w s3 e.c.den.mag∧RS Jf X w s4 e.args:=by
 constructor
 ·rintro⟨k,h⟩
  cases k with
  | zero=>exact h.elim
  | succ k=>
   obtain⟨s1,s2,s3,s4,rfl,g1,g2,g3,h1,h2,h3,h4⟩:=h;exact⟨s1,s2,s3,s4,rfl,g1,g2,g3,h1,h2,h3,h4.up (by rw [Qe];rfl) fun cs x hx=>⟨k,hx⟩⟩
 ·rintro⟨s1,s2,s3,s4,rfl,g1,g2,g3,h1,h2,h3,h4⟩
  obtain⟨k,h4⟩:=h4.exprs;exact⟨k+1,s1,s2,s3,s4,rfl,g1,g2,g3,h1,h2,h3,h4⟩
def RV{α:Type}(T:Ty α)(X:Nat→Prop)(w:World)(v:Value)(x:α):Prop:=∃ cs,v= .agg cs.toArray∧T.rd X w cs x
theorem RV.tr{α:Type}{T:Ty α}{X X':Nat→Prop}{w w':World}{v:Value}{x:α}(h:RV T X w v x)(t:Tr X w X' w'):RV T X' w' v x:=by
 obtain⟨cs,rfl,h⟩:=h;exact⟨cs,rfl,T.tr h t⟩
structure Bs where
 w:World
 M:Nat→Prop
instance:Coe World Bs:=⟨fun w=>⟨w,fun _=>False⟩⟩
abbrev Bs.heap(B:Bs):=B.w.heap
structure Bel (B:Bs) (w:World):Prop where
 os:w.os=B.w.os
 tape:w.tape=B.w.tape
 output:w.output=B.w.output
 size:B.heap.size≤w.heap.size
 block:∀ k,k < B.heap.size→¬ B.M k→w.heap[k]? =B.heap[k]?
theorem Bel.refl(B:Bs):Bel B B.w:=⟨rfl,rfl,rfl,J9g _,fun _ _ _=>rfl⟩
theorem Bel.trans{B:Bs}{w w':World}(h:Bel B w)(k:Below B.heap.size w w'):Bel B w':=
 ⟨k.os.trans h.os,k.tape.trans h.tape,k.output.trans h.output,J86 h.size k.size,fun i hi hm=>(k.block i hi).trans (h.block i hi hm)⟩
theorem Bel.turn{B:Bs}{w w':World}{g:Nat}(h:Bel B w)(k:Bel ⟨w,(· =g)⟩ w')(hg:B.heap.size≤g∨B.M g):Bel B w':=
 ⟨k.os.trans h.os,k.tape.trans h.tape,k.output.trans h.output,J86 h.size k.size,
  fun i hi hm=>(k.block i (J85 hi h.size) (fun e=>hg.elim (fun q=>by subst e;omega) (fun q=>hm (e ▸ q)))).trans (h.block i hi hm)⟩
structure Cx (X0:Nat→Prop) (w0:Bs) (x y:Nat→Prop) (w:World):Prop where
 below:Bel w0 w
 base:∀ b,X0 b→x b
 bd:∀ b,x b→b < w.heap.size
 yx:∀ b,y b→x b
structure Sp (x y:Nat→Prop) (w:World) (x' y':Nat→Prop) (w':World) (ch:Nat→Prop):Prop where
 tx:Tr x w x' w'
 ty:Tr y w y' w'
 up:∀ b,y b→y' b
 same:∀ b,b < w.heap.size→¬ ch b→w'.heap[b]? =w.heap[b]?
structure Own (w0:Bs) (y:Nat→Prop) (w:World) (g:Nat) (C:List Value) (T:TypeId):Prop where
 mem:y g
 ge:w0.heap.size≤g∨w0.M g
 blk:Blk w g C T
def Zn:Nat→Prop:=fun _=>False
theorem Own.sp{w0:Bs}{x y x' y':Nat→Prop}{w w':World}{ch:Nat→Prop}{g:Nat}{C:List Value}{T:TypeId}(h:Own w0 y w g C T)(s:Sp x y w x' y' w' ch)(hn:¬ ch g):Own w0 y' w' g C T:=
 ⟨s.up _ h.mem,h.ge,h.blk.same (s.same g h.blk.lt hn)⟩
theorem Own.sees{w0:Bs}{y:Nat→Prop}{w:World}{g:Nat}{C:List Value}{T:TypeId}(h:Own w0 y w g C T):∀ b,b=g→y b:=fun _ e=>e ▸ h.mem
theorem Own.spn{w0:Bs}{x y x' y':Nat→Prop}{w w':World}{g:Nat}{C:List Value}{T:TypeId}(h:Own w0 y w g C T)(s:Sp x y w x' y' w' Zn):Own w0 y' w' g C T:=h.sp s id
theorem Own.spo{w0:Bs}{x y x' y':Nat→Prop}{w w':World}{g g':Nat}{C:List Value}{T:TypeId}(h:Own w0 y w g C T)(s:Sp x y w x' y' w' (· =g'))(hn:g≠g'):Own w0 y' w' g C T:=h.sp s hn
theorem RS.sp{α:Type}{T:Ty α}{x y x' y':Nat→Prop}{w w':World}{ch:Nat→Prop}{v:Value}{l:List α}(h:RS T x w v l)(s:Sp x y w x' y' w' ch):RS T x' w' v l:=h.tr s.tx
def Ret(w:World)(Φ:Value→World→Prop):Ending→World→Prop
 | .returned v,w'=>Φ v w'∧Below w.heap.size w w'
 | _,_=>False
def RetM(w:World)(g:Nat)(Φ:Value→World→Prop):Ending→World→Prop
 | .returned v,w'=>Φ v w'∧Bel ⟨w,(· =g)⟩ w'
 | _,_=>False
def Jb(P:Program)(k:FuncId):Bool:=match P.funcs[k]? with
 | some fn=> !(fn.name == "runtime.NumGoroutine") && !fn.body.isNone
 | none=>false
def Zg(P:Program)(t:TypeId):Option (Value × Nat × Nat):=(P.info? t).bind fun i=>i.zero.map fun z=>(z,i.size,i.bytes)
theorem Jy{P:Program}{t:TypeId}{z:Value}{s b:Nat}(h:Zg P t=some (z,s,b)):∃ i,P.info? t=some i∧i.zero=some z∧i.size=s∧i.bytes=b:=by
 unfold Zg at h
 cases hi:P.info? t with
 | none=>rw [hi] at h;cases h
 | some i=>
  rw [hi] at h;simp only [Option.bind_some,Option.map_eq_some_iff] at h;obtain⟨z',hz,e⟩:=h
  cases e
  exact⟨i,rfl,hz,rfl,rfl⟩
section
variable {X0 x y:Nat→Prop} {w0:Bs} {w w':World}
theorem J4z{X0:Nat→Prop}{w0:World}(h:∀ b,X0 b→b < w0.heap.size):Cx X0 w0 X0 Zn w0:=⟨Bel.refl _,fun _ h=>h,h,fun _ h=>h.elim⟩
theorem Cx.next(C:Cx X0 w0 x y w)(h:Below w.heap.size w w'):Cx X0 w0 x y w'∧Sp x y w x y w' Zn:=by
 have hle:=C.below.size;refine⟨⟨C.below.trans (h.mono hle),C.base,fun b hb=>J85 (C.bd b hb) h.size,C.yx⟩,⟨Tr.below h,Tr.below h,fun _ h=>h,fun b hb _=>h.block b hb⟩⟩
theorem Kk(w:World)(o:Obj):Below w.heap.size w (w.alloc o):=(Below.refl _ _).alloc (J9g _) o
theorem Cx.box(C:Cx X0 w0 x y w)(vs:List Value)(T:TypeId):
  Cx X0 w0 (fun b=>x b∨b=w.heap.size) (fun b=>y b∨b=w.heap.size) (w.alloc (.cells vs.toArray T (0,0)))∧
  Sp x y w (fun b=>x b∨b=w.heap.size) (fun b=>y b∨b=w.heap.size) (w.alloc (.cells vs.toArray T (0,0))) Zn∧
  Own w0 (fun b=>y b∨b=w.heap.size) (w.alloc (.cells vs.toArray T (0,0))) w.heap.size vs T:=by
 have hle:=C.below.size;refine⟨⟨C.below.trans ((Kk w _).mono hle),fun b h=> .inl (C.base b h),?_,?_⟩,⟨?_,?_,fun _ h=> .inl h,fun b hb _=>Y4 hb⟩,⟨.inr rfl,.inl hle,Blk.alloc⟩⟩
 ·rintro b (h | rfl)
  ·have:=C.bd b h;simp;omega
  ·simp
 ·rintro b (h | rfl)
  ·exact .inl (C.yx b h)
  ·exact .inr rfl
 ·refine⟨?_,fun b hb _=>Y4 hb,by simp⟩;rintro b hb (h | rfl)
  ·exact h
  ·omega
 ·refine⟨?_,fun b hb _=>Y4 hb,by simp⟩;rintro b hb (h | rfl)
  ·exact h
  ·omega
theorem Cx.set(C:Cx X0 w0 x y w){g:Nat}{cs cs':List Value}{T:TypeId}(o:Own w0 y w g cs T):
  Cx X0 w0 x y (Kn w g cs')∧Sp x y w x y (Kn w g cs') (· =g)∧Own w0 y (Kn w g cs') g cs' T:=by
 have hs:(Kn w g cs').heap.size=w.heap.size:=by simp [Kn,World.setRow]
 have hsame:∀ b,b < w.heap.size→¬ b=g→(Kn w g cs').heap[b]? =w.heap[b]? :=fun b _ hb=>Ve hb;have hb2:Bel w0 (Kn w g cs'):=C.below.turn (g:=g) ⟨rfl,rfl,rfl,by rw [hs];exact J9g _,fun b hb hm=>hsame b hb hm⟩ o.ge;refine⟨⟨hb2,C.base,fun b hb=>by rw [hs];exact C.bd b hb,C.yx⟩,
  ⟨⟨fun _ _ h=>h,fun b hb hx=>hsame b hb (fun e=>hx (e ▸ C.yx _ o.mem)),by omega⟩,⟨fun _ _ h=>h,fun b hb hx=>hsame b hb (fun e=>hx (e ▸ o.mem)),by omega⟩,fun _ h=>h,hsame⟩,
  ⟨o.mem,o.ge,o.blk.set⟩⟩
theorem Cx.turn(C:Cx X0 w0 x y w){g:Nat}{cs cs':List Value}{T:TypeId}(o:Own w0 y w g cs T)(h:Bel ⟨w,(· =g)⟩ w')(hb:Blk w' g cs' T):
  Cx X0 w0 x y w'∧Sp x y w x y w' (· =g)∧Own w0 y w' g cs' T:=
 ⟨⟨C.below.turn h o.ge,C.base,fun b hb=>J85 (C.bd b hb) h.size,C.yx⟩,
  ⟨⟨fun _ _ h=>h,fun b hb hx=>h.block b hb (fun e=>hx (e ▸ C.yx _ o.mem)),h.size⟩,⟨fun _ _ h=>h,fun b hb hx=>h.block b hb (fun e=>hx (e ▸ o.mem)),h.size⟩,fun _ h=>h,fun b hb hn=>h.block b hb hn⟩,
  ⟨o.mem,o.ge,hb⟩⟩
theorem J53{X0:Nat→Prop}{w:World}(g:Nat)(h:∀ b,X0 b→b < w.heap.size)(hg:X0 g):Cx X0 ⟨w,(· =g)⟩ X0 (· =g) w:=
 ⟨Bel.refl _,fun _ h=>h,h,fun _ h=>h ▸ hg⟩
theorem J8j{w:World}{g:Nat}{cs:List Value}{T:TypeId}(h:Blk w g cs T):Own ⟨w,(· =g)⟩ (· =g) w g cs T:=⟨rfl,.inr rfl,h⟩
end
section
variable {P:Program} {ρ:Operand→Value} {dst:Option Tmp} {ty:TypeId} {pos:String} {after:Array Edge} {gd:Option (Nat × Bool)} {w:World} {K:Value→World→Prop} {Kp:List PanicEntry→World→Prop} {X0 x y:Nat→Prop} {w0:Bs}
theorem J4p {k:FuncId} {args:Array Operand} {ts:Array TypeId} {vs:List Value} {Φ:Value→World→Prop} (C:Cx X0 w0 x y w) (hk:Jb P k=true)
  (ha:args.toList.map ρ=vs) (he:ρ (.func k)= .func (.func k) #[] #[]) (hc:Calls P k vs.toArray w (Ret w Φ))
  (h:∀ v w',Cx X0 w0 x y w'→Sp x y w x y w' Zn→Φ v w'→K v w'):
  St P ρ ⟨dst,.call {callee:= .value (.func k),args:=args,argTypes:=ts},ty,pos,after,gd⟩ w K Kp:=by
 unfold Jb at hk
 split at hk
 ·rename_i fn hf
  simp only [Bool.and_eq_true,Bool.not_eq_true'] at hk;refine J6y hf hk.1 hk.2 ha (Calls.mono hc ?_) he;intro e w' hr
  cases e with
  | returned v=>obtain⟨h1,h2⟩:=hr;obtain⟨c,s⟩:=C.next h2;exact h v w' c s h1
  | panicked ch=>exact hr.elim
  | outgrown=>exact hr.elim
 ·cases hk
theorem J77 {k:FuncId} {args:Array Operand} {ts:Array TypeId} {vs:List Value} {g:Nat} {cs:List Value} {T:TypeId} {Φ:Value→World→Prop} {Ψ:Value→World→List Value→Prop} (C:Cx X0 w0 x y w) (o:Own w0 y w g cs T) (hk:Jb P k=true)
  (ha:args.toList.map ρ=vs) (he:ρ (.func k)= .func (.func k) #[] #[]) (hc:Calls P k vs.toArray w (RetM w g Φ)) (hs:∀ v w',Φ v w'→∃ cs',Blk w' g cs' T∧Ψ v w' cs')
  (h:∀ v w' cs',Cx X0 w0 x y w'→Sp x y w x y w' (· =g)→Own w0 y w' g cs' T→Ψ v w' cs'→K v w'):
  St P ρ ⟨dst,.call {callee:= .value (.func k),args:=args,argTypes:=ts},ty,pos,after,gd⟩ w K Kp:=by
 unfold Jb at hk
 split at hk
 ·rename_i fn hf
  simp only [Bool.and_eq_true,Bool.not_eq_true'] at hk;refine J6y hf hk.1 hk.2 ha (Calls.mono hc ?_) he;intro e w' hr
  cases e with
  | returned v=>
   obtain⟨h1,h2⟩:=hr;obtain⟨cs',hb,hp⟩:=hs v w' h1;obtain⟨c,s,o'⟩:=C.turn o h2 hb;exact h v w' cs' c s o' hp
  | panicked ch=>exact hr.elim
  | outgrown=>exact hr.elim
 ·cases hk
theorem J5a {e:TypeId} {o:Operand} {vs:List Value} (C:Cx X0 w0 x y w) (hx:(ρ o).cells=vs.toArray)
  (h:∀ g w' x' y',(∀ b,b < w.heap.size→b≠g)→Cx X0 w0 x' y' w'→Sp x y w x' y' w' Zn→Own w0 y' w' g vs e→K (.pointer (some ⟨g,0,none⟩)) w'):
  St P ρ ⟨dst,.box e o,ty,pos,after,gd⟩ w K Kp:=
 St.box hx (h _ _ _ _ (fun b hb=>by omega) (C.box vs e).1 (C.box vs e).2.1 (C.box vs e).2.2)
theorem J41 {e:TypeId} {z:Value} {sz by_:Nat} {vs:List Value} (C:Cx X0 w0 x y w) (hi:Zg P e=some (z,sz,by_)) (hv:z.cells=vs.toArray)
  (h:∀ g w' x' y',(∀ b,b < w.heap.size→b≠g)→Cx X0 w0 x' y' w'→Sp x y w x' y' w' Zn→Own w0 y' w' g vs e→K (.pointer (some ⟨g,0,none⟩)) w'):
  St P ρ ⟨dst,.alloc e,ty,pos,after,gd⟩ w K Kp:=by
 obtain⟨i,hi',hz,_,_⟩:=Jy hi;exact St.alloc hi' hz hv (h _ _ _ _ (fun b hb=>by omega) (C.box vs e).1 (C.box vs e).2.1 (C.box vs e).2.2)
theorem J5r {a v:Operand} {t:TypeId} {z:Value} {sz by_ g o:Nat} {cs vs cs':List Value} {T:TypeId} (C:Cx X0 w0 x y w) (hb:Own w0 y w g cs T) (hi:Zg P t=some (z,sz,by_))
  (hx:ρ a= .pointer (some ⟨g,o,none⟩)) (hy:(ρ v).cells=vs.toArray) (hl:vs.length=sz) (hfit:Nat.ble (o+sz) cs.length=true) (h1:vs.all Value.oneCell'=true) (hc:cs.take o++vs++cs.drop (o+vs.length)=cs')
  (h:∀ w',Cx X0 w0 x y w'→Sp x y w x y w' (· =g)→Own w0 y w' g cs' T→K undef w'):St P ρ ⟨dst,.store t a v,ty,pos,after,gd⟩ w K Kp:=by
 obtain⟨i,hi',hz,hs,_⟩:=Jy hi;refine J65 hi' hs hx hy hl hb.blk (J9q hfit) h1 ?_;intro C' hC';rw [hc] at hC';subst hC';exact h _ (C.set hb).1 (C.set hb).2.1 (C.set hb).2.2
theorem J4t{a:Operand}{t:TypeId}{g o:Nat}{cs:List Value}{T:TypeId}{v:Value}(hb:Own w0 y w g cs T)(ht:Ym P t=true)(hx:ρ a= .pointer (some ⟨g,o,none⟩))(hv:cs[o]? =some v)(h:K v w):
  St P ρ ⟨dst,.load t a,ty,pos,after,gd⟩ w K Kp:=J44 ht hx (hb.blk.cell hv) h
theorem J46 {a:Operand} {t:TypeId} {g o sz:Nat} {cs vs:List Value} {T:TypeId} (hb:Own w0 y w g cs T) (ht:vr P t sz=true) (hx:ρ a= .pointer (some ⟨g,o,none⟩)) (hl:vs.length=sz) (hv:(cs.drop o).take vs.length=vs)
  (h:K (.agg vs.toArray) w):St P ρ ⟨dst,.load t a,ty,pos,after,gd⟩ w K Kp:=J5l ht hx hl (hb.blk.cells hv) h
structure ElAt {α:Type} (T:Ty α) (x:Nat→Prop) (w:World) (b o:Nat) (cs:List Value) (u:α):Prop where
 out:¬ x b
 rd:T.rd x w cs u
 cell:∀ q v,cs[q]? =some v→w.cell? ⟨b,o+q,none⟩=some v
theorem ElAt.tr{α:Type}{T:Ty α}{x x':Nat→Prop}{w w':World}{b o:Nat}{cs:List Value}{u:α}(h:ElAt T x w b o cs u)(t:Tr x w x' w'):ElAt T x' w' b o cs u:=by
 refine⟨?_,T.tr h.rd t,fun q v hq=>t.cell h.out (h.cell q v hq)⟩;have hp:0 < cs.length:=by rw [T.len h.rd];exact T.pos
 have hlt:=World.block_lt_of_cell? w _ (h.cell 0 cs[0] (by simp [hp]));exact fun hx=>h.out (t.sub b hlt hx)
theorem ElAt.sp{α:Type}{T:Ty α}{x y x' y':Nat→Prop}{w w':World}{b o:Nat}{cs:List Value}{u:α}{ch:Nat→Prop}(h:ElAt T x w b o cs u)(s:Sp x y w x' y' w' ch):ElAt T x' w' b o cs u:=h.tr s.tx
theorem J49 {α:Type} {T:Ty α} {a i:Operand} {t e:TypeId} {z:Value} {by_:Nat} {ad:Option Addr} {n c:Nat} {l:List α} {k:IntKind} {m:Int} {j:Nat} {u:α} (hr:RS T x w (.slice ad n c) l)
  (ht:P.underlying t=some (.slice e)) (hi:Zg P e=some (z,T.sz,by_)) (hx:ρ a= .slice ad n c) (hy:ρ i= .int k m) (hm:m=j) (hj:l[j]? =some u)
  (h:∀ b o cs,ElAt T x w b o cs u→K (.pointer (some ⟨b,o,none⟩)) w):St P ρ ⟨dst,.indexAddr t a i,ty,pos,after,gd⟩ w K Kp:=by
 obtain⟨b,o,cs,rfl,hout,hrd,hc⟩:=hr.at hj;obtain⟨inf,hi',_,hs,_⟩:=Jy hi;have hlt:j < n:=by
  have:=(RS.le hr).1
  rw [this]
  rcases J9w j l.length with h | h
  ·exact h
  ·rw [J9z h] at hj;cases hj
 exact J6h ht hi' hs hx hy hm hlt (h b _ cs ⟨hout,hrd,hc⟩)
theorem J7o {α:Type} {T:Ty α} {a r:Operand} {t e:TypeId} {z:Value} {by_:Nat} {ad:Option Addr} {n c:Nat} {l:List α} {k:IntKind} {m:Int} {j:Nat} (hr:RS T x w (.slice ad n c) l)
  (ht:P.underlying t=some (.slice e)) (hi:Zg P e=some (z,T.sz,by_)) (hx:ρ a= .slice ad n c) (hy:ρ r= .int k m) (hm:m=j) (hj:j≤l.length)
  (h:RS T x w (.slice ad j c) (l.take j)→K (.slice ad j c) w):St P ρ ⟨dst,.slice t a none (some r) none,ty,pos,after,gd⟩ w K Kp:=by
 subst hm;obtain⟨inf,hi',_,hs,_⟩:=Jy hi;obtain⟨hn,hle,hc⟩:=RS.le hr;have hjc:j≤c:=by omega
 refine J5d (v:= .slice ad j c) ?_ (h ?_)
 ·simp [execOp,hx,hy,Instr.sliceAt,Instr.slice,run_underlying ht,Instr.sliceBounds,Instr.sliceBound,asIntOf,hjc,sizeOf,typeInfo,hi',Addr.add]
 ·have:=RS.sub hr (J9h j) hj
  simp only [Nat.zero_mul,Nat.sub_zero,List.drop_zero,Addr.add_zero'] at this;have e:(if c=0 then ad else Option.map (fun x=>x) ad)=ad:=by split <;> cases ad <;> rfl
  rw [e] at this;exact this
theorem J6v {α:Type} {T:Ty α} {a lo:Operand} {t e:TypeId} {z:Value} {by_:Nat} {ad:Option Addr} {n c:Nat} {l:List α} {k:IntKind} {m:Int} {i:Nat} (hr:RS T x w (.slice ad n c) l)
  (ht:P.underlying t=some (.slice e)) (hi:Zg P e=some (z,T.sz,by_)) (hx:ρ a= .slice ad n c) (hy:ρ lo= .int k m) (hm:m=i) (hj:i≤l.length)
  (h:∀ ad',RS T x w (.slice ad' (l.length - i) (c - i)) (l.drop i)→K (.slice ad' (l.length - i) (c - i)) w):St P ρ ⟨dst,.slice t a (some lo) none none,ty,pos,after,gd⟩ w K Kp:=by
 subst hm;obtain⟨inf,hi',_,hs,_⟩:=Jy hi;obtain⟨hn,hle,hc⟩:=RS.le hr;subst hn;have hic:i≤l.length:=hj;refine J5d (v:= .slice (if c=i then ad else ad.map (·.add (i * T.sz))) (l.length - i) (c - i)) ?_ (h _ ?_)
 ·simp [execOp,hx,hy,Instr.sliceAt,Instr.slice,run_underlying ht,Instr.sliceBounds,Instr.sliceBound,asIntOf,hic,sizeOf,typeInfo,hi',hs]
 ·have:=RS.sub hr (i:=i) (j:=l.length) hj (J9g _)
  rw [List.take_length] at this;exact this
structure OS {α:Type} (T:Ty α) (E:TypeId) (w0:Bs) (x y:Nat→Prop) (w:World) (v:Value) (l:List α):Prop where
 ex:∃ css:List (List Value),css.length=l.length∧(∀ (i:Nat) (cs:List Value) (u:α),css[i]? =some cs→l[i]? =some u→T.rd x w cs u)∧w.ownsRow 0 E T.sz v l.length css.flatten
 mem:∀ k,v.ownBlock=some k→(x k∧¬ y k)∧(w0.heap.size≤k∨w0.M k)
theorem J8k{α:Type}{T:Ty α}{E:TypeId}:OS T E w0 x y w (.slice none 0 0) ([]:List α):=
 ⟨⟨[],rfl,fun i cs u h=>by simp at h,World.ownsRow_nil _ _ _ _⟩,fun k h=>by simp [Value.ownBlock] at h⟩
theorem OS.len{α:Type}{T:Ty α}{E:TypeId}{v:Value}{l:List α}(h:OS T E w0 x y w v l):∃ a c,v= .slice a l.length c∧l.length≤c∧c≤maxLen:=by
 obtain⟨⟨css,h1,h2,h3⟩,_⟩:=h
 rcases h3.2 with ⟨rfl,h⟩ | ⟨g,cap,cur,rfl,_,_,h4,h5,_⟩
 ·exact⟨none,0,by rw [h],by omega,by unfold maxLen;omega⟩
 ·exact⟨_,cap,rfl,h4,h5⟩
theorem OS.sp{α:Type}{T:Ty α}{E:TypeId}{v:Value}{l:List α}{x' y':Nat→Prop}{w':World}{ch:Nat→Prop}(h:OS T E w0 x y w v l)(s:Sp x y w x' y' w' ch)(C:Cx X0 w0 x' y' w')(hup:∀ b,x b→x' b):OS T E w0 x' y' w' v l:=by
 obtain⟨⟨css,h1,h2,h3⟩,hm⟩:=h;refine⟨⟨css,h1,fun i cs u hi hl=>T.tr (h2 i cs u hi hl) s.tx,h3.1,?_⟩,?_⟩
 ·rcases h3.2 with h | ⟨g,cap,cur,rfl,hb,hg,r⟩
  ·exact .inl h
  ·refine .inr ⟨g,cap,cur,rfl,hb,?_,r⟩;rw [s.ty.blk g (Array.getElem?_eq_some_iff.1 hg).1 (hm g rfl).1.2];exact hg
 ·intro k hk;have hlt:=(h3.lt k hk).2;exact⟨⟨hup k (hm k hk).1.1,fun hy=>(hm k hk).1.2 (s.ty.sub k hlt hy)⟩,(hm k hk).2⟩
theorem zf{sz:Nat}:∀ (css:List (List Value)),(∀ cs ∈ css,cs.length=sz)→∀ (i j:Nat) (cs:List Value),css[i]? =some cs→j < cs.length→css.flatten[i * sz+j]? =cs[j]? :=by
 intro css
 induction css with
 | nil=>intro _ i j cs h;simp at h
 | cons c css ih=>
  intro hs i j cs hi hj;have hc:=hs c (by simp);rw [List.flatten_cons]
  cases i with
  | zero=>
   simp at hi;subst hi;rw [Nat.zero_mul,Nat.zero_add,List.getElem?_append_left hj]
  | succ i=>
   rw [List.getElem?_append_right (by rw [hc,Nat.succ_mul];omega)]
   have:=ih (fun cs h=>hs cs (by simp [h])) i j cs (by simpa using hi) hj
   rw [← this]
   congr 1
   rw [hc,Nat.succ_mul];omega
theorem OS.toRS{α:Type}{T:Ty α}{E:TypeId}{v:Value}{l:List α}(h:OS T E w0 x y w v l)(C:Cx X0 w0 x y w)(hX:∀ b,X0 b→b < w0.heap.size)(hM:∀ b,w0.M b→y b:=by exact fun _ h=>False.elim h):RS T X0 w v l:=by
 obtain⟨⟨css,h1,h2,h3⟩,hm⟩:=h
 rcases h3.2 with ⟨rfl,h⟩ | ⟨g,cap,cur,rfl,hb,hg,h4,h5,_⟩
 ·exact⟨none,0,by rw [h],by omega,by unfold maxLen;omega,.inl (J9n h)⟩
 ·refine⟨_,cap,rfl,h4,h5,?_⟩
  by_cases hl:l=[]
  ·exact .inl hl
  ·refine .inr ⟨g,0,rfl,fun hx=>by
    have h7:=hX g hx
    rcases(hm g rfl).2 with h8 | h8
    ·omega
    ·exact(hm g rfl).1.2 (hM g h8),?_⟩
   intro i u hi;have hlt:i < l.length:=by
    rcases J9w i l.length with h | h
    ·exact h
    ·rw [J9z h] at hi;cases hi
   have hci:css[i]? =some css[i]:=by simp [h1,hlt]
   have hr:=h2 i _ u hci hi;refine⟨css[i],T.tr hr (Tr.weak C.base),?_⟩;intro j v hv;have hall:∀ cs ∈ css,cs.length=T.sz:=by
    intro cs hcs;obtain⟨q,hq,rfl⟩:=List.mem_iff_getElem.1 hcs;have hq':q < l.length:=by omega
    exact T.len (h2 q _ l[q] (by simp [hq]) (by simp [hq']))
   have hj:j < css[i].length:=by
    rcases J9w j css[i].length with h | h
    ·exact h
    ·rw [J9z h] at hv;cases hv
   have:=zf css hall i j _ hci hj
   rw [hv] at this;have hcell:=h3.cells (g:=g) rfl (i * T.sz+j) v this;rw [Addr.add_lit] at hcell;rw [show 0+i * T.sz+j=0+(i * T.sz+j) by omega];exact hcell
end
def mixL(vals:List (Nat × Value))(mods:List Nat)(f f0:Fr):Fr:=fun t=>match vals.lookup t with
 | some v=>v
 | none=>if mods.contains t then f t else f0 t
theorem Ja6:∀ (vals:List (Nat × Value)) (t:Nat) (v:Value),vals.lookup t=some v→(t,v) ∈ vals:=by
 intro vals
 induction vals with
 | nil=>intro t v h;cases h
 | cons p r ih=>
  intro t v h;obtain⟨k,u⟩:=p;rw [List.lookup_cons] at h
  split at h
  ·rename_i e
   have e':t=k:=by simpa using e
   cases h;subst e';exact List.mem_cons_self
  ·exact List.mem_cons_of_mem _ (ih t v h)
theorem Keep.mix{mods:List Nat}{f0 f:Fr}(h:Keep mods f0 f)(vals:List (Nat × Value))(hv:∀ p ∈ vals,f p.1=p.2):∃ f',f=mixL vals mods f' f0:=by
 refine⟨f,?_⟩
 funext t
 unfold mixL
 split
 ·rename_i v hl
  exact hv (t,v) (Ja6 _ _ _ hl)
 ·split
  ·rfl
  ·rename_i hm;exact h t (by simpa using hm)
theorem Keep.mixL{vals:List (Nat × Value)}{mods:List Nat}{f f0:Fr}(h:∀ t v,vals.lookup t=some v→mods.contains t=true):Keep mods f0 (mixL vals mods f f0):=by
 intro t ht;unfold Wf.mixL
 split
 ·rename_i v hl
  rw [h t v hl] at ht;cases ht
 ·rw [ht];rfl
theorem Keep.upd{mods:List Nat}{f f0:Fr}{d:Nat}{v:Value}(hd:mods.contains d=true)(h:Keep mods f0 f):Keep mods f0 (upd f d v):=by
 intro t ht;unfold Wf.upd
 split
 ·rename_i e;subst e;rw [hd] at ht;cases ht
 ·exact h t ht
theorem Keep.refl{mods:List Nat}{f:Fr}:Keep mods f f:=fun _ _=>rfl
theorem Keep.trans{m1 mods:List Nat}{f g h:Fr}(a:Keep mods f g)(b:Keep m1 g h)(hs:∀ t,mods.contains t=false→m1.contains t=false):Keep mods f h:=
 fun t ht=>(b t (hs t ht)).trans (a t ht)
theorem J0i{f:Fr}:∀ p ∈ ([]:List (Nat × Value)),f p.1=p.2:=fun _ h=>by cases h
theorem Jwn{f:Fr}{d:Nat}{u:Value}{r:List (Nat × Value)}(hd:f d=u)(h:∀ p ∈ r,f p.1=p.2):∀ p ∈ (d,u)::r,f p.1=p.2:=by
 intro p hp
 cases hp with
 | head=>exact hd
 | tail _ hp=>exact h p hp
theorem Keep.updO{mods:List Nat}{f f0:Fr}{d:Nat}{v:Value}(hd:mods.contains d=true)(h:Keep mods f0 f):Keep mods f0 (Wf.updO f (some d) v):=Keep.upd hd h
abbrev Gh:=(Nat→Prop) × (Nat→Prop)
structure RC (X0:Nat→Prop) (w0:Bs) (s:Gh) (w:World) (s':Gh) (w':World):Prop where
 cx:Cx X0 w0 s'.1 s'.2 w'
 sp:Sp s.1 s.2 w s'.1 s'.2 w' Zn
theorem Sp.trans{x y x' y' x'' y'':Nat→Prop}{a b c:World}(h:Sp x y a x' y' b Zn)(k:Sp x' y' b x'' y'' c Zn):Sp x y a x'' y'' c Zn:=
 ⟨h.tx.trans k.tx,h.ty.trans k.ty,fun b hb=>k.up b (h.up b hb),fun b hb _=>(k.same b (J85 hb h.tx.size) id).trans (h.same b hb id)⟩
theorem Sp.refl{x y:Nat→Prop}{w:World}:Sp x y w x y w Zn:=⟨Tr.refl _ _,Tr.refl _ _,fun _ h=>h,fun _ _ _=>rfl⟩
theorem RC.trans{X0:Nat→Prop}{w0:Bs}:∀ (s:Gh) (a:World) (t:Gh) (b:World) (u:Gh) (c:World),RC X0 w0 s a t b→RC X0 w0 t b u c→RC X0 w0 s a u c:=
 fun _ _ _ _ _ _ h k=>⟨k.cx,h.sp.trans k.sp⟩
theorem J6n{X0:Nat→Prop}{w0:Bs}{x y:Nat→Prop}{w:World}(C:Cx X0 w0 x y w):RC X0 w0 (x,y) w (x,y) w.drew:=
 let ⟨c,s⟩:=C.next (Below.refl _ _).drew;⟨c,s⟩
theorem J4q{X0:Nat→Prop}{w0:Bs}{s:Gh}{w:World}(C:Cx X0 w0 s.1 s.2 w):RC X0 w0 s w s w:=⟨C,Sp.refl⟩
theorem J5b {P:Program} {ops:Array Oper} {f:Fr} {w:World} {K:Value→World→Prop} {Kp:List PanicEntry→World→Prop} {dst:Option Tmp} {op:Op} {ty:TypeId} {pos:String} {after:Array Edge}
  (h:St P (fe f) ⟨dst,op,ty,pos,after,none⟩ w K Kp):OpSt P ops f ⟨dst,op,ty,pos,after,none⟩ w K Kp:=by
 unfold OpSt;exact h
theorem J5m {P:Program} {ops:Array Oper} {f:Fr} {w:World} {K:Value→World→Prop} {Kp:List PanicEntry→World→Prop} {dst:Option Tmp} {op:Op} {ty:TypeId} {pos:String} {after:Array Edge} {j:Nat} {b:Bool}
  (hy:Zl ops f j=some b) (h:St P (fe f) ⟨dst,op,ty,pos,after,some (j,b)⟩ w K Kp):OpSt P ops f ⟨dst,op,ty,pos,after,some (j,b)⟩ w K Kp:=by
 unfold OpSt;rw [if_pos (by simp only [Region.wanted,hy,beq_self_eq_true])];exact h
theorem OpSt.opn {P:Program} {ops:Array Oper} {f:Fr} {w:World} {K:Value→World→Prop} {Kp:List PanicEntry→World→Prop} {dst:Option Tmp} {op:Op} {ty:TypeId} {pos:String} {after:Array Edge} {j:Nat} {b c:Bool}
  (hy:Zl ops f j=some c) (hc:(some c == some b)=false) (h:K undef w):OpSt P ops f ⟨dst,op,ty,pos,after,some (j,b)⟩ w K Kp:=by
 unfold OpSt;rw [if_neg (by simp only [Region.wanted,hy,hc];simp)];exact h
theorem RV.int{X:Nat→Prop}{w:World}{v:Value}{x:GInt}(h:RV Jv X w v x):∃ a c,v= .agg #[.bool x.neg,.slice a x.mag.length c]∧RS Je X w (.slice a x.mag.length c) x.mag:=by
 obtain⟨cs,rfl,s,rfl,h⟩:=h;obtain⟨a,c,rfl,_⟩:=h.len;exact⟨a,c,rfl,h⟩
theorem Ji{X:Nat→Prop}{w:World}{s:Value}{b:Bool}{l:List Nat}(h:RS Je X w s l):RV Jv X w (.agg #[.bool b,s]) ⟨b,l⟩:=⟨[_,_],rfl,s,rfl,h⟩
theorem J8h{X:Nat→Prop}{w:World}{v:Value}{x:GRat}(h:RV Yp X w v x):∃ a c a' c',v= .agg #[.bool x.num.neg,.slice a x.num.mag.length c,.bool x.den.neg,.slice a' x.den.mag.length c']∧
  RS Je X w (.slice a x.num.mag.length c) x.num.mag∧RS Je X w (.slice a' x.den.mag.length c') x.den.mag:=by
 obtain⟨cs,rfl,s,t,rfl,h,k⟩:=h;obtain⟨a,c,rfl,_⟩:=h.len;obtain⟨a',c',rfl,_⟩:=k.len;exact⟨a,c,a',c',rfl,h,k⟩
theorem Za{X:Nat→Prop}{w:World}{s t:Value}{b d:Bool}{l m:List Nat}(h:RS Je X w s l)(k:RS Je X w t m):RV Yp X w (.agg #[.bool b,s,.bool d,t]) ⟨⟨b,l⟩,⟨d,m⟩⟩:=⟨[_,_,_,_],rfl,s,t,rfl,h,k⟩
structure ExprParts (X:Nat→Prop) (w:World) (e:GExpr) (a1:Option Addr) (c1:Nat) (a2:Option Addr) (c2:Nat) (a3:Option Addr) (c3:Nat) (a4:Option Addr) (c4:Nat):Prop where
 lo: -9223372036854775808≤e.op
 hi:e.op≤9223372036854775807
 name:e.name.length≤maxLen
 n:RS Zi X w (.slice a1 e.n.length c1) e.n
 num:RS Je X w (.slice a2 e.c.num.mag.length c2) e.c.num.mag
 den:RS Je X w (.slice a3 e.c.den.mag.length c3) e.c.den.mag
 args:RS Jf X w (.slice a4 e.args.length c4) e.args
abbrev ec(e:GExpr)(a1:Option Addr)(c1:Nat)(a2:Option Addr)(c2:Nat)(a3:Option Addr)(c3:Nat)(a4:Option Addr)(c4:Nat):List Value:=
 [.int .i64 e.op,.slice a1 e.n.length c1,.bool e.c.num.neg,.slice a2 e.c.num.mag.length c2,.bool e.c.den.neg,.slice a3 e.c.den.mag.length c3,str e.name,.slice a4 e.args.length c4]
abbrev ea(e:GExpr)(a1:Option Addr)(c1:Nat)(a2:Option Addr)(c2:Nat)(a3:Option Addr)(c3:Nat)(a4:Option Addr)(c4:Nat):Value:=
 .agg #[.int .i64 e.op,.slice a1 e.n.length c1,.bool e.c.num.neg,.slice a2 e.c.num.mag.length c2,.bool e.c.den.neg,.slice a3 e.c.den.mag.length c3,str e.name,.slice a4 e.args.length c4]
theorem Jd{X:Nat→Prop}{w:World}{cs:List Value}{e:GExpr}(h:Jf.rd X w cs e):∃ a1 c1 a2 c2 a3 c3 a4 c4,cs=[.int .i64 e.op,.slice a1 e.n.length c1,.bool e.c.num.neg,.slice a2 e.c.num.mag.length c2,.bool e.c.den.neg,.slice a3 e.c.den.mag.length c3,str e.name,.slice a4 e.args.length c4]∧
  ExprParts X w e a1 c1 a2 c2 a3 c3 a4 c4:=by
 obtain⟨s1,s2,s3,s4,rfl,g1,g2,g3,h1,h2,h3,h4⟩:=yi.1 h;obtain⟨a1,c1,rfl,_⟩:=h1.len;obtain⟨a2,c2,rfl,_⟩:=h2.len;obtain⟨a3,c3,rfl,_⟩:=h3.len;obtain⟨a4,c4,rfl,_⟩:=h4.len;exact⟨a1,c1,a2,c2,a3,c3,a4,c4,rfl,g1,g2,g3,h1,h2,h3,h4⟩
theorem J8e{X:Nat→Prop}{w:World}{v:Value}{e:GExpr}(h:RV Jf X w v e):∃ a1 c1 a2 c2 a3 c3 a4 c4,
  v= .agg #[.int .i64 e.op,.slice a1 e.n.length c1,.bool e.c.num.neg,.slice a2 e.c.num.mag.length c2,.bool e.c.den.neg,.slice a3 e.c.den.mag.length c3,str e.name,.slice a4 e.args.length c4]∧
  ExprParts X w e a1 c1 a2 c2 a3 c3 a4 c4:=by
 obtain⟨cs,rfl,h⟩:=h;obtain⟨a1,c1,a2,c2,a3,c3,a4,c4,rfl,h'⟩:=Jd h;exact⟨a1,c1,a2,c2,a3,c3,a4,c4,rfl,h'⟩
theorem yz {X:Nat→Prop} {w:World} {s1 s2 s3 s4:Value} {o:Int} {b d:Bool} {nm:List UInt8} {l:List Int} {m1 m2:List Nat} {as0:List GExpr} (g1: -9223372036854775808≤o) (g2:o≤9223372036854775807) (g3:nm.length≤maxLen)
  (h1:RS Zi X w s1 l) (h2:RS Je X w s2 m1) (h3:RS Je X w s3 m2) (h4:RS Jf X w s4 as0):
  Jf.rd X w [.int .i64 o,s1,.bool b,s2,.bool d,s3,str nm,s4] (.mk o l ⟨⟨b,m1⟩,⟨d,m2⟩⟩ nm as0):=yi.2 ⟨s1,s2,s3,s4,rfl,g1,g2,g3,h1,h2,h3,h4⟩
theorem Y5 {X:Nat→Prop} {w:World} {s1 s2 s3 s4:Value} {o:Int} {b d:Bool} {nm:List UInt8} {l:List Int} {m1 m2:List Nat} {as0:List GExpr} (g1: -9223372036854775808≤o) (g2:o≤9223372036854775807) (g3:nm.length≤maxLen)
  (h1:RS Zi X w s1 l) (h2:RS Je X w s2 m1) (h3:RS Je X w s3 m2) (h4:RS Jf X w s4 as0):
  RV Jf X w (.agg #[.int .i64 o,s1,.bool b,s2,.bool d,s3,str nm,s4]) (.mk o l ⟨⟨b,m1⟩,⟨d,m2⟩⟩ nm as0):=⟨_,rfl,yz g1 g2 g3 h1 h2 h3 h4⟩
theorem J4w{w w':World}{Φ:Value→World→Prop}{v:Value}(h:Φ v w')(b:Bel w w'):Ret w Φ (.returned v) w':=⟨h,⟨b.os,b.tape,b.output,b.size,fun k hk=>b.block k hk id⟩⟩
theorem RetM.intro{w w':World}{g:Nat}{Φ:Value→World→Prop}{v:Value}(h:Φ v w')(b:Bel ⟨w,(· =g)⟩ w'):RetM w g Φ (.returned v) w':=⟨h,b⟩
section
variable {P:Program} {fn:Func} {R:Ending→World→Prop} {f:Fr} {w:World}
theorem Jd0(hr:fn.results= #[]):∀ tmps:Array Value,(∀ t,tmps.getD t undef=f t)→(results fn tmps).run P w= .ok (.tuple #[]) w:=by
 intro tmps ht;simp [results,hr]
theorem xv(hr:fn.results= #[])(h:R (.returned (.tuple #[])) w):retQ P fn R .normal f w:=⟨_,Jd0 hr,h⟩
def resV(f:Fr)(w:World):ResultVar→Value→Prop
 | .tmp t,v=>f t=v
 | .cell p t,v=>∃ (g o sz:Nat) (cs:List Value),f p= .pointer (some ⟨g,o,none⟩)∧v= .agg cs.toArray∧cs.length=sz∧vr P t sz=true∧∀ j u,cs[j]? =some u→w.cell? ⟨g,o+j,none⟩=some u
def resM(tmps:Array Value):ResultVar→Sem Value
 | .tmp t=>pure (tmps.getD t undef)
 | .cell a t=>do loadVar t (← asAddr (tmps.getD a undef))
theorem Xj(tmps:Array Value):results fn tmps=(do let vs ← fn.results.mapM (resM tmps);pure (if h:vs.size=1 then vs[0] else .tuple vs)):=by
 unfold results
 congr 1
theorem Kw{r:ResultVar}{v:Value}(h:resV (P:=P) f w r v)(tmps:Array Value)(ht:∀ t,tmps.getD t undef=f t):
  (resM tmps r).run P w= .ok v w:=by
 unfold resM
 cases r with
 | tmp t=>
  have:f t=v:=h
  simp only [Sem.run_pure,ht t,this]
 | cell p t=>
  obtain⟨g,o,sz,cs,hp,rfl,hl,ha,hc⟩:=h
  have:=run_loadCells_list (P:=P) (w:=w) ⟨g,o,none⟩ cs (fun j v hv=>by rw [Addr.add_lit];exact hc j v hv)
  rw [hl] at this;simp only [ht p,hp];simp [asAddr,loadVar,zo ha,this]
theorem Jcl{r:ResultVar}{v:Value}(hr:fn.results= #[r])(h:resV (P:=P) f w r v):∀ tmps:Array Value,(∀ t,tmps.getD t undef=f t)→(results fn tmps).run P w= .ok v w:=by
 intro tmps ht
 have:=Kw h tmps ht
 simp only [Xj,hr,List.mapM_toArray,List.mapM_cons,List.mapM_nil,Sem.run_bind,Sem.run_map];rw [this];simp
theorem Ju{r:ResultVar}{v:Value}(hr:fn.results= #[r])(h:resV (P:=P) f w r v)(hR:R (.returned v) w):retQ P fn R .ret f w:=⟨v,Jcl hr h,hR⟩
theorem Jby{r s:ResultVar}{v u:Value}(hr:fn.results= #[r,s])(h:resV (P:=P) f w r v)(k:resV (P:=P) f w s u):∀ tmps:Array Value,(∀ t,tmps.getD t undef=f t)→(results fn tmps).run P w= .ok (.tuple #[v,u]) w:=by
 intro tmps ht;have h1:=Kw h tmps ht;have h2:=Kw k tmps ht;simp only [Xj,hr,List.mapM_toArray,List.mapM_cons,List.mapM_nil,Sem.run_bind,Sem.run_map];rw [h1];simp only [Result.andThen_ok];rw [h2];simp
theorem J9{r s:ResultVar}{v u:Value}(hr:fn.results= #[r,s])(h:resV (P:=P) f w r v)(k:resV (P:=P) f w s u)(hR:R (.returned (.tuple #[v,u])) w):retQ P fn R .ret f w:=⟨_,Jby hr h k,hR⟩
theorem Jb5{r s q:ResultVar}{v u z:Value}(hr:fn.results= #[r,s,q])(h:resV (P:=P) f w r v)(k:resV (P:=P) f w s u)(m:resV (P:=P) f w q z):∀ tmps:Array Value,(∀ t,tmps.getD t undef=f t)→(results fn tmps).run P w= .ok (.tuple #[v,u,z]) w:=by
 intro tmps ht;have h1:=Kw h tmps ht;have h2:=Kw k tmps ht;have h3:=Kw m tmps ht;simp only [Xj,hr,List.mapM_toArray,List.mapM_cons,List.mapM_nil,Sem.run_bind,Sem.run_map];rw [h1];simp only [Result.andThen_ok];rw [h2];simp only [Result.andThen_ok];rw [h3];simp
theorem Jd4{r s q:ResultVar}{v u z:Value}(hr:fn.results= #[r,s,q])(h:resV (P:=P) f w r v)(k:resV (P:=P) f w s u)(m:resV (P:=P) f w q z)(hR:R (.returned (.tuple #[v,u,z])) w):retQ P fn R .ret f w:=⟨_,Jb5 hr h k m,hR⟩
theorem J8d{t:Nat}{v:Value}(h:f t=v):resV (P:=P) f w (.tmp t) v:=h
theorem resV.c{p t g sz:Nat}{w0:Bs}{y:Nat→Prop}{cs:List Value}{T:TypeId}(hb:Own w0 y w g cs T)(hp:f p= .pointer (some ⟨g,0,none⟩))(ha:vr P t sz=true)(hl:cs.length=sz):resV (P:=P) f w (.cell p t) (.agg cs.toArray):=
 ⟨g,0,sz,cs,hp,rfl,hl,ha,hb.blk.cells (by simp)⟩
end
section
variable {P:Program} {ρ:Operand→Value} {dst:Option Tmp} {ty:TypeId} {pos:String} {after:Array Edge} {gd:Option (Nat × Bool)} {w:World} {K:Value→World→Prop} {Kp:List PanicEntry→World→Prop} {X0 x y:Nat→Prop} {w0:Bs}
theorem J47{t:TypeId}{parts:Array (Nat × Operand)}{ps:List (Nat × Value)}{cs:List Value}(hp:(parts.toList.map fun p=>(p.1,ρ p.2))=ps)(hb:P.built t ps=some cs.toArray)(h:K (.agg cs.toArray) w):
  St P ρ ⟨dst,.build t parts,ty,pos,after,gd⟩ w K Kp:=by
 refine J5d (v:= .agg cs.toArray) ?_ h;have e:(parts.map fun(i,x)=>(i,ρ x)).toList=ps:=by rw [← hp];simp
 have:=run_build (P:=P) w t (parts.map fun(i,x)=>(i,ρ x)) cs.toArray (by rw [e];exact hb)
 simp [execOp,this]
def Vx(z:Value)(sz len:Nat)(ps:List (Nat × Value)):Option (Array Value):=
 Instr.fill (fun i=>some (i * sz,sz)) ((Array.range (len * sz)).map (z.cells[· % z.cells.size]!)) ps
theorem V4 {t e:TypeId} {z:Value} {sz by_ len:Nat} {ps:Array (Nat × Value)} {cs:List Value} (ht:P.underlying t=some (.slice e)) (hi:Zg P e=some (z,sz,by_)) (hpos:0 < sz) (h0:0 < len) (hl:len * sz≤2 ^ 24)
  (hc:Vx z sz len ps.toList=some cs.toArray):(Instr.buildSlice t len ps).run P w= .ok (.slice (some ⟨w.heap.size,0,none⟩) len len) (w.alloc (.cells cs.toArray e (0,0))):=by
 obtain⟨i,hi',hz,hs,_⟩:=Jy hi;subst hs;have h1:¬ (len * i.size > 2 ^ 24):=by omega
 have h2:¬ (len * i.size=0):=Nat.ne_of_gt (Nat.mul_pos h0 hpos);unfold Vx at hc;simp [Instr.buildSlice,run_underlying ht,sizeOf,typeInfo,hi',h1,h2,zeroValue,hz,hc,newRow]
end
section
variable {P:Program} {ρ:Operand→Value} {dst:Option Tmp} {ty:TypeId} {pos:String} {after:Array Edge} {gd:Option (Nat × Bool)} {w:World} {K:Value→World→Prop} {Kp:List PanicEntry→World→Prop} {x y:Operand} {xt yt:TypeId} {k:IntKind} {a b:Int}
theorem J42(hx:ρ x= .int k a)(hy:ρ y= .int k b)(ht:a=b→K (.bool true) w)(hf:¬ a=b→K (.bool false) w):St P ρ ⟨dst,.binOp .eql xt x y yt,ty,pos,after,gd⟩ w K Kp:=by
 by_cases h:a=b
 ·exact J5y hx hy (J84 h) (ht h)
 ·exact J5y hx hy (J83 h) (hf h)
theorem J5w(hx:ρ x= .int k a)(hy:ρ y= .int k b)(ht:¬ a=b→K (.bool true) w)(hf:a=b→K (.bool false) w):St P ρ ⟨dst,.binOp .neq xt x y yt,ty,pos,after,gd⟩ w K Kp:=by
 by_cases h:a=b
 ·exact J58 hx hy (by rw [J84 h];rfl) (hf h)
 ·exact J58 hx hy (by rw [J83 h];rfl) (ht h)
theorem J5c(hx:ρ x= .int k a)(hy:ρ y= .int k b)(ht:a < b→K (.bool true) w)(hf:¬ a < b→K (.bool false) w):St P ρ ⟨dst,.binOp .lss xt x y yt,ty,pos,after,gd⟩ w K Kp:=by
 by_cases h:a < b
 ·exact J56 hx hy (J84 h) (ht h)
 ·exact J56 hx hy (J83 h) (hf h)
theorem J6f(hx:ρ x= .int k a)(hy:ρ y= .int k b)(ht:a≤b→K (.bool true) w)(hf:¬ a≤b→K (.bool false) w):St P ρ ⟨dst,.binOp .leq xt x y yt,ty,pos,after,gd⟩ w K Kp:=by
 by_cases h:a≤b
 ·exact J6j hx hy (J84 h) (ht h)
 ·exact J6j hx hy (J83 h) (hf h)
theorem J5o(hx:ρ x= .int k a)(hy:ρ y= .int k b)(ht:b < a→K (.bool true) w)(hf:¬ b < a→K (.bool false) w):St P ρ ⟨dst,.binOp .gtr xt x y yt,ty,pos,after,gd⟩ w K Kp:=by
 by_cases h:b < a
 ·exact J6a hx hy (J84 h) (ht h)
 ·exact J6a hx hy (J83 h) (hf h)
theorem J50(hx:ρ x= .int k a)(hy:ρ y= .int k b)(ht:b≤a→K (.bool true) w)(hf:¬ b≤a→K (.bool false) w):St P ρ ⟨dst,.binOp .geq xt x y yt,ty,pos,after,gd⟩ w K Kp:=by
 by_cases h:b≤a
 ·exact J7a hx hy (J84 h) (ht h)
 ·exact J7a hx hy (J83 h) (hf h)
theorem J5h{o:Oper}(h:St P ρ o w (fun v w'=>∃ b,v= .bool b∧(b=true→K (.bool true) w')∧(b=false→K (.bool false) w')) Kp):St P ρ o w K Kp:=by
 refine h.mono ?_ fun _ _ h=>h
 rintro v w' ⟨b,rfl,h1,h2⟩
 cases b
 ·exact h2 rfl
 ·exact h1 rfl
theorem J5x{x:Operand}{t:TypeId}{s:List UInt8}(ht:P.underlying t=some .string)(hx:ρ x=str s)(h:K (.int .i64 s.length) w):
  St P ρ ⟨dst,.call {callee:= .builtin .len,args:= #[x],argTypes:= #[t]},ty,pos,after,gd⟩ w K Kp:=by
 refine J8v ht hx ?_
 have:(⟨s.toArray⟩:ByteArray).size=s.length:=by simp [ByteArray.size]
 rw [this];exact h
theorem J5u{s t:List UInt8}(hx:ρ x=str s)(hy:ρ y=str t)(ht:s=t→K (.bool true) w)(hf:¬ s=t→K (.bool false) w):St P ρ ⟨dst,.binOp .eql xt x y yt,ty,pos,after,gd⟩ w K Kp:=by
 by_cases h:s=t
 ·exact J7w hx hy (by simpa using h) (ht h)
 ·exact J7w hx hy (by simpa using h) (hf h)
theorem J6r{s t:List UInt8}(hx:ρ x=str s)(hy:ρ y=str t)(ht:¬ s=t→K (.bool true) w)(hf:s=t→K (.bool false) w):St P ρ ⟨dst,.binOp .neq xt x y yt,ty,pos,after,gd⟩ w K Kp:=by
 by_cases h:s=t
 ·exact J73 hx hy (by simpa using h) (hf h)
 ·exact J73 hx hy (by simpa using h) (ht h)
theorem J43{s t:List UInt8}(hx:ρ x=str s)(hy:ρ y=str t)(hl:s.length+t.length≤9223372036854775807)(h:K (str (s++t)) w):St P ρ ⟨dst,.binOp .add xt x y yt,ty,pos,after,gd⟩ w K Kp:=by
 refine J8u hx hy ?_ ?_
 ·simp [ByteArray.size];exact hl
 ·have:(⟨s.toArray⟩:ByteArray)++⟨t.toArray⟩=⟨(s++t).toArray⟩:=by
   apply ByteArray.ext
   simp [ByteArray.data_append]
  rw [this];exact h
theorem J5t{x i:Operand}{t:TypeId}{s:List UInt8}{k:IntKind}{a:Int}{j:Nat}{c:UInt8}(ht:P.underlying t=some .string)(hx:ρ x=str s)(hi:ρ i= .int k a)(ha:a=j)(hj:s[j]? =some c)(h:K (.int .u8 c.toNat) w):
  St P ρ ⟨dst,.index t x i,ty,pos,after,gd⟩ w K Kp:=by
 have hlt:j < s.length:=by
  rcases J9w j s.length with h | h
  ·exact h
  ·rw [J9z h] at hj;cases hj
 refine J7z (j:=j) ht hx hi ha (by simp [ByteArray.size];exact hlt) ?_
 have:(⟨s.toArray⟩:ByteArray)[j]'(by simp [ByteArray.size];exact hlt)=c:=by
  have:s[j]=c:=by rw [J9f hlt] at hj;exact Option.some.inj hj
  rw [← this];rfl
 rw [this];exact h
theorem Vi(s:List UInt8)(i j:Nat):(⟨s.toArray⟩:ByteArray).extract i j=⟨((s.take j).drop i).toArray⟩:=by
 apply ByteArray.ext
 rw [ByteArray.data_extract]
 apply Array.ext'
 simp [List.drop_take]
theorem J6s {x:Operand} {t:TypeId} {s:List UInt8} {l r:Operand} {kl kr:IntKind} {a b:Int} {i j:Nat} (ht:P.underlying t=some .string) (hx:ρ x=str s) (hl:ρ l= .int kl a) (hr:ρ r= .int kr b) (ha:a=i) (hb:b=j) (hij:i≤j) (hj:j≤s.length)
  (h:K (str ((s.take j).drop i)) w):St P ρ ⟨dst,.slice t x (some l) (some r) none,ty,pos,after,gd⟩ w K Kp:=by
 refine J74 ht hx hl hr ha hb hij (by simp [ByteArray.size];exact hj) ?_;rw [Vi];exact h
theorem J6u {x:Operand} {t:TypeId} {s:List UInt8} {l:Operand} {kl:IntKind} {a:Int} {i:Nat} (ht:P.underlying t=some .string) (hx:ρ x=str s) (hl:ρ l= .int kl a) (ha:a=i) (hij:i≤s.length)
  (h:K (str (s.drop i)) w):St P ρ ⟨dst,.slice t x (some l) none none,ty,pos,after,gd⟩ w K Kp:=by
 refine J7r ht hx hl ha (by simp [ByteArray.size];exact hij) ?_
 have:(⟨s.toArray⟩:ByteArray).size=s.length:=by simp [ByteArray.size]
 rw [Vi,this,List.take_length];exact h
theorem J7q {x:Operand} {t:TypeId} {s:List UInt8} {r:Operand} {kr:IntKind} {b:Int} {j:Nat} (ht:P.underlying t=some .string) (hx:ρ x=str s) (hr:ρ r= .int kr b) (hb:b=j) (hj:j≤s.length)
  (h:K (str (s.take j)) w):St P ρ ⟨dst,.slice t x none (some r) none,ty,pos,after,gd⟩ w K Kp:=by
 refine J7p ht hx hr hb (by simp [ByteArray.size];exact hj) ?_;rw [Vi,List.drop_zero];exact h
end
theorem J8f{α:Type}{T:Ty α}{X:Nat→Prop}{w:World}{v:Value}{a b:α}(h:RV T X w v a)(e:a=b):RV T X w v b:=e ▸ h
theorem J8i{α:Type}{T:Ty α}{X:Nat→Prop}{w:World}{v:Value}{a b:List α}(h:RS T X w v a)(e:a=b):RS T X w v b:=e ▸ h
theorem ExprParts.tr {x x':Nat→Prop} {w w':World} {e:GExpr} {a1:Option Addr} {c1:Nat} {a2:Option Addr} {c2:Nat} {a3:Option Addr} {c3:Nat} {a4:Option Addr} {c4:Nat}
  (h:ExprParts x w e a1 c1 a2 c2 a3 c3 a4 c4) (s:Tr x w x' w'):ExprParts x' w' e a1 c1 a2 c2 a3 c3 a4 c4:=⟨h.lo,h.hi,h.name,h.n.tr s,h.num.tr s,h.den.tr s,h.args.tr s⟩
theorem ExprParts.sp {x y x' y':Nat→Prop} {w w':World} {ch:Nat→Prop} {e:GExpr} {a1:Option Addr} {c1:Nat} {a2:Option Addr} {c2:Nat} {a3:Option Addr} {c3:Nat} {a4:Option Addr} {c4:Nat}
  (h:ExprParts x w e a1 c1 a2 c2 a3 c3 a4 c4) (s:Sp x y w x' y' w' ch):ExprParts x' w' e a1 c1 a2 c2 a3 c3 a4 c4:=⟨h.lo,h.hi,h.name,h.n.sp s,h.num.sp s,h.den.sp s,h.args.sp s⟩
def u32v(n:Nat):Value:= .int .u32 n
theorem zx{w:World}{b o:Nat}{cs cs':List Value}{k:Nat}(h:∀ q v,cs[q]? =some v→w.cell? ⟨b,o+q,none⟩=some v)(e:(cs.drop k).take cs'.length=cs'):∀ q v,cs'[q]? =some v→w.cell? ⟨b,o+k+q,none⟩=some v:=by
 intro q v hq;rw [← e,List.getElem?_take] at hq
 split at hq
 ·rw [List.getElem?_drop] at hq
  have:=h _ _ hq
  rw [show o+k+q=o+(k+q) by omega];exact this
 ·cases hq
theorem vk{a:Int}(h: -9223372036854775807≤a∧a≤9223372036854775807):IntKind.i64.wrap (0 - a)= -a:=by rw [J9j _ (by omega)];omega
theorem Jk(n:Nat):IntKind.u32.wrap (n:Int)=((n % 4294967296:Nat):Int):=by rw [IntKind.wrap_u32];omega
theorem Xm(n:Nat):IntKind.u8.wrap (n:Int)=((n % 256:Nat):Int):=by rw [IntKind.wrap_u8];omega
theorem Ja{a b:Nat}(h:a+b≤9223372036854775807):IntKind.i64.wrap ((a:Int)+(b:Int))=((a+b:Nat):Int):=by rw [J9j _ (by omega)];omega
theorem J8{a b:Nat}(h:a+b≤18446744073709551615):IntKind.u64.wrap ((a:Int)+(b:Int))=((a+b:Nat):Int):=by rw [J9i _ (by omega)];omega
theorem vv{a b:Nat}(h:a+b≤4294967295):IntKind.u32.wrap ((a:Int)+(b:Int))=((a+b:Nat):Int):=by rw [IntWalk.u32_in _ (by omega)];omega
theorem zc{a b:Nat}(h:a * b≤9223372036854775807):IntKind.i64.wrap ((a:Int) * (b:Int))=((a * b:Nat):Int):=by rw [← Int.natCast_mul,J9j _ (by omega)]
theorem K4{a b:Nat}(h:a * b≤18446744073709551615):IntKind.u64.wrap ((a:Int) * (b:Int))=((a * b:Nat):Int):=by rw [← Int.natCast_mul,J9i _ (by omega)]
theorem Zw{a b:Nat}(h:b≤a)(h2:a≤9223372036854775807):IntKind.i64.wrap ((a:Int) - (b:Int))=((a - b:Nat):Int):=by rw [J9j _ (by omega)];omega
theorem yu{a b:Nat}(h:b≤a)(h2:a≤255):IntKind.u8.wrap ((a:Int) - (b:Int))=((a - b:Nat):Int):=by rw [IntWalk.u8_in _ (by omega)];omega
theorem Kj{a b:Nat}(h:b≤a)(h2:a≤18446744073709551615):IntKind.u64.wrap ((a:Int) - (b:Int))=((a - b:Nat):Int):=by rw [J9i _ (by omega)];omega
theorem Xo{a b:Nat}(h:a≤18446744073709551615):IntKind.u64.wrap ((a:Int).tdiv (b:Int))=((a / b:Nat):Int):=by
 have:=Nat.div_le_self a b
 rw [show((a:Int).tdiv (b:Int))=((a / b:Nat):Int) from rfl]
 generalize a / b=q at this ⊢
 rw [J9i _ (by omega)]
theorem Yw{a b:Nat}(h:a≤9223372036854775807):IntKind.i64.wrap ((a:Int).tdiv (b:Int))=((a / b:Nat):Int):=by
 have:=Nat.div_le_self a b
 rw [show((a:Int).tdiv (b:Int))=((a / b:Nat):Int) from rfl]
 generalize a / b=q at this ⊢
 rw [J9j _ (by omega)]
theorem xr{a b:Nat}(h:a≤4294967295):IntKind.u32.wrap ((a:Int).tdiv (b:Int))=((a / b:Nat):Int):=by
 have:=Nat.div_le_self a b
 rw [show((a:Int).tdiv (b:Int))=((a / b:Nat):Int) from rfl]
 generalize a / b=q at this ⊢
 rw [IntWalk.u32_in _ (by omega)]
theorem Xr(a b:Nat):(a:Int).tmod (b:Int)=((a % b:Nat):Int):=rfl
theorem Ys(a:Nat){e:Int}{d:Nat}(h:e=(d:Int)):(a:Int) / e=((a / d:Nat):Int):=by subst h;rfl
theorem Jc{α:Type}[Inhabited α]{l:List α}{i:Nat}{d:α}(h:i < l.length):l[i]? =some (l.getD i d):=by
 rw [J9d,J9f h];rfl
section
variable {P:Program} {ρ:Operand→Value} {dst:Option Tmp} {ty:TypeId} {pos:String} {after:Array Edge} {gd:Option (Nat × Bool)} {w:World} {K:Value→World→Prop} {Kp:List PanicEntry→World→Prop} {X0 x y:Nat→Prop} {w0:Bs}
theorem J5s {a i:Operand} {t e:TypeId} {z:Value} {by_ g n c:Nat} {k:IntKind} {m:Int} {j:Nat} (ht:P.underlying t=some (.slice e)) (hi:Zg P e=some (z,1,by_))
  (hx:ρ a= .slice (some ⟨g,0,none⟩) n c) (hy:ρ i= .int k m) (hm:m=j) (hj:j < n) (h:K (.pointer (some ⟨g,j,none⟩)) w):St P ρ ⟨dst,.indexAddr t a i,ty,pos,after,gd⟩ w K Kp:=by
 obtain⟨inf,hi',_,hs,_⟩:=Jy hi;refine J6h ht hi' hs hx hy hm hj ?_;rw [show 0+j * 1=j by omega];exact h
theorem J6e{a:Operand}{t g j u:Nat}{L:List Nat}{E:TypeId}(o:Own w0 y w g (L.map u32v) E)(ht:Ym P t=true)(hx:ρ a= .pointer (some ⟨g,j,none⟩))(hu:L[j]? =some u)(h:K (.int .u32 u) w):
  St P ρ ⟨dst,.load t a,ty,pos,after,gd⟩ w K Kp:=J4t o ht hx (by rw [J94,hu];rfl) h
theorem J5p {a v:Operand} {t g j u:Nat} {z:Value} {by_:Nat} {L:List Nat} {E:TypeId} (C:Cx X0 w0 x y w) (o:Own w0 y w g (L.map u32v) E) (hi:Zg P t=some (z,1,by_)) (hx:ρ a= .pointer (some ⟨g,j,none⟩)) (hv:ρ v= .int .u32 u) (hj:j < L.length)
  (h:∀ w',Cx X0 w0 x y w'→Sp x y w x y w' (· =g)→Own w0 y w' g ((L.set j u).map u32v) E→K undef w'):St P ρ ⟨dst,.store t a v,ty,pos,after,gd⟩ w K Kp:=by
 refine J5r (vs:=[.int .u32 u]) C o hi hx (by rw [hv];rfl) rfl ?_ rfl ?_ h
 ·simp;omega
 ·rw [List.map_set,List.set_eq_take_append_cons_drop]
  have:j < (L.map u32v).length:=by simpa using hj
  rw [if_pos this];simp [u32v]
theorem J51 {t e:TypeId} {l c:Operand} {kl kc:IntKind} {a:Int} {n by_:Nat} (C:Cx X0 w0 x y w) (ht:P.underlying t=some (.slice e)) (hl:ρ l= .int kl a) (hc:ρ c= .int kc a) (ha:a=n) (hb:n≤1099511627776)
  (hi:Zg P e=some (.int .u32 0,1,by_)) (hby:by_≤8)
  (h:∀ g w' x' y',(∀ b,b < w.heap.size→b≠g)→Cx X0 w0 x' y' w'→Sp x y w x' y' w' Zn→Own w0 y' w' g ((List.replicate n 0).map u32v) e→K (.slice (some ⟨g,0,none⟩) n n) w'):
  St P ρ ⟨dst,.makeSlice t l c,ty,pos,after,gd⟩ w K Kp:=by
 obtain⟨i,hi',hz,hs,hby'⟩:=Jy hi;subst ha;have hbytes:(i.bytes:Int) * (n:Int)≤281474976710656:=by
  rw [hby'];have h1:=Nat.mul_le_mul hby hb;have h2:((by_ * n:Nat):Int)≤281474976710656:=by omega
  rw [Int.natCast_mul] at h2;exact h2
 have hr:=run_make (P:=P) w t e i (.int .u32 0) ht hi' hz kl kc (n:Int) (n:Int) (by omega) (Int.le_refl _) hbytes (by omega);have e1:madeCells (Value.int IntKind.u32 0).cells (n * i.size)=((List.replicate n 0).map u32v).toArray:=by
  rw [hs,Nat.mul_one]
  apply Array.ext'
  simp only [madeCells,Value.cells,Array.toList_map,Array.toList_range,List.map_replicate]
  apply List.ext_getElem?
  intro q;simp only [J94,List.getElem?_replicate]
  by_cases hq:q < n
  ·simp [hq,Nat.mod_one,u32v]
  ·simp [hq]
 simp only [Int.toNat_natCast] at hr;rw [e1] at hr;refine J5d (v:= .slice (some ⟨w.heap.size,0,none⟩) n n) (w':=w.alloc (.cells ((List.replicate n 0).map u32v).toArray e (0,0))) ?_ (h _ _ _ _ (fun b hb=>by omega) (C.box _ e).1 (C.box _ e).2.1 (C.box _ e).2.2);simp [execOp,hl,hc,hr]
theorem Own.rowRS{w0:Bs}{X0 x y:Nat→Prop}{w:World}{g:Nat}{L:List Nat}{E:TypeId}(o:Own w0 y w g (L.map u32v) E)(C:Cx X0 w0 x y w)(hX:∀ b,X0 b→b < w0.heap.size){n:Nat}(hn:n=L.length)(hb:n≤1099511627776)(hL:∀ u ∈ L,u < 4294967296)(hM:¬ w0.M g):
  RS Je X0 w (.slice (some ⟨g,0,none⟩) n n) L:=by
 subst hn;refine⟨_,L.length,rfl,J9g _,by unfold maxLen;omega,.inr ⟨g,0,rfl,fun hx=>by have:=hX g hx;rcases o.ge with h | h;(· omega);(· exact hM h),?_⟩⟩;intro i u hi;refine⟨[u32v u],⟨rfl,hL u (List.mem_of_getElem? hi)⟩,?_⟩;intro j v hj
 cases j with
 | zero=>
  simp at hj;subst hj
  have:=o.blk.cell (j:=i) (v:=u32v u) (by rw [J94,hi];rfl)
  rw [show 0+i * Je.sz+0=i by simp [Je]];exact this
 | succ j=>simp at hj
def Jac{α:Type}(T:Ty α)(x:Nat→Prop)(w:World):List (List Value)→List α→Prop
 | [],[]=>True
 | c::cs,a::as0=>T.rd x w c a∧Jac T x w cs as0
 | _,_=>False
theorem Jac.length{α:Type}{T:Ty α}{x:Nat→Prop}{w:World}:∀ {css:List (List Value)} {l:List α},Jac T x w css l→css.length=l.length
 | [],[],_=>rfl
 | [],_::_,h=>h.elim
 | _::_,[],h=>h.elim
 | _::cs,_::as0,h=>by simp [Jac.length h.2]
theorem Jac.at{α:Type}{T:Ty α}{x:Nat→Prop}{w:World}:∀ {css:List (List Value)} {l:List α},Jac T x w css l→∀ (i:Nat) (cs:List Value) (u:α),css[i]? =some cs→l[i]? =some u→T.rd x w cs u
 | [],_,_,i,cs,u,hi,_=>by simp at hi
 | c::css,[],h,_,_,_,_,_=>h.elim
 | c::css,a::as0,h,0,cs,u,hi,hl=>by simp at hi hl;subst hi;subst hl;exact h.1
 | c::css,a::as0,h,i+1,cs,u,hi,hl=>Jac.at h.2 i cs u (by simpa using hi) (by simpa using hl)
theorem Jqg{α:Type}{T:Ty α}{css:List (List Value)}{l:List α}(h:Jac T x w css l):∀ cs ∈ css,cs.length=T.sz:=by
 intro cs hcs;obtain⟨q,hq,rfl⟩:=List.mem_iff_getElem.1 hcs;have hq':q < l.length:=by rw [← h.length];exact hq
 exact T.len (h.at q _ l[q] (by simp [hq]) (by simp [hq']))
theorem Cx.row(C:Cx X0 w0 x y w)(vs:List Value)(T:TypeId):
  Cx X0 w0 (fun b=>x b∨b=w.heap.size) y (w.alloc (.cells vs.toArray T (0,0)))∧Sp x y w (fun b=>x b∨b=w.heap.size) y (w.alloc (.cells vs.toArray T (0,0))) Zn:=by
 have hle:=C.below.size;refine⟨⟨C.below.trans ((Kk w _).mono hle),fun b h=> .inl (C.base b h),?_,fun b h=> .inl (C.yx b h)⟩,⟨?_,Tr.below (Kk w _),fun _ h=>h,fun b hb _=>Y4 hb⟩⟩
 ·rintro b (h | rfl)
  ·have:=C.bd b h;simp;omega
  ·simp
 ·refine⟨?_,fun b hb _=>Y4 hb,by simp⟩;rintro b hb (h | rfl)
  ·exact h
  ·omega
theorem J7m {α:Type} {T:Ty α} {css:List (List Value)} {l:List α} {t E:TypeId} {z:Value} {by_ len:Nat} {parts:Array (Nat × Operand)} {ps:List (Nat × Value)} (C:Cx X0 w0 x y w) (ht:P.underlying t=some (.slice E)) (hi:Zg P E=some (z,T.sz,by_)) (h0:0 < len) (hl:len * T.sz≤2 ^ 24)
  (hp:(parts.toList.map fun p=>(p.1,ρ p.2))=ps) (hc:(Vx z T.sz len ps,css.length)=(some css.flatten.toArray,len)) (hr:Jac T x w css l)
  (h:∀ g w' x',Cx X0 w0 x' y w'→Sp x y w x' y w' Zn→(∀ b,x b→x' b)→OS T E w0 x' y w' (.slice (some ⟨g,0,none⟩) len len) l→K (.slice (some ⟨g,0,none⟩) len len) w'):
  St P ρ ⟨dst,.buildSlice t len parts,ty,pos,after,gd⟩ w K Kp:=by
 have hc1:Vx z T.sz len ps=some css.flatten.toArray:=J87 Prod.fst hc;have hc2:css.length=len:=J87 Prod.snd hc;have hpe:(parts.map fun(i,x)=>(i,ρ x)).toList=ps:=by rw [← hp];simp
 have hrun:=V4 (P:=P) (w:=w) (ps:=parts.map fun(i,x)=>(i,ρ x)) ht hi T.pos h0 hl (by rw [hpe];exact hc1);have hll:l.length=len:=by rw [← hr.length];exact hc2
 refine J5d (v:= .slice (some ⟨w.heap.size,0,none⟩) len len) (by simp [execOp,hrun]) (h _ _ _ (C.row css.flatten E).1 (C.row css.flatten E).2 (fun b hb=> .inl hb) ?_);refine⟨⟨css,hr.length,fun i cs u hi hu=>T.tr (hr.at i cs u hi hu) (C.row css.flatten E).2.tx,?_⟩,?_⟩
 ·have hfl:css.flatten.length=len * T.sz:=by
   rw [List.length_flatten,← hc2];have hall:=Jqg hr;clear hc hc1 hc2 hrun hr hpe hp hll h
   induction css with
   | nil=>simp
   | cons c css ih=>
    rw [J93,List.sum_cons,J80,hall c (by simp),ih fun cs h=>hall cs (by simp [h]),Nat.succ_mul];omega
  refine⟨by rw [hfl,hll],.inr ⟨w.heap.size,len,css.flatten.toArray,by rw [hll],J9h _,heap_alloc_new w _,by omega,?_,by simp [hfl],?_⟩⟩
  ·have:=Nat.le_mul_of_pos_right len T.pos;unfold maxLen;omega
  ·rw [hll,← hfl];exact List.take_length
 ·intro k hk;simp [Value.ownBlock] at hk;subst hk;exact⟨⟨.inr rfl,fun hy=>by have:=C.bd _ (C.yx _ hy);omega⟩,.inl C.below.size⟩
theorem J5f {α:Type} {T:Ty α} {css:List (List Value)} {l:List α} {t E:TypeId} {z:Value} {by_ len:Nat} {parts:Array (Nat × Operand)} {ps:List (Nat × Value)} (C:Cx X0 w0 x y w) (ht:P.underlying t=some (.slice E)) (hi:Zg P E=some (z,T.sz,by_)) (h0:0 < len) (hl:len * T.sz≤2 ^ 24)
  (hp:(parts.toList.map fun p=>(p.1,ρ p.2))=ps) (hc:(Vx z T.sz len ps,css.length)=(some css.flatten.toArray,len)) (hr:Jac T x w css l)
  (h:∀ g w',Cx X0 w0 x y w'→Sp x y w x y w' Zn→RS T x w' (.slice (some ⟨g,0,none⟩) len len) l→K (.slice (some ⟨g,0,none⟩) len len) w'):
  St P ρ ⟨dst,.buildSlice t len parts,ty,pos,after,gd⟩ w K Kp:=by
 have hc1:Vx z T.sz len ps=some css.flatten.toArray:=J87 Prod.fst hc;have hc2:css.length=len:=J87 Prod.snd hc;have hpe:(parts.map fun(i,x)=>(i,ρ x)).toList=ps:=by rw [← hp];simp
 have hrun:=V4 (P:=P) (w:=w) (ps:=parts.map fun(i,x)=>(i,ρ x)) ht hi T.pos h0 hl (by rw [hpe];exact hc1);have hll:l.length=len:=by rw [← hr.length];exact hc2
 refine J5d (v:= .slice (some ⟨w.heap.size,0,none⟩) len len) (by simp [execOp,hrun]) (h _ _ (C.next (Kk w (.cells css.flatten.toArray E (0,0)))).1 (C.next (Kk w _)).2 ?_);refine⟨_,len,by rw [hll],by omega,?_,.inr ⟨w.heap.size,0,rfl,fun hx=>by have:=C.bd _ hx;omega,?_⟩⟩
 ·have:=Nat.le_mul_of_pos_right len T.pos;unfold maxLen;omega
 ·intro i u hi;have hlt:i < l.length:=by
   rcases J9w i l.length with h | h
   ·exact h
   ·rw [J9z h] at hi;cases hi
  have hci:css[i]? =some (css[i]'(by rw [hr.length];exact hlt)):=by simp [hr.length,hlt]
  have hrd:=hr.at i _ u hci hi;refine⟨_,T.tr hrd (Tr.below (Kk w _)),?_⟩;intro j v hv;have hj:j < (css[i]'(by rw [hr.length];exact hlt)).length:=by
   rcases J9w j (css[i]'(by rw [hr.length];exact hlt)).length with h | h
   ·exact h
   ·rw [J9z h] at hv;cases hv
  have hfg:=zf css (Jqg hr) i j _ hci hj;rw [hv] at hfg
  have:=cell_of_row (w.alloc (.cells css.flatten.toArray E (0,0))) w.heap.size (i * T.sz+j) css.flatten.toArray _ (0,0) (heap_alloc_new w _)
  rw [show 0+i * T.sz+j=i * T.sz+j by omega,this];simpa using hfg
structure Src {α:Type} (T:Ty α) (x:Nat→Prop) (w:World) (v:Value) (l:List α):Prop where
 ex:∃ css:List (List Value),css.length=l.length∧(∀ (i:Nat) (cs:List Value) (u:α),css[i]? =some cs→l[i]? =some u→T.rd x w cs u)∧
  ∃ a c,v= .slice a l.length c∧(l=[]∨∃ b o,a=some ⟨b,o,none⟩∧∀ j u,css.flatten[j]? =some u→w.cell? ⟨b,o+j,none⟩=some u)
theorem Jlf{sz:Nat}(hsz:0 < sz)(b o:Nat):∀ (css:List (List Value)) (k:Nat),(∀ cs ∈ css,cs.length=sz)→(∀ (i:Nat) (cs:List Value),css[i]? =some cs→∀ j u,cs[j]? =some u→w.cell? ⟨b,o+(k+i) * sz+j,none⟩=some u)→
  ∀ j u,css.flatten[j]? =some u→w.cell? ⟨b,o+k * sz+j,none⟩=some u:=by
 intro css
 induction css with
 | nil=>intro k _ _ j u h;simp at h
 | cons c css ih=>
  intro k hs hc j u hj;have hcl:=hs c (by simp);rw [List.flatten_cons,List.getElem?_append] at hj
  split at hj
  ·have:=hc 0 c (by simp) j u hj
   rw [Nat.add_zero] at this;exact this
  ·rename_i hge
   have:=ih (k+1) (fun cs h=>hs cs (by simp [h])) (fun i cs hi j u hu=>by
    have:=hc (i+1) cs (by simpa using hi) j u hu
    rw [show k+1+i=k+(i+1) by omega];exact this) (j - c.length) u hj
   rw [show o+k * sz+j=o+(k+1) * sz+(j - c.length) by rw [Nat.succ_mul];omega];exact this
theorem Jev{α β:Type}(l:List α)(p:α→β→Prop)(q:Nat→β→Prop)(h:∀ i x,l[i]? =some x→∃ b,p x b∧q i b):∃ bs:List β,bs.length=l.length∧(∀ (i:Nat) (b:β) (x:α),bs[i]? =some b→l[i]? =some x→p x b)∧∀ (i:Nat) (b:β),bs[i]? =some b→q i b:=by
 induction l generalizing q with
 | nil=>exact⟨[],rfl,fun i b x h=>by simp at h,fun i b h=>by simp at h⟩
 | cons a l ih=>
  obtain⟨b0,h1,h2⟩:=h 0 a (by simp);obtain⟨bs,k1,k2,k3⟩:=ih (fun i=>q (i+1)) (fun i x hx=>h (i+1) x (by simpa using hx));refine⟨b0::bs,by simp [k1],?_,?_⟩
  ·intro i b x hb hx
   cases i with
   | zero=>simp at hb hx;subst hb;subst hx;exact h1
   | succ i=>exact k2 i b x (by simpa using hb) (by simpa using hx)
  ·intro i b hb
   cases i with
   | zero=>simp at hb;subst hb;exact h2
   | succ i=>exact k3 i b (by simpa using hb)
theorem K7{α:Type}{T:Ty α}{css:List (List Value)}{l:List α}(hl:css.length=l.length)(h:∀ (i:Nat) (cs:List Value) (u:α),css[i]? =some cs→l[i]? =some u→T.rd x w cs u):∀ cs ∈ css,cs.length=T.sz:=by
 intro cs hcs;obtain⟨q,hq,rfl⟩:=List.mem_iff_getElem.1 hcs;have hq':q < l.length:=by omega
 exact T.len (h q _ l[q] (by simp [hq]) (by simp [hq']))
theorem Yi{α:Type}{T:Ty α}{v:Value}{l:List α}(h:RS T x w v l):Src T x w v l:=by
 obtain⟨a,c,rfl,h1,h2,h3⟩:=h
 rcases h3 with rfl | ⟨b,o,rfl,hx,h3⟩
 ·exact⟨[],rfl,fun i cs u h=>by simp at h,a,c,rfl,.inl rfl⟩
 ·obtain⟨css,k1,k2,k3⟩:=Jev l (fun x' cs=>T.rd x w cs x') (fun i cs=>∀ j u,cs[j]? =some u→w.cell? ⟨b,o+i * T.sz+j,none⟩=some u) (fun i x hi=>h3 i x hi);refine⟨css,k1,k2,_,c,rfl,.inr ⟨b,o,rfl,?_⟩⟩
  have:=Jlf (w:=w) T.pos b o css 0 (K7 k1 k2) (fun i cs hi j u hu=>by rw [Nat.zero_add];exact k3 i cs hi j u hu)
  intro j u hj
  have:=this j u hj
  rw [Nat.zero_mul,Nat.add_zero] at this;exact this
theorem srcOS{α:Type}{T:Ty α}{E:TypeId}{v:Value}{l:List α}(h:OS T E w0 x y w v l):Src T x w v l:=by
 obtain⟨⟨css,h1,h2,h3⟩,hm⟩:=h
 rcases h3.2 with ⟨rfl,hn⟩ | ⟨g,cap,cur,rfl,hb,hg,h4,h5,_⟩
 ·exact⟨css,h1,h2,none,0,by rw [hn],.inl (J9n hn)⟩
 ·refine⟨css,h1,h2,_,cap,rfl,.inr ⟨g,0,rfl,?_⟩⟩;intro j u hj
  have:=h3.cells (g:=g) rfl j u hj
  rw [Addr.add_lit] at this;exact this
structure Ap (x:Nat→Prop) (w:World) (x':Nat→Prop) (y:Nat→Prop) (w':World):Prop where
 tx:Tr x w x' w'
 same:∀ b,b < w.heap.size→y b→w'.heap[b]? =w.heap[b]?
theorem Own.ap{x':Nat→Prop}{w':World}{g:Nat}{C:List Value}{T:TypeId}(h:Own w0 y w g C T)(s:Ap x w x' y w')(_hm:y g):Own w0 y w' g C T:=⟨h.mem,h.ge,h.blk.same (s.same g h.blk.lt h.mem)⟩
theorem Bel.grown{B:Bs}{w w':World}{o:Option Nat}(h:Bel B w)(g:w.grownBy w' o)(hr:∀ k,o=some k→B.heap.size≤k∨B.M k):Bel B w':=
 ⟨g.os.trans h.os,g.tape.trans h.tape,g.output.trans h.output,J86 h.size g.size,fun k hk hm=>(g.block k (J85 hk h.size) (fun e=>by
  rcases hr k e.symm with h1 | h1
  ·omega
  ·exact hm h1)).trans (h.block k hk hm)⟩
theorem J5k {α:Type} {T:Ty α} {E t:TypeId} {z:Value} {by_:Nat} {v u:Value} {l m:List α} {a b:Operand} (C:Cx X0 w0 x y w) (ht:P.underlying t=some (.slice E)) (hi:Zg P E=some (z,T.sz,by_)) (hx:ρ a=v) (hy:ρ b=u)
  (ho:OS T E w0 x y w v l) (hs:Src T x w u m) (h63:l.length+m.length≤maxLen) (hby:(l.length+m.length) * by_≤140737488355328) (hz:z.cells.size=T.sz)
  (h:∀ v' w' x',Cx X0 w0 x' y w'→Ap x w x' y w'→(∀ b,x b→x' b)→OS T E w0 x' y w' v' (l++m)→K v' w'):
  St P ρ ⟨dst,.call {callee:= .builtin .append,args:= #[a,b],argTypes:= #[t,t]},ty,pos,after,gd⟩ w K Kp:=by
 obtain⟨inf,hi',hz',hsz,hbyt⟩:=Jy hi;obtain⟨⟨css,h1,h2,h3⟩,hm⟩:=ho;obtain⟨css',k1,k2,ad,c,rfl,k3⟩:=hs;have hal:=K7 h1 h2;have hal':=K7 k1 k2;have hfl:∀ (css:List (List Value)),(∀ cs ∈ css,cs.length=T.sz)→css.flatten.length=css.length * T.sz:=by
  intro css
  induction css with
  | nil=>intro _;simp
  | cons c css ih=>intro hh;rw [List.flatten_cons,J8z,hh c (by simp),ih fun cs h=>hh cs (by simp [h]),J80,Nat.succ_mul];omega
 have key:∃ v' w',(Builtin.append_ #[t,t] ty #[v,.slice ad m.length c]).run P w= .ok v' w'∧w'.ownsRow 0 E T.sz v' (l.length+m.length) (css.flatten++css'.flatten)∧w.grownBy w' v.ownBlock∧
   (∀ k,v'.ownBlock=some k→v.ownBlock=some k∨(w.heap.size≤k∧k < w'.heap.size)):=by
  by_cases hml:m=[]
  ·subst hml;have hcss':css'=[]:=J9n (by simpa using k1);subst hcss';simp only [J81,Nat.add_zero,List.flatten_nil,J92];refine⟨v,w,?_,h3,⟨rfl,rfl,rfl,J9g _,fun _ _ _=>rfl⟩,fun k hk=> .inl hk⟩
   rcases h3.2 with ⟨rfl,hn⟩ | ⟨g,cap,cur,rfl,hb,hg,h4,h5,_⟩
   ·cases ad <;> simp [Builtin.append_,run_underlying ht,sizeOf,typeInfo,hi',Builtin.lenOf,Builtin.firstCells,loadCells,loadCellsFrom]
   ·cases ad <;> simp [Builtin.append_,run_underlying ht,sizeOf,typeInfo,hi',Builtin.lenOf,Builtin.firstCells,loadCells,loadCellsFrom,h4,storeCells]
  ·rcases k3 with k3 | ⟨bb,oo,rfl,hcell⟩
   ·exact absurd k3 hml
   have hmpos:0 < m.length:=List.length_pos_iff.2 hml;have hnl:css'.flatten.length=m.length * T.sz:=by rw [hfl css' hal',k1]
   have hnews:∀ j u,css'.flatten[j]? =some u→w.cell? ((⟨bb,oo,none⟩:Addr).add j)=some u:=fun j u hj=>by rw [Addr.add_lit];exact hcell j u hj
   have hone:∀ u ∈ css'.flatten,u.oneCell'=true:=by
    intro u hu;obtain⟨cs,hcs,hu'⟩:=List.mem_flatten.1 hu;obtain⟨q,hq,rfl⟩:=List.mem_iff_getElem.1 hcs;have hq':q < m.length:=by omega
    exact T.one (k2 q _ m[q] (by simp [hq]) (by simp [hq'])) u hu'
   rcases h3.2 with ⟨rfl,hn⟩ | ⟨g,cap,cur,rfl,hbg,hg,hnc,hcm,hcs,htake⟩
   ·
    have hl:l=[]:=J9n hn;subst hl;have hcss:css=[]:=J9n (by simpa using h1);subst hcss;have hr:=run_append_nil (P:=P) w t ty E inf z ht hi' hz' ⟨bb,oo,none⟩ m.length c css'.flatten (by rw [hnl,hsz]) hnews hmpos (by simp only [maxLen,J81] at h63;omega) (by rw [hbyt];have hb:=hby;simp only [J81,Nat.zero_add] at hb;omega);simp only [J81,Nat.zero_add,List.flatten_nil,J9t];refine⟨_,_,hr,⟨by rw [hnl],.inr ⟨w.heap.size,_,_,rfl,J9h _,heap_alloc_new w.drew _,grownCap_ge w _ _ E,grownCap_le_maxLen w _ _ E (by simpa using h63),?_,?_⟩⟩,⟨rfl,rfl,rfl,by simp,fun k hk _=>Below.heap_alloc w.drew _ k hk⟩,?_⟩
    ·have hge:=grownCap_ge w m.length 0 E;simp only [Array.size_append,List.size_toArray,size_zeroCells,hz,hnl,← Nat.add_mul]
     congr 1;omega
    ·simp only [Array.toList_append,← hnl];exact List.take_left
    ·intro k hk;simp [Value.ownBlock] at hk;subst hk;exact .inr ⟨J9g _,by simp⟩
   ·by_cases hroom:l.length+m.length≤cap
    ·have hfit:l.length * inf.size+css'.flatten.length≤cur.size:=by rw [hsz,hnl,hcs,← Nat.add_mul];exact Nat.mul_le_mul_right _ hroom
     have hr:=run_append_room (P:=P) w t ty E inf ht hi' g l.length cap cur hg ⟨bb,oo,none⟩ m.length c css'.flatten (by rw [hnl,hsz]) hnews hone hroom hfit;rw [hsz] at hr hfit;have hlen:(css.flatten++css'.flatten).length=(l.length+m.length) * T.sz:=by rw [J8z,hnl,hfl css hal,h1,Nat.add_mul]
     refine⟨_,_,hr,⟨hlen,.inr ⟨g,cap,_,rfl,hbg,setRow_heap w g cur _ E _ hg,hroom,hcm,?_,?_⟩⟩,⟨rfl,rfl,rfl,by simp,fun k hk hne=>setRow_other w g k _ (fun e=>hne (by simp [Value.ownBlock,e]))⟩,fun k hk=> .inl hk⟩
     ·simp only [List.size_toArray,J8z,J9b,J9a,Array.length_toList];omega
     ·rw [htake,← hlen];exact List.take_left
    ·have holds:∀ j u,css.flatten[j]? =some u→w.cell? ((⟨g,0,none⟩:Addr).add j)=some u:=h3.cells (g:=g) rfl;have hr:=run_append_grow (P:=P) w t ty E inf z ht hi' hz' ⟨g,0,none⟩ l.length cap css.flatten (by rw [h3.1,hsz]) holds ⟨bb,oo,none⟩ m.length c css'.flatten (by rw [hnl,hsz]) hnews (by omega) (by simp only [maxLen] at h63;omega) (by rw [hbyt];exact growslice_fits (by omega) hby);have hlen:(css.flatten++css'.flatten).length=(l.length+m.length) * T.sz:=by rw [J8z,hnl,hfl css hal,h1,Nat.add_mul]
     refine⟨_,_,hr,⟨hlen,.inr ⟨w.heap.size,_,_,rfl,J9h _,heap_alloc_new w.drew _,grownCap_ge w _ _ E,grownCap_le_maxLen w _ _ E h63,?_,?_⟩⟩,⟨rfl,rfl,rfl,by simp,fun k hk _=>Below.heap_alloc w.drew _ k hk⟩,?_⟩
     ·have hge:=grownCap_ge w (l.length+m.length) cap E;have e1:css.flatten.length=l.length * T.sz:=by rw [hfl css hal,h1]
      simp only [Array.size_append,List.size_toArray,size_zeroCells,hz,hnl,e1,← Nat.add_mul]
      congr 1;omega
     ·simp only [Array.toList_append,J89];rw [← J89,← hlen];exact List.take_left
     ·intro k hk;simp [Value.ownBlock] at hk;subst hk;exact .inr ⟨J9g _,by simp⟩
 obtain⟨v',w',hr,hown,hg,hnew⟩:=key;have hxle:=hg.size;have hrow:∀ k,v.ownBlock=some k→w0.heap.size≤k∨w0.M k:=fun k hk=>(hm k hk).2;have htx:Tr x w (fun b=>x b∨(w.heap.size≤b∧b < w'.heap.size)) w':=by
  refine⟨?_,fun b hb hx=>hg.block b hb (fun e=>hx (hm b e.symm).1.1),hxle⟩;rintro b hb (h | h)
  ·exact h
  ·omega
 refine J5d (v:=v') (w':=w') ?_ (h v' w' (fun b=>x b∨(w.heap.size≤b∧b < w'.heap.size)) ?_ ⟨htx,?_⟩ (fun b hb=> .inl hb) ?_)
 ·simp only [execOp,resolve,invoke,builtin,Sem.run_bind,Sem.run_pure,Result.andThen_ok,List.map_toArray,J93,List.map_nil,hx,hy,hr]
 ·refine⟨C.below.grown hg hrow,fun b hb=> .inl (C.base b hb),?_,fun b hb=> .inl (C.yx b hb)⟩;rintro b (hb | hb)
  ·exact J85 (C.bd b hb) hxle
  ·exact hb.2
 ·intro b hb hyb;exact hg.block b hb (fun e=>(hm b e.symm).1.2 hyb)
 ·refine⟨⟨css++css',by simp [h1,k1],?_,?_⟩,?_⟩
  ·intro i cs u hic hiu;rw [List.getElem?_append] at hic hiu
   by_cases hil:i < l.length
   ·rw [if_pos (by omega)] at hic;rw [if_pos hil] at hiu;exact T.tr (h2 i cs u hic hiu) htx
   ·rw [if_neg (by omega)] at hic;rw [if_neg hil] at hiu;rw [h1] at hic;exact T.tr (k2 _ cs u hic hiu) htx
  ·rw [List.flatten_append,J8z];exact hown
  ·intro k hk
   rcases hnew k hk with hk' | hk'
   ·exact⟨⟨.inl (hm k hk').1.1,(hm k hk').1.2⟩,(hm k hk').2⟩
   ·exact⟨⟨.inr hk',fun hyk=>by have:=C.bd k (C.yx k hyk);omega⟩,.inl (J86 C.below.size hk'.1)⟩
end
section
variable {P:Program} {ρ:Operand→Value} {dst:Option Tmp} {ty:TypeId} {pos:String} {after:Array Edge} {gd:Option (Nat × Bool)} {w:World} {K:Value→World→Prop} {Kp:List PanicEntry→World→Prop} {X0 x y:Nat→Prop} {w0:Bs}
theorem RS.u32_small{v:Value}{l:List Nat}(h:RS Je x w v l):Jn l:=by
 obtain⟨a,c,rfl,h1,h2,h3⟩:=h
 rcases h3 with rfl | ⟨b,o,rfl,hx,h3⟩
 ·exact J6
 ·intro u hu;obtain⟨i,hi⟩:=List.mem_iff_getElem?.1 hu;obtain⟨cs,hr,_⟩:=h3 i u hi;exact hr.2
theorem J7d {α:Type} {T:Ty α} {a b:Operand} {xt yt e:TypeId} {ad:Option Addr} {n c:Nat} {l:List α} (ht:P.underlying xt=some (.slice e)) (hr:RS T x w (.slice ad n c) l) (hx:ρ a= .slice ad n c) (hy:ρ b= .slice none 0 0)
  (hk:l=[]→K (.bool true) w) (hk':K (.bool false) w):St P ρ ⟨dst,.binOp .eql xt a b yt,ty,pos,after,gd⟩ w K Kp:=by
 cases ad with
 | none=>
  have hl:l=[]:=by
   obtain⟨a',c',e,h1,h2,h3⟩:=hr
   cases e
   rcases h3 with h3 | ⟨b,o,h,_⟩
   ·exact h3
   ·cases h
  refine Zc (v:= .bool true) (by rw [hx];rfl) ?_ (hk hl);rw [hx,hy,Lib.run_eql_slice_nil w xt e none n c 0 0 ht];rfl
 | some p=>
  refine Zc (v:= .bool false) (by rw [hx];rfl) ?_ hk';rw [hx,hy,Lib.run_eql_slice_nil w xt e (some p) n c 0 0 ht];rfl
theorem J7j {α:Type} {T:Ty α} {t E:TypeId} {z:Value} {by_:Nat} (C:Cx X0 w0 x y w) (ht:P.underlying t=some (.slice E)) (hi:Zg P E=some (z,T.sz,by_))
  (h:∀ g w' x',Cx X0 w0 x' y w'→Sp x y w x' y w' Zn→(∀ b,x b→x' b)→OS T E w0 x' y w' (.slice (some ⟨g,0,none⟩) 0 0) ([]:List α)→K (.slice (some ⟨g,0,none⟩) 0 0) w'):
  St P ρ ⟨dst,.buildSlice t 0 #[],ty,pos,after,gd⟩ w K Kp:=by
 obtain⟨i,hi',hz,hs,_⟩:=Jy hi;have hrun:(Instr.buildSlice t 0 #[]).run P w= .ok (.slice (some ⟨w.heap.size,0,none⟩) 0 0) (w.alloc (.cells #[] E (0,0))):=by
  simp [Instr.buildSlice,run_underlying ht,sizeOf,typeInfo,hi',Instr.fill,newRow,Array.range_zero']
 refine J5d (v:= .slice (some ⟨w.heap.size,0,none⟩) 0 0) (by simp [execOp,hrun]) (h _ _ _ (C.row [] E).1 (C.row [] E).2 (fun b hb=> .inl hb) ?_);refine⟨⟨[],rfl,fun i cs u h=>by simp at h,by simp,.inr ⟨w.heap.size,0,#[],rfl,J9h _,heap_alloc_new w _,J9g _,by unfold maxLen;omega,by simp,by simp⟩⟩,?_⟩;intro k hk;simp [Value.ownBlock] at hk;subst hk;exact⟨⟨.inr rfl,fun hy=>by have:=C.bd _ (C.yx _ hy);omega⟩,.inl C.below.size⟩
end
section
variable {P:Program} {ops:Array Oper} {n:Nat} {Q:Post} {r:List Oper} {f:Fr} {w:World}
theorem O {d:Nat} {op:Op} {ty:TypeId} {pos:String} {after:Array Edge} (hlo:Nat.blt d n=true)
  (h:St P (fe f) ⟨some d,op,ty,pos,after,none⟩ w (fun v w'=>Sq P ops n Q r (updO f (some d) v) w') (fun ch w'=>Q (.panic ch) f w')):
  Sq P ops n Q (⟨some d,op,ty,pos,after,none⟩::r) f w:=Sq.op (J9q hlo) h
theorem Og {d:Nat} {op:Op} {ty:TypeId} {pos:String} {after:Array Edge} {j:Nat} {b:Bool} (hlo:Nat.blt d n=true) (hy:Zl ops f j=some b)
  (h:St P (fe f) ⟨some d,op,ty,pos,after,some (j,b)⟩ w (fun v w'=>Sq P ops n Q r (updO f (some d) v) w') (fun ch w'=>Q (.panic ch) f w')):
  Sq P ops n Q (⟨some d,op,ty,pos,after,some (j,b)⟩::r) f w:=J8q hy (J9q hlo) h
theorem Ox {d:Nat} {op:Op} {ty:TypeId} {pos:String} {after:Array Edge} {j:Nat} {b c:Bool} (hlo:Nat.blt d n=true) (hy:Zl ops f j=some c) (hc:(some c == some b)=false)
  (h:Sq P ops n Q r (updO f (some d) undef) w):
  Sq P ops n Q (⟨some d,op,ty,pos,after,some (j,b)⟩::r) f w:=Sq.opn hy hc (J9q hlo) h
theorem On {op:Op} {ty:TypeId} {pos:String} {after:Array Edge}
  (h:St P (fe f) ⟨none,op,ty,pos,after,none⟩ w (fun v w'=>Sq P ops n Q r (updO f none v) w') (fun ch w'=>Q (.panic ch) f w')):
  Sq P ops n Q (⟨none,op,ty,pos,after,none⟩::r) f w:=Sq.op trivial h
end
section
variable {P:Program} {ρ:Operand→Value} {dst:Option Tmp} {ty:TypeId} {pos:String} {after:Array Edge} {gd:Option (Nat × Bool)} {w:World} {K:Value→World→Prop} {Kp:List PanicEntry→World→Prop} {x y:Operand} {xt yt:TypeId} {k:IntKind} {a b z:Int}
theorem St.xor(hx:ρ x= .int k a)(hy:ρ y= .int k b)(hz:k.wrap (BitVec.ofInt k.bits a ^^^ BitVec.ofInt k.bits b).toNat=z)(h:K (.int k z) w):St P ρ ⟨dst,.binOp .xor xt x y yt,ty,pos,after,gd⟩ w K Kp:=by
 subst hz;refine Zc (by rfl) ?_ h;rw [hx,hy,binOp_xor];rfl
theorem J7y(hx:ρ x= .int k a)(hz:k.wrap (BitVec.ofInt k.bits (if k.signed then -1 else k.max) ^^^ BitVec.ofInt k.bits a).toNat=z)(h:K (.int k z) w):St P ρ ⟨dst,.unOp .xor xt x,ty,pos,after,gd⟩ w K Kp:=by
 subst hz;refine J5d (v:= .int k (k.wrap (BitVec.ofInt k.bits (if k.signed then -1 else k.max) ^^^ BitVec.ofInt k.bits a).toNat)) ?_ h;simp [execOp,hx,Op.unary,Op.intBits]
end
theorem bv32{a:Nat}(h:a < 4294967296):(BitVec.ofInt IntKind.u32.bits (a:Int)).toNat=a:=by
 rw [BitVec.toNat_ofInt];simp [IntKind.bits];omega
theorem bv64{a:Nat}(h:a < 18446744073709551616):(BitVec.ofInt IntKind.u64.bits (a:Int)).toNat=a:=by
 rw [BitVec.toNat_ofInt];simp [IntKind.bits];omega
theorem yq{a b:Nat}(ha:a < 4294967296)(hb:b < 4294967296):IntKind.u32.wrap (BitVec.ofInt IntKind.u32.bits (a:Int) ||| BitVec.ofInt IntKind.u32.bits (b:Int)).toNat=((a ||| b:Nat):Int):=by
 have:=Nat.or_lt_two_pow (n:=32) ha hb
 rw [BitVec.toNat_or,bv32 ha,bv32 hb,IntWalk.u32_in _ (by omega)]
theorem xk{a b:Nat}(ha:a < 4294967296)(hb:b < 4294967296):IntKind.u32.wrap (BitVec.ofInt IntKind.u32.bits (a:Int) &&& BitVec.ofInt IntKind.u32.bits (b:Int)).toNat=((a &&& b:Nat):Int):=by
 have:=Nat.and_lt_two_pow a (n:=32) hb
 rw [BitVec.toNat_and,bv32 ha,bv32 hb,IntWalk.u32_in _ (by omega)]
theorem Jeo{a b:Nat}(ha:a < 4294967296)(hb:b < 4294967296):IntKind.u32.wrap (BitVec.ofInt IntKind.u32.bits (a:Int) ^^^ BitVec.ofInt IntKind.u32.bits (b:Int)).toNat=((a ^^^ b:Nat):Int):=by
 have:=Nat.xor_lt_two_pow (n:=32) ha hb
 rw [BitVec.toNat_xor,bv32 ha,bv32 hb,IntWalk.u32_in _ (by omega)]
theorem Jie{a b:Nat}(ha:a < 18446744073709551616)(hb:b < 18446744073709551616):IntKind.u64.wrap (BitVec.ofInt IntKind.u64.bits (a:Int) ||| BitVec.ofInt IntKind.u64.bits (b:Int)).toNat=((a ||| b:Nat):Int):=by
 have:=Nat.or_lt_two_pow (n:=64) ha hb
 rw [BitVec.toNat_or,bv64 ha,bv64 hb,J9i _ (by omega)]
theorem vq{a:Nat}(ha:a < 4294967296):IntKind.u32.wrap (BitVec.ofInt IntKind.u32.bits (if IntKind.u32.signed then -1 else IntKind.u32.max) ^^^ BitVec.ofInt IntKind.u32.bits (a:Int)).toNat=((4294967295 - a:Nat):Int):=by
 have e:(BitVec.ofInt IntKind.u32.bits (if IntKind.u32.signed then -1 else IntKind.u32.max))=BitVec.allOnes IntKind.u32.bits:=by decide
 rw [e,BitVec.allOnes_xor,BitVec.toNat_not,bv32 ha,IntWalk.u32_in _ (by simp [IntKind.bits];omega)];simp [IntKind.bits]
theorem Q1{a:Nat}{e:Int}{d:Nat}(h:(2:Int) ^ min e.toNat IntKind.u64.bits=(d:Int))(hb:a * d < 18446744073709551616):IntKind.u64.wrap ((a:Int) * 2 ^ min e.toNat IntKind.u64.bits)=((a * d:Nat):Int):=by
 rw [h,← Int.natCast_mul,J9i _ (by omega)]
theorem Jg8(s:Nat)(h:s≤64):(2:Int) ^ min ((s:Nat):Int).toNat IntKind.u64.bits=((2 ^ s:Nat):Int):=by
 rw [Int.toNat_natCast,Nat.min_eq_left (by simp [IntKind.bits];omega)];simp
theorem Vd{a s:Nat}(h:s≤64∧a * 2 ^ s < 18446744073709551616):IntKind.u64.wrap ((a:Int) * 2 ^ min ((s:Nat):Int).toNat IntKind.u64.bits)=((a * 2 ^ s:Nat):Int):=by
 rw [Jg8 s h.1,← Int.natCast_mul,J9i _ (by omega)]
theorem qi{a s:Nat}(h:s≤64):(a:Int) / 2 ^ min ((s:Nat):Int).toNat IntKind.u64.bits=((a / 2 ^ s:Nat):Int):=by
 rw [Jg8 s h];rfl
def reb(vals:List (Nat × Value))(f:Fr):Fr:=fun t=>match vals.lookup t with
 | some v=>v
 | none=>f t
theorem aN{f:Fr}:∀ p ∈ ([]:List (Nat × Value)),f p.1=p.2:=J0i
theorem aC{f:Fr}{d:Nat}{u:Value}{r:List (Nat × Value)}(hd:f d=u)(h:∀ p ∈ r,f p.1=p.2):∀ p ∈ (d,u)::r,f p.1=p.2:=Jwn hd h
theorem mixK{D:List Nat}{f0 f:Fr}(h:Keep D f0 f){vals:List (Nat × Value)}(hv:∀ p ∈ vals,f p.1=p.2):∃ f',f=mixL vals D f' f0:=h.mix vals hv
section
variable {σ:Type} {fc:Fence} [Fw fc] {P:Program} {ops:Array Oper} {n:Nat} {D:List Deferred} {Q:Post} {f0:Fr} {w0:World}
def Ja8(P:Program)(ops:Array Oper)(Q:Post)(R:σ→World→σ→World→Prop)(Gl:List (σ→Value→World→Prop))(f:Fr)(s:σ)(w:World):List Oper→List (List Nat)→Nat→Prop
 | o::l,d::dl,k=>
  (Deps ops Gl f s w d→OpSt P ops f o w (fun v w'=>∃ s',R s w s' w'∧(Gl.getD k noG) s' v w') (fun ch w'=>∀ f,Q (.panic ch) f w'))∧Ja8 P ops Q R Gl f s w l dl (k+1)
 | _,_,_=>True
theorem Jb4{s0:σ}{R:σ→World→σ→World→Prop}{Gl:List (σ→Value→World→Prop)}{ds:List Nat}:∀ (l:List Oper) (dl:List (List Nat)) (k:Nat),
  (∀ f s w,R s0 w0 s w→Keep ds f0 f→Ja8 P ops Q R Gl f s w l dl k)→xl P ops Q R Gl f0 s0 w0 ds l dl k
 | [],_,_,_=>trivial
 | _::_,[],_,_=>trivial
 | o::l,d::dl,k,h=>⟨fun f s w r kp dp=>(h f s w r kp).1 dp,Jb4 l dl (k+1) fun f s w r kp=>(h f s w r kp).2⟩
theorem J62 {id:Nat} (hm:P.follows .mixedOrders=true) (m:Nat) (dl:List (List Nat)) (s0:σ) (R:σ→World→σ→World→Prop) (Gl:List (σ→Value→World→Prop))
  (chk:qg ops m n dl=true) (h0:R s0 w0 s0 w0.drew) (htr:∀ s a t b u c,R s a t b→R t b u c→R s a u c) (hG:Xz R Gl)
  (h:∀ f s w,R s0 w0 s w→Keep (J4 ops m) f0 f→Ja8 P ops Q R Gl f s w ops.toList dl 0∧(Deps ops Gl f s w (List.range m)→Sq P ops n Q (ops.toList.drop m) f w)):
  W fc P (Code.region id ops true) n D Q f0 w0:=
 J8c hm m dl s0 R Gl chk h0 htr hG (Jb4 _ _ _ fun f s w r k=>(h f s w r k).1) fun f s w r k=>(h f s w r k).2
theorem RS.opn{α:Type}{T:Ty α}{x:Nat→Prop}{w:World}{v:Value}{l:List α}(h:RS T x w v l):∃ a c,v= .slice a l.length c∧RS T x w (.slice a l.length c) l:=by
 obtain⟨a,c,rfl,_,_⟩:=h.len;exact⟨a,c,rfl,h⟩
def fx{τ:Type}(V:Value):τ→Value→World→Prop:=fun _ v _=>v=V
def fr{α:Type}(T:Ty α)(m:α):Gh→Value→World→Prop:=fun s v w=>RV T s.1 w v m
def fs{α:Type}(T:Ty α)(m:List α):Gh→Value→World→Prop:=fun s v w=>RS T s.1 w v m
def fE{α:Type}(T:Ty α)(m:α):Gh→Value→World→Prop:=fun s v w=>∃ (b o:Nat) (cs:List Value),v= .pointer (some ⟨b,o,none⟩)∧ElAt T s.1 w b o cs m
theorem sx{τ:Type}{R:τ→World→τ→World→Prop}{V:Value}:∀ v s w s' w',fx V s v w→R s w s' w'→fx V s' v w':=fun _ _ _ _ _ h _=>h
theorem sr{X0:Nat→Prop}{b0:Bs}{α:Type}{T:Ty α}{m:α}:∀ v s w s' w',fr T m s v w→RC X0 b0 s w s' w'→fr T m s' v w':=fun _ _ _ _ _ h r=>RV.tr h r.sp.tx
theorem ss{X0:Nat→Prop}{b0:Bs}{α:Type}{T:Ty α}{m:List α}:∀ v s w s' w',fs T m s v w→RC X0 b0 s w s' w'→fs T m s' v w':=fun _ _ _ _ _ h r=>RS.tr h r.sp.tx
theorem sE{X0:Nat→Prop}{b0:Bs}{α:Type}{T:Ty α}{m:α}:∀ v s w s' w',fE T m s v w→RC X0 b0 s w s' w'→fE T m s' v w':=fun _ _ _ _ _ ⟨b,o,cs,e,h⟩ r=>⟨b,o,cs,e,h.tr r.sp.tx⟩
theorem J5g {id:Nat} (hm:P.follows .mixedOrders=true) (m:Nat) (dl:List (List Nat)) {X0 x y:Nat→Prop} {b0:Bs} (C:Cx X0 b0 x y w0) (Gl:List (Gh→Value→World→Prop))
  (chk:qg ops m n dl=true) (hG:Xz (RC X0 b0) Gl)
  (h:∀ f s w,RC X0 b0 (x,y) w0 s w→Keep (J4 ops m) f0 f→Ja8 P ops Q (RC X0 b0) Gl f s w ops.toList dl 0∧(Deps ops Gl f s w (List.range m)→Sq P ops n Q (ops.toList.drop m) f w)):
  W fc P (Code.region id ops true) n D Q f0 w0:=
 J62 hm m dl (x,y) (RC X0 b0) Gl chk (J6n C) RC.trans hG h
theorem Jp {ds:List Nat} {f:Fr} (k:Keep ds f0 f) {vals:List (Nat × Value)} (hv:∀ p ∈ vals,f p.1=p.2) {o:Oper} {w:World} {K:Value→World→Prop} {Kp:List PanicEntry→World→Prop}
  (h:∀ f',OpSt P ops (mixL vals ds f' f0) o w K Kp):OpSt P ops f o w K Kp:=by
 obtain⟨f',rfl⟩:=k.mix vals hv;exact h f'
section
variable {r:List Oper} {f:Fr} {w:World} {ty:TypeId} {pos:String} {after:Array Edge} {d:Nat}
theorem Om{x:Operand}(h:Sq P ops n Q r (updO f (some d) (fe f x)) w)(hlo:Nat.blt d n=true:=by exact rfl):Sq P ops n Q (⟨some d,.move x,ty,pos,after,none⟩::r) f w:=O hlo (J4x h)
theorem Oa{x:Operand}(h:Sq P ops n Q r (updO f (some d) (fe f x)) w)(hlo:Nat.blt d n=true:=by exact rfl):Sq P ops n Q (⟨some d,.assign x,ty,pos,after,none⟩::r) f w:=O hlo (J6k h)
theorem OT{c a b:Operand}(h:Sq P ops n Q r (updO f (some d) (fe f a)) w)(hc:fe f c= .bool true:=by exact rfl)(hlo:Nat.blt d n=true:=by exact rfl):Sq P ops n Q (⟨some d,.pick c a b,ty,pos,after,none⟩::r) f w:=O hlo (J5j hc h)
theorem OF{c a b:Operand}(h:Sq P ops n Q r (updO f (some d) (fe f b)) w)(hc:fe f c= .bool false:=by exact rfl)(hlo:Nat.blt d n=true:=by exact rfl):Sq P ops n Q (⟨some d,.pick c a b,ty,pos,after,none⟩::r) f w:=O hlo (J5j hc h)
theorem Nl(h:Q .normal f w):Sq P ops n Q [] f w:=h
theorem Rg{ops:Array Oper}{id:Nat}{y:Code}(h:Sq P ops n (Jag (W fc P y n D Q) Q) ops.toList f w):W fc P (Code.seq (Code.region id ops false) y) n D Q f w:=J40 (J4u h)
theorem Rh{ops:Array Oper}{id:Nat}{y z:Code}(h:Sq P ops n (Jag (W fc P y n D (Jag (W fc P z n D Q) Q)) (Jag (W fc P z n D Q) Q)) ops.toList f w):
  W fc P (Code.seq (Code.seq (Code.region id ops false) y) z) n D Q f w:=J40 (J40 (J4u h))
end
theorem rebK{f:Fr}{vals:List (Nat × Value)}(hv:∀ p ∈ vals,f p.1=p.2):∃ f',f=reb vals f':=by
 refine⟨f,?_⟩
 funext t
 unfold reb
 split
 ·rename_i v hl
  exact hv (t,v) (Ja6 _ _ _ hl)
 ·rfl
end
section
variable {fc:Fence} [Fw fc] {P:Program} {ops:Array Oper} {n:Nat} {D:List Deferred} {Q:Post} {r:List Oper} {f:Fr} {w:World}
theorem Oz{d:Nat}{op:Op}{ty:TypeId}{pos:String}{after:Array Edge}{j:Nat}{b:Bool}(h:Sq P ops n Q r (updO f (some d) undef) w)(hlo:Nat.blt d n=true:=by exact rfl)(h0:(Zl ops f j).isSome=true:=by exact rfl)(hy:(Zl ops f j == some b)=false:=by exact rfl):
  Sq P ops n Q (⟨some d,op,ty,pos,after,some (j,b)⟩::r) f w:=by
 obtain⟨c,hc⟩:=Option.isSome_iff_exists.1 h0;rw [hc] at hy;exact Ox hlo hc hy h
theorem Ol {d:Nat} {op:Op} {ty:TypeId} {pos:String} {after:Array Edge}
  (h:St P (fe f) ⟨some d,op,ty,pos,after,none⟩ w (fun v w'=>Sq P ops n Q r (updO f (some d) v) w') (fun ch w'=>Q (.panic ch) f w')) (hlo:Nat.blt d n=true:=by exact rfl):
  Sq P ops n Q (⟨some d,op,ty,pos,after,none⟩::r) f w:=O hlo h
theorem OgD {d:Nat} {op:Op} {ty:TypeId} {pos:String} {after:Array Edge} {j:Nat} {b:Bool}
  (h:St P (fe f) ⟨some d,op,ty,pos,after,some (j,b)⟩ w (fun v w'=>Sq P ops n Q r (updO f (some d) v) w') (fun ch w'=>Q (.panic ch) f w')) (hlo:Nat.blt d n=true:=by exact rfl) (hy:Zl ops f j=some b:=by exact rfl):
  Sq P ops n Q (⟨some d,op,ty,pos,after,some (j,b)⟩::r) f w:=J8q hy (J9q hlo) h
theorem OyD {d:Nat} {op:Op} {ty:TypeId} {pos:String} {after:Array Edge} {j:Nat} {b:Bool}
  (h:Sq P ops n Q r (updO f (some d) undef) w) (hlo:Nat.blt d n=true:=by exact rfl) (hy:Zl ops f j=none:=by exact rfl):
  Sq P ops n Q (⟨some d,op,ty,pos,after,some (j,b)⟩::r) f w:=⟨J9q hlo,by simp only [Region.wanted,hy];exact h⟩
end
abbrev CRt(k:FuncId)(a:Array Value)(w:World)(Φ:Value→World→Prop):Prop:=Calls Go.Proofs.Tryz.prog k a w (Ret w Φ)
theorem Cgo {P:Program} {k:FuncId} {fn:Func} {c:Code} {args:List Value} {w:World} {R:Ending→World→Prop} {n:Nat}
  (hf:P.funcs[k]? =some fn) (hb:fn.body=some c) (hn:fn.ntmps=n) (ha:Nat.ble args.length n=true)
  (h:W Fence.wide P c n [] (retQ P fn R) (Jaj args) w):Calls P k args.toArray w R:=J8o hf hb hn (J9q ha) h
abbrev XB(X:Nat→Prop)(w:World):Prop:=∀ b,X b→b < w.heap.size
theorem Wq{P:Program}{fn:Func}{Φ:Value→World→Prop}{t:Nat}{v:Value}{f:Fr}{w w0:World}{X x y:Nat→Prop}(hr:fn.results= #[.tmp t])(hv:f t=v)(C:Cx X w0 x y w)(h:Φ v w):retQ P fn (Ret w0 Φ) .ret f w:=
 Ju hr (J8d hv) (J4w h C.below)
section
variable {fc:Fence} [Fw fc] {P:Program} {ops:Array Oper} {n:Nat} {D:List Deferred} {Q:Post} {r:List Oper} {f:Fr} {w:World}
theorem Ua{d:Nat}{ty:TypeId}{pos:String}{after:Array Edge}{x:Operand}(h:Q .normal (updO f (some d) (fe f x)) w)(hlo:Nat.blt d n=true:=by exact rfl):
  Sq P ops n Q (⟨some d,.assign x,ty,pos,after,none⟩::[]) f w:=Oa (Nl h) hlo
theorem Ub {d d2:Nat} {op:Op} {ty ty2:TypeId} {pos pos2:String} {after after2:Array Edge} {x:Operand}
  (h:St P (fe (updO f (some d) (fe f x))) ⟨some d2,op,ty2,pos2,after2,none⟩ w (fun v w'=>Sq P ops n Q r (updO (updO f (some d) (fe f x)) (some d2) v) w') (fun ch w'=>Q (.panic ch) (updO f (some d) (fe f x)) w'))
  (h1:Nat.blt d n=true:=by exact rfl) (h2:Nat.blt d2 n=true:=by exact rfl):
  Sq P ops n Q (⟨some d,.move x,ty,pos,after,none⟩::⟨some d2,op,ty2,pos2,after2,none⟩::r) f w:=Om (Ol h h2) h1
omit [Fw fc] in
theorem Uc{c:Operand}{x:Code}(h:Q .normal f w)(hc:fe f c= .bool false:=by exact rfl):W fc P (Code.cond c x Code.skip) n D Q f w:=J4s hc (J4v h)
omit [Fw fc] in
theorem Ud{c:Operand}{x y:Code}(h:W fc P x n D Q f w)(hc:fe f c= .bool true:=by exact rfl):W fc P (Code.cond c x y) n D Q f w:=J4r hc h
omit [Fw fc] in
theorem Ue{c:Operand}{x y:Code}(h:W fc P y n D Q f w)(hc:fe f c= .bool false:=by exact rfl):W fc P (Code.cond c x y) n D Q f w:=J4s hc h
theorem Uf{c:Operand}{ops:Array Oper}{id:Nat}{y z:Code}(h:Sq P ops n (Jag (W fc P y n D Q) Q) ops.toList f w)(hc:fe f c= .bool true:=by exact rfl):
  W fc P (Code.cond c (Code.seq (Code.region id ops false) y) z) n D Q f w:=J4r hc (Rg h)
theorem Ug{c:Operand}{ops:Array Oper}{id:Nat}{y z:Code}(h:Sq P ops n (Jag (W fc P y n D Q) Q) ops.toList f w)(hc:fe f c= .bool false:=by exact rfl):
  W fc P (Code.cond c z (Code.seq (Code.region id ops false) y)) n D Q f w:=J4s hc (Rg h)
theorem Uk{c:Operand}{ops:Array Oper}{id:Nat}{z:Code}(h:Sq P ops n Q ops.toList f w)(hc:fe f c= .bool true:=by exact rfl):
  W fc P (Code.cond c (Code.region id ops false) z) n D Q f w:=J4r hc (J4u h)
theorem Sd0 {f0:Fr} {ds:List Nat} (k:Keep ds f0 f) {dst:Option Tmp} {op:Op} {ty:TypeId} {pos:String} {after:Array Edge} {K:Value→World→Prop} {Kp:List PanicEntry→World→Prop}
  (h:∀ f',St P (fe (mixL [] ds f' f0)) ⟨dst,op,ty,pos,after,none⟩ w K Kp):OpSt P ops f ⟨dst,op,ty,pos,after,none⟩ w K Kp:=Jp k aN fun f'=>J5b (h f')
theorem Sd1 {f0:Fr} {ds:List Nat} {i:Nat} {v:Value} (k:Keep ds f0 f) (e:f i=v) {dst:Option Tmp} {op:Op} {ty:TypeId} {pos:String} {after:Array Edge} {K:Value→World→Prop} {Kp:List PanicEntry→World→Prop}
  (h:∀ f',St P (fe (mixL [(i,v)] ds f' f0)) ⟨dst,op,ty,pos,after,none⟩ w K Kp):OpSt P ops f ⟨dst,op,ty,pos,after,none⟩ w K Kp:=Jp k (aC e aN) fun f'=>J5b (h f')
end
section
variable {P:Program} {ρ:Operand→Value} {dst:Option Tmp} {ty:TypeId} {pos:String} {after:Array Edge} {gd:Option (Nat × Bool)} {w:World} {K:Value→World→Prop} {Kp:List PanicEntry→World→Prop} {X0 x y:Nat→Prop} {w0:Bs}
theorem Us {a v:Operand} {t:TypeId} {z:Value} {sz by_ g o:Nat} {cs vs cs':List Value} {T:TypeId} (C:Cx X0 w0 x y w) (hb:Own w0 y w g cs T) (hi:Zg P t=some (z,sz,by_))
  (h:∀ w',Cx X0 w0 x y w'→Sp x y w x y w' (· =g)→Own w0 y w' g cs' T→K undef w')
  (hx:ρ a= .pointer (some ⟨g,o,none⟩):=by exact rfl) (hy:(ρ v).cells=vs.toArray:=by exact rfl) (hl:vs.length=sz:=by exact rfl) (hfit:Nat.ble (o+sz) cs.length=true:=by exact rfl) (h1:vs.all Value.oneCell'=true:=by exact rfl) (hc:cs.take o++vs++cs.drop (o+vs.length)=cs':=by exact rfl):
  St P ρ ⟨dst,.store t a v,ty,pos,after,gd⟩ w K Kp:=J5r C hb hi hx hy hl hfit h1 hc h
theorem Uo {a:Operand} {t:TypeId} {g o sz:Nat} {cs vs:List Value} {T:TypeId} (hb:Own w0 y w g cs T) (ht:vr P t sz=true) (h:K (.agg vs.toArray) w)
  (hx:ρ a= .pointer (some ⟨g,o,none⟩):=by exact rfl) (hl:vs.length=sz:=by exact rfl) (hv:(cs.drop o).take vs.length=vs:=by exact rfl):
  St P ρ ⟨dst,.load t a,ty,pos,after,gd⟩ w K Kp:=J46 hb ht hx hl hv h
end
theorem Mx{X:Nat→Prop}{w:World}{a1 a2 a3 a4:Option Addr}{c1 c2 c3 c4:Nat}(m:GExpr)(h:ExprParts X w m a1 c1 a2 c2 a3 c3 a4 c4):RV Jf X w (ea m a1 c1 a2 c2 a3 c3 a4 c4) m:=by
 have h:=Y5 (b:=m.c.num.neg) (d:=m.c.den.neg) h.lo h.hi h.name h.n h.num h.den h.args
 cases m;exact h
abbrev Ar(a:GExpr)(i:Nat):GExpr:=a.args.getD i default
abbrev zX:List Value:=[.int .i64 0,.slice none 0 0,.bool false,.slice none 0 0,.bool false,.slice none 0 0,str [],.slice none 0 0]
section
variable {fc:Fence} [Fw fc] {P:Program} {ops:Array Oper} {n:Nat} {D:List Deferred} {Q:Post} {f0:Fr} {w0:World} {C:World→Prop} {K:List Oper→Fr→Prop}
def OpQ(P:Program)(ops:Array Oper)(C:World→Prop)(f:Fr)(o:Oper)(v:Value):Prop:=
 ∀ w,C w→OpSt P ops f o w (fun v' w'=>v'=v∧C w') (fun _ _=>False)
def QS(P:Program)(ops:Array Oper)(C:World→Prop)(K:List Oper→Fr→Prop):Nat→List Oper→Fr→Prop
 | 0,l,f=>K l f
 | _+1,[],_=>False
 | m+1,o::r,f=>∃ v,OpQ P ops C f o v∧QS P ops C K m r (updO f o.dst v)
def runF:List Oper→List Value→Fr→Fr
 | o::l,v::vs,f=>runF l vs (updO f o.dst v)
 | _,_,f=>f
theorem Jpf{l:List Oper}{f:Fr}:runF l [] f=f:=by cases l <;> rfl
theorem QS.run:∀ (m:Nat) (l:List Oper) (f:Fr),QS P ops C K m l f→∃ vs:List Value,vs.length=m∧m≤l.length∧
  (∀ i o,i < m→l[i]? =some o→OpQ P ops C (runF l (vs.take i) f) o (vs.getD i undef))∧K (l.drop m) (runF l vs f)
 | 0,l,f,h=>⟨[],rfl,J9h _,fun i o hi=>absurd hi (J9m _),by rw [Jpf];exact h⟩
 | m+1,[],f,h=>h.elim
 | m+1,o::r,f,h=>by
  obtain⟨v,hv,h⟩:=h;obtain⟨vs,h1,h2,h3,h4⟩:=QS.run m r _ h;refine⟨v::vs,by simp [h1],by simpa using h2,?_,h4⟩;intro i o' hi ho
  cases i with
  | zero=>
   simp at ho;subst ho;exact hv
  | succ i=>exact h3 i o' (by omega) (by simpa using ho)
theorem qx{t:Tmp}:∀ (l:List Oper) (vs:List Value) (f:Fr),(∀ i o,i < vs.length→l[i]? =some o→o.dst≠some t)→runF l vs f t=f t
 | [],_,_,_=>rfl
 | _::_,[],_,_=>rfl
 | o::l,v::vs,f,h=>by
  have h1:=qx l vs (updO f o.dst v) fun i o' hi ho=>h (i+1) o' (by simpa using hi) (by simpa using ho);have h0:=h 0 o (by simp) rfl
  show runF l vs (updO f o.dst v) t=f t
  rw [h1]
  cases hd:o.dst with
  | none=>rfl
  | some d=>
   have:t≠d:=fun e=>h0 (by rw [hd,e])
   simp only [updO,upd,this,if_false]
theorem Ji0{t:Tmp}:∀ (i:Nat) (l:List Oper) (vs:List Value) (f:Fr) (o:Oper),i < vs.length→l[i]? =some o→o.dst=some t→
  (∀ j o',i < j→j < vs.length→l[j]? =some o'→o'.dst≠some t)→runF l vs f t=vs.getD i undef:=by
 intro i
 induction i with
 | zero=>
  intro l vs f o hi ho hd hn
  cases l with
  | nil=>simp at ho
  | cons a l=>
   cases vs with
   | nil=>simp at hi
   | cons v vs=>
    simp at ho;subst ho
    have:=qx l vs (updO f a.dst v) fun j o' hj ho'=>hn (j+1) o' (by omega) (by simpa using hj) (by simpa using ho')
    show runF l vs (updO f a.dst v) t=v
    rw [this,hd];simp [updO,upd]
 | succ i ih=>
  intro l vs f o hi ho hd hn
  cases l with
  | nil=>simp at ho
  | cons a l=>
   cases vs with
   | nil=>simp at hi
   | cons v vs=>
    exact ih l vs _ o (by simpa using hi) (by simpa using ho) hd fun j o' hj hl ho'=>hn (j+1) o' (by omega) (by simpa using hl) (by simpa using ho')
def dlQ(ops:Array Oper)(m:Nat):List (List Nat):=(List.range m).map fun i=>(List.range m).filter fun j=>((ops[i]?).map fun o=>(o.looksAt ops).contains (Ya ops j)).getD false
def Jwl:Op→Bool
 | .select _ _=>true
 | _=>false
def Jew(ops:Array Oper)(m n:Nat):Bool:=
 qg ops m n (dlQ ops m) && ((List.range m).all fun i=>((dlQ ops m).getD i []).all fun j=>Nat.blt j i) && (ops.toList.all fun o=> !Jwl o.op)
theorem J7u{o:Oper}{f f':Fr}{w:World}{K:Value→World→Prop}{Kp:List PanicEntry→World→Prop}(hs:Jwl o.op=false)(h:∀ t ∈ o.looksAt ops,f t=f' t)(k:OpSt P ops f o w K Kp):OpSt P ops f' o w K Kp:=by
 have e1:execOp (fe f) o=execOp (fe f') o:=execOp_congr o (fun cs b e=>by rw [e] at hs;cases hs) fun x hx=>by
  cases x with
  | tmp t=>exact h t (List.mem_append_left _ (List.mem_filterMap.2 ⟨.tmp t,by simpa using hx,rfl⟩))
  | _=>rfl
 have e2:Region.wanted o (Zl ops f)=Region.wanted o (Zl ops f'):=by
  unfold Region.wanted
  cases hg:o.guard with
  | none=>rfl
  | some gw=>
   obtain⟨g,want⟩:=gw
   have:Zl ops f g=Zl ops f' g:=by
    unfold Zl
    cases hd:(ops[g]?).bind (·.dst) with
    | none=>rfl
    | some t=>
     have:=h t (by simp [Oper.looksAt,hg,hd])
     simp only [Option.map_some,this]
   simp only [this]
 unfold OpSt St at k ⊢;rw [← e1,← e2];exact k
theorem Deps.get{σ:Type}{Gl:List (σ→Value→World→Prop)}{f:Fr}{s:σ}{w:World}:∀ {d:List Nat},Deps ops Gl f s w d→∀ j ∈ d,(Gl.getD j noG) s (f (Ya ops j)) w
 | _::_,h,j,hj=>by
  rcases List.mem_cons.1 hj with rfl | hj
  ·exact h.1
  ·exact Deps.get h.2 j hj
theorem Jgg{σ:Type}{s0:σ}{R:σ→World→σ→World→Prop}{Gl:List (σ→Value→World→Prop)}{ds:List Nat}:∀ (l:List Oper) (dl:List (List Nat)) (k:Nat),
  (∀ i o,l[i]? =some o→i < dl.length→∀ f s w,R s0 w0 s w→Keep ds f0 f→Deps ops Gl f s w (dl.getD i [])→
   OpSt P ops f o w (fun v w'=>∃ s',R s w s' w'∧(Gl.getD (k+i) noG) s' v w') (fun ch w'=>∀ f,Q (.panic ch) f w'))→xl P ops Q R Gl f0 s0 w0 ds l dl k
 | [],_,_,_=>trivial
 | _::_,[],_,_=>trivial
 | o::l,d::dl,k,h=>⟨fun f s w r kp dp=>h 0 o rfl (by simp) f s w r kp dp,Jgg l dl (k+1) fun i o' ho hi f s w r kp dp=>by
   have:=h (i+1) o' (by simpa using ho) (by simpa using hi) f s w r kp dp
   rw [show k+(i+1)=k+1+i by omega] at this;exact this⟩
theorem Jkc{V:List Value}:Xz (fun(_:Unit) (_:World) (_:Unit) (w':World)=>C w') (V.map fun v=>fun(_:Unit) v' (_:World)=>v'=v):=by
 induction V with
 | nil=>trivial
 | cons a V ih=>exact⟨fun v s w s' w' h _=>h,ih⟩
theorem J8r {id:Nat} (hm:P.follows .mixedOrders=true) (m:Nat) (hC:C w0.drew) (chk:Jew ops m n=true)
  (h:QS P ops C (fun l f=>∀ w,C w→Sq P ops n Q l f w) m ops.toList f0):W fc P (Code.region id ops true) n D Q f0 w0:=by
 obtain⟨vs,hlen,hle,hY,hK⟩:=QS.run m _ _ h;unfold Jew at chk;simp only [Bool.and_eq_true] at chk;obtain⟨⟨chk,hlow⟩,hsel⟩:=chk;have F:=Vo chk;have hdst:∀ j,j < m→∃ o,ops.toList[j]? =some o∧o.dst=some (Ya ops j):=by
  intro j hj;have h1:=F.some j hj;obtain⟨d,hd⟩:=Option.isSome_iff_exists.1 h1
  cases ho:ops[j]? with
  | none=>rw [ho] at hd;cases hd
  | some o=>
   rw [ho] at hd;refine⟨o,by simpa using ho,?_⟩
   have:Ya ops j=d:=by unfold Ya;rw [ho];simp only [Option.bind_some] at hd ⊢;rw [hd];rfl
   rw [this];exact hd
 have hpre:∀ t,(J4 ops m).contains t=true→∃ j,j < m∧Ya ops j=t:=by
  intro t ht
  have:t ∈ J4 ops m:=by simpa using ht
  obtain⟨o,ho,hd⟩:=List.mem_filterMap.1 this;obtain⟨j,hj⟩:=List.mem_iff_getElem?.1 ho;rw [List.getElem?_take] at hj
  split at hj
  ·rename_i hjm
   refine⟨j,hjm,?_⟩
   have:ops[j]? =some o:=by simpa using hj
   unfold Ya;rw [this];simp [hd]
  ·cases hj
 have hnot:∀ t,(J4 ops m).contains t=false→∀ i o,i < m→ops.toList[i]? =some o→o.dst≠some t:=by
  intro t ht i o hi ho hd
  have:t ∈ J4 ops m:=List.mem_filterMap.2 ⟨o,List.mem_of_getElem? (by rw [List.getElem?_take,if_pos hi];exact ho),hd⟩
  have:(J4 ops m).contains t=true:=by simpa using this
  rw [this] at ht;cases ht
 have hone:∀ j,j < m→∀ i o,i < m→i≠j→ops.toList[i]? =some o→o.dst≠some (Ya ops j):=by
  intro j hj i o hi hij ho hd;obtain⟨o',ho',hd'⟩:=hdst i hi;rw [ho] at ho';cases ho';rw [hd] at hd';exact F.apart i hi j hj (fun e=>hij e.symm) (Option.some.inj hd')
 refine J8c hm m (dlQ ops m) () (fun _ _ _ w'=>C w') (vs.map fun v=>fun _ v' _=>v'=v) chk hC (fun _ _ _ _ _ _ _ h=>h) Jkc (Jgg _ _ _ ?_) ?_
 ·intro i o ho hi f s w hw hk hd;rw [Nat.zero_add];have him:i < m:=by rw [F.len] at hi;exact hi
  have hg:(vs.map fun v=>fun(_:Unit) v' (_:World)=>v'=v).getD i noG=fun _ v' _=>v'=vs.getD i undef:=by
   rw [J9d,J94,J9d,J9f (by omega)];rfl
  have hq:=hY i o him ho w hw;have hse:Jwl o.op=false:=by
   have:=List.all_eq_true.1 hsel o (List.mem_of_getElem? ho)
   simpa using this
  have hq2:OpSt P ops f o w (fun v' w'=>v'=vs.getD i undef∧C w') (fun _ _=>False):=by
   refine J7u hse ?_ hq;intro t ht
   symm
   cases hp:(J4 ops m).contains t with
   | false=>
    rw [qx _ _ _ fun j o' hj ho'=>hnot t hp j o' (by rw [J9b] at hj;omega) ho'];exact hk t hp
   | true=>
    obtain⟨j,hjm,hjt⟩:=hpre t hp;have hmem:j ∈ (dlQ ops m).getD i []:=by
     unfold dlQ;rw [J9d,J94,List.getElem?_range him];simp only [Option.map_some,Option.getD_some];refine List.mem_filter.2 ⟨by simpa using hjm,?_⟩;rw [show ops[i]? =some o by simpa using ho];simp only [Option.map_some,Option.getD_some,hjt];simpa using ht
    have hji:j < i:=by
     have:=List.all_eq_true.1 (List.all_eq_true.1 hlow i (by simpa using him)) j hmem
     exact J9q this
    have hv:=Deps.get hd j hmem;rw [J9d,J94,J9f (by omega:j < vs.length)] at hv;obtain⟨o',ho',hd'⟩:=hdst j hjm;rw [hjt] at hd';rw [Ji0 j _ _ _ o' (by rw [J9b];omega) ho' hd' fun q o2 hq1 hq3 ho2=>by
     rw [← hjt];exact hone j hjm q o2 (by rw [J9b] at hq3;omega) (by omega) ho2]
    rw [hjt] at hv;rw [J9d,List.getElem?_take,if_pos hji,J9f (by omega:j < vs.length)];exact hv
  unfold OpSt at hq2 ⊢;rw [hg]
  split
  ·rename_i hwn
   rw [if_pos hwn] at hq2;exact St.mono hq2 (fun v w' h=>⟨(),h.2,h.1⟩) fun _ _ h=>h.elim
  ·rename_i hwn
   rw [if_neg hwn] at hq2;exact⟨(),hq2.2,hq2.1⟩
 ·intro f s w hw hk hd
  have:runF ops.toList vs f0=f:=by
   funext t
   cases hp:(J4 ops m).contains t with
   | false=>
    rw [qx _ _ _ fun j o' hj ho'=>hnot t hp j o' (by omega) ho']
    exact(hk t hp).symm
   | true=>
    obtain⟨j,hjm,hjt⟩:=hpre t hp;have hv:=Deps.get hd j (by simpa using hjm);rw [J9d,J94,J9f (by omega:j < vs.length)] at hv;obtain⟨o',ho',hd'⟩:=hdst j hjm;rw [hjt] at hd';rw [Ji0 j _ _ _ o' (by omega) ho' hd' fun q o2 hq1 hq3 ho2=>by rw [← hjt];exact hone j hjm q o2 (by omega) (by omega) ho2];rw [hjt] at hv;rw [J9d,J9f (by omega:j < vs.length)];exact hv.symm
  rw [this] at hK;exact hK w hw
section
variable {r:List Oper} {f:Fr} {ty:TypeId} {pos:String} {after:Array Edge} {d m:Nat}
theorem Qw{op:Op}{v:Value}(h:∀ w,C w→St P (fe f) ⟨some d,op,ty,pos,after,none⟩ w (fun v' w'=>v'=v∧C w') (fun _ _=>False))(k:QS P ops C K m r (updO f (some d) v)):
  QS P ops C K (m+1) (⟨some d,op,ty,pos,after,none⟩::r) f:=⟨v,fun w c=>J5b (h w c),k⟩
theorem Qp{op:Op}{v:Value}(h:∀ w,St P (fe f) ⟨some d,op,ty,pos,after,none⟩ w (fun v' w'=>v'=v∧w'=w) (fun _ _=>False))(k:QS P ops C K m r (updO f (some d) v)):
  QS P ops C K (m+1) (⟨some d,op,ty,pos,after,none⟩::r) f:=Qw (fun w c=>St.mono (h w) (fun _ _ e=>⟨e.1,e.2 ▸ c⟩) fun _ _ h=>h) k
theorem Qm{x:Operand}(k:QS P ops C K m r (updO f (some d) (fe f x))):QS P ops C K (m+1) (⟨some d,.move x,ty,pos,after,none⟩::r) f:=Qp (fun _=>J4x ⟨rfl,rfl⟩) k
def isPt:Value→Bool
 | .pointer (some _)=>true
 | _=>false
theorem Qn{x:Operand}(k:QS P ops C K m r (updO f (some d) (fe f x)))(hx:isPt (fe f x)=true:=by exact rfl):QS P ops C K (m+1) (⟨some d,.nilCheck x,ty,pos,after,none⟩::r) f:=by
 have:∃ a,fe f x= .pointer (some a):=by
  unfold isPt at hx
  split at hx
  ·rename_i a h;exact⟨a,h⟩
  ·cases hx
 obtain⟨a,ha⟩:=this;exact Qp (fun _=>J45 ha ⟨ha.symm,rfl⟩) k
theorem Qf{x:Operand}{s i off b o:Nat}(hs:Zy P s i=some off)(hx:fe f x= .pointer (some ⟨b,o,none⟩))(k:QS P ops C K m r (updO f (some d) (.pointer (some ⟨b,o+off,none⟩)))):
  QS P ops C K (m+1) (⟨some d,.fieldAddr s x i,ty,pos,after,none⟩::r) f:=Qp (fun _=>J4o hs hx ⟨rfl,rfl⟩) k
theorem Qg{dd:Option Tmp}{op:Op}{j:Nat}{b:Bool}(h:QS P ops C K (m+1) (⟨dd,op,ty,pos,after,none⟩::r) f)(hy:Zl ops f j=some b:=by exact rfl):
  QS P ops C K (m+1) (⟨dd,op,ty,pos,after,some (j,b)⟩::r) f:=by
 obtain⟨v,h,k⟩:=h;refine⟨v,fun w c=>J5m hy ?_,k⟩
 have:=h w c
 unfold OpSt at this;rw [if_pos (show Region.wanted (⟨dd,op,ty,pos,after,none⟩:Oper) (Zl ops f)=true from rfl)] at this;exact this
theorem Qx{op:Op}{j:Nat}{b:Bool}(k:QS P ops C K m r (updO f (some d) undef))(hw:Region.wanted (⟨some d,op,ty,pos,after,some (j,b)⟩:Oper) (Zl ops f)=false:=by exact rfl):
  QS P ops C K (m+1) (⟨some d,op,ty,pos,after,some (j,b)⟩::r) f:=
 ⟨undef,fun w c=>by unfold OpSt;rw [if_neg (by rw [hw];decide)];exact⟨rfl,c⟩,k⟩
end
def Qc(X0:Nat→Prop)(b0:Bs)(x y:Nat→Prop)(w w':World):Prop:=Cx X0 b0 x y w'∧Sp x y w x y w' Zn
section
variable {X0 x y:Nat→Prop} {b0:Bs} {r:List Oper} {f:Fr} {ty:TypeId} {pos:String} {after:Array Edge} {d m:Nat}
theorem J52{id:Nat}(hm:P.follows .mixedOrders=true)(m:Nat)(C:Cx X0 b0 x y w0)(h:QS P ops (Qc X0 b0 x y w0) (fun l f=>∀ w,Qc X0 b0 x y w0 w→Sq P ops n Q l f w) m ops.toList f0)(chk:Jew ops m n=true:=by kernel_rfl):
  W fc P (Code.region id ops true) n D Q f0 w0:=J8r hm m (C.next (Below.refl _ _).drew) chk h
theorem Qz{l:List Oper}(h:∀ w,Cx X0 b0 x y w→Sp x y w0 x y w Zn→Sq P ops n Q l f w):QS P ops (Qc X0 b0 x y w0) (fun l f=>∀ w,Qc X0 b0 x y w0 w→Sq P ops n Q l f w) 0 l f:=fun w c=>h w c.1 c.2
theorem Qd {a:Operand} {t:TypeId} {g o:Nat} {cs:List Value} {T:TypeId} {v:Value} (hb:Own b0 y w0 g cs T) (ht:Ym P t=true) (hx:fe f a= .pointer (some ⟨g,o,none⟩)) (hv:cs[o]? =some v)
  (k:QS P ops (Qc X0 b0 x y w0) K m r (updO f (some d) v)):QS P ops (Qc X0 b0 x y w0) K (m+1) (⟨some d,.load t a,ty,pos,after,none⟩::r) f:=
 Qw (fun w c=>J4t (hb.spn c.2) ht hx hv ⟨rfl,c⟩) k
end
end
section
variable {P:Program} {ρ:Operand→Value} {dst:Option Tmp} {ty:TypeId} {pos:String} {after:Array Edge} {gd:Option (Nat × Bool)} {w:World} {K:Value→World→Prop} {Kp:List PanicEntry→World→Prop} {X0 x y:Nat→Prop} {w0:Bs}
theorem J54 {a i:Operand} {t e:TypeId} {z:Value} {by_ g n c o:Nat} {k:IntKind} {m:Int} {j:Nat} (ht:P.underlying t=some (.slice e)) (hi:Zg P e=some (z,1,by_))
  (hx:ρ a= .slice (some ⟨g,o,none⟩) n c) (hy:ρ i= .int k m) (hm:m=j) (hj:j < n) (h:K (.pointer (some ⟨g,o+j,none⟩)) w):St P ρ ⟨dst,.indexAddr t a i,ty,pos,after,gd⟩ w K Kp:=by
 obtain⟨inf,hi',_,hs,_⟩:=Jy hi;refine J6h ht hi' hs hx hy hm hj ?_;rw [Nat.mul_one];exact h
theorem J59{a:Operand}{t g j o u:Nat}{A U Z:List Nat}{E:TypeId}(hA:A.length=o)(ow:Own w0 y w g ((A++U++Z).map u32v) E)(ht:Ym P t=true)(hx:ρ a= .pointer (some ⟨g,o+j,none⟩))(hu:U[j]? =some u)(h:K (.int .u32 u) w):
  St P ρ ⟨dst,.load t a,ty,pos,after,gd⟩ w K Kp:=by
 refine J6e ow ht hx ?_ h;have hj:=(List.getElem?_eq_some_iff.1 hu).1;rw [J89,List.getElem?_append_right (by omega),hA,Nat.add_sub_cancel_left,List.getElem?_append_left hj,hu]
theorem J6g {a v:Operand} {t g j o u:Nat} {z:Value} {by_:Nat} {A U Z:List Nat} {E:TypeId} (hA:A.length=o) (C:Cx X0 w0 x y w) (ow:Own w0 y w g ((A++U++Z).map u32v) E) (hi:Zg P t=some (z,1,by_)) (hx:ρ a= .pointer (some ⟨g,o+j,none⟩)) (hv:ρ v= .int .u32 u) (hj:j < U.length)
  (h:∀ w',Cx X0 w0 x y w'→Sp x y w x y w' (· =g)→Own w0 y w' g ((A++U.set j u++Z).map u32v) E→K undef w'):St P ρ ⟨dst,.store t a v,ty,pos,after,gd⟩ w K Kp:=by
 refine J5p C ow hi hx hv (by simp only [J8z];omega) ?_;have e:(A++U++Z).set (o+j) u=A++U.set j u++Z:=by
  rw [J89,List.set_append,if_neg (by omega),hA,Nat.add_sub_cancel_left,List.set_append,if_pos hj,J89]
 rw [e];exact h
theorem J7f {a lo r:Operand} {t e:TypeId} {z:Value} {by_ g n c:Nat} {k k':IntKind} {m m':Int} {i j:Nat}
  (ht:P.underlying t=some (.slice e)) (hi:Zg P e=some (z,1,by_)) (hx:ρ a= .slice (some ⟨g,0,none⟩) n c) (hy:ρ lo= .int k m) (hm:m=i) (hy':ρ r= .int k' m') (hm':m'=j) (hij:i≤j) (hj:j≤c) (hic:i < c)
  (h:K (.slice (some ⟨g,i,none⟩) (j - i) (c - i)) w):St P ρ ⟨dst,.slice t a (some lo) (some r) none,ty,pos,after,gd⟩ w K Kp:=by
 subst hm;subst hm';obtain⟨inf,hi',_,hs,_⟩:=Jy hi;refine J5d (v:= .slice (some ⟨g,i,none⟩) (j - i) (c - i)) ?_ h;have h0:¬ c=i:=by omega
 have h1:c - i≠0:=by omega
 simp [execOp,hx,hy,hy',Instr.sliceAt,Instr.slice,run_underlying ht,Instr.sliceBounds,Instr.sliceBound,asIntOf,hij,hj,sizeOf,typeInfo,hi',hs,h0,h1,Addr.add]
 try exact fun e=>e.symm
theorem J5z {k:FuncId} {args:Array Operand} {ts:Array TypeId} {vs:List Value} {g:Nat} {cs cs':List Value} {T:TypeId} {φ:Value→World→Prop} (C:Cx X0 w0 x y w) (o:Own w0 y w g cs T) (hk:Jb P k=true)
  (ha:args.toList.map ρ=vs) (he:ρ (.func k)= .func (.func k) #[] #[]) (hc:Calls P k vs.toArray w (RetM w g fun v w'=>φ v w'∧Blk w' g cs' T))
  (h:∀ v w',Cx X0 w0 x y w'→Sp x y w x y w' (· =g)→Own w0 y w' g cs' T→φ v w'→K v w'):
  St P ρ ⟨dst,.call {callee:= .value (.func k),args:=args,argTypes:=ts},ty,pos,after,gd⟩ w K Kp:=
 J77 (Ψ:=fun v w' c=>c=cs'∧φ v w') C o hk ha he hc (fun _ _ h=>⟨_,h.2,rfl,h.1⟩) (fun v w' c hC hS hO hp=>by obtain⟨rfl,hp⟩:=hp;exact h v w' hC hS hO hp)
def J0o(w:World)(cs:List Value)(n:Nat)(T:TypeId)(v:Value)(w':World):Prop:=∃ g,v= .slice (some ⟨g,0,none⟩) n n∧w.heap.size≤g∧Blk w' g cs T
theorem Cx.adopt{w':World}{g:Nat}{cs:List Value}{T:TypeId}(C:Cx X0 w0 x y w)(h:Below w.heap.size w w')(hg:w.heap.size≤g)(hb:Blk w' g cs T):
  Cx X0 w0 (fun b=>x b∨b=g) (fun b=>y b∨b=g) w'∧Sp x y w (fun b=>x b∨b=g) (fun b=>y b∨b=g) w' Zn∧Own w0 (fun b=>y b∨b=g) w' g cs T:=by
 have hle:=C.below.size;refine⟨⟨C.below.trans (h.mono hle),fun b hb=> .inl (C.base b hb),?_,?_⟩,⟨⟨?_,fun b hb _=>h.block b hb,h.size⟩,⟨?_,fun b hb _=>h.block b hb,h.size⟩,fun _ h=> .inl h,fun b hb _=>h.block b hb⟩,⟨.inr rfl,.inl (by omega),hb⟩⟩
 ·rintro b (hx | rfl)
  ·exact J85 (C.bd b hx) h.size
  ·exact hb.lt
 ·rintro b (hy | rfl)
  ·exact .inl (C.yx b hy)
  ·exact .inr rfl
 ·rintro b hlt (hx | rfl)
  ·exact hx
  ·omega
 ·rintro b hlt (hx | rfl)
  ·exact hx
  ·omega
theorem J8a {k:FuncId} {args:Array Operand} {ts:Array TypeId} {vs:List Value} {cs:List Value} {n:Nat} {T:TypeId} (C:Cx X0 w0 x y w) (hk:Jb P k=true)
  (ha:args.toList.map ρ=vs) (he:ρ (.func k)= .func (.func k) #[] #[]) (hc:Calls P k vs.toArray w (Ret w fun v w'=>J0o w cs n T v w'))
  (h:∀ g w' x' y',(∀ b,b < w.heap.size→b≠g)→Cx X0 w0 x' y' w'→Sp x y w x' y' w' Zn→Own w0 y' w' g cs T→K (.slice (some ⟨g,0,none⟩) n n) w'):
  St P ρ ⟨dst,.call {callee:= .value (.func k),args:=args,argTypes:=ts},ty,pos,after,gd⟩ w K Kp:=by
 unfold Jb at hk
 split at hk
 ·rename_i fn hf
  simp only [Bool.and_eq_true,Bool.not_eq_true'] at hk;refine J6y hf hk.1 hk.2 ha (Calls.mono hc ?_) he;intro e w' hr
  cases e with
  | returned v=>
   obtain⟨⟨g,rfl,hg,hb⟩,h2⟩:=hr;obtain⟨c,s,o⟩:=C.adopt h2 hg hb;exact h g w' _ _ (fun b hb=>by omega) c s o
  | panicked ch=>exact hr.elim
  | outgrown=>exact hr.elim
 ·cases hk
end
def Jh1(x:Nat→Prop)(g:Nat):Nat→Prop:=fun b=>x b∧b≠g
section
variable {X0 x y:Nat→Prop} {w0:Bs} {w:World}
theorem Cx.freeze(C:Cx X0 w0 x y w)(hX:∀ b,X0 b→b < w0.heap.size){g:Nat}{cs:List Value}{T:TypeId}(o:Own w0 y w g cs T)(hM:¬ w0.M g):Cx X0 w0 (Jh1 x g) (Jh1 y g) w:=by
 refine⟨C.below,fun b hb=>⟨C.base b hb,?_⟩,fun b hb=>C.bd b hb.1,fun b hb=>⟨C.yx b hb.1,hb.2⟩⟩;rintro rfl
 have:=hX b hb
 rcases o.ge with h | h
 ·omega
 ·exact hM h
theorem Own.frz{g g':Nat}{cs:List Value}{T:TypeId}(o:Own w0 y w g' cs T)(hn:g'≠g):Own w0 (Jh1 y g) w g' cs T:=⟨⟨o.mem,hn⟩,o.ge,o.blk⟩
theorem Tr.frz{g:Nat}:Tr x w (Jh1 x g) w:=Tr.weak fun _ h=>h.1
theorem Own.frRS{g n c:Nat}{L:List Nat}{E:TypeId}(o:Own w0 y w g (L.map u32v) E)(hn:n≤L.length)(hc:n≤c)(hb:c≤1099511627776)(hL:∀ u ∈ L,u < 4294967296):
  RS Je (Jh1 x g) w (.slice (some ⟨g,0,none⟩) n c) (L.take n):=by
 have hl:(L.take n).length=n:=by rw [J9b];omega
 refine⟨_,c,by rw [hl],by omega,by unfold maxLen;omega,.inr ⟨g,0,rfl,fun h=>h.2 rfl,?_⟩⟩;intro i u hi;have hi':L[i]? =some u:=by
  have hlt:=(List.getElem?_eq_some_iff.1 hi).1;rw [hl] at hlt;rw [List.getElem?_take,if_pos hlt] at hi;exact hi
 refine⟨[u32v u],⟨rfl,hL u (List.mem_of_getElem? hi')⟩,?_⟩;intro j v hj
 cases j with
 | zero=>
  simp at hj;subst hj
  have:=o.blk.cell (j:=i) (v:=u32v u) (by rw [J94,hi'];rfl)
  rw [show 0+i * Je.sz+0=i by simp [Je]];exact this
 | succ j=>simp at hj
end
def GhL:Type:=Gh × (Nat→Option Nat)
def Jl4:Nat→Option Nat:=fun _=>none
def lab(m:Nat→Option Nat)(g k:Nat):Nat→Option Nat:=fun b=>if b=g then some k else m b
theorem yj(m:Nat→Option Nat)(g k:Nat):lab m g k g=some k:=by unfold lab;rw [if_pos rfl]
theorem Jju{m:Nat→Option Nat}{g g' j k:Nat}(h:m g=some j)(h':m g'=some k)(hjk:Nat.beq j k=false):g≠g':=by
 rintro rfl;rw [h] at h'
 cases h'
 simp at hjk
structure RL (X0:Nat→Prop) (w0:Bs) (s:GhL) (w:World) (s':GhL) (w':World):Prop where
 rc:RC X0 w0 s.1 w s'.1 w'
 ext:∀ g k,s.2 g=some k→s'.2 g=some k
 bd:(∀ g k,s.2 g=some k→g < w.heap.size)→∀ g k,s'.2 g=some k→g < w'.heap.size
section
variable {X0:Nat→Prop} {w0:Bs}
theorem J8n{x y:Nat→Prop}{w:World}(C:Cx X0 w0 x y w):RL X0 w0 ((x,y),Jl4) w ((x,y),Jl4) w.drew:=
 ⟨J6n C,fun _ _ h=>h,fun _ _ _ h=>by cases h⟩
theorem RL.trans:∀ (s:GhL) (a:World) (t:GhL) (b:World) (u:GhL) (c:World),RL X0 w0 s a t b→RL X0 w0 t b u c→RL X0 w0 s a u c:=
 fun s a t b u c h k=>⟨RC.trans _ _ _ _ _ _ h.rc k.rc,fun g j q=>k.ext g j (h.ext g j q),fun q=>k.bd (h.bd q)⟩
theorem RL.step{s:GhL}{w w':World}(r:RC X0 w0 s.1 w s.1 w'):RL X0 w0 s w s w':=
 ⟨r,fun _ _ h=>h,fun q g k h=>J85 (q g k h) r.sp.tx.size⟩
theorem RL.same{s:GhL}{w:World}(C:Cx X0 w0 s.1.1 s.1.2 w):RL X0 w0 s w s w:=RL.step (J4q C)
theorem J8l{s:GhL}{w w':World}{x y:Nat→Prop}{g k:Nat}(hb:∀ b j,s.2 b=some j→b < w.heap.size)(r:RC X0 w0 s.1 w (x,y) w')(hle:w.heap.size≤g)(hlt:g < w'.heap.size):
  RL X0 w0 s w ((x,y),lab s.2 g k) w':=by
 refine⟨r,fun b j h=>?_,fun q b j h=>?_⟩
 ·have:=hb b j h
  show lab s.2 g k b=some j
  unfold lab;rw [if_neg (by omega)];exact h
 ·have h:lab s.2 g k b=some j:=h;unfold lab at h
  split at h
  ·subst b;exact hlt
  ·exact J85 (q b j h) r.sp.tx.size
end
section
variable {P:Program} {ρ:Operand→Value} {dst:Option Tmp} {ty:TypeId} {pos:String} {after:Array Edge} {gd:Option (Nat × Bool)} {w:World} {K:Value→World→Prop} {Kp:List PanicEntry→World→Prop} {X0 x y:Nat→Prop} {w0:Bs}
theorem J76 {t e:TypeId} {l c:Operand} {kl kc:IntKind} {a:Int} {n by_:Nat} (C:Cx X0 w0 x y w) (ht:P.underlying t=some (.slice e)) (hl:ρ l= .int kl a) (hc:ρ c= .int kc a) (ha:a=n) (hb:n≤1099511627776)
  (hi:Zg P e=some (.int .u32 0,1,by_)) (hby:by_≤8)
  (h:∀ g w' x',Cx X0 w0 x' y w'→Sp x y w x' y w' Zn→OS Je e w0 x' y w' (.slice (some ⟨g,0,none⟩) n n) (List.replicate n 0)→K (.slice (some ⟨g,0,none⟩) n n) w'):
  St P ρ ⟨dst,.makeSlice t l c,ty,pos,after,gd⟩ w K Kp:=by
 refine J51 C ht hl hc ha hb hi hby fun g w' x' y' lt C' S' O'=>?_
 have hge:w.heap.size≤g:=Nat.le_of_not_lt fun hh=>lt _ hh rfl;refine h g w' x' ⟨C'.below,C'.base,C'.bd,fun b hb=>C'.yx b (S'.up b hb)⟩ ⟨S'.tx,⟨fun _ _ h=>h,S'.ty.blk,S'.ty.size⟩,fun _ h=>h,S'.same⟩ ⟨⟨List.replicate n [u32v 0],by simp,?_,?_⟩,?_⟩
 ·intro i cs u hcs hu;have h1:=(List.getElem?_eq_some_iff.1 hcs).2;have h2:=(List.getElem?_eq_some_iff.1 hu).2;simp at h1 h2;subst h1;subst h2;exact⟨rfl,by decide⟩
 ·refine⟨by simp [Je],.inr ⟨g,n,((List.replicate n 0).map u32v).toArray,by simp,J9h _,O'.blk,by simp,by unfold maxLen;omega,by simp [Je],?_⟩⟩;simp [Je]
 ·intro k hk;simp [Value.ownBlock] at hk;subst hk;exact⟨⟨C'.yx _ O'.mem,fun hy=>by have:=C.bd _ (C.yx _ hy);omega⟩,.inl (J86 C.below.size hge)⟩
end
section
variable {X0 x y x':Nat→Prop} {w0:Bs} {w:World}
theorem OS.pub{α:Type}{T:Ty α}{E:TypeId}{v:Value}{l:List α}(h:OS T E w0 x y w v l)(hs:∀ b,x' b→x b)(hx:∀ k,v.ownBlock=some k→¬ x' k):RS T x' w v l:=by
 obtain⟨⟨css,h1,h2,h3⟩,hm⟩:=h
 rcases h3.2 with ⟨rfl,h⟩ | ⟨g,cap,cur,rfl,hb,hg,h4,h5,_⟩
 ·exact⟨none,0,by rw [h],by omega,by unfold maxLen;omega,.inl (J9n h)⟩
 ·refine⟨_,cap,rfl,h4,h5,.inr ⟨g,0,rfl,hx g rfl,?_⟩⟩;intro i u hi;have hlt:i < l.length:=(List.getElem?_eq_some_iff.1 hi).1;have hci:css[i]? =some css[i]:=by simp [h1,hlt]
  have hr:=h2 i _ u hci hi;refine⟨css[i],T.tr hr (Tr.weak hs),?_⟩;intro j v hv;have hall:∀ cs ∈ css,cs.length=T.sz:=by
   intro cs hcs;obtain⟨q,hq,rfl⟩:=List.mem_iff_getElem.1 hcs;have hq':q < l.length:=by omega
   exact T.len (h2 q _ l[q] (by simp [hq]) (by simp [hq']))
  have hj:j < css[i].length:=(List.getElem?_eq_some_iff.1 hv).1
  have:=zf css hall i j _ hci hj
  rw [hv] at this;have h8:=h3.cells (g:=g) rfl _ _ this;rw [Addr.add_lit] at h8;rw [show 0+i * T.sz+j=0+(i * T.sz+j) by omega];exact h8
theorem OS.freeze{α:Type}{T:Ty α}{E:TypeId}{v:Value}{l:List α}(h:OS T E w0 x y w v l)(C:Cx X0 w0 x y w)(hX:∀ b,X0 b→b < w0.heap.size)(hM:∀ b,w0.M b→y b:=by exact fun _ h=>False.elim h):
  ∃ x':Nat→Prop,Cx X0 w0 x' y w∧(∀ b,x' b→x b)∧RS T x' w v l:=by
 refine⟨fun b=>x b∧v.ownBlock≠some b,⟨C.below,fun b hb=>⟨C.base b hb,fun e=>?_⟩,fun b hb=>C.bd b hb.1,fun b hb=>⟨C.yx b hb,fun e=>(h.mem b e).1.2 hb⟩⟩,fun _ hb=>hb.1,h.pub (fun _ hb=>hb.1) fun k e hk=>hk.2 e⟩;have h2:=hX b hb
 rcases(h.mem b e).2 with h1 | h1
 ·omega
 ·exact(h.mem b e).1.2 (hM b h1)
end
def Jcg(ops:Array Oper)(m n q:Nat)(dl:List (List Nat)):Bool:=
 let N:=ops.size
 m≤N && dl.length == m &&
 (ops.toList.all fun o=>match o.dst with | some d=>d < n | none=>true) &&
 ((List.range N).all fun k=>((ops[k]?).map fun o=>o.after.all fun e=> !Region.binds .any e || e.on < k).getD false) &&
 ((List.range m).all fun k=>(dl.getD k []).all fun j=>ancB ops N j k && j < m) &&
 ((List.range N).all fun k=>k < m || (List.range k).all fun j=>ancB ops N j k) &&
 ((List.range m).all fun k=>if k == q then((ops[k]?).bind (·.dst)).isNone else((ops[k]?).bind (·.dst)).isSome && (List.range m).all fun j=>j == k || j == q || Ya ops j != Ya ops k)
section
variable {fc:Fence} [Fw fc] {P:Program} {ops:Array Oper} {n:Nat} {D:List Deferred} {Q:Post} {f0:Fr} {w0:World}
structure DrawFacts2 (ops:Array Oper) (m n q:Nat) (dl:List (List Nat)):Prop where
 le:m≤ops.size
 len:dl.length=m
 dst:∀ (k:Nat) (o:Oper),ops[k]? =some o→lo n o.dst
 back:∀ (k:Nat) (o:Oper),ops[k]? =some o→∀ e ∈ o.after,Region.binds .any e=true→e.on < k
 deps:∀ k,k < m→∀ j ∈ dl.getD k [],ancB ops ops.size j k=true∧j < m
 tail:∀ k,k < ops.size→m≤k→∀ j,j < k→ancB ops ops.size j k=true
 some:∀ k,k < m→k≠q→((ops[k]?).bind (·.dst)).isSome=true
 none:∀ k,k < m→k=q→((ops[k]?).bind (·.dst))=none
 apart:∀ k,k < m→k≠q→∀ j,j < m→j≠k→j≠q→Ya ops j≠Ya ops k
theorem Jbr{m q:Nat}{dl:List (List Nat)}(h:Jcg ops m n q dl=true):DrawFacts2 ops m n q dl:=by
 simp only [Jcg,Bool.and_eq_true,decide_eq_true_eq,beq_iff_eq,List.all_eq_true,List.mem_range,Bool.or_eq_true,bne_iff_ne] at h;obtain⟨⟨⟨⟨⟨⟨h1,h2⟩,h3⟩,h4⟩,h5⟩,h6⟩,h7⟩:=h;have hS:∀ k,k < m→k≠q→((ops[k]?).bind (·.dst)).isSome=true∧∀ j,j < m→(j=k∨j=q)∨Ya ops j≠Ya ops k:=by
  intro k hk hq;have h8:=h7 k hk;rw [if_neg hq] at h8;simpa [Bool.and_eq_true,List.all_eq_true,List.mem_range,Bool.or_eq_true] using h8
 refine⟨h1,h2,?_,?_,fun k hk j hj=>by have:=h5 k hk j hj;exact this,?_,fun k hk hq=>(hS k hk hq).1,?_,?_⟩
 ·intro k o ho;have hm:o ∈ ops.toList:=by
   have:=Array.getElem?_eq_some_iff.1 ho
   obtain⟨hk,rfl⟩:=this;simp
  have:=h3 o hm
  unfold lo
  cases hd:o.dst with
  | none=>trivial
  | some d=>rw [hd] at this;simpa using this
 ·intro k o ho e he hb;have hk:=(Array.getElem?_eq_some_iff.1 ho).1
  have:=h4 k hk
  rw [ho] at this;simp only [Option.map_some,Option.getD_some,Array.all_eq_true'] at this
  have:=this e he
  simpa [hb] using this
 ·intro k hk hm j hj
  rcases h6 k hk with h | h
  ·omega
  ·exact h j hj
 ·intro k hk hq;have h8:=h7 k hk;rw [if_pos hq] at h8;simpa using h8
 ·intro k hk hq j hj hne hjq
  rcases(hS k hk hq).2 j hj with h | h
  ·rcases h with h | h
   ·exact absurd h hne
   ·exact absurd h hjq
  ·exact h
theorem Jod{m q:Nat}{dl:List (List Nat)}(F:DrawFacts2 ops m n q dl):∀ (fuel k:Nat) (L:Array Bool) (a:Act) (w:World),m≤k→k+fuel=ops.size→L.size=ops.size→
  (∀ i,i < ops.size→(L.getD i true=true↔i < k))→Good n D a→Sq P ops n Q (ops.toList.drop k) (frOf a) w→
  wpAnyIn fc 0 P .any ops (fun e a' w'=>Good n D a'∧Q e (frOf a') w') fuel L a w:=by
 intro fuel;have bridge:∀ (L:Array Bool),L.size=ops.size→∀ i,i < ops.size→L.getD i false=L.getD i true:=by
  intro L hs i hi
  have:L[i]? =some L[i]:=by simp [hs,hi]
  simp [J9e,this]
 induction fuel with
 | zero=>
  intro k L a w hm hk hs hL ha h;refine⟨?_,?_⟩
  ·rw [List.eq_nil_iff_forall_not_mem];intro i hi;obtain⟨h1,h2,_⟩:=Z4.1 hi
   have:=(hL i h1).2 (by omega)
   rw [this] at h2;cases h2
  ·rw [J9s (by simp;omega)] at h;exact⟨ha,h⟩
 | succ fuel ih=>
  intro k L a w hm hk hs hL ha h;have hkN:k < ops.size:=by omega
  have hok:ops[k]? =some ops[k]:=by simp [hkN]
  have hdr:ops.toList.drop k=ops[k]::ops.toList.drop (k+1):=by
   rw [List.drop_eq_getElem_cons (by simpa using hkN)];simp
  rw [hdr] at h;have hrk:k ∈ Region.ready .any ops L:=by
   refine Z4.2 ⟨hkN,?_,ops[k],hok,?_⟩
   ·cases hb:L.getD k true with
    | false=>rfl
    | true=>have:=(hL k hkN).1 hb;omega
   ·intro e he hb;have hlt:=F.back k _ hok e he hb;rw [bridge L hs _ (by omega)]
    exact(hL _ (by omega)).2 hlt
  refine⟨(fun hnil=>by rw [hnil] at hrk;cases hrk),?_⟩;intro i hi;obtain⟨h1,h2,o,ho,h3⟩:=Z4.1 hi;have hik:i=k:=by
   have hge:k≤i:=by
    rcases J9w i k with hl | hl
    ·rw [(hL i h1).2 hl] at h2;cases h2
    ·exact hl
   rcases Nat.eq_or_lt_of_le hge with e | hlt
   ·exact e.symm
   ·exfalso
    have hc:Qv ops L:=by
     intro k' hk' hl o' ho' e' he' hb';have hlt':=F.back k' _ ho' e' he' hb';rw [bridge L hs _ (by omega)]
     have:=(hL k' hk').1 hl
     exact(hL _ (by omega)).2 (by omega)
    have:=Ko hs hc ops.size k i h1 (fun o' ho'=>by rw [ho] at ho';cases ho';exact h3) (F.tail i h1 (by omega) k hlt)
    rw [bridge L hs k hkN] at this
    have:=(hL k hkN).1 this
    omega
  subst hik;simp only [Sq] at h;obtain⟨hlo,h⟩:=h;refine yp (Kv:=fun v w'=>Sq P ops n Q (ops.toList.drop (i+1)) (updO (frOf a) ops[i].dst v) w') (Kp:=fun ch w'=>Q (.panic ch) (frOf a) w') hok ha h ?_ (fun _ _ q=>q)
  intro v w' hk';refine ih (i+1) _ _ _ (by omega) (by omega) (by simp [hs]) ?_ (ha.put _ _) (by rw [Yg ha _ hlo];exact hk');intro j hj;rw [J9e,J9l]
  by_cases e:i=j
  ·subst e;simp [hs,hkN]
  ·have:=hL j hj
   rw [J9e] at this;simp only [e,if_false];rw [this];omega
theorem Jov {σ:Type} {s0:σ} {m q:Nat} {dl:List (List Nat)} (F:DrawFacts2 ops m n q dl) {R:σ→World→σ→World→Prop} {Gl:List (σ→Value→World→Prop)}
  (htr:∀ s a t b u c,R s a t b→R t b u c→R s a u c) (hG:Xz R Gl) (hQ:∀ s v v' w,(Gl.getD q noG) s v w→(Gl.getD q noG) s v' w)
  (hst:xl P ops Q R Gl f0 s0 w0 (J4 ops m) ops.toList dl 0)
  (htail:∀ f s w,R s0 w0 s w→Keep (J4 ops m) f0 f→Deps ops Gl f s w (List.range m)→Sq P ops n Q (ops.toList.drop m) f w):
  ∀ (fuel:Nat) (L:Array Bool) (a:Act) (s:σ) (w:World),unl ops.size L=fuel→L.size=ops.size→Qv ops L→
   (∀ i,i < ops.size→m≤i→L.getD i true=false)→Good n D a→R s0 w0 s w→Keep (J4 ops m) f0 (frOf a)→
   (∀ j,j < m→L.getD j true=true→(Gl.getD j noG) s (frOf a (Ya ops j)) w)→
   wpAnyIn fc 0 P .any ops (fun e a' w'=>Good n D a'∧Q e (frOf a') w') fuel L a w:=by
 intro fuel;have bridge:∀ (L:Array Bool),L.size=ops.size→∀ i,i < ops.size→L.getD i false=L.getD i true:=by
  intro L hs i hi
  have:L[i]? =some L[i]:=by simp [hs,hi]
  simp [J9e,this]
 have done:∀ (L:Array Bool) (a:Act) (s:σ) (w:World),unl ops.size L=ops.size - m→L.size=ops.size→(∀ i,i < m→L.getD i true=true)→
   (∀ i,i < ops.size→m≤i→L.getD i true=false)→Good n D a→R s0 w0 s w→Keep (J4 ops m) f0 (frOf a)→
   (∀ j,j < m→L.getD j true=true→(Gl.getD j noG) s (frOf a (Ya ops j)) w)→
   wpAnyIn fc 0 P .any ops (fun e a' w'=>Good n D a'∧Q e (frOf a') w') (ops.size - m) L a w:=by
  intro L a s w _ hs hall hno ha hR hK hg;refine Jod F (ops.size - m) m L a w (J9g _) (by have:=F.le;omega) hs ?_ ha (htail _ _ _ hR hK (Deps.of _ fun j hj=>hg j (by simpa using hj) (hall j (by simpa using hj))));intro i hi
  constructor
  ·intro h
   rcases J9w i m with hl | hl
   ·exact hl
   ·rw [hno i hi hl] at h;cases h
  ·intro h;exact hall i h
 have cnt:∀ (L:Array Bool),(∀ i,i < m→L.getD i true=true)→(∀ i,i < ops.size→m≤i→L.getD i true=false)→unl ops.size L=ops.size - m:=by
  intro L h1 h2;have hle:=F.le
  have:∀ N,m≤N→N≤ops.size→unl N L=N - m:=by
   intro N hN
   induction N with
   | zero=>intro _;simp [unl]
   | succ N ih=>
    intro hNs;simp only [unl,List.range_succ,List.countP_append,List.countP_singleton]
    rcases Nat.eq_or_lt_of_le hN with e | hlt
    ·have:unl N L=0:=by
      refine List.countP_eq_zero.2 ?_;intro i hi;have hi':i < N:=by simpa using hi
      simp [h1 i (by omega)]
     unfold unl at this;rw [this,h1 N (by omega)];simp;omega
    ·have:=ih (by omega) (by omega)
     unfold unl at this;rw [this,h2 N (by omega) (by omega)];simp;omega
  exact this ops.size hle (J9g _)
 induction fuel with
 | zero=>
  intro L a s w hu hs hc hno ha hR hK hg;have hall:=q5 hu;have hall':∀ i,i < m→L.getD i true=true:=fun i hi=>hall i (by have:=F.le;omega);have hu':=cnt L hall' hno
  have:=done L a s w hu' hs hall' hno ha hR hK hg
  rw [hu'.symm,hu] at this;exact this
 | succ fuel ih=>
  intro L a s w hu hs hc hno ha hR hK hg
  by_cases hall:∀ i,i < m→L.getD i true=true
  ·have hu':=cnt L hall hno
   have:=done L a s w hu' hs hall hno ha hR hK hg
   rw [hu'.symm,hu] at this;exact this
  ·
   have hex:∃ i,i < m∧L.getD i true=false:=by
    refine Classical.byContradiction fun hn=>hall fun i hi=>?_
    cases hb:L.getD i true with
    | true=>rfl
    | false=>exact absurd ⟨i,hi,hb⟩ hn
   have hmin:∃ i,i < m∧L.getD i true=false∧∀ j,j < i→L.getD j true=true:=by
    obtain⟨i,hi,hb⟩:=hex
    induction i using Nat.strongRecOn with
    | _ i ihh=>
     by_cases h:∃ j,j < i∧L.getD j true=false
     ·obtain⟨j,hj,hjb⟩:=h;exact ihh j hj (by omega) hjb
     ·refine⟨i,hi,hb,fun j hj=>?_⟩
      cases hjb:L.getD j true with
      | true=>rfl
      | false=>exact absurd ⟨j,hj,hjb⟩ h
   obtain⟨i0,hi0,hb0,hlow⟩:=hmin;have hle:=F.le;have hr0:i0 ∈ Region.ready .any ops L:=by
    have hok:ops[i0]? =some ops[i0]:=by simp [show i0 < ops.size by omega]
    refine Z4.2 ⟨by omega,hb0,ops[i0],hok,?_⟩;intro e he hbe;have hlt:=F.back i0 _ hok e he hbe;rw [bridge L hs _ (by omega)];exact hlow _ hlt
   refine⟨(fun hnil=>by rw [hnil] at hr0;cases hr0),?_⟩;intro i hi;obtain⟨h1,h2,o,ho,h3⟩:=Z4.1 hi;have him:i < m:=by
    rcases J9w i m with hl | hl
    ·exact hl
    ·exfalso
     have:=Ko hs hc ops.size i0 i h1 (fun o' ho'=>by rw [ho] at ho';cases ho';exact h3) (F.tail i h1 hl i0 (by omega))
     rw [bridge L hs i0 (by omega),hb0] at this
     cases this
   have hdep:Deps ops Gl (frOf a) s w (dl.getD i []):=by
    refine Deps.of _ fun j hj=>?_
    obtain⟨hanc,hjm⟩:=F.deps i him j hj
    have:=Ko hs hc ops.size j i h1 (fun o' ho'=>by rw [ho] at ho';cases ho';exact h3) hanc
    rw [bridge L hs j (by omega)] at this;exact hg j hjm this
   have hstep:=xl.at ops.toList dl 0 hst i o (by simpa using ho) (by rw [F.len];exact him) (frOf a) s w hR hK hdep;rw [Nat.zero_add] at hstep;have hlo:=F.dst i o ho;refine yp (Kv:=fun v w'=>∃ s',R s w s' w'∧(Gl.getD i noG) s' v w') (Kp:=fun ch w'=>∀ f,Q (.panic ch) f w') ho ha hstep ?_ ?_
   ·rintro v w' ⟨s',hRR,hgv⟩;refine ih _ _ s' _ ?_ (by simp [hs]) ?_ ?_ (ha.put _ _) (htr _ _ _ _ _ _ hR hRR) ?_ ?_
    ·have:=Jbl hs h1 h2;omega
    ·intro k hk hl o' ho' e he hb;rw [J9e,J9l]
     by_cases e1:i=e.on
     ·subst e1;simp [hs,h1]
     ·simp only [e1,if_false];rw [← J9e]
      by_cases e2:i=k
      ·subst e2;rw [ho] at ho';cases ho';exact h3 e he hb
      ·rw [J9e,J9l] at hl;simp only [e2,if_false] at hl;rw [← J9e] at hl;exact hc k hk hl o' ho' e he hb
    ·intro k hk hmk
     have:¬ i=k:=by omega
     rw [J9e,J9l];simp only [this,if_false];rw [← J9e];exact hno k hk hmk
    ·rw [Yg ha _ hlo]
     by_cases hiq:i=q
     ·have h9:=F.none i him hiq;rw [ho] at h9;have hd:o.dst=none:=h9;rw [hd];exact hK
     have hsome:=F.some i him hiq;rw [ho] at hsome;have hdi:Ya ops i=(o.dst).getD 0:=by simp [Ya,ho]
     obtain⟨d,hd⟩:=Option.isSome_iff_exists.1 hsome;simp only [Option.bind_some] at hd;have hdd:Ya ops i=d:=by rw [hdi,hd];rfl
     rw [hd];intro t ht;have htd:t≠d:=by
      rintro rfl
      have:t ∈ J4 ops m:=by
       refine List.mem_filterMap.2 ⟨o,?_,hd⟩;have h':ops.toList[i]? =some o:=by simpa using ho
       have:(ops.toList.take m)[i]? =some o:=by rw [List.getElem?_take,if_pos him];exact h'
       exact List.mem_of_getElem? this
      have:(J4 ops m).contains t=true:=by simpa using this
      rw [this] at ht;cases ht
     simp only [updO,upd,htd,if_false];exact hK t ht
    ·intro j hj hl;rw [Yg ha _ hlo];have keepq:∀ v2,j=q→(Gl.getD j noG) s' (frOf a (Ya ops j)) w'→(Gl.getD j noG) s' v2 w':=by
      intro v2 e h;subst e;exact hQ _ _ _ _ h
     by_cases e:j=i
     ·by_cases hjq:j=q
      ·subst e;subst hjq;exact hQ _ _ _ _ hgv
      ·subst e;have hsome:=F.some j him hjq;rw [ho] at hsome;have hdi:Ya ops j=(o.dst).getD 0:=by simp [Ya,ho]
       obtain⟨d,hd⟩:=Option.isSome_iff_exists.1 hsome;simp only [Option.bind_some] at hd;have hdd:Ya ops j=d:=by rw [hdi,hd];rfl
       rw [hd,hdd];simp only [updO,upd,if_true];exact hgv
     ·have e':¬ i=j:=fun h=>e h.symm;rw [J9e,J9l] at hl;simp only [e',if_false] at hl;rw [← J9e] at hl;have hst':=Xz.at Gl hG j _ s w s' w' (hg j hj hl) hRR
      by_cases hjq:j=q
      ·exact keepq _ hjq hst'
      ·by_cases hiq:i=q
       ·have h9:=F.none i him hiq;rw [ho] at h9;have hd:o.dst=none:=h9;rw [hd];exact hst'
       ·have hsome:=F.some i him hiq;rw [ho] at hsome;have hdi:Ya ops i=(o.dst).getD 0:=by simp [Ya,ho]
        obtain⟨d,hd⟩:=Option.isSome_iff_exists.1 hsome;simp only [Option.bind_some] at hd;have hdd:Ya ops i=d:=by rw [hdi,hd];rfl
        have hne:Ya ops j≠d:=by rw [← hdd];exact F.apart i him hiq j hj e hjq
        rw [hd];simp only [updO,upd,hne,if_false];exact hst'
   ·intro c w' hq;exact hq _
theorem J8t {σ:Type} {id:Nat} (hm:P.follows .mixedOrders=true) (m q:Nat) (dl:List (List Nat)) (s0:σ) (R:σ→World→σ→World→Prop) (Gl:List (σ→Value→World→Prop))
  (chk:Jcg ops m n q dl=true) (h0:R s0 w0 s0 w0.drew) (htr:∀ s a t b u c,R s a t b→R t b u c→R s a u c) (hG:Xz R Gl) (hQ:∀ s v v' w,(Gl.getD q noG) s v w→(Gl.getD q noG) s v' w)
  (hst:xl P ops Q R Gl f0 s0 w0 (J4 ops m) ops.toList dl 0)
  (htail:∀ f s w,R s0 w0 s w→Keep (J4 ops m) f0 f→Deps ops Gl f s w (List.range m)→Sq P ops n Q (ops.toList.drop m) f w):
  W fc P (Code.region id ops true) n D Q f0 w0:=by
 intro a ha hf;have F:=Jbr chk;refine wpIn_region_any hm ?_;have hz:∀ i,i < ops.size→(Array.replicate ops.size false).getD i true=false:=by
  intro i hi;simp [J9e,hi]
 refine Jov F htr hG hQ hst htail ops.size _ a s0 _ ?_ (by simp) ?_ (fun i hi _=>hz i hi) ha h0 (fun t _=>by rw [hf]) ?_
 ·unfold unl
  have:(List.range ops.size).countP (fun i=> !(Array.replicate ops.size false).getD i true)=(List.range ops.size).length:=by
   refine List.countP_eq_length.2 ?_;intro i hi;simp [hz i (by simpa using hi)]
  rw [this];simp
 ·intro k hk hl;rw [hz k hk] at hl;cases hl
 ·intro j hj hl;rw [hz j (by have:=F.le;omega)] at hl;cases hl
theorem J7i {σ:Type} {id:Nat} (hm:P.follows .mixedOrders=true) (m q:Nat) (dl:List (List Nat)) (s0:σ) (R:σ→World→σ→World→Prop) (Gl:List (σ→Value→World→Prop))
  (chk:Jcg ops m n q dl=true) (h0:R s0 w0 s0 w0.drew) (htr:∀ s a t b u c,R s a t b→R t b u c→R s a u c) (hG:Xz R Gl) (hQ:∀ s v v' w,(Gl.getD q noG) s v w→(Gl.getD q noG) s v' w)
  (h:∀ f s w,R s0 w0 s w→Keep (J4 ops m) f0 f→Ja8 P ops Q R Gl f s w ops.toList dl 0∧(Deps ops Gl f s w (List.range m)→Sq P ops n Q (ops.toList.drop m) f w)):
  W fc P (Code.region id ops true) n D Q f0 w0:=
 J8t hm m q dl s0 R Gl chk h0 htr hG hQ (Jb4 _ _ _ fun f s w r k=>(h f s w r k).1) fun f s w r k=>(h f s w r k).2
end
structure RW (X0:Nat→Prop) (w0:Bs) (g:Nat) (Φ:Gh→World→Prop) (s:Gh) (w:World) (s':Gh) (w':World):Prop where
 cx:Cx X0 w0 s'.1 s'.2 w'
 sp:Sp s.1 s.2 w s'.1 s'.2 w' (· =g)
 tn:Φ s w→Φ s' w'
 ow:∀ C T,Own w0 s.2 w g C T→∃ C',C'.length=C.length∧Own w0 s'.2 w' g C' T
section
variable {X0:Nat→Prop} {w0:Bs} {g:Nat} {Φ:Gh→World→Prop}
theorem Sp.wide{x y x' y':Nat→Prop}{w w':World}{ch:Nat→Prop}(h:Sp x y w x' y' w' Zn):Sp x y w x' y' w' ch:=⟨h.tx,h.ty,h.up,fun b hb _=>h.same b hb id⟩
theorem Sp.transW{x y x' y' x'' y'':Nat→Prop}{a b c:World}{ch:Nat→Prop}(h:Sp x y a x' y' b ch)(k:Sp x' y' b x'' y'' c ch):Sp x y a x'' y'' c ch:=
 ⟨h.tx.trans k.tx,h.ty.trans k.ty,fun b hb=>k.up b (h.up b hb),fun b hb hc=>(k.same b (J85 hb h.tx.size) hc).trans (h.same b hb hc)⟩
theorem RW.trans:∀ (s:Gh) (a:World) (t:Gh) (b:World) (u:Gh) (c:World),RW X0 w0 g Φ s a t b→RW X0 w0 g Φ t b u c→RW X0 w0 g Φ s a u c:=
 fun s a t b u c h k=>⟨k.cx,h.sp.transW k.sp,fun q=>k.tn (h.tn q),fun C T o=>by
  obtain⟨C1,e1,o1⟩:=h.ow C T o;obtain⟨C2,e2,o2⟩:=k.ow C1 T o1;exact⟨C2,e2.trans e1,o2⟩⟩
theorem RW.step(hΦ:∀ (s:Gh) (w:World) (s':Gh) (w':World),Sp s.1 s.2 w s'.1 s'.2 w' Zn→Φ s w→Φ s' w'){s s':Gh}{w w':World}(r:RC X0 w0 s w s' w'):RW X0 w0 g Φ s w s' w':=
 ⟨r.cx,r.sp.wide,hΦ _ _ _ _ r.sp,fun C T o=>⟨C,rfl,o.spn r.sp⟩⟩
theorem RW.turn{s:Gh}{w w':World}{C C':List Value}{T:TypeId}(c:Cx X0 w0 s.1 s.2 w')(p:Sp s.1 s.2 w s.1 s.2 w' (· =g))(o:Own w0 s.2 w g C T)(o':Own w0 s.2 w' g C' T)(hl:C'.length=C.length)(h:Φ s w'):RW X0 w0 g Φ s w s w':=by
 refine⟨c,p,fun _=>h,fun C2 T2 o2=>?_⟩
 have:=o2.blk
 have h2:=o.blk;unfold Blk at this h2;rw [h2] at this;simp only [Option.some.injEq,Obj.cells.injEq] at this;obtain⟨e1,e2,_⟩:=this;subst e2;refine⟨C',?_,o'⟩;rw [hl]
 have:=J87 Array.size e1
 simpa using this
end
section
variable {P:Program} {ρ:Operand→Value} {dst:Option Tmp} {ty:TypeId} {pos:String} {after:Array Edge} {gd:Option (Nat × Bool)} {w:World} {K:Value→World→Prop} {Kp:List PanicEntry→World→Prop} {X0 x y:Nat→Prop} {w0:Bs}
theorem J6z {a v:Operand} {t:TypeId} {z:Value} {sz by_ g:Nat} {cs vs:List Value} {T:TypeId} (C:Cx X0 w0 x y w) (hb:Own w0 y w g cs T) (hi:Zg P t=some (z,sz,by_))
  (hx:ρ a= .pointer (some ⟨g,0,none⟩)) (hy:(ρ v).cells=vs.toArray) (hl:vs.length=sz) (hcl:cs.length=sz) (h1:vs.all Value.oneCell'=true)
  (h:∀ w',Cx X0 w0 x y w'→Sp x y w x y w' (· =g)→Own w0 y w' g vs T→K undef w'):St P ρ ⟨dst,.store t a v,ty,pos,after,gd⟩ w K Kp:=
 J5r C hb hi hx hy hl (Nat.ble_eq_true_of_le (by omega)) h1 (by rw [List.take_zero,J9t,Nat.zero_add,J9s (by omega),J92]) h
end
end Go.Wf
namespace Go.Wf
open Go
def cmpN(a b:Nat):Int:=if a < b then -1 else if a=b then 0 else 1
theorem Jcd{d:Nat}(h:d < 4294967296):IntKind.u64.wrap ((d:Int) * 2 ^ min (32:Int).toNat IntKind.u64.bits)=((d * 4294967296:Nat):Int):=by
 have:(2:Int) ^ min (32:Int).toNat IntKind.u64.bits=4294967296:=by decide
 rw [this,J9i _ (by omega)];omega
theorem Jbv{d e:Nat}(hd:d < 4294967296)(he:e < 4294967296):IntKind.u64.wrap (BitVec.ofInt IntKind.u64.bits ((d * 4294967296:Nat):Int) ||| BitVec.ofInt IntKind.u64.bits (e:Int)).toNat=((d * 4294967296+e:Nat):Int):=by
 have h1:(BitVec.ofInt IntKind.u64.bits ((d * 4294967296:Nat):Int)).toNat=d * 4294967296:=by
  rw [BitVec.toNat_ofInt];simp [IntKind.bits];omega
 have h2:(BitVec.ofInt IntKind.u64.bits (e:Int)).toNat=e:=by
  rw [BitVec.toNat_ofInt];simp [IntKind.bits];omega
 rw [BitVec.toNat_or,h1,h2]
 have:d * 4294967296 ||| e=d * 4294967296+e:=by
  rw [show(4294967296:Nat)=2 ^ 32 by decide,J90,Nat.two_pow_add_eq_or_of_lt (by omega)]
 rw [this,J9i _ (by omega)]
theorem Jy7{m:List Nat}(h:((m.length:Nat):Int)=0):((0:Nat):Int)=((val m:Nat):Int):=by
 have:m=[]:=J9n (by omega)
 subst this;rfl
theorem J0a{m:List Nat}(h:((m.length:Nat):Int)=1):((m.getD 0 0:Nat):Int)=((val m:Nat):Int):=by
 match m,h with
 | [d],_=>simp [val]
 | [],h=>simp at h
 | _::_::_,h=>simp at h;omega
theorem Jz3{m:List Nat}(h:m.length=2):((m.getD 1 0 * 4294967296+m.getD 0 0:Nat):Int)=((val m:Nat):Int):=by
 match m,h with
 | [d,e],_=>simp [val];omega
theorem Xy{l:List Nat}(h:trim l=l)(hl:l≠[]):4294967296 ^ (l.length - 1)≤val l:=by
 rcases List.eq_nil_or_concat l with rfl | ⟨q,d,rfl⟩
 ·exact absurd rfl hl
 ·rw [List.concat_eq_append] at h ⊢;have hd:d≠0:=by
   rintro rfl;rw [yb] at h
   have:=Jw q
   rw [h] at this;simp at this;omega
  rw [Z3,J8z,J82,Nat.add_sub_cancel]
  have:4294967296 ^ q.length * 1≤4294967296 ^ q.length * d:=J9y _ (by omega)
  omega
theorem Yy{a b:List Nat}(hb:trim b=b)(sa:Jn a)(h:a.length < b.length):val a < val b:=by
 have h1:=Zp a sa;have h2:=Xy hb (by intro e;subst e;simp at h)
 have:(4294967296:Nat) ^ a.length≤4294967296 ^ (b.length - 1):=J9v (by omega) (by omega)
 omega
theorem Jui{a b:List Nat}(ha:trim a=a)(hb:trim b=b)(sa:Jn a)(sb:Jn b)(h:¬ a.length=b.length):(((a.length:Nat):Int) - ((b.length:Nat):Int)).sign=cmpN (val a) (val b):=by
 unfold cmpN
 rcases J9w a.length b.length with hl | hl
 ·rw [if_pos (Yy hb sa hl),Int.sign_eq_neg_one_of_neg (by omega)]
 ·have:=Yy ha sb (by omega)
  rw [if_neg (by omega),if_neg (by omega),Int.sign_eq_one_of_pos (by omega)]
theorem Jpn(l:List Nat)(i:Nat)(h:i < l.length):l=l.take i++l.getD i 0::l.drop (i+1):=by
 rw [J9d,J9f h];simp
theorem Jcp(l:List Nat)(i:Nat)(h:i < l.length):val l=val (l.take i)+4294967296 ^ i * (l.getD i 0+4294967296 * val (l.drop (i+1))):=by
 conv=>lhs;rw [Jpn l i h]
 rw [Qa,J9b,Nat.min_eq_left (by omega),val]
theorem Jgp{a b:List Nat}{j:Nat}(hl:j≤a.length)(hab:a.length=b.length)(h0:0 < j)(h:((a.getD (j - 1) 0:Nat):Int)=((b.getD (j - 1) 0:Nat):Int))(heq:a.drop j=b.drop j):a.drop (j - 1)=b.drop (j - 1):=by
 obtain⟨i,rfl⟩:∃ i,j=i+1:=⟨j - 1,by omega⟩;rw [Nat.add_sub_cancel] at h ⊢;have h':a.getD i 0=b.getD i 0:=by omega
 have e1:a.drop i=a.getD i 0::a.drop (i+1):=by
  rw [J9d,J9f (by omega)];simp
 have e2:b.drop i=b.getD i 0::b.drop (i+1):=by
  rw [J9d,J9f (by omega)];simp
 rw [e1,e2,h',heq]
theorem Jjk{a b:List Nat}{j:Nat}(sa:Jn a)(_sb:Jn b)(hl:j≤a.length)(hab:a.length=b.length)(h0:0 < j)(h:a.getD (j - 1) 0 < b.getD (j - 1) 0)(heq:a.drop j=b.drop j):(-1:Int)=cmpN (val a) (val b):=by
 obtain⟨i,rfl⟩:∃ i,j=i+1:=⟨j - 1,by omega⟩;rw [Nat.add_sub_cancel] at h
 have:val a < val b:=by
  rw [Jcp a i (by omega),Jcp b i (by omega),heq];have h1:=Zp (a.take i) (Vt sa i);rw [J9b,Nat.min_eq_left (by omega)] at h1
  generalize 4294967296 * val (b.drop (i+1))=t
  have h2:4294967296 ^ i * (a.getD i 0+t)+4294967296 ^ i≤4294967296 ^ i * (b.getD i 0+t):=by
   rw [← Nat.mul_succ];exact J9y _ (by omega)
  omega
 unfold cmpN;rw [if_pos this]
theorem Jr6{a b:List Nat}{j:Nat}(sa:Jn a)(sb:Jn b)(hl:j≤a.length)(hab:a.length=b.length)(h0:0 < j)(h:¬ a.getD (j - 1) 0 < b.getD (j - 1) 0)(h':¬ a.getD (j - 1) 0=b.getD (j - 1) 0)(heq:a.drop j=b.drop j):(1:Int)=cmpN (val a) (val b):=by
 have:=Jjk sb sa (by omega) hab.symm h0 (by omega) heq.symm
 unfold cmpN at this ⊢
 split at this
 ·rw [if_neg (by omega),if_neg (by omega)]
 ·split at this
  ·cases this
  ·cases this
theorem Jqo{a b:List Nat}{j:Nat}(h:j=0)(heq:a.drop j=b.drop j):(0:Int)=cmpN (val a) (val b):=by
 subst h;rw [List.drop_zero,List.drop_zero] at heq;subst heq;unfold cmpN;rw [if_neg (by omega),if_pos rfl]
theorem tb31{a:Nat}(h:a < 4294967296):a.testBit 31=decide (2147483648≤a):=by
 rw [Nat.testBit_eq_decide_div_mod_eq];rw [Bool.eq_iff_iff];simp;omega
theorem div31{a:Nat}(h:a < 4294967296):a / 2147483648=if a.testBit 31 then 1 else 0:=by
 rw [tb31 h]
 by_cases h2:2147483648≤a
 ·simp [h2];omega
 ·simp [h2];omega
theorem Jij{x y b d:Nat}(hx:x < 4294967296)(hy:y < 4294967296)(hb:b≤1)(hd:d=(x+8589934592 - y - b) % 4294967296):
  (((4294967295 - x) &&& y) ||| ((4294967295 - (x ^^^ y)) &&& d)) / 2147483648=if x < y+b then 1 else 0:=by
 have hdl:d < 4294967296:=by omega
 have h1:(4294967295 - x) &&& y < 4294967296:=Nat.and_lt_two_pow _ (n:=32) hy;have h2:(4294967295 - (x ^^^ y)) &&& d < 4294967296:=Nat.and_lt_two_pow _ (n:=32) hdl;have hxy:x ^^^ y < 4294967296:=Nat.xor_lt_two_pow (n:=32) hx hy;have h3:((4294967295 - x) &&& y) ||| ((4294967295 - (x ^^^ y)) &&& d) < 4294967296:=Nat.or_lt_two_pow (n:=32) h1 h2;rw [div31 h3,Nat.testBit_or,Nat.testBit_and,Nat.testBit_and,tb31 hy,tb31 hdl,tb31 (a:=4294967295 - x) (by omega),tb31 (a:=4294967295 - (x ^^^ y)) (by omega)];have hxor:decide (2147483648≤4294967295 - (x ^^^ y))= !(decide (2147483648≤x) ^^ decide (2147483648≤y)):=by
  have:=Nat.testBit_xor x y 31
  rw [tb31 hx,tb31 hy,tb31 hxy] at this;rw [← this];rw [Bool.eq_iff_iff];simp;omega
 rw [hxor]
 by_cases hx1:2147483648≤x <;> by_cases hy1:2147483648≤y <;> by_cases hd1:2147483648≤d <;> by_cases hlt:x < y+b <;> simp [hx1,hy1,hd1,hlt] <;> omega
theorem Jsj{x y:Nat}(hy:y < 4294967296):IntKind.u32.wrap ((x:Int) - (y:Int))=(((x+4294967296 - y) % 4294967296:Nat):Int):=by
 rw [IntKind.wrap_u32];omega
theorem Xg{p:List Nat}{i n d:Nat}(hp:p.length=i)(hi:i < n):(p++List.replicate (n - i) 0).set i d=(p++[d])++List.replicate (n - (i+1)) 0:=by
 obtain⟨k,hk⟩:∃ k,n - i=k+1:=⟨n - i - 1,by omega⟩;rw [hk,show n - (i+1)=k by omega,List.replicate_succ,List.set_append,if_neg (by omega),hp,Nat.sub_self,List.set_cons_zero,J89];rfl
theorem Jk5{p:List Nat}{n d:Nat}(hp:p.length=n):(p++List.replicate (n+1 - n) 0).set n d=p++[d]:=by
 have:=Xg (d:=d) hp (Nat.lt_succ_self n)
 rw [this,Nat.sub_self];simp
theorem Jcw{p:List Nat}{i n d:Nat}(hp:p.length=i)(hi:i=n):(p++List.replicate (n+1 - i) 0).set n d=p++[d]:=by
 subst hi;exact Jk5 hp
theorem mulB{q s:Nat}:q * (s % 4294967296)+q * 4294967296 * (s / 4294967296)=q * s:=by
 rw [J9x,← J9r]
 congr 1;omega
theorem zt{A B p:List Nat}{i c x y:Nat}(hp:p.length=i)(hv:val p+4294967296 ^ i * c=val (A.take i)+val (B.take i))(hx:x=A.getD i 0)(hy:y=B.getD i 0):
  val (p++[(x+y+c) % 4294967296])+4294967296 ^ (i+1) * ((x+y+c) / 4294967296)=val (A.take (i+1))+val (B.take (i+1)):=by
 rw [Z3,hp,J9p,Jr,Jr,← hx,← hy]
 have:=mulB (q:=4294967296 ^ i) (s:=x+y+c)
 rw [J9r,J9r] at this;omega
theorem Jx{p:List Nat}(h:Jn p){d:Nat}(hd:d < 4294967296):Jn (p++[d]):=Zz h (Zu hd J6)
theorem Ki{l:List Nat}{i:Nat}(h:l.length≤i):0=l.getD i 0:=by rw [J9d,J9z h];rfl
theorem Jf0{A B p:List Nat}{n c:Nat}(hs:Jn p)(hp:p.length=n)(hn:n=A.length)(hBA:B.length≤A.length)(hc:c≤1)(hv:val p+4294967296 ^ n * c=val (A.take n)+val (B.take n)):
  p++[c]=Jq (A.length+1) (val A+val B):=by
 subst hn;refine Y0 (Jx hs (by omega)) (by rw [J8z,hp];rfl) ?_;rw [Z3,hp,hv,List.take_length,J9o hBA]
theorem Jdj{A B p:List Nat}{i c x y:Nat}(hp:p.length=i)(hc:c≤1)(hxl:x < 4294967296)(hyl:y < 4294967296)(hv:val p+val (B.take i)=val (A.take i)+4294967296 ^ i * c)(hx:x=A.getD i 0)(hy:y=B.getD i 0):
  val (p++[(x+8589934592 - y - c) % 4294967296])+val (B.take (i+1))=val (A.take (i+1))+4294967296 ^ (i+1) * (if x < y+c then 1 else 0):=by
 rw [Z3,hp,J9p,Jr,Jr,← hx,← hy];have key:(x+8589934592 - y - c) % 4294967296+y+c=x+4294967296 * (if x < y+c then 1 else 0):=by
  split <;> omega
 have:=J87 (4294967296 ^ i * ·) key
 simp only [J9r] at this;rw [← J9x] at this;omega
theorem Jhp{A B p:List Nat}{n c:Nat}(hs:Jn p)(hp:p.length=n)(hn:n=A.length)(hBA:B.length≤A.length)(hle:val B≤val A)(hv:val p+val (B.take n)=val (A.take n)+4294967296 ^ n * c):
  p=Jq A.length (val A - val B):=by
 subst hn;rw [List.take_length,J9o hBA] at hv;refine Y0 hs hp ?_;have hlt:=Zp p hs;rw [hp] at hlt
 rcases Nat.eq_zero_or_pos c with rfl | hcp
 ·omega
 ·exfalso
  have:4294967296 ^ A.length * 1≤4294967296 ^ A.length * c:=J9y _ hcp
  omega
theorem Jpq{x y:Nat}(hx:x < 4294967296)(hy:y < 4294967296):x * y≤18446744065119617025:=
 J86 (Nat.mul_le_mul (show x≤4294967295 by omega) (show y≤4294967295 by omega)) (by omega)
theorem Vc{l:List Nat}(h:Jn l){d:Nat}(hd:d < 4294967296)(k:Nat):Jn (l.set k d):=by
 intro u hu
 rcases List.mem_or_eq_of_mem_set hu with hu | rfl
 ·exact h u hu
 ·exact hd
theorem xm{l:List Nat}{k m d:Nat}(h:m≠k):(l.set k d).getD m 0=l.getD m 0:=by
 have h':¬ k=m:=fun e=>h e.symm;simp [J9d,List.getElem?_set,h']
theorem xg:∀ {l:List Nat} {k d:Nat},k < l.length→val (l.set k d)+4294967296 ^ k * l.getD k 0=val l+4294967296 ^ k * d
 | [],_,_,h=>by simp at h
 | e::l,0,d,_=>by simp [val];omega
 | e::l,k+1,d,h=>by
  have:=xg (l:=l) (k:=k) (d:=d) (by simpa using h)
  have e1:(e::l).getD (k+1) 0=l.getD k 0:=by simp [J9d]
  rw [List.set_cons_succ,val,val,e1,J9p]
  generalize hq:4294967296 ^ k=q at this ⊢
  rw [J90 q 4294967296,J9x,J9x];omega
theorem Jh5{L:List Nat}{i j c x y V W:Nat}(hk:i+j < L.length)(hv:val L+4294967296 ^ (i+j) * c=V+4294967296 ^ i * (x * W)){W':Nat}(hW:W'=W+4294967296 ^ j * y):
  val (L.set (i+j) ((x * y+L.getD (i+j) 0+c) % 4294967296))+4294967296 ^ (i+(j+1)) * ((x * y+L.getD (i+j) 0+c) / 4294967296)=V+4294967296 ^ i * (x * W'):=by
 have h1:=xg (d:=(x * y+L.getD (i+j) 0+c) % 4294967296) hk;have h2:=mulB (q:=4294967296 ^ (i+j)) (s:=x * y+L.getD (i+j) 0+c);rw [show i+(j+1)=(i+j)+1 by omega,J9p,hW];rw [J9r,J9r] at h2;have h3:4294967296 ^ i * (x * (W+4294967296 ^ j * y))=4294967296 ^ i * (x * W)+4294967296 ^ (i+j) * (x * y):=by
  rw [J9r,J9r,Nat.pow_add]
  congr 1
  rw [J9x,Nat.mul_left_comm x]
 omega
theorem Jkf{L':List Nat}{i n c x V W:Nat}(hk:i+n < L'.length)(hz:L'.getD (i+n) 0=0)(hv:val L'+4294967296 ^ (i+n) * c=V * W+4294967296 ^ i * (x * W)):
  val (L'.set (i+n) c)=(V+4294967296 ^ i * x) * W:=by
 have h1:=xg (d:=c) hk;rw [hz,Nat.mul_zero] at h1;rw [Nat.add_mul,J9x];omega
def Xs(a b:List Nat):List Nat:=if a=[]∨b=[] then [] else if a.length=1∧b.length=1 then digs (val a * val b) else Jq (a.length+b.length) (val a * val b)
theorem Ja2{a b:List Nat}(sa:Jn a)(sb:Jn b):val a * val b < 4294967296 ^ (a.length+b.length):=by
 rw [Nat.pow_add];exact Nat.mul_lt_mul'' (Zp a sa) (Zp b sb)
theorem Jed{a b:List Nat}(sa:Jn a)(sb:Jn b):trim (Xs a b)=digs (val a * val b):=by
 unfold Xs
 split
 ·rename_i h
  rcases h with rfl | rfl <;> simp [val,xh,trim]
 ·split
  ·exact Yx _
  ·exact K1 (Ja2 sa sb)
theorem Jbu{a b:List Nat}(sa:Jn a)(sb:Jn b):(Xs a b).length≤a.length+b.length:=by
 unfold Xs
 split
 ·simp
 ·split
  ·exact Jz (Ja2 sa sb)
  ·rw [Jg];exact J9g _
theorem Je9{a:List Nat}(h:a.length=1):a.getD 0 0=val a:=by
 match a,h with
 | [d],_=>simp [val]
theorem Vr{a:List Nat}{j:Nat}(h0:0 < j)(hj:j≤a.length):val (a.drop (j - 1))=a.getD (j - 1) 0+4294967296 * val (a.drop j):=by
 obtain⟨i,rfl⟩:∃ i,j=i+1:=⟨j - 1,by omega⟩;rw [Nat.add_sub_cancel];have e1:a.drop i=a.getD i 0::a.drop (i+1):=by
  rw [J9d,J9f (by omega)];simp
 conv=>lhs;rw [e1]
 rfl
theorem Jan{a q:List Nat}{j r d:Nat}(h0:0 < j)(hj:j≤a.length)(hv:val q * d+r=val (a.drop j)):
  val (((r * 4294967296+a.getD (j - 1) 0) / d)::q) * d+(r * 4294967296+a.getD (j - 1) 0) % d=val (a.drop (j - 1)):=by
 rw [Vr h0 hj,← hv,val,Nat.add_mul]
 have:=Nat.div_add_mod (r * 4294967296+a.getD (j - 1) 0) d
 rw [J90 d] at this;have e:4294967296 * val q * d=4294967296 * (val q * d):=J9x _ _ _;omega
theorem Jbh{q:List Nat}{j d:Nat}(h0:0 < j):(List.replicate j 0++q).set (j - 1) d=List.replicate (j - 1) 0++d::q:=by
 obtain⟨i,rfl⟩:∃ i,j=i+1:=⟨j - 1,by omega⟩;rw [Nat.add_sub_cancel,List.replicate_succ',J89,List.set_append,if_neg (by simp),J88,Nat.sub_self];rfl
theorem Jkq{a q:List Nat}{r d:Nat}(hs:Jn q)(hl:q.length=a.length)(hr:r < d)(hv:val q * d+r=val (a.drop 0)):q=Jq a.length (val a / d)∧r=val a % d:=by
 rw [List.drop_zero] at hv;have h1:val a / d=val q:=by
  rw [← hv,J90,Nat.mul_add_div (by omega),Nat.div_eq_of_lt hr,Nat.add_zero]
 have h2:val a % d=r:=by
  rw [← hv,J90,Nat.mul_add_mod,Nat.mod_eq_of_lt hr]
 exact⟨Y0 hs hl h1.symm,h2.symm⟩
theorem zg{s:Nat}(h:s < 32):2 ^ s≤2147483648:=by
 have:2 ^ s≤2 ^ 31:=J9v (by omega) (by omega)
 omega
theorem Jj6{x s:Nat}(hx:x < 4294967296)(hs:s < 32):s≤64∧x * 2 ^ s < 18446744073709551616:=
 ⟨by omega,J91 (Nat.mul_le_mul (show x≤4294967295 by omega) (zg hs)) (by omega)⟩
theorem Jkb{x s:Nat}(hx:x < 4294967296):x * 2 ^ s / 4294967296 < 2 ^ s:=
 Nat.div_lt_of_lt_mul (by rw [J90 x,J90 4294967296];exact Nat.mul_lt_mul_of_pos_left hx (Nat.two_pow_pos s))
theorem Jt8{x s:Nat}(hs:s < 32):x * 2 ^ s % 4294967296=2 ^ s * (x % 2 ^ (32 - s)):=by
 have e:4294967296=2 ^ s * 2 ^ (32 - s):=by rw [← Nat.pow_add,show s+(32 - s)=32 by omega]
 rw [e,J90 x,Nat.mul_mod_mul_left]
theorem Ji6{h x s:Nat}(hs:s < 32)(hh:h < 2 ^ s):h ||| (x * 2 ^ s % 4294967296)=h+x * 2 ^ s % 4294967296:=by
 rw [Jt8 hs,Nat.or_comm,← Nat.two_pow_add_eq_or_of_lt hh,Nat.add_comm]
theorem Jdn{h x s:Nat}(hs:s < 32)(hh:h < 2 ^ s):h+x * 2 ^ s % 4294967296 < 4294967296:=by
 rw [← Ji6 hs hh]
 have:=zg hs
 exact Nat.or_lt_two_pow (n:=32) (by omega) (J9c _ (by omega))
theorem qh{a p:List Nat}{i h s:Nat}(hp:p.length=i)(hv:val p+4294967296 ^ i * h=val (a.take i) * 2 ^ s):
  val (p++[h+a.getD i 0 * 2 ^ s % 4294967296])+4294967296 ^ (i+1) * (a.getD i 0 * 2 ^ s / 4294967296)=val (a.take (i+1)) * 2 ^ s:=by
 rw [Z3,hp,J9p,Jr,Nat.add_mul,← hv]
 have:=mulB (q:=4294967296 ^ i) (s:=a.getD i 0 * 2 ^ s)
 rw [J9r,J9x (4294967296 ^ i) (a.getD i 0)];omega
theorem Jr9{p r:List Nat}{i h d:Nat}(hp:p.length=i):(p++h::r).set i d=p++d::r:=by
 rw [List.set_append,if_neg (by omega),hp,Nat.sub_self,List.set_cons_zero]
theorem Ji1{p:List Nat}{i n h d:Nat}(hp:p.length=i)(hi:i < n):(p++h::List.replicate (n - i) 0).set (i+1) d=(p++[h])++d::List.replicate (n - (i+1)) 0:=by
 obtain⟨k,hk⟩:∃ k,n - i=k+1:=⟨n - i - 1,by omega⟩;rw [hk,show n - (i+1)=k by omega,List.replicate_succ,List.set_append,if_neg (by omega),hp,Nat.add_sub_cancel_left,List.set_cons_succ,List.set_cons_zero,J89];rfl
theorem Jiu{p r:List Nat}{i h:Nat}(hp:p.length=i):(p++h::r)[i]? =some h:=by
 rw [List.getElem?_append_right (by omega),hp,Nat.sub_self];rfl
theorem vx{a p:List Nat}{i h s:Nat}(hsm:Jn p)(hs:s < 32)(hh:h < 2 ^ s)(hp:p.length=i)(hi:i=a.length)(hv:val p+4294967296 ^ i * h=val (a.take i) * 2 ^ s):
  p++h::List.replicate (a.length - i) 0=Jq (a.length+1) (val a * 2 ^ s):=by
 subst hi;rw [Nat.sub_self,List.replicate_zero]
 have:=zg hs
 refine Y0 (Jx hsm (by omega)) (by rw [J8z,hp];rfl) ?_;rw [Z3,hp,hv,List.take_length]
theorem Jal:∀ (n v:Nat),Jq (n+1) v=Jq n v++[v / 4294967296 ^ n % 4294967296]
 | 0,v=>by simp [Jq]
 | n+1,v=>by
  rw [Jq,Jal n,Jq,List.cons_append,J9p,Nat.div_div_eq_div_mul,J90 4294967296]
theorem zb:∀ {a:List Nat},Jn a→∀ i,val a / 4294967296 ^ i=val (a.drop i)
 | [],_,i=>by simp [val]
 | d::r,_,0=>by simp
 | d::r,h,i+1=>by
  have hd:d < 4294967296:=h d (by simp)
  have:=zb (a:=r) (fun u hu=>h u (by simp [hu])) i
  rw [List.drop_succ_cons,← this,val,J9p,J90 (4294967296 ^ i),← Nat.div_div_eq_div_mul]
  congr 1
  omega
theorem Jii{x y r s:Nat}(hs:s < 32):((x+4294967296 * (y+4294967296 * r)) / 2 ^ s) % 4294967296=((x+y * 4294967296) / 2 ^ s) % 4294967296:=by
 have e:4294967296=2 ^ s * 2 ^ (32 - s):=by rw [← Nat.pow_add,show s+(32 - s)=32 by omega]
 have h1:x+4294967296 * (y+4294967296 * r)=(x+y * 4294967296)+2 ^ s * (2 ^ (32 - s) * r * 4294967296):=by
  have:2 ^ s * (2 ^ (32 - s) * r * 4294967296)=4294967296 * (4294967296 * r):=by
   rw [J9x (2 ^ (32 - s)),← J9x (2 ^ s),← e,J90 r]
  rw [this];omega
 rw [h1,Nat.add_mul_div_left _ _ (Nat.two_pow_pos s),J90 (2 ^ (32 - s) * r),Nat.add_mul_mod_self_left]
theorem Jdu{a:List Nat}{i s:Nat}(sa:Jn a)(hs:s < 32)(hi:i < a.length){y:Nat}(hy:y=a.getD (i+1) 0):
  Jq i (val a / 2 ^ s)++[(a.getD i 0+y * 4294967296) / 2 ^ s % 4294967296]=Jq (i+1) (val a / 2 ^ s):=by
 rw [Jal,Nat.div_div_eq_div_mul,J90 (2 ^ s),← Nat.div_div_eq_div_mul,zb sa];have h1:=Vr (a:=a) (j:=i+1) (by omega) (by omega);rw [Nat.add_sub_cancel] at h1;rw [h1,hy]
 congr 2
 rcases J9w (i+1) a.length with h | h
 ·have h2:=Vr (a:=a) (j:=i+2) (by omega) (by omega);rw [show i+2 - 1=i+1 by omega] at h2;rw [h2,Jii hs]
 ·have:a.drop (i+1)=[]:=J9s h
  rw [this,← Ki h];simp [val]
theorem Jo5{L:List Nat}{i n j d:Nat}(hj:j < n)(h:∀ k,L.getD (i+n+k) 0=0∨L.length≤i+n+k):∀ k,(L.set (i+j) d).getD (i+n+k) 0=0∨(L.set (i+j) d).length≤i+n+k:=by
 intro k;rw [xm (by omega),List.length_set];exact h k
theorem Jtd{L:List Nat}{i n d:Nat}(h:∀ k,L.getD (i+n+k) 0=0∨L.length≤i+n+k):∀ k,(L.set (i+n) d).getD (i+1+n+k) 0=0∨(L.set (i+n) d).length≤i+1+n+k:=by
 intro k;rw [xm (by omega),List.length_set,show i+1+n+k=i+n+(k+1) by omega];exact h (k+1)
theorem Jnk{L:List Nat}{i n:Nat}(h:∀ k,L.getD (i+n+k) 0=0∨L.length≤i+n+k)(hl:i+n < L.length):L.getD (i+n) 0=0:=by
 rcases h 0 with h | h
 ·exact h
 ·omega
theorem Jms{a b L:List Nat}(h0:0 < a.length)(h1:0 < b.length)(h2:¬ (a.length=1∧b.length=1))(hL:L.length=a.length+b.length)(hs:Jn L)(hv:val L=val a * val b):L=Xs a b:=by
 unfold Xs;rw [if_neg (by rintro(h | h) <;> simp [h] at h0 h1),if_neg h2];exact Y0 hs hL hv
theorem Jdz{a b:List Nat}(h:a.length=0∨b.length=0):[]=Xs a b:=by
 unfold Xs;rw [if_pos (h.imp List.length_eq_zero_iff.1 List.length_eq_zero_iff.1)]
theorem Jjz{a b:List Nat}(ha:a.length=1)(hb:b.length=1):digs (a.getD 0 0 * b.getD 0 0)=Xs a b:=by
 unfold Xs;rw [if_neg (by rintro(h | h) <;> simp [h] at ha hb),if_pos ⟨ha,hb⟩,Je9 ha,Je9 hb]
theorem xw{a q:List Nat}{j r d:Nat}(hj:j=0)(hs:Jn q)(hl:j+q.length=a.length)(hr:r < d)(hv:val q * d+r=val (a.drop j)):List.replicate j 0++q=Jq a.length (val a / d)∧r=val a % d:=by
 subst hj;rw [List.replicate_zero,J9t];exact Jkq hs (by omega) hr hv
theorem Jik{a:List Nat}{i s:Nat}(sa:Jn a)(hs:s < 32)(hi:i < a.length)(hy:a.length≤i+1):
  Jq i (val a / 2 ^ s)++[a.getD i 0 / 2 ^ s % 4294967296]=Jq (i+1) (val a / 2 ^ s):=by
 have:=Jdu sa hs hi (Ki hy)
 rw [Nat.zero_mul,Nat.add_zero] at this;exact this
theorem J1k{x y:Nat}(hx:x < 4294967296):x ||| y * 4294967296=x+y * 4294967296:=by
 have:=Nat.two_pow_add_eq_or_of_lt (i:=32) hx y
 rw [Nat.or_comm,J90];have e:(2:Nat) ^ 32=4294967296:=rfl;rw [e] at this;omega
theorem kn_g0{P Ul Vl u2 v2 top v1:Nat}(hUl:Ul < P)(hu2:u2 < 4294967296):
  (Ul+P * (u2+4294967296 * top)) / (Vl+P * (v2+4294967296 * v1))≤top / v1∨v1=0:=by
 rcases Nat.eq_zero_or_pos v1 with h | h
 ·exact .inr h
 refine .inl ((Nat.le_div_iff_mul_le h).2 ?_)
 generalize hq:(Ul+P * (u2+4294967296 * top)) / (Vl+P * (v2+4294967296 * v1))=q
 have h1:q * (Vl+P * (v2+4294967296 * v1))≤Ul+P * (u2+4294967296 * top):=by rw [← hq];exact Nat.div_mul_le_self _ _
 have h2:P * (4294967296 * (q * v1))≤q * (Vl+P * (v2+4294967296 * v1)):=by
  rw [show P * (4294967296 * (q * v1))=q * (P * (4294967296 * v1)) by rw [Nat.mul_left_comm q P,Nat.mul_left_comm q 4294967296]];refine J9y _ (J86 (J9y P (show 4294967296 * v1≤v2+4294967296 * v1 by omega)) (Nat.le_add_left _ _))
 have h3:Ul+P * (u2+4294967296 * top) < P * (u2+4294967296 * top+1):=by rw [J9r P _ 1];omega
 have h4:P * (4294967296 * (q * v1)) < P * (u2+4294967296 * top+1):=J91 (J86 h2 h1) h3
 have:=Nat.lt_of_mul_lt_mul_left h4
 omega
theorem Jyr{P Ul Vl u2 v2 top v1 g r:Nat}(hUl:Ul < P)(hv:g * v1+r=top)(h:r * 4294967296+u2 < g * v2):
  (Ul+P * (u2+4294967296 * top)) / (Vl+P * (v2+4294967296 * v1)) < g:=by
 have hg:0 < g:=by
  rcases Nat.eq_zero_or_pos g with e | e
  ·rw [e] at h;omega
  ·exact e
 refine Nat.div_lt_of_lt_mul ?_;have e1:(Vl+P * (v2+4294967296 * v1)) * g=g * Vl+P * (g * v2+4294967296 * (g * v1)):=by
  rw [J90 _ g,J9r,Nat.mul_left_comm g P,J9r g,Nat.mul_left_comm g 4294967296]
 rw [e1]
 generalize g * v2=X at *
 generalize g * v1=Y at *
 have h1:u2+4294967296 * top+1≤X+4294967296 * Y:=by omega
 have h2:=J9y P h1;rw [J9r P _ 1] at h2;omega
theorem Jx2{P Ul Vl u2 v2 top v1 g:Nat}(hU:Ul+P * (u2+4294967296 * top) < (Vl+P * (v2+4294967296 * v1)) * 4294967296)(h:4294967296≤g):
  (Ul+P * (u2+4294967296 * top)) / (Vl+P * (v2+4294967296 * v1)) < g:=
 Nat.div_lt_of_lt_mul (J85 hU (J9y _ h))
theorem Jbz{q g:Nat}(h:q < g):q≤g - 1:=by omega
theorem kn_e2{P Ul Vl u2 v2 top v1 g r:Nat}(hP:0 < P)(hVl:Vl < P)(hv1:0 < v1)(hg:g < 4294967296)(hv:g * v1+r=top)(h:g * v2≤r * 4294967296+u2):
  g≤(Ul+P * (u2+4294967296 * top)) / (Vl+P * (v2+4294967296 * v1))+1:=by
 have hV:0 < Vl+P * (v2+4294967296 * v1):=J85 (Nat.mul_pos hP (show 0 < v2+4294967296 * v1 by omega)) (Nat.le_add_left _ _);have hk:g - 1≤(Ul+P * (u2+4294967296 * top)) / (Vl+P * (v2+4294967296 * v1)):=by
  rw [Nat.le_div_iff_mul_le hV]
  rcases Nat.eq_zero_or_pos g with e | e
  ·rw [e];omega
  have e1:g * (Vl+P * (v2+4294967296 * v1))=g * Vl+P * (g * v2+4294967296 * (g * v1)):=by
   rw [J9r,Nat.mul_left_comm g P,J9r g,Nat.mul_left_comm g 4294967296]
  have h1:P * (g * v2+4294967296 * (g * v1))≤P * (u2+4294967296 * top):=J9y P (by omega);have h2:g * Vl≤4294967296 * P:=Nat.mul_le_mul (by omega) (by omega);have h3:4294967296 * P≤P * (v2+4294967296 * v1):=by rw [J90];exact J9y P (by omega)
  rw [Nat.sub_mul,e1,Nat.one_mul];omega
 omega
theorem Jni{P Ul Vl u2 v2 top v1 g r:Nat}(hVl:Vl < P)(hv2:v2 < 4294967296)(hv1:0 < v1)(htop:top < (v1+1) * 4294967296)(hv:g * v1+r=top)(h:4294967296≤r):
  g≤(Ul+P * (u2+4294967296 * top)) / (Vl+P * (v2+4294967296 * v1))∧g < 4294967296:=by
 have hP:0 < P:=by omega
 have hg:g < 4294967296:=by
  have h1:g * v1 < 4294967296 * v1:=by rw [Nat.add_mul] at htop;omega
  exact Nat.lt_of_mul_lt_mul_right h1
 refine⟨?_,hg⟩;have hV:0 < Vl+P * (v2+4294967296 * v1):=J85 (Nat.mul_pos hP (show 0 < v2+4294967296 * v1 by omega)) (Nat.le_add_left _ _);rw [Nat.le_div_iff_mul_le hV];have e1:g * (Vl+P * (v2+4294967296 * v1))=g * (Vl+P * v2)+P * (4294967296 * (g * v1)):=by
  rw [J9r P,← Nat.add_assoc,J9r g,Nat.mul_left_comm g P (4294967296 * v1),Nat.mul_left_comm g 4294967296]
 have h1:Vl+P * v2≤P * 4294967296:=by
  have:=J9y P (show v2+1≤4294967296 by omega)
  rw [J9r] at this;omega
 have h2:g * (Vl+P * v2)≤P * (4294967296 * g):=by
  have:=J9y g h1
  rw [show P * (4294967296 * g)=g * (P * 4294967296) by rw [Nat.mul_left_comm g P,J90 4294967296]];exact this
 have h3:P * (4294967296 * g)+P * (4294967296 * (g * v1))≤P * (u2+4294967296 * top):=by
  rw [← J9r];exact J9y P (by omega)
 rw [e1];omega
theorem Jtp {P Ul Vl u2 v2 un u1 v1:Nat} (hVl:Vl < P) (hv2:v2 < 4294967296) (hu1:u1 < 4294967296)
  (hU:Ul+P * (u2+4294967296 * (un * 4294967296+u1)) < (Vl+P * (v2+4294967296 * v1)) * 4294967296):un * 4294967296+u1 < (v1+1) * 4294967296:=by
 have h1:Vl+P * (v2+4294967296 * v1) < P * (4294967296 * (v1+1)):=by
  have:=J9y P (show v2+4294967296 * v1+1≤4294967296 * (v1+1) by omega)
  rw [J9r P _ 1] at this;omega
 have h2:P * (4294967296 * (4294967296 * un)) < P * (4294967296 * (4294967296 * (v1+1))):=by
  have a1:P * (4294967296 * (4294967296 * un))≤Ul+P * (u2+4294967296 * (un * 4294967296+u1)):=J86 (J9y P (by omega)) (Nat.le_add_left _ _);have a2:(Vl+P * (v2+4294967296 * v1)) * 4294967296≤P * (4294967296 * (4294967296 * (v1+1))):=by
   have:=Nat.mul_le_mul_right 4294967296 (Nat.le_of_lt h1)
   refine J86 this (Nat.le_of_eq ?_);rw [J9x,J90 (4294967296 * (v1+1))]
  omega
 have h3:=Nat.lt_of_mul_lt_mul_left h2
 have:un < v1+1:=by omega
 have:=Nat.mul_le_mul_right 4294967296 (show un+1≤v1+1 by omega)
 omega
theorem Jp0{l:List Nat}{m:Nat}(h:l.length=m+2):val l=val (l.take m)+4294967296 ^ m * (l.getD m 0+4294967296 * l.getD (m+1) 0):=by
 have h1:val l=val (l.take (m+2)):=by rw [J9o (by omega)]
 rw [h1,Jr,Jr,J9p,J9r,J9x];omega
theorem Jpw{l:List Nat}{m:Nat}(h:l.length=m+3):val l=val (l.take m)+4294967296 ^ m * (l.getD m 0+4294967296 * (l.getD (m+2) 0 * 4294967296+l.getD (m+1) 0)):=by
 have h1:val l=val (l.take (m+3)):=by rw [J9o (by omega)]
 rw [h1,Jr,Jr,Jr,J9p,J9p,J9p]
 generalize 4294967296 ^ m=p
 rw [J9r,J9x p,J9x p,J9x (p),J9r 4294967296,J9r p];have e1:p * (4294967296 * (l.getD (m+2) 0 * 4294967296))=p * (4294967296 * 4294967296 * l.getD (m+2) 0):=by
  rw [J90 (l.getD (m+2) 0),← J9x 4294967296]
 have e2:4294967296 * 4294967296 * l.getD (m+2) 0=18446744073709551616 * l.getD (m+2) 0:=by omega
 omega
theorem Jwz {U p:List Nat} {i g x c bo V:Nat} (hp:p.length=i) (hg:g < 4294967296) (hx:x < 4294967296) (hc:c < 4294967296) (hb:bo≤1) (hu:U.getD i 0 < 4294967296)
  (hv:val p+g * V=val (U.take i)+4294967296 ^ i * (c+bo)) {V':Nat} (hV:V'=V+4294967296 ^ i * x):
  val (p++[(U.getD i 0+8589934592 - (g * x+c) % 4294967296 - bo) % 4294967296])+g * V'=val (U.take (i+1))+4294967296 ^ (i+1) * ((g * x+c) / 4294967296+(if U.getD i 0 < (g * x+c) % 4294967296+bo then 1 else 0)):=by
 rw [Z3,hp,Jr,hV,J9r,Nat.mul_left_comm g,J9p]
 generalize hq:4294967296 ^ i=q at *
 generalize hX:g * x=X at *
 generalize U.getD i 0=u at *
 have e:(u+8589934592 - (X+c) % 4294967296 - bo) % 4294967296+X+c+bo=u+4294967296 * ((X+c) / 4294967296+(if u < (X+c) % 4294967296+bo then 1 else 0)):=by
  split <;> omega
 have e2:=J87 (q * ·) e;simp only [J9r] at e2;rw [J9x q 4294967296,J9r 4294967296,J9r q];rw [J9r] at hv;omega
theorem J0w{g x c:Nat}(hg:g < 4294967296)(hx:x < 4294967296)(hc:c < 4294967296):g * x+c≤18446744073709551615∧(g * x+c) / 4294967296 < 4294967296:=by
 have:=Jpq hg hx
 omega
theorem Jsz {U p:List Nat} {n g c bo V:Nat} (hp:p.length=n) (hc:c < 4294967296) (hb:bo≤1) (hu:U.getD n 0 < 4294967296) (hU:U.length=n+1)
  (hv:val p+g * V=val (U.take n)+4294967296 ^ n * (c+bo)):
  val (p++[(U.getD n 0+8589934592 - c - bo) % 4294967296])+g * V=val U+4294967296 ^ (n+1) * (if U.getD n 0 < c+bo then 1 else 0):=by
 have h1:val U=val (U.take (n+1)):=by rw [J9o (by omega)]
 rw [h1,Z3,hp,Jr,J9p]
 generalize 4294967296 ^ n=q at *
 generalize U.getD n 0=u at *
 have e:(u+8589934592 - c - bo) % 4294967296+c+bo=u+4294967296 * (if u < c+bo then 1 else 0):=by split <;> omega
 have e2:=J87 (q * ·) e;simp only [J9r] at e2;rw [J9x q 4294967296];rw [J9r] at hv;omega
theorem J0z{U V R g:Nat}(hV:0 < V)(h1:U / V≤g)(h:R+g * V=U):g=U / V∧R=U % V:=by
 have hle:g≤U / V:=(Nat.le_div_iff_mul_le hV).2 (by omega);have hg:g=U / V:=by omega
 refine⟨hg,?_⟩
 have:=Nat.div_add_mod U V
 rw [J90,← hg] at this;omega
theorem Jvk{U V R M g:Nat}(hV:0 < V)(h2:g≤U / V+1)(hR:R < M)(h:R+g * V=U+M):g - 1=U / V∧0 < g∧R+V=U % V+M:=by
 have hlt:U < g * V:=by omega
 have hg:U / V < g:=Nat.div_lt_of_lt_mul (by rw [J90];exact hlt)
 have:=Nat.div_add_mod U V
 rw [J90] at this
 generalize U / V=q at *
 generalize U % V=t at *
 have e:g=q+1:=by omega
 refine⟨by omega,by omega,?_⟩;rw [e,Nat.add_mul,Nat.one_mul] at h;omega
theorem Jh3{R p:List Nat}{i x c V:Nat}(hp:p.length=i)(hv:val p+4294967296 ^ i * c=val (R.take i)+V){V':Nat}(hV:V'=V+4294967296 ^ i * x):
  val (p++[(R.getD i 0+x+c) % 4294967296])+4294967296 ^ (i+1) * ((R.getD i 0+x+c) / 4294967296)=val (R.take (i+1))+V':=by
 rw [Z3,hp,Jr,hV,J9p]
 have:=mulB (q:=4294967296 ^ i) (s:=R.getD i 0+x+c)
 rw [J9r,J9r] at this;omega
theorem Jh8{R p:List Nat}{n c V T:Nat}(hp:p.length=n)(hsp:Jn p)(hc:c≤1)(hR:R.length=n+1)(hT:T < 4294967296 ^ (n+1))(hv:val p+4294967296 ^ n * c=val (R.take n)+V)(ht:val R+V=T+4294967296 ^ (n+1)):
  p++[(R.getD n 0+c) % 4294967296]=Jq (n+1) T:=by
 refine Y0 (Jx hsp (J9c _ (by omega))) (by rw [J8z,hp];rfl) ?_;have h1:val R=val (R.take (n+1)):=by rw [J9o (by omega)]
 rw [h1,Jr] at ht;rw [Z3,hp];have h3:=Zp p hsp;rw [hp] at h3;have h2:=mulB (q:=4294967296 ^ n) (s:=R.getD n 0+c);rw [J9r (4294967296 ^ n) (R.getD n 0)] at h2;rw [J9p] at hT ht
 generalize 4294967296 ^ n=q at *
 have hm:q * ((R.getD n 0+c) % 4294967296)≤q * 4294967295:=J9y q (by omega);have hk:(R.getD n 0+c) / 4294967296=1:=by
  have:q * 4294967296 * ((R.getD n 0+c) / 4294967296) < q * 4294967296 * 2:=by omega
  have a:=Nat.lt_of_mul_lt_mul_left this
  rcases Nat.eq_zero_or_pos ((R.getD n 0+c) / 4294967296) with e | e
  ·rw [e] at h2;omega
  ·omega
 rw [hk] at h2;omega
def blen(x:Nat):Nat:=if x=0 then 0 else x.log2+1
theorem Q9(x:Nat):x < 2 ^ blen x:=by
 unfold blen
 split
 ·subst_vars;decide
 ·exact Nat.lt_log2_self
theorem Jb8{x k:Nat}(h:x < 2 ^ k):blen x≤k:=by
 unfold blen
 split
 ·omega
 ·rename_i h0
  exact(Nat.log2_lt h0).2 h
theorem zu{x:Nat}(h:0 < x):0 < blen x:=by
 unfold blen;rw [if_neg (by omega)];omega
theorem vi{x:Nat}(h:0 < x):2 ^ (blen x - 1)≤x:=by
 unfold blen;rw [if_neg (by omega),Nat.add_sub_cancel];exact Nat.log2_self_le (by omega)
theorem xo{x k:Nat}(h0:0 < x)(h1:x < 2 ^ k)(h2:2 ^ k≤2 * x):blen x=k:=by
 have a:=Jb8 h1
 rcases J9w (blen x) k with h | h
 ·have b:=Q9 x;have c:2 ^ (blen x+1)≤2 ^ k:=J9v (by omega) h;rw [J9p] at c;omega
 ·omega
theorem Vs{x k:Nat}(h:2 ^ k≤x):blen x=blen (x / 2 ^ k)+k:=by
 have hp:=Nat.two_pow_pos k;have h0:0 < x / 2 ^ k:=Nat.div_pos h hp;refine xo (by omega) ?_ ?_
 ·rw [Nat.pow_add];exact(Nat.div_lt_iff_lt_mul hp).1 (Q9 _)
 ·have h1:=vi h0;have h2:=zu h0;have e:blen (x / 2 ^ k)+k=(blen (x / 2 ^ k) - 1+k)+1:=by omega
  rw [e,J9p,J90];refine J9y 2 ?_;rw [Nat.pow_add]
  exact(Nat.le_div_iff_mul_le hp).1 h1
theorem Jor{p U:List Nat}{i j:Nat}(hp:p.length=i)(hj:j=i)(h:j < U.length):(p++U.drop i)[j]? =some (U.getD j 0):=by
 subst hj;rw [List.getElem?_append_right (by omega),hp,Nat.sub_self,List.getElem?_drop,Nat.add_zero,J9d,J9f h];rfl
theorem Jux{p U:List Nat}{i d:Nat}(hp:p.length=i)(h:i < U.length):(p++U.drop i).set i d=(p++[d])++U.drop (i+1):=by
 rw [List.set_append,if_neg (by omega),hp,Nat.sub_self,List.drop_eq_getElem_cons h,List.set_cons_zero,J89];rfl
theorem Jq0{p U:List Nat}{i j d:Nat}(hp:p.length=i)(hj:j=i)(h:U.length=i+1):(p++U.drop i).set j d=p++[d]:=by
 subst hj;rw [Jux hp (by omega),J9s (by omega),J92]
theorem kn_kb{k v1 r top:Nat}(h:0 < v1)(hv:k * v1+r=top):k≤top:=J86 (Nat.le_mul_of_pos_right k h) (by omega)
theorem Jxq{k a b:Nat}(h:a < k * b):0 < k:=Nat.pos_of_ne_zero fun e=>by rw [e,Nat.zero_mul] at h;omega
theorem Jh2{k v1 r top:Nat}(h:0 < k)(hv:k * v1+r=top):(k - 1) * v1+(r+v1)=top:=by
 obtain⟨m,rfl⟩:∃ m,k=m+1:=⟨k - 1,by omega⟩;rw [Nat.add_mul,Nat.one_mul] at hv;rw [Nat.add_sub_cancel];omega
theorem kn_hV{v:List Nat}(hn:2≤v.length):val v=val (v.take (v.length - 2))+4294967296 ^ (v.length - 2) * (v.getD (v.length - 2) 0+4294967296 * v.getD (v.length - 1) 0):=by
 have:=Jp0 (l:=v) (m:=v.length - 2) (by omega)
 rw [show v.length - 2+1=v.length - 1 by omega] at this;exact this
theorem kn_hU{U:List Nat}{n:Nat}(hn:2≤n)(h:U.length=n+1):val U=val (U.take (n - 2))+4294967296 ^ (n - 2) * (U.getD (n - 2) 0+4294967296 * (U.getD n 0 * 4294967296+U.getD (n - 1) 0)):=by
 have:=Jpw (l:=U) (m:=n - 2) (by omega)
 rw [show n - 2+1=n - 1 by omega,show n - 2+2=n by omega] at this;exact this
theorem Qo{l:List Nat}{k:Nat}(h:Jn l)(hk:k≤l.length):val (l.take k) < 4294967296 ^ k:=by
 have:=Zp _ (Vt h k)
 rwa [J9b,Nat.min_eq_left hk] at this
theorem kn_T{U v:List Nat}(sv:Jn v)(hV:0 < val v):val U % val v < 4294967296 ^ (v.length+1):=by
 have h1:=J9c (val U) hV;have h2:=Zp v sv;have h3:4294967296 ^ v.length≤4294967296 ^ (v.length+1):=J9v (by omega) (by omega);omega
def Jrk:List UInt8:=(List.range 256).map fun i=>UInt8.ofNat (blen i)
theorem Jbi{x:Nat}(h:x < 4294967296):blen x≤32:=Jb8 (k:=32) h
theorem tabv{j:Nat}(h:j < 256):(UInt8.ofNat (blen j)).toNat=blen j:=by
 have:=Jb8 (k:=8) h
 show blen j % 256=_
 omega
theorem Vq{j:Nat}(h:j < 256):Jrk[j]? =some (UInt8.ofNat (blen j)):=by
 unfold Jrk;rw [J94,List.getElem?_range h];rfl
theorem Jtr{x:Nat}(h:65536≤x)(h2:256≤x / 65536)(hx:x < 4294967296):blen x=blen (x / 65536 / 256 % 256)+24:=by
 rw [Nat.mod_eq_of_lt (by omega),Vs (x:=x) (k:=16) h,Vs (x:=x / 2 ^ 16) (k:=8) h2]
theorem Js8{x:Nat}(h:65536≤x)(h2:x / 65536 < 256):blen x=blen (x / 65536 % 256)+16:=by
 rw [Nat.mod_eq_of_lt (by omega),Vs (x:=x) (k:=16) h]
theorem Jwj{x:Nat}(h:256≤x)(hx:x < 65536):blen x=blen (x / 256 % 256)+8:=by
 rw [Nat.mod_eq_of_lt (by omega),Vs (x:=x) (k:=8) h]
theorem Ju7{x:Nat}(h:x < 256):blen x=blen (x % 256):=by
 rw [Nat.mod_eq_of_lt h]
end Go.Wf
