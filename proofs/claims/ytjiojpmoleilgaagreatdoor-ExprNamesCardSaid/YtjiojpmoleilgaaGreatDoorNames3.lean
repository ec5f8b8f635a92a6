/- Part 3 of the texts for the claim. -/
import Derived.Test.YtjiojpmoleilgaaGreatDoorNames2
set_option linter.unusedVariables false
set_option linter.unusedSimpArgs false
set_option maxRecDepth 100000
set_option maxHeartbeats 4000000
noncomputable section
namespace Go.Ev
open Go Go.Wf
def cv:Value→AV
 | .bool x=> .b x
 | .int k n=> .i k n
 | .string s=> .s (s.data.toList.map UInt8.toNat)
 | .pointer none=> .np
 | .slice none 0 0=> .ns
 | .nilFunc=> .nf
 | .nilIface=> .nif
 | .map none=> .nm
 | _=> .u
def szOf(P:Program)(t:TypeId):Option Nat:=(J9 P t).map fun p=>p.2.1
def byOf(P:Program)(t:TypeId):Option Nat:=(J9 P t).map fun p=>p.2.2
def zcOf(P:Program)(t:TypeId):Option (List AV):=(J9 P t).map fun p=>p.1.cells.toList.map cv
def slOf(P:Program)(t:TypeId):Option TypeId:=match P.underlying t with | some (.slice e)=>some e | _=>none
def Jc4(P:Program)(t:TypeId):Option IntKind:=match P.underlying t with | some (.int k)=>some k | _=>none
def Qa(P:Program)(t:TypeId):Bool:=match P.underlying t with | some .string=>true | _=>false
def Jl9(P:Program)(t:TypeId):Bool:=match P.underlying t with | some .bool=>true | _=>false
def Jiq(P:Program)(t:TypeId):Bool:=match P.underlying t with | some (.pointer _)=>true | _=>false
def isSl(P:Program)(t:TypeId):Bool:=match P.underlying t with | some (.slice _)=>true | _=>false
def isFn(P:Program)(t:TypeId):Bool:=match P.underlying t with | some (.func _ _ _)=>true | _=>false
def Jy9(P:Program)(t:TypeId):Bool:=match P.underlying t with | some .unsafePointer=>true | _=>false
def Juk(P:Program)(t:TypeId):Option TypeId:=match P.underlying t with | some (.pointer e)=>some e | _=>none
def Jd6(P:Program)(t:TypeId):Bool:=match P.underlying t with | some (.map _ _)=>true | _=>false
def isIf(P:Program)(t:TypeId):Bool:=match P.underlying t with | some (.interface _)=>true | _=>false
def Jbh(P:Program)(t:TypeId):Option (List (Nat × Nat)):=match P.underlying t with
 | some (.struct fs)=>fs.toList.mapM fun f=>(P.info? f.type).map fun i=>(f.offset,i.size)
 | _=>none
inductive LK | one | agg (sz:Nat) | no
def lkOf(P:Program)(t:TypeId):LK:=bif Yg P t then .one else match szOf P t with
 | some sz=>bif V3 P t sz then .agg sz else .no
 | none=> .no
def zvOf(P:Program)(t:TypeId):Option AV:=(J9 P t).map fun p=>match p.1 with
 | .agg cs=> .ag (cs.toList.map cv)
 | v=>cv v
def Jg5(P:Program)(t:TypeId):Option (Nat × TypeId):=match P.underlying t with | some (.array n e)=>some (n,e) | _=>none
def Joa(P:Program)(t:TypeId):Option (TypeId × TypeId):=match P.underlying t with | some (.map k e)=>some (k,e) | _=>none
def k5(P:Program)(t:TypeId):Bool:=(Jg5 P t).isSome
def Jhd(P:Program)(s:TypeId)(i:Nat):Option (TypeId × Nat):=match P.underlying s with
 | some (.struct fs)=>(fs[i]?).map fun f=>(f.type,f.offset)
 | _=>none
def opd(f:Fr)(o:Operand):AV:=
 Operand.rec (fun t=>Bool.rec .u (getF t f) (Nat.ble (Nat.succ t) 4096)) cv (fun g=> .gp g 0) (fun k=> .fn k []) o
def opds(f:Fr)(l:List Operand):List AV:=List.rec [] (fun o _ ih=>opd f o::ih) l
def getB{α:Type}(h:Hp)(id:Nat)(k:Blk→α)(no:α):α:=Bool.rec no (Option.rec no (fun b=>Ob.rec (k b) (fun _ _=>no) (fun _ _=>no) (fun _ _ _ _=>no) no (fun _ _ _ _ _ _=>no) b.ob) (get5 id h.t)) (Nat.blt id h.n)
def getM{α:Type}(h:Hp)(id:Nat)(k:List En→Nat→α)(no:α):α:=Bool.rec no (Option.rec no (fun b=>Ob.rec no k (fun _ _=>no) (fun _ _ _ _=>no) no (fun _ _ _ _ _ _=>no) b.ob) (get5 id h.t)) (Nat.blt id h.n)
def getG{α:Type}(h:Hp)(id:Nat)(k:List AV→α)(no:α):α:=Bool.rec no (Option.rec no (fun b=>Ob.rec no (fun _ _=>no) (fun _ _=>no) (fun _ _ _ _=>no) (k b.cs) (fun _ _ _ _ _ _=>no) b.ob) (get5 id h.t)) (Nat.blt id h.n)
def getL{α:Type}(h:Hp)(id:Nat)(k:Bool→Nat→List Tmp→Code→Code→TF AV→α)(no:α):α:=Bool.rec no (Option.rec no (fun b=>Ob.rec no (fun _ _=>no) (fun _ _=>no) (fun _ _ _ _=>no) no k b.ob) (get5 id h.t)) (Nat.blt id h.n)
def getO{α:Type}(h:Hp)(id:Nat)(k:Ob→α)(no:α):α:=Bool.rec no (Option.rec no (fun b=>k b.ob) (get5 id h.t)) (Nat.blt id h.n)
def newB(h:Hp)(b:Blk)(k:Nat→Hp→Res):Res:=Bool.rec (.no 30) (fz (Nat.succ h.n) fun n'=>k h.n ⟨set5 h.n (some b) h.t,n'⟩) (Nat.blt h.n big5)
def putB(h:Hp)(id:Nat)(b:Option Blk):Hp:=⟨set5 id b h.t,h.n⟩
def scal:AV→Bool
 | .u | .ag _ | .tp _=>false
 | _=>true
def Qh(l:List AV):Bool:=List.rec true (fun a _ ih=>bif scal a then ih else false) l
def Zg:AV→Option (List AV)
 | .u | .tp _=>none
 | .ag l=>some l
 | v=>some [v]
def V9{α:Type}(v:AV)(k:Nat→α)(no:α):α:=match v with
 | .i _ n=>Int.rec k (fun _=>no) n
 | _=>no
section
variable (P:Program)
def Jby(x:Operand)(f:Fr)(h:Hp):Res:= .ok (opd f x) h
def zi(c a b:Operand)(f:Fr)(h:Hp):Res:=match opd f c with
 | .b t=>Bool.rec (.ok (opd f b) h) (.ok (opd f a) h) t
 | _=> .no 2
def Ja7(e:TypeId)(_:Fr)(h:Hp):Res:=match zcOf P e with
 | some l=>newB h ⟨e,true,false,l,.row⟩ fun id h=> .ok (.p id 0) h
 | none=> .no 3
def Jc6(e:TypeId)(x:Operand)(f:Fr)(h:Hp):Res:=match Zg (opd f x) with
 | some l=>newB h ⟨e,true,false,l,.row⟩ fun id h=> .ok (.p id 0) h
 | none=> .no 4
def jc(place:Nat→Option (Nat × Nat))(f:Fr)(l:List (Nat × Operand)):List AV→(List AV→Res)→Res:=
 List.rec (fun cs k=>k cs) (fun p _ ih cs k=>match place p.1 with
  | none=> .no 5
  | some q=>match Zg (opd f p.2) with
   | none=> .no 5
   | some vs=>Bool.rec (.no 5) (putK cs q.1 vs fun cs'=>ih cs' k) (Nat.beq (len vs) q.2)) l
def Vx(t:TypeId)(ps:Array (Nat × Operand))(f:Fr)(h:Hp):Res:=match Jbh P t,zcOf P t with
 | some pl,some z=>jc (nth pl) f ps.toList z fun cs=> .ok (.ag cs) h
 | _,_=> .no 5
def Ym(t:TypeId)(n:Nat)(ps:Array (Nat × Operand))(f:Fr)(h:Hp):Res:=match slOf P t with
 | none=> .no 6
 | some e=>match szOf P e,zcOf P e with
  | some sz,some z=>Bool.rec (.no 6) (jc (fun i=>some (Nat.mul i sz,sz)) f ps.toList (repl n z) fun cs=>newB h ⟨e,true,false,cs,.row⟩ fun id h=> .ok (.sl id 0 n sz (some n)) h)
    (Nat.blt 0 sz && Nat.ble (Nat.mul n sz) 16777216 && Nat.beq (len z) sz)
  | _,_=> .no 6
def Qi(t:TypeId)(a:Operand)(f:Fr)(h:Hp):Res:=match opd f a with
 | .p id off=>getB h id (fun b=>match lkOf P t with
   | .one=>match nth b.cs off with
    | some v=> .ok v h
    | none=> .no 8
   | .agg sz=>tkK (dr b.cs off) sz fun l=> .ok (.ag l) h
   | .no=> .no 8) (.no 8)
 | .gp g off=>getG h g (fun cs=>match lkOf P t with
   | .one=>match nth cs off with
    | some v=> .ok v h
    | none=> .no 8
   | .agg sz=>tkK (dr cs off) sz fun l=> .ok (.ag l) h
   | .no=> .no 8) (.no 8)
 | _=> .no 7
def wrB(h:Hp)(id:Nat)(off:Nat)(vs:List AV)(k:Hp→Res):Res:=
 getB h id (fun b=>Bool.rec (.no 201) (Bool.rec (.no 202) (putK b.cs off vs fun cs=>k (putB h id (some ⟨b.ty,b.ex,false,cs,.row⟩))) (Qh vs)) (!b.ro)) (.no 9)
def Qn(t:TypeId)(a x:Operand)(f:Fr)(h:Hp):Res:=match opd f a with
 | .p id off=>match Zg (opd f x) with
  | some vs=>match szOf P t with
   | some sz=>Bool.rec (.no 11) (wrB h id off vs fun h=> .ok .u h) (Nat.beq (len vs) sz)
   | none=> .no 11
  | none=> .no 11
 | _=> .no 9
def Y9(x:Operand)(f:Fr)(h:Hp):Res:=match opd f x with
 | .p id off=> .ok (.p id off) h
 | .fn k c=> .ok (.fn k c) h
 | .gp g off=> .ok (.gp g off) h
 | _=> .no 12
def bAdd(x y:AV)(h:Hp):Res:=match x,y with
 | .i k a,.i k' b=>Bool.rec (.no 13) (okI k (jf k (Int.add a b)) h) (ikEq k k')
 | .s a,.s b=>Bool.rec (.no 13) (appK a b fun l=> .ok (.s l) h) (Nat.blt (Nat.add (len a) (len b)) 1000000)
 | _,_=> .no 13
def bSub(x y:AV)(h:Hp):Res:=match x,y with
 | .i k a,.i k' b=>Bool.rec (.no 13) (okI k (jf k (Int.sub a b)) h) (ikEq k k')
 | _,_=> .no 13
def bMul(x y:AV)(h:Hp):Res:=match x,y with
 | .i k a,.i k' b=>Bool.rec (.no 13) (okI k (jf k (Int.mul a b)) h) (ikEq k k')
 | _,_=> .no 13
def bQuo(x y:AV)(h:Hp):Res:=match x,y with
 | .i k a,.i k' b=>Bool.rec (.no 13) (okI k (jf k (Int.tdiv a b)) h) (ikEq k k' && !ieq b 0)
 | _,_=> .no 13
def bRem(x y:AV)(h:Hp):Res:=match x,y with
 | .i k a,.i k' b=>Bool.rec (.no 13) (okI k (Int.tmod a b) h) (ikEq k k' && !ieq b 0)
 | _,_=> .no 13
def bShl(x y:AV)(h:Hp):Res:=match x,y with
 | .i k a,.i _ b=>Bool.rec (.no 13) (okI k (jf k (Int.mul a (Int.ofNat (Nat.pow 2 (Nat.min b.toNat k.bits))))) h) (!ilt b 0)
 | _,_=> .no 13
def bShr(x y:AV)(h:Hp):Res:=match x,y with
 | .i k a,.i _ b=>Bool.rec (.no 13) (okI k (Int.ediv a (Int.ofNat (Nat.pow 2 (Nat.min b.toNat k.bits)))) h) (!ilt b 0)
 | _,_=> .no 13
def Vh(g:Nat→Nat→Nat)(x y:AV)(h:Hp):Res:=match x,y with
 | .i k a,.i k' b=>Bool.rec (.no 13) (Int.rec (fun m=>Int.rec (fun n=>okI k (jf k (Int.ofNat (g (Nat.mod m (Nat.pow 2 k.bits)) (Nat.mod n (Nat.pow 2 k.bits))))) h) (fun _=> .no 13) b) (fun _=> .no 13) a) (ikEq k k')
 | _,_=> .no 13
def leqL(a:List Nat):List Nat→Bool:=List.rec (fun b=>List.rec true (fun _ _ _=>false) b) (fun x _ ih b=>List.rec false (fun y t _=>Bool.rec false (ih t) (Nat.beq x y)) b) a
def ltL(a:List Nat):List Nat→Bool:=List.rec (fun b=>List.rec false (fun _ _ _=>true) b) (fun x _ ih b=>List.rec false (fun y t _=>Bool.rec (Bool.rec false (ih t) (Nat.beq x y)) true (Nat.blt x y)) b) a
def Jcs(t:TypeId)(cs:List AV)(off:Nat):Option AV:=match lkOf P t with
 | .one=>nth cs off
 | .agg sz=>some (.ag (tk (dr cs off) sz))
 | .no=>none
def andO(a:Option Bool)(k:Option Bool):Option Bool:=Option.rec none (fun b=>Bool.rec (some false) k b) a
def Jhe{α:Type}(t:TypeId)(xs ys:List AV)(off:Nat)(k:AV→AV→α)(no:α):α:=match Jcs P t xs off with
 | some a=>(match Jcs P t ys off with
  | some b=>k a b
  | none=>no)
 | none=>no
def eqFs(ih:TypeId→AV→AV→Option Bool)(xs ys:List AV)(fs:List Field):Option Bool:=
 List.rec (some true) (fun f _ r=>Bool.rec (Jhe P f.type xs ys f.offset (fun a b=>andO (ih f.type a b) r) none) r (f.name == "_")) fs
def eqAr(ih:AV→AV→Option Bool)(e sz:Nat)(xs ys:List AV)(n:Nat):Nat→Option Bool:=
 Nat.rec (fun _=>some true) (fun _ r off=>Jhe P e xs ys off (fun a b=>andO (ih a b) (fz (Nat.add off sz) r)) none) n
def eqT1(ih:TypeId→AV→AV→Option Bool)(t:TypeId)(x y:AV):Option Bool:=match P.underlying t with
 | some (.int _)=>(match x,y with
  | .i k a,.i k' b=>Bool.rec none (some (ieq a b)) (ikEq k k')
  | _,_=>none)
 | some .string=>(match x,y with
  | .s a,.s b=>some (leqL a b)
  | _,_=>none)
 | some .bool=>(match x,y with
  | .b a,.b b=>some (a == b)
  | _,_=>none)
 | some (.struct fs)=>(match x,y with
  | .ag xs,.ag ys=>Bool.rec (eqFs P ih xs ys fs.toList) none (P.stoodInHeld t)
  | _,_=>none)
 | some (.array n e)=>(match x,y with
  | .ag xs,.ag ys=>Option.rec none (fun sz=>eqAr P (ih e) e sz xs ys n 0) (szOf P e)
  | _,_=>none)
 | _=>none
def eqT(d:Nat):TypeId→AV→AV→Option Bool:=Nat.rec (fun _ _ _=>none) (fun _ ih=>eqT1 P ih) d
def eqV(c:Bool)(t:TypeId)(x y:AV):Option Bool:=match x,y with
 | .i k a,.i k' b=>Bool.rec none (some (ieq a b)) (ikEq k k')
 | .b a,.b b=>Bool.rec none (some (a == b)) (Jl9 P t)
 | .s a,.s b=>some (leqL a b)
 | .np,.np=>Bool.rec none (some true) (Jiq P t)
 | .np,.p _ _=>Bool.rec none (some false) (Jiq P t)
 | .p _ _,.np=>Bool.rec none (some false) (Jiq P t)
 | .ns,.ns=>Bool.rec none (some true) (isSl P t)
 | .ns,.sl _ _ _ _ _=>Bool.rec none (some false) (isSl P t)
 | .sl _ _ _ _ _,.ns=>Bool.rec none (some false) (isSl P t)
 | .nf,.nf=>Bool.rec none (some true) (isFn P t)
 | .nf,.fn _ _=>Bool.rec none (some false) (isFn P t)
 | .fn _ _,.nf=>Bool.rec none (some false) (isFn P t)
 | .nif,.nif=>Bool.rec none (some true) (isIf P t && c)
 | .nif,.ifc _ _=>Bool.rec none (some false) (isIf P t)
 | .ifc _ _,.nif=>Bool.rec none (some false) (isIf P t)
 | .nm,.nm=>Bool.rec none (some true) (Jd6 P t)
 | .nm,.mp _=>Bool.rec none (some false) (Jd6 P t)
 | .mp _,.nm=>Bool.rec none (some false) (Jd6 P t)
 | .p i o,.p j q=>Bool.rec none (some true) (((Juk P t).bind P.info?).isSome && Nat.beq i j && Nat.beq o q)
 | .ag _,.ag _=>Bool.rec none (eqT P 4 t x y) (!P.eqGuardType P.depth t)
 | _,_=>none
def bEql(c:Bool)(t:TypeId)(x y:AV)(h:Hp):Res:=match eqV P c t x y with
 | some b=>okB b h
 | none=> .no 14
def bNeq(c:Bool)(t:TypeId)(x y:AV)(h:Hp):Res:=match eqV P c t x y with
 | some b=>okB (!b) h
 | none=> .no 14
def bLss(x y:AV)(h:Hp):Res:=match x,y with
 | .i k a,.i k' b=>Bool.rec (.no 13) (okB (ilt a b) h) (ikEq k k')
 | .s a,.s b=>okB (ltL a b) h
 | _,_=> .no 13
def bLeq(x y:AV)(h:Hp):Res:=match x,y with
 | .i k a,.i k' b=>Bool.rec (.no 13) (okB (!ilt b a) h) (ikEq k k')
 | _,_=> .no 13
def bGtr(x y:AV)(h:Hp):Res:=match x,y with
 | .i k a,.i k' b=>Bool.rec (.no 13) (okB (ilt b a) h) (ikEq k k')
 | _,_=> .no 13
def bGeq(x y:AV)(h:Hp):Res:=match x,y with
 | .i k a,.i k' b=>Bool.rec (.no 13) (okB (!ilt a b) h) (ikEq k k')
 | _,_=> .no 13
def Z3:Operand→Bool
 | .const _=>true
 | _=>false
def Jev(op:BinOp)(t:TypeId)(x y:Operand)(f:Fr)(h:Hp):Res:=(match op with
 | .add=>bAdd | .sub=>bSub | .mul=>bMul | .quo=>bQuo | .rem=>bRem | .shl=>bShl | .shr=>bShr
 | .andNot=>Vh (fun m n=>Nat.xor m (Nat.land m n)) | .and=>Vh Nat.land | .or=>Vh Nat.lor | .xor=>Vh Nat.xor
 | .eql=>bEql P (Z3 x || Z3 y) t | .neq=>bNeq P (Z3 x || Z3 y) t | .lss=>bLss | .leq=>bLeq | .gtr=>bGtr | .geq=>bGeq) (opd f x) (opd f y) h
def evUn(op:UnOp)(x:Operand)(f:Fr)(h:Hp):Res:=match op,opd f x with
 | .not,.b t=>okB (!t) h
 | .neg,.i k a=>okI k (jf k (Int.sub 0 a)) h
 | .xor,.i k a=>okI k (jf k (Int.sub (Int.negSucc 0) a)) h
 | _,_=> .no 16
def Jzv(l:List Nat):List AV:=List.rec [] (fun c _ ih=> .i .u8 (Int.ofNat c)::ih) l
def unchars(l:List AV):(List Nat→Res)→Res:=List.rec (fun k=>k []) (fun a _ ih k=>match a with
 | .i .u8 n=>Int.rec (fun c=>Bool.rec (.no 17) (ih fun l'=>k (c::l')) (Nat.blt c 256)) (fun _=> .no 17) n
 | _=> .no 17) l
def Jw6(P:Program)(e:TypeId):Bool:=(match Jc4 P e with | some .u8=>true | _=>false) && (match szOf P e with | some 1=>true | _=>false)
def Qo(s d:TypeId)(x:Operand)(f:Fr)(h:Hp):Res:=match opd f x with
 | .i _ a=>match Jc4 P d with
  | some j=>Bool.rec (.no 17) (okI j (jf j a) h) (P.underlying s).isSome
  | none=> .no 17
 | .s l=>Bool.rec (.no 17) (.ok (.s l) h) (Qa P d && Qa P s)
 | _=> .no 17
def Jav(s d:TypeId)(x:Operand)(f:Fr)(h:Hp):Res:=(fun(_:Program)=> .no 99) P
def vj(s d:TypeId)(x:Operand)(f:Fr)(h:Hp):Res:=(fun(_:Program)=> .no 99) P
def cvKd(s d:TypeId):Nat:=bif (Jc4 P d).isSome || (Qa P d && Qa P s) then 0 else bif Qa P d || Jy9 P d || Jy9 P s then 1 else bif Qa P s then 2 else 3
def ji(s d:TypeId)(x:Operand)(f:Fr)(h:Hp):Res:=match cvKd P s d with
 | 0=>Qo P s d x f h
 | 1=>Jav P s d x f h
 | 2=>vj P s d x f h
 | _=> .no 17
def Y5(t:TypeId)(l c:Operand)(f:Fr)(h:Hp):Res:=match slOf P t with
 | none=> .no 18
 | some e=>match szOf P e,zcOf P e with
  | some sz,some z=>V9 (opd f l) (fun n=>V9 (opd f c) (fun m=>fz n fun n=>fz m fun m=>
    Bool.rec (.no 18) (appK (repl m z) [] fun cs=>newB h ⟨e,true,false,cs,.row⟩ fun id h=> .ok (.sl id 0 n sz (some m)) h)
     (Nat.blt 0 sz && Nat.ble n m && Nat.ble m 65536 && Nat.beq (len z) sz && Nat.ble ((byOf P e).getD 4294967296) 65536)) (.no 18)) (.no 18)
  | _,_=> .no 18
def bnd{α:Type}(f:Fr)(o:Option Operand)(d:Nat)(k:Nat→α)(no:α):α:=match o with
 | none=>k d
 | some x=>V9 (opd f x) (fun n=>fz n k) no
def K9(t:TypeId)(x:Operand)(lo hi mx:Option Operand)(f:Fr)(h:Hp):Res:=match mx with
 | some _=> .no 19
 | none=>match opd f x with
  | .s l=>Bool.rec (.no 19) (bnd f hi (len l) (fun j=>bnd f lo 0 (fun i=>Bool.rec (.no 19) (.ok (.s (dr (tk l j) i)) h) (Nat.ble i j && Nat.ble j (len l))) (.no 19)) (.no 19)) (Qa P t)
  | .ns=>Bool.rec (.no 19) (bnd f hi 0 (fun j=>bnd f lo 0 (fun i=>Bool.rec (.no 19) (.ok .ns h) (Nat.beq i 0 && Nat.beq j 0)) (.no 19)) (.no 19)) (isSl P t && ((slOf P t).bind (szOf P)).isSome)
  | .sl id off n z cap=>match (slOf P t).bind (szOf P) with
   | none=> .no 19
   | some sz=>bnd f hi n (fun j=>bnd f lo 0 (fun i=>Bool.rec (.no 19)
     (match cap with
      | some c=>Bool.rec (.no 19) (Bool.rec (fz (Nat.add off (Nat.mul i z)) fun o=>fz (Nat.sub j i) fun n'=>fz (Nat.sub c i) fun c'=> .ok (.sl id o n' z (some c')) h) (.ok (.sl id off 0 z (some 0)) h) (Nat.beq c i)) (Nat.ble j c)
      | none=>Bool.rec (.no 19) (Bool.rec (fz (Nat.add off (Nat.mul i z)) fun o=>fz (Nat.sub j i) fun n'=> .ok (.sl id o n' z none) h) (.ok .z0 h) (Nat.beq n i)) (Nat.ble j n))
     (Nat.ble i j && Nat.beq sz z)) (.no 19)) (.no 19)
  | _=> .no 19
def ya(t:TypeId)(x:Operand)(lo hi mx:Option Operand)(f:Fr)(h:Hp):Res:=(fun(_:Program)=> .no 99) P
def Qj(t:TypeId)(x:Operand)(lo hi mx:Option Operand)(f:Fr)(h:Hp):Res:=Bool.rec (K9 P t x lo hi mx f h) (ya P t x lo hi mx f h) (k5 P t)
def Yo(s:TypeId)(x:Operand)(i:Nat)(f:Fr)(h:Hp):Res:=match opd f x with
 | .p id off=>match Zn P s i with
  | some o=>fz (Nat.add off o) fun o=> .ok (.p id o) h
  | none=> .no 23
 | .gp id off=>(match Zn P s i with
  | some o=>fz (Nat.add off o) fun o=> .ok (.gp id o) h
  | none=> .no 23)
 | _=> .no 23
def Zw(t:TypeId)(x i:Operand)(f:Fr)(h:Hp):Res:=match opd f x with
 | .sl id off n z _=>match (slOf P t).bind (szOf P) with
  | none=> .no 24
  | some sz=>V9 (opd f i) (fun j=>Bool.rec (.no 24) (fz (Nat.add off (Nat.mul j z)) fun o=> .ok (.p id o) h) (Nat.blt j n && Nat.beq sz z)) (.no 24)
 | .p id off=>(match Jg5 P t with
  | none=> .no 24
  | some p=>(match szOf P p.2 with
   | none=> .no 24
   | some sz=>V9 (opd f i) (fun j=>Bool.rec (.no 24) (fz (Nat.add off (Nat.mul j sz)) fun o=> .ok (.p id o) h) (Nat.blt j p.1 && Nat.blt 0 sz)) (.no 24)))
 | .gp id off=>(match Jg5 P t with
  | none=> .no 24
  | some p=>(match szOf P p.2 with
   | none=> .no 24
   | some sz=>V9 (opd f i) (fun j=>Bool.rec (.no 24) (fz (Nat.add off (Nat.mul j sz)) fun o=> .ok (.gp id o) h) (Nat.blt j p.1 && Nat.blt 0 sz)) (.no 24)))
 | _=> .no 24
def Xp(t:TypeId)(x i:Operand)(f:Fr)(h:Hp):Res:=match opd f x with
 | .s l=>Bool.rec (.no 25) (V9 (opd f i) (fun j=>match nth l j with
   | some c=> .ok (.i .u8 (Int.ofNat c)) h
   | none=> .no 25) (.no 25)) (Qa P t)
 | .ag cs=>(match Jg5 P t with
  | none=> .no 25
  | some p=>(match szOf P p.2 with
   | none=> .no 25
   | some sz=>V9 (opd f i) (fun j=>Bool.rec (.no 25) (match Jcs P p.2 cs (Nat.mul j sz) with
    | some v=> .ok v h
    | none=> .no 25) (Nat.blt j p.1)) (.no 25)))
 | _=> .no 25
def Kz(x:Operand)(i:Nat)(f:Fr)(h:Hp):Res:=match opd f x with
 | .tp l=>match nth l i with
  | some v=> .ok v h
  | none=> .no 26
 | _=> .no 26
def Kt(fn:Fn)(first cap:Array Operand)(f:Fr)(h:Hp):Res:=match fn with
 | .func k=>match first.toList with
  | []=> .ok (.fn k (opds f cap.toList)) h
  | _=> .no 27
 | _=> .no 27
def itB(o:Ob):Blk:=⟨0,true,false,[],o⟩
def qf(t:TypeId)(r:Option Operand)(f:Fr)(h:Hp):Res:=(fun(_:Program)=> .no 99) P
def Jak(t:TypeId)(x i:Operand)(ok:Bool)(f:Fr)(h:Hp):Res:=(fun(_:Program)=> .no 99) P
def Y4(t:TypeId)(m k x:Operand)(f:Fr)(h:Hp):Res:=(fun(_:Program)=> .no 99) P
def Vw(t:TypeId)(x:Operand)(f:Fr)(h:Hp):Res:=match opd f x with
 | .s l=>Bool.rec (.no 163) (newB h (itB (.sit l 0)) fun id h=> .ok (.p id 0) h) (Qa P t)
 | .nm=>Bool.rec (.no 163) (newB h (itB (.mit none 0 [] 0)) fun id h=> .ok (.p id 0) h) (Joa P t).isSome
 | .mp m=>Bool.rec (.no 163) (getM h m (fun _ c=>newB h (itB (.mit (some m) c [] c)) fun id h=> .ok (.p id 0) h) (.no 163)) (Joa P t).isSome
 | _=> .no 163
def Jjs(id:Nat)(h:Hp)(l:List Nat)(pos:Nat):Res:=match nth l pos with
 | none=> .ok (.tp [.b false]) h
 | some c=>Bool.rec (.no 165) (fz (Nat.succ pos) fun q=> .ok (.tp [.b true,.i .i64 (Int.ofNat pos),.i .i32 (Int.ofNat c)]) (putB h id (some (itB (.sit l q))))) (Nat.blt c 128)
def Jlz(h:Hp)(m:Nat):Res:=getM h m (fun es _=>match es with
 | []=> .ok (.tp [.b false]) h
 | _=> .no 168) (.no 166)
def qn(it:Operand)(st:Bool)(f:Fr)(h:Hp):Res:=match opd f it with
 | .p id off=>Bool.rec (.no 164) (getO h id (fun o=>match o with
   | .sit l pos=>Bool.rec (.no 164) (Jjs id h l pos) st
   | .mit none _ _ _=>Bool.rec (.ok (.tp [.b false]) h) (.no 164) st
   | .mit (some m) _ _ _=>Bool.rec (Jlz h m) (.no 164) st
   | _=> .no 164) (.no 164)) (Nat.beq off 0)
 | _=> .no 164
def Yl(x:Operand)(at_:TypeId)(ok:Bool)(f:Fr)(h:Hp):Res:=match P.underlying at_ with
 | none=> .no 170
 | some (.interface _)=> .no 170
 | some _=>(match opd f x with
  | .nif=>Bool.rec (.no 171) (match zvOf P at_ with | some z=> .ok (.tp [z,.b false]) h | none=> .no 171) ok
  | .ifc t v=>Bool.rec (Bool.rec (.no 171) (match zvOf P at_ with | some z=> .ok (.tp [z,.b false]) h | none=> .no 171) ok) (.ok (Bool.rec v (.tp [v,.b true]) ok) h) (Nat.beq t at_)
  | _=> .no 170)
def Zu(t:TypeId)(x:Operand)(f:Fr)(h:Hp):Res:=Bool.rec (.no 172) (.ok (.ifc t (opd f x)) h) (P.concrete t)
def X7(x:Operand)(f:Fr)(h:Hp):Res:=match opd f x with
 | .ifc t v=> .pn (.ifc t v) h
 | _=> .no 173
def Qx(s:TypeId)(x:Operand)(i:Nat)(f:Fr)(h:Hp):Res:=match opd f x with
 | .ag cs=>(match Jhd P s i with
  | none=> .no 174
  | some p=>(match Jcs P p.1 cs p.2 with
   | some v=> .ok v h
   | none=> .no 174))
 | _=> .no 174
def Jk9(ts:List TypeId)(l:List AV)(h:Hp):Res:=match ts,l with
 | [t],[.sl _ _ n _ _]=>Bool.rec (.no 28) (.ok (.i .i64 (Int.ofNat n)) h) (isSl P t)
 | [t],[.ns]=>Bool.rec (.no 28) (.ok (.i .i64 (Int.ofNat 0)) h) (isSl P t)
 | [t],[.z0]=>Bool.rec (.no 28) (.ok (.i .i64 (Int.ofNat 0)) h) (isSl P t)
 | [t],[.s l]=>Bool.rec (.no 28) (fz (len l) fun n=> .ok (.i .i64 (Int.ofNat n)) h) (Qa P t)
 | _,_=> .no 28
def Jmt(l:List AV)(h:Hp):Res:= .no 99
def Jax(P:Program)(ts:List TypeId):Bool:=match ts with | [t]=>Jd6 P t | _=>false
def minL(k:IntKind)(h:Hp)(l:List AV):Int→Res:=List.rec (fun a=> .ok (.i k a) h) (fun x _ ih a=>match x with
 | .i _ b=>Bool.rec (ih a) (ih b) (ilt b a)
 | _=> .no 29) l
def Joh(l:List AV)(h:Hp):Res:=match l with
 | .i k a::r=>minL k h r a
 | _=> .no 29
def Jsj(l:List AV)(h:Hp):Res:= .no 99
def srcK(h:Hp)(sz:Nat)(x:AV)(k:Nat→List AV→Res):Res:=match x with
 | .sl id off n z _=>Bool.rec (.no 31) (getB h id (fun b=>tkK (dr b.cs off) (Nat.mul n z) (k n)) (.no 31)) (Nat.beq z sz && Nat.blt 0 n)
 | .s l=>Bool.rec (.no 31) (fz (len l) fun n=>appK (Jzv l) [] (k n)) (Nat.beq sz 1 && Nat.blt 0 (len l))
 | _=> .no 31
def Jfi:AV→Bool
 | .ns | .z0 | .sl _ _ 0 _ _ | .s []=>true
 | _=>false
def Jhz(P:Program)(e:TypeId)(m n:Nat)(k:Nat→Res):Res:=fz (Nat.add m n) fun mn=>Bool.rec (.no 34) (k mn) (Nat.ble mn 1000000 && Nat.ble ((byOf P e).getD 4294967296) 65536)
def Vt(P:Program)(e sz:Nat)(h:Hp)(m n:Nat)(us vs:List AV):Res:=
 Jhz P e m n fun mn=>appK us vs fun cs=>newB h ⟨e,false,false,cs,.row⟩ fun id' h=> .ok (.sl id' 0 mn sz none) h
def apTo(P:Program)(e sz:Nat)(h:Hp)(s:AV)(n:Nat)(vs:List AV):Res:=match s with
 | .ns=>Vt P e sz h 0 n [] vs
 | .sl id off m z cap=>Bool.rec (.no 33) (match cap with
  | some c=>Bool.rec
    (getB h id (fun b=>tkK (dr b.cs off) (Nat.mul m z) fun us=>Vt P e sz h m n us vs) (.no 33))
    (wrB h id (Nat.add off (Nat.mul m z)) vs fun h=>Jhz P e m n fun mn=> .ok (.sl id off mn sz (some c)) h) (Nat.ble (Nat.add m n) c)
  | none=>getB h id (fun b=>Bool.rec (.no 34) (tkK (dr b.cs off) (Nat.mul m z) fun us=>Vt P e sz (putB h id none) m n us vs) (!b.ro && Qh vs && Nat.beq b.ty e)) (.no 34)) (Nat.beq z sz)
 | _=> .no 33
def Vz(ts:List TypeId)(l:List AV)(h:Hp):Res:=match ts,l with
 | [t,t'],[s,x]=>match slOf P t with
  | none=> .no 32
  | some e=>match szOf P e,zcOf P e with
   | some sz,some zc=>Bool.rec (.no 32) (Bool.rec (srcK h sz x fun n vs=>apTo P e sz h s n vs) (match s with
     | .ns=> .ok s h
     | .sl _ _ _ _ _=> .ok s h
     | _=> .no 32) (Jfi x)) (Nat.blt 0 sz && (Nat.beq t t' || Qa P t' && Jw6 P e) && Nat.beq (len zc) sz)
   | _,_=> .no 32
 | _,_=> .no 32
def Jkc(ts:List TypeId)(l:List AV)(h:Hp):Res:=(fun(_:Program)=> .no 99) P
def Jur(ts:List TypeId)(l:List AV)(h:Hp):Res:=(fun(_:Program)=> .no 99) P
def vx(l:List AV)(h:Hp):Res:= .no 99
def Jlw(ts:List TypeId)(l:List AV)(h:Hp):Res:=(fun(_:Program)=> .no 99) P
def kf(ts:List TypeId)(l:List AV)(h:Hp):Res:=Bool.rec (Jk9 P ts l h) (Jmt l h) (Jax P ts)
def Zb(b:Builtin)(ts:List TypeId)(l:List AV)(h:Hp):Res:=(match b with
 | .len=>kf P | .append=>Vz P | .min=>fun _=>Joh | .max=>fun _=>Jsj | .copy=>Jkc P | .cap=>Jur P | .unsafeSliceData=>fun _=>vx | .unsafeString=>Jlw P | _=>fun _ _ _=> .no 36) ts l h
def asB:AV→(Bool→Res)→Res→Res:=AV.rec (motive_1:=fun _=>(Bool→Res)→Res→Res) (motive_2:=fun _=>PUnit) (fun _ no=>no) (fun a0 k0 _=>k0 a0) (fun _ _ _ no=>no) (fun _ _ no=>no) (fun _ no=>no) (fun _ _ _ no=>no) (fun _ no=>no) (fun _ _ _ _ _ _ no=>no) (fun _ no=>no) (fun _ _ _ no=>no) (fun _ _ _ no=>no) (fun _ _ _ _ no=>no) (fun _ no=>no) (fun _ _ _ _ no=>no) (fun _ no=>no) (fun _ _ no=>no) (fun _ no=>no) (fun _ _ no=>no) (fun _ _ _ no=>no) ⟨⟩ (fun _ _ _ _=>⟨⟩)
def asI:AV→(IntKind→Int→Res)→Res→Res:=AV.rec (motive_1:=fun _=>(IntKind→Int→Res)→Res→Res) (motive_2:=fun _=>PUnit) (fun _ no=>no) (fun _ _ no=>no) (fun a0 a1 k0 _=>k0 a0 a1) (fun _ _ no=>no) (fun _ no=>no) (fun _ _ _ no=>no) (fun _ no=>no) (fun _ _ _ _ _ _ no=>no) (fun _ no=>no) (fun _ _ _ no=>no) (fun _ _ _ no=>no) (fun _ _ _ _ no=>no) (fun _ no=>no) (fun _ _ _ _ no=>no) (fun _ no=>no) (fun _ _ no=>no) (fun _ no=>no) (fun _ _ no=>no) (fun _ _ _ no=>no) ⟨⟩ (fun _ _ _ _=>⟨⟩)
def asIS:AV→(IntKind→Int→Res)→(List Nat→Res)→Res→Res:=AV.rec (motive_1:=fun _=>(IntKind→Int→Res)→(List Nat→Res)→Res→Res) (motive_2:=fun _=>PUnit) (fun _ _ no=>no) (fun _ _ _ no=>no) (fun a0 a1 k0 _ _=>k0 a0 a1) (fun a0 _ k1 _=>k1 a0) (fun _ _ no=>no) (fun _ _ _ _ no=>no) (fun _ _ no=>no) (fun _ _ _ _ _ _ _ no=>no) (fun _ _ no=>no) (fun _ _ _ _ no=>no) (fun _ _ _ _ no=>no) (fun _ _ _ _ _ no=>no) (fun _ _ no=>no) (fun _ _ _ _ _ no=>no) (fun _ _ no=>no) (fun _ _ _ no=>no) (fun _ _ no=>no) (fun _ _ _ no=>no) (fun _ _ _ _ no=>no) ⟨⟩ (fun _ _ _ _=>⟨⟩)
def asS:AV→(List Nat→Res)→Res→Res:=AV.rec (motive_1:=fun _=>(List Nat→Res)→Res→Res) (motive_2:=fun _=>PUnit) (fun _ no=>no) (fun _ _ no=>no) (fun _ _ _ no=>no) (fun a0 k0 _=>k0 a0) (fun _ no=>no) (fun _ _ _ no=>no) (fun _ no=>no) (fun _ _ _ _ _ _ no=>no) (fun _ no=>no) (fun _ _ _ no=>no) (fun _ _ _ no=>no) (fun _ _ _ _ no=>no) (fun _ no=>no) (fun _ _ _ _ no=>no) (fun _ no=>no) (fun _ _ no=>no) (fun _ no=>no) (fun _ _ no=>no) (fun _ _ _ no=>no) ⟨⟩ (fun _ _ _ _=>⟨⟩)
def asP:AV→(Nat→Nat→Res)→Res→Res:=AV.rec (motive_1:=fun _=>(Nat→Nat→Res)→Res→Res) (motive_2:=fun _=>PUnit) (fun _ no=>no) (fun _ _ no=>no) (fun _ _ _ no=>no) (fun _ _ no=>no) (fun _ no=>no) (fun a0 a1 k0 _=>k0 a0 a1) (fun _ no=>no) (fun _ _ _ _ _ _ no=>no) (fun _ no=>no) (fun _ _ _ no=>no) (fun _ _ _ no=>no) (fun _ _ _ _ no=>no) (fun _ no=>no) (fun _ _ _ _ no=>no) (fun _ no=>no) (fun _ _ no=>no) (fun _ no=>no) (fun _ _ no=>no) (fun _ _ _ no=>no) ⟨⟩ (fun _ _ _ _=>⟨⟩)
def asPG:AV→(Nat→Nat→Res)→(Nat→Nat→Res)→Res→Res:=AV.rec (motive_1:=fun _=>(Nat→Nat→Res)→(Nat→Nat→Res)→Res→Res) (motive_2:=fun _=>PUnit) (fun _ _ no=>no) (fun _ _ _ no=>no) (fun _ _ _ _ no=>no) (fun _ _ _ no=>no) (fun _ _ no=>no) (fun a0 a1 k0 _ _=>k0 a0 a1) (fun _ _ no=>no) (fun _ _ _ _ _ _ _ no=>no) (fun _ _ no=>no) (fun _ _ _ _ no=>no) (fun _ _ _ _ no=>no) (fun _ _ _ _ _ no=>no) (fun _ _ no=>no) (fun _ _ _ _ _ no=>no) (fun _ _ no=>no) (fun _ _ _ no=>no) (fun _ _ no=>no) (fun _ _ _ no=>no) (fun a0 a1 _ k1 _=>k1 a0 a1) ⟨⟩ (fun _ _ _ _=>⟨⟩)
def asSPG:AV→(Nat→Nat→Nat→Nat→Option Nat→Res)→(Nat→Nat→Res)→(Nat→Nat→Res)→Res→Res:=AV.rec (motive_1:=fun _=>(Nat→Nat→Nat→Nat→Option Nat→Res)→(Nat→Nat→Res)→(Nat→Nat→Res)→Res→Res) (motive_2:=fun _=>PUnit) (fun _ _ _ no=>no) (fun _ _ _ _ no=>no) (fun _ _ _ _ _ no=>no) (fun _ _ _ _ no=>no) (fun _ _ _ no=>no) (fun a0 a1 _ k1 _ _=>k1 a0 a1) (fun _ _ _ no=>no) (fun a0 a1 a2 a3 a4 k0 _ _ _=>k0 a0 a1 a2 a3 a4) (fun _ _ _ no=>no) (fun _ _ _ _ _ no=>no) (fun _ _ _ _ _ no=>no) (fun _ _ _ _ _ _ no=>no) (fun _ _ _ no=>no) (fun _ _ _ _ _ _ no=>no) (fun _ _ _ no=>no) (fun _ _ _ _ no=>no) (fun _ _ _ no=>no) (fun _ _ _ _ no=>no) (fun a0 a1 _ _ k2 _=>k2 a0 a1) ⟨⟩ (fun _ _ _ _=>⟨⟩)
def Jys:AV→(List Nat→Res)→Res→(Nat→Nat→Nat→Nat→Option Nat→Res)→Res→Res:=AV.rec (motive_1:=fun _=>(List Nat→Res)→Res→(Nat→Nat→Nat→Nat→Option Nat→Res)→Res→Res) (motive_2:=fun _=>PUnit) (fun _ _ _ no=>no) (fun _ _ _ _ no=>no) (fun _ _ _ _ _ no=>no) (fun a0 k0 _ _ _=>k0 a0) (fun _ _ _ no=>no) (fun _ _ _ _ _ no=>no) (fun _ k1 _ _=>k1) (fun a0 a1 a2 a3 a4 _ _ k2 _=>k2 a0 a1 a2 a3 a4) (fun _ _ _ no=>no) (fun _ _ _ _ _ no=>no) (fun _ _ _ _ _ no=>no) (fun _ _ _ _ _ _ no=>no) (fun _ _ _ no=>no) (fun _ _ _ _ _ _ no=>no) (fun _ _ _ no=>no) (fun _ _ _ _ no=>no) (fun _ _ _ no=>no) (fun _ _ _ _ no=>no) (fun _ _ _ _ _ no=>no) ⟨⟩ (fun _ _ _ _=>⟨⟩)
def asNSl:AV→Res→(Nat→Nat→Nat→Nat→Option Nat→Res)→Res→Res:=AV.rec (motive_1:=fun _=>Res→(Nat→Nat→Nat→Nat→Option Nat→Res)→Res→Res) (motive_2:=fun _=>PUnit) (fun _ _ no=>no) (fun _ _ _ no=>no) (fun _ _ _ _ no=>no) (fun _ _ _ no=>no) (fun _ _ no=>no) (fun _ _ _ _ no=>no) (fun k0 _ _=>k0) (fun a0 a1 a2 a3 a4 _ k1 _=>k1 a0 a1 a2 a3 a4) (fun _ _ no=>no) (fun _ _ _ _ no=>no) (fun _ _ _ _ no=>no) (fun _ _ _ _ _ no=>no) (fun _ _ no=>no) (fun _ _ _ _ _ no=>no) (fun _ _ no=>no) (fun _ _ _ no=>no) (fun _ _ no=>no) (fun _ _ _ no=>no) (fun _ _ _ _ no=>no) ⟨⟩ (fun _ _ _ _=>⟨⟩)
def asLen:AV→(Nat→Nat→Nat→Nat→Option Nat→Res)→Res→Res→(List Nat→Res)→Res→Res:=AV.rec (motive_1:=fun _=>(Nat→Nat→Nat→Nat→Option Nat→Res)→Res→Res→(List Nat→Res)→Res→Res) (motive_2:=fun _=>PUnit) (fun _ _ _ _ no=>no) (fun _ _ _ _ _ no=>no) (fun _ _ _ _ _ _ no=>no) (fun a0 _ _ _ k3 _=>k3 a0) (fun _ _ _ _ no=>no) (fun _ _ _ _ _ _ no=>no) (fun _ k1 _ _ _=>k1) (fun a0 a1 a2 a3 a4 k0 _ _ _ _=>k0 a0 a1 a2 a3 a4) (fun _ _ k2 _ _=>k2) (fun _ _ _ _ _ _ no=>no) (fun _ _ _ _ _ _ no=>no) (fun _ _ _ _ _ _ _ no=>no) (fun _ _ _ _ no=>no) (fun _ _ _ _ _ _ _ no=>no) (fun _ _ _ _ no=>no) (fun _ _ _ _ _ no=>no) (fun _ _ _ _ no=>no) (fun _ _ _ _ _ no=>no) (fun _ _ _ _ _ _ no=>no) ⟨⟩ (fun _ _ _ _=>⟨⟩)
def asTp:AV→(List AV→Res)→Res→Res:=AV.rec (motive_1:=fun _=>(List AV→Res)→Res→Res) (motive_2:=fun _=>PUnit) (fun _ no=>no) (fun _ _ no=>no) (fun _ _ _ no=>no) (fun _ _ no=>no) (fun _ no=>no) (fun _ _ _ no=>no) (fun _ no=>no) (fun _ _ _ _ _ _ no=>no) (fun _ no=>no) (fun _ _ _ no=>no) (fun a0 _ k0 _=>k0 a0) (fun _ _ _ _ no=>no) (fun _ no=>no) (fun _ _ _ _ no=>no) (fun _ no=>no) (fun _ _ no=>no) (fun _ no=>no) (fun _ _ no=>no) (fun _ _ _ no=>no) ⟨⟩ (fun _ _ _ _=>⟨⟩)
def asAg:AV→(List AV→Res)→Res→Res:=AV.rec (motive_1:=fun _=>(List AV→Res)→Res→Res) (motive_2:=fun _=>PUnit) (fun _ no=>no) (fun _ _ no=>no) (fun _ _ _ no=>no) (fun _ _ no=>no) (fun _ no=>no) (fun _ _ _ no=>no) (fun _ no=>no) (fun _ _ _ _ _ _ no=>no) (fun _ no=>no) (fun a0 _ k0 _=>k0 a0) (fun _ _ _ no=>no) (fun _ _ _ _ no=>no) (fun _ no=>no) (fun _ _ _ _ no=>no) (fun _ no=>no) (fun _ _ no=>no) (fun _ no=>no) (fun _ _ no=>no) (fun _ _ _ no=>no) ⟨⟩ (fun _ _ _ _=>⟨⟩)
def asSAg:AV→(List Nat→Res)→(List AV→Res)→Res→Res:=AV.rec (motive_1:=fun _=>(List Nat→Res)→(List AV→Res)→Res→Res) (motive_2:=fun _=>PUnit) (fun _ _ no=>no) (fun _ _ _ no=>no) (fun _ _ _ _ no=>no) (fun a0 k0 _ _=>k0 a0) (fun _ _ no=>no) (fun _ _ _ _ no=>no) (fun _ _ no=>no) (fun _ _ _ _ _ _ _ no=>no) (fun _ _ no=>no) (fun a0 _ _ k1 _=>k1 a0) (fun _ _ _ _ no=>no) (fun _ _ _ _ _ no=>no) (fun _ _ no=>no) (fun _ _ _ _ _ no=>no) (fun _ _ no=>no) (fun _ _ _ no=>no) (fun _ _ no=>no) (fun _ _ _ no=>no) (fun _ _ _ _ no=>no) ⟨⟩ (fun _ _ _ _=>⟨⟩)
def asFn:AV→(FuncId→List AV→Res)→(Nat→Res)→Res→Res:=AV.rec (motive_1:=fun _=>(FuncId→List AV→Res)→(Nat→Res)→Res→Res) (motive_2:=fun _=>PUnit) (fun _ _ no=>no) (fun _ _ _ no=>no) (fun _ _ _ _ no=>no) (fun _ _ _ no=>no) (fun _ _ no=>no) (fun _ _ _ _ no=>no) (fun _ _ no=>no) (fun _ _ _ _ _ _ _ no=>no) (fun _ _ no=>no) (fun _ _ _ _ no=>no) (fun _ _ _ _ no=>no) (fun a0 a1 _ k0 _ _=>k0 a0 a1) (fun _ _ no=>no) (fun _ _ _ _ _ no=>no) (fun _ _ no=>no) (fun _ _ _ no=>no) (fun _ _ no=>no) (fun a0 _ k1 _=>k1 a0) (fun _ _ _ _ no=>no) ⟨⟩ (fun _ _ _ _=>⟨⟩)
def asNil:AV→(Nat→Nat→Res)→(FuncId→List AV→Res)→(Nat→Nat→Res)→Res→Res:=AV.rec (motive_1:=fun _=>(Nat→Nat→Res)→(FuncId→List AV→Res)→(Nat→Nat→Res)→Res→Res) (motive_2:=fun _=>PUnit) (fun _ _ _ no=>no) (fun _ _ _ _ no=>no) (fun _ _ _ _ _ no=>no) (fun _ _ _ _ no=>no) (fun _ _ _ no=>no) (fun a0 a1 k0 _ _ _=>k0 a0 a1) (fun _ _ _ no=>no) (fun _ _ _ _ _ _ _ _ no=>no) (fun _ _ _ no=>no) (fun _ _ _ _ _ no=>no) (fun _ _ _ _ _ no=>no) (fun a0 a1 _ _ k1 _ _=>k1 a0 a1) (fun _ _ _ no=>no) (fun _ _ _ _ _ _ no=>no) (fun _ _ _ no=>no) (fun _ _ _ _ no=>no) (fun _ _ _ no=>no) (fun _ _ _ _ no=>no) (fun a0 a1 _ _ k2 _=>k2 a0 a1) ⟨⟩ (fun _ _ _ _=>⟨⟩)
def Jjb:AV→(List AV→Res)→Res→Res:=AV.rec (motive_1:=fun _=>(List AV→Res)→Res→Res) (motive_2:=fun _=>PUnit)
 (fun _ no=>no) (fun x k _=>k [.b x]) (fun a n k _=>k [.i a n]) (fun l k _=>k [.s l]) (fun k _=>k [.np]) (fun i o k _=>k [.p i o]) (fun k _=>k [.ns]) (fun i o n z c k _=>k [.sl i o n z c]) (fun k _=>k [.z0])
 (fun l _ k _=>k l) (fun _ _ _ no=>no) (fun a c _ k _=>k [.fn a c]) (fun k _=>k [.nf]) (fun t v _ k _=>k [.ifc t v]) (fun k _=>k [.nif]) (fun i k _=>k [.mp i]) (fun k _=>k [.nm]) (fun i k _=>k [.yv i]) (fun g o k _=>k [.gp g o]) ⟨⟩ (fun _ _ _ _=>⟨⟩)
theorem Jcz(v:AV)(k:List AV→Res)(no:Res):Jjb v k no=match Zg v with | some l=>k l | none=>no:=by cases v <;> rfl
def Jso:AV→Bool:=AV.rec (motive_1:=fun _=>Bool) (motive_2:=fun _=>PUnit)
 false (fun _=>true) (fun _ _=>true) (fun _=>true) true (fun _ _=>true) true (fun _ _ _ _ _=>true) true (fun _ _=>false) (fun _ _=>false) (fun _ _ _=>true) true (fun _ _ _=>true) true (fun _=>true) true (fun _=>true) (fun _ _=>true) ⟨⟩ (fun _ _ _ _=>⟨⟩)
theorem Jn7(v:AV):Jso v=scal v:=by cases v <;> rfl
def z7:List AV→Bool:=List.rec true (fun a _ ih=>Bool.rec false ih (Jso a))
theorem q6(l:List AV):z7 l=Qh l:=by
 induction l with
 | nil=>rfl
 | cons a l ih=>show(Bool.rec false (z7 l) (Jso a):Bool)=bif scal a then Qh l else false;rw [ih,Jn7];cases scal a <;> rfl
def nthC:List AV→Nat→Option AV:=List.rec (fun _=>none) (fun x _ ih n=>Nat.rec (some x) (fun m _=>ih m) n)
def lenC:List AV→Nat:=List.rec 0 (fun _ _ ih=>Nat.succ ih)
def drC:List AV→Nat→List AV:=List.rec (fun _=>[]) (fun x t ih n=>Nat.rec (x::t) (fun m _=>ih m) n)
def tkKC:List AV→Nat→(List AV→Res)→Res:=List.rec (fun n k=>Nat.rec (k []) (fun _ _=> .no 22) n) (fun c _ ih n k=>Nat.rec (k []) (fun m _=>ih m fun t=>k (c::t)) n)
def appKC:List AV→List AV→(List AV→Res)→Res:=List.rec (fun m k=>k m) (fun c _ ih m k=>ih m fun t=>k (c::t))
def putKC:List AV→Nat→List AV→(List AV→Res)→Res:=
 List.rec (fun off vs k=>List.rec (Nat.rec (k []) (fun _ _=> .no 21) off) (fun _ _ _=> .no 20) vs)
  (fun c t ih off vs k=>Nat.rec (List.rec (k (c::t)) (fun v vs' _=>ih 0 vs' fun t'=>k (v::t')) vs) (fun m _=>ih m vs fun t'=>k (c::t')) off)
def opdC:Operand→Fr→AV:=Operand.rec (fun t f=>Bool.rec .u (getF t f) (Nat.ble (Nat.succ t) 4096)) (fun v _=>cv v) (fun g _=> .gp g 0) (fun k _=> .fn k [])
theorem Z4(o:Operand)(f:Fr):opdC o f=opd f o:=by cases o <;> rfl
def Jko:List Operand→Fr→List AV:=List.rec (fun _=>[]) (fun o _ ih f=>opdC o f::ih f)
theorem Jfa(l:List Operand)(f:Fr):Jko l f=opds f l:=by
 induction l with
 | nil=>rfl
 | cons o l ih=>show opdC o f::Jko l f=opd f o::opds f l;rw [ih,Z4]
def obRow:Ob→Blk→(Blk→Res)→Res→Res:=Ob.rec (fun b k _=>k b) (fun _ _ _ _ no=>no) (fun _ _ _ _ no=>no) (fun _ _ _ _ _ _ no=>no) (fun _ _ no=>no) (fun _ _ _ _ _ _ _ _ no=>no)
def obGlb:Ob→List AV→(List AV→Res)→Res→Res:=Ob.rec (fun _ _ no=>no) (fun _ _ _ _ no=>no) (fun _ _ _ _ no=>no) (fun _ _ _ _ _ _ no=>no) (fun b k _=>k b) (fun _ _ _ _ _ _ _ _ no=>no)
def Jxr:Option Blk→(Blk→Res)→Res→Res:=Option.rec (fun _ no=>no) (fun b k no=>obRow b.ob b k no)
def Jxl:Option Blk→(List AV→Res)→Res→Res:=Option.rec (fun _ no=>no) (fun b k no=>obGlb b.ob b.cs k no)
def Jh3(h:Hp)(id:Nat)(k:Blk→Res)(no:Res):Res:=Bool.rec no (Jxr (get5 id h.t) k no) (Nat.blt id h.n)
theorem Jbj(h:Hp)(id:Nat)(k:Blk→Res)(no:Res):Jh3 h id k no=getB h id k no:=by
 unfold Jh3 getB;cases Nat.blt id h.n
 ·rfl
 ·show Jxr (get5 id h.t) k no=_
  cases get5 id h.t with
  | none=>rfl
  | some b=>obtain⟨ty,ex,ro,cs,ob⟩:=b;cases ob <;> rfl
def Jvh(h:Hp)(id:Nat)(k:List AV→Res)(no:Res):Res:=Bool.rec no (Jxl (get5 id h.t) k no) (Nat.blt id h.n)
theorem Jph(h:Hp)(id:Nat)(k:List AV→Res)(no:Res):Jvh h id k no=getG h id k no:=by
 unfold Jvh getG;cases Nat.blt id h.n
 ·rfl
 ·show Jxl (get5 id h.t) k no=_
  cases get5 id h.t with
  | none=>rfl
  | some b=>obtain⟨ty,ex,ro,cs,ob⟩:=b;cases ob <;> rfl
def okN:Nat→IntKind→Hp→Res:=Nat.rec (fun k h=> .ok (.i k (Int.ofNat 0)) h) (fun m _ k h=> .ok (.i k (Int.ofNat (Nat.succ m))) h)
def okM:Nat→IntKind→Hp→Res:=Nat.rec (fun k h=> .ok (.i k (Int.negSucc 0)) h) (fun m _ k h=> .ok (.i k (Int.negSucc (Nat.succ m))) h)
def okIC:Int→IntKind→Hp→Res:=Int.rec okN okM
theorem Jd2(z:Int)(k:IntKind)(h:Hp):okIC z k h=okI k z h:=by cases z <;> (rename_i n;cases n <;> rfl)
def Jwd:IntKind→Int→Int:=
 IntKind.rec (motive:=fun _=>Int→Int) (Jbk 256 128) (Jbk 65536 32768) (Jbk 4294967296 2147483648) (Jbk 18446744073709551616 9223372036854775808)
  (Jbv 256) (Jbv 65536) (Int.rec (fun n=>Int.ofNat (Nat.mod n 4294967296)) (fun n=>Int.ofNat (Nat.sub (Nat.sub 4294967296 1) (Nat.mod n 4294967296)))) (Int.rec (fun n=>Int.ofNat (Nat.mod n 18446744073709551616)) (fun n=>Int.ofNat (Nat.sub (Nat.sub 18446744073709551616 1) (Nat.mod n 18446744073709551616))))
theorem Jnd(k:IntKind)(z:Int):Jwd k z=jf k z:=by cases k <;> first | rfl | (cases z <;> rfl)
def okWC(k:IntKind)(z:Int)(h:Hp):Res:=okIC (Jwd k z) k h
theorem X9(k:IntKind)(z:Int)(h:Hp):okWC k z h=okI k (jf k z) h:=by unfold okWC;rw [Jd2,Jnd]
def Jh9(m n:Nat):Int:=Nat.rec (Int.ofNat (Nat.sub m n)) (fun k _=>Int.negSucc k) (Nat.sub n m)
theorem Jbr(m n:Nat):Jh9 m n=Int.subNatNat m n:=by
 unfold Jh9 Int.subNatNat
 show(Nat.rec (Int.ofNat (m - n)) (fun k _=>Int.negSucc k) (n - m):Int)=_
 cases n - m <;> rfl
def iadd:Int→Int→Int:=Int.rec (fun m b=>Int.rec (fun n=>Int.ofNat (Nat.add m n)) (fun n=>Jh9 m (Nat.succ n)) b) (fun m b=>Int.rec (fun n=>Jh9 n (Nat.succ m)) (fun n=>Int.negSucc (Nat.succ (Nat.add m n))) b)
theorem Jsl(a b:Int):iadd a b=Int.add a b:=by
 cases a <;> cases b
 ·rfl
 ·exact Jbr _ _
 ·exact Jbr _ _
 ·rfl
def isub:Int→Int→Int:=Int.rec (fun m b=>Int.rec (fun n=>Jh9 m n) (fun n=>Int.ofNat (Nat.add m (Nat.succ n))) b) (fun m b=>Int.sub (.negSucc m) b)
theorem Jmu(a b:Int):isub a b=Int.sub a b:=by
 cases a <;> cases b
 ·rename_i m n
  show Jh9 m n=Int.sub (.ofNat m) (.ofNat n)
  rw [Jbr]
  have:Int.subNatNat m n=(m:Int) - (n:Int):=Int.subNatNat_eq_coe
  exact this
 ·rfl
 ·rfl
 ·rfl
def imul:Int→Int→Int:=Int.rec (fun m b=>Int.rec (fun n=>Int.ofNat (Nat.mul m n)) (fun n=>Int.mul (.ofNat m) (.negSucc n)) b) (fun m b=>Int.mul (.negSucc m) b)
theorem Jjg(a b:Int):imul a b=Int.mul a b:=by cases a <;> cases b <;> rfl
def iquo:Int→Int→Int:=Int.rec (fun m b=>Int.rec (fun n=>Int.ofNat (Nat.div m n)) (fun n=>Int.tdiv (.ofNat m) (.negSucc n)) b) (fun m b=>Int.tdiv (.negSucc m) b)
theorem Jup(a b:Int):iquo a b=Int.tdiv a b:=by cases a <;> cases b <;> rfl
def irem:Int→Int→Int:=Int.rec (fun m b=>Int.rec (fun n=>Int.ofNat (Nat.mod m n)) (fun n=>Int.tmod (.ofNat m) (.negSucc n)) b) (fun m b=>Int.tmod (.negSucc m) b)
theorem Juj(a b:Int):irem a b=Int.tmod a b:=by cases a <;> cases b <;> rfl
def ishr:Int→Nat→Int:=Int.rec (fun m n=>Int.ofNat (Nat.div m n)) (fun m n=>Int.ediv (.negSucc m) (Int.ofNat n))
theorem Jsu(a:Int)(n:Nat):ishr a n=Int.ediv a (Int.ofNat n):=by cases a <;> rfl
def iltC:Int→Int→Bool:=Int.rec (fun m b=>Int.rec (fun n=>Nat.blt m n) (fun _=>false) b) (fun m b=>Int.rec (fun _=>true) (fun n=>Nat.blt n m) b)
theorem zb(a b:Int):iltC a b=ilt a b:=by cases a <;> cases b <;> rfl
def ieqC:Int→Int→Bool:=Int.rec (fun m b=>Int.rec (fun n=>Nat.beq m n) (fun _=>false) b) (fun m b=>Int.rec (fun _=>false) (fun n=>Nat.beq m n) b)
theorem vb(a b:Int):ieqC a b=ieq a b:=by cases a <;> cases b <;> rfl
def Jif:Int→Nat:=Int.rec (fun n=>n) (fun _=>0)
theorem Jb5(a:Int):Jif a=a.toNat:=by cases a <;> rfl
def Jod(c a b:Operand)(f:Fr)(h:Hp):Res:=asB (opdC c f) (fun t=>Bool.rec (.ok (opdC b f) h) (.ok (opdC a f) h) t) (.no 2)
theorem Jnu:Jod=zi:=by
 funext c a b f h;unfold Jod zi;simp only [Z4];cases opd f c <;> rfl
def Jl4(x:Operand)(f:Fr)(h:Hp):Res:= .ok (opdC x f) h
theorem Jfh:Jl4=Jby:=by funext x f h;unfold Jl4 Jby;rw [Z4]
def xBox(e:TypeId)(x:Operand)(f:Fr)(h:Hp):Res:=Jjb (opdC x f) (fun l=>newB h ⟨e,true,false,l,.row⟩ fun id h=> .ok (.p id 0) h) (.no 4)
theorem Ju4:xBox=Jc6:=by funext e x f h;unfold xBox Jc6;rw [Jcz,Z4]
def ldC:LK→List AV→Nat→Hp→Res:=LK.rec (fun cs off h=>Option.rec (.no 8) (fun v=> .ok v h) (nthC cs off)) (fun sz cs off h=>tkKC (drC cs off) sz fun l=> .ok (.ag l) h) (fun _ _ _=> .no 8)
def Jpm(t:TypeId)(a:Operand)(f:Fr)(h:Hp):Res:=
 asPG (opdC a f) (fun id off=>Jh3 h id (fun b=>ldC (lkOf P t) b.cs off h) (.no 8)) (fun g off=>Jvh h g (fun cs=>ldC (lkOf P t) cs off h) (.no 8)) (.no 7)
theorem Jxc(k:LK)(cs:List AV)(off:Nat)(h:Hp):ldC k cs off h=match k with
   | .one=>(match nth cs off with
    | some v=> .ok v h
    | none=> .no 8)
   | .agg sz=>tkK (dr cs off) sz fun l=> .ok (.ag l) h
   | .no=> .no 8:=by
 cases k
 ·show(Option.rec (.no 8) (fun v=> .ok v h) (nth cs off):Res)=_
  cases nth cs off <;> rfl
 ·rfl
 ·rfl
theorem Jol:Jpm P=Qi P:=by
 funext t a f h;unfold Jpm Qi;simp only [Z4,Jbj,Jph,Jxc];cases opd f a <;> rfl
def wrBC(h:Hp)(id:Nat)(off:Nat)(vs:List AV)(k:Hp→Res):Res:=
 Jh3 h id (fun b=>Bool.rec (Bool.rec (.no 202) (putKC b.cs off vs fun cs=>k (putB h id (some ⟨b.ty,b.ex,false,cs,.row⟩))) (z7 vs)) (.no 201) b.ro) (.no 9)
theorem Jjz(h:Hp)(id off:Nat)(vs:List AV)(k:Hp→Res):wrBC h id off vs k=wrB h id off vs k:=by
 unfold wrBC wrB;rw [Jbj];congr 1;funext b;rw [q6];cases b.ro <;> rfl
def Jfy(t:TypeId)(a x:Operand)(f:Fr)(h:Hp):Res:=
 asP (opdC a f) (fun id off=>Jjb (opdC x f) (fun vs=>Option.rec (.no 11) (fun sz=>Bool.rec (.no 11) (wrBC h id off vs fun h=> .ok .u h) (Nat.beq (lenC vs) sz)) (szOf P t)) (.no 11)) (.no 9)
theorem Ji4:Jfy P=Qn P:=by
 funext t a x f h;unfold Jfy Qn;simp only [Z4,Jjz,Jcz]
 cases opd f a <;> try rfl
 show(match Zg (opd f x) with | some l=>_ | none=>_)=_
 cases Zg (opd f x) with
 | none=>rfl
 | some vs=>show(Option.rec _ _ (szOf P t):Res)=_;cases szOf P t <;> rfl
def V0(x:Operand)(f:Fr)(h:Hp):Res:=asNil (opdC x f) (fun id off=> .ok (.p id off) h) (fun k c=> .ok (.fn k c) h) (fun g off=> .ok (.gp g off) h) (.no 12)
theorem Jci:V0=Y9:=by funext x f h;unfold V0 Y9;simp only [Z4];cases opd f x <;> rfl
def xAdd(x y:AV)(h:Hp):Res:=asIS x
 (fun k a=>asI y (fun k' b=>Bool.rec (.no 13) (okWC k (iadd a b) h) (ikEq k k')) (.no 13))
 (fun a=>asS y (fun b=>Bool.rec (.no 13) (appK a b fun l=> .ok (.s l) h) (Nat.blt (Nat.add (len a) (len b)) 1000000)) (.no 13)) (.no 13)
theorem Jt0(x y:AV)(h:Hp):xAdd x y h=bAdd x y h:=by
 unfold xAdd bAdd;simp only [X9,Jsl];cases x <;> cases y <;> rfl
def xTwo(g:Int→Int→Int)(x y:AV)(h:Hp):Res:=asI x (fun k a=>asI y (fun k' b=>Bool.rec (.no 13) (okWC k (g a b) h) (ikEq k k')) (.no 13)) (.no 13)
theorem Js7(x y:AV)(h:Hp):xTwo isub x y h=bSub x y h:=by
 unfold xTwo bSub;simp only [X9,Jmu];cases x <;> cases y <;> rfl
theorem Jub(x y:AV)(h:Hp):xTwo imul x y h=bMul x y h:=by
 unfold xTwo bMul;simp only [X9,Jjg];cases x <;> cases y <;> rfl
def xQuo(x y:AV)(h:Hp):Res:=asI x (fun k a=>asI y (fun k' b=>Bool.rec (.no 13) (Bool.rec (okWC k (iquo a b) h) (.no 13) (ieqC b 0)) (ikEq k k')) (.no 13)) (.no 13)
theorem Ju2(x y:AV)(h:Hp):xQuo x y h=bQuo x y h:=by
 unfold xQuo bQuo;simp only [X9,Jup,vb];cases x <;> cases y <;> try rfl
 rename_i k a k' b
 show(Bool.rec _ (Bool.rec _ _ (ieq b 0)) (ikEq k k'):Res)=Bool.rec _ _ (ikEq k k' && !ieq b 0)
 cases ikEq k k' <;> cases ieq b 0 <;> rfl
def xRem(x y:AV)(h:Hp):Res:=asI x (fun k a=>asI y (fun k' b=>Bool.rec (.no 13) (Bool.rec (okIC (irem a b) k h) (.no 13) (ieqC b 0)) (ikEq k k')) (.no 13)) (.no 13)
theorem Juf(x y:AV)(h:Hp):xRem x y h=bRem x y h:=by
 unfold xRem bRem;simp only [Jd2,Juj,vb];cases x <;> cases y <;> try rfl
 rename_i k a k' b
 show(Bool.rec _ (Bool.rec _ _ (ieq b 0)) (ikEq k k'):Res)=Bool.rec _ _ (ikEq k k' && !ieq b 0)
 cases ikEq k k' <;> cases ieq b 0 <;> rfl
def xShl(x y:AV)(h:Hp):Res:=asI x (fun k a=>asI y (fun _ b=>Bool.rec (okWC k (imul a (Int.ofNat (Nat.pow 2 (Nat.min (Jif b) k.bits)))) h) (.no 13) (iltC b 0)) (.no 13)) (.no 13)
theorem Jsn(x y:AV)(h:Hp):xShl x y h=bShl x y h:=by
 unfold xShl bShl;simp only [X9,Jjg,zb,Jb5];cases x <;> cases y <;> try rfl
 rename_i k a k' b
 show(Bool.rec _ _ (ilt b 0):Res)=Bool.rec _ _ (!ilt b 0)
 cases ilt b 0 <;> rfl
def xShr(x y:AV)(h:Hp):Res:=asI x (fun k a=>asI y (fun _ b=>Bool.rec (okIC (ishr a (Nat.pow 2 (Nat.min (Jif b) k.bits))) k h) (.no 13) (iltC b 0)) (.no 13)) (.no 13)
theorem Jvp(x y:AV)(h:Hp):xShr x y h=bShr x y h:=by
 unfold xShr bShr;simp only [Jd2,Jsu,zb,Jb5];cases x <;> cases y <;> try rfl
 rename_i k a k' b
 show(Bool.rec _ _ (ilt b 0):Res)=Bool.rec _ _ (!ilt b 0)
 cases ilt b 0 <;> rfl
def Jhi(g:Nat→Nat→Nat)(x y:AV)(h:Hp):Res:=asI x (fun k a=>asI y (fun k' b=>Bool.rec (.no 13) (Int.rec (fun m=>Int.rec (fun n=>okWC k (Int.ofNat (g (Nat.mod m (Nat.pow 2 k.bits)) (Nat.mod n (Nat.pow 2 k.bits)))) h) (fun _=> .no 13) b) (fun _=> .no 13) a) (ikEq k k')) (.no 13)) (.no 13)
theorem yl(g:Nat→Nat→Nat)(x y:AV)(h:Hp):Jhi g x y h=Vh g x y h:=by
 unfold Jhi Vh;simp only [X9];cases x <;> cases y <;> rfl
def okBC:Bool→Hp→Res:=Bool.rec (fun h=> .ok (.b false) h) (fun h=> .ok (.b true) h)
theorem Vy(t:Bool)(h:Hp):okBC t h=okB t h:=by cases t <;> rfl
def xCmp(g:Int→Int→Bool)(x y:AV)(h:Hp):Res:=asI x (fun k a=>asI y (fun k' b=>Bool.rec (.no 13) (okBC (g a b) h) (ikEq k k')) (.no 13)) (.no 13)
def xLss(x y:AV)(h:Hp):Res:=asI x (fun k a=>asI y (fun k' b=>Bool.rec (.no 13) (okBC (iltC a b) h) (ikEq k k')) (.no 13)) (bLss x y h)
theorem Jtp(x y:AV)(h:Hp):xLss x y h=bLss x y h:=by
 unfold xLss bLss;simp only [Vy,zb];cases x <;> cases y <;> rfl
theorem Jr4(x y:AV)(h:Hp):xCmp (fun a b=>Bool.rec true false (iltC b a)) x y h=bLeq x y h:=by
 unfold xCmp bLeq;simp only [Vy,zb];cases x <;> cases y <;> try rfl
 rename_i k a k' b
 show(Bool.rec _ (okB (Bool.rec true false (ilt b a)) h) _:Res)=Bool.rec _ (okB (!ilt b a) h) _
 cases ilt b a <;> rfl
theorem Jtm(x y:AV)(h:Hp):xCmp (fun a b=>iltC b a) x y h=bGtr x y h:=by
 unfold xCmp bGtr;simp only [Vy,zb];cases x <;> cases y <;> rfl
theorem Jua(x y:AV)(h:Hp):xCmp (fun a b=>Bool.rec true false (iltC a b)) x y h=bGeq x y h:=by
 unfold xCmp bGeq;simp only [Vy,zb];cases x <;> cases y <;> try rfl
 rename_i k a k' b
 show(Bool.rec _ (okB (Bool.rec true false (ilt a b)) h) _:Res)=Bool.rec _ (okB (!ilt a b) h) _
 cases ilt a b <;> rfl
def xEql(P:Program)(c:Bool)(t:TypeId)(x y:AV)(h:Hp):Res:=asI x (fun k a=>asI y (fun k' b=>Bool.rec (.no 14) (okBC (ieqC a b) h) (ikEq k k')) (.no 14)) (bEql P c t x y h)
theorem Jru(c:Bool)(t:TypeId)(x y:AV)(h:Hp):xEql P c t x y h=bEql P c t x y h:=by
 unfold xEql;simp only [Vy,vb];cases x <;> try rfl
 cases y <;> try rfl
 rename_i k a k' b
 show(Bool.rec _ _ (ikEq k k'):Res)=_
 unfold bEql eqV
 show _=(match (Bool.rec none (some (ieq a b)) (ikEq k k'):Option Bool) with | some b=>okB b h | none=> .no 14)
 cases ikEq k k' <;> rfl
def xNeq(P:Program)(c:Bool)(t:TypeId)(x y:AV)(h:Hp):Res:=asI x (fun k a=>asI y (fun k' b=>Bool.rec (.no 14) (okBC (Bool.rec true false (ieqC a b)) h) (ikEq k k')) (.no 14)) (bNeq P c t x y h)
theorem Jsp(c:Bool)(t:TypeId)(x y:AV)(h:Hp):xNeq P c t x y h=bNeq P c t x y h:=by
 unfold xNeq;simp only [Vy,vb];cases x <;> try rfl
 cases y <;> try rfl
 rename_i k a k' b
 show(Bool.rec _ _ (ikEq k k'):Res)=_
 unfold bNeq eqV
 show _=(match (Bool.rec none (some (ieq a b)) (ikEq k k'):Option Bool) with | some b=>okB (!b) h | none=> .no 14)
 cases ikEq k k'
 ·rfl
 ·show okB (Bool.rec true false (ieq a b)) h=okB (!ieq a b) h
  cases ieq a b <;> rfl
def orB(a b:Bool):Bool:=Bool.rec b true a
theorem Jqx(a b:Bool):orB a b=(a || b):=by cases a <;> rfl
def xBinF:BinOp→Program→Operand→Operand→TypeId→AV→AV→Hp→Res:=
 BinOp.rec (motive:=fun _=>Program→Operand→Operand→TypeId→AV→AV→Hp→Res)
  (fun _ _ _ _=>xAdd) (fun _ _ _ _=>xTwo isub) (fun _ _ _ _=>xTwo imul) (fun _ _ _ _=>xQuo) (fun _ _ _ _=>xRem)
  (fun _ _ _ _=>Jhi Nat.land) (fun _ _ _ _=>Jhi Nat.lor) (fun _ _ _ _=>Jhi Nat.xor) (fun _ _ _ _=>xShl) (fun _ _ _ _=>xShr) (fun _ _ _ _=>Jhi (fun m n=>Nat.xor m (Nat.land m n)))
  (fun P x y t=>xEql P (orB (Z3 x) (Z3 y)) t) (fun P x y t=>xNeq P (orB (Z3 x) (Z3 y)) t) (fun _ _ _ _=>xLss) (fun _ _ _ _=>xCmp (fun a b=>Bool.rec true false (iltC b a))) (fun _ _ _ _=>xCmp (fun a b=>iltC b a)) (fun _ _ _ _=>xCmp (fun a b=>Bool.rec true false (iltC a b)))
def xBin(op:BinOp)(t:TypeId)(x y:Operand)(f:Fr)(h:Hp):Res:=xBinF op P x y t (opdC x f) (opdC y f) h
theorem Jum:xBin P=Jev P:=by
 funext op t x y f h;unfold xBin Jev;rw [Z4,Z4]
 cases op
 ·exact Jt0 ..
 ·exact Js7 ..
 ·exact Jub ..
 ·exact Ju2 ..
 ·exact Juf ..
 ·exact yl ..
 ·exact yl ..
 ·exact yl ..
 ·exact Jsn ..
 ·exact Jvp ..
 ·exact yl (fun m n=>Nat.xor m (Nat.land m n)) _ _ h
 ·show xEql P (orB _ _) t _ _ h=bEql P _ t _ _ h;rw [Jqx];exact Jru ..
 ·show xNeq P (orB _ _) t _ _ h=bNeq P _ t _ _ h;rw [Jqx];exact Jsp ..
 ·exact Jtp ..
 ·exact Jr4 ..
 ·exact Jtm ..
 ·exact Jua ..
def xUnF:UnOp→AV→Hp→Res:=UnOp.rec (fun x h=>asI x (fun k a=>okWC k (isub 0 a) h) (.no 16)) (fun x h=>asI x (fun k a=>okWC k (Int.sub (Int.negSucc 0) a) h) (.no 16)) (fun x h=>asB x (fun t=>okBC (Bool.rec true false t) h) (.no 16)) (fun _ _=> .no 16)
def xUn(op:UnOp)(x:Operand)(f:Fr)(h:Hp):Res:=xUnF op (opdC x f) h
theorem Jxm:xUn=evUn:=by
 funext op x f h;unfold xUn evUn;rw [Z4]
 cases op
 ·show asI _ _ _=_;simp only [X9,Jmu];cases opd f x <;> rfl
 ·show asI _ _ _=_;simp only [X9];cases opd f x <;> rfl
 ·show asB _ _ _=_;simp only [Vy];cases opd f x <;> first | rfl | (rename_i t;cases t <;> rfl)
 ·cases opd f x <;> rfl
def Jfp(s d:TypeId)(x:Operand)(f:Fr)(h:Hp):Res:=asI (opdC x f) (fun _ a=>Option.rec (.no 17) (fun j=>Bool.rec (.no 17) (okWC j a h) (P.underlying s).isSome) (Jc4 P d)) (Qo P s d x f h)
theorem Jjp:Jfp P=Qo P:=by
 funext s d x f h;unfold Jfp Qo;simp only [X9,Z4]
 cases opd f x <;> try rfl
 rename_i k a
 show(Option.rec _ _ (Jc4 P d):Res)=_
 cases Jc4 P d <;> rfl
def Joe(s d:TypeId)(x:Operand)(f:Fr)(h:Hp):Res:=Nat.rec (motive:=fun _=>Res) (Jfp P s d x f h) (fun _ _=>ji P s d x f h) (cvKd P s d)
theorem Jpx:Joe P=ji P:=by
 funext s d x f h;unfold Joe
 cases hk:cvKd P s d with
 | zero=>show Jfp P s d x f h=_;rw [Jjp];unfold ji;simp only [hk]
 | succ n=>rfl
def natC(v:AV)(k:Nat→Res)(no:Res):Res:=asI v (fun _ n=>Int.rec k (fun _=>no) n) no
theorem Jef(v:AV)(k:Nat→Res)(no:Res):natC v k no=V9 v k no:=by cases v <;> rfl
def fzC(k:Nat→Res):Nat→Res:=Nat.rec (k 0) (fun m _=>k (Nat.succ m))
theorem Jy8(n:Nat)(k:Nat→Res):fzC k n=fz n k:=rfl
def bndC(f:Fr)(o:Option Operand)(d:Nat)(k:Nat→Res)(no:Res):Res:=Option.rec (k d) (fun x=>natC (opdC x f) (fzC k) no) o
theorem Jr0(f:Fr)(o:Option Operand)(d:Nat)(k:Nat→Res)(no:Res):bndC f o d k no=bnd f o d k no:=by
 cases o with
 | none=>rfl
 | some x=>show natC (opdC x f) (fzC k) no=V9 (opd f x) (fun n=>fz n k) no;rw [Jef,Z4];rfl
def slC:Option Nat→Nat→Nat→Nat→Nat→Nat→Nat→Hp→Res:=Option.rec
 (fun id off n z i j h=>Bool.rec (.no 19) (Bool.rec (fz (Nat.add off (Nat.mul i z)) fun o=>fz (Nat.sub j i) fun n'=> .ok (.sl id o n' z none) h) (.ok .z0 h) (Nat.beq n i)) (Nat.ble j n))
 (fun c id off _ z i j h=>Bool.rec (.no 19) (Bool.rec (fz (Nat.add off (Nat.mul i z)) fun o=>fz (Nat.sub j i) fun n'=>fz (Nat.sub c i) fun c'=> .ok (.sl id o n' z (some c')) h) (.ok (.sl id off 0 z (some 0)) h) (Nat.beq c i)) (Nat.ble j c))
def Je0(t:TypeId)(x:Operand)(lo hi mx:Option Operand)(f:Fr)(h:Hp):Res:=Option.rec
 (Jys (opdC x f)
  (fun _=>K9 P t x lo hi mx f h) (K9 P t x lo hi mx f h)
  (fun id off n z cap=>Option.rec (.no 19) (fun sz=>bndC f hi n (fun j=>bndC f lo 0 (fun i=>Bool.rec (.no 19) (Bool.rec (.no 19) (slC cap id off n z i j h) (Nat.beq sz z)) (Nat.ble i j)) (.no 19)) (.no 19)) ((slOf P t).bind (szOf P)))
  (.no 19))
 (fun _=> .no 19) mx
theorem Jg2:Je0 P=K9 P:=by
 funext t x lo hi mx f h;unfold Je0
 cases mx with
 | some m=>rfl
 | none=>
  show Jys (opdC x f) _ _ _ _=_
  rw [Z4]
  cases hx:opd f x with
  | sl id off n z cap=>
   show(Option.rec _ _ ((slOf P t).bind (szOf P)):Res)=_
   unfold K9;rw [hx]
   cases hs:(slOf P t).bind (szOf P) with
   | none=>simp only [hs]
   | some sz=>
    simp only [hs,Jr0]
    congr 1;funext j;congr 1;funext i
    cases Nat.ble i j
    ·rfl
    ·cases Nat.beq sz z
     ·rfl
     ·cases cap <;> rfl
  | _=>first | rfl | (unfold K9;rw [hx];rfl)
def Jfd(t:TypeId)(x:Operand)(lo hi mx:Option Operand)(f:Fr)(h:Hp):Res:=Bool.rec (Je0 P t x lo hi mx f h) (ya P t x lo hi mx f h) (k5 P t)
theorem Jju:Jfd P=Qj P:=by funext t x lo hi mx f h;unfold Jfd Qj;rw [Jg2]
def Q4(s:TypeId)(x:Operand)(i:Nat)(f:Fr)(h:Hp):Res:=asPG (opdC x f)
 (fun id off=>Option.rec (.no 23) (fun o=>fzC (fun o=> .ok (.p id o) h) (Nat.add off o)) (Zn P s i))
 (fun id off=>Option.rec (.no 23) (fun o=>fzC (fun o=> .ok (.gp id o) h) (Nat.add off o)) (Zn P s i)) (.no 23)
theorem Jaz:Q4 P=Yo P:=by
 funext s x i f h;unfold Q4 Yo;rw [Z4]
 cases opd f x <;> try rfl
 all_goals (show(Option.rec _ _ (Zn P s i):Res)=_;cases Zn P s i <;> rfl)
def Q6(t:TypeId)(x i:Operand)(f:Fr)(h:Hp):Res:=asSPG (opdC x f)
 (fun id off n z _=>Option.rec (.no 24) (fun sz=>natC (opdC i f) (fun j=>Bool.rec (.no 24) (Bool.rec (.no 24) (fzC (fun o=> .ok (.p id o) h) (Nat.add off (Nat.mul j z))) (Nat.beq sz z)) (Nat.blt j n)) (.no 24)) ((slOf P t).bind (szOf P)))
 (fun _ _=>Zw P t x i f h) (fun _ _=>Zw P t x i f h) (.no 24)
theorem Jaq:Q6 P=Zw P:=by
 funext t x i f h;unfold Q6;rw [Z4]
 cases hx:opd f x with
 | sl id off n z cap=>
  show(Option.rec _ _ ((slOf P t).bind (szOf P)):Res)=_
  unfold Zw;rw [hx]
  cases hs:(slOf P t).bind (szOf P) with
  | none=>simp only [hs]
  | some sz=>
   simp only [hs,Jef,Z4]
   congr 1;funext j
   cases Nat.blt j n
   ·rfl
   ·cases Nat.beq sz z <;> rfl
 | _=>first | rfl | (unfold Zw;rw [hx];rfl)
def nthN:List Nat→Nat→Option Nat:=List.rec (fun _=>none) (fun x _ ih n=>Nat.rec (some x) (fun m _=>ih m) n)
def Jgy(t:TypeId)(x i:Operand)(f:Fr)(h:Hp):Res:=asSAg (opdC x f)
 (fun l=>Bool.rec (.no 25) (natC (opdC i f) (fun j=>Option.rec (.no 25) (fun c=> .ok (.i .u8 (Int.ofNat c)) h) (nthN l j)) (.no 25)) (Qa P t))
 (fun _=>Xp P t x i f h) (.no 25)
theorem Jkq:Jgy P=Xp P:=by
 funext t x i f h;unfold Jgy;rw [Z4]
 cases hx:opd f x with
 | s l=>
  unfold Xp;rw [hx];simp only [Jef,Z4]
  show(Bool.rec _ _ (Qa P t):Res)=Bool.rec _ _ (Qa P t)
  cases Qa P t
  ·rfl
  ·show V9 _ _ _=V9 _ _ _
   congr 1;funext j
   show(Option.rec _ _ (nth l j):Res)=_
   cases nth l j <;> rfl
 | _=>first | rfl | (unfold Xp;rw [hx];rfl)
def yi(x:Operand)(i:Nat)(f:Fr)(h:Hp):Res:=asTp (opdC x f) (fun l=>Option.rec (.no 26) (fun v=> .ok v h) (nthC l i)) (.no 26)
theorem Jdq:yi=Kz:=by
 funext x i f h;unfold yi Kz;rw [Z4]
 cases opd f x <;> try rfl
 rename_i l
 show(Option.rec _ _ (nth l i):Res)=(match nth l i with | some v=> .ok v h | none=> .no 26)
 cases nth l i <;> rfl
def Jxe(k:LK):List AV→Nat→(AV→Res)→Res→Res:=LK.rec (fun cs off k no=>Option.rec no k (nthC cs off)) (fun sz cs off k _=>k (.ag (tk (dr cs off) sz))) (fun _ _ _ no=>no) k
theorem Joq(t:TypeId)(cs:List AV)(off:Nat)(k:AV→Res)(no:Res):Jxe (lkOf P t) cs off k no=match Jcs P t cs off with | some v=>k v | none=>no:=by
 unfold Jcs;cases lkOf P t
 ·show(Option.rec no k (nth cs off):Res)=_
  cases nth cs off <;> rfl
 ·rfl
 ·rfl
def Jgw(s:TypeId)(x:Operand)(i:Nat)(f:Fr)(h:Hp):Res:=asAg (opdC x f) (fun cs=>Option.rec (.no 174) (fun p=>Jxe (lkOf P p.1) cs p.2 (fun v=> .ok v h) (.no 174)) (Jhd P s i)) (.no 174)
theorem Jlp:Jgw P=Qx P:=by
 funext s x i f h;unfold Jgw Qx;simp only [Z4,Joq]
 cases opd f x <;> try rfl
 rename_i cs
 show(Option.rec _ _ (Jhd P s i):Res)=_
 cases Jhd P s i <;> rfl
def xLen(t:TypeId)(x:AV)(no:Res)(h:Hp):Res:=asLen x
 (fun _ _ n _ _=>Bool.rec (.no 28) (.ok (.i .i64 (Int.ofNat n)) h) (isSl P t)) (Bool.rec (.no 28) (.ok (.i .i64 (Int.ofNat 0)) h) (isSl P t)) (Bool.rec (.no 28) (.ok (.i .i64 (Int.ofNat 0)) h) (isSl P t))
 (fun l=>Bool.rec (.no 28) (fz (len l) fun n=> .ok (.i .i64 (Int.ofNat n)) h) (Qa P t)) no
def Jng(ts:List TypeId)(l:List AV)(h:Hp):Res:=Bool.rec
 (List.rec (.no 28) (fun t tr _=>List.rec (List.rec (.no 28) (fun x xr _=>List.rec (xLen P t x (.no 28) h) (fun _ _ _=> .no 28) xr) l) (fun _ _ _=> .no 28) tr) ts) (Jmt l h) (Jax P ts)
theorem Jnv:Jng P=kf P:=by
 funext ts l h;unfold Jng kf
 cases Jax P ts
 ·show _=Jk9 P ts l h
  unfold Jk9
  match ts,l with
  | [],[]=>rfl
  | [],_::_=>rfl
  | [_],[]=>rfl
  | [_],_::_::_=>rename_i a b c d;cases b <;> rfl
  | _::_::_,[]=>rfl
  | _::_::_,_::_=>rename_i a b c d e;cases d <;> first | rfl | (cases e <;> rfl)
  | [t],[x]=>cases x <;> rfl
 ·rfl
def Jg0(P:Program)(e:TypeId)(m n:Nat)(k:Nat→Res):Res:=fzC (fun mn=>Bool.rec (.no 34) (Bool.rec (.no 34) (k mn) (Nat.ble ((byOf P e).getD 4294967296) 65536)) (Nat.ble mn 1000000)) (Nat.add m n)
theorem Jc5(e:TypeId)(m n:Nat)(k:Nat→Res):Jg0 P e m n k=Jhz P e m n k:=by
 unfold Jg0 Jhz;rw [Jy8];congr 1;funext mn;cases Nat.ble mn 1000000 <;> rfl
def Jc3(P:Program)(e sz:Nat)(h:Hp)(m n:Nat)(us vs:List AV):Res:=
 Jg0 P e m n fun mn=>appKC us vs fun cs=>newB h ⟨e,false,false,cs,.row⟩ fun id' h=> .ok (.sl id' 0 mn sz none) h
theorem Jl0(e sz:Nat)(h:Hp)(m n:Nat)(us vs:List AV):Jc3 P e sz h m n us vs=Vt P e sz h m n us vs:=by
 unfold Jc3 Vt;rw [Jc5];rfl
def Jtk(P:Program)(e sz:Nat)(h:Hp)(s:AV)(n:Nat)(vs:List AV):Res:=asNSl s (Jc3 P e sz h 0 n [] vs)
 (fun id off m z cap=>Bool.rec (.no 33) (Option.rec
  (Jh3 h id (fun b=>Bool.rec (Bool.rec (.no 34) (Bool.rec (.no 34) (tkKC (drC b.cs off) (Nat.mul m z) fun us=>Jc3 P e sz (putB h id none) m n us vs) (Nat.beq b.ty e)) (z7 vs)) (.no 34) b.ro) (.no 34))
  (fun c=>Bool.rec
    (Jh3 h id (fun b=>tkKC (drC b.cs off) (Nat.mul m z) fun us=>Jc3 P e sz h m n us vs) (.no 33))
    (wrBC h id (Nat.add off (Nat.mul m z)) vs fun h=>Jg0 P e m n fun mn=> .ok (.sl id off mn sz (some c)) h) (Nat.ble (Nat.add m n) c)) cap) (Nat.beq z sz)) (.no 33)
theorem Jo1(e sz:Nat)(h:Hp)(s:AV)(n:Nat)(vs:List AV):Jtk P e sz h s n vs=apTo P e sz h s n vs:=by
 unfold Jtk apTo;simp only [Jl0,Jjz,Jbj,q6,Jc5]
 cases s <;> try rfl
 rename_i id off m z cap
 show(Bool.rec _ _ (Nat.beq z sz):Res)=Bool.rec _ _ (Nat.beq z sz)
 cases Nat.beq z sz
 ·rfl
 ·cases cap with
  | some c=>rfl
  | none=>
   show getB h id _ _=getB h id _ _
   congr 1;funext b
   cases b.ro <;> cases Qh vs <;> cases Nat.beq b.ty e <;> rfl
def Jbl(t t':TypeId)(s x:AV)(h:Hp)(no:Res):Res:=Option.rec no (fun e=>Option.rec no (fun sz=>Option.rec no (fun zc=>
 Bool.rec (.no 32) (Bool.rec (srcK h sz x fun n vs=>Jtk P e sz h s n vs) (match s with
     | .ns=> .ok s h
     | .sl _ _ _ _ _=> .ok s h
     | _=> .no 32) (Jfi x)) (Nat.blt 0 sz && (Nat.beq t t' || Qa P t' && Jw6 P e) && Nat.beq (len zc) sz)) (zcOf P e)) (szOf P e)) (slOf P t)
def Ja3(ts:List TypeId)(l:List AV)(h:Hp):Res:=
 List.rec (.no 32) (fun t tr _=>List.rec (.no 32) (fun t' tr' _=>List.rec
  (List.rec (.no 32) (fun s lr _=>List.rec (.no 32) (fun x lr' _=>List.rec (Jbl P t t' s x h (.no 32)) (fun _ _ _=> .no 32) lr') lr) l) (fun _ _ _=> .no 32) tr') tr) ts
theorem Jhs:Ja3 P=Vz P:=by
 funext ts l h;unfold Ja3 Vz
 match ts,l with
 | [],_=>rfl
 | [_],_=>rfl
 | _::_::_::_,_=>rfl
 | [_,_],[]=>rfl
 | [_,_],[_]=>rfl
 | [_,_],_::_::_::_=>rfl
 | [t,t'],[s,x]=>
  show Jbl P t t' s x h _=_
  unfold Jbl;simp only [Jo1]
  cases slOf P t with
  | none=>rfl
  | some e=>
   show(Option.rec _ _ (szOf P e):Res)=_
   cases hs:szOf P e with
   | none=>simp only [hs]
   | some sz=>
    show(Option.rec _ _ (zcOf P e):Res)=_
    cases hz:zcOf P e with
    | none=>simp only [hs,hz]
    | some zc=>simp only [hs,hz]
def ke:Builtin→Program→List TypeId→List AV→Hp→Res:=
 Builtin.rec (motive:=fun _=>Program→List TypeId→List AV→Hp→Res)
  Ja3 (fun P=>Jur P) (fun P=>Zb P .clear) (fun P=>Zb P .close) (fun P=>Zb P .complex) (fun P=>Jkc P) (fun P=>Zb P .delete) (fun P=>Zb P .imag) Jng
  (fun P=>Zb P .make) (fun _ _=>Jsj) (fun _ _=>Joh) (fun P=>Zb P .new) (fun P=>Zb P .panic) (fun P=>Zb P .print) (fun P=>Zb P .println) (fun P=>Zb P .real) (fun P=>Zb P .recover)
  (fun P=>Zb P .unsafeAdd) (fun P=>Zb P .unsafeSlice) (fun _ _=>vx) (fun P=>Jlw P) (fun P=>Zb P .unsafeStringData) (fun P=>Zb P .unsafeSizeof) (fun P=>Zb P .unsafeAlignof) (fun P=>Zb P .unsafeOffsetof)
theorem Jcl(b:Builtin)(ts:List TypeId)(l:List AV)(h:Hp):ke b P ts l h=Zb P b ts l h:=by
 cases b <;> first | rfl | (show Ja3 P ts l h=_;rw [Jhs];rfl) | (show Jng P ts l h=_;rw [Jnv];rfl)
structure CallF where
 run:FuncId→List AV→Hp→Res
 ex:FuncId→Nat
 rd:Nat→List AV→Hp→Res
def Jdx(k m:Nat)(l:List AV)(h:Hp):Res:=(fun(_:Program)=> .no 99) P
def appL(l m:List AV):List AV:=List.rec m (fun a _ ih=>a::ih) l
def Q9(call:CallF)(c:Call)(f:Fr)(h:Hp):Res:=match c.callee with
 | .builtin b=>Zb P b c.argTypes.toList (opds f c.args.toList) h
 | .value x=>match opd f x with
  | .fn k cap=>Nat.rec (call.run k (appL (opds f c.args.toList) cap) h) (fun m _=>Jdx P k (Nat.succ m) (appL (opds f c.args.toList) cap) h) (call.ex k)
  | .yv id=>call.rd id (opds f c.args.toList) h
  | _=> .no 37
 | _=> .no 38
def appC:List AV→List AV→List AV:=List.rec (fun m=>m) (fun a _ ih m=>a::ih m)
theorem Juw(l m:List AV):appC l m=appL l m:=by
 induction l with
 | nil=>rfl
 | cons a l ih=>show a::appC l m=a::appL l m;rw [ih]
def J0j:Nat→Program→CallF→FuncId→List AV→Hp→Res:=Nat.rec (fun _ call k l h=>call.run k l h) (fun m _ P _ k l h=>Jdx P k (Nat.succ m) l h)
def Jz1:Callee→Program→CallF→Call→Fr→Hp→Res:=Callee.rec
 (fun x P call c f h=>asFn (opdC x f) (fun k cap=>J0j (call.ex k) P call k (appC (Jko c.args.toList f) cap) h) (fun id=>call.rd id (Jko c.args.toList f) h) (.no 37))
 (fun _ _ _ _ _ _ _=> .no 38) (fun b P _ c f h=>ke b P c.argTypes.toList (Jko c.args.toList f) h)
def vk(call:CallF)(c:Call)(f:Fr)(h:Hp):Res:=Jz1 c.callee P call c f h
theorem Jhw(call:CallF):vk P call=Q9 P call:=by
 funext c f h;unfold vk Q9
 cases hc:c.callee with
 | value x=>
  show asFn (opdC x f) _ _ _=_
  simp only [Z4,Jfa,Juw]
  cases opd f x <;> try rfl
  rename_i k cap
  show J0j (call.ex k) P call k _ h=Nat.rec (motive:=fun _=>Res) (call.run k _ h) (fun m _=>Jdx P k (Nat.succ m) _ h) (call.ex k)
  cases call.ex k <;> rfl
 | invoke r m=>rfl
 | builtin b=>show ke b P _ _ h=_;rw [Jcl,Jfa]
def J0h(call:CallF)(op:Op):Fr→Hp→Res:=
 Op.rec (motive:=fun _=>Fr→Hp→Res) Jby Jby zi (Ja7 P) (Jc6) (Vx P) (Ym P) (Y4 P)
  (Qi P) (Qn P) (fun _ _ _=> .no 102) (fun _ _ _=> .no 103) Y9 (fun op t x y _=>Jev P op t x y) (fun op _ x=>evUn op x) (ji P)
  (fun _ _ _ _=> .no 104) (Zu P) Kt (qf P) (fun _ _ _ _=> .no 107) (Y5 P) (Qj P) (Yo P) (Qx P)
  (Zw P) (Xp P) (Jak P) (Y4 P) (fun _ _ _ _ _=> .no 108) (fun _ _ _ _ _ _=> .no 109) (Vw P) (fun it st=>qn it st)
  (fun _ _ _=> .no 115) (fun x _ a ok=>Yl P x a ok) Kz (Q9 P call) (fun _ _ _=> .no 117) (fun _ _ _=> .no 118) X7 (fun _ _ _ _=> .no 120) (fun _ _ _ _ _=> .no 121) (fun _ _ _ _=> .no 122) op
def xOpF:Op→Program→CallF→Fr→Hp→Res:=
 Op.rec (motive:=fun _=>Program→CallF→Fr→Hp→Res) (fun x _ _=>Jl4 x) (fun x _ _=>Jl4 x) (fun c a b _ _=>Jod c a b) (fun e P _=>Ja7 P e) (fun e x _ _=>xBox e x) (fun t ps P _=>Vx P t ps) (fun t n ps P _=>Ym P t n ps) (fun t m k x P _=>Y4 P t m k x) (fun t a P _=>Jpm P t a) (fun t a x P _=>Jfy P t a x) (fun _ _ _ _ _=> .no 102) (fun _ _ _ _ _=> .no 103) (fun x _ _=>V0 x) (fun op t x y _ P _=>xBin P op t x y) (fun op _ x _ _=>xUn op x) (fun s d x P _=>Joe P s d x) (fun _ _ _ _ _ _=> .no 104) (fun t x P _=>Zu P t x) (fun fn a b _ _=>Kt fn a b) (fun t r P _=>qf P t r) (fun _ _ _ _ _ _=> .no 107) (fun t l c P _=>Y5 P t l c) (fun t x lo hi mx P _=>Jfd P t x lo hi mx) (fun s x i P _=>Q4 P s x i) (fun s x i P _=>Jgw P s x i) (fun t x i P _=>Q6 P t x i) (fun t x i P _=>Jgy P t x i) (fun t x i ok P _=>Jak P t x i ok) (fun t m k x P _=>Y4 P t m k x) (fun _ _ _ _ _ _ _=> .no 108) (fun _ _ _ _ _ _ _ _=> .no 109) (fun t x P _=>Vw P t x) (fun it st _ _=>qn it st) (fun _ _ _ _ _=> .no 115) (fun x _ a ok P _=>Yl P x a ok) (fun x i _ _=>yi x i) (fun c P call=>vk P call c) (fun _ _ _ _ _=> .no 117) (fun _ _ _ _ _=> .no 118) (fun x _ _=>X7 x) (fun _ _ _ _ _ _=> .no 120) (fun _ _ _ _ _ _ _=> .no 121) (fun _ _ _ _ _ _=> .no 122)
def evOp(call:CallF)(op:Op):Fr→Hp→Res:=xOpF op P call
theorem jp(call:CallF)(op:Op):evOp P call op=J0h P call op:=by
 cases op
 all_goals first
  | rfl
  | exact Jfh ▸ rfl
  | (funext f h;show Jl4 _ f h=_;rw [Jfh];rfl)
  | (funext f h;show Jod _ _ _ f h=_;rw [Jnu];rfl)
  | (funext f h;show xBox _ _ f h=_;rw [Ju4];rfl)
  | (funext f h;show Jpm P _ _ f h=_;rw [Jol];rfl)
  | (funext f h;show Jfy P _ _ _ f h=_;rw [Ji4];rfl)
  | (funext f h;show V0 _ f h=_;rw [Jci];rfl)
  | (funext f h;show xBin P _ _ _ _ f h=_;rw [Jum];rfl)
  | (funext f h;show xUn _ _ f h=_;rw [Jxm];rfl)
  | (funext f h;show Joe P _ _ _ f h=_;rw [Jpx];rfl)
  | (funext f h;show Jfd P _ _ _ _ _ f h=_;rw [Jju];rfl)
  | (funext f h;show Q4 P _ _ _ f h=_;rw [Jaz];rfl)
  | (funext f h;show Jgw P _ _ _ f h=_;rw [Jlp];rfl)
  | (funext f h;show Q6 P _ _ _ f h=_;rw [Jaq];rfl)
  | (funext f h;show Jgy P _ _ _ f h=_;rw [Jkq];rfl)
  | (funext f h;show yi _ _ f h=_;rw [Jdq];rfl)
  | (funext f h;show vk P call _ f h=_;rw [Jhw];rfl)
def setO(n:Nat)(d:Option Tmp)(v:AV)(f:Fr)(k:Fr→Out):Out:=
 Option.rec (k f) (fun t=>Bool.rec (.no 40) (k (setF t v f)) (Nat.blt t n)) d
def vd{α:Type}(ops:Array Oper)(g:Option (Nat × Bool))(f:Fr)(yes no:α)(bad:α):α:=
 Option.rec yes (fun p=>match (ops[p.1]?).bind (·.dst) with
  | some d=>(match opd f (.tmp d) with
   | .b c=>Bool.rec no yes (c == p.2)
   | .tp []=>no
   | _=>bad)
  | none=>bad) g
def Je7:Op→Bool
 | .panic _=>true
 | .call {callee:= .value _,..}=>true
 | _=>false
def loB(n:Nat):Option Tmp→Bool
 | none=>true
 | some t=>Nat.blt t n
def jo(call:CallF)(n:Nat)(ops:Array Oper)(l:List Oper):Fr→Hp→Out:=
 List.rec Out.nx (fun o _ ih f h=>vd ops o.guard f (Res.rec (fun v h'=>setO n o.dst v f fun f'=>ih f' h') Out.no (fun v h'=>Bool.rec (.no 61) (.pn v f h') (Je7 o.op && loB n o.dst)) (evOp P call o.op f h)) (setO n o.dst (.tp []) f fun f'=>ih f' h) (.no 41)) l
def stO:Option Tmp→AV→Nat→Fr→Hp→(Fr→Hp→Out)→Out:=Option.rec (fun _ _ f h k=>k f h) (fun t v n f h k=>Bool.rec (.no 40) (k (setF t v f) h) (Nat.blt t n))
theorem Jqy(d:Option Tmp)(v:AV)(n:Nat)(f:Fr)(h:Hp)(k:Fr→Hp→Out):stO d v n f h k=setO n d v f fun f'=>k f' h:=by cases d <;> rfl
def stR:Res→Oper→Nat→Fr→(Fr→Hp→Out)→Out:=Res.rec (fun v h o n f k=>stO o.dst v n f h k) (fun m _ _ _ _=> .no m) (fun v h o n f _=>Bool.rec (.no 61) (.pn v f h) (Je7 o.op && loB n o.dst))
def xOps:List Oper→Program→CallF→Nat→Array Oper→Fr→Hp→Out:=List.rec (fun _ _ _ _ f h=> .nx f h)
 (fun o _ ih P call n ops f h=>Option.rec (motive:=fun _=>Out) (stR (evOp P call o.op f h) o n f (ih P call n ops))
  (fun p=>vd ops (some p) f (stR (evOp P call o.op f h) o n f (ih P call n ops)) (stO o.dst (.tp []) n f h (ih P call n ops)) (.no 41)) o.guard)
theorem Ju6(call:CallF)(n:Nat)(ops:Array Oper)(l:List Oper):xOps l P call n ops=jo P call n ops l:=by
 induction l with
 | nil=>rfl
 | cons o l ih=>
  funext f h
  have e0:jo P call n ops (o::l) f h=vd ops o.guard f (Res.rec (fun v h'=>setO n o.dst v f fun f'=>jo P call n ops l f' h') Out.no (fun v h'=>Bool.rec (.no 61) (.pn v f h') (Je7 o.op && loB n o.dst)) (evOp P call o.op f h)) (setO n o.dst (.tp []) f fun f'=>jo P call n ops l f' h) (.no 41):=rfl;have e1:xOps (o::l) P call n ops f h=Option.rec (motive:=fun _=>Out) (stR (evOp P call o.op f h) o n f (xOps l P call n ops))
   (fun p=>vd ops (some p) f (stR (evOp P call o.op f h) o n f (xOps l P call n ops)) (stO o.dst (.tp []) n f h (xOps l P call n ops)) (.no 41)) o.guard:=rfl
  have e2:stR (evOp P call o.op f h) o n f (jo P call n ops l)=Res.rec (fun v h'=>setO n o.dst v f fun f'=>jo P call n ops l f' h') Out.no (fun v h'=>Bool.rec (.no 61) (.pn v f h') (Je7 o.op && loB n o.dst)) (evOp P call o.op f h):=by
   cases evOp P call o.op f h
   ·exact Jqy ..
   ·rfl
   ·rfl
  rw [e0,e1,ih,e2,Jqy]
  cases o.guard <;> rfl
def snoc{α:Type}(l:List α)(x:α):List α:=List.rec [x] (fun a _ ih=>a::ih) l
def tb(m j:Nat):Bool:=Nat.beq (Nat.land (Nat.shiftRight m j) 1) 1
def edgM(acc:List Nat)(l:List Edge)(s:Nat):Nat:=
 List.rec s (fun e _ ih=>Bool.rec ih (fz (Nat.lor (Nat.lor ih (Nat.pow 2 e.on)) ((nth acc e.on).getD 0)) fun x=>x) (Region.binds .any e)) l
def ancM(l:List Oper):List Nat→List Nat:=List.rec (fun acc=>acc) (fun o _ ih acc=>fz (edgM acc o.after.toList 0) fun m=>ih (snoc acc m)) l
def kt(l:List Operand):List Nat:=List.rec [] (fun o _ ih=>Operand.casesOn o (fun t=>t::ih) (fun _=>ih) (fun _=>ih) (fun _=>ih)) l
def allB{α:Type}(p:α→Bool)(l:List α):Bool:=List.rec true (fun a _ ih=>Bool.rec false ih (p a)) l
inductive Kd | pure | read | quiet | move
def kdOf(P:Program):Op→Kd
 | .convert s d _=>(match cvKd P s d with | 0=> .pure | 1=> .read | 2=> .quiet | _=> .move)
 | .slice t .. =>bif k5 P t then .read else .pure
 | .move _ | .assign _ | .pick .. | .build .. | .nilCheck _ | .binOp .. | .unOp .. | .fieldAddr .. | .field .. | .index .. | .indexAddr .. | .extract .. | .makeFunc .. | .makeInterface .. | .typeAssert .. => .pure
 | .call {callee:= .builtin .len,argTypes:=ts,..}=>bif Jax P ts.toList then .read else .pure
 | .call {callee:= .builtin .min,..}=> .pure
 | .call {callee:= .builtin .max,..}=> .pure
 | .load .. | .lookup .. => .read
 | .makeMap .. => .quiet
 | .alloc _ | .box .. | .buildSlice .. | .makeSlice .. => .quiet
 | _=> .move
def Y0:Kd→Bool | .move=>true | _=>false
def Jfj:Kd→Bool | .read=>true | _=>false
def movM(l:List Oper):Nat→Nat:=List.rec (fun _=>0) (fun o _ ih k=>Bool.rec (ih (Nat.succ k)) (Nat.lor (Nat.pow 2 k) (ih (Nat.succ k))) (Y0 (kdOf P o.op))) l
def Jcd(mv:Nat)(l:List Nat):Nat→Bool:=List.rec (fun _=>true) (fun a _ ih k=>
 Bool.rec (ih (Nat.succ k)) (Bool.rec false (ih (Nat.succ k)) (Nat.beq (Nat.land (Nat.land mv (Nat.sub (Nat.pow 2 k) 1)) a) (Nat.land mv (Nat.sub (Nat.pow 2 k) 1)))) (tb mv k)) l
def dsts(l:List Oper):Nat→List (Nat × Nat):=List.rec (fun _=>[]) (fun o _ ih k=>Option.rec (ih (Nat.succ k)) (fun d=>(d,k)::ih (Nat.succ k)) o.dst) l
def Jf3(ms:List Nat)(ds:List (Nat × Nat))(m k:Nat)(t:Nat):Bool:=allB (fun p:Nat × Nat=>Bool.rec true (Bool.rec (tb ((nth ms p.2).getD 0) k) true (tb m p.2)) (Nat.beq p.1 t)) ds
def nodB(n:Nat)(l:List (Nat × Nat)):Nat→Bool:=List.rec (fun _=>true) (fun p _ ih s=>Bool.rec false (Bool.rec (ih (Nat.lor s (Nat.pow 2 p.1))) false (tb s p.1)) (Nat.blt p.1 n)) l
def gdOk(ops:Array Oper)(a:Nat)(g:Option (Nat × Bool)):Bool:=Option.rec true (fun p=>tb a p.1) g
def Jvr(ops:Array Oper)(all:List Nat)(ds:List (Nat × Nat))(l:List Oper):List Nat→Nat→Bool:=List.rec (fun _ _=>true) (fun o _ ih ms k=>List.rec false (fun a ms' _=>
  Bool.rec false (ih ms' (Nat.succ k)) (allB (Jf3 all ds a k) (kt o.op.operands.toList) && gdOk ops a o.guard && allB (fun e=>Bool.rec true (Nat.blt e.on k) (Region.binds .any e)) o.after.toList)) ms) l
def Jpw(n:Nat)(ops:Array Oper)(ms:List Nat):Bool:=
 Jvr ops ms (dsts ops.toList 0) ops.toList ms 0 && nodB n (dsts ops.toList 0) 0 && Jcd (movM P ops.toList 0) ms 0
def loM(mv a:Nat)(l:List Nat):Nat→Nat:=List.rec (fun _=>0) (fun _ _ ih k=>Bool.rec (ih (Nat.succ k)) (Nat.succ (ih (Nat.succ k))) (tb (Nat.land mv a) k)) l
def hiM(mv i:Nat)(l:List Nat):Nat→Nat:=List.rec (fun _=>0) (fun b _ ih k=>Bool.rec (ih (Nat.succ k)) (Bool.rec (Nat.succ (ih (Nat.succ k))) (ih (Nat.succ k)) (tb b i)) (tb mv k)) l
def winM(mv:Nat)(ms:List Nat)(l:List Oper):List Nat→Nat→List (Nat × Oper × Nat × Nat × Nat):=List.rec (fun _ _=>[]) (fun o _ ih m k=>List.rec [] (fun a m' _=>
 Bool.rec (ih m' (Nat.succ k)) (Bool.rec ((k,o,a,loM mv a ms 0,hiM mv k ms 0)::ih m' (Nat.succ k)) (ih m' (Nat.succ k)) (Nat.beq (loM mv a ms 0) (hiM mv k ms 0))) (Jfj (kdOf P o.op))) m) l
def Ju7(a b:Option Nat):Bool:=match a,b with
 | none,none=>true
 | some x,some y=>Nat.beq x y
 | _,_=>false
def avEq(a b:AV):Bool:=match a,b with
 | .b x,.b y=>x == y
 | .i k x,.i k' y=>ikEq k k' && ieq x y
 | .s x,.s y=>leqL x y
 | .np,.np=>true
 | .p i o,.p j q=>Nat.beq i j && Nat.beq o q
 | .ns,.ns=>true
 | .sl i o n z c,.sl j q m y d=>Nat.beq i j && Nat.beq o q && Nat.beq n m && Nat.beq z y && Ju7 c d
 | .nf,.nf=>true
 | .nif,.nif=>true
 | _,_=>false
def Jrw(a:List AV):List AV→Bool:=List.rec (fun b=>List.rec true (fun _ _ _=>false) b) (fun x _ ih b=>List.rec false (fun y t _=>Bool.rec false (ih t) (avEq x y)) b) a
def Jkj(a b:AV):Bool:=match a,b with
 | .ag l,.ag m=>Jrw l m
 | x,y=>avEq x y
abbrev QT:=List (Nat × Nat × Option Blk)
def Z7(qt:QT)(a fl:Nat)(t:T5 (Option Blk)):T5 (Option Blk):=
 List.rec t (fun p _ ih=>Bool.rec ih (Bool.rec (set5 p.2.1 p.2.2 ih) ih (tb fl p.1)) (tb a p.1)) qt
def winK(call:CallF)(n:Nat)(qt:QT)(a:Nat)(f:Fr)(o:Oper)(v:AV)(l:List (Hp × Nat))(k:Out):Out:=
 List.rec k (fun h _ ih=>Res.rec (fun v' _=>Bool.rec (.no 61) ih (Jkj v v')) Out.no (fun _ _=> .no 60) (evOp P call o.op f ⟨Z7 qt a h.2 h.1.t,n⟩)) l
def Jdn(rs:List (Nat × Fr × AV))(k:Nat):Option (Fr × AV):=List.rec none (fun p _ ih=>Bool.rec ih (some p.2) (Nat.beq p.1 k)) rs
def Jhx(call:CallF)(n:Nat)(qt:QT)(rs:List (Nat × Fr × AV))(hs:List (Hp × Nat))(k:Out)(l:List (Nat × Oper × Nat × Nat × Nat)):Out:=
 List.rec k (fun p _ ih=>Option.rec ih (fun r=>winK P call n qt p.2.2.1 r.1 p.2.1 r.2 (tk (dr hs p.2.2.2.1) (Nat.succ (Nat.sub p.2.2.2.2 p.2.2.2.1))) ih) (Jdn rs p.1)) l
structure DS where
 f:Fr
 h:Hp
 fl:Nat
 qt:QT
 hs:List (Hp × Nat)
 rs:List (Nat × Fr × AV)
def Jmk(call:CallF)(i a:Nat)(o:Oper)(s:DS)(k:AV→DS→Out):Out:=
 Kd.rec (Res.rec (fun v _=>k v s) Out.no (fun _ _=> .no 60) (evOp P call o.op s.f s.h))
  (Res.rec (fun v _=>k v ⟨s.f,s.h,s.fl,s.qt,s.hs,(i,s.f,v)::s.rs⟩) Out.no (fun _ _=> .no 60) (evOp P call o.op s.f ⟨Z7 s.qt a s.fl s.h.t,s.h.n⟩))
  (Res.rec (fun v h'=>k v ⟨s.f,⟨s.h.t,h'.n⟩,s.fl,(i,s.h.n,get5 s.h.n h'.t)::s.qt,s.hs,s.rs⟩) Out.no (fun _ _=> .no 60) (evOp P call o.op s.f s.h))
  (Res.rec (fun v h'=>fz (Nat.lor s.fl a) fun fl=>k v ⟨s.f,h',fl,s.qt,snoc s.hs (h',fl),s.rs⟩) Out.no (fun _ _=> .no 60) (evOp P call o.op s.f ⟨Z7 s.qt a s.fl s.h.t,s.h.n⟩)) (kdOf P o.op)
def xOneF:Kd→Program→CallF→Nat→Nat→Oper→DS→(AV→DS→Out)→Out:=Kd.rec
 (fun P call _ _ o s k=>Res.rec (fun v _=>k v s) Out.no (fun _ _=> .no 60) (evOp P call o.op s.f s.h))
 (fun P call i a o s k=>Res.rec (fun v _=>k v ⟨s.f,s.h,s.fl,s.qt,s.hs,(i,s.f,v)::s.rs⟩) Out.no (fun _ _=> .no 60) (evOp P call o.op s.f ⟨Z7 s.qt a s.fl s.h.t,s.h.n⟩))
 (fun P call i _ o s k=>Res.rec (fun v h'=>k v ⟨s.f,⟨s.h.t,h'.n⟩,s.fl,(i,s.h.n,get5 s.h.n h'.t)::s.qt,s.hs,s.rs⟩) Out.no (fun _ _=> .no 60) (evOp P call o.op s.f s.h))
 (fun P call _ a o s k=>Res.rec (fun v h'=>fz (Nat.lor s.fl a) fun fl=>k v ⟨s.f,h',fl,s.qt,snoc s.hs (h',fl),s.rs⟩) Out.no (fun _ _=> .no 60) (evOp P call o.op s.f ⟨Z7 s.qt a s.fl s.h.t,s.h.n⟩))
def Jhn(call:CallF)(i a:Nat)(o:Oper)(s:DS)(k:AV→DS→Out):Out:=xOneF (kdOf P o.op) P call i a o s k
theorem Jpn(call:CallF)(i a:Nat)(o:Oper)(s:DS)(k:AV→DS→Out):Jhn P call i a o s k=Jmk P call i a o s k:=by
 unfold Jhn Jmk;cases kdOf P o.op <;> rfl
def Jbz(call:CallF)(n:Nat)(ops:Array Oper)(l:List Oper):Nat→List Nat→DS→(DS→Out)→Out:=
 List.rec (fun _ _ s k=>k s) (fun o _ ih i ms s k=>List.rec (.no 42) (fun a ms' _=>
  vd ops o.guard s.f
   (Jhn P call i a o s fun v s'=>setO n o.dst v s'.f fun f'=>ih (Nat.succ i) ms' ⟨f',s'.h,s'.fl,s'.qt,s'.hs,s'.rs⟩ k)
   (setO n o.dst (.tp []) s.f fun f'=>ih (Nat.succ i) ms' ⟨f',s.h,s.fl,s.qt,Bool.rec s.hs (snoc s.hs (s.h,s.fl)) (Y0 (kdOf P o.op)),s.rs⟩ k) (.no 42)) ms) l
def Jjx(call:CallF)(n:Nat)(ops:Array Oper)(f:Fr)(h:Hp):Out:=
 Bool.rec (.no 43) (Jbz P call n ops ops.toList 0 (ancM ops.toList []) ⟨f,h,0,[],[(h,0)],[]⟩ fun s=>
  Jhx P call s.h.n s.qt s.rs s.hs (.nx s.f ⟨Z7 s.qt (Nat.sub (Nat.pow 2 ops.size) 1) s.fl s.h.t,s.h.n⟩) (winM P (movM P ops.toList 0) (ancM ops.toList []) ops.toList (ancM ops.toList []) 0)) (Jpw P n ops (ancM ops.toList []))
def yb(call:CallF)(n:Nat)(ops:Array Oper)(draw:Bool):Fr→Hp→Out:=
 Bool.rec (xOps ops.toList P call n ops) (Jjx P call n ops) draw
theorem ky(call:CallF)(n:Nat)(ops:Array Oper):yb P call n ops false=jo P call n ops ops.toList:=Ju6 ..
def sq(o:Out)(k:Fr→Hp→Out):Out:=Out.rec k Out.ex Out.rt Out.no Out.pn o
def blkO(id:Nat)(o:Out):Out:=Out.rec Out.nx (fun i f h=>Bool.rec (.ex i f h) (.nx f h) (Nat.beq i id)) Out.rt Out.no Out.pn o
def iter(n:Nat)(b:Fr→Hp→Out):Fr→Hp→Out:=Nat.rec (fun _ _=> .no 44) (fun _ ih f h=>sq (b f h) ih) n
def Jj5(c:Operand)(a b:Fr→Hp→Out)(f:Fr)(h:Hp):Out:=match opd f c with
 | .b t=>Bool.rec (b f h) (a f h) t
 | _=> .no 45
def Xm(call:CallF)(n:Nat)(c:Code):Fr→Hp→Out:=
 Code.rec (motive:=fun _=>Fr→Hp→Out) Out.nx (fun _ ops draw=>yb P call n ops draw) (fun _ _ a b f h=>sq (a f h) b) (fun c _ _ a b=>Jj5 c a b)
  (fun id _ b f h=>blkO id (b f h)) (fun _ b=>iter 1000000 b) (fun _ _ _ _ _ _ _ _=> .no 84) (fun id f h=> .ex id f h) (fun _ b=>b) (fun _=>Out.nx) (fun _ _ _=> .no 49) Out.rt (fun _ _ _=> .no 50) c
def lpB(busy:Bool)(n:Nat)(ps:List Tmp)(a b:Code)(f:TF AV):Blk:=⟨0,true,false,[],.lp busy n ps a b f⟩
def Ji8(call:CallF)(id:Nat)(args:List AV)(h:Hp):Res:=(fun(_:Program)=> .no 99) P
def rngOf(c:Code):Option (Code × Nat × Operand × List Tmp × Code × Code):=match c with
 | .seq u (.block id (.rangeFunc g ps a b))=>some (u,id,g,ps.toList,a,b)
 | _=>none
def Jyz(c:Code):Option (List Code × (Code × Nat × Operand × List Tmp × Code × Code) × Code):=none
def Jp9(call:CallF)(n:Nat)(l:List Code):Fr→Hp→(Fr→Hp→Res)→Res:=
 List.rec (fun f h k=>k f h) (fun c _ ih f h k=>Out.rec (fun f h=>ih f h k) (fun _ _ _=> .no 87) (fun _ _=> .no 87) Res.no (fun _ _ _=> .no 87) (Xm P call n c f h)) l
def Xi(l:List AV):Nat→Fr:=List.rec (fun _=>Jot .u) (fun a _ ih i=>setF i a (ih (Nat.succ i))) l
def resA(f:Fr)(h:Hp)(r:ResultVar)(k:AV→Res):Res:=match r with
 | .tmp t=>k (opd f (.tmp t))
 | .cell p t=>Res.rec (fun v _=>k v) Res.no (fun _ _=> .no 60) (Qi P t (.tmp p) f h)
def resL(f:Fr)(h:Hp)(l:List ResultVar):(List AV→Res)→Res:=List.rec (fun k=>k []) (fun r _ ih k=>resA P f h r fun v=>ih fun vs=>k (v::vs)) l
def finR(f:Fr)(h:Hp)(l:List ResultVar):Res:=resL P f h l fun vs=>List.rec (.ok (.tp []) h) (fun v r _=>List.rec (.ok v h) (fun _ _ _=> .ok (.tp vs) h) r) vs
def Jfq(call:CallF)(n:Nat)(c:Code)(rs:List ResultVar)(f:Fr)(h:Hp):Res:=
 Out.rec (fun f h=>finR P f h rs) (fun _ _ _=> .no 53) (fun f h=>finR P f h rs) Res.no (fun v _ h=> .pn v h) (Xm P call n c f h)
def Jl5(c:Code):Option (Code × Tmp × FuncId × List Operand × Code):=match c with
 | .seq a (.seq (.region _ ops false) b)=>(match ops.toList with
  | [⟨some t,.makeFunc (.func k) first caps,_,_,_,none⟩,⟨none,.defer ⟨.value (.tmp u),args,_⟩,_,_,_,none⟩]=>(match first.toList,args.toList with
   | [],[]=>bif Nat.beq t u then some (a,t,k,caps.toList,b) else none
   | _,_=>none)
  | _=>none)
 | _=>none
def Jk8(c:Code):Option (Tmp × Tmp × Code):=match c with
 | .seq (.region _ ops false) b=>(match ops.toList with
  | [⟨some t,.call ⟨.builtin .recover,args,_⟩,_,_,_,none⟩,⟨some u,.assign (.tmp v),_,_,_,none⟩]=>(match args.toList with
   | []=>bif Nat.beq t v then some (t,u,b) else none
   | _=>none)
  | _=>none)
 | _=>none
def nilB{α:Type}:List α→Bool
 | []=>true
 | _=>false
def Jh4(call:CallF)(k:FuncId)(args:List AV)(p:AV)(h:Hp)(q:Hp→Res):Res:=match P.funcs[k]? with
 | none=> .no 55
 | some fn=>(match fn.body with
  | none=> .no 55
  | some c=>(match Jk8 c with
   | none=> .no 55
   | some s=>Bool.rec (.no 55) (Out.rec (fun _ h=>q h) (fun _ _ _=> .no 55) (fun _ h=>q h) Res.no (fun _ _ _=> .no 55) (Xm P call fn.ntmps s.2.2 (setF s.2.1 p (setF s.1 p (Xi args 0))) h))
    (Nat.ble fn.ntmps 4096 && Nat.ble (len args) fn.ntmps && Nat.blt s.1 fn.ntmps && Nat.blt s.2.1 fn.ntmps && nilB fn.results.toList && !(fn.name == "runtime.NumGoroutine"))))
def vo(call:CallF)(n:Nat)(t:Tmp)(k:FuncId)(caps:List Operand)(b:Code)(rs:List ResultVar)(f:Fr)(h:Hp):Res:=
 Bool.rec (.no 56) (Out.rec (fun f1 h=>Jh4 P call k (opds f caps) .nif h fun h=>finR P f1 h rs) (fun _ _ _=> .no 53) (fun f1 h=>Jh4 P call k (opds f caps) .nif h fun h=>finR P f1 h rs) Res.no
  (fun v f1 h=>Jh4 P call k (opds f caps) v h fun h=>finR P f1 h rs) (Xm P call n b (setF t (.fn k (opds f caps)) f) h)) (Nat.blt t n)
def evFor(call:CallF)(n:Nat)(g:Operand)(ps:List Tmp)(a b rest:Code)(rs:List ResultVar)(f:Fr)(h:Hp):Res:=match opd f g with
 | .fn k cap=>newB h (lpB false n ps a b f) fun id h2=>Res.rec (fun _ h3=>getL h3 id (fun busy _ _ _ _ _=>Bool.rec (Jfq P call n rest rs f (putB h3 id none)) (.no 86) busy) (.no 86)) Res.no (fun _ _=> .no 86) (call.run k (.yv id::cap) h2)
 | _=> .no 85
def Jqc(call:CallF)(n:Nat)(c:Code)(rs:List ResultVar)(f:Fr)(h:Hp):Res:=match Jl5 c with
 | none=>(match Jyz c with
  | none=>Jfq P call n c rs f h
  | some s=>Jp9 P call n s.1 f h fun f h=>Jp9 P call n [s.2.1.1] f h fun f h=>evFor P call n s.2.1.2.2.1 s.2.1.2.2.2.1 s.2.1.2.2.2.2.1 s.2.1.2.2.2.2.2 s.2.2 rs f h)
 | some s=>Out.rec (vo P call n s.2.1 s.2.2.1 s.2.2.2.1 s.2.2.2.2 rs) (fun _ _ _=> .no 53) (fun _ _=> .no 53) Res.no (fun _ _ _=> .no 53) (Xm P call n s.1 f h)
def Jps(call:CallF)(k:FuncId)(args:List AV)(h:Hp):Res:=match P.funcs[k]? with
 | none=> .no 51
 | some fn=>match fn.body with
  | none=> .no 1000
  | some c=>Bool.rec (.no 52) (Jqc P call fn.ntmps c fn.results.toList (Xi args 0) h)
    (Nat.ble fn.ntmps 4096 && Nat.ble (len args) fn.ntmps && !(fn.name == "runtime.NumGoroutine"))
abbrev Prim:=FuncId→Option (List AV→Hp→Res)
def Ja4(pr:Prim)(ex:FuncId→Nat)(n:Nat):CallF:=Nat.rec ⟨fun _ _ _=> .no 54,ex,fun _ _ _=> .no 54⟩
 (fun _ ih=>⟨fun k args h=>Option.rec (Jps P ih k args h) (fun p=>p args h) (pr k),ex,Ji8 P ih⟩) n
def Jk4(pr:Prim)(ex:FuncId→Nat)(n:Nat):FuncId→List AV→Hp→Res:=(Ja4 P pr ex n).run
end
theorem noOk{C:Prop}{n:Nat}{v:AV}{h:Hp}(e:Res.no n= .ok v h):C:=by cases e
end Go.Ev
namespace Go.Ev
open Go Go.Wf
structure Ent where
 g:Nat
 base:Nat
 k:Nat
inductive Lab | out | ro | own (id:Nat)
abbrev Phi:=Nat→Option Ent
abbrev Tau:=Nat→Lab
def Jm8(cap:Option Nat)(c:Nat):Prop:=match cap with | none=>True | some k=>c=k
mutual
def Rv(Φ:Phi):AV→Value→Prop
 | .u,_=>True
 | .b x,v=>v= .bool x
 | .i k n,v=>v= .int k n
 | .s l,v=>(∀ n ∈ l,n < 256)∧v=str (l.map UInt8.ofNat)
 | .np,v=>v= .pointer none
 | .p id off,v=>∃ e,Φ id=some e∧v= .pointer (some ⟨e.g,e.base+off,none⟩)
 | .ns,v=>v= .slice none 0 0
 | .sl id off n z cap,v=>∃ e c,Φ id=some e∧v= .slice (some ⟨e.g,e.base+off,none⟩) n c∧n≤c∧c≤maxLen∧off+c * z≤e.k∧Jm8 cap c
 | .z0,v=>∃ a c,v= .slice a 0 c
 | .ag l,v=>∃ vs:List Value,v= .agg vs.toArray∧RvL Φ l vs
 | .tp l,v=>∃ vs:List Value,v= .tuple vs.toArray∧RvL Φ l vs
 | .fn k cap,v=>∃ vs:List Value,v= .func (.func k) #[] vs.toArray∧RvL Φ cap vs
 | .nf,v=>v= .nilFunc
 | .ifc t a,v=>∃ x,v= .iface t x∧Rv Φ a x
 | .nif,v=>v= .nilIface
 | .mp id,v=>∃ e,Φ id=some e∧v= .map (some e.g)
 | .nm,v=>v= .map none
 | .yv id,v=>∃ e,Φ id=some e∧v= .func (.yield e.g) #[] #[]
 | .gp g off,v=>v= .pointer (some ⟨g,off,none⟩)
def RvL(Φ:Phi):List AV→List Value→Prop
 | [],vs=>vs=[]
 | a::l,vs=>∃ v r,vs=v::r∧Rv Φ a v∧RvL Φ l r
end
def Sub(Φ Φ':Phi):Prop:=∀ id e,Φ id=some e→Φ' id=some e
theorem Sub.refl(Φ:Phi):Sub Φ Φ:=fun _ _ h=>h
theorem Sub.trans{Φ Ψ Χ:Phi}(a:Sub Φ Ψ)(b:Sub Ψ Χ):Sub Φ Χ:=fun id e h=>b id e (a id e h)
mutual
theorem Rv.mono{Φ Φ':Phi}(s:Sub Φ Φ'):∀ (a:AV) (v:Value),Rv Φ a v→Rv Φ' a v
 | .u,_,_=>by simp only [Rv]
 | .b _,_,h=>by simp only [Rv] at h ⊢;exact h
 | .i _ _,_,h=>by simp only [Rv] at h ⊢;exact h
 | .s _,_,h=>by simp only [Rv] at h ⊢;exact h
 | .np,_,h=>by simp only [Rv] at h ⊢;exact h
 | .p _ _,_,h=>by simp only [Rv] at h ⊢;obtain⟨e,h1,h2⟩:=h;exact⟨e,s _ _ h1,h2⟩
 | .ns,_,h=>by simp only [Rv] at h ⊢;exact h
 | .sl _ _ _ _ _,_,h=>by simp only [Rv] at h ⊢;obtain⟨e,c,h1,h2⟩:=h;exact⟨e,c,s _ _ h1,h2⟩
 | .z0,_,h=>by simp only [Rv] at h ⊢;exact h
 | .ag l,_,h=>by simp only [Rv] at h ⊢;obtain⟨vs,h1,h2⟩:=h;exact⟨vs,h1,RvL.mono s l vs h2⟩
 | .tp l,_,h=>by simp only [Rv] at h ⊢;obtain⟨vs,h1,h2⟩:=h;exact⟨vs,h1,RvL.mono s l vs h2⟩
 | .fn _ l,_,h=>by simp only [Rv] at h ⊢;obtain⟨vs,h1,h2⟩:=h;exact⟨vs,h1,RvL.mono s l vs h2⟩
 | .nf,_,h=>by simp only [Rv] at h ⊢;exact h
 | .ifc _ a,_,h=>by simp only [Rv] at h ⊢;obtain⟨x,h1,h2⟩:=h;exact⟨x,h1,Rv.mono s a x h2⟩
 | .nif,_,h=>by simp only [Rv] at h ⊢;exact h
 | .mp _,_,h=>by simp only [Rv] at h ⊢;obtain⟨e,h1,h2⟩:=h;exact⟨e,s _ _ h1,h2⟩
 | .nm,_,h=>by simp only [Rv] at h ⊢;exact h
 | .yv _,_,h=>by simp only [Rv] at h ⊢;obtain⟨e,h1,h2⟩:=h;exact⟨e,s _ _ h1,h2⟩
 | .gp _ _,_,h=>by simp only [Rv] at h ⊢;exact h
theorem RvL.mono{Φ Φ':Phi}(s:Sub Φ Φ'):∀ (a:List AV) (v:List Value),RvL Φ a v→RvL Φ' a v
 | [],_,h=>by simp only [RvL] at h ⊢;exact h
 | a::l,_,h=>by simp only [RvL] at h ⊢;obtain⟨v,r,h1,h2,h3⟩:=h;exact⟨v,r,h1,Rv.mono s a v h2,RvL.mono s l r h3⟩
end
section
variable {Φ:Phi}
theorem RvL.len:∀ {l:List AV} {vs:List Value},RvL Φ l vs→vs.length=l.length:=by
 intro l
 induction l with
 | nil=>intro vs h;simp only [RvL] at h;subst h;rfl
 | cons a l ih=>intro vs h;simp only [RvL] at h;obtain⟨v,r,rfl,_,h⟩:=h;simp [ih h]
theorem RvL.at:∀ {l:List AV} {vs:List Value} {i:Nat} {a:AV},RvL Φ l vs→l[i]? =some a→∃ v,vs[i]? =some v∧Rv Φ a v:=by
 intro l
 induction l with
 | nil=>intro vs i a _ hi;simp at hi
 | cons x l ih=>
  intro vs i a h hi;simp only [RvL] at h;obtain⟨v,r,rfl,h1,h2⟩:=h
  cases i with
  | zero=>simp at hi;subst hi;exact⟨v,rfl,h1⟩
  | succ i=>
   obtain⟨u,hu,hr⟩:=ih (i:=i) h2 (by simpa using hi);exact⟨u,by simpa using hu,hr⟩
theorem RvL.mk:∀ {l:List AV} {vs:List Value},vs.length=l.length→(∀ (i:Nat) a v,l[i]? =some a→vs[i]? =some v→Rv Φ a v)→RvL Φ l vs:=by
 intro l
 induction l with
 | nil=>intro vs h _;simp only [RvL];exact List.eq_nil_of_length_eq_zero h
 | cons x l ih=>
  intro vs h hh
  cases vs with
  | nil=>simp at h
  | cons v r=>
   simp only [RvL];exact⟨v,r,rfl,hh 0 x v rfl rfl,ih (by simpa using h) fun i a u hi hu=>hh (i+1) a u (by simpa using hi) (by simpa using hu)⟩
theorem RvL.app{l m:List AV}{vs us:List Value}(h:RvL Φ l vs)(k:RvL Φ m us):RvL Φ (l++m) (vs++us):=by
 refine RvL.mk (by rw [List.length_append,List.length_append,h.len,k.len]) ?_;intro i a v hi hv;rw [List.getElem?_append] at hi hv;rw [h.len] at hv
 split at hi <;> rename_i hlt
 ·rw [if_pos hlt] at hv;obtain⟨u,hu,hr⟩:=h.at hi;rw [hu] at hv;cases hv;exact hr
 ·rw [if_neg hlt] at hv;obtain⟨u,hu,hr⟩:=k.at hi;rw [hu] at hv;cases hv;exact hr
theorem RvL.take{l:List AV}{vs:List Value}(h:RvL Φ l vs)(n:Nat):RvL Φ (l.take n) (vs.take n):=by
 refine RvL.mk (by rw [List.length_take,List.length_take,h.len]) ?_;intro i a v hi hv;rw [List.getElem?_take] at hi hv
 split at hi <;> rename_i hlt
 ·rw [if_pos hlt] at hv;obtain⟨u,hu,hr⟩:=h.at hi;rw [hu] at hv;cases hv;exact hr
 ·cases hi
theorem RvL.drop{l:List AV}{vs:List Value}(h:RvL Φ l vs)(n:Nat):RvL Φ (l.drop n) (vs.drop n):=by
 refine RvL.mk (by rw [List.length_drop,List.length_drop,h.len]) ?_;intro i a v hi hv;rw [List.getElem?_drop] at hi hv;obtain⟨u,hu,hr⟩:=h.at hi;rw [hu] at hv;cases hv;exact hr
theorem Rv.scal{a:AV}{v:Value}(h:Rv Φ a v)(hs:scal a=true):v.oneCell'=true:=by
 cases a <;> simp only [Rv] at h <;> first
  | (simp only [Ev.scal] at hs;done)
  | (cases hs;done)
  | (subst h;rfl)
  | (obtain⟨_,rfl⟩:=h;rfl)
  | (obtain⟨_,_,rfl⟩:=h;rfl)
  | (obtain⟨_,rfl,_⟩:=h;rfl)
  | (obtain⟨_,_,_,rfl,_⟩:=h;rfl)
end
def CR(Φ:Phi)(C:Array Value)(base:Nat)(cs:List AV):Prop:=∀ (i:Nat) a,cs[i]? =some a→∃ v,C[base+i]? =some v∧Rv Φ a v
structure BR (Φ:Phi) (τ:Tau) (w:World) (b:Blk) (e:Ent) (id:Nat) (C:Array Value) (T:TypeId):Prop where
 ent:Φ id=some e
 lab:τ e.g=if b.ro then .ro else .own id
 row:b.ob= .row
 ty:T=b.ty
 obj:∃ fr,w.heap[e.g]? =some (.cells C T fr)∧(b.ro=false→fr=(0,0))
 size:C.size=e.base+e.k
 le:b.cs.length≤e.k
 exact_:b.ex=true→e.base=0∧b.cs.length=e.k
 cr:CR Φ C e.base b.cs
def FR(Φ:Phi)(f:Fr)(F:Wf.Fr):Prop:=∀ t,t < 4096→Rv Φ (getF t f) (F t)
theorem FR.mono{Φ Φ':Phi}{f:Fr}{F:Wf.Fr}(h:FR Φ f F)(s:Sub Φ Φ'):FR Φ' f F:=fun t ht=>(h t ht).mono s
def EnR(Φ:Phi)(e:En)(m:MapEntry):Prop:=Rv Φ e.k m.key∧Rv Φ e.v m.val∧m.born=e.b
def EsR(Φ:Phi):List En→List MapEntry→Prop
 | [],ms=>ms=[]
 | e::l,ms=>∃ m r,ms=m::r∧EnR Φ e m∧EsR Φ l r
theorem EsR.mono{Φ Φ':Phi}(s:Sub Φ Φ'):∀ {l:List En} {ms:List MapEntry},EsR Φ l ms→EsR Φ' l ms:=by
 intro l
 induction l with
 | nil=>intro ms h;exact h
 | cons e l ih=>
  rintro ms ⟨m,r,h1,⟨a,b,c⟩,h2⟩;exact⟨m,r,h1,⟨a.mono s,b.mono s,c⟩,ih h2⟩
def ObR(Φ:Phi):Ob→Obj→Prop
 | .row,_=>False
 | .map es c,o=>∃ E:List MapEntry,o= .map E.toArray c∧EsR Φ es E
 | .sit l pos,o=>(∀ n ∈ l,n < 256)∧o= .stringIter ⟨(l.map UInt8.ofNat).toArray⟩ pos
 | .glb,_=>False
 | .lp ..,_=>False
 | .mit none since seen last,o=>o= .mapIter none since seen.toArray last
 | .mit (some i) since seen last,o=>∃ e,Φ i=some e∧o= .mapIter (some e.g) since seen.toArray last
theorem ObR.mono{Φ Φ':Phi}(s:Sub Φ Φ'){b:Ob}{o:Obj}(h:ObR Φ b o):ObR Φ' b o:=by
 cases b with
 | row=>exact h
 | map es c=>obtain⟨E,h1,h2⟩:=h;exact⟨E,h1,h2.mono s⟩
 | sit l pos=>exact h
 | glb=>exact h
 | lp _ _ _ _ _ _=>exact h
 | mit m since seen last=>
  cases m with
  | none=>exact h
  | some i=>obtain⟨e,h1,h2⟩:=h;exact⟨e,s _ _ h1,h2⟩
structure OR (Φ:Phi) (τ:Tau) (w:World) (b:Blk) (e:Ent) (id:Nat) (O:Obj):Prop where
 ent:Φ id=some e
 lab:τ e.g= .own id
 ro:b.ro=false
 base:e.base=0
 obj:w.heap[e.g]? =some O
 ob:ObR Φ b.ob O
structure GR (Φ:Phi) (τ:Tau) (w:World) (b:Blk) (e:Ent) (id:Nat) (C:Array Value):Prop where
 ent:Φ id=some e
 at_:e.g=id
 lab:τ e.g= .ro
 ro:b.ro=true
 glb:b.ob= .glb
 obj:∃ T fr,w.heap[e.g]? =some (.cells C T fr)
 cr:CR Φ C 0 b.cs
structure LR (Φ:Phi) (τ:Tau) (w:World) (b:Blk) (e:Ent) (id:Nat) (r:Loop):Prop where
 ent:Φ id=some e
 lab:τ e.g= .own id
 ro:b.ro=false
 obj:w.heap[e.g]? =some (.loop r)
 ob:∃ busy n ps a bb f,b.ob= .lp busy n ps a bb f∧r.state=(if busy then .busy else .ready)∧r.pending=none∧r.params.toList=ps∧r.assign=a∧r.body=bb∧r.tmps.size=n∧n≤4096∧FR Φ f fun t=>r.tmps.getD t undef
def Ko(Φ:Phi)(τ:Tau)(w:World)(id:Nat)(b:Blk):Prop:=(∃ e C T,BR Φ τ w b e id C T)∨(∃ e O,OR Φ τ w b e id O)∨(∃ e C,GR Φ τ w b e id C)∨∃ e r,LR Φ τ w b e id r
def isOb:Ob→Bool
 | .map .. | .sit .. | .mit .. =>true
 | _=>false
theorem LR.is{Φ:Phi}{τ:Tau}{w:World}{b:Blk}{e:Ent}{id:Nat}{r:Loop}(h:LR Φ τ w b e id r){o:Ob}(hb:b.ob=o)(ho:∀ a b c d e f,o≠ .lp a b c d e f):False:=by
 obtain⟨busy,n,ps,a,bb,f,h1,_⟩:=h.ob;exact ho busy n ps a bb f (hb.symm.trans h1)
theorem Ko.row{Φ:Phi}{τ:Tau}{w:World}{id:Nat}{b:Blk}(h:Ko Φ τ w id b)(hb:b.ob= .row):∃ e C T,BR Φ τ w b e id C T:=by
 rcases h with h | ⟨e,O,h⟩ | ⟨e,C,h⟩ | ⟨e,r,h⟩
 ·exact h
 ·have:=h.ob;rw [hb] at this;exact this.elim
 ·have:=h.glb;rw [hb] at this;cases this
 ·exact(h.is hb (by intros;intro hq;cases hq)).elim
theorem Ko.obj{Φ:Phi}{τ:Tau}{w:World}{id:Nat}{b:Blk}(h:Ko Φ τ w id b)(hb:isOb b.ob=true):∃ e O,OR Φ τ w b e id O:=by
 rcases h with ⟨e,C,T,h⟩ | h | ⟨e,C,h⟩ | ⟨e,r,h⟩
 ·rw [h.row] at hb;cases hb
 ·exact h
 ·rw [h.glb] at hb;cases hb
 ·obtain⟨busy,n,ps,a,bb,f,h1,_⟩:=h.ob;rw [h1] at hb;cases hb
theorem Ko.tab{Φ:Phi}{τ:Tau}{w:World}{id:Nat}{b:Blk}(h:Ko Φ τ w id b)(hb:b.ob= .glb):∃ e C,GR Φ τ w b e id C:=by
 rcases h with ⟨e,C,T,h⟩ | ⟨e,O,h⟩ | h | ⟨e,r,h⟩
 ·have:=h.row;rw [hb] at this;cases this
 ·have:=h.ob;rw [hb] at this;exact this.elim
 ·exact h
 ·exact(h.is hb (by intros;intro hq;cases hq)).elim
theorem Ko.loop{Φ:Phi}{τ:Tau}{w:World}{id:Nat}{b:Blk}(h:Ko Φ τ w id b){busy:Bool}{n:Nat}{ps:List Tmp}{a bb:Code}{f:TF AV}(hb:b.ob= .lp busy n ps a bb f):∃ e r,LR Φ τ w b e id r:=by
 rcases h with ⟨e,C,T,h⟩ | ⟨e,O,h⟩ | ⟨e,C,h⟩ | h
 ·have:=h.row;rw [hb] at this;cases this
 ·have:=h.ob;rw [hb] at this;exact this.elim
 ·have:=h.glb;rw [hb] at this;cases this
 ·exact h
theorem BR.obj0{Φ:Phi}{τ:Tau}{w:World}{b:Blk}{e:Ent}{id:Nat}{C:Array Value}{T:TypeId}(r:BR Φ τ w b e id C T)(hro:b.ro=false):w.heap[e.g]? =some (.cells C T (0,0)):=by
 obtain⟨fr,h1,h2⟩:=r.obj;rw [h2 hro] at h1;exact h1
structure Rel (Φ:Phi) (τ:Tau) (h:Hp) (w:World):Prop where
 lim:h.n≤big5
 blk:∀ id b,id < h.n→get5 id h.t=some b→Ko Φ τ w id b
 fin:∀ id,h.n≤id→id < big5→get5 id h.t=none
def Fre(Φ:Phi)(a b:Nat):Prop:=∀ id,a≤id→id < b→Φ id=none
structure Grow (h h':Hp):Prop where
 le:h.n≤h'.n
 none_:∀ id,id < big5→¬ (h.n≤id∧id < h'.n)→get5 id h.t=none→get5 id h'.t=none
 lim:h.n≤big5→h'.n≤big5
theorem Grow.refl(h:Hp):Grow h h:=⟨Nat.le_refl _,fun _ _ _ h=>h,id⟩
theorem Grow.trans{a b c:Hp}(x:Grow a b)(y:Grow b c):Grow a c:=⟨Nat.le_trans x.le y.le,fun id h0 h1 h2=>y.none_ id h0 (fun hh=>h1 ⟨Nat.le_trans x.le hh.1,hh.2⟩) (x.none_ id h0 (fun hh=>h1 ⟨hh.1,Nat.lt_of_lt_of_le hh.2 y.le⟩) h2),fun h=>y.lim (x.lim h)⟩
def Gw(h h':Hp):Prop:=h.n≤big5→Grow h h'
theorem Gw.trans{a b c:Hp}(x:Gw a b)(y:Gw b c):Gw a c:=fun h=>(x h).trans (y ((x h).lim h))
theorem Gw.refl(h:Hp):Gw h h:=fun _=>Grow.refl h
def Kp(h:Hp)(n':Nat)(l:Lab):Prop:=∀ id,l= .own id→(id < h.n→get5 id h.t=none)∧¬ (h.n≤id∧id < n')
structure Tw (Φ:Phi) (τ:Tau) (h:Hp) (w:World) (Φ':Phi) (τ':Tau) (n':Nat) (w':World):Prop where
 os:w'.os=w.os
 tape:w'.tape=w.tape
 output:w'.output=w.output
 size:w.heap.size≤w'.heap.size
 sub:Sub Φ Φ'
 same:∀ id,¬ (h.n≤id∧id < n')→Φ' id=Φ id
 keep:∀ g,g < w.heap.size→Kp h n' (τ g)→w'.heap[g]? =w.heap[g]? ∧τ' g=τ g
section
variable {Φ Φ' Φ'':Phi} {τ τ' τ'':Tau} {h h' h'':Hp} {w w' w'':World}
theorem Tw.refl(Φ:Phi)(τ:Tau)(h:Hp)(w:World)(n:Nat):Tw Φ τ h w Φ τ n w:=⟨rfl,rfl,rfl,Nat.le_refl _,Sub.refl _,fun _ _=>rfl,fun _ _ _=>⟨rfl,rfl⟩⟩
theorem Tw.trans{n:Nat}(a:Tw Φ τ h w Φ' τ' h'.n w')(g:Grow h h')(hn:h'.n≤n)(hb5:h'.n≤big5)(b:Tw Φ' τ' h' w' Φ'' τ'' n w''):Tw Φ τ h w Φ'' τ'' n w'':=by
 refine⟨b.os.trans a.os,b.tape.trans a.tape,b.output.trans a.output,Nat.le_trans a.size b.size,a.sub.trans b.sub,?_,?_⟩
 ·intro id hid;rw [b.same id (fun hh=>hid ⟨Nat.le_trans g.le hh.1,hh.2⟩),a.same id (fun hh=>hid ⟨hh.1,Nat.lt_of_lt_of_le hh.2 hn⟩)]
 ·intro x hx hk;obtain⟨h1,h2⟩:=a.keep x hx (fun id e=>⟨(hk id e).1,fun hh=>(hk id e).2 ⟨hh.1,Nat.lt_of_lt_of_le hh.2 hn⟩⟩);obtain⟨h3,h4⟩:=b.keep x (Nat.lt_of_lt_of_le hx a.size) (fun id e=>by
   rw [h2] at e;refine⟨fun hid=>?_,fun hh=>(hk id e).2 ⟨Nat.le_trans g.le hh.1,hh.2⟩⟩
   rcases Nat.lt_or_ge id h.n with hl | hl
   ·exact g.none_ id (by omega) (fun hh=>by omega) ((hk id e).1 hl)
   ·exact absurd ⟨hl,Nat.lt_of_lt_of_le hid hn⟩ (hk id e).2)
  exact⟨h3.trans h1,h4.trans h2⟩
theorem BR.lt{b:Blk}{e:Ent}{id:Nat}{C:Array Value}{T:TypeId}(r:BR Φ τ w b e id C T):e.g < w.heap.size:=by
 obtain⟨fr,h1,_⟩:=r.obj
 exact(Array.getElem?_eq_some_iff.1 h1).1
theorem OR.lt{b:Blk}{e:Ent}{id:Nat}{O:Obj}(r:OR Φ τ w b e id O):e.g < w.heap.size:=(Array.getElem?_eq_some_iff.1 r.obj).1
theorem CR.mono{C:Array Value}{base:Nat}{cs:List AV}(h:CR Φ C base cs)(s:Sub Φ Φ'):CR Φ' C base cs:=fun i a hi=>let ⟨v,h1,h2⟩:=h i a hi;⟨v,h1,h2.mono s⟩
theorem BR.kept{b:Blk}{e:Ent}{id:Nat}{C:Array Value}{T:TypeId}(r:BR Φ τ w b e id C T)(s:Sub Φ Φ')(ho:w'.heap[e.g]? =w.heap[e.g]?)(hl:τ' e.g=τ e.g):BR Φ' τ' w' b e id C T:=
 ⟨s _ _ r.ent,hl.trans r.lab,r.row,r.ty,(by obtain⟨fr,h1,h2⟩:=r.obj;exact⟨fr,ho.trans h1,h2⟩),r.size,r.le,r.exact_,r.cr.mono s⟩
theorem OR.kept{b:Blk}{e:Ent}{id:Nat}{O:Obj}(r:OR Φ τ w b e id O)(s:Sub Φ Φ')(ho:w'.heap[e.g]? =w.heap[e.g]?)(hl:τ' e.g=τ e.g):OR Φ' τ' w' b e id O:=
 ⟨s _ _ r.ent,hl.trans r.lab,r.ro,r.base,ho.trans r.obj,r.ob.mono s⟩
theorem Ko.at_{b:Blk}{id:Nat}(r:Ko Φ τ w id b):∃ e,Φ id=some e∧e.g < w.heap.size∧(τ e.g=if b.ro then .ro else .own id)∧
  ∀ {Φ':Phi} {τ':Tau} {w':World},Sub Φ Φ'→w'.heap[e.g]? =w.heap[e.g]? →τ' e.g=τ e.g→Ko Φ' τ' w' id b:=by
 rcases r with ⟨e,C,T,r⟩ | ⟨e,O,r⟩ | ⟨e,C,r⟩ | ⟨e,l,r⟩
 ·exact⟨e,r.ent,r.lt,r.lab,fun s ho hl=> .inl ⟨e,C,T,r.kept s ho hl⟩⟩
 ·exact⟨e,r.ent,r.lt,by rw [r.ro];exact r.lab,fun s ho hl=> .inr (.inl ⟨e,O,r.kept s ho hl⟩)⟩
 ·obtain⟨T,fr,ho⟩:=r.obj;exact⟨e,r.ent,(Array.getElem?_eq_some_iff.1 ho).1,by rw [r.ro];exact r.lab,fun s h hl=> .inr (.inr (.inl ⟨e,C,s _ _ r.ent,r.at_,hl.trans r.lab,r.ro,r.glb,⟨T,fr,h.trans ho⟩,r.cr.mono s⟩))⟩
 ·refine⟨e,r.ent,(Array.getElem?_eq_some_iff.1 r.obj).1,by rw [r.ro];exact r.lab,fun s h hl=> .inr (.inr (.inr ⟨e,l,s _ _ r.ent,hl.trans r.lab,r.ro,h.trans r.obj,?_⟩))⟩;obtain⟨busy,n,ps,a,bb,f,h1,h2,h3,h4,h5,h6,h7,h8,h9⟩:=r.ob;exact⟨busy,n,ps,a,bb,f,h1,h2,h3,h4,h5,h6,h7,h8,h9.mono s⟩
theorem Rel.kept{h:Hp}(r:Rel Φ τ h w)(s:Sub Φ Φ')(ho:∀ g,g < w.heap.size→w'.heap[g]? =w.heap[g]? ∧τ' g=τ g):Rel Φ' τ' h w':=
 ⟨r.lim,fun id b hid hb=>let ⟨e,_,hlt,_,k⟩:=(r.blk id b hid hb).at_;k s (ho _ hlt).1 (ho _ hlt).2,r.fin⟩
theorem FR.set{f:Fr}{F:Wf.Fr}{t:Nat}{a:AV}{v:Value}(h:FR Φ f F)(ht:t < 4096)(hv:Rv Φ a v):FR Φ (setF t a f) (upd F t v):=by
 intro s hs;rw [Xt _ _ _ _ hs ht];unfold upd
 by_cases e:s=t
 ·rw [if_pos e,if_pos e];exact hv
 ·rw [if_neg e,if_neg e];exact h s hs
theorem yh(v:Value):Rv Φ (cv v) v:=by
 unfold cv
 split
 ·simp only [Rv]
 ·simp only [Rv]
 ·rename_i s
  simp only [Rv];refine⟨?_,?_⟩
  ·intro n hn;obtain⟨c,_,rfl⟩:=List.mem_map.1 hn;exact c.toNat_lt
  ·rw [List.map_map]
   have:(UInt8.ofNat ∘ UInt8.toNat)=id:=by funext c;simp
   rw [this,List.map_id];unfold str
   congr 1
 ·simp only [Rv]
 ·simp only [Rv]
 ·simp only [Rv]
 ·simp only [Rv]
 ·simp only [Rv]
 ·simp only [Rv]
theorem Jd{f:Fr}{F:Wf.Fr}(h:FR Φ f F)(o:Operand):Rv Φ (opd f o) (fe F o):=by
 cases o with
 | tmp t=>
  show Rv Φ (Bool.rec .u (getF t f) (Nat.ble (Nat.succ t) 4096)) (F t)
  cases e:Nat.ble (Nat.succ t) 4096 with
  | false=>simp only [Rv]
  | true=>exact h t (Nat.le_of_ble_eq_true e)
 | const v=>exact yh v
 | global g=>show Rv Φ (.gp g 0) _;simp only [Rv];rfl
 | func k=>show Rv Φ (.fn k []) _;simp only [Rv];exact⟨[],rfl,by simp only [RvL]⟩
theorem Xd{f:Fr}{F:Wf.Fr}(h:FR Φ f F)(l:List Operand):RvL Φ (opds f l) (l.map (fe F)):=by
 induction l with
 | nil=>show RvL Φ [] _;simp only [RvL,List.map_nil]
 | cons o l ih=>show RvL Φ (opd f o::opds f l) _;simp only [RvL,List.map_cons];exact⟨_,_,rfl,Jd h o,ih⟩
end
end Go.Ev
namespace Go.Ev
open Go Go.Wf Go.RowKit
theorem recB{n:Nat}{r:Res}{b:Bool}{v:AV}{h:Hp}(e:(Bool.rec (Res.no n) r b:Res)= .ok v h):b=true∧r= .ok v h:=by
 cases b
 ·cases e
 ·exact⟨rfl,e⟩
theorem zu{α:Type}{b:Bool}{x y:α}:(Bool.rec x y b:α)=if b then y else x:=by cases b <;> rfl
theorem Jv{v v':AV}{h h':Hp}(e:Res.ok v h= .ok v' h'):v=v'∧h=h':=by cases e;exact⟨rfl,rfl⟩
theorem recN{n:Nat}{r:Nat→Res}{v:AV}{h:Hp}{a:AV}(e:V9 a r (.no n)= .ok v h):∃ k m,a= .i k (Int.ofNat m)∧r m= .ok v h:=by
 unfold V9 at e
 split at e
 ·rename_i k z
  cases z with
  | ofNat m=>exact⟨k,m,rfl,e⟩
  | negSucc m=>cases e
 ·cases e
section
variable {P:Program} {Φ:Phi} {ρ:Operand→Value} {dst:Option Tmp} {ty yt t:TypeId} {pos:String} {after:Array Edge} {gd:Option (Nat × Bool)} {w:World} {a b v:AV} {h h':Hp} {x y:Operand}
abbrev KP(Φ:Phi)(w:World)(v:AV):Value→World→Prop:=fun u w'=>w'=w∧Rv Φ v u
abbrev KF:List PanicEntry→World→Prop:=fun _ _=>False
theorem Rv.iI{k:IntKind}{n:Int}{u:Value}(h:Rv Φ (.i k n) u):u= .int k n:=by simp only [Rv] at h;exact h
theorem Rv.mi{k:IntKind}{n:Int}:Rv Φ (.i k n) (.int k n):=by simp only [Rv]
theorem Rv.bI{n:Bool}{u:Value}(h:Rv Φ (.b n) u):u= .bool n:=by simp only [Rv] at h;exact h
theorem Rv.mb{n:Bool}:Rv Φ (.b n) (.bool n):=by simp only [Rv]
theorem Rv.sI{l:List Nat}{u:Value}(h:Rv Φ (.s l) u):(∀ n ∈ l,n < 256)∧u=str (l.map UInt8.ofNat):=by simp only [Rv] at h;exact h
theorem Rv.ms{l:List Nat}(hl:∀ n ∈ l,n < 256):Rv Φ (.s l) (str (l.map UInt8.ofNat)):=by simp only [Rv];exact⟨hl,trivial⟩
theorem Rv.pI{id off:Nat}{u:Value}(h:Rv Φ (.p id off) u):∃ e,Φ id=some e∧u= .pointer (some ⟨e.g,e.base+off,none⟩):=by simp only [Rv] at h;exact h
theorem Rv.mp{id off:Nat}{e:Ent}(h:Φ id=some e):Rv Φ (.p id off) (.pointer (some ⟨e.g,e.base+off,none⟩)):=by simp only [Rv];exact⟨e,h,rfl⟩
theorem Rv.slI{id off n z:Nat}{cap:Option Nat}{v:Value}(h:Rv Φ (.sl id off n z cap) v):∃ e c,Φ id=some e∧v= .slice (some ⟨e.g,e.base+off,none⟩) n c∧n≤c∧c≤maxLen∧off+c * z≤e.k∧Jm8 cap c:=by simp only [Rv] at h;exact h
theorem Rv.msl{id off n z:Nat}{cap:Option Nat}{e:Ent}{c:Nat}(h:Φ id=some e)(h1:n≤c)(h2:c≤maxLen)(h3:off+c * z≤e.k)(h4:Jm8 cap c):Rv Φ (.sl id off n z cap) (.slice (some ⟨e.g,e.base+off,none⟩) n c):=by
 simp only [Rv];exact⟨e,c,h,rfl,h1,h2,h3,h4⟩
theorem Rv.fnI{k:FuncId}{cap:List AV}{v:Value}(h:Rv Φ (.fn k cap) v):∃ vs:List Value,v= .func (.func k) #[] vs.toArray∧RvL Φ cap vs:=by simp only [Rv] at h;exact h
theorem Q0{k:IntKind}{z:Int}(e:okI k z h= .ok v h'):v= .i k z∧h=h':=by rw [Jxn] at e;obtain⟨rfl,rfl⟩:=Jv e;exact⟨rfl,rfl⟩
theorem zn{t:Bool}(e:okB t h= .ok v h'):v= .b t∧h=h':=by rw [Jv9] at e;obtain⟨rfl,rfl⟩:=Jv e;exact⟨rfl,rfl⟩
theorem Zp{p q:Bool}(h:(p && q)=true):p=true∧q=true:=by simpa using h
theorem Jhm{p:Bool}(h:(!p)=true):p=false:=by simpa using h
theorem qe{l:List Nat}(hl:∀ n ∈ l,n < 256):(l.map UInt8.ofNat).map UInt8.toNat=l:=by
 rw [List.map_map]
 conv=>rhs;rw [← List.map_id l]
 apply List.map_congr_left
 intro n hn;simp [UInt8.toNat_ofNat,Nat.mod_eq_of_lt (hl n hn)]
theorem Jmn{l m:List Nat}(hl:∀ n ∈ l,n < 256)(hm:∀ n ∈ m,n < 256)(h:l.map UInt8.ofNat=m.map UInt8.ofNat):l=m:=by
 rw [← qe hl,← qe hm,h]
theorem Jd8:∀ (a b:List Nat),leqL a b=decide (a=b):=by
 intro a
 induction a with
 | nil=>intro b;cases b <;> rfl
 | cons x a ih=>
  intro b
  cases b with
  | nil=>rfl
  | cons y b=>
   show(Bool.rec false (leqL a b) (Nat.beq x y):Bool)=_
   rw [ze,ih]
   by_cases e:x=y
   ·rw [decide_eq_true e];subst e;show decide (a=b)=_;simp
   ·rw [decide_eq_false e];show false=_;simp [e]
theorem binS{op:BinOp}{u:Value}(hg:eqGuard op t x y (ρ x) (ρ y)=pure ())(hr:(binOp op t (ρ x) (ρ y)).run P w= .ok u w)(h:Rv Φ v u):
  St P ρ ⟨dst,.binOp op t x y yt,ty,pos,after,gd⟩ w (KP Φ w v) KF:=Jy hg hr ⟨rfl,h⟩
theorem Jwo(e:bAdd a b h= .ok v h'):h'=h∧(Rv Φ a (ρ x)→Rv Φ b (ρ y)→St P ρ ⟨dst,.binOp .add t x y yt,ty,pos,after,gd⟩ w (KP Φ w v) KF):=by
 unfold bAdd at e
 split at e
 ·obtain⟨he,e⟩:=recB e;obtain⟨rfl,rfl⟩:=Q0 e;refine⟨rfl,fun hx hy=>?_⟩
  have:=Ks he;subst this
  exact St.add hx.iI hy.iI (K8 _ _).symm ⟨rfl,Rv.mi⟩
 ·rename_i l m
  obtain⟨he,e⟩:=recB e;rw [Vs] at e;obtain⟨rfl,rfl⟩:=Jv e;refine⟨rfl,fun hx hy=>?_⟩
  obtain⟨h1,hx⟩:=hx.sI;obtain⟨h2,hy⟩:=hy.sI;refine J5m hx hy ?_ ⟨rfl,?_⟩
  ·have:=Yc he
   rw [Qe,Qe] at this
   have:l.length+m.length < 1000000:=this
   rw [List.length_map,List.length_map];omega
  ·rw [← List.map_append];exact Rv.ms fun n hn=>(List.mem_append.1 hn).elim (h1 n) (h2 n)
 ·cases e
theorem Jx1(e:bSub a b h= .ok v h'):h'=h∧(Rv Φ a (ρ x)→Rv Φ b (ρ y)→St P ρ ⟨dst,.binOp .sub t x y yt,ty,pos,after,gd⟩ w (KP Φ w v) KF):=by
 unfold bSub at e
 split at e
 ·obtain⟨he,e⟩:=recB e;obtain⟨rfl,rfl⟩:=Q0 e;refine⟨rfl,fun hx hy=>?_⟩
  have:=Ks he;subst this
  exact St.sub hx.iI hy.iI (K8 _ _).symm ⟨rfl,Rv.mi⟩
 ·cases e
theorem Jyd(e:bMul a b h= .ok v h'):h'=h∧(Rv Φ a (ρ x)→Rv Φ b (ρ y)→St P ρ ⟨dst,.binOp .mul t x y yt,ty,pos,after,gd⟩ w (KP Φ w v) KF):=by
 unfold bMul at e
 split at e
 ·obtain⟨he,e⟩:=recB e;obtain⟨rfl,rfl⟩:=Q0 e;refine⟨rfl,fun hx hy=>?_⟩
  have:=Ks he;subst this
  exact St.mul hx.iI hy.iI (K8 _ _).symm ⟨rfl,Rv.mi⟩
 ·cases e
theorem nz{b:Int}(h:(!ieq b 0)=true):b≠0:=by
 have:=Jhm h
 rw [Jgq] at this;exact of_decide_eq_false this
theorem Jzt(e:bQuo a b h= .ok v h'):h'=h∧(Rv Φ a (ρ x)→Rv Φ b (ρ y)→St P ρ ⟨dst,.binOp .quo t x y yt,ty,pos,after,gd⟩ w (KP Φ w v) KF):=by
 unfold bQuo at e
 split at e
 ·obtain⟨he,e⟩:=recB e;obtain⟨he,hb⟩:=Zp he;obtain⟨rfl,rfl⟩:=Q0 e;refine⟨rfl,fun hx hy=>?_⟩
  have:=Ks he;subst this
  exact St.quo hx.iI hy.iI (nz hb) (K8 _ _).symm ⟨rfl,Rv.mi⟩
 ·cases e
theorem Jxg(e:bRem a b h= .ok v h'):h'=h∧(Rv Φ a (ρ x)→Rv Φ b (ρ y)→St P ρ ⟨dst,.binOp .rem t x y yt,ty,pos,after,gd⟩ w (KP Φ w v) KF):=by
 unfold bRem at e
 split at e
 ·obtain⟨he,e⟩:=recB e;obtain⟨he,hb⟩:=Zp he;obtain⟨rfl,rfl⟩:=Q0 e;refine⟨rfl,fun hx hy=>?_⟩
  have:=Ks he;subst this
  exact St.rem hx.iI hy.iI (nz hb) rfl ⟨rfl,Rv.mi⟩
 ·cases e
theorem nneg{b:Int}(h:(!ilt b 0)=true):0≤b:=by
 have:=Jhm h
 rw [xl] at this
 have:=of_decide_eq_false this
 omega
theorem Jsy(n:Nat):((Nat.pow 2 n:Nat):Int)=(2:Int) ^ n:=by show((2 ^ n:Nat):Int)=_;rw [Int.natCast_pow];rfl
theorem Jz3(e:bShl a b h= .ok v h'):h'=h∧(Rv Φ a (ρ x)→Rv Φ b (ρ y)→St P ρ ⟨dst,.binOp .shl t x y yt,ty,pos,after,gd⟩ w (KP Φ w v) KF):=by
 unfold bShl at e
 split at e
 ·obtain⟨he,e⟩:=recB e;obtain⟨rfl,rfl⟩:=Q0 e;refine⟨rfl,fun hx hy=>?_⟩
  refine St.shl hx.iI hy.iI (nneg he) ?_ ⟨rfl,Rv.mi⟩;rw [K8]
  congr 1
 ·cases e
theorem Jxy(e:bShr a b h= .ok v h'):h'=h∧(Rv Φ a (ρ x)→Rv Φ b (ρ y)→St P ρ ⟨dst,.binOp .shr t x y yt,ty,pos,after,gd⟩ w (KP Φ w v) KF):=by
 unfold bShr at e
 split at e
 ·obtain⟨he,e⟩:=recB e;obtain⟨rfl,rfl⟩:=Q0 e;refine⟨rfl,fun hx hy=>?_⟩
  refine St.shr hx.iI hy.iI (nneg he) ?_ ⟨rfl,Rv.mi⟩
  show _=_ / ((Nat.pow 2 _:Nat):Int)
  rw [Jsy]
 ·cases e
theorem Jb2(k m:Nat):(BitVec.ofInt k (Int.ofNat m)).toNat=m % 2 ^ k:=by
 show(BitVec.ofInt k (m:Int)).toNat=_
 rw [BitVec.ofInt_natCast,BitVec.toNat_ofNat]
theorem bitS {op:BinOp} {g:Nat→Nat→Nat} {k:IntKind} {m n:Nat} (hop:∀ (p q:Value),binOp op t p q=match p,q with | .int k a,.int k' b=>if k≠k' then stuck "BinOp: operands of different kinds" else Op.intBits op k a b | _,_=>binOp op t p q)
  (hb:∀ m n,Op.intBits op k (Int.ofNat m) (Int.ofNat n)=pure (.int k (k.wrap (Int.ofNat (g (m % 2 ^ k.bits) (n % 2 ^ k.bits))))))
  (hg:∀ p q,eqGuard op t x y p q=pure ()) (hx:ρ x= .int k (Int.ofNat m)) (hy:ρ y= .int k (Int.ofNat n)):
  St P ρ ⟨dst,.binOp op t x y yt,ty,pos,after,gd⟩ w (KP Φ w (.i k (jf k (Int.ofNat (g (Nat.mod m (Nat.pow 2 k.bits)) (Nat.mod n (Nat.pow 2 k.bits))))))) KF:=by
 refine binS (u:= .int k (k.wrap (Int.ofNat (g (m % 2 ^ k.bits) (n % 2 ^ k.bits))))) (hg _ _) ?_ ?_
 ·rw [hx,hy,hop];simp only [ne_eq,not_true_eq_false,if_false];rw [hb];rfl
 ·rw [K8];exact Rv.mi
theorem ve {op:BinOp} {g:Nat→Nat→Nat} (hop:∀ (p q:Value),binOp op t p q=match p,q with | .int k a,.int k' b=>if k≠k' then stuck "BinOp: operands of different kinds" else Op.intBits op k a b | _,_=>binOp op t p q)
  (hb:∀ (k:IntKind) m n,Op.intBits op k (Int.ofNat m) (Int.ofNat n)=pure (.int k (k.wrap (Int.ofNat (g (m % 2 ^ k.bits) (n % 2 ^ k.bits))))))
  (hg:∀ p q,eqGuard op t x y p q=pure ()) (e:Vh g a b h= .ok v h'):h'=h∧(Rv Φ a (ρ x)→Rv Φ b (ρ y)→St P ρ ⟨dst,.binOp op t x y yt,ty,pos,after,gd⟩ w (KP Φ w v) KF):=by
 unfold Vh at e
 split at e
 ·rename_i k a' k' b'
  obtain⟨he,e2⟩:=recB e;clear e
  have:=Ks he;subst this
  cases a' with
  | negSucc m=>cases e2
  | ofNat m=>
   cases b' with
   | negSucc n=>cases e2
   | ofNat n=>
    obtain⟨rfl,rfl⟩:=Q0 e2;exact⟨rfl,fun hx hy=>bitS hop (hb k) hg hx.iI hy.iI⟩
 ·cases e
theorem Jww(e:Vh Nat.land a b h= .ok v h'):h'=h∧(Rv Φ a (ρ x)→Rv Φ b (ρ y)→St P ρ ⟨dst,.binOp .and t x y yt,ty,pos,after,gd⟩ w (KP Φ w v) KF):=by
 refine ve ?_ ?_ (fun _ _=>rfl) e
 ·intro p q;cases p <;> cases q <;> rfl
 ·intro k m n;simp only [Op.intBits,BitVec.toNat_and,Jb2];rfl
theorem bOr_s(e:Vh Nat.lor a b h= .ok v h'):h'=h∧(Rv Φ a (ρ x)→Rv Φ b (ρ y)→St P ρ ⟨dst,.binOp .or t x y yt,ty,pos,after,gd⟩ w (KP Φ w v) KF):=by
 refine ve ?_ ?_ (fun _ _=>rfl) e
 ·intro p q;cases p <;> cases q <;> rfl
 ·intro k m n;simp only [Op.intBits,BitVec.toNat_or,Jb2];rfl
theorem J0g(e:Vh Nat.xor a b h= .ok v h'):h'=h∧(Rv Φ a (ρ x)→Rv Φ b (ρ y)→St P ρ ⟨dst,.binOp .xor t x y yt,ty,pos,after,gd⟩ w (KP Φ w v) KF):=by
 refine ve ?_ ?_ (fun _ _=>rfl) e
 ·intro p q;cases p <;> cases q <;> rfl
 ·intro k m n;simp only [Op.intBits,BitVec.toNat_xor,Jb2];rfl
theorem Jhr(k m n:Nat)(hm:m < 2 ^ k):(BitVec.ofNat k m &&& ~~~ BitVec.ofNat k n).toNat=Nat.xor m (Nat.land m (n % 2 ^ k)):=by
 show _=m ^^^ (m &&& (n % 2 ^ k))
 apply Nat.eq_of_testBit_eq
 intro i;rw [Nat.testBit_xor,Nat.testBit_and,Nat.testBit_mod_two_pow,← BitVec.getLsbD];simp only [BitVec.getLsbD_and,BitVec.getLsbD_not,BitVec.getLsbD_ofNat]
 by_cases hi:i < k
 ·simp [hi];cases Nat.testBit m i <;> cases Nat.testBit n i <;> rfl
 ·have:Nat.testBit m i=false:=Nat.testBit_lt_two_pow (Nat.lt_of_lt_of_le hm (Nat.pow_le_pow_right (by omega) (by omega)))
  simp [hi,this]
theorem Jkl(e:Vh (fun m n=>Nat.xor m (Nat.land m n)) a b h= .ok v h'):h'=h∧(Rv Φ a (ρ x)→Rv Φ b (ρ y)→St P ρ ⟨dst,.binOp .andNot t x y yt,ty,pos,after,gd⟩ w (KP Φ w v) KF):=by
 refine ve ?_ ?_ (fun _ _=>rfl) e
 ·intro p q;cases p <;> cases q <;> rfl
 ·intro k m n;have e1:(BitVec.ofInt k.bits (Int.ofNat m))=BitVec.ofNat k.bits (m % 2 ^ k.bits):=by
   apply BitVec.eq_of_toNat_eq;rw [Jb2,BitVec.toNat_ofNat,Nat.mod_mod]
  have e2:(BitVec.ofInt k.bits (Int.ofNat n))=BitVec.ofNat k.bits n:=by
   apply BitVec.eq_of_toNat_eq;rw [Jb2,BitVec.toNat_ofNat]
  simp only [Op.intBits];rw [e1,e2,Jhr _ _ _ (Nat.mod_lt _ (Nat.two_pow_pos _))];rfl
end
end Go.Ev
namespace Go.Ev
open Go Go.Wf Go.RowKit
section
variable {P:Program} {Φ:Phi} {ρ:Operand→Value} {dst:Option Tmp} {ty yt t:TypeId} {pos:String} {after:Array Edge} {gd:Option (Nat × Bool)} {w:World} {a b v:AV} {h h':Hp} {x y:Operand}
theorem Jfs{t:TypeId}(h:Jl9 P t=true):P.underlying t=some .bool:=by unfold Jl9 at h;split at h <;> first | assumption | cases h
theorem Jed{t:TypeId}(h:Jiq P t=true):∃ e,P.underlying t=some (.pointer e):=by unfold Jiq at h;split at h <;> first | exact⟨_,by assumption⟩ | cases h
theorem xz{t:TypeId}(h:isSl P t=true):∃ e,P.underlying t=some (.slice e):=by unfold isSl at h;split at h <;> first | exact⟨_,by assumption⟩ | cases h
theorem Jjk{t:TypeId}(h:isFn P t=true):∃ a b c,P.underlying t=some (.func a b c):=by unfold isFn at h;split at h <;> first | exact⟨_,_,_,by assumption⟩ | cases h
theorem Vr{t:TypeId}(h:Qa P t=true):P.underlying t=some .string:=by unfold Qa at h;split at h <;> first | assumption | cases h
theorem ki{t e:TypeId}(h:slOf P t=some e):P.underlying t=some (.slice e):=by unfold slOf at h;split at h <;> first | (cases h;assumption) | cases h
theorem Jvx{t:TypeId}{k:IntKind}(h:Jc4 P t=some k):P.underlying t=some (.int k):=by unfold Jc4 at h;split at h <;> first | (cases h;assumption) | cases h
theorem Vk{t sz:Nat}(h:szOf P t=some sz):∃ z by_,J9 P t=some (z,sz,by_):=by
 unfold szOf at h;rw [Option.map_eq_some_iff] at h;obtain⟨⟨z,s,b⟩,h1,rfl⟩:=h;exact⟨z,b,h1⟩
theorem Jdf{t:TypeId}{l:List AV}(h:zcOf P t=some l):∃ z sz by_,J9 P t=some (z,sz,by_)∧l=z.cells.toList.map cv:=by
 unfold zcOf at h;rw [Option.map_eq_some_iff] at h;obtain⟨⟨z,s,b⟩,h1,rfl⟩:=h;exact⟨z,s,b,h1,rfl⟩
theorem ko(l:List Value):RvL Φ (l.map cv) l:=by
 refine RvL.mk (by simp) fun i a v hi hv=>?_
 rw [List.getElem?_map,hv] at hi;simp at hi;subst hi;exact yh v
theorem X5{p q:Bool}{r:Bool}(h:(Bool.rec none (some p) q:Option Bool)=some r):q=true∧p=r:=by cases q;cases h;cases h;exact⟨rfl,rfl⟩
theorem eqIn(t:TypeId)(a b:Value):Op.equal t a b=Op.equalIn (9999+1) t a b:=rfl
def Jau:Value→Value→Bool
 | .nilIface,.nilIface=>false
 | .agg _,.agg _=>false
 | _,_=>true
theorem Jg3{op:BinOp}{p q:Value}(h:Jau p q=true):eqGuard op t x y p q=pure ():=by
 unfold eqGuard
 cases op <;> first | rfl | (cases p <;> cases q <;> first | rfl | cases h)
theorem u8n{n:Nat}(h:n < 256):(UInt8.ofNat n).toNat=n:=by simp [Nat.mod_eq_of_lt h]
section
variable {d:Nat} {p q:Value} {el:TypeId}
theorem eqP1{c:Option Addr}(hq:P.underlying t=some (.pointer el)):(Op.equalIn (d+1) t (.pointer none) (.pointer c)).run P w= .ok c.isNone w:=by simp [Op.equalIn,run_underlying hq]
theorem eqP2{c:Addr}(hq:P.underlying t=some (.pointer el)):(Op.equalIn (d+1) t (.pointer (some c)) (.pointer none)).run P w= .ok false w:=by simp [Op.equalIn,run_underlying hq]
theorem eqS1{c:Option Addr}{n m k l:Nat}(hq:P.underlying t=some (.slice el)):(Op.equalIn (d+1) t (.slice none n m) (.slice c k l)).run P w= .ok c.isNone w:=by simp [Op.equalIn,run_underlying hq]
theorem eqS2{c:Addr}{n m k l:Nat}(hq:P.underlying t=some (.slice el)):(Op.equalIn (d+1) t (.slice (some c) n m) (.slice none k l)).run P w= .ok false w:=by simp [Op.equalIn,run_underlying hq]
theorem eqF0{a b:Array TypeId}{c:Bool}(hq:P.underlying t=some (.func a b c)):(Op.equalIn (d+1) t .nilFunc .nilFunc).run P w= .ok true w:=by simp [Op.equalIn,run_underlying hq]
theorem eqF1{a b:Array TypeId}{c:Bool}{f:Fn}{u v:Array Value}(hq:P.underlying t=some (.func a b c)):(Op.equalIn (d+1) t .nilFunc (.func f u v)).run P w= .ok false w:=by simp [Op.equalIn,run_underlying hq]
theorem eqF2{a b:Array TypeId}{c:Bool}{f:Fn}{u v:Array Value}(hq:P.underlying t=some (.func a b c)):(Op.equalIn (d+1) t (.func f u v) .nilFunc).run P w= .ok false w:=by simp [Op.equalIn,run_underlying hq]
theorem eq2{r:Bool}(hg:Jau p q=true)(hb:binOp .eql t p q=(do pure (.bool (← Op.equal t p q))):=by rfl)(hb':binOp .neq t p q=(do pure (.bool (!(← Op.equal t p q)))):=by rfl)(hr:(Op.equalIn (9999+1) t p q).run P w= .ok r w):
  Jau p q=true∧(binOp .eql t p q).run P w= .ok (.bool r) w∧(binOp .neq t p q).run P w= .ok (.bool (!r)) w:=by
 refine⟨hg,?_,?_⟩
 ·rw [hb,eqIn,Sem.run_bind,hr];rfl
 ·rw [hb',eqIn,Sem.run_bind,hr];rfl
end
theorem Jbt{t:TypeId}(h:lkOf P t= .one):Yg P t=true:=by
 unfold lkOf at h
 cases hp:Yg P t with
 | true=>rfl
 | false=>
  rw [hp] at h;simp only [cond_false] at h
  split at h
  ·rename_i s hs
   cases hb:V3 P t s with
   | true=>rw [hb] at h;cases h
   | false=>rw [hb] at h;cases h
  ·cases h
theorem Jbg{t:TypeId}{sz:Nat}(h:lkOf P t= .agg sz):V3 P t sz=true:=by
 unfold lkOf at h
 cases hp:Yg P t with
 | true=>rw [hp] at h;cases h
 | false=>
  rw [hp] at h;simp only [cond_false] at h
  split at h
  ·rename_i s hs
   cases hb:V3 P t s with
   | true=>rw [hb] at h;cases h;exact hb
   | false=>rw [hb] at h;cases h
  ·cases h
theorem Jbp{cs:List AV}{off:Nat}{Cs:List Value}(e:Jcs P t cs off=some a)(h:RvL Φ cs Cs):∃ A,(part t Cs.toArray off).run P w= .ok A w∧Rv Φ a A:=by
 unfold Jcs at e
 split at e
 ·rename_i hl
  rw [V1] at e;obtain⟨v,hv,hr⟩:=h.at e;refine⟨v,?_,hr⟩;simp [part,Qy (Jbt hl),hv]
 ·rename_i sz hl
  cases e
  rw [Js8,vg];refine⟨.agg ((Cs.drop off).take sz).toArray,?_,?_⟩
  ·simp [part,X6 (Jbg hl)]
  ·simp only [Rv];exact⟨_,rfl,(h.drop off).take sz⟩
 ·cases e
theorem Jmd{xs ys:List AV}{off:Nat}{Xs Ys:List Value}{k:AV→AV→Option Bool}{r:Bool}(e:Jhe P t xs ys off k none=some r)(hx:RvL Φ xs Xs)(hy:RvL Φ ys Ys):
  ∃ a b A B,(part t Xs.toArray off).run P w= .ok A w∧(part t Ys.toArray off).run P w= .ok B w∧Rv Φ a A∧Rv Φ b B∧k a b=some r:=by
 unfold Jhe at e
 split at e
 ·rename_i a ha
  split at e
  ·rename_i b hb
   obtain⟨A,h1,h2⟩:=Jbp (w:=w) ha hx;obtain⟨B,h3,h4⟩:=Jbp (w:=w) hb hy;exact⟨a,b,A,B,h1,h3,h2,h4,e⟩
  ·cases e
 ·cases e
theorem Jre{p q:Option Bool}{r:Bool}(e:andO p q=some r):(p=some false∧r=false)∨(p=some true∧q=some r):=by
 unfold andO at e
 cases p with
 | none=>cases e
 | some b=>cases b with
  | false=>cases e;exact .inl ⟨rfl,rfl⟩
  | true=>exact .inr ⟨rfl,e⟩
def Jds(d:Nat)(e n:Nat)(xs ys:Array Value):List Nat→Sem Bool
 | []=>pure true
 | i::l=>do
  let a ← part e xs (i * n)
  let b ← part e ys (i * n)
  let r ← Op.equalIn d e a b
  if(!r)=true then pure false else Jds d e n xs ys l
theorem qv(d:Nat){n e sz:Nat}(xs ys:Array Value)(ht:P.underlying t=some (.array n e))(hs:(sizeOf e).run P w= .ok sz w):
  (Op.equalIn (d+1) t (.agg xs) (.agg ys)).run P w=(Jds d e sz xs ys (List.range' 0 n)).run P w:=by
 simp only [Op.equalIn,Sem.run_bind,run_underlying ht,Result.andThen_ok,hs];rw [Std.Legacy.Range.forIn_eq_forIn_range']
 have:(Std.Legacy.Range.mk 0 n 1 (by omega)).size=n:=by simp [Std.Legacy.Range.size]
 simp only [this]
 generalize List.range' 0 n=l
 clear ht hs
 induction l generalizing w with
 | nil=>simp [Jds]
 | cons i l ih=>
  simp only [List.forIn_cons,Jds,Sem.run_bind]
  generalize (part e xs (i * sz)).run P w=r1
  cases r1 with
  | ok a w1=>
   simp only [Result.andThen_ok]
   generalize (part e ys (i * sz)).run P w1=r2
   cases r2 with
   | ok b w2=>
    simp only [Result.andThen_ok]
    generalize (Op.equalIn d e a b).run P w2=r3
    cases r3 with
    | ok r w3=>
     cases r
     ·simp only [Result.andThen_ok,Bool.not_false,if_true,Sem.run_pure]
     ·simp only [Result.andThen_ok,Bool.not_true,Bool.false_eq_true,if_false,Sem.run_pure];exact ih
    | halt x w3=>simp [Result.andThen]
   | halt x w2=>simp [Result.andThen]
  | halt x w1=>simp [Result.andThen]
theorem Rv.agI{l:List AV}{v:Value}(h:Rv Φ (.ag l) v):∃ vs:List Value,v= .agg vs.toArray∧RvL Φ l vs:=by simp only [Rv] at h;exact h
theorem eqT_s:∀ (d:Nat) (t:TypeId) (x y:AV) (X Y:Value) (r:Bool) (D:Nat),d≤D→eqT P d t x y=some r→Rv Φ x X→Rv Φ y Y→(Op.equalIn D t X Y).run P w= .ok r w:=by
 intro d
 induction d with
 | zero=>intro t x y X Y r D _ e;cases e
 | succ d ih=>
  intro t x y X Y r D hD e hx hy;obtain⟨D,rfl⟩:∃ D',D=D'+1:=⟨D - 1,by omega⟩;have hD:d≤D:=by omega
  replace e:eqT1 P (eqT P d) t x y=some r:=e;unfold eqT1 at e
  split at e
  ·rename_i k hu
   split at e
   ·obtain⟨he,rfl⟩:=X5 e
    have:=Ks he;subst this
    rw [hx.iI,hy.iI,run_equalIn_int w D t _ _ _ _ hu,Jgq];rfl
   ·cases e
  ·rename_i hu
   split at e
   ·rename_i l m
    cases e
    obtain⟨h1,hx⟩:=hx.sI;obtain⟨h2,hy⟩:=hy.sI;rw [hx,hy,Jd8];unfold str;rw [run_equalIn_string w D t _ _ hu,ByteArray.toList_eq,ByteArray.toList_eq]
    have:(l.map UInt8.ofNat == m.map UInt8.ofNat)=decide (l=m):=by
     rw [Bool.eq_iff_iff];simp only [decide_eq_true_iff,beq_iff_eq];exact⟨fun e=>Jmn h1 h2 e,fun e=>by rw [e]⟩
    rw [this]
   ·cases e
  ·rename_i hu
   split at e
   ·cases e
    rw [hx.bI,hy.bI,run_equalIn_bool' w D t _ _ hu]
   ·cases e
  ·rename_i fs hu
   split at e
   ·rename_i xs ys
    obtain⟨Xs,rfl,hX⟩:=hx.agI;obtain⟨Ys,rfl,hY⟩:=hy.agI;have hfs:P.fieldsOf t=fs:=by simp [Program.fieldsOf,hu]
    cases hp:P.stoodInHeld t with
    | true=>rw [hp] at e;cases e
    | false=>
     rw [hp] at e;replace e:eqFs P (eqT P d) xs ys fs.toList=some r:=e;rw [run_equalIn_agg w D t _ _ (by rw [hfs];exact hu) hp,hfs]
     revert e
     generalize fs.toList=l
     intro e;clear hu hfs hp
     induction l with
     | nil=>cases e;simp [Op.eqFields]
     | cons f l ihl=>
      replace e:(Bool.rec (Jhe P f.type xs ys f.offset (fun a b=>andO (eqT P d f.type a b) (eqFs P (eqT P d) xs ys l)) none) (eqFs P (eqT P d) xs ys l) (f.name == "_"):Option Bool)=some r:=e
      cases hn:(f.name == "_") with
      | true=>
       rw [hn] at e;have hn:f.name= "_" :=by simpa using hn
       simp only [Op.eqFields,hn,ne_eq,not_true_eq_false,if_false];exact ihl e
      | false=>
       rw [hn] at e;have hn:¬ f.name= "_" :=by simpa using hn
       obtain⟨a,b,A,B,h1,h2,h3,h4,h5⟩:=Jmd (w:=w) e hX hY;simp only [Op.eqFields,ne_eq,hn,not_false_eq_true,if_true,Sem.run_bind,h1,h2,Result.andThen_ok]
       rcases Jre h5 with ⟨q,rfl⟩ | ⟨q,q2⟩
       ·rw [ih _ _ _ _ _ _ D hD q h3 h4];simp
       ·rw [ih _ _ _ _ _ _ D hD q h3 h4];simp only [Result.andThen_ok,Bool.not_true,Bool.false_eq_true,if_false];exact ihl q2
   ·cases e
  ·rename_i n el hu
   split at e
   ·rename_i xs ys
    obtain⟨Xs,rfl,hX⟩:=hx.agI;obtain⟨Ys,rfl,hY⟩:=hy.agI
    cases hs:szOf P el with
    | none=>rw [hs] at e;cases e
    | some sz=>
     rw [hs] at e;replace e:eqAr P (eqT P d el) el sz xs ys n 0=some r:=e;obtain⟨z,by_,hinf⟩:=Vk hs;obtain⟨inf,hi',_,hsz,_⟩:=Jl hinf;rw [qv (w:=w) D (sz:=sz) _ _ hu (by simp [sizeOf,typeInfo,hi',hsz])];have key:∀ (n i:Nat),eqAr P (eqT P d el) el sz xs ys n (i * sz)=some r→(Jds D el sz Xs.toArray Ys.toArray (List.range' i n)).run P w= .ok r w:=by
      intro n
      induction n with
      | zero=>intro i e;cases e;simp [Jds]
      | succ n ihn=>
       intro i e;replace e:Jhe P el xs ys (i * sz) (fun a b=>andO (eqT P d el a b) (fz (Nat.add (i * sz) sz) (eqAr P (eqT P d el) el sz xs ys n))) none=some r:=e;obtain⟨a,b,A,B,h1,h2,h3,h4,h5⟩:=Jmd (w:=w) e hX hY;rw [List.range'_succ];simp only [Jds,Sem.run_bind,h1,h2,Result.andThen_ok]
       rcases Jre h5 with ⟨q,rfl⟩ | ⟨q,q2⟩
       ·rw [ih _ _ _ _ _ _ D hD q h3 h4];simp
       ·rw [ih _ _ _ _ _ _ D hD q h3 h4];simp only [Result.andThen_ok,Bool.not_true,Bool.false_eq_true,if_false];rw [Xr] at q2;refine ihn (i+1) ?_;rw [Nat.succ_mul];exact q2
     refine key n 0 ?_;rw [Nat.zero_mul];exact e
   ·cases e
  ·cases e
theorem Jkd{t:TypeId}(h:isIf P t=true):∃ m,P.underlying t=some (.interface m):=by unfold isIf at h;split at h <;> first | exact⟨_,by assumption⟩ | cases h
theorem Jer{t:TypeId}(h:Jd6 P t=true):∃ a b,P.underlying t=some (.map a b):=by unfold Jd6 at h;split at h <;> first | exact⟨_,_,by assumption⟩ | cases h
theorem Jr8{t e:TypeId}(h:Juk P t=some e):P.underlying t=some (.pointer e):=by unfold Juk at h;split at h <;> first | (cases h;assumption) | cases h
theorem Jih{o:Operand}(h:Z3 o=true):∃ v,o= .const v:=by cases o <;> first | exact⟨_,rfl⟩ | cases h
theorem eqI1{m:Array (String × TypeId)}{d:Nat}{u:TypeId}{p:Value}(hq:P.underlying t=some (.interface m)):(Op.equalIn (d+1) t .nilIface (.iface u p)).run P w= .ok false w:=by simp [Op.equalIn,run_underlying hq]
theorem eqI2{m:Array (String × TypeId)}{d:Nat}{u:TypeId}{p:Value}(hq:P.underlying t=some (.interface m)):(Op.equalIn (d+1) t (.iface u p) .nilIface).run P w= .ok false w:=by simp [Op.equalIn,run_underlying hq]
theorem eqI0{m:Array (String × TypeId)}{d:Nat}(hq:P.underlying t=some (.interface m)):(Op.equalIn (d+1) t .nilIface .nilIface).run P w= .ok true w:=by simp [Op.equalIn,run_underlying hq]
theorem eqM1{k e:TypeId}{d:Nat}{c:Option Nat}(hq:P.underlying t=some (.map k e)):(Op.equalIn (d+1) t (.map none) (.map c)).run P w= .ok c.isNone w:=by simp [Op.equalIn,run_underlying hq]
theorem eqM2{k e:TypeId}{d:Nat}{c:Nat}(hq:P.underlying t=some (.map k e)):(Op.equalIn (d+1) t (.map (some c)) (.map none)).run P w= .ok false w:=by simp [Op.equalIn,run_underlying hq]
def EqS(P:Program)(t:TypeId)(x y:Operand)(p q:Value)(r:Bool)(w:World):Prop:=
 (∀ op,op= .eql∨op= .neq→(eqGuard op t x y p q).run P w= .ok () w)∧(binOp .eql t p q).run P w= .ok (.bool r) w∧(binOp .neq t p q).run P w= .ok (.bool (!r)) w
theorem EqS.of{p q:Value}{r:Bool}(h:Jau p q=true∧(binOp .eql t p q).run P w= .ok (.bool r) w∧(binOp .neq t p q).run P w= .ok (.bool (!r)) w):EqS P t x y p q r w:=
 ⟨fun op _=>by rw [Jg3 h.1];rfl,h.2⟩
theorem Jz4{c:Bool}(hc:c=(Z3 x || Z3 y)){r:Bool}(e:eqV P c t a b=some r)(hx:Rv Φ a (ρ x))(hy:Rv Φ b (ρ y)):EqS P t x y (ρ x) (ρ y) r w:=by
 unfold eqV at e
 split at e
 ·obtain⟨he,rfl⟩:=X5 e
  have:=Ks he;subst this
  rw [hx.iI,hy.iI,Jgq];refine EqS.of ⟨rfl,?_,?_⟩
  ·rw [binOp_eql];rfl
  ·rw [binOp_neq];rfl
 ·obtain⟨he,rfl⟩:=X5 e;rw [hx.bI,hy.bI];exact EqS.of ⟨rfl,run_eql_bool w t _ _ (Jfs he),by rw [run_neq_bool w t _ _ (Jfs he)]⟩
 ·rename_i l m
  cases e
  obtain⟨h1,hx⟩:=hx.sI;obtain⟨h2,hy⟩:=hy.sI;rw [hx,hy,Jd8]
  have:decide (l=m)=(l.map UInt8.ofNat == m.map UInt8.ofNat):=by
   rw [Bool.eq_iff_iff];simp only [decide_eq_true_iff,beq_iff_eq];exact⟨fun e=>by rw [e],fun e=>Jmn h1 h2 e⟩
  refine EqS.of ⟨rfl,?_,?_⟩
  ·unfold str;rw [binOp_string_eql,ByteArray.toList_eq,ByteArray.toList_eq,this];rfl
  ·unfold str;rw [binOp_string_neq,ByteArray.toList_eq,ByteArray.toList_eq,this];rfl
 ·obtain⟨he,rfl⟩:=X5 e;obtain⟨q,hq⟩:=Jed he;simp only [Rv] at hx hy;rw [hx,hy];exact EqS.of <| eq2 rfl (hr:=eqP1 hq)
 ·obtain⟨he,rfl⟩:=X5 e;obtain⟨q,hq⟩:=Jed he;obtain⟨_,_,hy⟩:=hy.pI;simp only [Rv] at hx;rw [hx,hy];exact EqS.of <| eq2 rfl (hr:=eqP1 hq)
 ·obtain⟨he,rfl⟩:=X5 e;obtain⟨q,hq⟩:=Jed he;obtain⟨_,_,hx⟩:=hx.pI;simp only [Rv] at hy;rw [hx,hy];exact EqS.of <| eq2 rfl (hr:=eqP2 hq)
 ·obtain⟨he,rfl⟩:=X5 e;obtain⟨q,hq⟩:=xz he;simp only [Rv] at hx hy;rw [hx,hy];exact EqS.of <| eq2 rfl (hr:=eqS1 hq)
 ·obtain⟨he,rfl⟩:=X5 e;obtain⟨q,hq⟩:=xz he;obtain⟨_,_,_,hy,_⟩:=hy.slI;simp only [Rv] at hx;rw [hx,hy];exact EqS.of <| eq2 rfl (hr:=eqS1 hq)
 ·obtain⟨he,rfl⟩:=X5 e;obtain⟨q,hq⟩:=xz he;obtain⟨_,_,_,hx,_⟩:=hx.slI;simp only [Rv] at hy;rw [hx,hy];exact EqS.of <| eq2 rfl (hr:=eqS2 hq)
 ·obtain⟨he,rfl⟩:=X5 e;obtain⟨_,_,_,hq⟩:=Jjk he;simp only [Rv] at hx hy;rw [hx,hy];exact EqS.of <| eq2 rfl (hr:=eqF0 hq)
 ·obtain⟨he,rfl⟩:=X5 e;obtain⟨_,_,_,hq⟩:=Jjk he;obtain⟨_,hy,_⟩:=hy.fnI;simp only [Rv] at hx;rw [hx,hy];exact EqS.of <| eq2 rfl (hr:=eqF1 hq)
 ·obtain⟨he,rfl⟩:=X5 e;obtain⟨_,_,_,hq⟩:=Jjk he;obtain⟨_,hx,_⟩:=hx.fnI;simp only [Rv] at hy;rw [hx,hy];exact EqS.of <| eq2 rfl (hr:=eqF2 hq)
 ·obtain⟨he,rfl⟩:=X5 e;obtain⟨h1,h2⟩:=Zp he;obtain⟨_,hq⟩:=Jkd h1;have hcc:Z3 x=true∨Z3 y=true:=by rw [hc] at h2;simpa using h2
  simp only [Rv] at hx hy;refine⟨fun op ho=>?_,?_⟩
  ·rw [hx,hy]
   rcases hcc with h | h <;> obtain⟨v,rfl⟩:=Jih h
   ·rcases ho with rfl | rfl <;> simp [eqGuard]
   ·rcases ho with rfl | rfl <;> cases x <;> simp [eqGuard]
  ·rw [hx,hy];refine⟨?_,?_⟩
   ·rw [show binOp .eql t .nilIface .nilIface=(do pure (.bool (← Op.equal t .nilIface .nilIface))) from rfl,eqIn,Sem.run_bind,eqI0 hq];rfl
   ·rw [show binOp .neq t .nilIface .nilIface=(do pure (.bool (!(← Op.equal t .nilIface .nilIface)))) from rfl,eqIn,Sem.run_bind,eqI0 hq];rfl
 ·obtain⟨he,rfl⟩:=X5 e;obtain⟨_,hq⟩:=Jkd he;simp only [Rv] at hx hy;obtain⟨_,hy,_⟩:=hy;rw [hx,hy];exact EqS.of <| eq2 rfl (hr:=eqI1 hq)
 ·obtain⟨he,rfl⟩:=X5 e;obtain⟨_,hq⟩:=Jkd he;simp only [Rv] at hx hy;obtain⟨_,hx,_⟩:=hx;rw [hx,hy];exact EqS.of <| eq2 rfl (hr:=eqI2 hq)
 ·obtain⟨he,rfl⟩:=X5 e;obtain⟨_,_,hq⟩:=Jer he;simp only [Rv] at hx hy;rw [hx,hy];exact EqS.of <| eq2 rfl (hr:=eqM1 hq)
 ·obtain⟨he,rfl⟩:=X5 e;obtain⟨_,_,hq⟩:=Jer he;simp only [Rv] at hx hy;obtain⟨_,_,hy⟩:=hy;rw [hx,hy];exact EqS.of <| eq2 rfl (hr:=eqM1 hq)
 ·obtain⟨he,rfl⟩:=X5 e;obtain⟨_,_,hq⟩:=Jer he;simp only [Rv] at hx hy;obtain⟨_,_,hx⟩:=hx;rw [hx,hy];exact EqS.of <| eq2 rfl (hr:=eqM2 hq)
 ·obtain⟨he,rfl⟩:=X5 e;obtain⟨he,h2⟩:=Zp he;obtain⟨h0,h1⟩:=Zp he;obtain⟨inf,hinf⟩:=Option.isSome_iff_exists.1 h0;obtain⟨el,hel,hte⟩:=Option.bind_eq_some_iff.1 hinf;have hq:=Jr8 hel;have e1:=Nat.eq_of_beq_eq_true h1;have e2:=Nat.eq_of_beq_eq_true h2;subst e1;subst e2;obtain⟨e1,he1,hx⟩:=hx.pI;obtain⟨e2,he2,hy⟩:=hy.pI;rw [he1] at he2;cases he2;rw [hx,hy];have hall:∀ (A:Addr) (d:Nat),(Op.equalIn (d+1) t (.pointer (some A)) (.pointer (some A))).run P w= .ok true w:=fun A d=>by
   simp [Op.equalIn,run_underlying hq,sizeOf,typeInfo,hte,run_sameAddr_same]
  exact EqS.of <| eq2 rfl (hr:=hall _ 9999)
 ·rename_i xs ys
  cases hg:P.eqGuardType P.depth t with
  | true=>rw [hg] at e;cases e
  | false=>
   rw [hg] at e;have hr:=eqT_s (w:=w) 4 t _ _ _ _ _ 10000 (by omega) e hx hy;obtain⟨Xs,hX,_⟩:=hx.agI;obtain⟨Ys,hY,_⟩:=hy.agI;rw [hX,hY] at hr ⊢;refine⟨fun op _=>run_eqGuard_agg w op t x y _ _ hg,?_,?_⟩
   ·rw [run_eql_struct,hr];rfl
   ·rw [run_neq_struct,hr];rfl
 ·cases e
theorem binE{op:BinOp}{u:Value}(hg:(eqGuard op t x y (ρ x) (ρ y)).run P w= .ok () w)(hr:(binOp op t (ρ x) (ρ y)).run P w= .ok u w)(h:Rv Φ v u):
  St P ρ ⟨dst,.binOp op t x y yt,ty,pos,after,gd⟩ w (KP Φ w v) KF:=by
 refine J3c (v:=u) ?_ ⟨rfl,h⟩;simp [execOp,hg,hr]
theorem Jw0(e:bEql P (Z3 x || Z3 y) t a b h= .ok v h'):h'=h∧(Rv Φ a (ρ x)→Rv Φ b (ρ y)→St P ρ ⟨dst,.binOp .eql t x y yt,ty,pos,after,gd⟩ w (KP Φ w v) KF):=by
 unfold bEql at e
 split at e
 ·rename_i r hr
  obtain⟨rfl,rfl⟩:=zn e;refine⟨rfl,fun hx hy=>?_⟩
  obtain⟨h1,h2,_⟩:=Jz4 (w:=w) rfl hr hx hy;exact binE (h1 _ (.inl rfl)) h2 Rv.mb
 ·cases e
theorem Jxi(e:bNeq P (Z3 x || Z3 y) t a b h= .ok v h'):h'=h∧(Rv Φ a (ρ x)→Rv Φ b (ρ y)→St P ρ ⟨dst,.binOp .neq t x y yt,ty,pos,after,gd⟩ w (KP Φ w v) KF):=by
 unfold bNeq at e
 split at e
 ·rename_i r hr
  obtain⟨rfl,rfl⟩:=zn e;refine⟨rfl,fun hx hy=>?_⟩
  obtain⟨h1,_,h2⟩:=Jz4 (w:=w) rfl hr hx hy;exact binE (h1 _ (.inr rfl)) h2 Rv.mb
 ·cases e
theorem Jxs:∀ (a b:List Nat),(∀ n ∈ a,n < 256)→(∀ n ∈ b,n < 256)→ltL a b=Op.bytesLess (a.map UInt8.ofNat) (b.map UInt8.ofNat):=by
 intro a
 induction a with
 | nil=>intro b _ _;cases b <;> rfl
 | cons x a ih=>
  intro b ha hb
  cases b with
  | nil=>rfl
  | cons y b=>
   have hx:=ha x (by simp);have hy:=hb y (by simp);have ih:=ih b (fun n hn=>ha n (by simp [hn])) (fun n hn=>hb n (by simp [hn]))
   show(Bool.rec (Bool.rec false (ltL a b) (Nat.beq x y)) true (Nat.blt x y):Bool)=_
   rw [List.map_cons,List.map_cons,Jlu,ze,ih];have e1:(UInt8.ofNat x < UInt8.ofNat y)↔x < y:=by
    rw [UInt8.lt_iff_toNat_lt,u8n hx,u8n hy]
   have e2:(UInt8.ofNat x=UInt8.ofNat y)↔x=y:=by
    rw [← UInt8.toNat_inj,u8n hx,u8n hy]
   by_cases h1:x < y
   ·rw [decide_eq_true h1]
    show true=_
    simp [Op.bytesLess,e1,h1]
   ·rw [decide_eq_false h1]
    show(Bool.rec false _ (decide (x=y)):Bool)=_
    by_cases h2:x=y
    ·rw [decide_eq_true h2];subst h2;simp [Op.bytesLess]
    ·rw [decide_eq_false h2];simp [Op.bytesLess,e1,e2,h1,h2]
theorem Jy0(e:bLss a b h= .ok v h'):h'=h∧(Rv Φ a (ρ x)→Rv Φ b (ρ y)→St P ρ ⟨dst,.binOp .lss t x y yt,ty,pos,after,gd⟩ w (KP Φ w v) KF):=by
 unfold bLss at e
 split at e
 ·obtain⟨he,e⟩:=recB e;obtain⟨rfl,rfl⟩:=zn e;refine⟨rfl,fun hx hy=>?_⟩
  have:=Ks he;subst this
  exact St.lss hx.iI hy.iI (xl _ _).symm ⟨rfl,Rv.mb⟩
 ·obtain⟨rfl,rfl⟩:=zn e;refine⟨rfl,fun hx hy=>?_⟩
  obtain⟨h1,hx⟩:=hx.sI;obtain⟨h2,hy⟩:=hy.sI;exact J47 hx hy (Jxs _ _ h1 h2).symm ⟨rfl,Rv.mb⟩
 ·cases e
theorem J0a(e:bLeq a b h= .ok v h'):h'=h∧(Rv Φ a (ρ x)→Rv Φ b (ρ y)→St P ρ ⟨dst,.binOp .leq t x y yt,ty,pos,after,gd⟩ w (KP Φ w v) KF):=by
 unfold bLeq at e
 split at e
 ·obtain⟨he,e⟩:=recB e;obtain⟨rfl,rfl⟩:=zn e;refine⟨rfl,fun hx hy=>?_⟩
  have:=Ks he;subst this
  exact St.leq hx.iI hy.iI (by rw [xl,← decide_not,decide_eq_decide];omega) ⟨rfl,Rv.mb⟩
 ·cases e
theorem Jzh(e:bGtr a b h= .ok v h'):h'=h∧(Rv Φ a (ρ x)→Rv Φ b (ρ y)→St P ρ ⟨dst,.binOp .gtr t x y yt,ty,pos,after,gd⟩ w (KP Φ w v) KF):=by
 unfold bGtr at e
 split at e
 ·obtain⟨he,e⟩:=recB e;obtain⟨rfl,rfl⟩:=zn e;refine⟨rfl,fun hx hy=>?_⟩
  have:=Ks he;subst this
  exact St.gtr hx.iI hy.iI (xl _ _).symm ⟨rfl,Rv.mb⟩
 ·cases e
theorem J0k(e:bGeq a b h= .ok v h'):h'=h∧(Rv Φ a (ρ x)→Rv Φ b (ρ y)→St P ρ ⟨dst,.binOp .geq t x y yt,ty,pos,after,gd⟩ w (KP Φ w v) KF):=by
 unfold bGeq at e
 split at e
 ·obtain⟨he,e⟩:=recB e;obtain⟨rfl,rfl⟩:=zn e;refine⟨rfl,fun hx hy=>?_⟩
  have:=Ks he;subst this
  exact St.geq hx.iI hy.iI (by rw [xl,← decide_not,decide_eq_decide];omega) ⟨rfl,Rv.mb⟩
 ·cases e
end
theorem Jos(k:IntKind){z z':Int}(h:z % 2 ^ k.bits=z' % 2 ^ k.bits):k.wrap z=k.wrap z':=by unfold IntKind.wrap;simp only [h]
theorem Joj(k:IntKind)(a:Int):k.wrap ((BitVec.ofInt k.bits (if k.signed then -1 else k.max) ^^^ BitVec.ofInt k.bits a).toNat:Int)=k.wrap (-1 - a):=by
 have e1:BitVec.ofInt k.bits (if k.signed then -1 else k.max)=BitVec.allOnes k.bits:=by cases k <;> rfl
 rw [e1,BitVec.allOnes_xor,BitVec.toNat_not,BitVec.toNat_ofInt]
 apply Jos
 have hN:(0:Int) < 2 ^ k.bits:=Int.pow_pos (by omega)
 generalize hn:(2:Int) ^ k.bits=N at *
 have hc:((2 ^ k.bits:Nat):Int)=N:=by rw [← hn];simp
 have h1:=Int.emod_add_mul_ediv a N;have h2:=Int.emod_nonneg a (show N≠0 by omega);have h3:=Int.emod_lt_of_pos a hN;have h4:((2 ^ k.bits - 1 - (a % ((2 ^ k.bits:Nat):Int)).toNat:Nat):Int)=(-1 - a)+N * (a / N+1):=by
  rw [Int.mul_add,Int.mul_one,hc]
  have:((2 ^ k.bits - 1 - (a % N).toNat:Nat):Int)=N - 1 - a % N:=by omega
  rw [this];omega
 rw [h4,Int.add_mul_emod_self_left]
def Pu(P:Program)(op:Op)(f:Fr)(v:AV):Prop:=∀ (Φ:Phi) (F:Wf.Fr) (w:World) (dst:Option Tmp) (ty:TypeId) (pos:String) (after:Array Edge) (gd:Option (Nat × Bool)),FR Φ f F→
 St P (fe F) ⟨dst,op,ty,pos,after,gd⟩ w (KP Φ w v) KF
section
variable {P:Program} {f:Fr} {v:AV} {h h':Hp}
theorem Js4{op:BinOp}{t yt:TypeId}{x y:Operand}(e:Jev P op t x y f h= .ok v h'):h'=h∧Pu P (.binOp op t x y yt) f v:=by
 have key:∀ {g:AV→AV→Hp→Res},g (opd f x) (opd f y) h= .ok v h'→(∀ {Φ:Phi} {ρ:Operand→Value} {dst:Option Tmp} {ty:TypeId} {pos:String} {after:Array Edge} {gd:Option (Nat × Bool)} {w:World},
   g (opd f x) (opd f y) h= .ok v h'→h'=h∧(Rv Φ (opd f x) (ρ x)→Rv Φ (opd f y) (ρ y)→St P ρ ⟨dst,.binOp op t x y yt,ty,pos,after,gd⟩ w (KP Φ w v) KF))→h'=h∧Pu P (.binOp op t x y yt) f v:=by
  intro g hg hh;refine⟨(hh (Φ:=fun _=>none) (ρ:=fun _=> .nilFunc) (dst:=none) (ty:=0) (pos:= "") (after:= #[]) (gd:=none) (w:=default) hg).1,?_⟩;intro Φ F w dst ty pos after gd hF
  exact(hh hg).2 (Jd hF x) (Jd hF y)
 cases op
 ·exact key (g:=bAdd) e Jwo
 ·exact key (g:=bSub) e Jx1
 ·exact key (g:=bMul) e Jyd
 ·exact key (g:=bQuo) e Jzt
 ·exact key (g:=bRem) e Jxg
 all_goals first
  | exact key (g:=Vh fun m n=>Nat.xor m (Nat.land m n)) e Jkl
  | exact key (g:=Vh Nat.land) e Jww
  | exact key (g:=Vh Nat.lor) e bOr_s
  | exact key (g:=Vh Nat.xor) e J0g
  | exact key (g:=bShl) e Jz3
  | exact key (g:=bShr) e Jxy
  | exact key (g:=bEql P (Z3 x || Z3 y) t) e Jw0
  | exact key (g:=bNeq P (Z3 x || Z3 y) t) e Jxi
  | exact key (g:=bLss) e Jy0
  | exact key (g:=bLeq) e J0a
  | exact key (g:=bGtr) e Jzh
  | exact key (g:=bGeq) e J0k
  | cases e
theorem ym{x:Operand}(e:Jby x f h= .ok v h'):h'=h∧Pu P (.move x) f v∧Pu P (.assign x) f v:=by
 obtain⟨rfl,rfl⟩:=Jv e;exact⟨rfl,fun Φ F w dst ty pos after gd hF=>St.move ⟨rfl,Jd hF x⟩,fun Φ F w dst ty pos after gd hF=>St.assign ⟨rfl,Jd hF x⟩⟩
theorem Jns{c a b:Operand}(e:zi c a b f h= .ok v h'):h'=h∧Pu P (.pick c a b) f v:=by
 unfold zi at e
 split at e
 ·rename_i t ht
  cases t
  ·obtain⟨rfl,rfl⟩:=Jv e;refine⟨rfl,fun Φ F w dst ty pos after gd hF=>?_⟩
   have:=Jd hF c
   rw [ht] at this;exact St.pick this.bI ⟨rfl,Jd hF b⟩
  ·obtain⟨rfl,rfl⟩:=Jv e;refine⟨rfl,fun Φ F w dst ty pos after gd hF=>?_⟩
   have:=Jd hF c
   rw [ht] at this;exact St.pick this.bI ⟨rfl,Jd hF a⟩
 ·cases e
theorem Jdb{x:Operand}(e:Y9 x f h= .ok v h'):h'=h∧Pu P (.nilCheck x) f v:=by
 unfold Y9 at e
 split at e
 ·rename_i id off hx
  obtain⟨rfl,rfl⟩:=Jv e;refine⟨rfl,fun Φ F w dst ty pos after gd hF=>?_⟩
  have:=Jd hF x
  rw [hx] at this;obtain⟨e,he,hv⟩:=this.pI;exact St.nilCheck hv ⟨rfl,Rv.mp he⟩
 ·rename_i k c hx
  obtain⟨rfl,rfl⟩:=Jv e;refine⟨rfl,fun Φ F w dst ty pos after gd hF=>?_⟩
  have hr:=Jd hF x;rw [hx] at hr;obtain⟨vs,hv,_⟩:=hr.fnI;refine J3c (v:=fe F x) (w':=w) ?_ ⟨rfl,hr⟩;simp [execOp,hv]
 ·rename_i g off hx
  obtain⟨rfl,rfl⟩:=Jv e;refine⟨rfl,fun Φ F w dst ty pos after gd hF=>?_⟩
  have hr:=Jd hF x;rw [hx] at hr;have hv:=hr;simp only [Rv] at hv;exact St.nilCheck hv ⟨rfl,by rw [← hv];exact hr⟩
 ·cases e
theorem Jzr{op:UnOp}{t:TypeId}{x:Operand}(e:evUn op x f h= .ok v h'):h'=h∧Pu P (.unOp op t x) f v:=by
 unfold evUn at e
 split at e
 ·rename_i hx
  obtain⟨rfl,rfl⟩:=zn e;refine⟨rfl,fun Φ F w dst ty pos after gd hF=>?_⟩
  have:=Jd hF x
  rw [hx] at this;exact St.not this.bI ⟨rfl,Rv.mb⟩
 ·rename_i hx
  obtain⟨rfl,rfl⟩:=Q0 e;refine⟨rfl,fun Φ F w dst ty pos after gd hF=>?_⟩
  have:=Jd hF x
  rw [hx] at this;exact St.neg this.iI (K8 _ _).symm ⟨rfl,Rv.mi⟩
 ·rename_i k a hx
  obtain⟨rfl,rfl⟩:=Q0 e;refine⟨rfl,fun Φ F w dst ty pos after gd hF=>?_⟩
  have hr:=Jd hF x;rw [hx] at hr;refine J3c (v:= .int k (jf k (Int.sub (Int.negSucc 0) a))) (w':=w) ?_ ⟨rfl,Rv.mi⟩;rw [K8];have e9:Op.intBits .xor k (if k.signed then -1 else k.max) a=pure (.int k (k.wrap ((Int.negSucc 0).sub a))):=by
   show pure (Value.int k (k.wrap ((BitVec.ofInt k.bits (if k.signed then -1 else k.max) ^^^ BitVec.ofInt k.bits a).toNat:Int)))=_
   rw [Joj];rfl
  simp [execOp,hr.iI,Op.unary,e9]
 ·cases e
theorem Jlt{s d:TypeId}{x:Operand}(e:Qo P s d x f h= .ok v h'):h'=h∧Pu P (.convert s d x) f v:=by
 unfold Qo at e
 split at e
 ·rename_i hx
  split at e
  ·rename_i j hj
   obtain⟨hs,e⟩:=recB e;obtain⟨rfl,rfl⟩:=Q0 e;refine⟨rfl,fun Φ F w dst ty pos after gd hF=>?_⟩
   have:=Jd hF x
   rw [hx] at this;exact J3d hs (Jvx hj) this.iI (K8 _ _).symm ⟨rfl,Rv.mi⟩
  ·cases e
 ·rename_i l hx
  obtain⟨hs,e⟩:=recB e;obtain⟨rfl,rfl⟩:=Jv e;obtain⟨h1,h2⟩:=Zp hs;refine⟨rfl,fun Φ F w dst ty pos after gd hF=>?_⟩
  have hr:=Jd hF x;rw [hx] at hr;refine J3c (v:=fe F x) (w':=w) ?_ ⟨rfl,hr⟩;obtain⟨_,hv⟩:=hr.sI;simp [execOp,hv,str,convert,run_underlying (Vr h1),run_underlying (Vr h2)]
 ·cases e
theorem vm{s:TypeId}{x:Operand}{i:Nat}(e:Yo P s x i f h= .ok v h'):h'=h∧Pu P (.fieldAddr s x i) f v:=by
 unfold Yo at e
 split at e
 ·rename_i id off hx
  split at e
  ·rename_i o ho
   rw [Xr] at e;obtain⟨rfl,rfl⟩:=Jv e;refine⟨rfl,fun Φ F w dst ty pos after gd hF=>?_⟩
   have:=Jd hF x
   rw [hx] at this;obtain⟨e,he,hv⟩:=this.pI;exact St.fieldAddr ho hv ⟨rfl,by rw [Nat.add_assoc];exact Rv.mp he⟩
  ·cases e
 ·rename_i g off hx
  split at e
  ·rename_i o ho
   rw [Xr] at e;obtain⟨rfl,rfl⟩:=Jv e;refine⟨rfl,fun Φ F w dst ty pos after gd hF=>?_⟩
   have hr:=Jd hF x;rw [hx] at hr;simp only [Rv] at hr;exact St.fieldAddr ho hr ⟨rfl,by simp only [Rv];rfl⟩
  ·cases e
 ·cases e
theorem Jea{t n e:Nat}(h:Jg5 P t=some (n,e)):P.underlying t=some (.array n e):=by unfold Jg5 at h;split at h <;> first | (cases h;assumption) | cases h
theorem J4l {ρ:Operand→Value} {dst:Option Tmp} {ty:TypeId} {pos:String} {after:Array Edge} {gd:Option (Nat × Bool)} {w:World} {K:Value→World→Prop} {Kp:List PanicEntry→World→Prop}
  {x i:Operand} {t e n:Nat} {b o:Nat} {k:IntKind} {a:Int} {j:Nat} {inf:TypeInfo} (ht:P.underlying t=some (.array n e)) (hi:P.info? e=some inf)
  (hx:ρ x= .pointer (some ⟨b,o,none⟩)) (hy:ρ i= .int k a) (ha:a=j) (hj:j < n) (h:K (.pointer (some ⟨b,o+j * inf.size,none⟩)) w):
  St P ρ ⟨dst,.indexAddr t x i,ty,pos,after,gd⟩ w K Kp:=by
 subst ha;refine J3c (v:= .pointer (some ⟨b,o+j * inf.size,none⟩)) ?_ h;simp [execOp,hx,hy,Instr.indexAt,Instr.sureAddr,asIntOf,run_underlying ht,sizeOf,typeInfo,hi,hj,Addr.add_lit]
theorem vh{t:TypeId}{x i:Operand}(e:Zw P t x i f h= .ok v h'):h'=h∧Pu P (.indexAddr t x i) f v:=by
 unfold Zw at e
 split at e
 ·rename_i id off n z cap hx
  split at e
  ·cases e
  ·rename_i sz hsz
   obtain⟨k,j,hi,e⟩:=recN e;obtain⟨hc,e⟩:=recB e;obtain⟨h1,h2⟩:=Zp hc;rw [Xr] at e;obtain⟨rfl,rfl⟩:=Jv e;have hz:sz=z:=Nat.eq_of_beq_eq_true h2;subst hz;refine⟨rfl,fun Φ F w dst ty pos after gd hF=>?_⟩
   have hxs:=Jd hF x;have his:=Jd hF i;rw [hx] at hxs;rw [hi] at his;obtain⟨e,c,he,hv,_⟩:=hxs.slI;rw [Option.bind_eq_some_iff] at hsz;obtain⟨el,hel,hsz⟩:=hsz;obtain⟨zv,by_,hinf⟩:=Vk hsz;obtain⟨inf,hi',_,hs,_⟩:=Jl hinf;refine St.indexAddr (ki hel) hi' hs hv his.iI rfl (Yc h1) ⟨rfl,?_⟩;rw [Nat.add_assoc];exact Rv.mp he
 ·rename_i id off hx
  split at e
  ·cases e
  ·rename_i q hq
   split at e
   ·cases e
   ·rename_i sz hsz
    obtain⟨k,j,hi,e⟩:=recN e;obtain⟨hc,e⟩:=recB e;obtain⟨h1,h2⟩:=Zp hc;rw [Xr] at e;obtain⟨rfl,rfl⟩:=Jv e;refine⟨rfl,fun Φ F w dst ty pos after gd hF=>?_⟩
    have hxs:=Jd hF x;have his:=Jd hF i;rw [hx] at hxs;rw [hi] at his;obtain⟨e,he,hv⟩:=hxs.pI;obtain⟨zv,by_,hinf⟩:=Vk hsz;obtain⟨inf,hi',_,hs,_⟩:=Jl hinf;subst hs;refine J4l (Jea hq) hi' hv his.iI rfl (Yc h1) ⟨rfl,?_⟩;rw [Nat.add_assoc];exact Rv.mp he
 ·rename_i id off hx
  split at e
  ·cases e
  ·rename_i q hq
   split at e
   ·cases e
   ·rename_i sz hsz
    obtain⟨k,j,hi,e⟩:=recN e;obtain⟨hc,e⟩:=recB e;obtain⟨h1,h2⟩:=Zp hc;rw [Xr] at e;obtain⟨rfl,rfl⟩:=Jv e;refine⟨rfl,fun Φ F w dst ty pos after gd hF=>?_⟩
    have hxs:=Jd hF x;have his:=Jd hF i;rw [hx] at hxs;rw [hi] at his;simp only [Rv] at hxs;obtain⟨zv,by_,hinf⟩:=Vk hsz;obtain⟨inf,hi',_,hs,_⟩:=Jl hinf;subst hs;exact J4l (Jea hq) hi' hxs his.iI rfl (Yc h1) ⟨rfl,by simp only [Rv];rfl⟩
 ·cases e
theorem Jj1{t:TypeId}{x i:Operand}(e:Xp P t x i f h= .ok v h'):h'=h∧Pu P (.index t x i) f v:=by
 unfold Xp at e
 split at e
 ·rename_i l hx
  obtain⟨ht,e⟩:=recB e;obtain⟨k,j,hi,e⟩:=recN e
  split at e
  ·rename_i c hc
   obtain⟨rfl,rfl⟩:=Jv e;rw [V1] at hc;refine⟨rfl,fun Φ F w dst ty pos after gd hF=>?_⟩
   have hxs:=Jd hF x;have his:=Jd hF i;rw [hx] at hxs;rw [hi] at his;obtain⟨hl,hv⟩:=hxs.sI;have hcl:=hl c (List.mem_of_getElem? hc);refine J30 (c:=UInt8.ofNat c) (Vr ht) hv his.iI rfl (by rw [List.getElem?_map,hc];rfl) ⟨rfl,?_⟩;rw [u8n hcl];exact Rv.mi
  ·cases e
 ·rename_i cs hx
  split at e
  ·cases e
  ·rename_i q hq
   split at e
   ·cases e
   ·rename_i sz hsz
    obtain⟨k,j,hi,e⟩:=recN e;obtain⟨hc,e⟩:=recB e
    split at e
    ·rename_i r hr
     obtain⟨rfl,rfl⟩:=Jv e;refine⟨rfl,fun Φ F w dst ty pos after gd hF=>?_⟩
     have hxs:=Jd hF x;have his:=Jd hF i;rw [hx] at hxs;rw [hi] at his;obtain⟨Cs,hv,hC⟩:=hxs.agI;obtain⟨A,h1,h2⟩:=Jbp (w:=w) hr hC;obtain⟨zv,by_,hinf⟩:=Vk hsz;obtain⟨inf,hi',_,hs,_⟩:=Jl hinf;subst hs;refine J3c (v:=A) (w':=w) ?_ ⟨rfl,h2⟩;have hlt:j < q.1:=Yc hc;have h1':(part q.2 Cs.toArray (j * inf.size)).run P w= .ok A w:=h1;simp [execOp,hv,his.iI,Instr.index,asIntOf,run_underlying (Jea hq),sizeOf,typeInfo,hi',hlt,h1']
    ·cases e
 ·cases e
theorem Jul{s i:Nat}{q:TypeId × Nat}(h:Jhd P s i=some q):∃ fs:Array Field,∃ fl,P.underlying s=some (.struct fs)∧fs[i]? =some fl∧q=(fl.type,fl.offset):=by
 unfold Jhd at h
 split at h
 ·rename_i fs hu
  rw [Option.map_eq_some_iff] at h;obtain⟨fl,h1,h2⟩:=h;exact⟨fs,fl,hu,h1,h2.symm⟩
 ·cases h
theorem Jj3{s:TypeId}{x:Operand}{i:Nat}(e:Qx P s x i f h= .ok v h'):h'=h∧Pu P (.field s x i) f v:=by
 unfold Qx at e
 split at e
 ·rename_i cs hx
  split at e
  ·cases e
  ·rename_i q hq
   split at e
   ·rename_i r hr
    obtain⟨rfl,rfl⟩:=Jv e;refine⟨rfl,fun Φ F w dst ty pos after gd hF=>?_⟩
    have hxs:=Jd hF x;rw [hx] at hxs;obtain⟨Cs,hv,hC⟩:=hxs.agI;obtain⟨A,h1,h2⟩:=Jbp (w:=w) hr hC;obtain⟨fs,fl,hu,hf,rfl⟩:=Jul hq;refine J3c (v:=A) (w':=w) ?_ ⟨rfl,h2⟩;have h1':(part fl.type Cs.toArray fl.offset).run P w= .ok A w:=h1;simp [execOp,hv,Instr.field,run_underlying hu,hf,asAgg,h1']
   ·cases e
 ·cases e
theorem j0{t:TypeId}{x:Operand}(e:Zu P t x f h= .ok v h'):h'=h∧Pu P (.makeInterface t x) f v:=by
 unfold Zu at e;obtain⟨ht,e⟩:=recB e;obtain⟨rfl,rfl⟩:=Jv e;refine⟨rfl,fun Φ F w dst ty pos after gd hF=>St.makeInterface ht ⟨rfl,?_⟩⟩;simp only [Rv];exact⟨_,rfl,Jd hF x⟩
theorem Jrb{Φ:Phi}{w:World}{t:TypeId}{z:AV}(h:zvOf P t=some z):∃ Z,(zeroValue t).run P w= .ok Z w∧Rv Φ z Z:=by
 unfold zvOf at h;rw [Option.map_eq_some_iff] at h;obtain⟨⟨Z,s,b⟩,h1,h2⟩:=h;obtain⟨inf,hi,hz,_,_⟩:=Jl h1;refine⟨Z,by simp [zeroValue,typeInfo,hi,hz],?_⟩;subst h2
 dsimp only
 split
 ·rename_i cs
  simp only [Rv];exact⟨cs.toList,rfl,ko _⟩
 ·exact yh _
theorem Jdz{x:Operand}{i:Nat}(e:Kz x i f h= .ok v h'):h'=h∧Pu P (.extract x i) f v:=by
 unfold Kz at e
 split at e
 ·rename_i l hx
  split at e
  ·rename_i r hu
   obtain⟨rfl,rfl⟩:=Jv e;rw [V1] at hu;refine⟨rfl,fun Φ F w dst ty pos after gd hF=>?_⟩
   have hxs:=Jd hF x;rw [hx] at hxs;simp only [Rv] at hxs;obtain⟨vs,hv,hl⟩:=hxs;obtain⟨y,hy,hr⟩:=hl.at hu;exact St.extract hv (by simpa using hy) ⟨rfl,hr⟩
  ·cases e
 ·cases e
theorem Jb0{fn:Fn}{first cap:Array Operand}(e:Kt fn first cap f h= .ok v h'):h'=h∧Pu P (.makeFunc fn first cap) f v:=by
 unfold Kt at e
 split at e
 ·rename_i k
  split at e
  ·rename_i hf
   obtain⟨rfl,rfl⟩:=Jv e;refine⟨rfl,fun Φ F w dst ty pos after gd hF=>?_⟩
   refine J3c (v:= .func (.func k) #[] (cap.toList.map (fe F)).toArray) (w':=w) ?_ ⟨rfl,?_⟩
   ·have h1:first= #[]:=by apply Array.ext';rw [hf]
    have h2:cap.map (fe F)=(cap.toList.map (fe F)).toArray:=by apply Array.ext';simp
    subst h1;simp [execOp,Instr.makeFunc,h2]
   ·simp only [Rv];exact⟨_,rfl,Xd hF _⟩
  ·cases e
 ·cases e
theorem Jdk{ok:Bool}{at_:TypeId}(e:(Bool.rec (Res.no 171) (match zvOf P at_ with | some z=>Res.ok (.tp [z,.b false]) h | none=>Res.no 171) ok:Res)= .ok v h'):
  h'=h∧ok=true∧∃ z,zvOf P at_=some z∧v= .tp [z,.b false]:=by
 cases ok with
 | false=>cases e
 | true=>
  have e:(match zvOf P at_ with | some z=>Res.ok (.tp [z,.b false]) h | none=>Res.no 171)= .ok v h':=e
  split at e
  ·rename_i z hz
   obtain⟨rfl,rfl⟩:=Jv e;exact⟨rfl,rfl,z,hz,rfl⟩
  ·cases e
theorem Rv.tp2{Φ:Phi}{a b:AV}{A B:Value}(h1:Rv Φ a A)(h2:Rv Φ b B):Rv Φ (.tp [a,b]) (.tuple #[A,B]):=by
 simp only [Rv];exact⟨[A,B],rfl,by simp only [RvL];exact⟨A,[B],rfl,h1,B,[],rfl,h2,rfl⟩⟩
theorem kx{x:Operand}{xt at_:TypeId}{ok:Bool}(e:Yl P x at_ ok f h= .ok v h'):h'=h∧Pu P (.typeAssert x xt at_ ok) f v:=by
 unfold Yl at e
 split at e
 ·cases e
 ·cases e
 ·rename_i D hni hu
  split at e
  ·rename_i hx
   obtain⟨rfl,rfl,z,hz,rfl⟩:=Jdk e;refine⟨rfl,fun Φ F w dst ty pos after gd hF=>?_⟩
   have hxs:=Jd hF x;rw [hx] at hxs;simp only [Rv] at hxs;obtain⟨Z,h1,h2⟩:=Jrb (Φ:=Φ) (w:=w) hz;refine J3c (v:= .tuple #[Z,.bool false]) (w':=w) ?_ ⟨rfl,Rv.tp2 h2 Rv.mb⟩
   cases D <;> first | (exact(hni _ rfl).elim) | simp [execOp,hxs,Instr.typeAssert,run_underlying hu,h1]
  ·rename_i t a hx
   cases hb:Nat.beq t at_ with
   | false=>
    rw [hb] at e;obtain⟨rfl,rfl,z,hz,rfl⟩:=Jdk e;refine⟨rfl,fun Φ F w dst ty pos after gd hF=>?_⟩
    have hxs:=Jd hF x;rw [hx] at hxs;simp only [Rv] at hxs;obtain⟨X,hxs,_⟩:=hxs;obtain⟨Z,h1,h2⟩:=Jrb (Φ:=Φ) (w:=w) hz;have hne:¬ t=at_:=fun e=>by rw [e,Nat.beq_refl] at hb;cases hb
    refine J3c (v:= .tuple #[Z,.bool false]) (w':=w) ?_ ⟨rfl,Rv.tp2 h2 Rv.mb⟩
    cases D <;> first | (exact(hni _ rfl).elim) | simp [execOp,hxs,Instr.typeAssert,run_underlying hu,h1,hne]
   | true=>
    rw [hb] at e;obtain⟨rfl,rfl⟩:=Jv e
    have:=Nat.eq_of_beq_eq_true hb
    subst this;refine⟨rfl,fun Φ F w dst ty pos after gd hF=>?_⟩
    have hxs:=Jd hF x;rw [hx] at hxs;simp only [Rv] at hxs;obtain⟨X,hxs,hX⟩:=hxs
    cases ok with
    | false=>
     refine J3c (v:=X) (w':=w) ?_ ⟨rfl,hX⟩
     cases D <;> first | (exact(hni _ rfl).elim) | simp [execOp,hxs,Instr.typeAssert,run_underlying hu]
    | true=>
     refine J3c (v:= .tuple #[X,.bool true]) (w':=w) ?_ ⟨rfl,Rv.tp2 hX Rv.mb⟩
     cases D <;> first | (exact(hni _ rfl).elim) | simp [execOp,hxs,Instr.typeAssert,run_underlying hu]
  ·cases e
end
end Go.Ev
namespace Go.Ev
open Go Go.Wf Go.RowKit
section
variable {P:Program} {f:Fr} {v:AV} {h h':Hp}
theorem yu{Φ:Phi}{a:AV}{l:List AV}{v:Value}(hc:Zg a=some l)(h:Rv Φ a v):∃ vs:List Value,v.cells=vs.toArray∧RvL Φ l vs:=by
 unfold Zg at hc
 split at hc
 ·cases hc
 ·cases hc
 ·cases hc
  simp only [Rv] at h;obtain⟨vs,rfl,hl⟩:=h;exact⟨vs,rfl,hl⟩
 ·rename_i h1 h2 h3
  cases hc
  refine⟨[v],?_,by simp only [RvL];exact⟨v,[],rfl,h,rfl⟩⟩
  cases a <;> first
   | (exact absurd rfl h1;done)
   | (exact absurd rfl (h2 _);done)
   | (exact absurd rfl (h3 _);done)
   | (simp only [Rv] at h;first
     | (subst h;rfl)
     | (obtain⟨_,rfl⟩:=h;rfl)
     | (obtain⟨_,_,rfl⟩:=h;rfl)
     | (obtain⟨_,rfl,_⟩:=h;rfl)
     | (obtain⟨_,_,_,rfl,_⟩:=h;rfl))
theorem Jjf(vs:List Value)(off:Nat)(C:Array Value)(hf:off+vs.length≤C.size):
  (vs.toArray.zipIdx.foldl (fun cs (c,j)=>cs.setIfInBounds (off+j) c) C)=(C.toList.take off++vs++C.toList.drop (off+vs.length)).toArray:=by
 have key:∀ (vs:List Value) (k off:Nat) (C:List Value),off+k+vs.length≤C.length→
   ((vs.zipIdx k).foldl (fun(cs:Array Value) p=>cs.setIfInBounds (off+p.2) p.1) C.toArray)=(C.take (off+k)++vs++C.drop (off+k+vs.length)).toArray:=by
  intro vs
  induction vs with
  | nil=>intro k off C h;simp
  | cons v vs ih=>
   intro k off C h;rw [List.length_cons] at h;rw [List.zipIdx_cons,List.foldl_cons];have e1:(C.toArray.setIfInBounds (off+k) v)=(C.set (off+k) v).toArray:=by simp
   rw [e1,ih (k+1) off (C.set (off+k) v) (by rw [List.length_set];omega)]
   congr 1
   have hlt:off+k < C.length:=by omega
   rw [List.set_eq_take_append_cons_drop,if_pos hlt];have e2:(C.take (off+k)).length=off+k:=by rw [List.length_take];omega
   rw [show off+(k+1)=(C.take (off+k)).length+1 by rw [e2];omega];rw [List.take_append,List.drop_append];simp only [e2,List.length_cons];rw [List.take_of_length_le (by rw [e2];omega)];have e3:off+k+1 - (off+k)=1:=by omega
   have e4:off+k+1+vs.length - (off+k)=vs.length+1:=by omega
   rw [e3,e4,List.drop_of_length_le (l:=C.take (off+k)) (by rw [e2];omega)];simp only [List.take_succ_cons,List.take_zero,List.nil_append,List.drop_succ_cons,List.append_assoc,List.cons_append];rw [List.drop_drop]
   congr 4
   omega
 have:=key vs 0 off C.toList (by simpa using hf)
 simp only [Nat.add_zero] at this;rw [← this];rw [← Array.foldl_toList];simp
theorem Jio{place:Nat→Option (Nat × Nat)}{k:List AV→Res}:∀ (l:List (Nat × Operand)) (cs:List AV),jc place f l cs k= .ok v h'→
  ∃ cs',k cs'= .ok v h'∧∀ (Φ:Phi) (F:Wf.Fr) (C:List Value),FR Φ f F→RvL Φ cs C→∃ C',Instr.fill place C.toArray (l.map fun p=>(p.1,fe F p.2))=some C'.toArray∧RvL Φ cs' C':=by
 intro l
 induction l with
 | nil=>intro cs e;exact⟨cs,e,fun Φ F C _ hC=>⟨C,rfl,hC⟩⟩
 | cons p l ih=>
  intro cs e;unfold jc at e;simp only at e
  split at e
  ·cases e
  ·rename_i q hq
   split at e
   ·cases e
   ·rename_i vs hvs
    obtain⟨hl,e⟩:=recB e;have hl:=Nat.eq_of_beq_eq_true hl;rw [Qe] at hl;have e':(putK cs q.1 vs fun cs'=>jc place f l cs' k)= .ok v h':=e
    rcases Jk1 cs q.1 vs (fun cs'=>jc place f l cs' k) with ⟨e2,hle⟩ | ⟨n,e2⟩
    ·have e3:jc place f l (cs.take q.1++vs++cs.drop (q.1+vs.length)) k= .ok v h':=e2 ▸ e';obtain⟨cs',h1,h2⟩:=ih _ e3;refine⟨cs',h1,fun Φ F C hF hC=>?_⟩
     obtain⟨us,hu1,hu2⟩:=yu hvs (Jd hF p.2);have hul:=hu2.len;have hcl:=hC.len;obtain⟨C',g1,g2⟩:=h2 Φ F (C.take q.1++us++C.drop (q.1+us.length)) hF (by
      rw [hul]
      exact(((hC.take _).app hu2).app (hC.drop _)))
     refine⟨C',?_,g2⟩;rw [List.map_cons,Instr.fill,hq];simp only;rw [hu1]
     have:¬ (us.toArray.size≠q.2∨q.1+us.toArray.size > C.toArray.size):=by simp;omega
     simp only [Bool.or_eq_true,decide_eq_true_eq];rw [if_neg this,Jjf us q.1 C.toArray (by simp;omega)];exact g1
    ·rw [e2] at e'
     cases e'
theorem Jho{t:TypeId}{pl:List (Nat × Nat)}(h:Jbh P t=some pl):∃ fs,P.underlying t=some (.struct fs)∧fs.toList.mapM (fun f=>(P.info? f.type).map fun i=>(f.offset,i.size))=some pl:=by
 unfold Jbh at h
 split at h
 ·rename_i fs hu;exact⟨fs,hu,h⟩
 ·cases h
theorem Jik{t:TypeId}{ps:Array (Nat × Operand)}(e:Vx P t ps f h= .ok v h'):h'=h∧Pu P (.build t ps) f v:=by
 unfold Vx at e
 split at e
 ·rename_i pl z hpl hz
  obtain⟨cs',h1,h2⟩:=Jio _ _ e;obtain⟨rfl,rfl⟩:=Jv h1;refine⟨rfl,fun Φ F w dst ty pos after gd hF=>?_⟩
  obtain⟨zv,sz,by_,hinf,rfl⟩:=Jdf hz;obtain⟨inf,hi',hzz,_,_⟩:=Jl hinf;obtain⟨C',g1,g2⟩:=h2 Φ F zv.cells.toList hF (ko _);obtain⟨fs,hu,hpl⟩:=Jho hpl;refine St.build (cs:=C') rfl ?_ ⟨rfl,by simp only [Rv];exact⟨C',rfl,g2⟩⟩;unfold Program.built;rw [hi',hu];simp only [hzz,hpl];have e2:(fun x=>pl.toArray[x]?)=nth pl:=by funext i;rw [V1];simp
  rw [e2];have e3:zv.cells.toList.toArray=zv.cells:=by simp
  rw [e3] at g1;exact g1
 ·cases e
theorem Jsb{ts:Array TypeId}{args:Array Operand}(e:Jk9 P ts.toList (opds f args.toList) h= .ok v h'):h'=h∧Pu P (.call {callee:= .builtin .len,args:=args,argTypes:=ts}) f v:=by
 have key:∀ {t:TypeId} {a:AV},ts.toList=[t]→opds f args.toList=[a]→∃ x,args= #[x]∧ts= #[t]∧opd f x=a:=by
  intro t a h1 h2;have e1:ts= #[t]:=by apply Array.ext';rw [h1]
  cases hx:args.toList with
  | nil=>rw [hx] at h2;cases h2
  | cons x r=>
   rw [hx] at h2;have h3:opd f x::opds f r=[a]:=h2
   cases r with
   | cons y r=>cases h3
   | nil=>
    refine⟨x,?_,e1,?_⟩
    ·apply Array.ext';rw [hx]
    ·exact(List.cons.inj h3).1
 unfold Jk9 at e
 split at e
 ·rename_i t id off n z cap h1 h2
  obtain⟨x,rfl,rfl,hx⟩:=key h1 h2;obtain⟨ht,e⟩:=recB e;obtain⟨rfl,rfl⟩:=Jv e;refine⟨rfl,fun Φ F w dst ty pos after gd hF=>?_⟩
  have hr:=Jd hF x;rw [hx] at hr;obtain⟨_,_,_,hv,_⟩:=hr.slI;obtain⟨el,hel⟩:=xz ht;exact St.len hel hv ⟨rfl,Rv.mi⟩
 ·rename_i t h1 h2
  obtain⟨x,rfl,rfl,hx⟩:=key h1 h2;obtain⟨ht,e⟩:=recB e;obtain⟨rfl,rfl⟩:=Jv e;refine⟨rfl,fun Φ F w dst ty pos after gd hF=>?_⟩
  have hr:=Jd hF x;rw [hx] at hr;simp only [Rv] at hr;obtain⟨el,hel⟩:=xz ht;exact St.len hel hr ⟨rfl,Rv.mi⟩
 ·rename_i t h1 h2
  obtain⟨x,rfl,rfl,hx⟩:=key h1 h2;obtain⟨ht,e⟩:=recB e;obtain⟨rfl,rfl⟩:=Jv e;refine⟨rfl,fun Φ F w dst ty pos after gd hF=>?_⟩
  have hr:=Jd hF x;rw [hx] at hr;simp only [Rv] at hr;obtain⟨_,_,hr⟩:=hr;obtain⟨el,hel⟩:=xz ht;exact St.len hel hr ⟨rfl,Rv.mi⟩
 ·rename_i t l h1 h2
  obtain⟨x,rfl,rfl,hx⟩:=key h1 h2;obtain⟨ht,e⟩:=recB e;rw [Xr] at e;obtain⟨rfl,rfl⟩:=Jv e;refine⟨rfl,fun Φ F w dst ty pos after gd hF=>?_⟩
  have hr:=Jd hF x;rw [hx] at hr;obtain⟨_,hv⟩:=hr.sI;refine J4a (Vr ht) hv ⟨rfl,?_⟩;rw [Qe,List.length_map];exact Rv.mi
 ·cases e
theorem two{l:List Operand}{a b:AV}(h:opds f l=[a,b]):∃ x y,l=[x,y]∧opd f x=a∧opd f y=b:=by
 cases l with
 | nil=>cases h
 | cons x l=>
  cases l with
  | nil=>cases h
  | cons y l=>
   cases l with
   | cons z l=>cases h
   | nil=>
    have h3:[opd f x,opd f y]=[a,b]:=h;exact⟨x,y,rfl,(List.cons.inj h3).1,(List.cons.inj (List.cons.inj h3).2).1⟩
theorem Jyk{Φ:Phi}{w:World}{k:IntKind}:∀ (l:List AV) (a:Int) (vs:List Value),minL k h l a= .ok v h'→RvL Φ l vs→∃ z,v= .i k z∧h'=h∧(vs.foldlM Builtin.min2 (.int k a)).run P w= .ok (.int k z) w:=by
 intro l
 induction l with
 | nil=>
  intro a vs e hl;simp only [RvL] at hl;subst hl;obtain⟨rfl,rfl⟩:=Jv e;exact⟨a,rfl,rfl,by simp⟩
 | cons x l ih=>
  intro a vs e hl;simp only [RvL] at hl;obtain⟨y,r,rfl,hy,hr⟩:=hl
  cases x with
  | i k' b=>
   have e:(Bool.rec (minL k h l a) (minL k h l b) (ilt b a):Res)= .ok v h':=e;rw [zu,xl] at e;rw [hy.iI];have hstep:(Builtin.min2 (.int k a) (.int k' b))=pure (.int k (if b < a then b else a)):=rfl;simp only [List.foldlM_cons,hstep,pure_bind]
   by_cases hb:b < a
   ·rw [if_pos (by simpa using hb)] at e;rw [if_pos hb];exact ih b r e hr
   ·rw [if_neg (by simpa using hb)] at e;rw [if_neg hb];exact ih a r e hr
  | _=>cases e
theorem Jy2{k:IntKind}:∀ (l:List AV) (a:Int),minL k h l a= .ok v h'→h'=h:=by
 intro l
 induction l with
 | nil=>intro a e;exact(Jv e).2.symm
 | cons x l ih=>
  intro a e
  cases x with
  | i k' b=>
   have e:(Bool.rec (minL k h l a) (minL k h l b) (ilt b a):Res)= .ok v h':=e;rw [zu] at e
   split at e
   ·exact ih b e
   ·exact ih a e
  | _=>cases e
theorem Juc{ts:Array TypeId}{args:Array Operand}(e:Joh (opds f args.toList) h= .ok v h'):h'=h∧Pu P (.call {callee:= .builtin .min,args:=args,argTypes:=ts}) f v:=by
 unfold Joh at e
 split at e
 ·rename_i k a l h2
  have key:∀ (Φ:Phi) (F:Wf.Fr),FR Φ f F→∃ vs:List Value,args.toList.map (fe F)= .int k a::vs∧RvL Φ l vs:=by
   intro Φ F hF
   have:=Xd hF args.toList
   rw [h2] at this;simp only [RvL] at this;obtain⟨x,r,h3,h4,h5⟩:=this;rw [h4.iI] at h3;exact⟨r,h3,h5⟩
  refine⟨?_,fun Φ F w dst ty pos after gd hF=>?_⟩
  ·exact Jy2 l a e
  ·obtain⟨vs,h3,h5⟩:=key Φ F hF;obtain⟨z,rfl,_,hz⟩:=Jyk (P:=P) (w:=w) l a vs e h5;refine J3c (v:= .int k z) (w':=w) ?_ ⟨rfl,Rv.mi⟩;have h6:(args.map (fe F))=(Value.int k a::vs).toArray:=by apply Array.ext';simp [h3]
   have h7:(Builtin.min_ ts ty (Value.int k a::vs).toArray).run P w= .ok (.int k z) w:=hz;simp [execOp,resolve,invoke,builtin,h6,h7]
 ·cases e
theorem Jrt{ts:Array TypeId}{args:Array Operand}(e:Jsj (opds f args.toList) h= .ok v h'):h'=h∧Pu P (.call {callee:= .builtin .max,args:=args,argTypes:=ts}) f v:=noOk e
theorem Jc8{id:Nat}{k:Blk→Res}{n:Nat}(e:getB h id k (.no n)= .ok v h'):∃ b,id < h.n∧get5 id h.t=some b∧b.ob= .row∧k b= .ok v h':=by
 unfold getB at e;obtain⟨h1,e⟩:=recB e
 cases hb:get5 id h.t with
 | none=>rw [hb] at e;cases e
 | some b=>
  rw [hb] at e;obtain⟨ty,ex,ro,cs,ob⟩:=b
  cases ob <;> first | exact⟨_,Yc h1,rfl,rfl,e⟩ | cases e
theorem Jrk{id:Nat}{k:List En→Nat→Res}{n:Nat}(e:getM h id k (.no n)= .ok v h'):∃ b es c,id < h.n∧get5 id h.t=some b∧b.ob= .map es c∧k es c= .ok v h':=by
 unfold getM at e;obtain⟨h1,e⟩:=recB e
 cases hb:get5 id h.t with
 | none=>rw [hb] at e;cases e
 | some b=>
  rw [hb] at e;obtain⟨ty,ex,ro,cs,ob⟩:=b
  cases ob <;> first | exact⟨_,_,_,Yc h1,rfl,rfl,e⟩ | cases e
theorem Jwm{id:Nat}{k:List AV→Res}{n:Nat}(e:getG h id k (.no n)= .ok v h'):∃ b,id < h.n∧get5 id h.t=some b∧b.ob= .glb∧k b.cs= .ok v h':=by
 unfold getG at e;obtain⟨h1,e⟩:=recB e
 cases hb:get5 id h.t with
 | none=>rw [hb] at e;cases e
 | some b=>
  rw [hb] at e;obtain⟨ty,ex,ro,cs,ob⟩:=b
  cases ob <;> first | exact⟨_,Yc h1,rfl,rfl,e⟩ | cases e
theorem Jxa{id:Nat}{k:Ob→Res}{n:Nat}(e:getO h id k (.no n)= .ok v h'):∃ b,id < h.n∧get5 id h.t=some b∧k b.ob= .ok v h':=by
 unfold getO at e;obtain⟨h1,e⟩:=recB e
 cases hb:get5 id h.t with
 | none=>rw [hb] at e;cases e
 | some b=>rw [hb] at e;exact⟨b,Yc h1,rfl,e⟩
theorem BR.cell{Φ:Phi}{τ:Tau}{w:World}{b:Blk}{e:Ent}{id:Nat}{C:Array Value}{T:TypeId}(r:BR Φ τ w b e id C T){o:Nat}{a:AV}(ha:b.cs[o]? =some a):∃ x,w.cell? ⟨e.g,e.base+o,none⟩=some x∧Rv Φ a x:=by
 obtain⟨x,h1,h2⟩:=r.cr o a ha;obtain⟨fr,ho,_⟩:=r.obj;exact⟨x,by rw [cell_of_row w e.g (e.base+o) C T fr ho];exact h1,h2⟩
theorem BR.cells{Φ:Phi}{τ:Tau}{w:World}{b:Blk}{e:Ent}{id:Nat}{C:Array Value}{T:TypeId}(r:BR Φ τ w b e id C T)(o n:Nat)(hn:n≤(b.cs.drop o).length):
  ∃ vs:List Value,vs.length=n∧RvL Φ ((b.cs.drop o).take n) vs∧∀ j u,vs[j]? =some u→w.cell? ⟨e.g,e.base+o+j,none⟩=some u:=by
 refine⟨(C.toList.drop (e.base+o)).take n,?_,?_,?_⟩
 ·rw [List.length_take,List.length_drop,Array.length_toList,r.size]
  have:=r.le
  rw [List.length_drop] at hn;omega
 ·refine RvL.mk ?_ fun i a x hi hx=>?_
  ·rw [List.length_take,List.length_take,List.length_drop,Array.length_toList,r.size]
   have:=r.le
   rw [List.length_drop] at hn;rw [List.length_drop];omega
  ·rw [List.getElem?_take] at hi hx
   split at hi <;> rename_i hlt
   ·rw [if_pos hlt,List.getElem?_drop] at hx;rw [List.getElem?_drop] at hi;obtain⟨y,h1,h2⟩:=r.cr _ _ hi;have h3:C.toList[e.base+o+i]? =some y:=by rw [← h1];simp [Nat.add_assoc]
    rw [h3] at hx;cases hx;exact h2
   ·cases hi
 ·intro j x hj;rw [List.getElem?_take] at hj
  split at hj
  ·rw [List.getElem?_drop] at hj;obtain⟨fr,ho,_⟩:=r.obj;rw [cell_of_row w e.g (e.base+o+j) C T fr ho];simpa using hj
  ·cases hj
def Rd(P:Program)(op:Op)(f:Fr)(v:AV)(h:Hp):Prop:=∀ (Φ:Phi) (τ:Tau) (F:Wf.Fr) (w:World) (dst:Option Tmp) (ty:TypeId) (pos:String) (after:Array Edge) (gd:Option (Nat × Bool)),FR Φ f F→Rel Φ τ h w→
 St P (fe F) ⟨dst,op,ty,pos,after,gd⟩ w (KP Φ w v) KF
theorem Jf0{t:TypeId}{a:Operand}(e:Qi P t a f h= .ok v h'):h'=h∧Rd P (.load t a) f v h:=by
 unfold Qi at e
 split at e
 ·rename_i id off ha
  obtain⟨b,hid,hb,hrow,e⟩:=Jc8 e
  split at e
  ·rename_i hk
   split at e
   ·rename_i x hx
    obtain⟨rfl,rfl⟩:=Jv e;rw [V1] at hx;refine⟨rfl,fun Φ τ F w dst ty pos after gd hF hR=>?_⟩
    have hr:=Jd hF a;rw [ha] at hr;obtain⟨en,hen,hv⟩:=hr.pI;obtain⟨e',C,T,br⟩:=(hR.blk id b hid hb).row hrow
    have:=br.ent
    rw [hen] at this;cases this;obtain⟨y,hy,hry⟩:=br.cell hx;exact J3e (Jbt hk) hv hy ⟨rfl,hry⟩
   ·cases e
  ·rename_i sz hk
   rcases Jcn (dr b.cs off) sz (fun l=>Res.ok (.ag l) h) with ⟨e2,hle⟩ | ⟨n,e2⟩
   ·rw [e2] at e;obtain⟨rfl,rfl⟩:=Jv e;rw [vg] at hle ⊢;refine⟨rfl,fun Φ τ F w dst ty pos after gd hF hR=>?_⟩
    have hr:=Jd hF a;rw [ha] at hr;obtain⟨en,hen,hv⟩:=hr.pI;obtain⟨e',C,T,br⟩:=(hR.blk id b hid hb).row hrow
    have:=br.ent
    rw [hen] at this;cases this;obtain⟨vs,hl,hrv,hc⟩:=br.cells off sz hle;exact J3v (Jbg hk) hv hl hc ⟨rfl,by simp only [Rv];exact⟨vs,rfl,hrv⟩⟩
   ·rw [e2] at e;cases e
  ·cases e
 ·rename_i g off ha
  obtain⟨b,hid,hb,hglb,e⟩:=Jwm e
  split at e
  ·rename_i hk
   split at e
   ·rename_i x hx
    obtain⟨rfl,rfl⟩:=Jv e;rw [V1] at hx;refine⟨rfl,fun Φ τ F w dst ty pos after gd hF hR=>?_⟩
    have hr:=Jd hF a;rw [ha] at hr;simp only [Rv] at hr;obtain⟨e',C,gr⟩:=(hR.blk _ b hid hb).tab hglb;obtain⟨T,fr,ho⟩:=gr.obj;obtain⟨y,hy,hry⟩:=gr.cr _ _ hx;rw [Nat.zero_add] at hy;refine J3e (Jbt hk) hr ?_ ⟨rfl,hry⟩;rw [gr.at_] at ho;rw [cell_of_row w g off C T fr ho];exact hy
   ·cases e
  ·rename_i sz hk
   rcases Jcn (dr b.cs off) sz (fun l=>Res.ok (.ag l) h) with ⟨e2,hle⟩ | ⟨n,e2⟩
   ·rw [e2] at e;obtain⟨rfl,rfl⟩:=Jv e;rw [vg] at hle ⊢;refine⟨rfl,fun Φ τ F w dst ty pos after gd hF hR=>?_⟩
    have hr:=Jd hF a;rw [ha] at hr;simp only [Rv] at hr;obtain⟨e',C,gr⟩:=(hR.blk _ b hid hb).tab hglb;obtain⟨T,fr,ho⟩:=gr.obj;rw [gr.at_] at ho;have hle:sz≤(b.cs.drop off).length:=hle;have hC:∀ i a,((b.cs.drop off).take sz)[i]? =some a→∃ y,C[off+i]? =some y∧Rv Φ a y:=by
     intro i a hi;rw [List.getElem?_take] at hi
     split at hi
     ·rw [List.getElem?_drop] at hi;obtain⟨y,h1,h2⟩:=gr.cr _ _ hi;rw [Nat.zero_add] at h1;exact⟨y,h1,h2⟩
     ·cases hi
    have hlen:((C.toList.drop off).take sz).length=sz:=by
     rw [List.length_take,List.length_drop,Array.length_toList];rw [List.length_drop] at hle
     rcases Nat.eq_zero_or_pos sz with h0 | h0
     ·omega
     ·obtain⟨y,h1,_⟩:=hC (sz - 1) _ (List.getElem?_eq_getElem (by rw [List.length_take,List.length_drop];omega))
      have:=(Array.getElem?_eq_some_iff.1 h1).1
      omega
    refine J3v (cs:=(C.toList.drop off).take sz) (Jbg hk) hr hlen ?_ ⟨rfl,?_⟩
    ·intro j x hj;rw [List.getElem?_take] at hj
     split at hj
     ·rw [List.getElem?_drop] at hj;rw [cell_of_row w g (off+j) C T fr ho];simpa using hj
     ·cases hj
    ·simp only [Rv];refine⟨_,rfl,RvL.mk ?_ fun i a x hi hx=>?_⟩
     ·rw [hlen,List.length_take];omega
     ·obtain⟨y,h1,h2⟩:=hC i a hi;rw [List.getElem?_take] at hx
      split at hx
      ·rw [List.getElem?_drop] at hx
       have:C.toList[off+i]? =some y:=by rw [← h1];simp
       rw [this] at hx;cases hx;exact h2
      ·cases hx
   ·rw [e2] at e;cases e
  ·cases e
 ·cases e
end
end Go.Ev
namespace Go.Ev
open Go Go.Wf Go.RowKit
section
variable {P:Program} {f:Fr} {v:AV} {h h':Hp}
theorem Jic{α:Type}{o:Option Operand}{d:Nat}{k:Nat→Res}{n:Nat}{v:AV}(e:bnd f o d k (.no n)= .ok v h'):
  ∃ j,k j= .ok v h'∧((o=none∧j=d)∨∃ x kk,o=some x∧opd f x= .i kk (Int.ofNat j)):=by
 unfold bnd at e
 split at e
 ·exact⟨d,e,.inl ⟨rfl,rfl⟩⟩
 ·obtain⟨kk,m,hx,e⟩:=recN e;rw [Xr] at e;exact⟨m,e,.inr ⟨_,kk,rfl,hx⟩⟩
theorem Jai {Φ:Phi} {F:Wf.Fr} {w:World} {t:TypeId} {lo hi:Option Operand} {x:Value} {s:List UInt8} {i j:Nat} (hF:FR Φ f F) (ht:P.underlying t=some .string) (hx:x=str s)
  (hhi:(hi=none∧j=s.length)∨∃ y kk,hi=some y∧opd f y= .i kk (Int.ofNat j)) (hlo:(lo=none∧i=0)∨∃ y kk,lo=some y∧opd f y= .i kk (Int.ofNat i)) (hij:i≤j) (hj:j≤s.length):
  (Instr.sliceAt t x (lo.map (fe F)) (hi.map (fe F)) none).run P w= .ok (str ((s.take j).drop i)) w:=by
 subst hx;have hsz:(⟨s.toArray⟩:ByteArray).size=s.length:=by simp [ByteArray.size]
 have e:=Qv s i j;have key:∀ y kk m,opd f y=AV.i kk (Int.ofNat m)→fe F y= .int kk (Int.ofNat m):=fun y kk m hy=>by have:=Jd hF y;rw [hy] at this;exact this.iI
 rcases hhi with ⟨rfl,rfl⟩ | ⟨y,kk,rfl,hy⟩ <;> rcases hlo with ⟨rfl,rfl⟩ | ⟨y',kk',rfl,hy'⟩
 ·simp [str,Instr.sliceAt,Instr.slice,run_underlying ht,Instr.sliceBounds,hsz] at e ⊢
 ·have:=key _ _ _ hy'
  simp [str,Instr.sliceAt,Instr.slice,run_underlying ht,Instr.sliceBounds,Instr.sliceBound,asIntOf,this,hsz,hij,hj] at e ⊢
  try exact e
 ·have:=key _ _ _ hy
  simp [str,Instr.sliceAt,Instr.slice,run_underlying ht,Instr.sliceBounds,Instr.sliceBound,asIntOf,this,hsz,hij,hj] at e ⊢
  try exact e
 ·have h1:=key _ _ _ hy;have h2:=key _ _ _ hy';simp [str,Instr.sliceAt,Instr.slice,run_underlying ht,Instr.sliceBounds,Instr.sliceBound,asIntOf,h1,h2,hsz,hij,hj] at e ⊢
  try exact e
theorem zj {Φ:Phi} {F:Wf.Fr} {w:World} {t el:TypeId} {lo hi:Option Operand} {a:Option Addr} {n c sz i j:Nat} (hF:FR Φ f F) (ht:P.underlying t=some (.slice el)) (hsz:szOf P el=some sz)
  (hhi:(hi=none∧j=n)∨∃ y kk,hi=some y∧opd f y= .i kk (Int.ofNat j)) (hlo:(lo=none∧i=0)∨∃ y kk,lo=some y∧opd f y= .i kk (Int.ofNat i)) (hij:i≤j) (hj:j≤c):
  (Instr.sliceAt t (.slice a n c) (lo.map (fe F)) (hi.map (fe F)) none).run P w= .ok (.slice (if c=i then a else a.map (·.add (i * sz))) (j - i) (c - i)) w:=by
 have key:∀ y kk m,opd f y=AV.i kk (Int.ofNat m)→fe F y= .int kk (Int.ofNat m):=fun y kk m hy=>by have:=Jd hF y;rw [hy] at this;exact this.iI
 obtain⟨z,by_,hinf⟩:=Vk hsz;obtain⟨inf,hi',_,hs,_⟩:=Jl hinf
 rcases hhi with ⟨rfl,rfl⟩ | ⟨y,kk,rfl,hy⟩ <;> rcases hlo with ⟨rfl,rfl⟩ | ⟨y',kk',rfl,hy'⟩
 ·simp [Instr.sliceAt,Instr.slice,run_underlying ht,Instr.sliceBounds,sizeOf,typeInfo,hi',hs]
 ·have:=key _ _ _ hy'
  simp [Instr.sliceAt,Instr.slice,run_underlying ht,Instr.sliceBounds,Instr.sliceBound,asIntOf,this,sizeOf,typeInfo,hi',hs,hij]
 ·have:=key _ _ _ hy
  simp [Instr.sliceAt,Instr.slice,run_underlying ht,Instr.sliceBounds,Instr.sliceBound,asIntOf,this,sizeOf,typeInfo,hi',hs,hj]
 ·have h1:=key _ _ _ hy;have h2:=key _ _ _ hy';simp [Instr.sliceAt,Instr.slice,run_underlying ht,Instr.sliceBounds,Instr.sliceBound,asIntOf,h1,h2,sizeOf,typeInfo,hi',hs,hij,hj]
theorem Jh1{t:TypeId}{x:Operand}{lo hi mx:Option Operand}(e:K9 P t x lo hi mx f h= .ok v h'):h'=h∧Pu P (.slice t x lo hi mx) f v:=by
 unfold K9 at e
 split at e
 ·cases e
 ·split at e
  ·rename_i l hx
   obtain⟨ht,e⟩:=recB e;obtain⟨j,e,hjl⟩:=Jic (α:=Nat) e;obtain⟨i,e,hil⟩:=Jic (α:=Nat) e;obtain⟨hc,e⟩:=recB e;obtain⟨h1,h2⟩:=Zp hc;have h1:=Nat.le_of_ble_eq_true h1;have h2:=Nat.le_of_ble_eq_true h2;obtain⟨rfl,rfl⟩:=Jv e;refine⟨rfl,fun Φ F w dst ty pos after gd hF=>?_⟩
   have hr:=Jd hF x;rw [hx] at hr;obtain⟨hl,hv⟩:=hr.sI;rw [Qe] at h2 hjl;have hrun:=Jai (w:=w) hF (Vr ht) hv (by rw [List.length_map];exact hjl) hil h1 (by rw [List.length_map];exact h2);refine J3c (v:=str ((((l.map UInt8.ofNat).take j).drop i))) (w':=w) ?_ ⟨rfl,?_⟩
   ·simp [execOp,hrun]
   ·rw [vg,Js8,← List.map_take,← List.map_drop];exact Rv.ms fun n hn=>hl n (List.mem_of_mem_take (List.mem_of_mem_drop hn))
  ·rename_i hx
   obtain⟨ht,e⟩:=recB e;obtain⟨j,e,hjl⟩:=Jic (α:=Nat) e;obtain⟨i,e,hil⟩:=Jic (α:=Nat) e;obtain⟨hc,e⟩:=recB e;obtain⟨h1,h2⟩:=Zp hc;have h1:=Nat.eq_of_beq_eq_true h1;have h2:=Nat.eq_of_beq_eq_true h2;subst h1;subst h2;obtain⟨rfl,rfl⟩:=Jv e;refine⟨rfl,fun Φ F w dst ty pos after gd hF=>?_⟩
   have hr:=Jd hF x;rw [hx] at hr;simp only [Rv] at hr;obtain⟨sz,hsz⟩:=Option.isSome_iff_exists.1 (Zp ht).2;rw [Option.bind_eq_some_iff] at hsz;obtain⟨el,hel,hsz⟩:=hsz;have hrun:=zj (w:=w) (n:=0) (c:=0) (a:=none) hF (ki hel) hsz hjl hil (Nat.le_refl 0) (Nat.le_refl 0);refine J3c (v:= .slice none 0 0) (w':=w) ?_ ⟨rfl,by simp only [Rv]⟩;simp [execOp,hr,hrun]
  ·rename_i id off n z cap hx
   split at e
   ·cases e
   ·rename_i sz hsz
    rw [Option.bind_eq_some_iff] at hsz;obtain⟨el,hel,hsz⟩:=hsz;obtain⟨j,e,hjl⟩:=Jic (α:=Nat) e;obtain⟨i,e,hil⟩:=Jic (α:=Nat) e;obtain⟨hc,e⟩:=recB e;obtain⟨h1,h2⟩:=Zp hc;have h1:=Nat.le_of_ble_eq_true h1;have h2:=Nat.eq_of_beq_eq_true h2;subst h2;have go:∀ (Φ:Phi) (F:Wf.Fr) (w:World) (dst:Option Tmp) (ty:TypeId) (pos:String) (after:Array Edge) (gd:Option (Nat × Bool)),FR Φ f F→
      (∀ en c,Φ id=some en→n≤c→c≤maxLen→off+c * sz≤en.k→Jm8 cap c→j≤c∧Rv Φ v (.slice (if c=i then some ⟨en.g,en.base+off,none⟩ else some ⟨en.g,en.base+off+i * sz,none⟩) (j - i) (c - i)))→
      St P (fe F) ⟨dst,.slice t x lo hi none,ty,pos,after,gd⟩ w (KP Φ w v) KF:=by
     intro Φ F w dst ty pos after gd hF hh;have hr:=Jd hF x;rw [hx] at hr;obtain⟨en,c,hen,hv,h3,h4,h5,h6⟩:=hr.slI;obtain⟨hjc,hrv⟩:=hh en c hen h3 h4 h5 h6;have hrun:=zj (w:=w) (n:=n) (c:=c) (a:=some ⟨en.g,en.base+off,none⟩) hF (ki hel) hsz hjl hil h1 hjc;refine J3c (w':=w) ?_ ⟨rfl,hrv⟩;simp [execOp,hv,hrun,Addr.add_lit]
    cases cap with
    | some c=>
     obtain⟨hjc,e⟩:=recB e;have hjc:=Nat.le_of_ble_eq_true hjc;rw [zu] at e
     split at e
     ·rename_i hci
      have hci:=Nat.eq_of_beq_eq_true hci;obtain⟨rfl,rfl⟩:=Jv e;refine⟨rfl,fun Φ F w dst ty pos after gd hF=>go Φ F w dst ty pos after gd hF ?_⟩;intro en c' hen g1 g2 g3 g4
      have:c'=c:=g4
      subst this;refine⟨hjc,?_⟩;rw [if_pos hci,show j - i=0 by omega,show c' - i=0 by omega];exact Rv.msl hen (Nat.le_refl _) (Nat.zero_le _) (by simp only [Nat.zero_mul];omega) rfl
     ·rename_i hci
      have hci:¬ c=i:=fun e=>hci (by subst e;exact Nat.beq_refl c);simp only [Xr] at e;obtain⟨rfl,rfl⟩:=Jv e;refine⟨rfl,fun Φ F w dst ty pos after gd hF=>go Φ F w dst ty pos after gd hF ?_⟩;intro en c' hen g1 g2 g3 g4
      have:c'=c:=g4
      subst this;refine⟨hjc,?_⟩;rw [if_neg hci,Nat.add_assoc];refine Rv.msl hen (Nat.sub_le_sub_right hjc i) (by omega) ?_ rfl
      show off+i * sz+(c' - i) * sz≤en.k
      have:(c' - i) * sz+i * sz=c' * sz:=by rw [← Nat.add_mul];congr 1;omega
      omega
    | none=>
     obtain⟨hjc,e⟩:=recB e;have hjn:=Nat.le_of_ble_eq_true hjc;rw [zu] at e
     split at e
     ·rename_i hci
      have hci:=Nat.eq_of_beq_eq_true hci;obtain⟨rfl,rfl⟩:=Jv e;refine⟨rfl,fun Φ F w dst ty pos after gd hF=>go Φ F w dst ty pos after gd hF ?_⟩;intro en c' hen g1 g2 g3 g4;refine⟨by omega,?_⟩;rw [show j - i=0 by omega];simp only [Rv];exact⟨_,_,rfl⟩
     ·rename_i hci
      have hci:¬ n=i:=fun e=>hci (by subst e;exact Nat.beq_refl n);simp only [Xr] at e;obtain⟨rfl,rfl⟩:=Jv e;refine⟨rfl,fun Φ F w dst ty pos after gd hF=>go Φ F w dst ty pos after gd hF ?_⟩;intro en c' hen g1 g2 g3 g4;refine⟨by omega,?_⟩;have hne:¬ c'=i:=by omega
      rw [if_neg hne,Nat.add_assoc];refine Rv.msl hen (Nat.sub_le_sub_right (by omega) i) (by omega) ?_ trivial
      show off+i * sz+(c' - i) * sz≤en.k
      have:(c' - i) * sz+i * sz=c' * sz:=by rw [← Nat.add_mul];congr 1;omega
      omega
  ·cases e
theorem Jhh{t:TypeId}{x:Operand}{lo hi mx:Option Operand}(e:ya P t x lo hi mx f h= .ok v h'):h'=h∧Rd P (.slice t x lo hi mx) f v h:=noOk e
theorem Jc1{t:TypeId}{x:Operand}{lo hi mx:Option Operand}(e:Qj P t x lo hi mx f h= .ok v h'):
  (k5 P t=false→h'=h∧Pu P (.slice t x lo hi mx) f v)∧(k5 P t=true→h'=h∧Rd P (.slice t x lo hi mx) f v h):=by
 unfold Qj at e
 cases hb:k5 P t with
 | false=>
  rw [hb] at e
  constructor
  ·intro _;exact Jh1 e
  ·intro hq;cases hq
 | true=>
  rw [hb] at e
  constructor
  ·intro hq;cases hq
  ·intro _;exact Jhh e
theorem Jj4{s d:TypeId}{x:Operand}(e:Jav P s d x f h= .ok v h'):h'=h∧Rd P (.convert s d x) f v h:=noOk e
end
end Go.Ev
namespace Go.Ev
open Go Go.Wf Go.RowKit
def ext(Φ:Phi)(id:Nat)(e:Ent):Phi:=fun i=>if i=id then some e else Φ i
theorem Vj(Φ:Phi)(id:Nat)(e:Ent):ext Φ id e id=some e:=if_pos rfl
theorem Sub.ext{Φ:Phi}{id:Nat}{e:Ent}(h:Φ id=none):Sub Φ (ext Φ id e):=by
 intro i x hi;unfold Ev.ext
 by_cases hx:i=id
 ·subst hx;rw [h] at hi;cases hi
 ·rw [if_neg hx];exact hi
def NB(Φ:Phi)(id:Nat)(b:Blk)(e:Ent)(O:Obj):Prop:=∀ (Φ':Phi) (τ':Tau) (w':World),Sub Φ Φ'→Φ' id=some e→w'.heap[e.g]? =some O→(τ' e.g=if b.ro then .ro else .own id)→Ko Φ' τ' w' id b
theorem NB.row{Φ:Phi}{id:Nat}{b:Blk}{C:Array Value}{T:TypeId}{g:Nat}{fr:Nat × Nat}(hrow:b.ob= .row)(hfr:b.ro=false→fr=(0,0))(ht:T=b.ty)(hle:b.cs.length≤C.size)(hex:b.ex=true→b.cs.length=C.size)(hcr:CR Φ C 0 b.cs):
  NB Φ id b ⟨g,0,C.size⟩ (.cells C T fr):=fun Φ' τ' w' s he ho hl=> .inl ⟨_,C,T,he,hl,hrow,ht,⟨fr,ho,hfr⟩,by simp,hle,fun hx=>⟨rfl,hex hx⟩,hcr.mono s⟩
theorem NB.obj{Φ:Phi}{id:Nat}{b:Blk}{g k:Nat}{O:Obj}(hro:b.ro=false)(hb:ObR Φ b.ob O):NB Φ id b ⟨g,0,k⟩ O:=fun Φ' τ' w' s he ho hl=>
 .inr (.inl ⟨_,O,he,by rw [hl,hro];rfl,hro,rfl,ho,hb.mono s⟩)
structure Wn (w:World) (O:Obj) (w':World):Prop where
 os:w'.os=w.os
 tape:w'.tape=w.tape
 output:w'.output=w.output
 size:w'.heap.size=w.heap.size+1
 old:∀ k,k < w.heap.size→w'.heap[k]? =w.heap[k]?
 new_:w'.heap[w.heap.size]? =some O
theorem Wn.alloc(w:World)(O:Obj):Wn w O (w.alloc O):=⟨rfl,rfl,rfl,by simp,fun k hk=>Ya hk,heap_alloc_new w _⟩
theorem Wn.drew(w:World)(O:Obj):Wn w O (w.drew.alloc O):=⟨rfl,rfl,rfl,by simp,fun k hk=>Below.heap_alloc w.drew _ k hk,heap_alloc_new w.drew _⟩
section
variable {P:Program} {f:Fr} {v:AV} {h h':Hp} {Φ:Phi} {τ:Tau} {w w':World}
theorem Rel.new{b:Blk}{k:Nat}{O:Obj}(r:Rel Φ τ h w)(hb:h.n < big5)(hf:Φ h.n=none)(nb:NB Φ h.n b ⟨w.heap.size,0,k⟩ O)(wn:Wn w O w'):
  ∃ τ',Rel (ext Φ h.n ⟨w.heap.size,0,k⟩) τ' ⟨set5 h.n (some b) h.t,h.n+1⟩ w'∧Tw Φ τ h w (ext Φ h.n ⟨w.heap.size,0,k⟩) τ' (h.n+1) w':=by
 refine⟨fun g=>if g=w.heap.size then(if b.ro then .ro else .own h.n) else τ g,⟨hb,?_,?_⟩,⟨wn.os,wn.tape,wn.output,by rw [wn.size];omega,Sub.ext hf,?_,?_⟩⟩
 ·intro id b' hid hb';have hid:id < h.n+1:=hid;have hb':get5 id (set5 h.n (some b) h.t)=some b':=hb';rw [Zo _ _ _ _ (by omega) hb] at hb'
  by_cases e:id=h.n
  ·rw [if_pos e] at hb'
   cases hb'
   subst e;exact nb _ _ _ (Sub.ext hf) (Vj _ _ _) wn.new_ (if_pos rfl)
  ·rw [if_neg e] at hb';obtain⟨en,_,hlt,_,k⟩:=(r.blk id b' (by omega) hb').at_;exact k (Sub.ext hf) (wn.old _ hlt) (if_neg (by omega))
 ·intro id hid hid5;have hid:h.n+1≤id:=hid
  show get5 id (set5 h.n (some b) h.t)=none
  rw [Zo _ _ _ _ hid5 hb,if_neg (by omega)];exact r.fin id (by omega) hid5
 ·intro id hid;unfold Ev.ext;rw [if_neg (by omega)]
 ·intro g hg _;refine⟨wn.old g hg,?_⟩;exact if_neg (by omega)
theorem js{id:Nat}(r:Rel Φ τ h w)(hid:id < h.n):id < big5:=Nat.lt_of_lt_of_le hid r.lim
theorem Rel.turn {id:Nat} {b b':Blk} {en:Ent} (r:Rel Φ τ h w) (hid:id < h.n) (hb:get5 id h.t=some b) (hlab:τ en.g= .own id) (hos:w'.os=w.os) (htp:w'.tape=w.tape) (hou:w'.output=w.output)
  (hsz:w'.heap.size=w.heap.size) (hoth:∀ g,g≠en.g→w'.heap[g]? =w.heap[g]?) (hnew:Ko Φ τ w' id b'):Rel Φ τ (putB h id (some b')) w'∧Tw Φ τ h w Φ τ h.n w':=by
 refine⟨⟨r.lim,?_,?_⟩,⟨hos,htp,hou,by rw [hsz];exact Nat.le_refl _,Sub.refl _,fun _ _=>rfl,?_⟩⟩
 ·intro id' b'' hid' hb'';have hid':id' < h.n:=hid';have hb'':get5 id' (set5 id (some b') h.t)=some b'':=hb'';rw [Zo _ _ _ _ (js r hid') (js r hid)] at hb''
  by_cases e:id'=id
  ·rw [if_pos e] at hb''
   cases hb''
   subst e;exact hnew
  ·rw [if_neg e] at hb'';obtain⟨en2,_,_,hl2,k⟩:=(r.blk id' b'' hid' hb'').at_;have hne:en2.g≠en.g:=by
    intro hg;rw [hg,hlab] at hl2
    split at hl2
    ·cases hl2
    ·cases hl2;exact e rfl
   exact k (Sub.refl _) (hoth _ hne) rfl
 ·intro i hi hi5;have hi:h.n≤i:=hi
  show get5 i (set5 id (some b') h.t)=none
  rw [Zo _ _ _ _ hi5 (js r hid),if_neg (by omega)];exact r.fin i hi hi5
 ·intro g hg hk;refine⟨hoth g ?_,rfl⟩;intro e;subst e
  have:=(hk id hlab).1 hid
  rw [hb] at this;cases this
theorem BR.own{b:Blk}{en:Ent}{id:Nat}{C:Array Value}{T:TypeId}(br:BR Φ τ w b en id C T)(hro:b.ro=false):τ en.g= .own id:=by
 have:=br.lab
 rw [hro] at this;exact this
theorem Rel.put {id:Nat} {b b':Blk} {en:Ent} {C C':Array Value} {T:TypeId} (r:Rel Φ τ h w) (hid:id < h.n) (hb:get5 id h.t=some b) (br:BR Φ τ w b en id C T) (hro:b.ro=false)
  (hb':b'.ro=false) (hrow:b'.ob= .row) (hty:b'.ty=b.ty) (hex:b'.ex=b.ex) (hl:b'.cs.length=b.cs.length) (hsz:C'.size=C.size) (hcr:CR Φ C' en.base b'.cs) (hw:w'=w.setRow en.g C'):
  Rel Φ τ (putB h id (some b')) w'∧Tw Φ τ h w Φ τ h.n w':=by
 subst hw;have hnew:(w.setRow en.g C').heap[en.g]? =some (.cells C' T (0,0)):=setRow_heap w en.g C C' T (0,0) (br.obj0 hro);refine r.turn (en:=en) hid hb (br.own hro) rfl rfl rfl (by simp [World.setRow]) (fun g hg=>setRow_other w en.g g C' hg) (.inl ⟨en,C',T,br.ent,?_,hrow,by rw [hty];exact br.ty,⟨(0,0),hnew,fun _=>rfl⟩,by rw [hsz];exact br.size,by rw [hl];exact br.le,fun hx=>?_,hcr⟩)
 ·rw [hb'];exact br.own hro
 ·rw [hl];exact br.exact_ (hex ▸ hx)
def Qt(P:Program)(op:Op)(f:Fr)(v:AV)(h h':Hp):Prop:=∃ b,h.n < big5∧h'=⟨set5 h.n (some b) h.t,h.n+1⟩∧
 ∀ (Φ:Phi) (F:Wf.Fr) (w:World) (dst:Option Tmp) (ty:TypeId) (pos:String) (after:Array Edge) (gd:Option (Nat × Bool)),FR Φ f F→Φ h.n=none→
  St P (fe F) ⟨dst,op,ty,pos,after,gd⟩ w (fun x w'=>∃ k O,Wn w O w'∧Rv (ext Φ h.n ⟨w.heap.size,0,k⟩) v x∧NB Φ h.n b ⟨w.heap.size,0,k⟩ O) KF
def Mv(P:Program)(op:Op)(f:Fr)(v:AV)(h h':Hp):Prop:=Grow h h'∧
 ∀ (Φ:Phi) (τ:Tau) (F:Wf.Fr) (w:World) (dst:Option Tmp) (ty:TypeId) (pos:String) (after:Array Edge) (gd:Option (Nat × Bool)),FR Φ f F→Rel Φ τ h w→Fre Φ h.n h'.n→
  St P (fe F) ⟨dst,op,ty,pos,after,gd⟩ w (fun x w'=>∃ Φ' τ',Rv Φ' v x∧Rel Φ' τ' h' w'∧Tw Φ τ h w Φ' τ' h'.n w') KF
theorem Grow.new{b:Blk}(hb:h.n < big5):Grow h ⟨set5 h.n (some b) h.t,h.n+1⟩:=⟨Nat.le_succ _,fun id h5 hid hn=>by
 have hid:¬ (h.n≤id∧id < h.n+1):=hid
 show get5 id (set5 h.n (some b) h.t)=none
 rw [Zo _ _ _ _ h5 hb,if_neg (by omega)];exact hn,fun _=>hb⟩
theorem Grow.put{id:Nat}{b:Blk}{o:Option Blk}(hl:h.n≤big5)(hid:id < h.n)(hb:get5 id h.t=some b):Grow h (putB h id o):=⟨Nat.le_refl _,fun i h5 hi hn=>by
 show get5 i (set5 id o h.t)=none
 have:¬ i=id:=fun e=>by rw [e,hb] at hn;cases hn
 rw [Zo _ _ _ _ h5 (by omega),if_neg this];exact hn,fun h=>h⟩
theorem Qt.mv{op:Op}(q:Qt P op f v h h'):Mv P op f v h h':=by
 obtain⟨b,hb,rfl,hst⟩:=q;refine⟨Grow.new hb,fun Φ τ F w dst ty pos after gd hF hR hFr=>?_⟩
 have hn:=hFr h.n (Nat.le_refl _) (Nat.lt_succ_self _)
 refine(hst Φ F w dst ty pos after gd hF hn).mono ?_ fun _ _ h=>h
 rintro x w' ⟨k,O,wn,hv,nb⟩;obtain⟨τ',h1,h2⟩:=hR.new hb hn nb wn;exact⟨_,τ',hv,h1,h2⟩
theorem jk{b:Blk}{k:Nat→Hp→Res}(e:newB h b k= .ok v h'):h.n < big5∧k h.n ⟨set5 h.n (some b) h.t,h.n+1⟩= .ok v h':=by
 unfold newB at e;obtain⟨h1,e⟩:=recB e;rw [Xr] at e;exact⟨Yc h1,e⟩
theorem Jmq{e:TypeId}(he:Ja7 P e f h= .ok v h'):Qt P (.alloc e) f v h h':=by
 unfold Ja7 at he
 split at he
 ·rename_i l hl
  obtain⟨hb,he⟩:=jk he;obtain⟨rfl,rfl⟩:=Jv he;obtain⟨z,sz,by_,hinf,rfl⟩:=Jdf hl;obtain⟨inf,hi',hz,_,_⟩:=Jl hinf;refine⟨_,hb,rfl,fun Φ F w dst ty pos after gd hF hn=>?_⟩
  refine St.alloc (vs:=z.cells.toList) hi' hz (by simp) ⟨_,_,Wn.alloc _ _,Rv.mp (Vj _ _ _),NB.row rfl (fun _=>rfl) rfl (by simp) (fun _=>by simp) ?_⟩;intro i a hi;obtain⟨x,h1,h2⟩:=(ko (Φ:=Φ) z.cells.toList).at hi;exact⟨x,by rw [Nat.zero_add];simpa using h1,h2⟩
 ·cases he
theorem CR.ofL{l:List AV}{vs:List Value}(hr:RvL Φ l vs):CR Φ vs.toArray 0 l:=by
 intro i a hi;obtain⟨x,h1,h2⟩:=hr.at hi;exact⟨x,by rw [Nat.zero_add];simpa using h1,h2⟩
theorem Jvq{e:TypeId}{x:Operand}(he:Jc6 e x f h= .ok v h'):Qt P (.box e x) f v h h':=by
 unfold Jc6 at he
 split at he
 ·rename_i l hl
  obtain⟨hb,he⟩:=jk he;obtain⟨rfl,rfl⟩:=Jv he;refine⟨_,hb,rfl,fun Φ F w dst ty pos after gd hF hn=>?_⟩
  obtain⟨vs,h1,h2⟩:=yu hl (Jd hF x);exact St.box h1 ⟨_,_,Wn.alloc _ _,Rv.mp (Vj _ _ _),NB.row rfl (fun _=>rfl) rfl (by simp [h2.len]) (fun _=>by simp [h2.len]) (CR.ofL h2)⟩
 ·cases he
def zrow(z:Array Value)(m:Nat):Array Value:=(Array.range m).map (z[· % z.size]!)
theorem Jpf{α:Type}(l:List α):∀ (n i:Nat),(repl n l)[i]? =if i < n * l.length then l[i % l.length]? else none:=by
 intro n
 induction n with
 | zero=>intro i;simp [repl]
 | succ n ih=>
  intro i;have e:repl (n+1) l=l++repl n l:=by unfold repl;rw [List.replicate_succ,List.flatten_cons]
  rw [e,List.getElem?_append,ih,Nat.succ_mul]
  by_cases h:i < l.length
  ·rw [if_pos h,if_pos (by omega),Nat.mod_eq_of_lt h]
  ·rw [if_neg h];have h2:(i - l.length) % l.length=i % l.length:=by
    conv=>rhs;rw [show i=(i - l.length)+l.length by omega]
    rw [Nat.add_mod_right]
   rw [h2]
   by_cases h3:i - l.length < n * l.length
   ·rw [if_pos h3,if_pos (by omega)]
   ·rw [if_neg h3,if_neg (by omega)]
theorem Jf1{α:Type}(l:List α)(n:Nat):(repl n l).length=n * l.length:=by unfold repl;simp [List.length_flatten]
theorem Jl3(z:Array Value)(n sz:Nat)(hz:z.size=sz)(hp:0 < sz):RvL Φ (repl n (z.toList.map cv)) (zrow z (n * sz)).toList:=by
 refine RvL.mk (by simp [zrow,Jf1,hz]) fun i a x hi hx=>?_
 rw [Jpf] at hi
 split at hi <;> rename_i hlt
 ·have hlt:i < n * sz:=by simpa [hz] using hlt
  have hm:i % sz < z.size:=by rw [hz];exact Nat.mod_lt _ hp
  have h1:z.toList[i % sz]? =some z[i % sz]:=by simp [hm]
  rw [List.getElem?_map,List.length_map,Array.length_toList,hz,h1] at hi;have h2:(zrow z (n * sz)).toList[i]? =some z[i % sz]:=by
   simp only [zrow,Array.toList_map,Array.toList_range,List.getElem?_map];rw [List.getElem?_range hlt];simp only [Option.map_some,hz];rw [getElem!_pos z _ hm]
  rw [h2] at hx
  cases hx
  simp at hi;subst hi;exact yh _
 ·cases hi
theorem Jg6(off:Nat):∀ (L:List (Value × Nat)) (C:Array Value),(L.foldl (fun cs (c,j)=>cs.setIfInBounds (off+j) c) C).size=C.size:=by
 intro L
 induction L with
 | nil=>intro C;rfl
 | cons q L ih=>intro C;rw [List.foldl_cons,ih];exact Array.size_setIfInBounds
theorem kv{t:TypeId}{n:Nat}{ps:Array (Nat × Operand)}(he:Ym P t n ps f h= .ok v h'):Qt P (.buildSlice t n ps) f v h h':=by
 unfold Ym at he
 split at he
 ·cases he
 ·rename_i el hel
  split at he
  ·rename_i sz z hsz hz
   obtain⟨hc,he⟩:=recB he;obtain⟨hc,h3⟩:=Zp hc;obtain⟨h1,h2⟩:=Zp hc;have h1:0 < sz:=Yc h1;have h2:n * sz≤16777216:=Nat.le_of_ble_eq_true h2;have h3:=Nat.eq_of_beq_eq_true h3;obtain⟨cs,he,hfill⟩:=Jio _ _ he;obtain⟨hb,he⟩:=jk he;obtain⟨rfl,rfl⟩:=Jv he;refine⟨_,hb,rfl,fun Φ F w dst ty pos after gd hF hn=>?_⟩
   obtain⟨zv,sz',by',hinf',rfl⟩:=Jdf hz;obtain⟨zv2,by2,hinf⟩:=Vk hsz;rw [hinf'] at hinf;simp only [Option.some.injEq,Prod.mk.injEq] at hinf;obtain⟨rfl,rfl,rfl⟩:=hinf;obtain⟨inf,hi',hzz,hs,_⟩:=Jl hinf';rw [Qe,List.length_map,Array.length_toList] at h3;obtain⟨C',g1,g2⟩:=hfill Φ F (zrow zv.cells (n * sz')).toList hF (Jl3 zv.cells n sz' h3 h1);have hC'len:=g2.len;have hpe:(ps.map fun(i,x)=>(i,fe F x)).toList=ps.toList.map fun p=>(p.1,fe F p.2):=by simp
   have hlen:cs.length=n * sz':=by
    have key:∀ (l:List (Nat × Value)) (C:Array Value) (D:Array Value),Instr.fill (fun i=>some (Nat.mul i sz',sz')) C l=some D→D.size=C.size:=by
     intro l
     induction l with
     | nil=>intro C D hh;cases hh;rfl
     | cons p l ih=>
      intro C D hh;obtain⟨i,x⟩:=p;rw [Instr.fill] at hh;simp only at hh
      split at hh
      ·cases hh
      ·have:=ih _ _ hh
       rw [this,← Array.foldl_toList];exact Jg6 _ _ _
    have:=key _ _ _ g1
    rw [← hC'len];have h5:C'.toArray.size=(zrow zv.cells (n * sz')).toList.toArray.size:=this;simpa [zrow] using h5
   have hrun:(Instr.buildSlice t n (ps.map fun(i,x)=>(i,fe F x))).run P w= .ok (.slice (some ⟨w.heap.size,0,none⟩) n n) (w.alloc (.cells C'.toArray el (0,0))):=by
    have hz0:¬ (n * inf.size > 2 ^ 24):=by rw [hs];omega
    by_cases hn0:n=0
    ·subst hn0;have hC0:C'=[]:=List.eq_nil_of_length_eq_zero (by rw [hC'len,hlen];simp);subst hC0;have g1':Instr.fill (fun i=>some (i * inf.size,inf.size)) #[] (ps.map fun(i,x)=>(i,fe F x)).toList=some #[]:=by
      rw [hpe,hs];simpa [zrow] using g1
     have e0:∀ k:Nat→Value,Array.map k (Array.range 0)= #[]:=fun k=>by apply Array.ext';simp
     generalize (ps.map fun(i,x)=>(i,fe F x))=L at g1' ⊢
     simp [Instr.buildSlice,run_underlying (ki hel),sizeOf,typeInfo,hi',e0,g1',newRow]
    ·have hne:¬ (n * inf.size=0):=by rw [hs];exact Nat.ne_of_gt (Nat.mul_pos (Nat.pos_of_ne_zero hn0) h1)
     have g1':Instr.fill (fun i=>some (i * inf.size,inf.size)) ((Array.range (n * inf.size)).map (zv.cells[· % zv.cells.size]!)) (ps.map fun(i,x)=>(i,fe F x)).toList=some C'.toArray:=by
      rw [hpe,hs]
      have:(zrow zv.cells (n * sz')).toList.toArray=(Array.range (n * sz')).map (zv.cells[· % zv.cells.size]!):=by rw [Array.toArray_toList];rfl
      rw [this] at g1;exact g1
     generalize (ps.map fun(i,x)=>(i,fe F x))=L at g1' ⊢
     simp [Instr.buildSlice,run_underlying (ki hel),sizeOf,typeInfo,hi',hz0,hne,zeroValue,hzz,g1',newRow]
   refine J3c (v:= .slice (some ⟨w.heap.size,0,none⟩) n n) (w':=w.alloc (.cells C'.toArray el (0,0))) (by simp [execOp,hrun]) ⟨_,_,Wn.alloc _ _,?_,NB.row rfl (fun _=>rfl) rfl (by simp [hC'len]) (fun _=>by simp [hC'len]) (CR.ofL g2)⟩;refine Rv.msl (e:=⟨w.heap.size,0,C'.toArray.size⟩) (c:=n) (Vj _ _ _) (Nat.le_refl _) ?_ ?_ rfl
   ·have:=Nat.le_mul_of_pos_right n h1;unfold maxLen;omega
   ·show 0+n * sz'≤C'.toArray.size
    simp [hC'len,hlen]
  ·cases he
theorem Ja1{t:TypeId}{l c:Operand}(he:Y5 P t l c f h= .ok v h'):Qt P (.makeSlice t l c) f v h h':=by
 unfold Y5 at he
 split at he
 ·cases he
 ·rename_i el hel
  split at he
  ·rename_i sz z hsz hz
   obtain⟨kl,n,hl,he⟩:=recN he;obtain⟨kc,m,hm,he⟩:=recN he;rw [Xr,Xr] at he;obtain⟨hc,he⟩:=recB he;obtain⟨hc,h5⟩:=Zp hc;obtain⟨hc,h4⟩:=Zp hc;obtain⟨hc,h3⟩:=Zp hc;obtain⟨h1,h2⟩:=Zp hc;have h1:0 < sz:=Yc h1;have h2:=Nat.le_of_ble_eq_true h2;have h3:=Nat.le_of_ble_eq_true h3;have h4:=Nat.eq_of_beq_eq_true h4;have h5:=Nat.le_of_ble_eq_true h5;rw [Vs,List.append_nil] at he;obtain⟨hb,he⟩:=jk he;obtain⟨rfl,rfl⟩:=Jv he;refine⟨_,hb,rfl,fun Φ F w dst ty pos after gd hF hn=>?_⟩
   obtain⟨zv,sz',by',hinf',rfl⟩:=Jdf hz;obtain⟨zv2,by2,hinf⟩:=Vk hsz;rw [hinf'] at hinf;simp only [Option.some.injEq,Prod.mk.injEq] at hinf;obtain⟨rfl,rfl,rfl⟩:=hinf;have hby:byOf P el=some by':=by unfold byOf;rw [hinf'];rfl
   rw [hby] at h5;simp only [Option.getD_some] at h5;obtain⟨inf,hi',hzz,hs,hbb⟩:=Jl hinf';rw [Qe,List.length_map,Array.length_toList] at h4;have hls:=Jd hF l;have hms:=Jd hF c;rw [hl] at hls;rw [hm] at hms;have hrun:=run_make (P:=P) w t el inf zv (ki hel) hi' hzz kl kc (Int.ofNat n) (Int.ofNat m) (Int.natCast_nonneg n) (Int.ofNat_le.2 h2) (by
    have h6:inf.bytes * m≤65536 * 65536:=Nat.mul_le_mul (hbb ▸ h5) h3
    have:((inf.bytes * m:Nat):Int)≤((65536 * 65536:Nat):Int):=Int.ofNat_le.2 h6
    rw [Int.natCast_mul] at this;simp only [Int.ofNat_eq_natCast];omega) (by simp only [Int.ofNat_eq_natCast];omega)
   have hmc:madeCells zv.cells ((Int.ofNat m).toNat * inf.size)=zrow zv.cells (m * sz'):=by
    rw [hs]
    rfl
   rw [hmc] at hrun;have g2:=Jl3 (Φ:=Φ) zv.cells m sz' h4 h1;have hsize:(zrow zv.cells (m * sz')).size=m * sz':=by simp [zrow]
   have hl2:(repl m (zv.cells.toList.map cv)).length=m * sz':=by rw [Jf1,List.length_map,Array.length_toList,h4]
   refine J3c (v:= .slice (some ⟨w.heap.size,0,none⟩) n m) (w':=w.alloc (.cells (zrow zv.cells (m * sz')) el (0,0))) ?_ ⟨_,_,Wn.alloc _ _,?_,NB.row rfl (fun _=>rfl) rfl ?_ (fun _=>?_) ?_⟩
   ·simp only [execOp];rw [hls.iI,hms.iI];simp only [Sem.run_bind,hrun]
    rfl
   ·refine Rv.msl (e:=⟨w.heap.size,0,(zrow zv.cells (m * sz')).size⟩) (c:=m) (Vj _ _ _) h2 (by unfold maxLen;omega) ?_ rfl
    show 0+m * sz'≤(zrow zv.cells (m * sz')).size
    rw [hsize];omega
   ·show(repl m (zv.cells.toList.map cv)).length≤_
    rw [hl2,hsize];exact Nat.le_refl _
   ·show(repl m (zv.cells.toList.map cv)).length=_
    rw [hl2,hsize]
   ·have:=CR.ofL g2
    simpa using this
  ·cases he
theorem Jpv(l:List Nat):Jzv l=l.map fun c=>AV.i .u8 (Int.ofNat c):=by
 induction l with
 | nil=>rfl
 | cons c l ih=>exact congrArg (_:: ·) ih
theorem Jmp{s d:TypeId}{x:Operand}(he:vj P s d x f h= .ok v h'):Qt P (.convert s d x) f v h h':=noOk he
theorem Ji2{t:TypeId}{p:TypeId × TypeId}(h:Joa P t=some p):P.underlying t=some (.map p.1 p.2):=by unfold Joa at h;split at h <;> first | (cases h;assumption) | cases h
theorem Rv.mpI{id:Nat}{v:Value}(h:Rv Φ (.mp id) v):∃ e,Φ id=some e∧v= .map (some e.g):=by simp only [Rv] at h;exact h
theorem Je4{t:TypeId}{r:Option Operand}(he:qf P t r f h= .ok v h'):Qt P (.makeMap t r) f v h h':=noOk he
end
end Go.Ev
namespace Go.Ev
open Go Go.Wf Go.RowKit
section
variable {P:Program} {f:Fr} {v:AV} {h h':Hp} {Φ:Phi} {τ:Tau} {w w':World}
theorem kh{vs:List AV}{us:List Value}(ha:Qh vs=true)(hr:RvL Φ vs us):us.all Value.oneCell'=true:=by
 induction vs generalizing us with
 | nil=>simp only [RvL] at hr;subst hr;rfl
 | cons a vs ih=>
  simp only [RvL] at hr;obtain⟨u,r,rfl,h1,h2⟩:=hr;have ha:(bif scal a then Qh vs else false)=true:=ha
  cases hs:scal a with
  | false=>rw [hs] at ha;cases ha
  | true=>
   rw [hs] at ha;rw [List.all_cons,h1.scal hs,ih ha h2];rfl
theorem CR.put{C:Array Value}{base off:Nat}{cs vs:List AV}{us:List Value}(hc:CR Φ C base cs)(hr:RvL Φ vs us)(hl:off+vs.length≤cs.length)(hs:base+cs.length≤C.size):
  CR Φ (C.toList.take (base+off)++us++C.toList.drop (base+off+us.length)).toArray base (cs.take off++vs++cs.drop (off+vs.length)):=by
 intro i a hi;have hul:=hr.len;have hgetC:∀ j x,C[j]? =some x→C.toList[j]? =some x:=fun j x hx=>by rw [Array.getElem?_toList];exact hx
 have e1:(C.toList.take (base+off)).length=base+off:=by rw [List.length_take,Array.length_toList];omega
 have e2:(cs.take off).length=off:=by rw [List.length_take];omega
 rw [List.append_assoc,List.getElem?_append] at hi;rw [e2] at hi;simp only [List.getElem?_toArray,List.append_assoc];rw [List.getElem?_append,e1]
 by_cases h1:i < off
 ·rw [if_pos h1,List.getElem?_take,if_pos h1] at hi;obtain⟨x,hx,hxr⟩:=hc i a hi;rw [if_pos (by omega),List.getElem?_take,if_pos (by omega)];exact⟨x,hgetC _ _ hx,hxr⟩
 ·rw [if_neg h1,List.getElem?_append] at hi;rw [if_neg (by omega),List.getElem?_append,hul];have e3:base+i - (base+off)=i - off:=by omega
  rw [e3]
  by_cases h2:i - off < vs.length
  ·rw [if_pos h2] at hi ⊢;exact hr.at hi
  ·rw [if_neg h2] at hi ⊢;rw [List.getElem?_drop] at hi ⊢;obtain⟨x,hx,hxr⟩:=hc _ a hi;refine⟨x,?_,hxr⟩;rw [← hgetC _ _ hx]
   congr 1
   omega
theorem Jyr{id off:Nat}{vs:List AV}{k:Hp→Res}(e:wrB h id off vs k= .ok v h'):∃ b,id < h.n∧get5 id h.t=some b∧b.ob= .row∧b.ro=false∧Qh vs=true∧off+vs.length≤b.cs.length∧
  k (putB h id (some ⟨b.ty,b.ex,false,b.cs.take off++vs++b.cs.drop (off+vs.length),.row⟩))= .ok v h':=by
 unfold wrB at e;obtain⟨b,hid,hb,hrow,e⟩:=Jc8 e;obtain⟨h1,e⟩:=recB e;obtain⟨h2,e⟩:=recB e
 rcases Jk1 b.cs off vs (fun cs=>k (putB h id (some ⟨b.ty,b.ex,false,cs,.row⟩))) with ⟨e2,hl⟩ | ⟨n,e2⟩
 ·rw [e2] at e;exact⟨b,hid,hb,hrow,Jhm h1,h2,hl,e⟩
 ·rw [e2] at e;cases e
theorem Rel.wr {id off:Nat} {b:Blk} {en:Ent} {C:Array Value} {T:TypeId} {vs:List AV} {us:List Value} (r:Rel Φ τ h w) (hid:id < h.n) (hb:get5 id h.t=some b) (br:BR Φ τ w b en id C T) (hro:b.ro=false)
  (hr:RvL Φ vs us) (hl:off+vs.length≤b.cs.length):
  Rel Φ τ (putB h id (some ⟨b.ty,b.ex,false,b.cs.take off++vs++b.cs.drop (off+vs.length),.row⟩)) (w.setRow en.g (C.toList.take (en.base+off)++us++C.toList.drop (en.base+off+us.length)).toArray)∧
  Tw Φ τ h w Φ τ h.n (w.setRow en.g (C.toList.take (en.base+off)++us++C.toList.drop (en.base+off+us.length)).toArray):=by
 have hle:=br.le;have hsz:=br.size;have hul:=hr.len;refine r.put hid hb br hro rfl rfl rfl rfl ?_ ?_ (br.cr.put hr hl (by omega)) rfl
 ·simp only [List.length_append,List.length_take,List.length_drop];omega
 ·simp only [List.size_toArray,List.length_append,List.length_take,List.length_drop,Array.length_toList];omega
theorem Jk6{t:TypeId}{a x:Operand}(e:Qn P t a x f h= .ok v h')(hlim:h.n≤big5→True:=fun _=>trivial):(h.n≤big5→Grow h h')∧
  ∀ (Φ:Phi) (τ:Tau) (F:Wf.Fr) (w:World) (dst:Option Tmp) (ty:TypeId) (pos:String) (after:Array Edge) (gd:Option (Nat × Bool)),FR Φ f F→Rel Φ τ h w→
  St P (fe F) ⟨dst,.store t a x,ty,pos,after,gd⟩ w (fun x w'=>Rv Φ v x∧Rel Φ τ h' w'∧Tw Φ τ h w Φ τ h'.n w') KF:=by
 unfold Qn at e
 split at e
 ·rename_i id off ha
  split at e
  ·rename_i vs hvs
   split at e
   ·rename_i sz hsz
    obtain⟨hl,e⟩:=recB e;have hl:=Nat.eq_of_beq_eq_true hl;rw [Qe] at hl;obtain⟨b,hid,hb,hrow,hro,hsc,hle,e⟩:=Jyr e;obtain⟨rfl,rfl⟩:=Jv e;refine⟨fun hn=>Grow.put hn hid hb,fun Φ τ F w dst ty pos after gd hF hR=>?_⟩
    have hr:=Jd hF a;rw [ha] at hr;obtain⟨en,hen,hv⟩:=hr.pI;obtain⟨e',C,T,br⟩:=(hR.blk id b hid hb).row hrow
    have:=br.ent
    rw [hen] at this;cases this;obtain⟨us,hu1,hu2⟩:=yu hvs (Jd hF x);obtain⟨z,by_,hinf⟩:=Vk hsz;obtain⟨inf,hi',_,hs,_⟩:=Jl hinf;have hble:=br.le;have hbs:=br.size;have hul:=hu2.len;obtain⟨g1,g2⟩:=hR.wr hid hb br hro hu2 hle;refine St.store (C:=C.toList) (T:=T) hi' hs hv hu1 (by rw [hul,hl]) ?_ (by rw [Array.length_toList];omega) (kh hsc hu2) ?_
    ·unfold Wf.Blk;rw [br.obj0 hro]
    ·intro C' hC';subst hC';exact⟨by simp only [Rv],g1,g2⟩
   ·cases e
  ·cases e
 ·cases e
structure SrcW (P:Program) (t':TypeId) (w:World) (size n:Nat) (y:Value) (ys:List Value):Prop where
 ty:P.underlying t'=some .string∨∃ e,P.underlying t'=some (.slice e)
 len:∀ w',(Builtin.lenOf y).run P w'= .ok n w'
 cells:∀ w',w'.heap=w.heap→(Builtin.firstCells size n y).run P w'= .ok ys.toArray w'
theorem kn{t t' ty e:TypeId}{i:TypeInfo}(ht:P.underlying t=some (.slice e))(hi:P.info? e=some i){s y:Value}{n c:Nat}{a:Option Addr}(hs:s= .slice a n c)(hn:n≤c)(S:SrcW P t' w i.size 0 y []):
  (Builtin.append_ #[t,t'] ty #[s,y]).run P w= .ok s w:=by
 subst hs;have h1:=S.len w;have h2:=S.cells w rfl
 rcases S.ty with hu | ⟨e',hu⟩ <;> cases a <;> simp [Builtin.append_,run_underlying ht,run_underlying hu,sizeOf,typeInfo,hi,h1,h2,hn,storeCells]
theorem kg {t t' ty e:TypeId} {i:TypeInfo} (ht:P.underlying t=some (.slice e)) (hi:P.info? e=some i) {g o sLen sCap:Nat} {T:TypeId} {cur:Array Value} (hg:w.heap[g]? =some (.cells cur T (0,0)))
  {y:Value} {m:Nat} {news:List Value} (S:SrcW P t' w i.size m y news) (h1:∀ u ∈ news,u.oneCell'=true) (hroom:sLen+m≤sCap) (hfit:o+sLen * i.size+news.length≤cur.size):
  (Builtin.append_ #[t,t'] ty #[.slice (some ⟨g,o,none⟩) sLen sCap,y]).run P w=
   .ok (.slice (some ⟨g,o,none⟩) (sLen+m) sCap) (w.setRow g (cur.toList.take (o+sLen * i.size)++news++cur.toList.drop (o+sLen * i.size+news.length)).toArray):=by
 have hl:=S.len w;have hf:=S.cells w rfl;have hst:=run_storeCells_at P g (o+sLen * i.size) T news 0 cur w hg (by simpa using hfit) h1;simp only [Nat.add_zero] at hst
 rcases S.ty with hu | ⟨e',hu⟩ <;> simp [Builtin.append_,run_underlying ht,run_underlying hu,sizeOf,typeInfo,hi,hl,hroom,hf,Addr.add_lit,hst]
theorem Jhv {t t' ty e:TypeId} {i:TypeInfo} {z:Value} (ht:P.underlying t=some (.slice e)) (hi:P.info? e=some i) (hz:i.zero=some z) {y:Value} {n:Nat} {news:List Value} (S:SrcW P t' w i.size n y news)
  (h0:0 < n) (h63:(n:Int)≤9223372036854775807) (h48:n * i.bytes≤281474976710656):
  (Builtin.append_ #[t,t'] ty #[.slice none 0 0,y]).run P w=
   .ok (.slice (some ⟨w.heap.size,0,none⟩) n (grownCap w n 0 e)) (w.drew.alloc (.cells (news.toArray++Builtin.zeroCells z.cells (grownCap w n 0 e - n)) e)):=by
 have hn:n≠0:=by omega
 have h63':¬ (9223372036854775807 < (n:Int)):=by omega
 have h48':¬ (281474976710656 < Builtin.nextslicecap n 0 * i.bytes):=by rw [nextslicecap_zero h0];omega
 have hl:=S.len w;have hf:=S.cells w.drew rfl
 rcases S.ty with hu | ⟨e',hu⟩ <;> simp [Builtin.append_,run_underlying ht,run_underlying hu,sizeOf,typeInfo,zeroValue,hi,hz,hl,hn,h63',h48',Question.forced,run_firstCells_none,hf,newRow,grownCap]
theorem qu {t t' ty e:TypeId} {i:TypeInfo} {z:Value} (ht:P.underlying t=some (.slice e)) (hi:P.info? e=some i) (hz:i.zero=some z)
  {b:Addr} {sLen sCap:Nat} {olds:List Value} (hlo:olds.length=sLen * i.size) (holds:∀ j v,olds[j]? =some v→w.cell? (b.add j)=some v) {y:Value} {n:Nat} {news:List Value} (S:SrcW P t' w i.size n y news)
  (hg:sCap < sLen+n) (h63:((sLen+n:Nat):Int)≤9223372036854775807) (hfit:Builtin.nextslicecap (sLen+n) sCap * i.bytes≤281474976710656):
  (Builtin.append_ #[t,t'] ty #[.slice (some b) sLen sCap,y]).run P w=
   .ok (.slice (some ⟨w.heap.size,0,none⟩) (sLen+n) (grownCap w (sLen+n) sCap e))
    (w.drew.alloc (.cells (olds.toArray++news.toArray++Builtin.zeroCells z.cells (grownCap w (sLen+n) sCap e - (sLen+n))) e)):=by
 have hn:¬ (sLen+n≤sCap):=by omega
 have h63':¬ (9223372036854775807 < ((sLen:Int)+(n:Int))):=by omega
 have h48':¬ (281474976710656 < Builtin.nextslicecap (sLen+n) sCap * i.bytes):=by omega
 have hl:=S.len w;have hf:=S.cells w.drew rfl;have hfo:=run_firstCells_some (P:=P) w.drew i.size sLen b sLen sCap olds hlo (by simpa using holds)
 rcases S.ty with hu | ⟨e',hu⟩
 all_goals
  simp [Builtin.append_,run_underlying ht,run_underlying hu,sizeOf,typeInfo,zeroValue,hi,hz,hl,hn,h63',h48',Question.forced,hf,hfo,newRow,grownCap]
  congr 2
  apply Array.ext'
  simp [List.append_assoc]
theorem J33 {ρ:Operand→Value} {a b:Operand} {t t':TypeId} {dst:Option Tmp} {ty:TypeId} {pos:String} {after:Array Edge} {gd:Option (Nat × Bool)} {K:Value→World→Prop} {Kp:List PanicEntry→World→Prop} {x:Value}
  (hr:(Builtin.append_ #[t,t'] ty #[ρ a,ρ b]).run P w= .ok x w') (hk:K x w'):St P ρ ⟨dst,.call {callee:= .builtin .append,args:= #[a,b],argTypes:= #[t,t']},ty,pos,after,gd⟩ w K Kp:=by
 refine J3c (v:=x) (w':=w') ?_ hk;simp [execOp,resolve,invoke,builtin,hr]
theorem kd{e m n:Nat}{k:Nat→Res}(he:Jhz P e m n k= .ok v h'):m+n≤1000000∧(∀ z sz by_,J9 P e=some (z,sz,by_)→by_≤65536)∧k (m+n)= .ok v h':=by
 unfold Jhz at he;rw [Xr] at he;obtain⟨hc,he⟩:=recB he;obtain⟨h1,h2⟩:=Zp hc;refine⟨Nat.le_of_ble_eq_true h1,fun z sz by_ hi=>?_,he⟩
 have h2:=Nat.le_of_ble_eq_true h2;unfold byOf at h2;rw [hi] at h2;exact h2
theorem Jec {el sz:Nat} {h0:Hp} {m n:Nat} {us vs:List AV} {xs ys:List Value} {z:Value} {by_ G:Nat} {T:TypeId} {w1:World} (he:Vt P el sz h0 m n us vs= .ok v h') (hR:Rel Φ τ h0 w) (hf:Φ h0.n=none)
  (hu:RvL Φ us xs) (hv:RvL Φ vs ys) (hxl:xs.length=m * sz) (hyl:ys.length=n * sz) (hz:z.cells.size=sz) (hG:m+n≤G) (hGm:G≤maxLen)
  (hT:T=el) (hw:Wn w (.cells (xs.toArray++ys.toArray++Builtin.zeroCells z.cells (G - (m+n))) T (0,0)) w1):
  Grow h0 h'∧∃ Φ' τ',Rv Φ' v (.slice (some ⟨w.heap.size,0,none⟩) (m+n) G)∧Rel Φ' τ' h' w1∧Tw Φ τ h0 w Φ' τ' h'.n w1:=by
 unfold Vt at he;obtain⟨h1,h2,he⟩:=kd he;rw [Vs] at he;obtain⟨hb,he⟩:=jk he;obtain⟨rfl,rfl⟩:=Jv he;have hCs:(xs.toArray++ys.toArray++Builtin.zeroCells z.cells (G - (m+n))).size=G * sz:=by
  simp only [Array.size_append,List.size_toArray,size_zeroCells,hz,hxl,hyl,← Nat.add_mul]
  congr 1;omega
 have hap:=hu.app hv;have nb:NB Φ h0.n ⟨el,false,false,us++vs,.row⟩ ⟨w.heap.size,0,(xs.toArray++ys.toArray++Builtin.zeroCells z.cells (G - (m+n))).size⟩ (.cells (xs.toArray++ys.toArray++Builtin.zeroCells z.cells (G - (m+n))) T (0,0)):=by
  refine NB.row rfl (fun _=>rfl) hT ?_ (fun hx=>by cases hx) ?_
  ·show(us++vs).length≤_
   rw [hCs,← hap.len,List.length_append,hxl,hyl,← Nat.add_mul];exact Nat.mul_le_mul_right _ hG
  ·intro i a hi;obtain⟨x,hx,hr⟩:=hap.at hi;refine⟨x,?_,hr⟩;have hlt:=(List.getElem?_eq_some_iff.1 hx).1;rw [Nat.zero_add,Array.getElem?_append_left (by simp at hlt ⊢;exact hlt)];simpa using hx
 obtain⟨τ',r1,r2⟩:=hR.new hb hf nb hw;refine⟨Grow.new hb,_,τ',?_,r1,r2⟩;refine Rv.msl (e:=⟨w.heap.size,0,_⟩) (c:=G) (Vj _ _ _) hG hGm ?_ trivial
 show 0+G * sz≤(xs.toArray++ys.toArray++Builtin.zeroCells z.cells (G - (m+n))).size
 rw [hCs];omega
theorem km{id i:Nat}(r:Rel Φ τ h w)(hid:id < h.n)(hi:i < h.n):get5 i (putB h id none).t=if i=id then none else get5 i h.t:=Zo _ _ _ _ (js r hi) (js r hid)
theorem Jgh{id i:Nat}(r:Rel Φ τ h w)(hid:id < h.n)(hi:h.n≤i)(h5:i < big5):get5 i (putB h id none).t=none:=by
 have:get5 i (putB h id none).t=if i=id then none else get5 i h.t:=Zo _ _ _ _ h5 (js r hid)
 rw [this,if_neg (by omega)];exact r.fin i hi h5
theorem Rel.kill{id:Nat}(r:Rel Φ τ h w)(hid:id < h.n):Rel Φ τ (putB h id none) w:=by
 refine⟨r.lim,fun i b hi hb=>?_,fun i hi h5=>Jgh r hid hi h5⟩;have hi:i < h.n:=hi;rw [km r hid hi] at hb
 split at hb
 ·cases hb
 ·exact r.blk i b hi hb
theorem Tw.kill{id n:Nat}{Φ':Phi}{τ':Tau}(r:Rel Φ τ h w)(hid:id < h.n)(t:Tw Φ τ (putB h id none) w Φ' τ' n w'):Tw Φ τ h w Φ' τ' n w':=
 ⟨t.os,t.tape,t.output,t.size,t.sub,t.same,fun g hg hk=>t.keep g hg fun i e=>⟨fun hi=>by
  rw [km r hid hi]
  split
  ·rfl
  ·exact(hk i e).1 hi,(hk i e).2⟩⟩
theorem Rel.stay {id off m n sz:Nat} {b:Blk} {en:Ent} {C:Array Value} {T:TypeId} {el:TypeId} {us vs:List AV} {ys:List Value} {c:Nat} (r:Rel Φ τ h w) (hid:id < h.n) (hb:get5 id h.t=some b) (br:BR Φ τ w b en id C T) (hro:b.ro=false) (hbt:b.ty=el) (hlim:h.n < big5) (hf:Φ h.n=none)
  (hus:us=(b.cs.drop off).take (m * sz)) (hul:m * sz≤(b.cs.drop off).length) (hv:RvL Φ vs ys) (hyl:ys.length=n * sz) (hc:m+n≤c) (hcm:c≤maxLen) (hck:off+c * sz≤en.k):
  ∃ Φ' τ',Rv Φ' (.sl h.n 0 (m+n) sz none) (.slice (some ⟨en.g,en.base+off,none⟩) (m+n) c)∧
   Rel Φ' τ' ⟨set5 h.n (some ⟨el,false,false,us++vs,.row⟩) (putB h id none).t,h.n+1⟩ (w.setRow en.g (C.toList.take (en.base+off+m * sz)++ys++C.toList.drop (en.base+off+m * sz+ys.length)).toArray)∧
   Tw Φ τ h w Φ' τ' (h.n+1) (w.setRow en.g (C.toList.take (en.base+off+m * sz)++ys++C.toList.drop (en.base+off+m * sz+ys.length)).toArray):=by
 have hnew:∀ D,(w.setRow en.g D).heap[en.g]? =some (.cells D T (0,0)):=fun D=>setRow_heap w en.g C D T (0,0) (br.obj0 hro);have hlab:=br.lab;rw [hro] at hlab;simp only [Bool.false_eq_true,if_false] at hlab;have hsz:=br.size;have hle:=br.le;rw [List.length_drop] at hul;have hmc:(m+n) * sz≤c * sz:=Nat.mul_le_mul_right _ hc;rw [Nat.add_mul] at hmc
 generalize hD:(C.toList.take (en.base+off+m * sz)++ys++C.toList.drop (en.base+off+m * sz+ys.length)).toArray=D
 have hDs:D.size=C.size:=by
  subst hD;simp only [List.size_toArray,List.length_append,List.length_take,List.length_drop,Array.length_toList];omega
 have hvl:=hv.len;have husl:us.length=m * sz:=by rw [hus,List.length_take,List.length_drop];omega
 have hcr:CR Φ D (en.base+off) (us++vs):=by
  intro i a hi;subst hD;have e1:(C.toList.take (en.base+off+m * sz)).length=en.base+off+m * sz:=by rw [List.length_take,Array.length_toList];omega
  simp only [List.getElem?_toArray,List.append_assoc];rw [List.getElem?_append,e1];rw [List.getElem?_append,husl] at hi
  by_cases h1:i < m * sz
  ·rw [if_pos h1,hus,List.getElem?_take,if_pos h1,List.getElem?_drop] at hi;obtain⟨x,hx,hxr⟩:=br.cr _ a hi;rw [if_pos (by omega),List.getElem?_take,if_pos (by omega)];refine⟨x,?_,hxr⟩;rw [← hx,Nat.add_assoc];simp
  ·rw [if_neg h1] at hi;rw [if_neg (by omega),List.getElem?_append,if_pos (by have:=(List.getElem?_eq_some_iff.1 hi).1;omega)];rw [show en.base+off+i - (en.base+off+m * sz)=i - m * sz by omega];exact hv.at hi
 refine⟨ext Φ h.n ⟨en.g,en.base+off,en.k - off⟩,fun g=>if g=en.g then .own h.n else τ g,?_,⟨hlim,?_,?_⟩,⟨rfl,rfl,rfl,by simp [World.setRow],Sub.ext hf,?_,?_⟩⟩
 ·have:=Rv.msl (id:=h.n) (off:=0) (z:=sz) (cap:=none) (e:=⟨en.g,en.base+off,en.k - off⟩) (c:=c) (Vj Φ h.n _) hc hcm (by show 0+c * sz≤en.k - off;omega) trivial
  simpa using this
 ·intro i b' hi hb';have hi:i < h.n+1:=hi;have hb':get5 i (set5 h.n (some ⟨el,false,false,us++vs,.row⟩) (putB h id none).t)=some b':=hb';rw [Zo _ _ _ _ (by omega) hlim] at hb'
  by_cases e:i=h.n
  ·rw [if_pos e] at hb'
   cases hb'
   subst e;refine .inl ⟨⟨en.g,en.base+off,en.k - off⟩,D,T,Vj _ _ _,?_,rfl,br.ty.trans hbt,⟨(0,0),hnew D,fun _=>rfl⟩,?_,?_,(fun hx=>by cases hx),hcr.mono (Sub.ext hf)⟩
   ·show(if en.g=en.g then Lab.own h.n else τ en.g)=_
    rw [if_pos rfl];rfl
   ·show D.size=en.base+off+(en.k - off)
    rw [hDs];omega
   ·show(us++vs).length≤en.k - off
    rw [List.length_append,husl,← hvl,hyl];omega
  ·rw [if_neg e,km r hid (by omega)] at hb'
   split at hb'
   ·cases hb'
   ·rename_i hne
    obtain⟨en2,_,_,hl2,k⟩:=(r.blk i b' (by omega) hb').at_;have hg2:en2.g≠en.g:=by
     intro hg;have h2:=hl2;rw [hg,hlab] at h2
     split at h2
     ·cases h2
     ·cases h2;exact hne rfl
    exact k (Sub.ext hf) (setRow_other w en.g _ D hg2) (if_neg hg2)
 ·intro i hi h5;have hi:h.n+1≤i:=hi
  show get5 i (set5 h.n (some ⟨el,false,false,us++vs,.row⟩) (putB h id none).t)=none
  rw [Zo _ _ _ _ h5 hlim,if_neg (by omega)];exact Jgh r hid (by omega) h5
 ·intro i hi;unfold Ev.ext;rw [if_neg (by omega)]
 ·intro g hg hk;have hne:g≠en.g:=by
   rintro rfl
   have:=(hk id hlab).1 hid
   rw [hb] at this;cases this
  refine⟨setRow_other w en.g g D hne,?_⟩
  show(if g=en.g then Lab.own h.n else τ g)=τ g
  rw [if_neg hne]
end
end Go.Ev
namespace Go.Ev
open Go Go.Wf Go.RowKit
section
variable {P:Program} {f:Fr} {v:AV} {h h':Hp} {Φ:Phi} {τ:Tau} {w w':World}
theorem Jis{w w':World}(h:w'.heap=w.heap)(a:Addr):w'.cell? a=w.cell? a:=by unfold World.cell?;rw [h]
def SlTy(P:Program)(t:TypeId):Prop:=P.underlying t=some .string∨∃ e,P.underlying t=some (.slice e)
theorem Jwj{sz:Nat}{x:AV}{k:Nat→List AV→Res}(e:srcK h sz x k= .ok v h'):∃ n vs,0 < n∧k n vs= .ok v h'∧
  ∀ (Φ:Phi) (τ:Tau) (w:World) (y:Value) (t':TypeId),Rv Φ x y→Rel Φ τ h w→SlTy P t'→∃ ys,ys.length=n * sz∧RvL Φ vs ys∧SrcW P t' w sz n y ys:=by
 unfold srcK at e
 split at e
 ·rename_i id off n z cap
  obtain⟨hc,e0⟩:=recB e;clear e;obtain⟨h1,h2⟩:=Zp hc
  have:=Nat.eq_of_beq_eq_true h1
  subst this;obtain⟨b,hid,hb,hrow,e⟩:=Jc8 e0;clear e0
  rcases Jcn (dr b.cs off) (Nat.mul n z) (k n) with ⟨e2,hl⟩ | ⟨m,e2⟩
  ·rw [e2,vg] at e;rw [vg] at hl;refine⟨n,_,Yc h2,e,fun Φ τ w y t' hr hR ht=>?_⟩
   obtain⟨en,c,hen,rfl,_⟩:=hr.slI;obtain⟨e',C,T,br⟩:=(hR.blk id b hid hb).row hrow
   have:=br.ent
   rw [hen] at this;cases this;obtain⟨ys,k1,k2,k3⟩:=br.cells off (n * z) hl;refine⟨ys,k1,k2,ht,fun w'=>rfl,fun w' hw=>?_⟩
   exact run_firstCells_some (P:=P) w' z n _ n c ys k1 fun j u hj=>by rw [Jis hw,Addr.add_lit];exact k3 j u hj
  ·rw [e2] at e;cases e
 ·rename_i l
  obtain⟨hc,e0⟩:=recB e;clear e;have e:=e0;clear e0;obtain⟨h1,h2⟩:=Zp hc
  have:=Nat.eq_of_beq_eq_true h1
  subst this;rw [Xr,Vs,List.append_nil] at e;have h2:=Yc h2;rw [Qe] at e h2;refine⟨_,_,h2,e,fun Φ τ w y t' hr hR ht=>?_⟩
  obtain⟨hl,rfl⟩:=hr.sI;have hsize:(⟨(l.map UInt8.ofNat).toArray⟩:ByteArray).size=l.length:=by simp [ByteArray.size]
  refine⟨l.map fun c=> .int .u8 (Int.ofNat c),by simp,?_,ht,fun w'=>?_,fun w' hw=>?_⟩
  ·rw [Jpv];refine RvL.mk (by simp) fun i a u ha hu=>?_
   rw [List.getElem?_map] at ha hu
   cases hli:l[i]? with
   | none=>rw [hli] at ha;cases ha
   | some c=>rw [hli] at ha hu;cases ha;cases hu;exact Rv.mi
  ·simp [str,Builtin.lenOf,hsize]
  ·have hcs:(l.map UInt8.ofNat).map (fun b:UInt8=>Value.int .u8 (b.toNat:Int))=l.map fun c=>Value.int .u8 (Int.ofNat c):=by
    rw [List.map_map]
    apply List.map_congr_left
    intro c hc;simp [Nat.mod_eq_of_lt (hl c hc)]
   have hex:(⟨(l.map UInt8.ofNat).toArray⟩:ByteArray).extract 0 l.length=⟨(l.map UInt8.ofNat).toArray⟩:=by
    have:=Qv (l.map UInt8.ofNat) 0 l.length
    rw [List.drop_zero,List.take_of_length_le (by simp)] at this;exact this
   have hq:(Builtin.firstCells 1 l.length (str (l.map UInt8.ofNat))).run P w'= .ok ((⟨(l.map UInt8.ofNat).toArray⟩:ByteArray).data.map fun b=>Value.int .u8 (b.toNat:Int)) w':=by
    simp only [str,Builtin.firstCells,hex,Sem.run_pure]
   rw [hq]
   congr 1
   apply Array.ext'
   rw [← hcs];simp
 ·cases e
theorem Jm4{x:AV}(hx:Jfi x=true){Φ:Phi}{y:Value}{t':TypeId}{sz:Nat}(hr:Rv Φ x y)(ht:SlTy P t'):SrcW P t' w sz 0 y []:=by
 have key:∀ (a:Option Addr) (c:Nat),SrcW P t' w sz 0 (.slice a 0 c) []:=fun a c=>⟨ht,fun w'=>rfl,fun w' _=>by cases a <;> simp [Builtin.firstCells,loadCells,loadCellsFrom]⟩;unfold Jfi at hx
 split at hx
 ·simp only [Rv] at hr;subst hr;exact key _ _
 ·simp only [Rv] at hr;obtain⟨a,c,rfl⟩:=hr;exact key _ _
 ·obtain⟨_,c,_,rfl,_⟩:=hr.slI;exact key _ _
 ·obtain⟨_,rfl⟩:=hr.sI;exact⟨ht,fun w'=>rfl,fun w' _=>by simp [str,Builtin.firstCells]⟩
 ·cases hx
theorem Jd9{el sz:Nat}{h0:Hp}{m n:Nat}{us vs:List AV}(he:Vt P el sz h0 m n us vs= .ok v h'):h'.n=h0.n+1∧h0.n < big5∧m+n≤1000000∧(∀ z sz by_,J9 P el=some (z,sz,by_)→by_≤65536):=by
 unfold Vt at he;obtain⟨h1,h2,he⟩:=kd he;rw [Vs] at he;obtain⟨hb,he⟩:=jk he;obtain⟨rfl,rfl⟩:=Jv he;exact⟨rfl,hb,h1,h2⟩
theorem Je5{el sz:Nat}{h0:Hp}{m n:Nat}{us vs:List AV}(he:Vt P el sz h0 m n us vs= .ok v h'):Grow h0 h':=by
 unfold Vt at he;obtain⟨h1,h2,he⟩:=kd he;rw [Vs] at he;obtain⟨hb,he⟩:=jk he;obtain⟨rfl,rfl⟩:=Jv he;exact Grow.new hb
theorem Jy7{u:Value}{id off n sz:Nat}{cap:Option Nat}{b:Blk}(hr:Rv Φ (.sl id off n sz cap) u)(hR:Rel Φ τ h w)(hid:id < h.n)(hb:get5 id h.t=some b)(hrow:b.ob= .row)(hl:n * sz≤(b.cs.drop off).length):
  ∃ A c ys,u= .slice (some A) n c∧ys.length=n * sz∧RvL Φ ((b.cs.drop off).take (n * sz)) ys∧∀ j y,ys[j]? =some y→w.cell? (A.add j)=some y:=by
 obtain⟨en,c,hen,rfl,_⟩:=hr.slI;obtain⟨e',C,T,br⟩:=(hR.blk id b hid hb).row hrow
 have:=br.ent
 rw [hen] at this;cases this;obtain⟨ys,h1,h2,h3⟩:=br.cells off (n * sz) hl;exact⟨_,c,ys,rfl,h1,h2,fun j y hj=>by rw [Addr.add_lit];exact h3 j y hj⟩
def MvB(P:Program)(op:Op)(f:Fr)(v:AV)(h h':Hp):Prop:=(h.n≤big5→Grow h h')∧
  ∀ (Φ:Phi) (τ:Tau) (F:Wf.Fr) (w:World) (dst:Option Tmp) (ty:TypeId) (pos:String) (after:Array Edge) (gd:Option (Nat × Bool)),FR Φ f F→Rel Φ τ h w→Fre Φ h.n h'.n→
  St P (fe F) ⟨dst,op,ty,pos,after,gd⟩ w (fun x w'=>∃ Φ' τ',Rv Φ' v x∧Rel Φ' τ' h' w'∧Tw Φ τ h w Φ' τ' h'.n w') KF
theorem Jh5{ts:Array TypeId}{args:Array Operand}(e:Vz P ts.toList (opds f args.toList) h= .ok v h'):MvB P (.call {callee:= .builtin .append,args:=args,argTypes:=ts}) f v h h':=by
 unfold Vz at e
 split at e
 ·rename_i t t' s x hts hxs
  obtain⟨a,b,hal,ha,hb⟩:=two hxs;have hargs:args= #[a,b]:=by apply Array.ext';rw [hal]
  subst hargs;have hts':ts= #[t,t']:=by apply Array.ext';rw [hts]
  subst hts'
  split at e
  ·cases e
  ·rename_i el hel
   split at e
   ·rename_i sz zc hsz hzc
    obtain⟨hc,e0⟩:=recB e;clear e;obtain⟨hc,hzl⟩:=Zp hc;obtain⟨hpos,htt⟩:=Zp hc;have hpos:0 < sz:=Yc hpos;have hu:=ki hel;have htt:SlTy P t':=by
     rcases Bool.or_eq_true_iff.1 htt with h1 | h1
     ·have:=Nat.eq_of_beq_eq_true h1;subst this;exact .inr ⟨el,hu⟩
     ·exact .inl (Vr (Zp h1).1)
    have hzl:=Nat.eq_of_beq_eq_true hzl;obtain⟨zv,sz',by_,hinf,rfl⟩:=Jdf hzc;obtain⟨zv2,by2,hinf2⟩:=Vk hsz;rw [hinf] at hinf2;simp only [Option.some.injEq,Prod.mk.injEq] at hinf2;obtain⟨rfl,rfl,rfl⟩:=hinf2;rw [Qe,List.length_map,Array.length_toList] at hzl;obtain⟨inf,hi',hz,hs,hby⟩:=Jl hinf;rw [zu] at e0
    split at e0
    ·
     rename_i hE
     have fin:∀ {s':AV},opd f a=s'→(s'= .ns∨∃ id off n z cap,s'= .sl id off n z cap)→Res.ok s' h= .ok v h'→MvB P (.call {callee:= .builtin .append,args:= #[a,b],argTypes:= #[t,t']}) f v h h':=by
      intro s' hs' hk he;obtain⟨rfl,rfl⟩:=Jv he;refine⟨fun _=>Grow.refl _,fun Φ τ F w dst ty pos after gd hF hR hFr=>?_⟩
      have hra:=Jd hF a;have hrb:=Jd hF b;rw [hs'] at hra;rw [hb] at hrb;have S:=Jm4 (P:=P) (w:=w) (sz:=inf.size) hE hrb htt;refine J33 (x:=fe F a) (w':=w) ?_ ⟨Φ,τ,hra,hR,Tw.refl _ _ _ _ _⟩
      rcases hk with rfl | ⟨id,off,n,z,cap,rfl⟩
      ·simp only [Rv] at hra;exact kn hu hi' hra (Nat.le_refl _) S
      ·obtain⟨en,c,_,hv,hn,_⟩:=hra.slI;exact kn hu hi' hv hn S
     split at e0
     ·exact fin ha (.inl rfl) e0
     ·exact fin ha (.inr ⟨_,_,_,_,_,rfl⟩) e0
     ·cases e0
    ·obtain⟨n,vs,hn,e1,hsrc⟩:=Jwj (P:=P) e0;clear e0
     cases s with
     | ns=>
      have e2:Vt P el sz' h 0 n [] vs= .ok v h':=e1;clear e1;have hg:=Je5 e2;obtain⟨hn1,hlim,hmn,hbb⟩:=Jd9 e2;refine⟨fun _=>hg,fun Φ τ F w dst ty pos after gd hF hR hFr=>?_⟩
      have hra:=Jd hF a;have hrb:=Jd hF b;rw [ha] at hra;rw [hb] at hrb;simp only [Rv] at hra;obtain⟨ys,hyl,hyr,S⟩:=hsrc Φ τ w _ t' hrb hR htt;have hby':=hbb _ _ _ hinf;have hnb:n * by_≤1000000 * 65536:=Nat.mul_le_mul (by omega) hby';rw [← hs] at S;have hrun:=Jhv (P:=P) (w:=w) (ty:=ty) hu hi' hz S hn (by omega) (by rw [hby];omega);have hge:=grownCap_ge w n 0 el;have hgm:=grownCap_le_maxLen w n 0 el (by unfold maxLen;omega);obtain⟨_,Φ',τ',k1,k2,k3⟩:=Jec (G:=grownCap w n 0 el) (z:=zv) (by_:=by_) (xs:=[]) e2 hR (hFr _ (Nat.le_refl _) (by omega)) (by simp only [RvL]) hyr (by simp) hyl hzl (by omega) hgm rfl (Wn.drew w _);refine J33 (w':=w.drew.alloc (.cells (ys.toArray++Builtin.zeroCells zv.cells (grownCap w n 0 el - n)) el)) (by rw [hra];exact hrun) ⟨Φ',τ',?_,?_,?_⟩
      ·simpa using k1
      ·simpa using k2
      ·simpa using k3
     | sl id off m z cap=>
      unfold apTo at e1;obtain⟨hzz,e2⟩:=recB e1;clear e1;have hzz:=Nat.eq_of_beq_eq_true hzz;subst hzz
      cases cap with
      | some c0=>
       simp only at e2;rw [zu] at e2
       split at e2
       ·
        rename_i hfit
        have hfit:m+n≤c0:=Nat.le_of_ble_eq_true hfit;obtain⟨b1,hid1,hb1,hrow1,hro,hsc,hle,e3⟩:=Jyr e2;clear e2;obtain⟨hmn,hbb,e4⟩:=kd e3;clear e3;obtain⟨rfl,rfl⟩:=Jv e4;refine⟨fun hl=>Grow.put hl hid1 hb1,fun Φ τ F w dst ty pos after gd hF hR hFr=>?_⟩
        have hra:=Jd hF a;have hrb:=Jd hF b;rw [ha] at hra;rw [hb] at hrb;obtain⟨ys,hyl,hyr,S⟩:=hsrc Φ τ w _ t' hrb hR htt;obtain⟨en,c1,hen,hv,q1,q2,q3,q4⟩:=hra.slI
        have:c1=c0:=q4
        subst this;obtain⟨e',C,T,br⟩:=(hR.blk id b1 hid1 hb1).row hrow1
        have:=br.ent
        rw [hen] at this;cases this;have hvl:=hyr.len;obtain⟨g1,g2⟩:=hR.wr hid1 hb1 br hro hyr hle;have hble:=br.le;have hbs:=br.size;have hle':off+m * z+vs.length≤b1.cs.length:=hle;rw [← hs] at S;have hrun:=kg (P:=P) (w:=w) (ty:=ty) hu hi' (g:=en.g) (o:=en.base+off) (sLen:=m) (sCap:=c1) (br.obj0 hro) S (fun u hu=>by have:=kh hsc hyr;exact List.all_eq_true.1 this u hu) hfit (by rw [hs];omega);rw [hs] at hrun;refine J33 (by rw [hv];exact hrun) ⟨Φ,τ,?_,?_,?_⟩
        ·exact Rv.msl hen hfit q2 q3 rfl
        ·rw [Nat.add_assoc en.base off];exact g1
        ·rw [Nat.add_assoc en.base off];exact g2
       ·
        rename_i hfit
        have hfit:c0 < m+n:=by
         rcases Nat.lt_or_ge c0 (m+n) with h | h
         ·exact h
         ·exact absurd (Nat.ble_eq_true_of_le h) hfit
        obtain⟨b1,hid1,hb1,hrow1,e3⟩:=Jc8 e2;clear e2
        rcases Jcn (dr b1.cs off) (Nat.mul m z) (fun us=>Vt P el z h m n us vs) with ⟨e4,hl⟩ | ⟨q,e4⟩
        ·rw [e4] at e3;rw [vg] at e3 hl;have hg:=Je5 e3;obtain⟨hn1,hlim,hmn,hbb⟩:=Jd9 e3;refine⟨fun _=>hg,fun Φ τ F w dst ty pos after gd hF hR hFr=>?_⟩
         have hra:=Jd hF a;have hrb:=Jd hF b;rw [ha] at hra;rw [hb] at hrb;obtain⟨ys,hyl,hyr,S⟩:=hsrc Φ τ w _ t' hrb hR htt;obtain⟨A1,c1,xs,hv,hxl,hxr,hxc⟩:=Jy7 hra hR hid1 hb1 hrow1 hl;obtain⟨en,c1',hen,hv',q1,q2,q3,q4⟩:=hra.slI
         have:c1'=c0:=q4
         subst this;have hcc:c1=c1':=by rw [hv] at hv';cases hv';rfl
         subst hcc;have hby':=hbb _ _ _ hinf;have hnb:(m+n) * by_≤1000000 * 65536:=Nat.mul_le_mul (by omega) hby';rw [← hs] at S;have hrun:=qu (P:=P) (w:=w) (ty:=ty) hu hi' hz (b:=A1) (sLen:=m) (sCap:=c1) (olds:=xs) (by rw [hxl,hs]) hxc S hfit (by omega) (growslice_fits hfit (by rw [hby];omega));have hge:=grownCap_ge w (m+n) c1 el;have hgm:=grownCap_le_maxLen w (m+n) c1 el (by unfold maxLen;omega);obtain⟨_,Φ',τ',k1,k2,k3⟩:=Jec (G:=grownCap w (m+n) c1 el) (z:=zv) (by_:=by_) e3 hR (hFr _ (Nat.le_refl _) (by omega)) hxr hyr hxl hyl hzl (by omega) hgm rfl (Wn.drew w _);exact J33 (by rw [hv];exact hrun) ⟨Φ',τ',k1,k2,k3⟩
        ·rw [e4] at e3;cases e3
      | none=>
       obtain⟨b1,hid1,hb1,hrow1,e3⟩:=Jc8 e2;clear e2;obtain⟨hc2,e4⟩:=recB e3;clear e3;obtain⟨hc2,hbt⟩:=Zp hc2;have hbt:=Nat.eq_of_beq_eq_true hbt;obtain⟨hro,hsc⟩:=Zp hc2;have hro:=Jhm hro
       rcases Jcn (dr b1.cs off) (Nat.mul m z) (fun us=>Vt P el z (putB h id none) m n us vs) with ⟨e5,hl⟩ | ⟨q,e5⟩
       ·rw [e5] at e4;rw [vg] at e4 hl;have hg:=Je5 e4;obtain⟨hn1,hlim,hmn,hbb⟩:=Jd9 e4;have hlim:h.n < big5:=hlim;have hn1:h'.n=h.n+1:=hn1;refine⟨fun hl=>(Grow.put hl hid1 hb1).trans hg,fun Φ τ F w dst ty pos after gd hF hR hFr=>?_⟩
        have hra:=Jd hF a;have hrb:=Jd hF b;rw [ha] at hra;rw [hb] at hrb;obtain⟨ys,hyl,hyr,S⟩:=hsrc Φ τ w _ t' hrb hR htt;obtain⟨A1,c1,xs,hv,hxl,hxr,hxc⟩:=Jy7 hra hR hid1 hb1 hrow1 hl;obtain⟨en,c1',hen,hv',q1,q2,q3,q4⟩:=hra.slI;have hcc:c1=c1':=by rw [hv] at hv';cases hv';rfl
        subst hcc;have hf:Φ h.n=none:=hFr _ (Nat.le_refl _) (by omega);rw [← hs] at S
        by_cases hfit:m+n≤c1
        ·obtain⟨e',C,T,br⟩:=(hR.blk id b1 hid1 hb1).row hrow1
         have:=br.ent
         rw [hen] at this;cases this;have hble:=br.le;have hbs:=br.size;have hmc:(m+n) * z≤c1 * z:=Nat.mul_le_mul_right _ hfit;rw [Nat.add_mul] at hmc;have hl':m * z≤(b1.cs.drop off).length:=hl;rw [List.length_drop] at hl';have hrun:=kg (P:=P) (w:=w) (ty:=ty) hu hi' (g:=en.g) (o:=en.base+off) (sLen:=m) (sCap:=c1) (br.obj0 hro) S (fun u hu=>by
          have:=kh hsc hyr;exact List.all_eq_true.1 this u hu) hfit (by rw [hs,hyl];omega)
         rw [hs] at hrun;obtain⟨Φ',τ',k1,k2,k3⟩:=hR.stay (el:=el) hid1 hb1 br hro hbt hlim hf rfl hl hyr hyl hfit q2 q3;unfold Vt at e4;obtain⟨_,_,e6⟩:=kd e4;clear e4;rw [Vs] at e6;obtain⟨_,e7⟩:=jk e6;clear e6;obtain⟨rfl,rfl⟩:=Jv e7;exact J33 (by rw [hv'];exact hrun) ⟨Φ',τ',k1,k2,k3⟩
        ·have hfit:c1 < m+n:=by omega
         have hby':=hbb _ _ _ hinf;have hnb:(m+n) * by_≤1000000 * 65536:=Nat.mul_le_mul (by omega) hby';have hrun:=qu (P:=P) (w:=w) (ty:=ty) hu hi' hz (b:=A1) (sLen:=m) (sCap:=c1) (olds:=xs) (by rw [hxl,hs]) hxc S hfit (by omega) (growslice_fits hfit (by rw [hby];omega));have hge:=grownCap_ge w (m+n) c1 el;have hgm:=grownCap_le_maxLen w (m+n) c1 el (by unfold maxLen;omega);obtain⟨_,Φ',τ',k1,k2,k3⟩:=Jec (G:=grownCap w (m+n) c1 el) (z:=zv) (by_:=by_) e4 (hR.kill hid1) hf hxr hyr hxl hyl hzl (by omega) hgm rfl (Wn.drew w _);exact J33 (by rw [hv];exact hrun) ⟨Φ',τ',k1,k2,k3.kill hR hid1⟩
       ·rw [e5] at e4;cases e4
     | _=>cases e1
   ·cases e
 ·cases e
end
end Go.Ev
namespace Go.Ev
open Go Go.Wf Go.RowKit
section
variable {P:Program} {f:Fr} {v:AV} {h h':Hp} {Φ:Phi} {τ:Tau} {w w':World}
theorem EsR.at:∀ {l:List En} {ms:List MapEntry} {i:Nat} {e:En},EsR Φ l ms→l[i]? =some e→∃ m,ms[i]? =some m∧EnR Φ e m:=by
 intro l
 induction l with
 | nil=>intro ms i e _ h;simp at h
 | cons a l ih=>
  rintro ms i e ⟨m,r,rfl,h1,h2⟩ hi
  cases i with
  | zero=>simp at hi;subst hi;exact⟨m,rfl,h1⟩
  | succ i=>obtain⟨m',h3,h4⟩:=ih h2 (by simpa using hi);exact⟨m',by simpa using h3,h4⟩
theorem EsR.len:∀ {l:List En} {ms:List MapEntry},EsR Φ l ms→ms.length=l.length:=by
 intro l
 induction l with
 | nil=>intro ms h;have h:ms=[]:=h;subst h;rfl
 | cons a l ih=>rintro ms ⟨m,r,rfl,h1,h2⟩;simp [ih h2]
theorem EsR.app:∀ {l:List En} {ms:List MapEntry} {e:En} {m:MapEntry},EsR Φ l ms→EnR Φ e m→EsR Φ (l++[e]) (ms++[m]):=by
 intro l
 induction l with
 | nil=>intro ms e m h hm;have h:ms=[]:=h;subst h;exact⟨m,[],rfl,hm,rfl⟩
 | cons a l ih=>rintro ms e m ⟨m',r,rfl,h1,h2⟩ hm;exact⟨m',r++[m],rfl,h1,ih h2 hm⟩
theorem OR.map{id:Nat}{b:Blk}{es:List En}{c:Nat}(r:Ko Φ τ w id b)(hb:b.ob= .map es c):∃ e E,OR Φ τ w b e id (.map E.toArray c)∧EsR Φ es E:=by
 obtain⟨e,O,h⟩:=r.obj (by rw [hb];rfl)
 have:=h.ob
 rw [hb] at this;obtain⟨E,rfl,hE⟩:=this;exact⟨e,E,h,hE⟩
theorem Jh0{t:TypeId}{x i:Operand}{ok:Bool}(e:Jak P t x i ok f h= .ok v h'):h'=h∧Rd P (.lookup t x i ok) f v h:=noOk e
theorem Jpy{t:TypeId}{ts:Array TypeId}{args:Array Operand}(hm:Jd6 P t=true)(hts:ts= #[t])(e:Jmt (opds f args.toList) h= .ok v h'):h'=h∧Rd P (.call {callee:= .builtin .len,args:=args,argTypes:=ts}) f v h:=noOk e
end
end Go.Ev
namespace Go.Ev
open Go Go.Wf Go.RowKit
section
variable {P:Program} {f:Fr} {v:AV} {h h':Hp} {Φ:Phi} {τ:Tau} {w w':World}
def j7(w:World)(g:Nat)(O:Obj):World:={w with heap:=w.heap.setIfInBounds g O}
theorem Jir{g:Nat}{O O':Obj}(h:w.heap[g]? =some O')(hn:∀ c t f,O'≠ .cells c t f:=by intro _ _ _ h;cases h):(setObj g O).run P w= .ok () (j7 w g O):=by
 cases O' with
 | cells c t f=>exact absurd rfl (hn c t f)
 | _=>simp [setObj,Sem.run,h,j7]
theorem Jfn{g:Nat}{O:Obj}(h:g < w.heap.size):(j7 w g O).heap[g]? =some O:=by simp [j7,h]
theorem qi{g k:Nat}{O:Obj}(h:k≠g):(j7 w g O).heap[k]? =w.heap[k]? :=by
 simp only [j7,Array.getElem?_setIfInBounds];rw [if_neg (fun e=>h e.symm)]
theorem xv{g:Nat}{O:Obj}:(j7 w g O).heap.size=w.heap.size:=by simp [j7]
theorem Rel.ob{id:Nat}{b b':Blk}{en:Ent}{O O':Obj}(r:Rel Φ τ h w)(hid:id < h.n)(hb:get5 id h.t=some b)(br:OR Φ τ w b en id O)(hro:b'.ro=false)(hO:ObR Φ b'.ob O'):
  Rel Φ τ (putB h id (some b')) (j7 w en.g O')∧Tw Φ τ h w Φ τ h.n (j7 w en.g O'):=
 r.turn (en:=en) hid hb br.lab rfl rfl rfl xv (fun g hg=>qi hg) (.inr (.inl ⟨en,O',br.ent,br.lab,hro,br.base,Jfn br.lt,hO⟩))
theorem ja{t:TypeId}{m k x:Operand}(e:Y4 P t m k x f h= .ok v h'):(h.n≤big5→Grow h h')∧v= .u∧
  ∀ (Φ:Phi) (τ:Tau) (F:Wf.Fr) (w:World),FR Φ f F→Rel Φ τ h w→∃ w',(Instr.mapUpdate t (fe F m) (fe F k) (fe F x)).run P w= .ok () w'∧Rel Φ τ h' w'∧Tw Φ τ h w Φ τ h'.n w':=noOk e
theorem Mv.skip {op:Op} {g:Wf.Fr→Sem Unit} (hop:∀ (F:Wf.Fr) (dst:Option Tmp) (ty:TypeId) (pos:String) (after:Array Edge) (gd:Option (Nat × Bool)),execOp (fe F) ⟨dst,op,ty,pos,after,gd⟩=(do g F;pure .skip)) (e:(h.n≤big5→Grow h h')∧v= .u∧
  ∀ (Φ:Phi) (τ:Tau) (F:Wf.Fr) (w:World),FR Φ f F→Rel Φ τ h w→∃ w',(g F).run P w= .ok () w'∧Rel Φ τ h' w'∧Tw Φ τ h w Φ τ h'.n w'):MvB P op f v h h':=by
 obtain⟨e1,rfl,e3⟩:=e;refine⟨e1,fun Φ τ F w dst ty pos after gd hF hR _=>?_⟩
 obtain⟨w',r,r1,r2⟩:=e3 Φ τ F w hF hR;unfold St;rw [hop];simp only [Sem.run_bind,r,Result.andThen,Sem.run_pure];exact⟨Φ,τ,by simp only [Rv],r1,r2⟩
theorem Ja2{t:TypeId}{m k x:Operand}(e:Y4 P t m k x f h= .ok v h'):MvB P (.mapUpdate t m k x) f v h h':=Mv.skip (fun _ _ _ _ _ _=>rfl) (ja e)
theorem Jh6{t:TypeId}{m k x:Operand}(e:Y4 P t m k x f h= .ok v h'):MvB P (.insert t m k x) f v h h':=Mv.skip (fun _ _ _ _ _ _=>rfl) (ja e)
theorem Mv.val {op:Op} {g:Wf.Fr→Sem Value} (hop:∀ (F:Wf.Fr) (dst:Option Tmp) (ty:TypeId) (pos:String) (after:Array Edge) (gd:Option (Nat × Bool)),execOp (fe F) ⟨dst,op,ty,pos,after,gd⟩=(do pure (.value (← g F)))) (e:(h.n≤big5→Grow h h')∧
  ∀ (Φ:Phi) (τ:Tau) (F:Wf.Fr) (w:World),FR Φ f F→Rel Φ τ h w→Fre Φ h.n h'.n→∃ x w',(g F).run P w= .ok x w'∧∃ Φ' τ',Rv Φ' v x∧Rel Φ' τ' h' w'∧Tw Φ τ h w Φ' τ' h'.n w'):MvB P op f v h h':=by
 obtain⟨e1,e3⟩:=e;refine⟨e1,fun Φ τ F w dst ty pos after gd hF hR hFr=>?_⟩
 obtain⟨x,w',r,r1⟩:=e3 Φ τ F w hF hR hFr;unfold St;rw [hop];simp only [Sem.run_bind,r,Result.andThen,Sem.run_pure];exact r1
theorem Jiw{t:TypeId}{x:Operand}(e:Vw P t x f h= .ok v h'):MvB P (.range t x) f v h h':=by
 have key:∀ {o:Ob} {O:Obj},newB h (itB o) (fun id h=> .ok (.p id 0) h)= .ok v h'→(∀ (Φ:Phi) (τ:Tau) (F:Wf.Fr) (w:World),FR Φ f F→Rel Φ τ h w→∃ O,ObR Φ o O∧(Instr.range t (fe F x)).run P w= .ok (.pointer (some ⟨w.heap.size,0,none⟩)) (w.alloc O))→MvB P (.range t x) f v h h':=by
  intro o _ e hr;obtain⟨hb,e⟩:=jk e;obtain⟨rfl,rfl⟩:=Jv e;refine Mv.val (g:=fun F=>Instr.range t (fe F x)) (fun _ _ _ _ _ _=>rfl) ⟨fun _=>Grow.new hb,fun Φ τ F w hF hR hFr=>?_⟩
  obtain⟨O,hO,hrun⟩:=hr Φ τ F w hF hR;have hf:=hFr h.n (Nat.le_refl _) (Nat.lt_succ_self _);obtain⟨τ',r1,r2⟩:=hR.new (k:=0) hb hf (NB.obj (b:=itB o) (g:=w.heap.size) (k:=0) rfl hO) (Wn.alloc w O);exact⟨_,_,hrun,_,τ',Rv.mp (Vj _ _ _),r1,r2⟩
 unfold Vw at e
 split at e
 ·rename_i l hx
  obtain⟨hs,e⟩:=recB e;refine key (O:= .stringIter ⟨(l.map UInt8.ofNat).toArray⟩ 0) e fun Φ τ F w hF hR=>?_
  have hr:=Jd hF x;rw [hx] at hr;obtain⟨hl,hv⟩:=hr.sI;exact⟨_,⟨hl,rfl⟩,by rw [hv];unfold str;simp [Instr.range,run_underlying (Vr hs)]⟩
 ·rename_i hx
  obtain⟨hs,e⟩:=recB e;obtain⟨p,hp⟩:=Option.isSome_iff_exists.1 hs;refine key (O:= .mapIter none 0 #[] 0) e fun Φ τ F w hF hR=>?_
  have hr:=Jd hF x;rw [hx] at hr;have hv:fe F x= .map none:=by simpa only [Rv] using hr
  exact⟨_,rfl,by rw [hv];simp [Instr.range,run_underlying (Ji2 hp)]⟩
 ·rename_i m hx
  obtain⟨hs,e⟩:=recB e;obtain⟨p,hp⟩:=Option.isSome_iff_exists.1 hs;obtain⟨b,es,c,hid,hb,hob,e⟩:=Jrk e;refine key (O:= .mapIter none 0 #[] 0) e fun Φ τ F w hF hR=>?_
  have hr:=Jd hF x;rw [hx] at hr;obtain⟨en',hen,hv⟩:=hr.mpI;obtain⟨en,E,hO,hE⟩:=OR.map (hR.blk m b hid hb) hob
  have:=hO.ent
  rw [hen] at this;cases this;have hgo:(getObj en'.g).run P w= .ok (.map E.toArray c) w:=by simp [getObj,Sem.run,hO.obj]
  exact⟨_,⟨en',hen,rfl⟩,by rw [hv];simp [Instr.range,run_underlying (Ji2 hp),hgo]⟩
 ·cases e
theorem tp3{Φ:Phi}{a b c:AV}{x y z:Value}(h1:Rv Φ a x)(h2:Rv Φ b y)(h3:Rv Φ c z):Rv Φ (.tp [a,b,c]) (.tuple #[x,y,z]):=by
 simp only [Rv];exact⟨[x,y,z],rfl,by simp only [RvL];exact⟨_,_,rfl,h1,_,_,rfl,h2,_,_,rfl,h3,rfl⟩⟩
theorem tp1{Φ:Phi}{a:AV}{x:Value}(h1:Rv Φ a x):Rv Φ (.tp [a]) (.tuple #[x]):=by
 simp only [Rv];exact⟨[x],rfl,by simp only [RvL];exact⟨_,_,rfl,h1,rfl⟩⟩
theorem Jo9{it:Operand}{st:Bool}(e:qn it st f h= .ok v h'):MvB P (.next it st) f v h h':=by
 unfold qn at e
 split at e
 ·rename_i id off hit
  obtain⟨hoff,e1⟩:=recB e;clear e;have hoff:=Nat.eq_of_beq_eq_true hoff;subst hoff;obtain⟨b,hid,hb,e⟩:=Jxa e1;clear e1;have stay:h'=h→(∀ (Φ:Phi) (τ:Tau) (F:Wf.Fr) (w:World) (ty:TypeId),FR Φ f F→Rel Φ τ h w→∃ x,(Instr.next (fe F it) st ty).run P w= .ok x w∧Rv Φ v x)→MvB P (.next it st) f v h h':=by
   rintro rfl hs;refine⟨fun _=>Grow.refl _,fun Φ τ F w dst ty pos after gd hF hR _=>?_⟩
   obtain⟨x,r,hv⟩:=hs Φ τ F w ty hF hR;unfold St;have hop:execOp (fe F) ⟨dst,.next it st,ty,pos,after,gd⟩=(do pure (.value (← Instr.next (fe F it) st ty))):=rfl;rw [hop];simp only [Sem.run_bind,r,Result.andThen,Sem.run_pure];exact⟨Φ,τ,hv,hR,Tw.refl _ _ _ _ _⟩
  split at e
  ·rename_i l pos hob
   obtain⟨hst,e1⟩:=recB e;clear e;subst hst;have e:=e1;clear e1;have obj:∀ {Φ:Phi} {τ:Tau} {F:Wf.Fr} {w:World},FR Φ f F→Rel Φ τ h w→∃ en,Φ id=some en∧fe F it= .pointer (some ⟨en.g,0,none⟩)∧(∀ n ∈ l,n < 256)∧OR Φ τ w b en id (.stringIter ⟨(l.map UInt8.ofNat).toArray⟩ pos):=by
    intro Φ τ F w hF hR;have hr:=Jd hF it;rw [hit] at hr;obtain⟨en,hen,hv⟩:=hr.pI;obtain⟨e',O,hO⟩:=(hR.blk id b hid hb).obj (by rw [hob];rfl)
    have:=hO.ent
    rw [hen] at this;cases this;have h2:=hO.ob;rw [hob] at h2;obtain⟨hl,rfl⟩:=h2;rw [hO.base] at hv;exact⟨en,hen,hv,hl,hO⟩
   have hsize:(⟨(l.map UInt8.ofNat).toArray⟩:ByteArray).size=l.length:=by simp [ByteArray.size]
   unfold Jjs at e;rw [V1] at e
   split at e
   ·rename_i hn
    obtain⟨rfl,rfl⟩:=Jv e;refine stay rfl fun Φ τ F w ty hF hR=>?_
    obtain⟨en,hen,hv,hl,hO⟩:=obj hF hR;have hge:=List.getElem?_eq_none_iff.1 hn;refine⟨.tuple #[.bool false],?_,tp1 Rv.mb⟩;rw [hv]
    have:¬ pos < l.length:=by omega
    simp [Instr.next,getObj,Sem.run,hO.obj,hsize,this]
   ·rename_i c hc
    obtain⟨h128,e⟩:=recB e;have h128:=Yc h128;rw [Xr] at e;obtain⟨rfl,rfl⟩:=Jv e;refine⟨fun hl=>Grow.put hl hid hb,fun Φ τ F w dst ty pos' after gd hF hR _=>?_⟩
    obtain⟨en,hen,hv,hl,hO⟩:=obj hF hR;obtain⟨r1,r2⟩:=hR.ob (b':=itB (.sit l (pos+1))) (O':= .stringIter ⟨(l.map UInt8.ofNat).toArray⟩ (pos+1)) hid hb hO rfl ⟨hl,rfl⟩;have hlt:=(List.getElem?_eq_some_iff.1 hc).1;have hlt':pos < (⟨(l.map UInt8.ofNat).toArray⟩:ByteArray).size:=by rw [hsize];exact hlt
    have hget:((⟨(l.map UInt8.ofNat).toArray⟩:ByteArray)[pos]'hlt').toNat=c:=by
     have h9:(l.map UInt8.ofNat).toArray[pos]? =some (UInt8.ofNat c):=by simp [hc]
     have h8:(⟨(l.map UInt8.ofNat).toArray⟩:ByteArray)[pos]'hlt'=UInt8.ofNat c:=(Array.getElem?_eq_some_iff.1 h9).2;rw [h8];exact u8n (by omega)
    have hdec:=decode_ascii ⟨(l.map UInt8.ofNat).toArray⟩ pos hlt' (by rw [hget];exact h128);rw [hget] at hdec;have hst:=Jir (P:=P) (O:= .stringIter ⟨(l.map UInt8.ofNat).toArray⟩ (pos+1)) hO.obj;have hgo:(getObj en.g).run P w= .ok (.stringIter ⟨(l.map UInt8.ofNat).toArray⟩ pos) w:=by simp [getObj,Sem.run,hO.obj]
    unfold St;have hop:execOp (fe F) ⟨dst,.next it true,ty,pos',after,gd⟩=(do pure (.value (← Instr.next (fe F it) true ty))):=rfl;have hrun:(Instr.next (fe F it) true ty).run P w= .ok (.tuple #[.bool true,.int .i64 (Int.ofNat pos),.int .i32 (Int.ofNat c)]) (j7 w en.g (.stringIter ⟨(l.map UInt8.ofNat).toArray⟩ (pos+1))):=by
     rw [hv];simp only [Instr.next,Sem.run_bind,hgo,Result.andThen,hlt',if_true,hdec,hst]
     rfl
    rw [hop];simp only [Sem.run_bind,hrun,Result.andThen,Sem.run_pure];exact⟨Φ,τ,tp3 Rv.mb Rv.mi Rv.mi,r1,r2⟩
  ·rename_i s0 sn ls hob
   rw [zu] at e
   split at e
   ·cases e
   ·rename_i hst
    have hst:st=false:=by simpa using hst
    subst hst;obtain⟨rfl,rfl⟩:=Jv e;refine stay rfl fun Φ τ F w ty hF hR=>?_
    have hr:=Jd hF it;rw [hit] at hr;obtain⟨en,hen,hv⟩:=hr.pI;obtain⟨e',O,hO⟩:=(hR.blk id b hid hb).obj (by rw [hob];rfl)
    have:=hO.ent
    rw [hen] at this;cases this;have h2:=hO.ob;rw [hob] at h2;have h2:O= .mapIter none s0 sn.toArray ls:=h2;subst h2;rw [hO.base] at hv;refine⟨.tuple #[.bool false],?_,tp1 Rv.mb⟩;rw [hv];simp [Instr.next,getObj,Sem.run,hO.obj]
  ·rename_i m s0 sn ls hob
   rw [zu] at e
   split at e
   ·cases e
   ·rename_i hst
    have hst:st=false:=by simpa using hst
    subst hst;unfold Jlz at e;obtain⟨bm,es,c,hidm,hbm,hobm,e⟩:=Jrk e
    split at e
    ·obtain⟨rfl,rfl⟩:=Jv e;refine stay rfl fun Φ τ F w ty hF hR=>?_
     have hr:=Jd hF it;rw [hit] at hr;obtain⟨en,hen,hv⟩:=hr.pI;obtain⟨e',O,hO⟩:=(hR.blk id b hid hb).obj (by rw [hob];rfl)
     have:=hO.ent
     rw [hen] at this;cases this;have h2:=hO.ob;rw [hob] at h2;obtain⟨em,hem,rfl⟩:=h2;obtain⟨em',E,hOm,hE⟩:=OR.map (hR.blk m bm hidm hbm) hobm
     have:=hOm.ent
     rw [hem] at this;cases this;have hE:E=[]:=hE;subst hE;rw [hO.base] at hv;refine⟨.tuple #[.bool false],?_,tp1 Rv.mb⟩;rw [hv];simp [Instr.next,getObj,Sem.run,hO.obj,hOm.obj,choose,Question.forced]
    ·cases e
  ·cases e
 ·cases e
end
end Go.Ev
namespace Go.Ev
open Go Go.Wf Go.RowKit
section
variable {P:Program} {f:Fr} {v:AV} {h h':Hp} {Φ:Phi} {τ:Tau} {w w':World}
theorem Jpc{ts:Array TypeId}{args:Array Operand}(e:Jkc P ts.toList (opds f args.toList) h= .ok v h'):MvB P (.call {callee:= .builtin .copy,args:=args,argTypes:=ts}) f v h h':=noOk e
theorem Jst{ts:Array TypeId}{args:Array Operand}(e:Jur P ts.toList (opds f args.toList) h= .ok v h'):MvB P (.call {callee:= .builtin .cap,args:=args,argTypes:=ts}) f v h h':=noOk e
theorem Jg7{ts:Array TypeId}{args:Array Operand}(e:vx (opds f args.toList) h= .ok v h'):MvB P (.call {callee:= .builtin .unsafeSliceData,args:=args,argTypes:=ts}) f v h h':=noOk e
theorem Job{ts:Array TypeId}{args:Array Operand}(e:Jlw P ts.toList (opds f args.toList) h= .ok v h'):MvB P (.call {callee:= .builtin .unsafeString,args:=args,argTypes:=ts}) f v h h':=noOk e
def ExK(P:Program)(k m:Nat):Prop:=∃ fn e,P.funcs[k]? =some fn∧(fn.name == "runtime.NumGoroutine")=false∧fn.body.isNone=true∧Extern.findNext fn=none∧Extern.find fn=some e∧
 ((m=1∧e=Extern.AbiNoEscape.same)∨(m=2∧e=Extern.BytealgMakeNoZero.makeNoZero fn.params fn.resultTypes∧∃ t,fn.resultTypes= #[t]))
theorem Jt3{k m:Nat}{l:List AV}(hx:ExK P k m)(e:Jdx P k m l h= .ok v h'):(h.n≤big5→Grow h h')∧
  ∀ (Φ:Phi) (τ:Tau) (w:World) (vs:List Value),Rel Φ τ h w→Fre Φ h.n h'.n→RvL Φ l vs→∃ x w',(callFunc k vs.toArray).run P w= .ok (.value x) w'∧∃ Φ' τ',Rv Φ' v x∧Rel Φ' τ' h' w'∧Tw Φ τ h w Φ' τ' h'.n w':=noOk e
theorem Jus{k m:Nat}{l:List AV}:Jdx P k m l h≠ .pn v h':=fun e=>by have e:Res.no 99= .pn v h':=e;cases e
end
end Go.Ev
