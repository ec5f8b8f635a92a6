/-
  The machine: operations, regions, code, calls.
-/
import Derived.Test.YtjadodiecjkmoaaGreatDoorEvA
namespace Go.Ev
set_option linter.unusedVariables false
set_option linter.unusedSimpArgs false
open Go Go.Wf

/-! ### what is read off the program -/
def cv : Value → AV
  | .bool x => .b x
  | .int k n => .i k n
  | .string s => .s (s.data.toList.map UInt8.toNat)
  | .pointer none => .np
  | .slice none 0 0 => .ns
  | .nilFunc => .nf
  | .nilIface => .nif
  | .map none => .nm
  | _ => .u
def szOf (P : Program) (t : TypeId) : Option Nat := (infoOf P t).map fun p => p.2.1
def byOf (P : Program) (t : TypeId) : Option Nat := (infoOf P t).map fun p => p.2.2
def zcOf (P : Program) (t : TypeId) : Option (List AV) := (infoOf P t).map fun p => p.1.cells.toList.map cv
def slOf (P : Program) (t : TypeId) : Option TypeId := match P.underlying t with | some (.slice e) => some e | _ => none
def isInt (P : Program) (t : TypeId) : Option IntKind := match P.underlying t with | some (.int k) => some k | _ => none
def isStr (P : Program) (t : TypeId) : Bool := match P.underlying t with | some .string => true | _ => false
def isBool (P : Program) (t : TypeId) : Bool := match P.underlying t with | some .bool => true | _ => false
def isPtr (P : Program) (t : TypeId) : Bool := match P.underlying t with | some (.pointer _) => true | _ => false
def isSl (P : Program) (t : TypeId) : Bool := match P.underlying t with | some (.slice _) => true | _ => false
def isFn (P : Program) (t : TypeId) : Bool := match P.underlying t with | some (.func _ _ _) => true | _ => false
def isUns (P : Program) (t : TypeId) : Bool := match P.underlying t with | some .unsafePointer => true | _ => false
def ptrOf (P : Program) (t : TypeId) : Option TypeId := match P.underlying t with | some (.pointer e) => some e | _ => none
def isMap (P : Program) (t : TypeId) : Bool := match P.underlying t with | some (.map _ _) => true | _ => false
def isIf (P : Program) (t : TypeId) : Bool := match P.underlying t with | some (.interface _) => true | _ => false
def placesOf (P : Program) (t : TypeId) : Option (List (Nat × Nat)) := match P.underlying t with
  | some (.struct fs) => fs.toList.mapM fun f => (P.info? f.type).map fun i => (f.offset, i.size)
  | _ => none
/-- what a load of the type takes: none: one cell -/
inductive LK | one | agg (sz : Nat) | no
def lkOf (P : Program) (t : TypeId) : LK := bif plainTy P t then .one else match szOf P t with
  | some sz => bif aggTy P t sz then .agg sz else .no
  | none => .no

/-- a value whose cells are these -/
def aggB (P : Program) (t : TypeId) : Bool := match P.underlying t with
  | some (.struct _) | some (.array _ _) => true
  | _ => false
def zvOf (P : Program) (t : TypeId) : Option AV := (infoOf P t).map fun p => match p.1 with
  | .agg cs => .ag (cs.toList.map cv)
  | v => cv v
def arrOf (P : Program) (t : TypeId) : Option (Nat × TypeId) := match P.underlying t with | some (.array n e) => some (n, e) | _ => none
def mapOf (P : Program) (t : TypeId) : Option (TypeId × TypeId) := match P.underlying t with | some (.map k e) => some (k, e) | _ => none
def isArr (P : Program) (t : TypeId) : Bool := (arrOf P t).isSome
def fldOf (P : Program) (s : TypeId) (i : Nat) : Option (TypeId × Nat) := match P.underlying s with
  | some (.struct fs) => (fs[i]?).map fun f => (f.type, f.offset)
  | _ => none

/-! ### small steps -/
noncomputable def opd (f : Fr) (o : Operand) : AV :=
  Operand.rec (fun t => Bool.rec .u (getF t f) (Nat.ble (Nat.succ t) 4096)) cv (fun g => .gp g 0) (fun k => .fn k []) o
noncomputable def opds (f : Fr) (l : List Operand) : List AV := List.rec [] (fun o _ ih => opd f o :: ih) l
noncomputable def getB {α : Type} (h : Hp) (id : Nat) (k : Blk → α) (no : α) : α := Bool.rec no (Option.rec no (fun b => Ob.rec (k b) (fun _ _ => no) (fun _ _ => no) (fun _ _ _ _ => no) no (fun _ _ _ _ _ _ => no) b.ob) (get5 id h.t)) (Nat.blt id h.n)
noncomputable def getM {α : Type} (h : Hp) (id : Nat) (k : List En → Nat → α) (no : α) : α := Bool.rec no (Option.rec no (fun b => Ob.rec no k (fun _ _ => no) (fun _ _ _ _ => no) no (fun _ _ _ _ _ _ => no) b.ob) (get5 id h.t)) (Nat.blt id h.n)
noncomputable def getG {α : Type} (h : Hp) (id : Nat) (k : List AV → α) (no : α) : α := Bool.rec no (Option.rec no (fun b => Ob.rec no (fun _ _ => no) (fun _ _ => no) (fun _ _ _ _ => no) (k b.cs) (fun _ _ _ _ _ _ => no) b.ob) (get5 id h.t)) (Nat.blt id h.n)
noncomputable def getL {α : Type} (h : Hp) (id : Nat) (k : Bool → Nat → List Tmp → Code → Code → TF AV → α) (no : α) : α := Bool.rec no (Option.rec no (fun b => Ob.rec no (fun _ _ => no) (fun _ _ => no) (fun _ _ _ _ => no) no k b.ob) (get5 id h.t)) (Nat.blt id h.n)
noncomputable def getO {α : Type} (h : Hp) (id : Nat) (k : Ob → α) (no : α) : α := Bool.rec no (Option.rec no (fun b => k b.ob) (get5 id h.t)) (Nat.blt id h.n)
noncomputable def newB (h : Hp) (b : Blk) (k : Nat → Hp → Res) : Res := Bool.rec (.no 30) (fz (Nat.succ h.n) fun n' => k h.n ⟨set5 h.n (some b) h.t, n'⟩) (Nat.blt h.n big5)
noncomputable def putB (h : Hp) (id : Nat) (b : Option Blk) : Hp := ⟨set5 id b h.t, h.n⟩
def scal : AV → Bool
  | .u | .ag _ | .tp _ => false
  | _ => true
noncomputable def allScal (l : List AV) : Bool := List.rec true (fun a _ ih => bif scal a then ih else false) l
/-- a value's cells -/
def cellsOf : AV → Option (List AV)
  | .u | .tp _ => none
  | .ag l => some l
  | v => some [v]
noncomputable def natOf {α : Type} (v : AV) (k : Nat → α) (no : α) : α := match v with
  | .i _ n => Int.rec k (fun _ => no) n
  | _ => no

section
variable (P : Program)
noncomputable def evMove (x : Operand) (f : Fr) (h : Hp) : Res := .ok (opd f x) h
noncomputable def evPick (c a b : Operand) (f : Fr) (h : Hp) : Res := match opd f c with
  | .b t => Bool.rec (.ok (opd f b) h) (.ok (opd f a) h) t
  | _ => .no 2
noncomputable def evAlloc (e : TypeId) (_ : Fr) (h : Hp) : Res := match zcOf P e with
  | some l => newB h ⟨e, true, false, l, .row⟩ fun id h => .ok (.p id 0) h
  | none => .no 3
noncomputable def evBox (e : TypeId) (x : Operand) (f : Fr) (h : Hp) : Res := match cellsOf (opd f x) with
  | some l => newB h ⟨e, true, false, l, .row⟩ fun id h => .ok (.p id 0) h
  | none => .no 4
/-- parts laid into cells: places by index -/
noncomputable def fillA (place : Nat → Option (Nat × Nat)) (f : Fr) (l : List (Nat × Operand)) : List AV → (List AV → Res) → Res :=
  List.rec (fun cs k => k cs) (fun p _ ih cs k => match place p.1 with
    | none => .no 5
    | some q => match cellsOf (opd f p.2) with
      | none => .no 5
      | some vs => Bool.rec (.no 5) (putK cs q.1 vs fun cs' => ih cs' k) (Nat.beq (len vs) q.2)) l
noncomputable def evBuild (t : TypeId) (ps : Array (Nat × Operand)) (f : Fr) (h : Hp) : Res := match placesOf P t, zcOf P t with
  | some pl, some z => fillA (nth pl) f ps.toList z fun cs => .ok (.ag cs) h
  | _, _ => .no 5
noncomputable def evBuildSlice (t : TypeId) (n : Nat) (ps : Array (Nat × Operand)) (f : Fr) (h : Hp) : Res := match slOf P t with
  | none => .no 6
  | some e => match szOf P e, zcOf P e with
    | some sz, some z => Bool.rec (.no 6) (fillA (fun i => some (Nat.mul i sz, sz)) f ps.toList (repl n z) fun cs => newB h ⟨e, true, false, cs, .row⟩ fun id h => .ok (.sl id 0 n sz (some n)) h)
        (Nat.blt 0 sz && Nat.ble (Nat.mul n sz) 16777216 && Nat.beq (len z) sz)
    | _, _ => .no 6
noncomputable def evLoad (t : TypeId) (a : Operand) (f : Fr) (h : Hp) : Res := match opd f a with
  | .p id off => getB h id (fun b => match lkOf P t with
      | .one => match nth b.cs off with
        | some v => .ok v h
        | none => .no 8
      | .agg sz => tkK (dr b.cs off) sz fun l => .ok (.ag l) h
      | .no => .no 8) (.no 8)
  | .gp g off => getG h g (fun cs => match lkOf P t with
      | .one => match nth cs off with
        | some v => .ok v h
        | none => .no 8
      | .agg sz => tkK (dr cs off) sz fun l => .ok (.ag l) h
      | .no => .no 8) (.no 8)
  | _ => .no 7
noncomputable def wrB (h : Hp) (id : Nat) (off : Nat) (vs : List AV) (k : Hp → Res) : Res :=
  getB h id (fun b => Bool.rec (.no 201) (Bool.rec (.no 202) (putK b.cs off vs fun cs => k (putB h id (some ⟨b.ty, b.ex, false, cs, .row⟩))) (allScal vs)) (!b.ro)) (.no 9)
noncomputable def evStore (t : TypeId) (a x : Operand) (f : Fr) (h : Hp) : Res := match opd f a with
  | .p id off => match cellsOf (opd f x) with
    | some vs => match szOf P t with
      | some sz => Bool.rec (.no 11) (wrB h id off vs fun h => .ok .u h) (Nat.beq (len vs) sz)
      | none => .no 11
    | none => .no 11
  | _ => .no 9
noncomputable def evNilCheck (x : Operand) (f : Fr) (h : Hp) : Res := match opd f x with
  | .p id off => .ok (.p id off) h
  | .fn k c => .ok (.fn k c) h
  | .gp g off => .ok (.gp g off) h
  | _ => .no 12

/-! two operands -/
noncomputable def bAdd (x y : AV) (h : Hp) : Res := match x, y with
  | .i k a, .i k' b => Bool.rec (.no 13) (okI k (wrapF k (Int.add a b)) h) (ikEq k k')
  | .s a, .s b => Bool.rec (.no 13) (appK a b fun l => .ok (.s l) h) (Nat.blt (Nat.add (len a) (len b)) 1000000)
  | _, _ => .no 13
noncomputable def bSub (x y : AV) (h : Hp) : Res := match x, y with
  | .i k a, .i k' b => Bool.rec (.no 13) (okI k (wrapF k (Int.sub a b)) h) (ikEq k k')
  | _, _ => .no 13
noncomputable def bMul (x y : AV) (h : Hp) : Res := match x, y with
  | .i k a, .i k' b => Bool.rec (.no 13) (okI k (wrapF k (Int.mul a b)) h) (ikEq k k')
  | _, _ => .no 13
noncomputable def bQuo (x y : AV) (h : Hp) : Res := match x, y with
  | .i k a, .i k' b => Bool.rec (.no 13) (okI k (wrapF k (Int.tdiv a b)) h) (ikEq k k' && !ieq b 0)
  | _, _ => .no 13
noncomputable def bRem (x y : AV) (h : Hp) : Res := match x, y with
  | .i k a, .i k' b => Bool.rec (.no 13) (okI k (Int.tmod a b) h) (ikEq k k' && !ieq b 0)
  | _, _ => .no 13
noncomputable def bShl (x y : AV) (h : Hp) : Res := match x, y with
  | .i k a, .i _ b => Bool.rec (.no 13) (okI k (wrapF k (Int.mul a (Int.ofNat (Nat.pow 2 (Nat.min b.toNat k.bits))))) h) (!ilt b 0)
  | _, _ => .no 13
noncomputable def bShr (x y : AV) (h : Hp) : Res := match x, y with
  | .i k a, .i _ b => Bool.rec (.no 13) (okI k (Int.ediv a (Int.ofNat (Nat.pow 2 (Nat.min b.toNat k.bits)))) h) (!ilt b 0)
  | _, _ => .no 13
/-- bits of words that are not negative -/
noncomputable def bBits (g : Nat → Nat → Nat) (x y : AV) (h : Hp) : Res := match x, y with
  | .i k a, .i k' b => Bool.rec (.no 13) (Int.rec (fun m => Int.rec (fun n => okI k (wrapF k (Int.ofNat (g (Nat.mod m (Nat.pow 2 k.bits)) (Nat.mod n (Nat.pow 2 k.bits))))) h) (fun _ => .no 13) b) (fun _ => .no 13) a) (ikEq k k')
  | _, _ => .no 13
noncomputable def leqL (a : List Nat) : List Nat → Bool := List.rec (fun b => List.rec true (fun _ _ _ => false) b) (fun x _ ih b => List.rec false (fun y t _ => Bool.rec false (ih t) (Nat.beq x y)) b) a
noncomputable def ltL (a : List Nat) : List Nat → Bool := List.rec (fun b => List.rec false (fun _ _ _ => true) b) (fun x _ ih b => List.rec false (fun y t _ => Bool.rec (Bool.rec false (ih t) (Nat.beq x y)) true (Nat.blt x y)) b) a
/-! equality by type; none: not told -/
noncomputable def partA (t : TypeId) (cs : List AV) (off : Nat) : Option AV := match lkOf P t with
  | .one => nth cs off
  | .agg sz => some (.ag (tk (dr cs off) sz))
  | .no => none
noncomputable def andO (a : Option Bool) (k : Option Bool) : Option Bool := Option.rec none (fun b => Bool.rec (some false) k b) a
noncomputable def part2 {α : Type} (t : TypeId) (xs ys : List AV) (off : Nat) (k : AV → AV → α) (no : α) : α := match partA P t xs off with
  | some a => (match partA P t ys off with
    | some b => k a b
    | none => no)
  | none => no
noncomputable def eqFs (ih : TypeId → AV → AV → Option Bool) (xs ys : List AV) (fs : List Field) : Option Bool :=
  List.rec (some true) (fun f _ r => Bool.rec (part2 P f.type xs ys f.offset (fun a b => andO (ih f.type a b) r) none) r (f.name == "_")) fs
noncomputable def eqAr (ih : AV → AV → Option Bool) (e sz : Nat) (xs ys : List AV) (n : Nat) : Nat → Option Bool :=
  Nat.rec (fun _ => some true) (fun _ r off => part2 P e xs ys off (fun a b => andO (ih a b) (fz (Nat.add off sz) r)) none) n
noncomputable def eqT1 (ih : TypeId → AV → AV → Option Bool) (t : TypeId) (x y : AV) : Option Bool := match P.underlying t with
  | some (.int _) => (match x, y with
    | .i k a, .i k' b => Bool.rec none (some (ieq a b)) (ikEq k k')
    | _, _ => none)
  | some .string => (match x, y with
    | .s a, .s b => some (leqL a b)
    | _, _ => none)
  | some .bool => (match x, y with
    | .b a, .b b => some (a == b)
    | _, _ => none)
  | some (.struct fs) => (match x, y with
    | .ag xs, .ag ys => Bool.rec (eqFs P ih xs ys fs.toList) none (P.stoodInHeld t)
    | _, _ => none)
  | some (.array n e) => (match x, y with
    | .ag xs, .ag ys => Option.rec none (fun sz => eqAr P (ih e) e sz xs ys n 0) (szOf P e)
    | _, _ => none)
  | _ => none
noncomputable def eqT (d : Nat) : TypeId → AV → AV → Option Bool := Nat.rec (fun _ _ _ => none) (fun _ ih => eqT1 P ih) d
/-- keys that are looked for: words, strings, truth values, structs of such -/
def keyOk0 (t : TypeId) (x : AV) : Bool := match P.underlying t, x with
  | some (.int _), .i _ _ => true
  | some .string, .s _ => true
  | some .bool, .b _ => true
  | _, _ => false
noncomputable def keyFs (xs : List AV) (fs : List Field) : Bool := List.rec true (fun f _ r => Option.rec false (fun a => Bool.rec false r (keyOk0 P f.type a)) (partA P f.type xs f.offset)) fs
noncomputable def keyOk (t : TypeId) (x : AV) : Bool := match P.underlying t, x with
  | some (.struct fs), .ag xs => keyFs P xs fs.toList
  | some (.int _), .i _ _ => true
  | some .string, .s _ => true
  | some .bool, .b _ => true
  | _, _ => false

/-- equality: none: not told -/
noncomputable def eqV (c : Bool) (t : TypeId) (x y : AV) : Option Bool := match x, y with
  | .i k a, .i k' b => Bool.rec none (some (ieq a b)) (ikEq k k')
  | .b a, .b b => Bool.rec none (some (a == b)) (isBool P t)
  | .s a, .s b => some (leqL a b)
  | .np, .np => Bool.rec none (some true) (isPtr P t)
  | .np, .p _ _ => Bool.rec none (some false) (isPtr P t)
  | .p _ _, .np => Bool.rec none (some false) (isPtr P t)
  | .ns, .ns => Bool.rec none (some true) (isSl P t)
  | .ns, .sl _ _ _ _ _ => Bool.rec none (some false) (isSl P t)
  | .sl _ _ _ _ _, .ns => Bool.rec none (some false) (isSl P t)
  | .nf, .nf => Bool.rec none (some true) (isFn P t)
  | .nf, .fn _ _ => Bool.rec none (some false) (isFn P t)
  | .fn _ _, .nf => Bool.rec none (some false) (isFn P t)
  | .nif, .nif => Bool.rec none (some true) (isIf P t && c)
  | .nif, .ifc _ _ => Bool.rec none (some false) (isIf P t)
  | .ifc _ _, .nif => Bool.rec none (some false) (isIf P t)
  | .nm, .nm => Bool.rec none (some true) (isMap P t)
  | .nm, .mp _ => Bool.rec none (some false) (isMap P t)
  | .mp _, .nm => Bool.rec none (some false) (isMap P t)
  | .p i o, .p j q => Bool.rec none (some true) (((ptrOf P t).bind P.info?).isSome && Nat.beq i j && Nat.beq o q)
  | .ag _, .ag _ => Bool.rec none (eqT P 4 t x y) (!P.eqGuardType P.depth t)
  | _, _ => none
noncomputable def bEql (c : Bool) (t : TypeId) (x y : AV) (h : Hp) : Res := match eqV P c t x y with
  | some b => okB b h
  | none => .no 14
noncomputable def bNeq (c : Bool) (t : TypeId) (x y : AV) (h : Hp) : Res := match eqV P c t x y with
  | some b => okB (!b) h
  | none => .no 14
noncomputable def bLss (x y : AV) (h : Hp) : Res := match x, y with
  | .i k a, .i k' b => Bool.rec (.no 13) (okB (ilt a b) h) (ikEq k k')
  | .s a, .s b => okB (ltL a b) h
  | _, _ => .no 13
noncomputable def bLeq (x y : AV) (h : Hp) : Res := match x, y with
  | .i k a, .i k' b => Bool.rec (.no 13) (okB (!ilt b a) h) (ikEq k k')
  | _, _ => .no 13
noncomputable def bGtr (x y : AV) (h : Hp) : Res := match x, y with
  | .i k a, .i k' b => Bool.rec (.no 13) (okB (ilt b a) h) (ikEq k k')
  | _, _ => .no 13
noncomputable def bGeq (x y : AV) (h : Hp) : Res := match x, y with
  | .i k a, .i k' b => Bool.rec (.no 13) (okB (!ilt a b) h) (ikEq k k')
  | _, _ => .no 13
def isConst : Operand → Bool
  | .const _ => true
  | _ => false
noncomputable def evBin (op : BinOp) (t : TypeId) (x y : Operand) (f : Fr) (h : Hp) : Res := (match op with
  | .add => bAdd | .sub => bSub | .mul => bMul | .quo => bQuo | .rem => bRem | .shl => bShl | .shr => bShr
  | .andNot => bBits (fun m n => Nat.xor m (Nat.land m n)) | .and => bBits Nat.land | .or => bBits Nat.lor | .xor => bBits Nat.xor
  | .eql => bEql P (isConst x || isConst y) t | .neq => bNeq P (isConst x || isConst y) t | .lss => bLss | .leq => bLeq | .gtr => bGtr | .geq => bGeq) (opd f x) (opd f y) h
noncomputable def evUn (op : UnOp) (x : Operand) (f : Fr) (h : Hp) : Res := match op, opd f x with
  | .not, .b t => okB (!t) h
  | .neg, .i k a => okI k (wrapF k (Int.sub 0 a)) h
  | .xor, .i k a => okI k (wrapF k (Int.sub (Int.negSucc 0) a)) h
  | _, _ => .no 16
noncomputable def chars (l : List Nat) : List AV := List.rec [] (fun c _ ih => .i .u8 (Int.ofNat c) :: ih) l
noncomputable def unchars (l : List AV) : (List Nat → Res) → Res := List.rec (fun k => k []) (fun a _ ih k => match a with
  | .i .u8 n => Int.rec (fun c => Bool.rec (.no 17) (ih fun l' => k (c :: l')) (Nat.blt c 256)) (fun _ => .no 17) n
  | _ => .no 17) l
def byteT (P : Program) (e : TypeId) : Bool := (match isInt P e with | some .u8 => true | _ => false) && (match szOf P e with | some 1 => true | _ => false)
def byteSl (P : Program) (t : TypeId) : Bool := match slOf P t with | some e => byteT P e | none => false
noncomputable def evConvP (s d : TypeId) (x : Operand) (f : Fr) (h : Hp) : Res := match opd f x with
  | .i _ a => match isInt P d with
    | some j => Bool.rec (.no 17) (okI j (wrapF j a) h) (P.underlying s).isSome
    | none => .no 17
  | .s l => Bool.rec (.no 17) (.ok (.s l) h) (isStr P d && isStr P s)
  | _ => .no 17
noncomputable def toUnsOk (s d : TypeId) (off n : Nat) : Bool := isUns P d && Nat.blt off n && (match (ptrOf P s).bind (szOf P) with | some sz => Nat.blt 0 sz | none => false)
noncomputable def ofUnsOk (s d : TypeId) (b : Blk) (off : Nat) : Bool := isUns P s && b.ex && (match ptrOf P d with
      | some u => (P.info? u).isSome && liesAt P P.depth b.ty (Nat.div (len b.cs) (P.cellsOf b.ty)) off u 1
      | none => false)
noncomputable def evConvR (s d : TypeId) (x : Operand) (f : Fr) (h : Hp) : Res := match opd f x with
  | .np => Bool.rec (.no 17) (.ok .np h) ((isPtr P s && isUns P d) || (isUns P s && isPtr P d))
  | .p id off => getB h id (fun b => Bool.rec (Bool.rec (.no 17) (.ok (.p id off) h) (ofUnsOk P s d b off)) (.ok (.p id off) h) (toUnsOk P s d off (len b.cs))) (.no 17)
  | .ns => Bool.rec (.no 17) (.ok (.s []) h) (isStr P d && byteSl P s)
  | .sl id off n z _ => Bool.rec (.no 17) (getB h id (fun b => tkK (dr b.cs off) n fun l => unchars l fun l' => .ok (.s l') h) (.no 17)) (isStr P d && byteSl P s && Nat.beq z 1)
  | _ => .no 17
noncomputable def evConvQ (s d : TypeId) (x : Operand) (f : Fr) (h : Hp) : Res := match opd f x with
  | .s l => Bool.rec (.no 17) (match slOf P d with
      | none => .no 17
      | some e => Bool.rec (.no 17) (appK (chars l) [] fun cs => newB h ⟨e, false, true, cs, .row⟩ fun id h => fz (len l) fun n => .ok (.sl id 0 n 1 none) h) (byteT P e && Nat.ble (len l) 1000000)) (isStr P s)
  | _ => .no 17
def cvKd (s d : TypeId) : Nat := bif (isInt P d).isSome || (isStr P d && isStr P s) then 0 else bif isStr P d || isUns P d || isUns P s then 1 else bif isStr P s then 2 else 3
noncomputable def evConv (s d : TypeId) (x : Operand) (f : Fr) (h : Hp) : Res := match cvKd P s d with
  | 0 => evConvP P s d x f h
  | 1 => evConvR P s d x f h
  | 2 => evConvQ P s d x f h
  | _ => .no 17
noncomputable def evMakeSlice (t : TypeId) (l c : Operand) (f : Fr) (h : Hp) : Res := match slOf P t with
  | none => .no 18
  | some e => match szOf P e, zcOf P e with
    | some sz, some z => natOf (opd f l) (fun n => natOf (opd f c) (fun m => fz n fun n => fz m fun m =>
        Bool.rec (.no 18) (appK (repl m z) [] fun cs => newB h ⟨e, true, false, cs, .row⟩ fun id h => .ok (.sl id 0 n sz (some m)) h)
          (Nat.blt 0 sz && Nat.ble n m && Nat.ble m 65536 && Nat.beq (len z) sz && Nat.ble ((byOf P e).getD 4294967296) 65536)) (.no 18)) (.no 18)
    | _, _ => .no 18
/-- a bound of a slice -/
noncomputable def bnd {α : Type} (f : Fr) (o : Option Operand) (d : Nat) (k : Nat → α) (no : α) : α := match o with
  | none => k d
  | some x => natOf (opd f x) (fun n => fz n k) no
noncomputable def evSliceP (t : TypeId) (x : Operand) (lo hi mx : Option Operand) (f : Fr) (h : Hp) : Res := match mx with
  | some _ => .no 19
  | none => match opd f x with
    | .s l => Bool.rec (.no 19) (bnd f hi (len l) (fun j => bnd f lo 0 (fun i => Bool.rec (.no 19) (.ok (.s (dr (tk l j) i)) h) (Nat.ble i j && Nat.ble j (len l))) (.no 19)) (.no 19)) (isStr P t)
    | .ns => Bool.rec (.no 19) (bnd f hi 0 (fun j => bnd f lo 0 (fun i => Bool.rec (.no 19) (.ok .ns h) (Nat.beq i 0 && Nat.beq j 0)) (.no 19)) (.no 19)) (isSl P t && ((slOf P t).bind (szOf P)).isSome)
    | .sl id off n z cap => match (slOf P t).bind (szOf P) with
      | none => .no 19
      | some sz => bnd f hi n (fun j => bnd f lo 0 (fun i => Bool.rec (.no 19)
          (match cap with
            | some c => Bool.rec (.no 19) (Bool.rec (fz (Nat.add off (Nat.mul i z)) fun o => fz (Nat.sub j i) fun n' => fz (Nat.sub c i) fun c' => .ok (.sl id o n' z (some c')) h) (.ok (.sl id off 0 z (some 0)) h) (Nat.beq c i)) (Nat.ble j c)
            | none => Bool.rec (.no 19) (Bool.rec (fz (Nat.add off (Nat.mul i z)) fun o => fz (Nat.sub j i) fun n' => .ok (.sl id o n' z none) h) (.ok .z0 h) (Nat.beq n i)) (Nat.ble j n))
          (Nat.ble i j && Nat.beq sz z)) (.no 19)) (.no 19)
    | _ => .no 19
noncomputable def evSliceA (t : TypeId) (x : Operand) (lo hi mx : Option Operand) (f : Fr) (h : Hp) : Res := match mx with
  | some _ => .no 19
  | none => match opd f x with
    | .p id off => (match arrOf P t with
      | none => .no 19
      | some p => (match szOf P p.2 with
        | none => .no 19
        | some sz => getB h id (fun b => bnd f hi p.1 (fun j => bnd f lo 0 (fun i => Bool.rec (.no 19)
            (Bool.rec (fz (Nat.add off (Nat.mul i sz)) fun o => fz (Nat.sub j i) fun n' => fz (Nat.sub p.1 i) fun c' => .ok (.sl id o n' sz (some c')) h) (.ok (.sl id off 0 sz (some 0)) h) (Nat.beq p.1 i))
            (Nat.ble i j && Nat.ble j p.1 && Nat.ble p.1 1000000 && Nat.ble (Nat.add off (Nat.mul p.1 sz)) (len b.cs))) (.no 19)) (.no 19)) (.no 19)))
    | _ => .no 19
noncomputable def evSlice (t : TypeId) (x : Operand) (lo hi mx : Option Operand) (f : Fr) (h : Hp) : Res := Bool.rec (evSliceP P t x lo hi mx f h) (evSliceA P t x lo hi mx f h) (isArr P t)
noncomputable def evFieldAddr (s : TypeId) (x : Operand) (i : Nat) (f : Fr) (h : Hp) : Res := match opd f x with
  | .p id off => match fieldOff P s i with
    | some o => fz (Nat.add off o) fun o => .ok (.p id o) h
    | none => .no 23
  | .gp id off => (match fieldOff P s i with
    | some o => fz (Nat.add off o) fun o => .ok (.gp id o) h
    | none => .no 23)
  | _ => .no 23
noncomputable def evIndexAddr (t : TypeId) (x i : Operand) (f : Fr) (h : Hp) : Res := match opd f x with
  | .sl id off n z _ => match (slOf P t).bind (szOf P) with
    | none => .no 24
    | some sz => natOf (opd f i) (fun j => Bool.rec (.no 24) (fz (Nat.add off (Nat.mul j z)) fun o => .ok (.p id o) h) (Nat.blt j n && Nat.beq sz z)) (.no 24)
  | .p id off => (match arrOf P t with
    | none => .no 24
    | some p => (match szOf P p.2 with
      | none => .no 24
      | some sz => natOf (opd f i) (fun j => Bool.rec (.no 24) (fz (Nat.add off (Nat.mul j sz)) fun o => .ok (.p id o) h) (Nat.blt j p.1 && Nat.blt 0 sz)) (.no 24)))
  | .gp id off => (match arrOf P t with
    | none => .no 24
    | some p => (match szOf P p.2 with
      | none => .no 24
      | some sz => natOf (opd f i) (fun j => Bool.rec (.no 24) (fz (Nat.add off (Nat.mul j sz)) fun o => .ok (.gp id o) h) (Nat.blt j p.1 && Nat.blt 0 sz)) (.no 24)))
  | _ => .no 24
noncomputable def evIndex (t : TypeId) (x i : Operand) (f : Fr) (h : Hp) : Res := match opd f x with
  | .s l => Bool.rec (.no 25) (natOf (opd f i) (fun j => match nth l j with
      | some c => .ok (.i .u8 (Int.ofNat c)) h
      | none => .no 25) (.no 25)) (isStr P t)
  | .ag cs => (match arrOf P t with
    | none => .no 25
    | some p => (match szOf P p.2 with
      | none => .no 25
      | some sz => natOf (opd f i) (fun j => Bool.rec (.no 25) (match partA P p.2 cs (Nat.mul j sz) with
        | some v => .ok v h
        | none => .no 25) (Nat.blt j p.1)) (.no 25)))
  | _ => .no 25
noncomputable def evExtract (x : Operand) (i : Nat) (f : Fr) (h : Hp) : Res := match opd f x with
  | .tp l => match nth l i with
    | some v => .ok v h
    | none => .no 26
  | _ => .no 26
noncomputable def evMakeFunc (fn : Fn) (first cap : Array Operand) (f : Fr) (h : Hp) : Res := match fn with
  | .func k => match first.toList with
    | [] => .ok (.fn k (opds f cap.toList)) h
    | _ => .no 27
  | _ => .no 27

/-! maps -/
noncomputable def findK (kt : TypeId) (k : AV) (es : List En) : Nat → Option (Option (Nat × En)) :=
  List.rec (fun _ => some none) (fun e _ ih i => match eqT P 4 kt k e.k with
    | none => none
    | some b => Bool.rec (ih (Nat.succ i)) (some (some (i, e))) b) es
noncomputable def snocK {α : Type} (l : List α) (x : α) (k : List α → Res) : Res := appK l [x] k
/-- the i-th entry turned -/
noncomputable def setE (es : List En) : Nat → AV → (List En → Res) → Res :=
  List.rec (fun _ _ _ => .no 150) (fun e t ih i v k => Nat.rec (k (⟨e.k, v, e.b⟩ :: t)) (fun m _ => ih m v fun t' => k (e :: t')) i) es
noncomputable def mapK {α : Type} (h : Hp) (x : AV) (k : List En → Nat → α) (no : α) : α := match x with
  | .nm => k [] 0
  | .mp id => getM h id k no
  | _ => no
def mapB (es : List En) (c : Nat) : Option Blk := some ⟨0, true, false, [], .map es c⟩
def itB (o : Ob) : Blk := ⟨0, true, false, [], o⟩
noncomputable def evMakeMap (t : TypeId) (r : Option Operand) (f : Fr) (h : Hp) : Res := match r with
  | none => newB h (itB (.map [] 0)) fun id h => .ok (.mp id) h
  | some x => (match opd f x with
    | .i _ _ => Bool.rec (.no 151) (newB h (itB (.map [] 0)) fun id h => .ok (.mp id) h) (mapOf P t).isSome
    | _ => .no 151)
noncomputable def evLookup (t : TypeId) (x i : Operand) (ok : Bool) (f : Fr) (h : Hp) : Res := match mapOf P t with
  | none => .no 152
  | some p => mapK h (opd f x) (fun es _ => Bool.rec (.no 153) (match findK P p.1 (opd f i) es 0 with
      | none => .no 154
      | some none => (match zvOf P p.2 with
        | none => .no 154
        | some z => .ok (Bool.rec z (.tp [z, .b false]) ok) h)
      | some (some q) => .ok (Bool.rec q.2.v (.tp [q.2.v, .b true]) ok) h) (keyOk P p.1 (opd f i))) (.no 155)
noncomputable def same1 (x y : AV) : Bool := match x, y with
  | .i k n, .i k' n' => ikEq k k' && ieq n n'
  | .b p, .b q => p == q
  | .s l, .s m => leqL l m
  | _, _ => false
noncomputable def sameS (a b : List AV) : Bool := List.rec (fun b => List.rec true (fun _ _ _ => false) b) (fun x _ ih b => List.rec false (fun y t _ => Bool.rec false (ih t) (same1 x y)) b) a b
/-- a key that is found again stands for the same value -/
noncomputable def sameK (a b : AV) : Bool := match a, b with
  | .ag l, .ag m => sameS l m
  | .ag _, _ => false
  | _, _ => true
noncomputable def evMapUpdate (t : TypeId) (m k x : Operand) (f : Fr) (h : Hp) : Res := match mapOf P t with
  | none => .no 156
  | some p => (match opd f m with
    | .mp id => getM h id (fun es c => Bool.rec (.no 157) (match findK P p.1 (opd f k) es 0 with
      | none => .no 158
      | some none => snocK es ⟨opd f k, opd f x, c⟩ fun es' => fz (Nat.succ c) fun c' => .ok .u (putB h id (mapB es' c'))
      | some (some q) => Bool.rec (.no 157) (setE es q.1 (opd f x) fun es' => .ok .u (putB h id (mapB es' c))) (sameK (opd f k) q.2.k)) (keyOk P p.1 (opd f k))) (.no 159)
    | _ => .no 159)
noncomputable def evRange (t : TypeId) (x : Operand) (f : Fr) (h : Hp) : Res := match opd f x with
  | .s l => Bool.rec (.no 163) (newB h (itB (.sit l 0)) fun id h => .ok (.p id 0) h) (isStr P t)
  | .nm => Bool.rec (.no 163) (newB h (itB (.mit none 0 [] 0)) fun id h => .ok (.p id 0) h) (mapOf P t).isSome
  | .mp m => Bool.rec (.no 163) (getM h m (fun _ c => newB h (itB (.mit (some m) c [] c)) fun id h => .ok (.p id 0) h) (.no 163)) (mapOf P t).isSome
  | _ => .no 163
noncomputable def evNextS (id : Nat) (h : Hp) (l : List Nat) (pos : Nat) : Res := match nth l pos with
  | none => .ok (.tp [.b false]) h
  | some c => Bool.rec (.no 165) (fz (Nat.succ pos) fun q => .ok (.tp [.b true, .i .i64 (Int.ofNat pos), .i .i32 (Int.ofNat c)]) (putB h id (some (itB (.sit l q))))) (Nat.blt c 128)
/-- over a map that is empty -/
noncomputable def evNextM (h : Hp) (m : Nat) : Res := getM h m (fun es _ => match es with
  | [] => .ok (.tp [.b false]) h
  | _ => .no 168) (.no 166)
noncomputable def evNext (it : Operand) (st : Bool) (f : Fr) (h : Hp) : Res := match opd f it with
  | .p id off => Bool.rec (.no 164) (getO h id (fun o => match o with
      | .sit l pos => Bool.rec (.no 164) (evNextS id h l pos) st
      | .mit none _ _ _ => Bool.rec (.ok (.tp [.b false]) h) (.no 164) st
      | .mit (some m) _ _ _ => Bool.rec (evNextM h m) (.no 164) st
      | _ => .no 164) (.no 164)) (Nat.beq off 0)
  | _ => .no 164
noncomputable def evTypeAssert (x : Operand) (at_ : TypeId) (ok : Bool) (f : Fr) (h : Hp) : Res := match P.underlying at_ with
  | none => .no 170
  | some (.interface _) => .no 170
  | some _ => (match opd f x with
    | .nif => Bool.rec (.no 171) (match zvOf P at_ with | some z => .ok (.tp [z, .b false]) h | none => .no 171) ok
    | .ifc t v => Bool.rec (Bool.rec (.no 171) (match zvOf P at_ with | some z => .ok (.tp [z, .b false]) h | none => .no 171) ok) (.ok (Bool.rec v (.tp [v, .b true]) ok) h) (Nat.beq t at_)
    | _ => .no 170)
noncomputable def evMakeInterface (t : TypeId) (x : Operand) (f : Fr) (h : Hp) : Res := Bool.rec (.no 172) (.ok (.ifc t (opd f x)) h) (P.concrete t)
noncomputable def evPanic (x : Operand) (f : Fr) (h : Hp) : Res := match opd f x with
  | .ifc t v => .pn (.ifc t v) h
  | _ => .no 173
noncomputable def evField (s : TypeId) (x : Operand) (i : Nat) (f : Fr) (h : Hp) : Res := match opd f x with
  | .ag cs => (match fldOf P s i with
    | none => .no 174
    | some p => (match partA P p.1 cs p.2 with
      | some v => .ok v h
      | none => .no 174))
  | _ => .no 174

/-! built-in functions -/
noncomputable def evLen (ts : List TypeId) (l : List AV) (h : Hp) : Res := match ts, l with
  | [t], [.sl _ _ n _ _] => Bool.rec (.no 28) (.ok (.i .i64 (Int.ofNat n)) h) (isSl P t)
  | [t], [.ns] => Bool.rec (.no 28) (.ok (.i .i64 (Int.ofNat 0)) h) (isSl P t)
  | [t], [.z0] => Bool.rec (.no 28) (.ok (.i .i64 (Int.ofNat 0)) h) (isSl P t)
  | [t], [.s l] => Bool.rec (.no 28) (fz (len l) fun n => .ok (.i .i64 (Int.ofNat n)) h) (isStr P t)
  | _, _ => .no 28
noncomputable def evLenM (l : List AV) (h : Hp) : Res := match l with
  | [.nm] => .ok (.i .i64 (Int.ofNat 0)) h
  | [.mp id] => getM h id (fun es _ => fz (len es) fun n => .ok (.i .i64 (Int.ofNat n)) h) (.no 28)
  | _ => .no 28
def mapTs (P : Program) (ts : List TypeId) : Bool := match ts with | [t] => isMap P t | _ => false
noncomputable def minL (k : IntKind) (h : Hp) (l : List AV) : Int → Res := List.rec (fun a => .ok (.i k a) h) (fun x _ ih a => match x with
  | .i _ b => Bool.rec (ih a) (ih b) (ilt b a)
  | _ => .no 29) l
noncomputable def maxL (k : IntKind) (h : Hp) (l : List AV) : Int → Res := List.rec (fun a => .ok (.i k a) h) (fun x _ ih a => match x with
  | .i _ b => Bool.rec (ih a) (ih b) (ilt a b)
  | _ => .no 29) l
noncomputable def evMin (l : List AV) (h : Hp) : Res := match l with
  | .i k a :: r => minL k h r a
  | _ => .no 29
noncomputable def evMax (l : List AV) (h : Hp) : Res := match l with
  | .i k a :: r => maxL k h r a
  | _ => .no 29
/-- the cells that a slice or a string is -/
noncomputable def srcK (h : Hp) (sz : Nat) (x : AV) (k : Nat → List AV → Res) : Res := match x with
  | .sl id off n z _ => Bool.rec (.no 31) (getB h id (fun b => tkK (dr b.cs off) (Nat.mul n z) (k n)) (.no 31)) (Nat.beq z sz && Nat.blt 0 n)
  | .s l => Bool.rec (.no 31) (fz (len l) fun n => appK (chars l) [] (k n)) (Nat.beq sz 1 && Nat.blt 0 (len l))
  | _ => .no 31
def emptyA : AV → Bool
  | .ns | .z0 | .sl _ _ 0 _ _ | .s [] => true
  | _ => false
/-- the new length, bounded -/
noncomputable def apLen (P : Program) (e : TypeId) (m n : Nat) (k : Nat → Res) : Res := fz (Nat.add m n) fun mn => Bool.rec (.no 34) (k mn) (Nat.ble mn 1000000 && Nat.ble ((byOf P e).getD 4294967296) 65536)
/-- append to a slice that owns what it holds (old), in a new block -/
noncomputable def apNew (P : Program) (e sz : Nat) (h : Hp) (m n : Nat) (us vs : List AV) : Res :=
  apLen P e m n fun mn => appK us vs fun cs => newB h ⟨e, false, false, cs, .row⟩ fun id' h => .ok (.sl id' 0 mn sz none) h
noncomputable def apTo (P : Program) (e sz : Nat) (h : Hp) (s : AV) (n : Nat) (vs : List AV) : Res := match s with
  | .ns => apNew P e sz h 0 n [] vs
  | .sl id off m z cap => Bool.rec (.no 33) (match cap with
    | some c => Bool.rec
        (getB h id (fun b => tkK (dr b.cs off) (Nat.mul m z) fun us => apNew P e sz h m n us vs) (.no 33))
        (wrB h id (Nat.add off (Nat.mul m z)) vs fun h => apLen P e m n fun mn => .ok (.sl id off mn sz (some c)) h) (Nat.ble (Nat.add m n) c)
    | none => getB h id (fun b => Bool.rec (.no 34) (tkK (dr b.cs off) (Nat.mul m z) fun us => apNew P e sz (putB h id none) m n us vs) (!b.ro && allScal vs && Nat.beq b.ty e)) (.no 34)) (Nat.beq z sz)
  | _ => .no 33
noncomputable def evAppend (ts : List TypeId) (l : List AV) (h : Hp) : Res := match ts, l with
  | [t, t'], [s, x] => match slOf P t with
    | none => .no 32
    | some e => match szOf P e, zcOf P e with
      | some sz, some zc => Bool.rec (.no 32) (Bool.rec (srcK h sz x fun n vs => apTo P e sz h s n vs) (match s with
          | .ns => .ok s h
          | .sl _ _ _ _ _ => .ok s h
          | _ => .no 32) (emptyA x)) (Nat.blt 0 sz && (Nat.beq t t' || isStr P t' && byteT P e) && Nat.beq (len zc) sz)
      | _, _ => .no 32
  | _, _ => .no 32
/-- the first n elements of a slice or a string -/
noncomputable def firstK (h : Hp) (sz n : Nat) (x : AV) (k : List AV → Res) : Res := match x with
  | .sl id off _ z _ => Bool.rec (.no 35) (getB h id (fun b => tkK (dr b.cs off) (Nat.mul n z) k) (.no 35)) (Nat.beq z sz)
  | .s l => Bool.rec (.no 35) (appK (chars (tk l n)) [] k) (Nat.beq sz 1)
  | _ => .no 35
noncomputable def lenA {α : Type} (x : AV) (k : Nat → α) (no : α) : α := match x with
  | .sl _ _ n _ _ => k n
  | .ns => k 0
  | .z0 => k 0
  | .s l => fz (len l) k
  | _ => no
def isSlA : AV → Bool
  | .sl _ _ _ _ _ | .ns | .z0 => true
  | _ => false
noncomputable def evCopy (ts : List TypeId) (l : List AV) (h : Hp) : Res := match ts, l with
  | [t, _], [d, x] => (match (slOf P t).bind (szOf P) with
    | none => .no 35
    | some sz => Bool.rec (.no 35) (lenA d (fun n => lenA x (fun m => fz (Nat.min m n) fun q => Bool.rec
        (match d with
          | .sl id off _ z _ => Bool.rec (.no 35) (firstK h sz q x fun vs => wrB h id off vs fun h => .ok (.i .i64 (Int.ofNat q)) h) (Nat.beq z sz)
          | _ => .no 35)
        (.ok (.i .i64 0) h) (Nat.beq q 0)) (.no 35)) (.no 35)) (isSlA d))
  | _, _ => .no 35
noncomputable def evCap (ts : List TypeId) (l : List AV) (h : Hp) : Res := match ts, l with
  | [t], [.sl _ _ _ _ (some c)] => Bool.rec (.no 36) (.ok (.i .i64 (Int.ofNat c)) h) (isSl P t)
  | [t], [.ns] => Bool.rec (.no 36) (.ok (.i .i64 (Int.ofNat 0)) h) (isSl P t)
  | _, _ => .no 36
noncomputable def evUSData (l : List AV) (h : Hp) : Res := match l with
  | [.ns] => .ok .np h
  | [.sl id off _ _ (some c)] => Bool.rec (.no 36) (.ok (.p id off) h) (Nat.blt 0 c)
  | [.sl id off n _ none] => Bool.rec (.no 36) (.ok (.p id off) h) (Nat.blt 0 n)
  | _ => .no 36
/-- the bytes are a string's from here on; the block is given up -/
noncomputable def evUStr (ts : List TypeId) (l : List AV) (h : Hp) : Res := match ts, l with
  | [pt, _], [p, n] => natOf n (fun n => Bool.rec (match p with
    | .p id off => Bool.rec (.no 36) (getB h id (fun b => Bool.rec (.no 36) (tkK (dr b.cs off) n fun vs => unchars vs fun l => .ok (.s l) (putB h id none)) (!b.ro && (match ptrOf P pt with | some e => Nat.beq b.ty e && Nat.beq (P.cellsOf e) 1 | none => false))) (.no 36)) (Nat.ble n 1000000)
    | _ => .no 36) (match p with | .np => .ok (.s []) h | .p _ _ => .ok (.s []) h | _ => .no 36) (Nat.beq n 0)) (.no 36)
  | _, _ => .no 36
noncomputable def evLenA (ts : List TypeId) (l : List AV) (h : Hp) : Res := Bool.rec (evLen P ts l h) (evLenM l h) (mapTs P ts)
noncomputable def evBuiltin (b : Builtin) (ts : List TypeId) (l : List AV) (h : Hp) : Res := (match b with
  | .len => evLenA P | .append => evAppend P | .min => fun _ => evMin | .max => fun _ => evMax | .copy => evCopy P | .cap => evCap P | .unsafeSliceData => fun _ => evUSData | .unsafeString => evUStr P | _ => fun _ _ _ => .no 36) ts l h
/-! ### fast forms: closed parts, which the kernel shares -/
noncomputable def asB : AV → (Bool → Res) → Res → Res := AV.rec (motive_1 := fun _ => (Bool → Res) → Res → Res) (motive_2 := fun _ => PUnit) (fun _ no => no) (fun a0 k0 _ => k0 a0) (fun _ _ _ no => no) (fun _ _ no => no) (fun _ no => no) (fun _ _ _ no => no) (fun _ no => no) (fun _ _ _ _ _ _ no => no) (fun _ no => no) (fun _ _ _ no => no) (fun _ _ _ no => no) (fun _ _ _ _ no => no) (fun _ no => no) (fun _ _ _ _ no => no) (fun _ no => no) (fun _ _ no => no) (fun _ no => no) (fun _ _ no => no) (fun _ _ _ no => no) ⟨⟩ (fun _ _ _ _ => ⟨⟩)
noncomputable def asBO : AV → (Bool → Out) → Out → Out := AV.rec (motive_1 := fun _ => (Bool → Out) → Out → Out) (motive_2 := fun _ => PUnit) (fun _ no => no) (fun a0 k0 _ => k0 a0) (fun _ _ _ no => no) (fun _ _ no => no) (fun _ no => no) (fun _ _ _ no => no) (fun _ no => no) (fun _ _ _ _ _ _ no => no) (fun _ no => no) (fun _ _ _ no => no) (fun _ _ _ no => no) (fun _ _ _ _ no => no) (fun _ no => no) (fun _ _ _ _ no => no) (fun _ no => no) (fun _ _ no => no) (fun _ no => no) (fun _ _ no => no) (fun _ _ _ no => no) ⟨⟩ (fun _ _ _ _ => ⟨⟩)
noncomputable def asI : AV → (IntKind → Int → Res) → Res → Res := AV.rec (motive_1 := fun _ => (IntKind → Int → Res) → Res → Res) (motive_2 := fun _ => PUnit) (fun _ no => no) (fun _ _ no => no) (fun a0 a1 k0 _ => k0 a0 a1) (fun _ _ no => no) (fun _ no => no) (fun _ _ _ no => no) (fun _ no => no) (fun _ _ _ _ _ _ no => no) (fun _ no => no) (fun _ _ _ no => no) (fun _ _ _ no => no) (fun _ _ _ _ no => no) (fun _ no => no) (fun _ _ _ _ no => no) (fun _ no => no) (fun _ _ no => no) (fun _ no => no) (fun _ _ no => no) (fun _ _ _ no => no) ⟨⟩ (fun _ _ _ _ => ⟨⟩)
noncomputable def asIS : AV → (IntKind → Int → Res) → (List Nat → Res) → Res → Res := AV.rec (motive_1 := fun _ => (IntKind → Int → Res) → (List Nat → Res) → Res → Res) (motive_2 := fun _ => PUnit) (fun _ _ no => no) (fun _ _ _ no => no) (fun a0 a1 k0 _ _ => k0 a0 a1) (fun a0 _ k1 _ => k1 a0) (fun _ _ no => no) (fun _ _ _ _ no => no) (fun _ _ no => no) (fun _ _ _ _ _ _ _ no => no) (fun _ _ no => no) (fun _ _ _ _ no => no) (fun _ _ _ _ no => no) (fun _ _ _ _ _ no => no) (fun _ _ no => no) (fun _ _ _ _ _ no => no) (fun _ _ no => no) (fun _ _ _ no => no) (fun _ _ no => no) (fun _ _ _ no => no) (fun _ _ _ _ no => no) ⟨⟩ (fun _ _ _ _ => ⟨⟩)
noncomputable def asS : AV → (List Nat → Res) → Res → Res := AV.rec (motive_1 := fun _ => (List Nat → Res) → Res → Res) (motive_2 := fun _ => PUnit) (fun _ no => no) (fun _ _ no => no) (fun _ _ _ no => no) (fun a0 k0 _ => k0 a0) (fun _ no => no) (fun _ _ _ no => no) (fun _ no => no) (fun _ _ _ _ _ _ no => no) (fun _ no => no) (fun _ _ _ no => no) (fun _ _ _ no => no) (fun _ _ _ _ no => no) (fun _ no => no) (fun _ _ _ _ no => no) (fun _ no => no) (fun _ _ no => no) (fun _ no => no) (fun _ _ no => no) (fun _ _ _ no => no) ⟨⟩ (fun _ _ _ _ => ⟨⟩)
noncomputable def asP : AV → (Nat → Nat → Res) → Res → Res := AV.rec (motive_1 := fun _ => (Nat → Nat → Res) → Res → Res) (motive_2 := fun _ => PUnit) (fun _ no => no) (fun _ _ no => no) (fun _ _ _ no => no) (fun _ _ no => no) (fun _ no => no) (fun a0 a1 k0 _ => k0 a0 a1) (fun _ no => no) (fun _ _ _ _ _ _ no => no) (fun _ no => no) (fun _ _ _ no => no) (fun _ _ _ no => no) (fun _ _ _ _ no => no) (fun _ no => no) (fun _ _ _ _ no => no) (fun _ no => no) (fun _ _ no => no) (fun _ no => no) (fun _ _ no => no) (fun _ _ _ no => no) ⟨⟩ (fun _ _ _ _ => ⟨⟩)
noncomputable def asPG : AV → (Nat → Nat → Res) → (Nat → Nat → Res) → Res → Res := AV.rec (motive_1 := fun _ => (Nat → Nat → Res) → (Nat → Nat → Res) → Res → Res) (motive_2 := fun _ => PUnit) (fun _ _ no => no) (fun _ _ _ no => no) (fun _ _ _ _ no => no) (fun _ _ _ no => no) (fun _ _ no => no) (fun a0 a1 k0 _ _ => k0 a0 a1) (fun _ _ no => no) (fun _ _ _ _ _ _ _ no => no) (fun _ _ no => no) (fun _ _ _ _ no => no) (fun _ _ _ _ no => no) (fun _ _ _ _ _ no => no) (fun _ _ no => no) (fun _ _ _ _ _ no => no) (fun _ _ no => no) (fun _ _ _ no => no) (fun _ _ no => no) (fun _ _ _ no => no) (fun a0 a1 _ k1 _ => k1 a0 a1) ⟨⟩ (fun _ _ _ _ => ⟨⟩)
noncomputable def asSPG : AV → (Nat → Nat → Nat → Nat → Option Nat → Res) → (Nat → Nat → Res) → (Nat → Nat → Res) → Res → Res := AV.rec (motive_1 := fun _ => (Nat → Nat → Nat → Nat → Option Nat → Res) → (Nat → Nat → Res) → (Nat → Nat → Res) → Res → Res) (motive_2 := fun _ => PUnit) (fun _ _ _ no => no) (fun _ _ _ _ no => no) (fun _ _ _ _ _ no => no) (fun _ _ _ _ no => no) (fun _ _ _ no => no) (fun a0 a1 _ k1 _ _ => k1 a0 a1) (fun _ _ _ no => no) (fun a0 a1 a2 a3 a4 k0 _ _ _ => k0 a0 a1 a2 a3 a4) (fun _ _ _ no => no) (fun _ _ _ _ _ no => no) (fun _ _ _ _ _ no => no) (fun _ _ _ _ _ _ no => no) (fun _ _ _ no => no) (fun _ _ _ _ _ _ no => no) (fun _ _ _ no => no) (fun _ _ _ _ no => no) (fun _ _ _ no => no) (fun _ _ _ _ no => no) (fun a0 a1 _ _ k2 _ => k2 a0 a1) ⟨⟩ (fun _ _ _ _ => ⟨⟩)
noncomputable def asSNS : AV → (List Nat → Res) → Res → (Nat → Nat → Nat → Nat → Option Nat → Res) → Res → Res := AV.rec (motive_1 := fun _ => (List Nat → Res) → Res → (Nat → Nat → Nat → Nat → Option Nat → Res) → Res → Res) (motive_2 := fun _ => PUnit) (fun _ _ _ no => no) (fun _ _ _ _ no => no) (fun _ _ _ _ _ no => no) (fun a0 k0 _ _ _ => k0 a0) (fun _ _ _ no => no) (fun _ _ _ _ _ no => no) (fun _ k1 _ _ => k1) (fun a0 a1 a2 a3 a4 _ _ k2 _ => k2 a0 a1 a2 a3 a4) (fun _ _ _ no => no) (fun _ _ _ _ _ no => no) (fun _ _ _ _ _ no => no) (fun _ _ _ _ _ _ no => no) (fun _ _ _ no => no) (fun _ _ _ _ _ _ no => no) (fun _ _ _ no => no) (fun _ _ _ _ no => no) (fun _ _ _ no => no) (fun _ _ _ _ no => no) (fun _ _ _ _ _ no => no) ⟨⟩ (fun _ _ _ _ => ⟨⟩)
noncomputable def asNSl : AV → Res → (Nat → Nat → Nat → Nat → Option Nat → Res) → Res → Res := AV.rec (motive_1 := fun _ => Res → (Nat → Nat → Nat → Nat → Option Nat → Res) → Res → Res) (motive_2 := fun _ => PUnit) (fun _ _ no => no) (fun _ _ _ no => no) (fun _ _ _ _ no => no) (fun _ _ _ no => no) (fun _ _ no => no) (fun _ _ _ _ no => no) (fun k0 _ _ => k0) (fun a0 a1 a2 a3 a4 _ k1 _ => k1 a0 a1 a2 a3 a4) (fun _ _ no => no) (fun _ _ _ _ no => no) (fun _ _ _ _ no => no) (fun _ _ _ _ _ no => no) (fun _ _ no => no) (fun _ _ _ _ _ no => no) (fun _ _ no => no) (fun _ _ _ no => no) (fun _ _ no => no) (fun _ _ _ no => no) (fun _ _ _ _ no => no) ⟨⟩ (fun _ _ _ _ => ⟨⟩)
noncomputable def asSlS : AV → (Nat → Nat → Nat → Nat → Option Nat → Res) → (List Nat → Res) → Res → Res := AV.rec (motive_1 := fun _ => (Nat → Nat → Nat → Nat → Option Nat → Res) → (List Nat → Res) → Res → Res) (motive_2 := fun _ => PUnit) (fun _ _ no => no) (fun _ _ _ no => no) (fun _ _ _ _ no => no) (fun a0 _ k1 _ => k1 a0) (fun _ _ no => no) (fun _ _ _ _ no => no) (fun _ _ no => no) (fun a0 a1 a2 a3 a4 k0 _ _ => k0 a0 a1 a2 a3 a4) (fun _ _ no => no) (fun _ _ _ _ no => no) (fun _ _ _ _ no => no) (fun _ _ _ _ _ no => no) (fun _ _ no => no) (fun _ _ _ _ _ no => no) (fun _ _ no => no) (fun _ _ _ no => no) (fun _ _ no => no) (fun _ _ _ no => no) (fun _ _ _ _ no => no) ⟨⟩ (fun _ _ _ _ => ⟨⟩)
noncomputable def asLen : AV → (Nat → Nat → Nat → Nat → Option Nat → Res) → Res → Res → (List Nat → Res) → Res → Res := AV.rec (motive_1 := fun _ => (Nat → Nat → Nat → Nat → Option Nat → Res) → Res → Res → (List Nat → Res) → Res → Res) (motive_2 := fun _ => PUnit) (fun _ _ _ _ no => no) (fun _ _ _ _ _ no => no) (fun _ _ _ _ _ _ no => no) (fun a0 _ _ _ k3 _ => k3 a0) (fun _ _ _ _ no => no) (fun _ _ _ _ _ _ no => no) (fun _ k1 _ _ _ => k1) (fun a0 a1 a2 a3 a4 k0 _ _ _ _ => k0 a0 a1 a2 a3 a4) (fun _ _ k2 _ _ => k2) (fun _ _ _ _ _ _ no => no) (fun _ _ _ _ _ _ no => no) (fun _ _ _ _ _ _ _ no => no) (fun _ _ _ _ no => no) (fun _ _ _ _ _ _ _ no => no) (fun _ _ _ _ no => no) (fun _ _ _ _ _ no => no) (fun _ _ _ _ no => no) (fun _ _ _ _ _ no => no) (fun _ _ _ _ _ _ no => no) ⟨⟩ (fun _ _ _ _ => ⟨⟩)
noncomputable def asTp : AV → (List AV → Res) → Res → Res := AV.rec (motive_1 := fun _ => (List AV → Res) → Res → Res) (motive_2 := fun _ => PUnit) (fun _ no => no) (fun _ _ no => no) (fun _ _ _ no => no) (fun _ _ no => no) (fun _ no => no) (fun _ _ _ no => no) (fun _ no => no) (fun _ _ _ _ _ _ no => no) (fun _ no => no) (fun _ _ _ no => no) (fun a0 _ k0 _ => k0 a0) (fun _ _ _ _ no => no) (fun _ no => no) (fun _ _ _ _ no => no) (fun _ no => no) (fun _ _ no => no) (fun _ no => no) (fun _ _ no => no) (fun _ _ _ no => no) ⟨⟩ (fun _ _ _ _ => ⟨⟩)
noncomputable def asAg : AV → (List AV → Res) → Res → Res := AV.rec (motive_1 := fun _ => (List AV → Res) → Res → Res) (motive_2 := fun _ => PUnit) (fun _ no => no) (fun _ _ no => no) (fun _ _ _ no => no) (fun _ _ no => no) (fun _ no => no) (fun _ _ _ no => no) (fun _ no => no) (fun _ _ _ _ _ _ no => no) (fun _ no => no) (fun a0 _ k0 _ => k0 a0) (fun _ _ _ no => no) (fun _ _ _ _ no => no) (fun _ no => no) (fun _ _ _ _ no => no) (fun _ no => no) (fun _ _ no => no) (fun _ no => no) (fun _ _ no => no) (fun _ _ _ no => no) ⟨⟩ (fun _ _ _ _ => ⟨⟩)
noncomputable def asSAg : AV → (List Nat → Res) → (List AV → Res) → Res → Res := AV.rec (motive_1 := fun _ => (List Nat → Res) → (List AV → Res) → Res → Res) (motive_2 := fun _ => PUnit) (fun _ _ no => no) (fun _ _ _ no => no) (fun _ _ _ _ no => no) (fun a0 k0 _ _ => k0 a0) (fun _ _ no => no) (fun _ _ _ _ no => no) (fun _ _ no => no) (fun _ _ _ _ _ _ _ no => no) (fun _ _ no => no) (fun a0 _ _ k1 _ => k1 a0) (fun _ _ _ _ no => no) (fun _ _ _ _ _ no => no) (fun _ _ no => no) (fun _ _ _ _ _ no => no) (fun _ _ no => no) (fun _ _ _ no => no) (fun _ _ no => no) (fun _ _ _ no => no) (fun _ _ _ _ no => no) ⟨⟩ (fun _ _ _ _ => ⟨⟩)
noncomputable def asFn : AV → (FuncId → List AV → Res) → (Nat → Res) → Res → Res := AV.rec (motive_1 := fun _ => (FuncId → List AV → Res) → (Nat → Res) → Res → Res) (motive_2 := fun _ => PUnit) (fun _ _ no => no) (fun _ _ _ no => no) (fun _ _ _ _ no => no) (fun _ _ _ no => no) (fun _ _ no => no) (fun _ _ _ _ no => no) (fun _ _ no => no) (fun _ _ _ _ _ _ _ no => no) (fun _ _ no => no) (fun _ _ _ _ no => no) (fun _ _ _ _ no => no) (fun a0 a1 _ k0 _ _ => k0 a0 a1) (fun _ _ no => no) (fun _ _ _ _ _ no => no) (fun _ _ no => no) (fun _ _ _ no => no) (fun _ _ no => no) (fun a0 _ k1 _ => k1 a0) (fun _ _ _ _ no => no) ⟨⟩ (fun _ _ _ _ => ⟨⟩)
noncomputable def asNil : AV → (Nat → Nat → Res) → (FuncId → List AV → Res) → (Nat → Nat → Res) → Res → Res := AV.rec (motive_1 := fun _ => (Nat → Nat → Res) → (FuncId → List AV → Res) → (Nat → Nat → Res) → Res → Res) (motive_2 := fun _ => PUnit) (fun _ _ _ no => no) (fun _ _ _ _ no => no) (fun _ _ _ _ _ no => no) (fun _ _ _ _ no => no) (fun _ _ _ no => no) (fun a0 a1 k0 _ _ _ => k0 a0 a1) (fun _ _ _ no => no) (fun _ _ _ _ _ _ _ _ no => no) (fun _ _ _ no => no) (fun _ _ _ _ _ no => no) (fun _ _ _ _ _ no => no) (fun a0 a1 _ _ k1 _ _ => k1 a0 a1) (fun _ _ _ no => no) (fun _ _ _ _ _ _ no => no) (fun _ _ _ no => no) (fun _ _ _ _ no => no) (fun _ _ _ no => no) (fun _ _ _ _ no => no) (fun a0 a1 _ _ k2 _ => k2 a0 a1) ⟨⟩ (fun _ _ _ _ => ⟨⟩)
noncomputable def cellsC : AV → (List AV → Res) → Res → Res := AV.rec (motive_1 := fun _ => (List AV → Res) → Res → Res) (motive_2 := fun _ => PUnit)
  (fun _ no => no) (fun x k _ => k [.b x]) (fun a n k _ => k [.i a n]) (fun l k _ => k [.s l]) (fun k _ => k [.np]) (fun i o k _ => k [.p i o]) (fun k _ => k [.ns]) (fun i o n z c k _ => k [.sl i o n z c]) (fun k _ => k [.z0])
  (fun l _ k _ => k l) (fun _ _ _ no => no) (fun a c _ k _ => k [.fn a c]) (fun k _ => k [.nf]) (fun t v _ k _ => k [.ifc t v]) (fun k _ => k [.nif]) (fun i k _ => k [.mp i]) (fun k _ => k [.nm]) (fun i k _ => k [.yv i]) (fun g o k _ => k [.gp g o]) ⟨⟩ (fun _ _ _ _ => ⟨⟩)
theorem cellsC_eq (v : AV) (k : List AV → Res) (no : Res) : cellsC v k no = match cellsOf v with | some l => k l | none => no := by cases v <;> rfl
noncomputable def scalC : AV → Bool := AV.rec (motive_1 := fun _ => Bool) (motive_2 := fun _ => PUnit)
  false (fun _ => true) (fun _ _ => true) (fun _ => true) true (fun _ _ => true) true (fun _ _ _ _ _ => true) true (fun _ _ => false) (fun _ _ => false) (fun _ _ _ => true) true (fun _ _ _ => true) true (fun _ => true) true (fun _ => true) (fun _ _ => true) ⟨⟩ (fun _ _ _ _ => ⟨⟩)
theorem scalC_eq (v : AV) : scalC v = scal v := by cases v <;> rfl
noncomputable def allScalC : List AV → Bool := List.rec true (fun a _ ih => Bool.rec false ih (scalC a))
theorem allScalC_eq (l : List AV) : allScalC l = allScal l := by
  induction l with
  | nil => rfl
  | cons a l ih => show (Bool.rec false (allScalC l) (scalC a) : Bool) = bif scal a then allScal l else false; rw [ih, scalC_eq]; cases scal a <;> rfl
noncomputable def nthC : List AV → Nat → Option AV := List.rec (fun _ => none) (fun x _ ih n => Nat.rec (some x) (fun m _ => ih m) n)
theorem nthC_eq (l : List AV) (n : Nat) : nthC l n = nth l n := rfl
noncomputable def lenC : List AV → Nat := List.rec 0 (fun _ _ ih => Nat.succ ih)
theorem lenC_eq (l : List AV) : lenC l = len l := rfl
noncomputable def drC : List AV → Nat → List AV := List.rec (fun _ => []) (fun x t ih n => Nat.rec (x :: t) (fun m _ => ih m) n)
theorem drC_eq (l : List AV) (n : Nat) : drC l n = dr l n := rfl
noncomputable def tkKC : List AV → Nat → (List AV → Res) → Res := List.rec (fun n k => Nat.rec (k []) (fun _ _ => .no 22) n) (fun c _ ih n k => Nat.rec (k []) (fun m _ => ih m fun t => k (c :: t)) n)
theorem tkKC_eq (l : List AV) (n : Nat) (k : List AV → Res) : tkKC l n k = tkK l n k := rfl
noncomputable def appKC : List AV → List AV → (List AV → Res) → Res := List.rec (fun m k => k m) (fun c _ ih m k => ih m fun t => k (c :: t))
theorem appKC_eq (l m : List AV) (k : List AV → Res) : appKC l m k = appK l m k := rfl
noncomputable def putKC : List AV → Nat → List AV → (List AV → Res) → Res :=
  List.rec (fun off vs k => List.rec (Nat.rec (k []) (fun _ _ => .no 21) off) (fun _ _ _ => .no 20) vs)
    (fun c t ih off vs k => Nat.rec (List.rec (k (c :: t)) (fun v vs' _ => ih 0 vs' fun t' => k (v :: t')) vs) (fun m _ => ih m vs fun t' => k (c :: t')) off)
theorem putKC_eq (cs : List AV) (off : Nat) (vs : List AV) (k : List AV → Res) : putKC cs off vs k = putK cs off vs k := rfl
noncomputable def opdC : Operand → Fr → AV := Operand.rec (fun t f => Bool.rec .u (getF t f) (Nat.ble (Nat.succ t) 4096)) (fun v _ => cv v) (fun g _ => .gp g 0) (fun k _ => .fn k [])
theorem opdC_eq (o : Operand) (f : Fr) : opdC o f = opd f o := by cases o <;> rfl
noncomputable def opdsC : List Operand → Fr → List AV := List.rec (fun _ => []) (fun o _ ih f => opdC o f :: ih f)
theorem opdsC_eq (l : List Operand) (f : Fr) : opdsC l f = opds f l := by
  induction l with
  | nil => rfl
  | cons o l ih => show opdC o f :: opdsC l f = opd f o :: opds f l; rw [ih, opdC_eq]
noncomputable def obRow : Ob → Blk → (Blk → Res) → Res → Res := Ob.rec (fun b k _ => k b) (fun _ _ _ _ no => no) (fun _ _ _ _ no => no) (fun _ _ _ _ _ _ no => no) (fun _ _ no => no) (fun _ _ _ _ _ _ _ _ no => no)
noncomputable def obGlb : Ob → List AV → (List AV → Res) → Res → Res := Ob.rec (fun _ _ no => no) (fun _ _ _ _ no => no) (fun _ _ _ _ no => no) (fun _ _ _ _ _ _ no => no) (fun b k _ => k b) (fun _ _ _ _ _ _ _ _ no => no)
noncomputable def bkRow : Option Blk → (Blk → Res) → Res → Res := Option.rec (fun _ no => no) (fun b k no => obRow b.ob b k no)
noncomputable def bkGlb : Option Blk → (List AV → Res) → Res → Res := Option.rec (fun _ no => no) (fun b k no => obGlb b.ob b.cs k no)
noncomputable def getBC (h : Hp) (id : Nat) (k : Blk → Res) (no : Res) : Res := Bool.rec no (bkRow (get5 id h.t) k no) (Nat.blt id h.n)
theorem getBC_eq (h : Hp) (id : Nat) (k : Blk → Res) (no : Res) : getBC h id k no = getB h id k no := by
  unfold getBC getB; cases Nat.blt id h.n
  · rfl
  · show bkRow (get5 id h.t) k no = _
    cases get5 id h.t with
    | none => rfl
    | some b => obtain ⟨ty, ex, ro, cs, ob⟩ := b; cases ob <;> rfl
noncomputable def getGC (h : Hp) (id : Nat) (k : List AV → Res) (no : Res) : Res := Bool.rec no (bkGlb (get5 id h.t) k no) (Nat.blt id h.n)
theorem getGC_eq (h : Hp) (id : Nat) (k : List AV → Res) (no : Res) : getGC h id k no = getG h id k no := by
  unfold getGC getG; cases Nat.blt id h.n
  · rfl
  · show bkGlb (get5 id h.t) k no = _
    cases get5 id h.t with
    | none => rfl
    | some b => obtain ⟨ty, ex, ro, cs, ob⟩ := b; cases ob <;> rfl
noncomputable def okN : Nat → IntKind → Hp → Res := Nat.rec (fun k h => .ok (.i k (Int.ofNat 0)) h) (fun m _ k h => .ok (.i k (Int.ofNat (Nat.succ m))) h)
noncomputable def okM : Nat → IntKind → Hp → Res := Nat.rec (fun k h => .ok (.i k (Int.negSucc 0)) h) (fun m _ k h => .ok (.i k (Int.negSucc (Nat.succ m))) h)
noncomputable def okIC : Int → IntKind → Hp → Res := Int.rec okN okM
theorem okIC_eq (z : Int) (k : IntKind) (h : Hp) : okIC z k h = okI k z h := by cases z <;> (rename_i n; cases n <;> rfl)
noncomputable def wrapC : IntKind → Int → Int :=
  IntKind.rec (motive := fun _ => Int → Int) (wrapS 256 128) (wrapS 65536 32768) (wrapS 4294967296 2147483648) (wrapS 18446744073709551616 9223372036854775808)
    (wrapU 256) (wrapU 65536) (Int.rec (fun n => Int.ofNat (Nat.mod n 4294967296)) (fun n => Int.ofNat (Nat.sub (Nat.sub 4294967296 1) (Nat.mod n 4294967296)))) (Int.rec (fun n => Int.ofNat (Nat.mod n 18446744073709551616)) (fun n => Int.ofNat (Nat.sub (Nat.sub 18446744073709551616 1) (Nat.mod n 18446744073709551616))))
theorem wrapC_eq (k : IntKind) (z : Int) : wrapC k z = wrapF k z := by cases k <;> first | rfl | (cases z <;> rfl)
noncomputable def okWC (k : IntKind) (z : Int) (h : Hp) : Res := okIC (wrapC k z) k h
theorem okWC_eq (k : IntKind) (z : Int) (h : Hp) : okWC k z h = okI k (wrapF k z) h := by unfold okWC; rw [okIC_eq, wrapC_eq]
noncomputable def subNN (m n : Nat) : Int := Nat.rec (Int.ofNat (Nat.sub m n)) (fun k _ => Int.negSucc k) (Nat.sub n m)
theorem subNN_eq (m n : Nat) : subNN m n = Int.subNatNat m n := by
  unfold subNN Int.subNatNat
  show (Nat.rec (Int.ofNat (m - n)) (fun k _ => Int.negSucc k) (n - m) : Int) = _
  cases n - m <;> rfl
noncomputable def iadd : Int → Int → Int := Int.rec (fun m b => Int.rec (fun n => Int.ofNat (Nat.add m n)) (fun n => subNN m (Nat.succ n)) b) (fun m b => Int.rec (fun n => subNN n (Nat.succ m)) (fun n => Int.negSucc (Nat.succ (Nat.add m n))) b)
theorem iadd_eq (a b : Int) : iadd a b = Int.add a b := by
  cases a <;> cases b
  · rfl
  · exact subNN_eq _ _
  · exact subNN_eq _ _
  · rfl
noncomputable def isub : Int → Int → Int := Int.rec (fun m b => Int.rec (fun n => subNN m n) (fun n => Int.ofNat (Nat.add m (Nat.succ n))) b) (fun m b => Int.sub (.negSucc m) b)
theorem isub_eq (a b : Int) : isub a b = Int.sub a b := by
  cases a <;> cases b
  · rename_i m n
    show subNN m n = Int.sub (.ofNat m) (.ofNat n)
    rw [subNN_eq]
    have : Int.subNatNat m n = (m : Int) - (n : Int) := Int.subNatNat_eq_coe
    exact this
  · rfl
  · rfl
  · rfl
noncomputable def imul : Int → Int → Int := Int.rec (fun m b => Int.rec (fun n => Int.ofNat (Nat.mul m n)) (fun n => Int.mul (.ofNat m) (.negSucc n)) b) (fun m b => Int.mul (.negSucc m) b)
theorem imul_eq (a b : Int) : imul a b = Int.mul a b := by cases a <;> cases b <;> rfl
noncomputable def iquo : Int → Int → Int := Int.rec (fun m b => Int.rec (fun n => Int.ofNat (Nat.div m n)) (fun n => Int.tdiv (.ofNat m) (.negSucc n)) b) (fun m b => Int.tdiv (.negSucc m) b)
theorem iquo_eq (a b : Int) : iquo a b = Int.tdiv a b := by cases a <;> cases b <;> rfl
noncomputable def irem : Int → Int → Int := Int.rec (fun m b => Int.rec (fun n => Int.ofNat (Nat.mod m n)) (fun n => Int.tmod (.ofNat m) (.negSucc n)) b) (fun m b => Int.tmod (.negSucc m) b)
theorem irem_eq (a b : Int) : irem a b = Int.tmod a b := by cases a <;> cases b <;> rfl
noncomputable def ishr : Int → Nat → Int := Int.rec (fun m n => Int.ofNat (Nat.div m n)) (fun m n => Int.ediv (.negSucc m) (Int.ofNat n))
theorem ishr_eq (a : Int) (n : Nat) : ishr a n = Int.ediv a (Int.ofNat n) := by cases a <;> rfl
noncomputable def iltC : Int → Int → Bool := Int.rec (fun m b => Int.rec (fun n => Nat.blt m n) (fun _ => false) b) (fun m b => Int.rec (fun _ => true) (fun n => Nat.blt n m) b)
theorem iltC_eq (a b : Int) : iltC a b = ilt a b := by cases a <;> cases b <;> rfl
noncomputable def ieqC : Int → Int → Bool := Int.rec (fun m b => Int.rec (fun n => Nat.beq m n) (fun _ => false) b) (fun m b => Int.rec (fun _ => false) (fun n => Nat.beq m n) b)
theorem ieqC_eq (a b : Int) : ieqC a b = ieq a b := by cases a <;> cases b <;> rfl
noncomputable def toNatC : Int → Nat := Int.rec (fun n => n) (fun _ => 0)
theorem toNatC_eq (a : Int) : toNatC a = a.toNat := by cases a <;> rfl

noncomputable def xPick (c a b : Operand) (f : Fr) (h : Hp) : Res := asB (opdC c f) (fun t => Bool.rec (.ok (opdC b f) h) (.ok (opdC a f) h) t) (.no 2)
theorem xPick_eq : xPick = evPick := by
  funext c a b f h; unfold xPick evPick; simp only [opdC_eq]; cases opd f c <;> rfl
noncomputable def xMove (x : Operand) (f : Fr) (h : Hp) : Res := .ok (opdC x f) h
theorem xMove_eq : xMove = evMove := by funext x f h; unfold xMove evMove; rw [opdC_eq]
noncomputable def xBox (e : TypeId) (x : Operand) (f : Fr) (h : Hp) : Res := cellsC (opdC x f) (fun l => newB h ⟨e, true, false, l, .row⟩ fun id h => .ok (.p id 0) h) (.no 4)
theorem xBox_eq : xBox = evBox := by funext e x f h; unfold xBox evBox; rw [cellsC_eq, opdC_eq]
noncomputable def ldC : LK → List AV → Nat → Hp → Res := LK.rec (fun cs off h => Option.rec (.no 8) (fun v => .ok v h) (nthC cs off)) (fun sz cs off h => tkKC (drC cs off) sz fun l => .ok (.ag l) h) (fun _ _ _ => .no 8)
noncomputable def xLoad (t : TypeId) (a : Operand) (f : Fr) (h : Hp) : Res :=
  asPG (opdC a f) (fun id off => getBC h id (fun b => ldC (lkOf P t) b.cs off h) (.no 8)) (fun g off => getGC h g (fun cs => ldC (lkOf P t) cs off h) (.no 8)) (.no 7)
theorem ldC_eq (k : LK) (cs : List AV) (off : Nat) (h : Hp) : ldC k cs off h = match k with
      | .one => (match nth cs off with
        | some v => .ok v h
        | none => .no 8)
      | .agg sz => tkK (dr cs off) sz fun l => .ok (.ag l) h
      | .no => .no 8 := by
  cases k
  · show (Option.rec (.no 8) (fun v => .ok v h) (nth cs off) : Res) = _
    cases nth cs off <;> rfl
  · rfl
  · rfl
theorem xLoad_eq : xLoad P = evLoad P := by
  funext t a f h; unfold xLoad evLoad; simp only [opdC_eq, getBC_eq, getGC_eq, ldC_eq]; cases opd f a <;> rfl
noncomputable def wrBC (h : Hp) (id : Nat) (off : Nat) (vs : List AV) (k : Hp → Res) : Res :=
  getBC h id (fun b => Bool.rec (Bool.rec (.no 202) (putKC b.cs off vs fun cs => k (putB h id (some ⟨b.ty, b.ex, false, cs, .row⟩))) (allScalC vs)) (.no 201) b.ro) (.no 9)
theorem wrBC_eq (h : Hp) (id off : Nat) (vs : List AV) (k : Hp → Res) : wrBC h id off vs k = wrB h id off vs k := by
  unfold wrBC wrB; rw [getBC_eq]; congr 1; funext b; rw [allScalC_eq]; cases b.ro <;> rfl
noncomputable def xStore (t : TypeId) (a x : Operand) (f : Fr) (h : Hp) : Res :=
  asP (opdC a f) (fun id off => cellsC (opdC x f) (fun vs => Option.rec (.no 11) (fun sz => Bool.rec (.no 11) (wrBC h id off vs fun h => .ok .u h) (Nat.beq (lenC vs) sz)) (szOf P t)) (.no 11)) (.no 9)
theorem xStore_eq : xStore P = evStore P := by
  funext t a x f h; unfold xStore evStore; simp only [opdC_eq, wrBC_eq, cellsC_eq]
  cases opd f a <;> try rfl
  show (match cellsOf (opd f x) with | some l => _ | none => _) = _
  cases cellsOf (opd f x) with
  | none => rfl
  | some vs => show (Option.rec _ _ (szOf P t) : Res) = _; cases szOf P t <;> rfl
noncomputable def xNilCheck (x : Operand) (f : Fr) (h : Hp) : Res := asNil (opdC x f) (fun id off => .ok (.p id off) h) (fun k c => .ok (.fn k c) h) (fun g off => .ok (.gp g off) h) (.no 12)
theorem xNilCheck_eq : xNilCheck = evNilCheck := by funext x f h; unfold xNilCheck evNilCheck; simp only [opdC_eq]; cases opd f x <;> rfl
noncomputable def xAdd (x y : AV) (h : Hp) : Res := asIS x
  (fun k a => asI y (fun k' b => Bool.rec (.no 13) (okWC k (iadd a b) h) (ikEq k k')) (.no 13))
  (fun a => asS y (fun b => Bool.rec (.no 13) (appK a b fun l => .ok (.s l) h) (Nat.blt (Nat.add (len a) (len b)) 1000000)) (.no 13)) (.no 13)
theorem xAdd_eq (x y : AV) (h : Hp) : xAdd x y h = bAdd x y h := by
  unfold xAdd bAdd; simp only [okWC_eq, iadd_eq]; cases x <;> cases y <;> rfl
noncomputable def xTwo (g : Int → Int → Int) (x y : AV) (h : Hp) : Res := asI x (fun k a => asI y (fun k' b => Bool.rec (.no 13) (okWC k (g a b) h) (ikEq k k')) (.no 13)) (.no 13)
theorem xSub_eq (x y : AV) (h : Hp) : xTwo isub x y h = bSub x y h := by
  unfold xTwo bSub; simp only [okWC_eq, isub_eq]; cases x <;> cases y <;> rfl
theorem xMul_eq (x y : AV) (h : Hp) : xTwo imul x y h = bMul x y h := by
  unfold xTwo bMul; simp only [okWC_eq, imul_eq]; cases x <;> cases y <;> rfl
noncomputable def xQuo (x y : AV) (h : Hp) : Res := asI x (fun k a => asI y (fun k' b => Bool.rec (.no 13) (Bool.rec (okWC k (iquo a b) h) (.no 13) (ieqC b 0)) (ikEq k k')) (.no 13)) (.no 13)
theorem xQuo_eq (x y : AV) (h : Hp) : xQuo x y h = bQuo x y h := by
  unfold xQuo bQuo; simp only [okWC_eq, iquo_eq, ieqC_eq]; cases x <;> cases y <;> try rfl
  rename_i k a k' b
  show (Bool.rec _ (Bool.rec _ _ (ieq b 0)) (ikEq k k') : Res) = Bool.rec _ _ (ikEq k k' && !ieq b 0)
  cases ikEq k k' <;> cases ieq b 0 <;> rfl
noncomputable def xRem (x y : AV) (h : Hp) : Res := asI x (fun k a => asI y (fun k' b => Bool.rec (.no 13) (Bool.rec (okIC (irem a b) k h) (.no 13) (ieqC b 0)) (ikEq k k')) (.no 13)) (.no 13)
theorem xRem_eq (x y : AV) (h : Hp) : xRem x y h = bRem x y h := by
  unfold xRem bRem; simp only [okIC_eq, irem_eq, ieqC_eq]; cases x <;> cases y <;> try rfl
  rename_i k a k' b
  show (Bool.rec _ (Bool.rec _ _ (ieq b 0)) (ikEq k k') : Res) = Bool.rec _ _ (ikEq k k' && !ieq b 0)
  cases ikEq k k' <;> cases ieq b 0 <;> rfl
noncomputable def xShl (x y : AV) (h : Hp) : Res := asI x (fun k a => asI y (fun _ b => Bool.rec (okWC k (imul a (Int.ofNat (Nat.pow 2 (Nat.min (toNatC b) k.bits)))) h) (.no 13) (iltC b 0)) (.no 13)) (.no 13)
theorem xShl_eq (x y : AV) (h : Hp) : xShl x y h = bShl x y h := by
  unfold xShl bShl; simp only [okWC_eq, imul_eq, iltC_eq, toNatC_eq]; cases x <;> cases y <;> try rfl
  rename_i k a k' b
  show (Bool.rec _ _ (ilt b 0) : Res) = Bool.rec _ _ (!ilt b 0)
  cases ilt b 0 <;> rfl
noncomputable def xShr (x y : AV) (h : Hp) : Res := asI x (fun k a => asI y (fun _ b => Bool.rec (okIC (ishr a (Nat.pow 2 (Nat.min (toNatC b) k.bits))) k h) (.no 13) (iltC b 0)) (.no 13)) (.no 13)
theorem xShr_eq (x y : AV) (h : Hp) : xShr x y h = bShr x y h := by
  unfold xShr bShr; simp only [okIC_eq, ishr_eq, iltC_eq, toNatC_eq]; cases x <;> cases y <;> try rfl
  rename_i k a k' b
  show (Bool.rec _ _ (ilt b 0) : Res) = Bool.rec _ _ (!ilt b 0)
  cases ilt b 0 <;> rfl
noncomputable def xBits (g : Nat → Nat → Nat) (x y : AV) (h : Hp) : Res := asI x (fun k a => asI y (fun k' b => Bool.rec (.no 13) (Int.rec (fun m => Int.rec (fun n => okWC k (Int.ofNat (g (Nat.mod m (Nat.pow 2 k.bits)) (Nat.mod n (Nat.pow 2 k.bits)))) h) (fun _ => .no 13) b) (fun _ => .no 13) a) (ikEq k k')) (.no 13)) (.no 13)
theorem xBits_eq (g : Nat → Nat → Nat) (x y : AV) (h : Hp) : xBits g x y h = bBits g x y h := by
  unfold xBits bBits; simp only [okWC_eq]; cases x <;> cases y <;> rfl
noncomputable def okBC : Bool → Hp → Res := Bool.rec (fun h => .ok (.b false) h) (fun h => .ok (.b true) h)
theorem okBC_eq (t : Bool) (h : Hp) : okBC t h = okB t h := by cases t <;> rfl
noncomputable def xCmp (g : Int → Int → Bool) (x y : AV) (h : Hp) : Res := asI x (fun k a => asI y (fun k' b => Bool.rec (.no 13) (okBC (g a b) h) (ikEq k k')) (.no 13)) (.no 13)
noncomputable def xLss (x y : AV) (h : Hp) : Res := asI x (fun k a => asI y (fun k' b => Bool.rec (.no 13) (okBC (iltC a b) h) (ikEq k k')) (.no 13)) (bLss x y h)
theorem xLss_eq (x y : AV) (h : Hp) : xLss x y h = bLss x y h := by
  unfold xLss bLss; simp only [okBC_eq, iltC_eq]; cases x <;> cases y <;> rfl
theorem xLeq_eq (x y : AV) (h : Hp) : xCmp (fun a b => Bool.rec true false (iltC b a)) x y h = bLeq x y h := by
  unfold xCmp bLeq; simp only [okBC_eq, iltC_eq]; cases x <;> cases y <;> try rfl
  rename_i k a k' b
  show (Bool.rec _ (okB (Bool.rec true false (ilt b a)) h) _ : Res) = Bool.rec _ (okB (!ilt b a) h) _
  cases ilt b a <;> rfl
theorem xGtr_eq (x y : AV) (h : Hp) : xCmp (fun a b => iltC b a) x y h = bGtr x y h := by
  unfold xCmp bGtr; simp only [okBC_eq, iltC_eq]; cases x <;> cases y <;> rfl
theorem xGeq_eq (x y : AV) (h : Hp) : xCmp (fun a b => Bool.rec true false (iltC a b)) x y h = bGeq x y h := by
  unfold xCmp bGeq; simp only [okBC_eq, iltC_eq]; cases x <;> cases y <;> try rfl
  rename_i k a k' b
  show (Bool.rec _ (okB (Bool.rec true false (ilt a b)) h) _ : Res) = Bool.rec _ (okB (!ilt a b) h) _
  cases ilt a b <;> rfl
noncomputable def xEql (P : Program) (c : Bool) (t : TypeId) (x y : AV) (h : Hp) : Res := asI x (fun k a => asI y (fun k' b => Bool.rec (.no 14) (okBC (ieqC a b) h) (ikEq k k')) (.no 14)) (bEql P c t x y h)
theorem xEql_eq (c : Bool) (t : TypeId) (x y : AV) (h : Hp) : xEql P c t x y h = bEql P c t x y h := by
  unfold xEql; simp only [okBC_eq, ieqC_eq]; cases x <;> try rfl
  cases y <;> try rfl
  rename_i k a k' b
  show (Bool.rec _ _ (ikEq k k') : Res) = _
  unfold bEql eqV
  show _ = (match (Bool.rec none (some (ieq a b)) (ikEq k k') : Option Bool) with | some b => okB b h | none => .no 14)
  cases ikEq k k' <;> rfl
noncomputable def xNeq (P : Program) (c : Bool) (t : TypeId) (x y : AV) (h : Hp) : Res := asI x (fun k a => asI y (fun k' b => Bool.rec (.no 14) (okBC (Bool.rec true false (ieqC a b)) h) (ikEq k k')) (.no 14)) (bNeq P c t x y h)
theorem xNeq_eq (c : Bool) (t : TypeId) (x y : AV) (h : Hp) : xNeq P c t x y h = bNeq P c t x y h := by
  unfold xNeq; simp only [okBC_eq, ieqC_eq]; cases x <;> try rfl
  cases y <;> try rfl
  rename_i k a k' b
  show (Bool.rec _ _ (ikEq k k') : Res) = _
  unfold bNeq eqV
  show _ = (match (Bool.rec none (some (ieq a b)) (ikEq k k') : Option Bool) with | some b => okB (!b) h | none => .no 14)
  cases ikEq k k'
  · rfl
  · show okB (Bool.rec true false (ieq a b)) h = okB (!ieq a b) h
    cases ieq a b <;> rfl
noncomputable def orB (a b : Bool) : Bool := Bool.rec b true a
theorem orB_eq (a b : Bool) : orB a b = (a || b) := by cases a <;> rfl
noncomputable def xBinF : BinOp → Program → Operand → Operand → TypeId → AV → AV → Hp → Res :=
  BinOp.rec (motive := fun _ => Program → Operand → Operand → TypeId → AV → AV → Hp → Res)
    (fun _ _ _ _ => xAdd) (fun _ _ _ _ => xTwo isub) (fun _ _ _ _ => xTwo imul) (fun _ _ _ _ => xQuo) (fun _ _ _ _ => xRem)
    (fun _ _ _ _ => xBits Nat.land) (fun _ _ _ _ => xBits Nat.lor) (fun _ _ _ _ => xBits Nat.xor) (fun _ _ _ _ => xShl) (fun _ _ _ _ => xShr) (fun _ _ _ _ => xBits (fun m n => Nat.xor m (Nat.land m n)))
    (fun P x y t => xEql P (orB (isConst x) (isConst y)) t) (fun P x y t => xNeq P (orB (isConst x) (isConst y)) t) (fun _ _ _ _ => xLss) (fun _ _ _ _ => xCmp (fun a b => Bool.rec true false (iltC b a))) (fun _ _ _ _ => xCmp (fun a b => iltC b a)) (fun _ _ _ _ => xCmp (fun a b => Bool.rec true false (iltC a b)))
noncomputable def xBin (op : BinOp) (t : TypeId) (x y : Operand) (f : Fr) (h : Hp) : Res := xBinF op P x y t (opdC x f) (opdC y f) h
theorem xBin_eq : xBin P = evBin P := by
  funext op t x y f h; unfold xBin evBin; rw [opdC_eq, opdC_eq]
  cases op
  · exact xAdd_eq ..
  · exact xSub_eq ..
  · exact xMul_eq ..
  · exact xQuo_eq ..
  · exact xRem_eq ..
  · exact xBits_eq ..
  · exact xBits_eq ..
  · exact xBits_eq ..
  · exact xShl_eq ..
  · exact xShr_eq ..
  · exact xBits_eq (fun m n => Nat.xor m (Nat.land m n)) _ _ h
  · show xEql P (orB _ _) t _ _ h = bEql P _ t _ _ h; rw [orB_eq]; exact xEql_eq ..
  · show xNeq P (orB _ _) t _ _ h = bNeq P _ t _ _ h; rw [orB_eq]; exact xNeq_eq ..
  · exact xLss_eq ..
  · exact xLeq_eq ..
  · exact xGtr_eq ..
  · exact xGeq_eq ..
noncomputable def xUnF : UnOp → AV → Hp → Res := UnOp.rec (fun x h => asI x (fun k a => okWC k (isub 0 a) h) (.no 16)) (fun x h => asI x (fun k a => okWC k (Int.sub (Int.negSucc 0) a) h) (.no 16)) (fun x h => asB x (fun t => okBC (Bool.rec true false t) h) (.no 16)) (fun _ _ => .no 16)
noncomputable def xUn (op : UnOp) (x : Operand) (f : Fr) (h : Hp) : Res := xUnF op (opdC x f) h
theorem xUn_eq : xUn = evUn := by
  funext op x f h; unfold xUn evUn; rw [opdC_eq]
  cases op
  · show asI _ _ _ = _; simp only [okWC_eq, isub_eq]; cases opd f x <;> rfl
  · show asI _ _ _ = _; simp only [okWC_eq]; cases opd f x <;> rfl
  · show asB _ _ _ = _; simp only [okBC_eq]; cases opd f x <;> first | rfl | (rename_i t; cases t <;> rfl)
  · cases opd f x <;> rfl
noncomputable def xConvP (s d : TypeId) (x : Operand) (f : Fr) (h : Hp) : Res := asI (opdC x f) (fun _ a => Option.rec (.no 17) (fun j => Bool.rec (.no 17) (okWC j a h) (P.underlying s).isSome) (isInt P d)) (evConvP P s d x f h)
theorem xConvP_eq : xConvP P = evConvP P := by
  funext s d x f h; unfold xConvP evConvP; simp only [okWC_eq, opdC_eq]
  cases opd f x <;> try rfl
  rename_i k a
  show (Option.rec _ _ (isInt P d) : Res) = _
  cases isInt P d <;> rfl
noncomputable def xConv (s d : TypeId) (x : Operand) (f : Fr) (h : Hp) : Res := Nat.rec (motive := fun _ => Res) (xConvP P s d x f h) (fun _ _ => evConv P s d x f h) (cvKd P s d)
theorem xConv_eq : xConv P = evConv P := by
  funext s d x f h; unfold xConv
  cases hk : cvKd P s d with
  | zero => show xConvP P s d x f h = _; rw [xConvP_eq]; unfold evConv; simp only [hk]
  | succ n => rfl
noncomputable def natC (v : AV) (k : Nat → Res) (no : Res) : Res := asI v (fun _ n => Int.rec k (fun _ => no) n) no
theorem natC_eq (v : AV) (k : Nat → Res) (no : Res) : natC v k no = natOf v k no := by cases v <;> rfl
noncomputable def fzC (k : Nat → Res) : Nat → Res := Nat.rec (k 0) (fun m _ => k (Nat.succ m))
theorem fzC_eq (n : Nat) (k : Nat → Res) : fzC k n = fz n k := rfl
noncomputable def bndC (f : Fr) (o : Option Operand) (d : Nat) (k : Nat → Res) (no : Res) : Res := Option.rec (k d) (fun x => natC (opdC x f) (fzC k) no) o
theorem bndC_eq (f : Fr) (o : Option Operand) (d : Nat) (k : Nat → Res) (no : Res) : bndC f o d k no = bnd f o d k no := by
  cases o with
  | none => rfl
  | some x => show natC (opdC x f) (fzC k) no = natOf (opd f x) (fun n => fz n k) no; rw [natC_eq, opdC_eq]; rfl
noncomputable def slC : Option Nat → Nat → Nat → Nat → Nat → Nat → Nat → Hp → Res := Option.rec
  (fun id off n z i j h => Bool.rec (.no 19) (Bool.rec (fz (Nat.add off (Nat.mul i z)) fun o => fz (Nat.sub j i) fun n' => .ok (.sl id o n' z none) h) (.ok .z0 h) (Nat.beq n i)) (Nat.ble j n))
  (fun c id off _ z i j h => Bool.rec (.no 19) (Bool.rec (fz (Nat.add off (Nat.mul i z)) fun o => fz (Nat.sub j i) fun n' => fz (Nat.sub c i) fun c' => .ok (.sl id o n' z (some c')) h) (.ok (.sl id off 0 z (some 0)) h) (Nat.beq c i)) (Nat.ble j c))
noncomputable def xSliceP (t : TypeId) (x : Operand) (lo hi mx : Option Operand) (f : Fr) (h : Hp) : Res := Option.rec
  (asSNS (opdC x f)
    (fun _ => evSliceP P t x lo hi mx f h) (evSliceP P t x lo hi mx f h)
    (fun id off n z cap => Option.rec (.no 19) (fun sz => bndC f hi n (fun j => bndC f lo 0 (fun i => Bool.rec (.no 19) (Bool.rec (.no 19) (slC cap id off n z i j h) (Nat.beq sz z)) (Nat.ble i j)) (.no 19)) (.no 19)) ((slOf P t).bind (szOf P)))
    (.no 19))
  (fun _ => .no 19) mx
theorem xSliceP_eq : xSliceP P = evSliceP P := by
  funext t x lo hi mx f h; unfold xSliceP
  cases mx with
  | some m => rfl
  | none =>
    show asSNS (opdC x f) _ _ _ _ = _
    rw [opdC_eq]
    cases hx : opd f x with
    | sl id off n z cap =>
      show (Option.rec _ _ ((slOf P t).bind (szOf P)) : Res) = _
      unfold evSliceP; rw [hx]
      cases hs : (slOf P t).bind (szOf P) with
      | none => simp only [hs]
      | some sz =>
        simp only [hs, bndC_eq]
        congr 1; funext j; congr 1; funext i
        cases Nat.ble i j
        · rfl
        · cases Nat.beq sz z
          · rfl
          · cases cap <;> rfl
    | _ => first | rfl | (unfold evSliceP; rw [hx]; rfl)
noncomputable def xSlice (t : TypeId) (x : Operand) (lo hi mx : Option Operand) (f : Fr) (h : Hp) : Res := Bool.rec (xSliceP P t x lo hi mx f h) (evSliceA P t x lo hi mx f h) (isArr P t)
theorem xSlice_eq : xSlice P = evSlice P := by funext t x lo hi mx f h; unfold xSlice evSlice; rw [xSliceP_eq]
noncomputable def xFieldAddr (s : TypeId) (x : Operand) (i : Nat) (f : Fr) (h : Hp) : Res := asPG (opdC x f)
  (fun id off => Option.rec (.no 23) (fun o => fzC (fun o => .ok (.p id o) h) (Nat.add off o)) (fieldOff P s i))
  (fun id off => Option.rec (.no 23) (fun o => fzC (fun o => .ok (.gp id o) h) (Nat.add off o)) (fieldOff P s i)) (.no 23)
theorem xFieldAddr_eq : xFieldAddr P = evFieldAddr P := by
  funext s x i f h; unfold xFieldAddr evFieldAddr; rw [opdC_eq]
  cases opd f x <;> try rfl
  all_goals (show (Option.rec _ _ (fieldOff P s i) : Res) = _; cases fieldOff P s i <;> rfl)
noncomputable def xIndexAddr (t : TypeId) (x i : Operand) (f : Fr) (h : Hp) : Res := asSPG (opdC x f)
  (fun id off n z _ => Option.rec (.no 24) (fun sz => natC (opdC i f) (fun j => Bool.rec (.no 24) (Bool.rec (.no 24) (fzC (fun o => .ok (.p id o) h) (Nat.add off (Nat.mul j z))) (Nat.beq sz z)) (Nat.blt j n)) (.no 24)) ((slOf P t).bind (szOf P)))
  (fun _ _ => evIndexAddr P t x i f h) (fun _ _ => evIndexAddr P t x i f h) (.no 24)
theorem xIndexAddr_eq : xIndexAddr P = evIndexAddr P := by
  funext t x i f h; unfold xIndexAddr; rw [opdC_eq]
  cases hx : opd f x with
  | sl id off n z cap =>
    show (Option.rec _ _ ((slOf P t).bind (szOf P)) : Res) = _
    unfold evIndexAddr; rw [hx]
    cases hs : (slOf P t).bind (szOf P) with
    | none => simp only [hs]
    | some sz =>
      simp only [hs, natC_eq, opdC_eq]
      congr 1; funext j
      cases Nat.blt j n
      · rfl
      · cases Nat.beq sz z <;> rfl
  | _ => first | rfl | (unfold evIndexAddr; rw [hx]; rfl)
noncomputable def nthN : List Nat → Nat → Option Nat := List.rec (fun _ => none) (fun x _ ih n => Nat.rec (some x) (fun m _ => ih m) n)
noncomputable def xIndex (t : TypeId) (x i : Operand) (f : Fr) (h : Hp) : Res := asSAg (opdC x f)
  (fun l => Bool.rec (.no 25) (natC (opdC i f) (fun j => Option.rec (.no 25) (fun c => .ok (.i .u8 (Int.ofNat c)) h) (nthN l j)) (.no 25)) (isStr P t))
  (fun _ => evIndex P t x i f h) (.no 25)
theorem xIndex_eq : xIndex P = evIndex P := by
  funext t x i f h; unfold xIndex; rw [opdC_eq]
  cases hx : opd f x with
  | s l =>
    unfold evIndex; rw [hx]
    simp only [natC_eq, opdC_eq]
    show (Bool.rec _ _ (isStr P t) : Res) = Bool.rec _ _ (isStr P t)
    cases isStr P t
    · rfl
    · show natOf _ _ _ = natOf _ _ _
      congr 1; funext j
      show (Option.rec _ _ (nth l j) : Res) = _
      cases nth l j <;> rfl
  | _ => first | rfl | (unfold evIndex; rw [hx]; rfl)
noncomputable def xExtract (x : Operand) (i : Nat) (f : Fr) (h : Hp) : Res := asTp (opdC x f) (fun l => Option.rec (.no 26) (fun v => .ok v h) (nthC l i)) (.no 26)
theorem xExtract_eq : xExtract = evExtract := by
  funext x i f h; unfold xExtract evExtract; rw [opdC_eq]
  cases opd f x <;> try rfl
  rename_i l
  show (Option.rec _ _ (nth l i) : Res) = (match nth l i with | some v => .ok v h | none => .no 26)
  cases nth l i <;> rfl
noncomputable def xPart (k : LK) : List AV → Nat → (AV → Res) → Res → Res := LK.rec (fun cs off k no => Option.rec no k (nthC cs off)) (fun sz cs off k _ => k (.ag (tk (dr cs off) sz))) (fun _ _ _ no => no) k
theorem xPart_eq (t : TypeId) (cs : List AV) (off : Nat) (k : AV → Res) (no : Res) : xPart (lkOf P t) cs off k no = match partA P t cs off with | some v => k v | none => no := by
  unfold partA; cases lkOf P t
  · show (Option.rec no k (nth cs off) : Res) = _
    cases nth cs off <;> rfl
  · rfl
  · rfl
noncomputable def xField (s : TypeId) (x : Operand) (i : Nat) (f : Fr) (h : Hp) : Res := asAg (opdC x f) (fun cs => Option.rec (.no 174) (fun p => xPart (lkOf P p.1) cs p.2 (fun v => .ok v h) (.no 174)) (fldOf P s i)) (.no 174)
theorem xField_eq : xField P = evField P := by
  funext s x i f h; unfold xField evField; simp only [opdC_eq, xPart_eq]
  cases opd f x <;> try rfl
  rename_i cs
  show (Option.rec _ _ (fldOf P s i) : Res) = _
  cases fldOf P s i <;> rfl
noncomputable def xLen (t : TypeId) (x : AV) (no : Res) (h : Hp) : Res := asLen x
  (fun _ _ n _ _ => Bool.rec (.no 28) (.ok (.i .i64 (Int.ofNat n)) h) (isSl P t)) (Bool.rec (.no 28) (.ok (.i .i64 (Int.ofNat 0)) h) (isSl P t)) (Bool.rec (.no 28) (.ok (.i .i64 (Int.ofNat 0)) h) (isSl P t))
  (fun l => Bool.rec (.no 28) (fz (len l) fun n => .ok (.i .i64 (Int.ofNat n)) h) (isStr P t)) no
noncomputable def xLenA (ts : List TypeId) (l : List AV) (h : Hp) : Res := Bool.rec
  (List.rec (.no 28) (fun t tr _ => List.rec (List.rec (.no 28) (fun x xr _ => List.rec (xLen P t x (.no 28) h) (fun _ _ _ => .no 28) xr) l) (fun _ _ _ => .no 28) tr) ts) (evLenM l h) (mapTs P ts)
theorem xLenA_eq : xLenA P = evLenA P := by
  funext ts l h; unfold xLenA evLenA
  cases mapTs P ts
  · show _ = evLen P ts l h
    unfold evLen
    match ts, l with
    | [], [] => rfl
    | [], _ :: _ => rfl
    | [_], [] => rfl
    | [_], _ :: _ :: _ => rename_i a b c d; cases b <;> rfl
    | _ :: _ :: _, [] => rfl
    | _ :: _ :: _, _ :: _ => rename_i a b c d e; cases d <;> first | rfl | (cases e <;> rfl)
    | [t], [x] => cases x <;> rfl
  · rfl
noncomputable def xApLen (P : Program) (e : TypeId) (m n : Nat) (k : Nat → Res) : Res := fzC (fun mn => Bool.rec (.no 34) (Bool.rec (.no 34) (k mn) (Nat.ble ((byOf P e).getD 4294967296) 65536)) (Nat.ble mn 1000000)) (Nat.add m n)
theorem xApLen_eq (e : TypeId) (m n : Nat) (k : Nat → Res) : xApLen P e m n k = apLen P e m n k := by
  unfold xApLen apLen; rw [fzC_eq]; congr 1; funext mn; cases Nat.ble mn 1000000 <;> rfl
noncomputable def xApNew (P : Program) (e sz : Nat) (h : Hp) (m n : Nat) (us vs : List AV) : Res :=
  xApLen P e m n fun mn => appKC us vs fun cs => newB h ⟨e, false, false, cs, .row⟩ fun id' h => .ok (.sl id' 0 mn sz none) h
theorem xApNew_eq (e sz : Nat) (h : Hp) (m n : Nat) (us vs : List AV) : xApNew P e sz h m n us vs = apNew P e sz h m n us vs := by
  unfold xApNew apNew; rw [xApLen_eq]; rfl
noncomputable def xApTo (P : Program) (e sz : Nat) (h : Hp) (s : AV) (n : Nat) (vs : List AV) : Res := asNSl s (xApNew P e sz h 0 n [] vs)
  (fun id off m z cap => Bool.rec (.no 33) (Option.rec
    (getBC h id (fun b => Bool.rec (Bool.rec (.no 34) (Bool.rec (.no 34) (tkKC (drC b.cs off) (Nat.mul m z) fun us => xApNew P e sz (putB h id none) m n us vs) (Nat.beq b.ty e)) (allScalC vs)) (.no 34) b.ro) (.no 34))
    (fun c => Bool.rec
        (getBC h id (fun b => tkKC (drC b.cs off) (Nat.mul m z) fun us => xApNew P e sz h m n us vs) (.no 33))
        (wrBC h id (Nat.add off (Nat.mul m z)) vs fun h => xApLen P e m n fun mn => .ok (.sl id off mn sz (some c)) h) (Nat.ble (Nat.add m n) c)) cap) (Nat.beq z sz)) (.no 33)
theorem xApTo_eq (e sz : Nat) (h : Hp) (s : AV) (n : Nat) (vs : List AV) : xApTo P e sz h s n vs = apTo P e sz h s n vs := by
  unfold xApTo apTo; simp only [xApNew_eq, wrBC_eq, getBC_eq, allScalC_eq, xApLen_eq]
  cases s <;> try rfl
  rename_i id off m z cap
  show (Bool.rec _ _ (Nat.beq z sz) : Res) = Bool.rec _ _ (Nat.beq z sz)
  cases Nat.beq z sz
  · rfl
  · cases cap with
    | some c => rfl
    | none =>
      show getB h id _ _ = getB h id _ _
      congr 1; funext b
      cases b.ro <;> cases allScal vs <;> cases Nat.beq b.ty e <;> rfl
noncomputable def xAppend2 (t t' : TypeId) (s x : AV) (h : Hp) (no : Res) : Res := Option.rec no (fun e => Option.rec no (fun sz => Option.rec no (fun zc =>
  Bool.rec (.no 32) (Bool.rec (srcK h sz x fun n vs => xApTo P e sz h s n vs) (match s with
          | .ns => .ok s h
          | .sl _ _ _ _ _ => .ok s h
          | _ => .no 32) (emptyA x)) (Nat.blt 0 sz && (Nat.beq t t' || isStr P t' && byteT P e) && Nat.beq (len zc) sz)) (zcOf P e)) (szOf P e)) (slOf P t)
noncomputable def xAppend (ts : List TypeId) (l : List AV) (h : Hp) : Res :=
  List.rec (.no 32) (fun t tr _ => List.rec (.no 32) (fun t' tr' _ => List.rec
    (List.rec (.no 32) (fun s lr _ => List.rec (.no 32) (fun x lr' _ => List.rec (xAppend2 P t t' s x h (.no 32)) (fun _ _ _ => .no 32) lr') lr) l) (fun _ _ _ => .no 32) tr') tr) ts
theorem xAppend_eq : xAppend P = evAppend P := by
  funext ts l h; unfold xAppend evAppend
  match ts, l with
  | [], _ => rfl
  | [_], _ => rfl
  | _ :: _ :: _ :: _, _ => rfl
  | [_, _], [] => rfl
  | [_, _], [_] => rfl
  | [_, _], _ :: _ :: _ :: _ => rfl
  | [t, t'], [s, x] =>
    show xAppend2 P t t' s x h _ = _
    unfold xAppend2; simp only [xApTo_eq]
    cases slOf P t with
    | none => rfl
    | some e =>
      show (Option.rec _ _ (szOf P e) : Res) = _
      cases hs : szOf P e with
      | none => simp only [hs]
      | some sz =>
        show (Option.rec _ _ (zcOf P e) : Res) = _
        cases hz : zcOf P e with
        | none => simp only [hs, hz]
        | some zc => simp only [hs, hz]
noncomputable def xBuiltinF : Builtin → Program → List TypeId → List AV → Hp → Res :=
  Builtin.rec (motive := fun _ => Program → List TypeId → List AV → Hp → Res)
    xAppend (fun P => evCap P) (fun P => evBuiltin P .clear) (fun P => evBuiltin P .close) (fun P => evBuiltin P .complex) (fun P => evCopy P) (fun P => evBuiltin P .delete) (fun P => evBuiltin P .imag) xLenA
    (fun P => evBuiltin P .make) (fun _ _ => evMax) (fun _ _ => evMin) (fun P => evBuiltin P .new) (fun P => evBuiltin P .panic) (fun P => evBuiltin P .print) (fun P => evBuiltin P .println) (fun P => evBuiltin P .real) (fun P => evBuiltin P .recover)
    (fun P => evBuiltin P .unsafeAdd) (fun P => evBuiltin P .unsafeSlice) (fun _ _ => evUSData) (fun P => evUStr P) (fun P => evBuiltin P .unsafeStringData) (fun P => evBuiltin P .unsafeSizeof) (fun P => evBuiltin P .unsafeAlignof) (fun P => evBuiltin P .unsafeOffsetof)
theorem xBuiltinF_eq (b : Builtin) (ts : List TypeId) (l : List AV) (h : Hp) : xBuiltinF b P ts l h = evBuiltin P b ts l h := by
  cases b <;> first | rfl | (show xAppend P ts l h = _; rw [xAppend_eq]; rfl) | (show xLenA P ts l h = _; rw [xLenA_eq]; rfl)
/-- what a call is run by: functions with a body, and the model's own entries by number -/
structure CallF where
  run : FuncId → List AV → Hp → Res
  ex : FuncId → Nat
  rd : Nat → List AV → Hp → Res
/-- the model's own entries: 1 abi.NoEscape, 2 bytealg.MakeNoZero -/
noncomputable def evExt (k m : Nat) (l : List AV) (h : Hp) : Res := match m, l with
  | 1, [x] => .ok x h
  | 2, [.i .i64 n] => Int.rec (fun n => match (P.funcs[k]?).bind (fun fn => (fn.resultTypes[0]?).bind (slOf P)) with
    | some e => Bool.rec (.no 70) (appK (repl n [AV.u]) [] fun cs => newB h ⟨e, false, false, cs, .row⟩ fun id h => .ok (.sl id 0 n 1 none) h) (Nat.ble n 1000000 && byteT P e)
    | none => .no 70) (fun _ => .no 70) n
  | _, _ => .no 71
noncomputable def appL (l m : List AV) : List AV := List.rec m (fun a _ ih => a :: ih) l
noncomputable def evCallOp (call : CallF) (c : Call) (f : Fr) (h : Hp) : Res := match c.callee with
  | .builtin b => evBuiltin P b c.argTypes.toList (opds f c.args.toList) h
  | .value x => match opd f x with
    | .fn k cap => Nat.rec (call.run k (appL (opds f c.args.toList) cap) h) (fun m _ => evExt P k (Nat.succ m) (appL (opds f c.args.toList) cap) h) (call.ex k)
    | .yv id => call.rd id (opds f c.args.toList) h
    | _ => .no 37
  | _ => .no 38
noncomputable def appC : List AV → List AV → List AV := List.rec (fun m => m) (fun a _ ih m => a :: ih m)
theorem appC_eq (l m : List AV) : appC l m = appL l m := by
  induction l with
  | nil => rfl
  | cons a l ih => show a :: appC l m = a :: appL l m; rw [ih]
noncomputable def callN : Nat → Program → CallF → FuncId → List AV → Hp → Res := Nat.rec (fun _ call k l h => call.run k l h) (fun m _ P _ k l h => evExt P k (Nat.succ m) l h)
noncomputable def xCallF : Callee → Program → CallF → Call → Fr → Hp → Res := Callee.rec
  (fun x P call c f h => asFn (opdC x f) (fun k cap => callN (call.ex k) P call k (appC (opdsC c.args.toList f) cap) h) (fun id => call.rd id (opdsC c.args.toList f) h) (.no 37))
  (fun _ _ _ _ _ _ _ => .no 38) (fun b P _ c f h => xBuiltinF b P c.argTypes.toList (opdsC c.args.toList f) h)
noncomputable def xCallOp (call : CallF) (c : Call) (f : Fr) (h : Hp) : Res := xCallF c.callee P call c f h
theorem xCallOp_eq (call : CallF) : xCallOp P call = evCallOp P call := by
  funext c f h; unfold xCallOp evCallOp
  cases hc : c.callee with
  | value x =>
    show asFn (opdC x f) _ _ _ = _
    simp only [opdC_eq, opdsC_eq, appC_eq]
    cases opd f x <;> try rfl
    rename_i k cap
    show callN (call.ex k) P call k _ h = Nat.rec (motive := fun _ => Res) (call.run k _ h) (fun m _ => evExt P k (Nat.succ m) _ h) (call.ex k)
    cases call.ex k <;> rfl
  | invoke r m => rfl
  | builtin b => show xBuiltinF b P _ _ h = _; rw [xBuiltinF_eq, opdsC_eq]
noncomputable def evOpS (call : CallF) (op : Op) : Fr → Hp → Res :=
  Op.rec (motive := fun _ => Fr → Hp → Res) evMove evMove evPick (evAlloc P) (evBox) (evBuild P) (evBuildSlice P) (evMapUpdate P)
    (evLoad P) (evStore P) (fun _ _ _ => .no 102) (fun _ _ _ => .no 103) evNilCheck (fun op t x y _ => evBin P op t x y) (fun op _ x => evUn op x) (evConv P)
    (fun _ _ _ _ => .no 104) (evMakeInterface P) evMakeFunc (evMakeMap P) (fun _ _ _ _ => .no 107) (evMakeSlice P) (evSlice P) (evFieldAddr P) (evField P)
    (evIndexAddr P) (evIndex P) (evLookup P) (evMapUpdate P) (fun _ _ _ _ _ => .no 108) (fun _ _ _ _ _ _ => .no 109) (evRange P) (fun it st => evNext it st)
    (fun _ _ _ => .no 115) (fun x _ a ok => evTypeAssert P x a ok) evExtract (evCallOp P call) (fun _ _ _ => .no 117) (fun _ _ _ => .no 118) evPanic (fun _ _ _ _ => .no 120) (fun _ _ _ _ _ => .no 121) (fun _ _ _ _ => .no 122) op
noncomputable def xOpF : Op → Program → CallF → Fr → Hp → Res :=
  Op.rec (motive := fun _ => Program → CallF → Fr → Hp → Res) (fun x _ _ => xMove x) (fun x _ _ => xMove x) (fun c a b _ _ => xPick c a b) (fun e P _ => evAlloc P e) (fun e x _ _ => xBox e x) (fun t ps P _ => evBuild P t ps) (fun t n ps P _ => evBuildSlice P t n ps) (fun t m k x P _ => evMapUpdate P t m k x) (fun t a P _ => xLoad P t a) (fun t a x P _ => xStore P t a x) (fun _ _ _ _ _ => .no 102) (fun _ _ _ _ _ => .no 103) (fun x _ _ => xNilCheck x) (fun op t x y _ P _ => xBin P op t x y) (fun op _ x _ _ => xUn op x) (fun s d x P _ => xConv P s d x) (fun _ _ _ _ _ _ => .no 104) (fun t x P _ => evMakeInterface P t x) (fun fn a b _ _ => evMakeFunc fn a b) (fun t r P _ => evMakeMap P t r) (fun _ _ _ _ _ _ => .no 107) (fun t l c P _ => evMakeSlice P t l c) (fun t x lo hi mx P _ => xSlice P t x lo hi mx) (fun s x i P _ => xFieldAddr P s x i) (fun s x i P _ => xField P s x i) (fun t x i P _ => xIndexAddr P t x i) (fun t x i P _ => xIndex P t x i) (fun t x i ok P _ => evLookup P t x i ok) (fun t m k x P _ => evMapUpdate P t m k x) (fun _ _ _ _ _ _ _ => .no 108) (fun _ _ _ _ _ _ _ _ => .no 109) (fun t x P _ => evRange P t x) (fun it st _ _ => evNext it st) (fun _ _ _ _ _ => .no 115) (fun x _ a ok P _ => evTypeAssert P x a ok) (fun x i _ _ => xExtract x i) (fun c P call => xCallOp P call c) (fun _ _ _ _ _ => .no 117) (fun _ _ _ _ _ => .no 118) (fun x _ _ => evPanic x) (fun _ _ _ _ _ _ => .no 120) (fun _ _ _ _ _ _ _ => .no 121) (fun _ _ _ _ _ _ => .no 122)
noncomputable def evOp (call : CallF) (op : Op) : Fr → Hp → Res := xOpF op P call
theorem evOp_eq (call : CallF) (op : Op) : evOp P call op = evOpS P call op := by
  cases op
  all_goals first
    | rfl
    | exact xMove_eq ▸ rfl
    | (funext f h; show xMove _ f h = _; rw [xMove_eq]; rfl)
    | (funext f h; show xPick _ _ _ f h = _; rw [xPick_eq]; rfl)
    | (funext f h; show xBox _ _ f h = _; rw [xBox_eq]; rfl)
    | (funext f h; show xLoad P _ _ f h = _; rw [xLoad_eq]; rfl)
    | (funext f h; show xStore P _ _ _ f h = _; rw [xStore_eq]; rfl)
    | (funext f h; show xNilCheck _ f h = _; rw [xNilCheck_eq]; rfl)
    | (funext f h; show xBin P _ _ _ _ f h = _; rw [xBin_eq]; rfl)
    | (funext f h; show xUn _ _ f h = _; rw [xUn_eq]; rfl)
    | (funext f h; show xConv P _ _ _ f h = _; rw [xConv_eq]; rfl)
    | (funext f h; show xSlice P _ _ _ _ _ f h = _; rw [xSlice_eq]; rfl)
    | (funext f h; show xFieldAddr P _ _ _ f h = _; rw [xFieldAddr_eq]; rfl)
    | (funext f h; show xField P _ _ _ f h = _; rw [xField_eq]; rfl)
    | (funext f h; show xIndexAddr P _ _ _ f h = _; rw [xIndexAddr_eq]; rfl)
    | (funext f h; show xIndex P _ _ _ f h = _; rw [xIndex_eq]; rfl)
    | (funext f h; show xExtract _ _ f h = _; rw [xExtract_eq]; rfl)
    | (funext f h; show xCallOp P call _ f h = _; rw [xCallOp_eq]; rfl)

/-! ### regions -/
noncomputable def setO (n : Nat) (d : Option Tmp) (v : AV) (f : Fr) (k : Fr → Out) : Out :=
  Option.rec (k f) (fun t => Bool.rec (.no 40) (k (setF t v f)) (Nat.blt t n)) d
/-- is the operation wanted? -/
noncomputable def wantK {α : Type} (ops : Array Oper) (g : Option (Nat × Bool)) (f : Fr) (yes no : α) (bad : α) : α :=
  Option.rec yes (fun p => match (ops[p.1]?).bind (·.dst) with
    | some d => (match opd f (.tmp d) with
      | .b c => Bool.rec no yes (c == p.2)
      | .tp [] => no
      | _ => bad)
    | none => bad) g
def canPn : Op → Bool
  | .panic _ => true
  | .call { callee := .value _, .. } => true
  | _ => false
def loB (n : Nat) : Option Tmp → Bool
  | none => true
  | some t => Nat.blt t n
noncomputable def evOps (call : CallF) (n : Nat) (ops : Array Oper) (l : List Oper) : Fr → Hp → Out :=
  List.rec Out.nx (fun o _ ih f h => wantK ops o.guard f (Res.rec (fun v h' => setO n o.dst v f fun f' => ih f' h') Out.no (fun v h' => Bool.rec (.no 61) (.pn v f h') (canPn o.op && loB n o.dst)) (evOp P call o.op f h)) (setO n o.dst (.tp []) f fun f' => ih f' h) (.no 41)) l
noncomputable def stO : Option Tmp → AV → Nat → Fr → Hp → (Fr → Hp → Out) → Out := Option.rec (fun _ _ f h k => k f h) (fun t v n f h k => Bool.rec (.no 40) (k (setF t v f) h) (Nat.blt t n))
theorem stO_eq (d : Option Tmp) (v : AV) (n : Nat) (f : Fr) (h : Hp) (k : Fr → Hp → Out) : stO d v n f h k = setO n d v f fun f' => k f' h := by cases d <;> rfl
noncomputable def stR : Res → Oper → Nat → Fr → (Fr → Hp → Out) → Out := Res.rec (fun v h o n f k => stO o.dst v n f h k) (fun m _ _ _ _ => .no m) (fun v h o n f _ => Bool.rec (.no 61) (.pn v f h) (canPn o.op && loB n o.dst))
noncomputable def xOps : List Oper → Program → CallF → Nat → Array Oper → Fr → Hp → Out := List.rec (fun _ _ _ _ f h => .nx f h)
  (fun o _ ih P call n ops f h => Option.rec (motive := fun _ => Out) (stR (evOp P call o.op f h) o n f (ih P call n ops))
    (fun p => wantK ops (some p) f (stR (evOp P call o.op f h) o n f (ih P call n ops)) (stO o.dst (.tp []) n f h (ih P call n ops)) (.no 41)) o.guard)
theorem xOps_eq (call : CallF) (n : Nat) (ops : Array Oper) (l : List Oper) : xOps l P call n ops = evOps P call n ops l := by
  induction l with
  | nil => rfl
  | cons o l ih =>
    funext f h
    have e0 : evOps P call n ops (o :: l) f h = wantK ops o.guard f (Res.rec (fun v h' => setO n o.dst v f fun f' => evOps P call n ops l f' h') Out.no (fun v h' => Bool.rec (.no 61) (.pn v f h') (canPn o.op && loB n o.dst)) (evOp P call o.op f h)) (setO n o.dst (.tp []) f fun f' => evOps P call n ops l f' h) (.no 41) := rfl
    have e1 : xOps (o :: l) P call n ops f h = Option.rec (motive := fun _ => Out) (stR (evOp P call o.op f h) o n f (xOps l P call n ops))
      (fun p => wantK ops (some p) f (stR (evOp P call o.op f h) o n f (xOps l P call n ops)) (stO o.dst (.tp []) n f h (xOps l P call n ops)) (.no 41)) o.guard := rfl
    have e2 : stR (evOp P call o.op f h) o n f (evOps P call n ops l) = Res.rec (fun v h' => setO n o.dst v f fun f' => evOps P call n ops l f' h') Out.no (fun v h' => Bool.rec (.no 61) (.pn v f h') (canPn o.op && loB n o.dst)) (evOp P call o.op f h) := by
      cases evOp P call o.op f h
      · exact stO_eq ..
      · rfl
      · rfl
    rw [e0, e1, ih, e2, stO_eq]
    cases o.guard <;> rfl
/-! open regions -/
noncomputable def snoc {α : Type} (l : List α) (x : α) : List α := List.rec [x] (fun a _ ih => a :: ih) l
def tb (m j : Nat) : Bool := Nat.beq (Nat.land (Nat.shiftRight m j) 1) 1
noncomputable def edgM (acc : List Nat) (l : List Edge) (s : Nat) : Nat :=
  List.rec s (fun e _ ih => Bool.rec ih (fz (Nat.lor (Nat.lor ih (Nat.pow 2 e.on)) ((nth acc e.on).getD 0)) fun x => x) (Region.binds .any e)) l
/-- what comes before each operation, as bits -/
noncomputable def ancM (l : List Oper) : List Nat → List Nat := List.rec (fun acc => acc) (fun o _ ih acc => fz (edgM acc o.after.toList 0) fun m => ih (snoc acc m)) l
noncomputable def opTmps (l : List Operand) : List Nat := List.rec [] (fun o _ ih => Operand.casesOn o (fun t => t :: ih) (fun _ => ih) (fun _ => ih) (fun _ => ih)) l
noncomputable def allB {α : Type} (p : α → Bool) (l : List α) : Bool := List.rec true (fun a _ ih => Bool.rec false ih (p a)) l
inductive Kd | pure | read | quiet | move
def kdOf (P : Program) : Op → Kd
  | .convert s d _ => (match cvKd P s d with | 0 => .pure | 1 => .read | 2 => .quiet | _ => .move)
  | .slice t .. => bif isArr P t then .read else .pure
  | .move _ | .assign _ | .pick .. | .build .. | .nilCheck _ | .binOp .. | .unOp .. | .fieldAddr .. | .field .. | .index .. | .indexAddr .. | .extract .. | .makeFunc .. | .makeInterface .. | .typeAssert .. => .pure
  | .call { callee := .builtin .len, argTypes := ts, .. } => bif mapTs P ts.toList then .read else .pure
  | .call { callee := .builtin .min, .. } => .pure
  | .call { callee := .builtin .max, .. } => .pure
  | .load .. | .lookup .. => .read
  | .makeMap .. => .quiet
  | .alloc _ | .box .. | .buildSlice .. | .makeSlice .. => .quiet
  | _ => .move
def isMove : Kd → Bool | .move => true | _ => false
def isRead : Kd → Bool | .read => true | _ => false
/-- the operations that turn or make memory, as bits -/
noncomputable def movM (l : List Oper) : Nat → Nat := List.rec (fun _ => 0) (fun o _ ih k => Bool.rec (ih (Nat.succ k)) (Nat.lor (Nat.pow 2 k) (ih (Nat.succ k))) (isMove (kdOf P o.op))) l
/-- each of them comes behind all of them before it -/
noncomputable def chainB (mv : Nat) (l : List Nat) : Nat → Bool := List.rec (fun _ => true) (fun a _ ih k =>
  Bool.rec (ih (Nat.succ k)) (Bool.rec false (ih (Nat.succ k)) (Nat.beq (Nat.land (Nat.land mv (Nat.sub (Nat.pow 2 k) 1)) a) (Nat.land mv (Nat.sub (Nat.pow 2 k) 1)))) (tb mv k)) l
noncomputable def dsts (l : List Oper) : Nat → List (Nat × Nat) := List.rec (fun _ => []) (fun o _ ih k => Option.rec (ih (Nat.succ k)) (fun d => (d, k) :: ih (Nat.succ k)) o.dst) l
/-- a slot that is read is written by operations that come before, or by none -/
noncomputable def readOk (ms : List Nat) (ds : List (Nat × Nat)) (m k : Nat) (t : Nat) : Bool := allB (fun p : Nat × Nat => Bool.rec true (Bool.rec (tb ((nth ms p.2).getD 0) k) true (tb m p.2)) (Nat.beq p.1 t)) ds
noncomputable def nodB (n : Nat) (l : List (Nat × Nat)) : Nat → Bool := List.rec (fun _ => true) (fun p _ ih s => Bool.rec false (Bool.rec (ih (Nat.lor s (Nat.pow 2 p.1))) false (tb s p.1)) (Nat.blt p.1 n)) l
noncomputable def gdOk (ops : Array Oper) (a : Nat) (g : Option (Nat × Bool)) : Bool := Option.rec true (fun p => tb a p.1) g
noncomputable def preOk (ops : Array Oper) (all : List Nat) (ds : List (Nat × Nat)) (l : List Oper) : List Nat → Nat → Bool := List.rec (fun _ _ => true) (fun o _ ih ms k => List.rec false (fun a ms' _ =>
    Bool.rec false (ih ms' (Nat.succ k)) (allB (readOk all ds a k) (opTmps o.op.operands.toList) && gdOk ops a o.guard && allB (fun e => Bool.rec true (Nat.blt e.on k) (Region.binds .any e)) o.after.toList)) ms) l
noncomputable def drawB (n : Nat) (ops : Array Oper) (ms : List Nat) : Bool :=
  preOk ops ms (dsts ops.toList 0) ops.toList ms 0 && nodB n (dsts ops.toList 0) 0 && chainB (movM P ops.toList 0) ms 0
/-- how many movers come before the k-th operation; how many do not come behind it -/
noncomputable def loM (mv a : Nat) (l : List Nat) : Nat → Nat := List.rec (fun _ => 0) (fun _ _ ih k => Bool.rec (ih (Nat.succ k)) (Nat.succ (ih (Nat.succ k))) (tb (Nat.land mv a) k)) l
noncomputable def hiM (mv i : Nat) (l : List Nat) : Nat → Nat := List.rec (fun _ => 0) (fun b _ ih k => Bool.rec (ih (Nat.succ k)) (Bool.rec (Nat.succ (ih (Nat.succ k))) (ih (Nat.succ k)) (tb b i)) (tb mv k)) l
/-- the reads that may come at several places of the chain -/
noncomputable def winM (mv : Nat) (ms : List Nat) (l : List Oper) : List Nat → Nat → List (Nat × Oper × Nat × Nat × Nat) := List.rec (fun _ _ => []) (fun o _ ih m k => List.rec [] (fun a m' _ =>
  Bool.rec (ih m' (Nat.succ k)) (Bool.rec ((k, o, a, loM mv a ms 0, hiM mv k ms 0) :: ih m' (Nat.succ k)) (ih m' (Nat.succ k)) (Nat.beq (loM mv a ms 0) (hiM mv k ms 0))) (isRead (kdOf P o.op))) m) l
def optEq (a b : Option Nat) : Bool := match a, b with
  | none, none => true
  | some x, some y => Nat.beq x y
  | _, _ => false
noncomputable def avEq (a b : AV) : Bool := match a, b with
  | .b x, .b y => x == y
  | .i k x, .i k' y => ikEq k k' && ieq x y
  | .s x, .s y => leqL x y
  | .np, .np => true
  | .p i o, .p j q => Nat.beq i j && Nat.beq o q
  | .ns, .ns => true
  | .sl i o n z c, .sl j q m y d => Nat.beq i j && Nat.beq o q && Nat.beq n m && Nat.beq z y && optEq c d
  | .nf, .nf => true
  | .nif, .nif => true
  | _, _ => false
noncomputable def avsEq (a : List AV) : List AV → Bool := List.rec (fun b => List.rec true (fun _ _ _ => false) b) (fun x _ ih b => List.rec false (fun y t _ => Bool.rec false (ih t) (avEq x y)) b) a
noncomputable def avEq1 (a b : AV) : Bool := match a, b with
  | .ag l, .ag m => avsEq l m
  | x, y => avEq x y
/-- what the region holds ready: operation, block's name, block -/
abbrev QT := List (Nat × Nat × Option Blk)
/-- blocks made by operations that come before (a) and are not in memory yet (fl) -/
noncomputable def flush (qt : QT) (a fl : Nat) (t : T5 (Option Blk)) : T5 (Option Blk) :=
  List.rec t (fun p _ ih => Bool.rec ih (Bool.rec (set5 p.2.1 p.2.2 ih) ih (tb fl p.1)) (tb a p.1)) qt
noncomputable def winK (call : CallF) (n : Nat) (qt : QT) (a : Nat) (f : Fr) (o : Oper) (v : AV) (l : List (Hp × Nat)) (k : Out) : Out :=
  List.rec k (fun h _ ih => Res.rec (fun v' _ => Bool.rec (.no 61) ih (avEq1 v v')) Out.no (fun _ _ => .no 60) (evOp P call o.op f ⟨flush qt a h.2 h.1.t, n⟩)) l
noncomputable def findR (rs : List (Nat × Fr × AV)) (k : Nat) : Option (Fr × AV) := List.rec none (fun p _ ih => Bool.rec ih (some p.2) (Nat.beq p.1 k)) rs
/-- the reads that may come at several places read the same there -/
noncomputable def winsK (call : CallF) (n : Nat) (qt : QT) (rs : List (Nat × Fr × AV)) (hs : List (Hp × Nat)) (k : Out) (l : List (Nat × Oper × Nat × Nat × Nat)) : Out :=
  List.rec k (fun p _ ih => Option.rec ih (fun r => winK P call n qt p.2.2.1 r.1 p.2.1 r.2 (tk (dr hs p.2.2.2.1) (Nat.succ (Nat.sub p.2.2.2.2 p.2.2.2.1))) ih) (findR rs p.1)) l
structure DS where
  f : Fr
  h : Hp
  fl : Nat
  qt : QT
  hs : List (Hp × Nat)
  rs : List (Nat × Fr × AV)
noncomputable def evOneS (call : CallF) (i a : Nat) (o : Oper) (s : DS) (k : AV → DS → Out) : Out :=
  Kd.rec (Res.rec (fun v _ => k v s) Out.no (fun _ _ => .no 60) (evOp P call o.op s.f s.h))
    (Res.rec (fun v _ => k v ⟨s.f, s.h, s.fl, s.qt, s.hs, (i, s.f, v) :: s.rs⟩) Out.no (fun _ _ => .no 60) (evOp P call o.op s.f ⟨flush s.qt a s.fl s.h.t, s.h.n⟩))
    (Res.rec (fun v h' => k v ⟨s.f, ⟨s.h.t, h'.n⟩, s.fl, (i, s.h.n, get5 s.h.n h'.t) :: s.qt, s.hs, s.rs⟩) Out.no (fun _ _ => .no 60) (evOp P call o.op s.f s.h))
    (Res.rec (fun v h' => fz (Nat.lor s.fl a) fun fl => k v ⟨s.f, h', fl, s.qt, snoc s.hs (h', fl), s.rs⟩) Out.no (fun _ _ => .no 60) (evOp P call o.op s.f ⟨flush s.qt a s.fl s.h.t, s.h.n⟩)) (kdOf P o.op)
noncomputable def xOneF : Kd → Program → CallF → Nat → Nat → Oper → DS → (AV → DS → Out) → Out := Kd.rec
  (fun P call _ _ o s k => Res.rec (fun v _ => k v s) Out.no (fun _ _ => .no 60) (evOp P call o.op s.f s.h))
  (fun P call i a o s k => Res.rec (fun v _ => k v ⟨s.f, s.h, s.fl, s.qt, s.hs, (i, s.f, v) :: s.rs⟩) Out.no (fun _ _ => .no 60) (evOp P call o.op s.f ⟨flush s.qt a s.fl s.h.t, s.h.n⟩))
  (fun P call i _ o s k => Res.rec (fun v h' => k v ⟨s.f, ⟨s.h.t, h'.n⟩, s.fl, (i, s.h.n, get5 s.h.n h'.t) :: s.qt, s.hs, s.rs⟩) Out.no (fun _ _ => .no 60) (evOp P call o.op s.f s.h))
  (fun P call _ a o s k => Res.rec (fun v h' => fz (Nat.lor s.fl a) fun fl => k v ⟨s.f, h', fl, s.qt, snoc s.hs (h', fl), s.rs⟩) Out.no (fun _ _ => .no 60) (evOp P call o.op s.f ⟨flush s.qt a s.fl s.h.t, s.h.n⟩))
noncomputable def evOne (call : CallF) (i a : Nat) (o : Oper) (s : DS) (k : AV → DS → Out) : Out := xOneF (kdOf P o.op) P call i a o s k
theorem evOne_eq (call : CallF) (i a : Nat) (o : Oper) (s : DS) (k : AV → DS → Out) : evOne P call i a o s k = evOneS P call i a o s k := by
  unfold evOne evOneS; cases kdOf P o.op <;> rfl
noncomputable def evPre (call : CallF) (n : Nat) (ops : Array Oper) (l : List Oper) : Nat → List Nat → DS → (DS → Out) → Out :=
  List.rec (fun _ _ s k => k s) (fun o _ ih i ms s k => List.rec (.no 42) (fun a ms' _ =>
    wantK ops o.guard s.f
      (evOne P call i a o s fun v s' => setO n o.dst v s'.f fun f' => ih (Nat.succ i) ms' ⟨f', s'.h, s'.fl, s'.qt, s'.hs, s'.rs⟩ k)
      (setO n o.dst (.tp []) s.f fun f' => ih (Nat.succ i) ms' ⟨f', s.h, s.fl, s.qt, Bool.rec s.hs (snoc s.hs (s.h, s.fl)) (isMove (kdOf P o.op)), s.rs⟩ k) (.no 42)) ms) l
noncomputable def evDraw (call : CallF) (n : Nat) (ops : Array Oper) (f : Fr) (h : Hp) : Out :=
  Bool.rec (.no 43) (evPre P call n ops ops.toList 0 (ancM ops.toList []) ⟨f, h, 0, [], [(h, 0)], []⟩ fun s =>
    winsK P call s.h.n s.qt s.rs s.hs (.nx s.f ⟨flush s.qt (Nat.sub (Nat.pow 2 ops.size) 1) s.fl s.h.t, s.h.n⟩) (winM P (movM P ops.toList 0) (ancM ops.toList []) ops.toList (ancM ops.toList []) 0)) (drawB P n ops (ancM ops.toList []))
noncomputable def evRegion (call : CallF) (n : Nat) (ops : Array Oper) (draw : Bool) : Fr → Hp → Out :=
  Bool.rec (xOps ops.toList P call n ops) (evDraw P call n ops) draw
theorem evRegion_false (call : CallF) (n : Nat) (ops : Array Oper) : evRegion P call n ops false = evOps P call n ops ops.toList := xOps_eq ..

/-! ### code -/
noncomputable def sq (o : Out) (k : Fr → Hp → Out) : Out := Out.rec k Out.ex Out.rt Out.no Out.pn o
noncomputable def blkO (id : Nat) (o : Out) : Out := Out.rec Out.nx (fun i f h => Bool.rec (.ex i f h) (.nx f h) (Nat.beq i id)) Out.rt Out.no Out.pn o
noncomputable def iter (n : Nat) (b : Fr → Hp → Out) : Fr → Hp → Out := Nat.rec (fun _ _ => .no 44) (fun _ ih f h => sq (b f h) ih) n
noncomputable def evCond (c : Operand) (a b : Fr → Hp → Out) (f : Fr) (h : Hp) : Out := match opd f c with
  | .b t => Bool.rec (b f h) (a f h) t
  | _ => .no 45
noncomputable def evCode (call : CallF) (n : Nat) (c : Code) : Fr → Hp → Out :=
  Code.rec (motive := fun _ => Fr → Hp → Out) Out.nx (fun _ ops draw => evRegion P call n ops draw) (fun _ _ a b f h => sq (a f h) b) (fun c _ _ a b => evCond c a b)
    (fun id _ b f h => blkO id (b f h)) (fun _ b => iter 1000000 b) (fun _ _ _ _ _ _ _ _ => .no 84) (fun id f h => .ex id f h) (fun _ b => b) (fun _ => Out.nx) (fun _ _ _ => .no 49) Out.rt (fun _ _ _ => .no 50) c

/-! ### ranges over functions -/
def lpB (busy : Bool) (n : Nat) (ps : List Tmp) (a b : Code) (f : TF AV) : Blk := ⟨0, true, false, [], .lp busy n ps a b f⟩
/-- parameters laid into slots -/
noncomputable def setPs (n : Nat) (ps : List Tmp) : List AV → Fr → (Fr → Res) → Res :=
  List.rec (fun l f k => List.rec (k f) (fun _ _ _ => .no 81) l) (fun t _ ih l f k => List.rec (.no 81) (fun a r _ => Bool.rec (.no 81) (ih r (setF t a f) k) (Nat.blt t n)) l) ps
/-- one round -/
noncomputable def evRound (call : CallF) (id : Nat) (args : List AV) (h : Hp) : Res :=
  getL h id (fun busy n ps a b f => Bool.rec (setPs n ps args f fun f1 =>
    Out.rec (fun f2 h2 => getL h2 id (fun busy2 n2 ps2 a2 b2 g2 => Bool.rec
      (Out.rec (fun _ h3 => getL h3 id (fun busy3 n3 ps3 a3 b3 g3 => Bool.rec (.no 83) (.ok (.b true) (putB h3 id (some (lpB false n3 ps3 a3 b3 g3)))) busy3) (.no 83)) (fun _ _ _ => .no 83) (fun _ _ => .no 83) Res.no (fun _ _ _ => .no 83)
        (evCode P call n b f2 (putB h2 id (some (lpB true n2 ps2 a2 b2 g2))))) (.no 83) busy2) (.no 83)) (fun _ _ _ => .no 83) (fun _ _ => .no 83) Res.no (fun _ _ _ => .no 83) (evCode P call n a f1 h)) (.no 82) (busy || Nat.blt 4096 n)) (.no 82)
def rngOf (c : Code) : Option (Code × Nat × Operand × List Tmp × Code × Code) := match c with
  | .seq u (.block id (.rangeFunc g ps a b)) => some (u, id, g, ps.toList, a, b)
  | _ => none
/-- a body with a range over a function: what comes before, the range, what comes behind -/
noncomputable def splitF (c : Code) : Option (List Code × (Code × Nat × Operand × List Tmp × Code × Code) × Code) :=
  Code.rec (motive := fun _ => Option (List Code × (Code × Nat × Operand × List Tmp × Code × Code) × Code)) none (fun _ _ _ => none)
    (fun x y _ ih => match rngOf x with
      | some d => some ([], d, y)
      | none => Option.rec none (fun p => some (x :: p.1, p.2)) ih)
    (fun _ _ _ _ _ => none) (fun _ _ _ => none) (fun _ _ => none) (fun _ _ _ _ _ _ => none) (fun _ => none) (fun _ _ => none) (fun _ => none) (fun _ => none) none (fun _ => none) c
noncomputable def evPreC (call : CallF) (n : Nat) (l : List Code) : Fr → Hp → (Fr → Hp → Res) → Res :=
  List.rec (fun f h k => k f h) (fun c _ ih f h k => Out.rec (fun f h => ih f h k) (fun _ _ _ => .no 87) (fun _ _ => .no 87) Res.no (fun _ _ _ => .no 87) (evCode P call n c f h)) l

/-! ### calls -/
noncomputable def frame0 (l : List AV) : Nat → Fr := List.rec (fun _ => fillF .u) (fun a _ ih i => setF i a (ih (Nat.succ i))) l
noncomputable def resA (f : Fr) (h : Hp) (r : ResultVar) (k : AV → Res) : Res := match r with
  | .tmp t => k (opd f (.tmp t))
  | .cell p t => Res.rec (fun v _ => k v) Res.no (fun _ _ => .no 60) (evLoad P t (.tmp p) f h)
noncomputable def resL (f : Fr) (h : Hp) (l : List ResultVar) : (List AV → Res) → Res := List.rec (fun k => k []) (fun r _ ih k => resA P f h r fun v => ih fun vs => k (v :: vs)) l
noncomputable def finR (f : Fr) (h : Hp) (l : List ResultVar) : Res := resL P f h l fun vs => List.rec (.ok (.tp []) h) (fun v r _ => List.rec (.ok v h) (fun _ _ _ => .ok (.tp vs) h) r) vs
noncomputable def evRest (call : CallF) (n : Nat) (c : Code) (rs : List ResultVar) (f : Fr) (h : Hp) : Res :=
  Out.rec (fun f h => finR P f h rs) (fun _ _ _ => .no 53) (fun f h => finR P f h rs) Res.no (fun v _ h => .pn v h) (evCode P call n c f h)
/-- a function that defers one call, in a region of its own, and what stands behind it -/
def splitD (c : Code) : Option (Code × Tmp × FuncId × List Operand × Code) := match c with
  | .seq a (.seq (.region _ ops false) b) => (match ops.toList with
    | [⟨some t, .makeFunc (.func k) first caps, _, _, _, none⟩, ⟨none, .defer ⟨.value (.tmp u), args, _⟩, _, _, _, none⟩] => (match first.toList, args.toList with
      | [], [] => bif Nat.beq t u then some (a, t, k, caps.toList, b) else none
      | _, _ => none)
    | _ => none)
  | _ => none
/-- a function that begins with recover -/
def splitR (c : Code) : Option (Tmp × Tmp × Code) := match c with
  | .seq (.region _ ops false) b => (match ops.toList with
    | [⟨some t, .call ⟨.builtin .recover, args, _⟩, _, _, _, none⟩, ⟨some u, .assign (.tmp v), _, _, _, none⟩] => (match args.toList with
      | [] => bif Nat.beq t v then some (t, u, b) else none
      | _ => none)
    | _ => none)
  | _ => none
def nilB {α : Type} : List α → Bool
  | [] => true
  | _ => false
/-- the deferred call: behind a panic (p), or none -/
noncomputable def evDef (call : CallF) (k : FuncId) (args : List AV) (p : AV) (h : Hp) (q : Hp → Res) : Res := match P.funcs[k]? with
  | none => .no 55
  | some fn => (match fn.body with
    | none => .no 55
    | some c => (match splitR c with
      | none => .no 55
      | some s => Bool.rec (.no 55) (Out.rec (fun _ h => q h) (fun _ _ _ => .no 55) (fun _ h => q h) Res.no (fun _ _ _ => .no 55) (evCode P call fn.ntmps s.2.2 (setF s.2.1 p (setF s.1 p (frame0 args 0))) h))
        (Nat.ble fn.ntmps 4096 && Nat.ble (len args) fn.ntmps && Nat.blt s.1 fn.ntmps && Nat.blt s.2.1 fn.ntmps && nilB fn.results.toList && !(fn.name == "runtime.NumGoroutine"))))
noncomputable def evDefer (call : CallF) (n : Nat) (t : Tmp) (k : FuncId) (caps : List Operand) (b : Code) (rs : List ResultVar) (f : Fr) (h : Hp) : Res :=
  Bool.rec (.no 56) (Out.rec (fun f1 h => evDef P call k (opds f caps) .nif h fun h => finR P f1 h rs) (fun _ _ _ => .no 53) (fun f1 h => evDef P call k (opds f caps) .nif h fun h => finR P f1 h rs) Res.no
    (fun v f1 h => evDef P call k (opds f caps) v h fun h => finR P f1 h rs) (evCode P call n b (setF t (.fn k (opds f caps)) f) h)) (Nat.blt t n)
noncomputable def evFor (call : CallF) (n : Nat) (g : Operand) (ps : List Tmp) (a b rest : Code) (rs : List ResultVar) (f : Fr) (h : Hp) : Res := match opd f g with
  | .fn k cap => newB h (lpB false n ps a b f) fun id h2 => Res.rec (fun _ h3 => getL h3 id (fun busy _ _ _ _ _ => Bool.rec (evRest P call n rest rs f (putB h3 id none)) (.no 86) busy) (.no 86)) Res.no (fun _ _ => .no 86) (call.run k (.yv id :: cap) h2)
  | _ => .no 85
noncomputable def evBody (call : CallF) (n : Nat) (c : Code) (rs : List ResultVar) (f : Fr) (h : Hp) : Res := match splitD c with
  | none => (match splitF c with
    | none => evRest P call n c rs f h
    | some s => evPreC P call n s.1 f h fun f h => evPreC P call n [s.2.1.1] f h fun f h => evFor P call n s.2.1.2.2.1 s.2.1.2.2.2.1 s.2.1.2.2.2.2.1 s.2.1.2.2.2.2.2 s.2.2 rs f h)
  | some s => Out.rec (evDefer P call n s.2.1 s.2.2.1 s.2.2.2.1 s.2.2.2.2 rs) (fun _ _ _ => .no 53) (fun _ _ => .no 53) Res.no (fun _ _ _ => .no 53) (evCode P call n s.1 f h)
noncomputable def evFun (call : CallF) (k : FuncId) (args : List AV) (h : Hp) : Res := match P.funcs[k]? with
  | none => .no 51
  | some fn => match fn.body with
    | none => .no 1000
    | some c => Bool.rec (.no 52) (evBody P call fn.ntmps c fn.results.toList (frame0 args 0) h)
        (Nat.ble fn.ntmps 4096 && Nat.ble (len args) fn.ntmps && !(fn.name == "runtime.NumGoroutine"))
abbrev Prim := FuncId → Option (List AV → Hp → Res)
noncomputable def evCallF (pr : Prim) (ex : FuncId → Nat) (n : Nat) : CallF := Nat.rec ⟨fun _ _ _ => .no 54, ex, fun _ _ _ => .no 54⟩
  (fun _ ih => ⟨fun k args h => Option.rec (evFun P ih k args h) (fun p => p args h) (pr k), ex, evRound P ih⟩) n
noncomputable def evCall (pr : Prim) (ex : FuncId → Nat) (n : Nat) : FuncId → List AV → Hp → Res := (evCallF P pr ex n).run
end
def emp : Hp := ⟨fill5 none, 0⟩
end Go.Ev
