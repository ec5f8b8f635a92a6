/- Part 1. -/
import Derived.Test.YtjiojpmoleilgaaGreatDoorRows
import Derived.ProofKit
import Derived.Lay
import Derived.Carry
import Derived.LaidMore
import Derived.OpenShut
import Derived.MakeChecks
import Derived.SevenTiedAt
import Derived.Lib.LaidU8
import Derived.Lib.SmallJoins
import Derived.KernelRfl
import Derived.Test.YtjiojpmoleilgaaGreatDoorProg
import Derived.JoinedOf
import Derived.WalkKit
import Derived.OrdersIn
import Derived.Scope
import Derived.Orders
import Derived.Lib.Hide
import Derived.Laws.AppendOwnNone
import Derived.Lib.SliceRun
import Derived.Laws.Externs
import Derived.Lib.Bytealg
import Derived.ChangeSlices
import Derived.Deep.Slices
import Derived.Laws.RangeString
import Derived.Laws.RangeAny
import Derived.Lib.ConvBytes
import Derived.Laws.IdiomStrings
import Derived.Lib.LaidTab
import Derived.Laws.BytesString
import Derived.Shelf.Strings.OnBuilder
import Derived.Shelf.LaysM
import Derived.Shelf.Strconv.Itoa3
import Derived.Shelf.SlicesE.Reverse
import Derived.Lib.OwnBridge
import Derived.Lib.Builder
import Derived.Lib.UnsafeStr
import Derived.Lib.MakeNoZero
import Derived.Shelf.Slices.In.SortAlone
import Derived.Shelf.Slices.CompactS
import Derived.Shelf.Slices.In.SortNone
import Derived.Sort.EveryDepth
import Derived.Sort.OwnSorted
import Derived.Sort.Walk0
import Derived.Lib.Join
import Derived.Lib.ItoaLen
import Derived.Recover
import Derived.RangeFuncLeaves
import Derived.ChangeMaps5
import Derived.Test.YtjiojpmoleilgaaGreatDoorCards
import Derived.Test.YtjiojpmoleilgaaGreatDoorTie
set_option linter.unusedVariables false
set_option linter.unusedSimpArgs false
set_option maxRecDepth 100000
set_option maxHeartbeats 4000000
noncomputable section
namespace Go
universe u
section
variable{p:Prop}
abbrev Δ{α:Sort u}[Inhabited α]:α:=default
theorem YR{k:IntKind}{a b:Int}(h:a=b):Value.int k a=Value.int k b:=congrArg _ h
theorem YS{a b:Bool}(h:a=b):Value.bool a=Value.bool b:=congrArg _ h
theorem YV(h:p:=by exact fun _ _ _ _ _ h _=>h):p:=h
theorem π(h:p:=by first|exact(qL (by first|exact .inl ⟨by assumption,by assumption⟩|exact .inr ⟨by assumption,by assumption⟩) (by first|exact .inl (by assumption)|exact .inr (by assumption)))|(exfalso;omega)):p:=h
theorem θ(h:p:=by first|exact y0 (su (by first|exact .inl ⟨by assumption,by assumption⟩|exact .inr (.inl ⟨by assumption,by assumption⟩)|exact .inr (.inr ⟨by assumption,by assumption⟩)))|(exfalso;omega)):p:=h
theorem η(h:p:=by simp only[Tc,Td,Te];omega):p:=h
theorem ζ(h:p:=by (try simp only[Tc,Td,Te]);omega):p:=h
theorem ξ(h:p:=by unfold maxLen;simp):p:=h
theorem χ(h:p:=by simp):p:=h
theorem ψ(h:p:=by simp only[Tc,Td,Te,maxLen];omega):p:=h
theorem ε(h:p:=by simpa using hh):p:=h
theorem ι(h:p:=by simp only[Td,Te];omega):p:=h
theorem ν(h:p:=by rw[Tz _ o];omega):p:=h
theorem ς(h:p:=by simpa using hi):p:=h
theorem υ(h:p:=by first|exact Vy (Xa.1<|of_decide_eq_true (by assumption))|exact mg hdp (Xa.1<|of_decide_eq_true (by assumption))):p:=h
theorem d'(h:p:=by simpa using h):p:=h
theorem i'(h:p:=by rw[Tc,Tf];omega):p:=h
theorem j'(h:p:=by first|omega|(dsimp only;omega)):p:=h
theorem n'(h:p:=by unfold lB;(repeat' split)<;>omega):p:=h
theorem r'(h:p:=by unfold lA;(repeat' split)<;>omega):p:=h
theorem A'(h:p:=by first|omega|(rw[Xe];omega)):p:=h
theorem B'(h:p:=by simp;omega):p:=h
theorem D'(h:p:=by split<;>omega):p:=h
theorem E'(h:p:=by rw[Tc,hp];rfl):p:=h
theorem F'(h:p:=by rw[Tf];simp only[maxLen];omega):p:=h
theorem G'(h:p:=by rw[Tc,Tl,hp];omega):p:=h
theorem H'(h:p:=by have p:=(sH hnu (hall 0 ω).wd (by assumption) (by assumption));omega):p:=h
theorem J'(h:p:=by first|omega|(have h8:=hgm;rw[Xe] at h8;omega)):p:=h
theorem M'(h:p:=by simp[hs]):p:=h
theorem N'(h:p:=by rw[UI];have:=hsg.len;omega):p:=h
theorem O'(h:p:=by simpa using ho):p:=h
theorem P'(h:p:=by rw[e];rfl):p:=h
theorem R'(h:p:=by simp[hx]):p:=h
theorem U'(h:p:=by first|exact .inl o|exact .inr (qk o)):p:=h
theorem Y'(h:p:=by rw[Tn];omega):p:=h
theorem Z'(h:p:=by rw[Tf];omega):p:=h
theorem Wp(h:p:=by unfold mC;simp only[UL,List.not_mem_nil,or_false,not_or];exact⟨k,l,m,p,z,A,B,D,E,F,G,H⟩):p:=h
theorem Wr(h:p:=by simpa using hj):p:=h
theorem Ws(h:p:=by rw[hd];decide):p:=h
theorem Wt(h:p:=by rw[decide_eq_true (by rw[hab])];rfl):p:=h
theorem Wu(h:p:=by simp only[Te] at hrun hy;simp[execOp,resolve,invoke,builtin,hx,hy,hrun]):p:=h
theorem Wv(h:p:=by rw[d];decide):p:=h
theorem Ww(h:p:=by rw[To];omega):p:=h
theorem Wx(h:p:=by rw[Jt];omega):p:=h
theorem Wy(h:p:=by show(42:UInt8).toNat≠32;decide):p:=h
theorem Wz(h:p:=by rw[ec];exact hc):p:=h
theorem WA(h:p:=by have h7:=lX (l:=a.args) (i:=i) o;have h8:=y6 (Ar a i);rw[Tc];omega):p:=h
theorem WB(h:p:=by simp[val]):p:=h
theorem WC(h:p:=by first|omega|(rw[Jt];simp;omega)):p:=h
theorem WD(h:p:=by rfl):p:=h
theorem WE(h:p:=by obtain⟨c,s⟩:=C.next (Below.refl _ _).drew;exact⟨c,s⟩):p:=h
theorem WF(h:p:=by simp[hu]):p:=h
theorem WG(h:p:=by simp[hq]):p:=h
theorem WH(h:p:=by rw[hf];decide):p:=h
theorem WI(h:p:=by rw[Tc,Tn,hp];omega):p:=h
theorem WJ(h:p:=by rw[hUe,hVe];exact VK (B4 hVl P htop htopb (vP Y hkr) o).1):p:=h
theorem WK(h:p:=by rw[decide_eq_true i];decide):p:=h
theorem WL(h:p:=by rw[IntKind.wrap_u64];omega):p:=h
theorem WM(h:p:=by assumption):p:=h
theorem WN(h:p:=by first|omega|(rw[Jt];omega)):p:=h
theorem WO(h:p:=by rw[hnl,hsz]):p:=h
theorem WP(h:p:=by rw[en];simp):p:=h
theorem WQ(h:p:=by rw[decide_eq_true o];rfl):p:=h
theorem WR(h:p:=by rw[Tc,Tl];omega):p:=h
theorem WS(h:p:=by rw[hr.length];exact hlt):p:=h
theorem WT(h:p:=by simpa using hk):p:=h
theorem WU(h:p:=by simp[Value.ownBlock,e]):p:=h
theorem WV(h:p:=by rw[Tz _ (by split<;>split<;>omega)];exact tN o):p:=h
theorem WW(h:p:=by first|(left;exact Xt.1 o)|(right;exact Xt.1 o)):p:=h
theorem WX(h:p:=by rw[Zn] at hi;exact hi):p:=h
theorem WY(h:p:=by simp[h]):p:=h
theorem WZ(h:p:=by rw[if_pos ω]):p:=h
theorem W0(h:p:=by rw[if_neg ω]):p:=h
theorem W1(h:p:=by rw[hab]):p:=h
theorem W2(h:p:=by simp[pwE,GExpr.args]):p:=h
theorem W3(h:p:=by simp[hq']):p:=h
theorem W4(h:p:=by rw[d];rfl):p:=h
theorem W5(h:p:=by exact Y4 (Yd _) (by rw[Z3];simp[Yh];omega)):p:=h
theorem W6(h:p:=by show 48+n<256;omega):p:=h
theorem W7(h:p:=by rw[tabv<|Tp _ δ,xF (x:=x) o o hx];omega):p:=h
theorem W8(h:p:=by rw[pw];omega):p:=h
theorem W9(h:p:=by rw[UG];omega):p:=h
theorem XA(h:p:=by rw[Td];omega):p:=h
theorem XC(h:p:=by rw[Jq];omega):p:=h
theorem XD(h:p:=by rw[F.len];exact him):p:=h
theorem XE(h:p:=by simp[hy]):p:=h
theorem XF(h:p:=by have h7:=yb (l:=a.args) (i:=i) o;omega):p:=h
theorem XG(h:p:=by have h7:=lX (l:=a.args) (i:=i) o;omega):p:=h
theorem XH(h:p:=by rw[tabv<|Tp _ δ,wM (x:=x) o o];omega):p:=h
theorem XI(h:p:=by rw[tabv<|Tp _ δ,Bn (x:=x) o o];omega):p:=h
theorem XJ(h:p:=by simp[execOp,hrun]):p:=h
theorem XK(h:p:=by rw[tabv<|Tp _ δ,Ag (x:=x) o];omega):p:=h
theorem XL(h:p:=by rw[hbyt];exact growslice_fits o hby):p:=h
theorem XM(h:p:=by simp at hi;omega):p:=h
theorem XN(h:p:=by rw[Z3];have:=Tp (val A) hBp;omega):p:=h
theorem XO(h:p:=by show(44:UInt8).toNat≠32;decide):p:=h
theorem XP(h:p:=by rw[ea];exact hl):p:=h
theorem XQ(h:p:=by rw[Zn];exact hu):p:=h
theorem XR(h:p:=by obtain rfl:j=0:=o;rw[EM hxx,hkn]):p:=h
theorem XS(h:p:=by rw[z];rfl):p:=h
theorem XT(h:p:=by rw[y];rfl):p:=h
theorem XU(h:p:=by rw[x];rfl):p:=h
theorem XV(h:p:=by rw[s];rfl):p:=h
theorem XW(h:p:=by rw[p];rfl):p:=h
theorem XX(h:p:=by rw[m];rfl):p:=h
theorem XY(h:p:=by rw[l];rfl):p:=h
theorem XZ(h:p:=by rw[k];rfl):p:=h
theorem YA(h:p:=by rw[j];rfl):p:=h
theorem YB(h:p:=by rw[i];rfl):p:=h
theorem YC(h:p:=by rw[h];rfl):p:=h
theorem YD(h:p:=by rw[hRv,show e=0 by omega,VU,U5]):p:=h
theorem YE(h:p:=by rw[g];rfl):p:=h
theorem YF(h:p:=by rw[decide_eq_true<|A4.2 a6];rfl):p:=h
theorem YG(h:p:=by rw[E];rfl):p:=h
theorem YH(h:p:=by rw[D];rfl):p:=h
theorem YI(h:p:=by rw[B];rfl):p:=h
theorem YJ(h:p:=by rw[A];rfl):p:=h
theorem YK(h:p:=by have h0:=Xk (s:=s) (p:=p);omega):p:=h
theorem YL(h:p:=by simpa using hx):p:=h
theorem YM(h:p:=by simpa using hu):p:=h
theorem YN(h:p:=by simpa using hn):p:=h
theorem YO(h:p:=by simpa using hl):p:=h
theorem YP(h:p:=by simp[ByteArray.size];exact hlt):p:=h
theorem YQ(h:p:=by rw[ea];exact j):p:=h
end
theorem o{p:Prop}(h:p:=by omega):p:=h
theorem ω{p:Prop}(h:p:=by omega):p:=h
theorem k{p:Prop}(h:p:=by kernel_rfl):p:=h
theorem κ{p:Prop}(h:p:=by kernel_rfl):p:=h
theorem d{p:Prop}(h:p:=by decide):p:=h
theorem δ{p:Prop}(h:p:=by decide):p:=h
theorem r{α:Sort u}{a:α}:a=a:=rfl
theorem ϱ{α:Sort u}{a:α}:a=a:=rfl
end Go
namespace Go
abbrev Tc:=@List.length_append
abbrev Td:=@List.length_cons
abbrev Te:=@List.length_nil
abbrev Tf:=@List.length_singleton
abbrev Tg:=@decide_eq_false
abbrev Th:=@decide_eq_true
abbrev Ti:=@Nat.lt_of_lt_of_le
abbrev Tj:=@Nat.le_trans
abbrev Tk:=@congrArg
abbrev Tl:=@List.length_replicate
abbrev Tm:=@List.append_assoc
abbrev Tn:=@List.length_drop
abbrev To:=@List.length_take
abbrev Tp:=@Nat.mod_lt
abbrev Tq:=@List.getD_eq_getElem?_getD
abbrev Ts:=@Array.getD_eq_getD_getElem?
abbrev Tt:=@List.getElem?_eq_getElem
abbrev Tu:=@Nat.le_refl
abbrev Tv:=@Nat.zero_le
abbrev Tw:=@IntWalk.u64_in
abbrev Tz:=@IntWalk.i64_in
abbrev TA:=@Ne.symm
abbrev TB:=@Array.getElem?_setIfInBounds
abbrev TC:=@Nat.not_lt_zero
abbrev TD:=@List.eq_nil_of_length_eq_zero
abbrev TE:=@List.take_of_length_le
abbrev TF:=@Nat.pow_succ
abbrev TG:=@Nat.le_of_ble_eq_true
abbrev TH:=@Nat.mul_add
abbrev TI:=@List.drop_of_length_le
abbrev TJ:=@List.nil_append
abbrev TK:=@List.getD_cons_zero
abbrev TM:=@Nat.pow_le_pow_right
abbrev TN:=@Nat.lt_or_ge
abbrev TO:=@Nat.mul_assoc
abbrev TP:=@Nat.mul_le_mul_left
abbrev TQ:=@List.getElem?_eq_none
abbrev TR:=@Nat.mul_comm
abbrev TS:=@Nat.lt_of_le_of_lt
abbrev TT:=@List.append_nil
abbrev TU:=@List.map_cons
abbrev TV:=@List.getElem?_map
abbrev TW:=@Array.all_eq_true'
abbrev TX:=@Array.ext'
abbrev TY:=@Array.getElem?_eq_some_iff
abbrev TZ:=@Array.length_toList
abbrev T0:=@Array.size_append
abbrev T1:=@BitVec.toNat_ofInt
abbrev T2:=@Bool.and_eq_true
abbrev T3:=@Bool.not_eq_true'
abbrev T4:=@Bool.or_eq_false_iff
abbrev T5:=@Bool.or_eq_true
abbrev T6:=@Classical.byContradiction
abbrev T7:=@Int.mul_ediv_cancel_left
abbrev T8:=@Int.natAbs_mul
abbrev T9:=@Int.natCast_mul
abbrev Uh:=@Int.sign_eq_neg_one_of_neg
abbrev Ui:=@Int.sign_eq_one_of_pos
abbrev Uj:=@Int.sign_eq_zero_iff_zero
abbrev Um:=@List.all_eq_true
abbrev Un:=@List.cons_append
abbrev Up:=@List.countP_eq_length
abbrev Ur:=@List.countP_eq_zero
abbrev Ut:=@List.countP_singleton
abbrev Uu:=@List.drop_eq_getElem_cons
abbrev Uv:=@List.drop_zero
abbrev Uw:=@List.eq_nil_iff_forall_not_mem
abbrev Ux:=@List.ext_getElem?
abbrev Uy:=@List.flatten_cons
abbrev Uz:=@List.getElem?_append_left
abbrev UA:=@List.getElem?_append_right
abbrev UB:=@List.getElem?_drop
abbrev UC:=@List.getElem?_eq_some_iff
abbrev UD:=@List.getElem?_take
abbrev UE:=@List.getElem?_toArray
abbrev UF:=@List.length_eq_zero_iff
abbrev UG:=@List.length_map
abbrev UH:=@List.length_pos_iff
abbrev UI:=@List.length_set
abbrev UJ:=@List.mapM_toArray
abbrev UK:=@List.map_append
abbrev UL:=@List.mem_cons
abbrev UM:=@List.mem_cons_of_mem
abbrev UN:=@List.mem_filter
abbrev UO:=@List.mem_filterMap
abbrev UP:=@List.mem_iff_getElem
abbrev UQ:=@List.mem_iff_getElem?
abbrev UR:=@List.mem_map
abbrev US:=@List.mem_of_getElem?
abbrev UT:=@List.mem_range
abbrev UU:=@List.replicate_zero
abbrev UV:=@List.set_append
abbrev UW:=@List.set_cons_zero
abbrev UX:=@List.set_eq_take_append_cons_drop
abbrev UY:=@List.size_toArray
abbrev UZ:=@List.take_add_one
abbrev U0:=@List.take_append_drop
abbrev U1:=@List.take_length
abbrev U2:=@Nat.add_mul
abbrev U3:=@Nat.add_sub_cancel
abbrev U4:=@Nat.add_sub_cancel_left
abbrev U5:=@Nat.add_zero
abbrev U6:=@Nat.and_lt_two_pow
abbrev U7:=@Nat.div_add_mod
abbrev U8:=@Nat.div_div_eq_div_mul
abbrev U9:=@Nat.div_eq_of_lt
abbrev VA:=@Nat.div_le_self
abbrev VB:=@Nat.div_lt_of_lt_mul
abbrev VC:=@Nat.eq_of_beq_eq_true
abbrev VD:=@Nat.eq_or_lt_of_le
abbrev VE:=@Nat.eq_zero_or_pos
abbrev VF:=@Nat.le_add_left
abbrev VG:=@Nat.le_div_iff_mul_le
abbrev VH:=@Nat.le_mul_of_pos_right
abbrev VI:=@Nat.le_of_lt
abbrev VJ:=@Nat.le_of_not_lt
abbrev VK:=@Nat.le_succ_of_le
abbrev VL:=@Nat.lt_of_mul_lt_mul_left
abbrev VM:=@Nat.lt_succ_self
abbrev VN:=@Nat.min_eq_left
abbrev VO:=@Nat.mod_eq_of_lt
abbrev VP:=@Nat.mul_le_mul
abbrev VQ:=@Nat.mul_le_mul_right
abbrev VR:=@Nat.mul_left_comm
abbrev VS:=@Nat.mul_one
abbrev VT:=@Nat.mul_pos
abbrev VU:=@Nat.mul_zero
abbrev VV:=@Nat.ne_of_lt
abbrev VW:=@Nat.or_lt_two_pow
abbrev VX:=@Nat.pow_add
abbrev VY:=@Nat.pow_pos
abbrev VZ:=@Nat.sub_le
abbrev Wa:=@Nat.sub_self
abbrev Wb:=@Nat.succ_mul
abbrev Wc:=@Nat.two_pow_add_eq_or_of_lt
abbrev We:=@Nat.two_pow_pos
abbrev Wg:=@Nat.zero_add
abbrev Wh:=@Nat.zero_mul
abbrev Wi:=@Option.bind_some
abbrev Wj:=@Option.getD_some
abbrev Wk:=@Option.isSome_iff_exists
abbrev Wl:=@Option.map_eq_some_iff
abbrev Wm:=@Option.map_some
abbrev Wn:=@Option.some.inj
abbrev Wo:=@Rat.num_divInt_den
end Go
namespace Go.Proofs.YtjiojpmoleilgaaGreatDoor
open Go Go.Proofs Go.RowKit
def qt:List (String×DataW Unit):=Rows.exprOrderRow.laid
theorem NL:ownKnob Tryz.prog.godebug=none:=k
theorem wx:laidOutB Tryz.prog=true:=k
theorem wZip(os:Os)(args:Array Value):((World.laidAll Tryz.prog os qt).forCall (fun _ _=>0) ⟨#[],args,[]⟩).variablesZipB Tryz.prog=true:=k
theorem Pq(os:Os)(args:Array Value):(((World.laidAll Tryz.prog os qt).forCall (fun _ _=>0) ⟨#[],args,[]⟩).heap.toList.drop Tryz.prog.globals.size).take ((begin Tryz.prog (fun _ _=>0) Δ).world.heap.size-Tryz.prog.globals.size)=(begin Tryz.prog (fun _ _=>0) Δ).world.heap.toList.drop Tryz.prog.globals.size:=k
theorem Oe(os:Os):(World.holding Tryz.prog os ⟨#[],#[],[]⟩).layFits Tryz.prog qt []=true:=k
theorem Hi(os:Os):(World.holding Tryz.prog os ⟨#[],#[],[]⟩).layIfaces Tryz.prog qt (World.laidAll Tryz.prog os qt)=true:=k
theorem Ef:(qt.all fun x=>x.2.handleName?.isNone)=true:=k
theorem lt31:31<Tryz.prog.types.size:=of_decide_eq_true k
theorem O0:Tryz.prog.readableRec 9=true:=k
theorem lt9:9<Tryz.prog.types.size:=of_decide_eq_true k
end Go.Proofs.YtjiojpmoleilgaaGreatDoor
namespace Go.Proofs.YtjiojpmoleilgaaGreatDoor
open Go Go.Proofs
theorem Lm:joinedFacts Tryz.prog 8 Tryz.f8 Rows.exprStableSpec Rows.exprStableRow=true:=k
end Go.Proofs.YtjiojpmoleilgaaGreatDoor
namespace Go.Wf
open Go
variable{K:Value→World→Prop}{Kp:List PanicEntry→World→Prop}{L:Array Bool}{a:Act}{after:Array Edge}{dl:List (List Nat)}{dst:Option Tmp}{i id m:Nat}{pos:String}{ty:TypeId}{x y:Code}{σ:Type}{Gl:List (σ→Value→World→Prop)}{R:σ→World→σ→World→Prop}
abbrev Fr:=Nat→Value
def fe(f:Fr):Operand→Value
 |.tmp t=>f t
 |.const v=>v
 |.global g=> .pointer (some ⟨g,0,none⟩)
 |.func k=> .func (.func k) #[] #[]
def upd(f:Fr)(d:Nat)(v:Value):Fr:=fun t=>if t=d then v else f t
def updO(f:Fr)(o:Option Tmp)(v:Value):Fr:=match o with|some d=>upd f d v|none=>f
def frOf(a:Act):Fr:=fun t=>a.tmps.getD t undef
def lo(n:Nat)(o:Option Tmp):Prop:=match o with|some d=>d<n|none=>True
structure Good (n:Nat) (D:List Deferred) (a:Act):Prop where
 size:a.tmps.size=n
 defers:a.defers=D
theorem mU(a:Act):a.eval=fe (frOf a):=by
 funext x;cases x<;>rfl
theorem Yp{n:Nat}{D:List Deferred}(h:Good n D a)(o:Option Tmp)(ho:lo n o)(v:Value):frOf (a.put o v)=updO (frOf a) o v:=by
 cases o with
 |none=>rfl
 |some d=>
  have hd:d<a.tmps.size:=by rw[h.size];exact ho
  funext t
  simp only[frOf,Act.put,updO,upd,Ts,TB];by_cases e:t=d
  ·subst e;simp[hd]
  ·have e':¬d=t:=fun h=>e h.symm;simp[e,e']
theorem Good.put{n:Nat}{D:List Deferred}(h:Good n D a)(o:Option Tmp)(v:Value):Good n D (a.put o v):=by
 cases o with
 |none=>exact h
 |some d=>exact⟨by simp[Act.put,h.size],h.defers⟩
abbrev Post:=Exit→Fr→World→Prop
class Fw (fc:Fence):Prop where
 fn:∀f,fc.fn f
 depth:fc.depth=none
 calls:∀ {n:Nat} {P:Program} {f:FuncId} {args:Array Value} {w:World} {R:Ending→World→Prop},Calls P f args w R→CallsIn fc n P f args w R
 round:∀ {n:Nat} {P:Program} {l:Nat} {f:FuncId} {tmps:Array Value} {a b:Code} {w:World} {R:Ending→World→Prop},RoundIn Fence.wide n P l f tmps a b w R→RoundIn fc n P l f tmps a b w R
instance:Fw Fence.wide:=⟨fun _=>trivial,rfl,fun h=>callsIn_wide.2 h,fun h=>h⟩
instance (l:Nat):Fw (Fence.wide.inRound l):=⟨fun _=>trivial,rfl,fun h=>(callsIn_wide.2 h:CallsIn Fence.wide _ _ _ _ _ _),fun h=>h⟩
def W(fc:Fence)(P:Program)(c:Code)(n:Nat)(D:List Deferred)(Q:Post)(f:Fr)(w:World):Prop:=
 ∀a,Good n D a→frOf a=f→c.wpIn fc 0 P (fun e a' w'=>Good n D a'∧Q e (frOf a') w') a w
theorem W.wide{P:Program}{c:Code}{n:Nat}{D:List Deferred}{Q:Post}{f:Fr}{w:World}(h:W Fence.wide P c n D Q f w)(ha:Good n D a)(hf:frOf a=f):c.wp P (fun e a' w'=>Good n D a'∧Q e (frOf a') w') a w:=wpIn_wide.1 (h a ha hf)
def ni(K:Fr→World→Prop)(Q:Post):Post
 |.normal,f,w=>K f w
 |e,f,w=>Q e f w
def Fd(id:Nat)(Q:Post):Post
 |.exit id',f,w=>if id'=id then Q .normal f w else Q (.exit id') f w
 |e,f,w=>Q e f w
section
variable {fc:Fence} {P:Program} {n:Nat} {D:List Deferred} {Q:Post} {f:Fr} {w:World}
theorem W.mono{c:Code}{Q':Post}(h:W fc P c n D Q f w)(hq:∀e f w,Q e f w→Q' e f w):W fc P c n D Q' f w:=
 fun a ha hf=>wpIn_mono (h a ha hf) fun _ _ _ ⟨g,q⟩=>⟨g,hq _ _ _ q⟩
theorem PT(h:W fc P x n D (ni (W fc P y n D Q) Q) f w):W fc P (Code.seq x y) n D Q f w:=by
 intro a ha hf;refine wpIn_seq (wpIn_mono (h a ha hf) ?_);rintro e a' _ ⟨g,q⟩;cases e with
 |normal=>exact q a' g ϱ
 |exit id=>exact⟨g,q⟩
 |goto l=>exact⟨g,q⟩
 |ret=>exact⟨g,q⟩
 |panic ch=>exact⟨g,q⟩
 |outgrown=>exact⟨g,q⟩
theorem PR(h:Q .normal f w):W fc P Code.skip n D Q f w:=fun _ ha hf=>wpIn_skip ⟨ha,by rw[hf];exact h⟩
theorem PS(h:Q .ret f w):W fc P Code.ret n D Q f w:=fun _ ha hf=>wpIn_ret ⟨ha,by rw[hf];exact h⟩
theorem QB(h:Q (.exit id) f w):W fc P (Code.exit id) n D Q f w:=fun _ ha hf=>wpIn_exit ⟨ha,by rw[hf];exact h⟩
theorem W.block{c:Code}(h:W fc P c n D (Fd id Q) f w):W fc P (Code.block id c) n D Q f w:=by
 intro a ha hf;refine wpIn_block (wpIn_mono (h a ha hf) ?_);rintro e _ _ ⟨g,q⟩;cases e with
 |exit id'=>
  simp only[Fd] at q;simp only[Exit.inBlock];split at q<;>rename_i hid
  ·simp only[hid,if_true];exact⟨g,q⟩
  ·simp only[hid,if_false];exact⟨g,q⟩
 |normal=>exact⟨g,q⟩
 |goto l=>exact⟨g,q⟩
 |ret=>exact⟨g,q⟩
 |panic ch=>exact⟨g,q⟩
 |outgrown=>exact⟨g,q⟩
theorem R7{c:Operand}{t:Bool}(hc:fe f c= .bool t)(ht:t=true→W fc P x n D Q f w)(hf:t=false→W fc P y n D Q f w):
  W fc P (Code.cond c x y) n D Q f w:=by
 intro a ha he;refine wpIn_cond_split (t:=t) (by rw[mU,he];exact hc) (fun e=>ht e a ha he) (fun e=>hf e a ha he)
theorem PM{c:Operand}(hc:fe f c= .bool true)(h:W fc P x n D Q f w):W fc P (Code.cond c x y) n D Q f w:=
 R7 hc (fun _=>h) (fun e=>by cases e)
theorem PL{c:Operand}(hc:fe f c= .bool false)(h:W fc P y n D Q f w):W fc P (Code.cond c x y) n D Q f w:=
 R7 hc (fun e=>by cases e) (fun _=>h)
theorem W.loop {c:Code} (I:Fr→World→Prop) (μ:Fr→World→Nat) (b:I f w)
  (round:∀f w,I f w→W fc P c n D (ni (fun f' w'=>I f' w'∧μ f' w'<μ f w) Q) f w):W fc P (Code.loop c) n D Q f w:=by
 intro a ha hf;subst hf;refine wpIn_loop (fun a w=>Good n D a∧I (frOf a) w) (fun a w=>μ (frOf a) w) ⟨ha,b⟩ ?_;rintro a w ⟨g,hI⟩;refine wpIn_mono (round _ _ hI a g ϱ) ?_;rintro e _ w' ⟨g',q⟩;cases e with
 |normal=>exact⟨⟨g',q.1⟩,q.2⟩
 |exit id=>exact⟨g',q⟩
 |goto l=>exact⟨g',q⟩
 |ret=>exact⟨g',q⟩
 |panic ch=>exact⟨g',q⟩
 |outgrown=>exact⟨g',q⟩
theorem P7 {c:Code} (I:Nat→Fr→World→Prop) (a:Nat) (b:I a f w)
  (round:∀k f w,I k f w→W fc P c n D (ni (fun f' w'=>∃j,j<k∧I j f' w') Q) f w):W fc P (Code.loop c) n D Q f w:=by
 classical
 have ex:∀f w,(∃k,I k f w)→∃k,I k f w∧∀j,I j f w→k≤j:=by
  rintro f w ⟨k,hk⟩
  induction k using Nat.strongRecOn with
  |_ k ih=>
   by_cases h:∃j,j<k∧I j f w
   ·obtain⟨j,hj,hI⟩:=h;exact ih j hj hI
   ·refine⟨k,hk,fun j hj=>?_⟩
    rcases TN j k with hl|hl
    ·exact absurd ⟨j,hl,hj⟩ h
    ·exact hl
 refine W.loop (fun f w=>∃k,I k f w) (fun f w=>if h:∃k,I k f w then Classical.choose (ex f w h) else 0) ⟨a,b⟩ ?_;intro f w hI;have hs:=Classical.choose_spec (ex f w hI);refine W.mono (round _ f w hs.1) ?_;intro e f' w' q;cases e with
 |normal=>
  obtain⟨j,hj,hI'⟩:=q;have h':∃k,I k f' w':=⟨j,hI'⟩;refine⟨h',?_⟩;rw[dif_pos h',dif_pos hI];exact TS ((Classical.choose_spec (ex f' w' h')).2 j hI') hj
 |exit id=>exact q
 |goto l=>exact q
 |ret=>exact q
 |panic ch=>exact q
 |outgrown=>exact q
theorem Rm{c:Code}(M:Fr→World→Prop)(h:W fc P c n D (ni M Q) f w)(k:∀f w,M f w→Q .normal f w):W fc P c n D Q f w:=by
 refine W.mono h ?_;intro e f w q;cases e with
 |normal=>exact k f w q
 |exit id=>exact q
 |goto l=>exact q
 |ret=>exact q
 |panic ch=>exact q
 |outgrown=>exact q
end
def St(P:Program)(ρ:Operand→Value)(o:Oper)(w:World)(K:Value→World→Prop)(Kp:List PanicEntry→World→Prop):Prop:=
 match (execOp ρ o).run P w with
 |.ok (.value v) w'=>K v w'
 |.ok .skip w'=>K undef w'
 |.ok (.enter g args) w'=>Calls P g args w' fun
  |.returned v,w''=>K v w''
  |.panicked ch,w''=>Kp ch w''
  |.outgrown,_=>False
 |.ok (.round l g tmps assign body) w'=>RoundIn Fence.wide 0 P l g tmps assign body w' fun
  |.returned v,w''=>K v w''
  |.panicked ch,w''=>Kp ch w''
  |.outgrown,_=>False
 |.halt (.panic v) w'=>Kp [{v,recovered:=false}] w'
 |_=>False
theorem St.mono {P:Program} {ρ:Operand→Value} {o:Oper} {w:World} {K':Value→World→Prop} {Kp':List PanicEntry→World→Prop} (h:St P ρ o w K Kp)
  (hk:∀v w,K v w→K' v w) (hp:∀c w,Kp c w→Kp' c w):St P ρ o w K' Kp':=by
 unfold St at h ⊢;split at h
 ·exact hk _ _ h
 ·exact hk _ _ h
 ·refine Calls.mono h ?_;intro e w' h;cases e with
  |returned v=>exact hk _ _ h
  |panicked ch=>exact hp _ _ h
  |outgrown=>exact h
 ·refine RoundIn.mono h ?_;intro e w' h;cases e with
  |returned v=>exact hk _ _ h
  |panicked ch=>exact hp _ _ h
  |outgrown=>exact h
 ·exact hp _ _ h
 ·exact h.elim
def Zk(ops:Array Oper)(f:Fr)(j:Nat):Option Bool:=
 match (((ops[j]?).bind (·.dst)).map f:Option Value) with
 |some (.bool b)=>some b
 |_=>none
theorem nQ(ops:Array Oper)(a:Act)(j:Nat):yielded ops a.tmps j=Zk ops (frOf a) j:=by
 unfold yielded Zk;cases h:(ops[j]?).bind (·.dst) with
 |none=>rfl
 |some d=>
  simp only[Wi,Wm,frOf,Ts];cases b:a.tmps[d]? with
  |none=>rfl
  |some v=>rfl
def Sq(P:Program)(ops:Array Oper)(n:Nat)(Q:Post):List Oper→Fr→World→Prop
 |[],f,w=>Q .normal f w
 |o::r,f,w=>
  lo n o.dst∧(if Region.wanted o (Zk ops f) then St P (fe f) o w (fun v w'=>Sq P ops n Q r (updO f o.dst v) w') (fun ch w'=>Q (.panic ch) f w')
  else Sq P ops n Q r (updO f o.dst undef) w)
theorem St.nodefer{P:Program}{ρ:Operand→Value}{o:Oper}{w:World}(h:St P ρ o w K Kp)(ro:Option Nat):Oper.semAt ro ρ o=execOp ρ o:=by
 refine Oper.semAt_eq ro ρ o fun c hc=>?_
 unfold St at h;have e:execOp ρ o=(do pure (.defer (←resolve ρ c o.type))):=by unfold execOp;rw[hc]
 rw[e] at h;simp only[Sem.run_bind] at h;cases hr:(resolve ρ c o.type).run P w with
 |ok d w'=>rw[hr] at h;exact h.elim
 |halt x w'=>
  rw[hr] at h;cases x with
  |panic v=>
   obtain⟨ce,_,_⟩:=c;cases ce with
   |builtin b=>simp[resolve] at hr
   |invoke r m=>simp[resolve] at hr
   |value x=>
    simp only[resolve] at hr;unfold Deferred.ofValue at hr;split at hr<;>simp[stuck] at hr
  |_=>exact h.elim
theorem n3 {fc:Fence} [Fw fc] {P:Program} {n:Nat} {D:List Deferred} {o:Oper}  {w:World}  
  {next:Act→World→Prop} {Q:Exit→Act→World→Prop} (_ha:Good n D a)
  (h:St P (fe (frOf a)) o w K Kp) (hk:∀v w',K v w'→next (a.put o.dst v) w') (hp:∀c w',Kp c w'→Q (.panic c) a w'):o.wpIn fc 0 P a w next Q:=by
 unfold Oper.wpIn;refine⟨fun f _=>Fw.fn f,?_⟩;rw[mU,h.nodefer];have hd:fc.depth.isSome=true→1≤0:=by rw[Fw.depth (fc:=fc)];intro h;cases h
 unfold St at h;split at h
 ·rename_i v w' hr;rw[hr];exact hk _ _ h
 ·rename_i w' hr;rw[hr];exact hk _ _ h
 ·rename_i g args w' hr;rw[hr];refine⟨hd,CallsIn.mono (Fw.calls h) ?_⟩;intro e w'' h;cases e with
  |returned v=>exact hk _ _ h
  |panicked ch=>exact hp _ _ h
  |outgrown=>exact h.elim
 ·rename_i l g tmps b bo w' hr;rw[hr];refine⟨hd,RoundIn.mono (Fw.round h) ?_⟩;intro e w'' h;cases e with
  |returned v=>exact hk _ _ h
  |panicked ch=>exact hp _ _ h
  |outgrown=>exact h.elim
 ·rename_i v w' hr;rw[hr];exact hp _ _ h
 ·exact h.elim
theorem sW{fc:Fence}[Fw fc]{P:Program}{n:Nat}{D:List Deferred}{ops:Array Oper}{Q:Post}:
  ∀(l:List Nat) (a:Act) (w:World),Good n D a→Sq P ops n Q (l.filterMap fun i=>ops[i]?) (frOf a) w→
   wpOpsIn fc 0 P ops (fun e a' w'=>Good n D a'∧Q e (frOf a') w') l a w:=by
 intro l
 induction l with
 |nil=>intro a w ha h;exact⟨ha,h⟩
 |cons i rest ih=>
  intro a w ha h;simp only[wpOpsIn];cases ho:ops[i]? with
  |none=>
   simp only[List.filterMap_cons,ho] at h;exact ih a w ha h
  |some o=>
   simp only[List.filterMap_cons,ho,Sq] at h;obtain⟨hlo,h⟩:=h;have hy:yielded ops a.tmps=Zk ops (frOf a):=funext (nQ ops a);simp only[hy];split at h<;>rename_i hw
   ·rw[if_pos hw];refine n3 ha h ?_ ?_
    ·intro _ w' hk;exact ih _ _ (ha.put _ _) (by rw[Yp ha _ hlo];exact hk)
    ·intro _ w' hk;exact⟨ha,hk⟩
   ·rw[if_neg hw];exact⟨fun f _=>Fw.fn f,ih _ _ (ha.put _ _) (by rw[Yp ha _ hlo];exact h)⟩
theorem PN{fc:Fence}[Fw fc]{P:Program}{n:Nat}{D:List Deferred}{Q:Post}{f:Fr}{w:World}{ops:Array Oper}(h:Sq P ops n Q ops.toList f w):
  W fc P (Code.region id ops false) n D Q f w:=by
 intro a ha hf;subst hf;refine wpIn_region (sW _ a w ha ?_)
 have:((List.range ops.size).filterMap fun i=>ops[i]?)=ops.toList:=by
  apply Ux;intro i
  have:∀(l:List Oper),((List.range l.length).filterMap fun i=>l[i]?)=l:=by
   intro l
   induction l with
   |nil=>rfl
   |cons x l ih=>
    rw[Td,List.range_succ_eq_map,List.filterMap_cons];simp only[List.getElem?_cons_zero,List.filterMap_map]
    congr 1
  have b:=this ops.toList;rw[TZ] at b;have d:(fun x:Nat=>ops[x]?)=(fun x=>ops.toList[x]?):=by funext x;simp
  rw[d,b]
 rw[this];exact h
section
variable {P:Program} {ops:Array Oper} {n:Nat} {Q:Post} {r:List Oper} {f:Fr} {w:World}
theorem Sq.op  {op:Op}    (hlo:lo n dst)
  (h:St P (fe f) ⟨dst,op,ty,pos,after,none⟩ w (fun v w'=>Sq P ops n Q r (updO f dst v) w') (fun ch w'=>Q (.panic ch) f w')):
  Sq P ops n Q (⟨dst,op,ty,pos,after,none⟩::r) f w:=⟨hlo,by simp only[Region.wanted,if_true];exact h⟩
theorem S1  {op:Op}    {j:Nat} {b:Bool} (hy:Zk ops f j=some b) (hlo:lo n dst)
  (h:St P (fe f) ⟨dst,op,ty,pos,after,some (j,b)⟩ w (fun v w'=>Sq P ops n Q r (updO f dst v) w') (fun ch w'=>Q (.panic ch) f w')):
  Sq P ops n Q (⟨dst,op,ty,pos,after,some (j,b)⟩::r) f w:=⟨hlo,by simp only[Region.wanted,hy,beq_self_eq_true,if_true];exact h⟩
theorem Sq.opn  {op:Op}    {j:Nat} {b c:Bool} (hy:Zk ops f j=some c) (hc:(some c==some b)=false) (hlo:lo n dst)
  (h:Sq P ops n Q r (updO f dst undef) w):
  Sq P ops n Q (⟨dst,op,ty,pos,after,some (j,b)⟩::r) f w:=⟨hlo,by simp only[Region.wanted,hy,hc];exact h⟩
end
def retQ(P:Program)(fn:Func)(R:Ending→World→Prop):Post
 |.normal,f,w | .ret,f,w=>∃v,(∀tmps:Array Value,(∀t,tmps.getD t undef=f t)→(results fn tmps).run P w= .ok v w)∧R (.returned v) w
 |.panic chain,_,w=>R (.panicked chain) w
 |_,_,_=>False
def nv(args:List Value):Fr:=fun t=>args.getD t undef
theorem SZ {P:Program} {k:FuncId} {fn:Func} {c:Code} {args:List Value} {w:World} {R:Ending→World→Prop} {n:Nat}
  (hf:P.funcs[k]? =some fn) (hb:fn.body=some c) (hn:fn.ntmps=n) (ha:args.length≤n)
  (h:W Fence.wide P c n [] (retQ P fn R) (nv args) w):Calls P k args.toArray w R:=by
 refine calls_of_wp hf hb (wp_mono (W.wide h ⟨?_,rfl⟩ ?_) ?_)
 ·simp[hn];omega
 ·funext t
  simp only[frOf,nv,Ts,Tq,Array.getElem?_append];by_cases ht:t<args.length
  ·simp[ht]
  ·simp only[UY,ht,if_false];rw[TQ o];simp only[Array.getElem?_replicate];split<;>rfl
 ·rintro e _ w ⟨g,q⟩;cases e with
  |normal=>obtain⟨v,a,b⟩:=q;exact⟨g.defers,v,a _ (fun _=>rfl),b⟩
  |ret=>obtain⟨v,a,b⟩:=q;exact⟨g.defers,v,a _ (fun _=>rfl),b⟩
  |panic ch=>exact⟨g.defers,q⟩
  |exit id=>exact q.elim
  |goto l=>exact q.elim
  |outgrown=>exact q.elim
def Ye(ops:Array Oper)(j:Nat):Nat:=((ops[j]?).bind (·.dst)).getD 0
def rx(ops:Array Oper)(j k:Nat):Bool:=((ops[k]?).map fun o=>o.after.any fun e=>Region.binds .any e&&e.on==j).getD false
def ancB(ops:Array Oper):Nat→Nat→Nat→Bool
 |0,_,_=>false
 |n+1,j,k=>rx ops j k||((ops[k]?).map fun o=>o.after.any fun e=>Region.binds .any e&&ancB ops n j e.on).getD false
def Keep(ds:List Nat)(f0 f:Fr):Prop:=∀t,ds.contains t=false→f t=f0 t
def noG{σ:Type}:σ→Value→World→Prop:=fun _ _ _=>True
def Deps{σ:Type}(ops:Array Oper)(Gl:List (σ→Value→World→Prop))(f:Fr)(s:σ)(w:World):List Nat→Prop
 |[]=>True
 |j::r=>(Gl.getD j noG) s (f (Ye ops j)) w∧Deps ops Gl f s w r
def OpSt(P:Program)(ops:Array Oper)(f:Fr)(o:Oper)(w:World)(K:Value→World→Prop)(Kp:List PanicEntry→World→Prop):Prop:=
 if Region.wanted o (Zk ops f) then St P (fe f) o w K Kp else K undef w
def m8{σ:Type}(P:Program)(ops:Array Oper)(Q:Post)(R:σ→World→σ→World→Prop)(Gl:List (σ→Value→World→Prop))(f0:Fr)(s0:σ)(w0:World)(ds:List Nat):List Oper→List (List Nat)→Nat→Prop
 |o::l,d::dl,k=>
  (∀f s w,R s0 w0 s w→Keep ds f0 f→Deps ops Gl f s w d→OpSt P ops f o w (fun v w'=>∃s',R s w s' w'∧(Gl.getD k noG) s' v w') (fun ch w'=>∀f,Q (.panic ch) f w'))∧
   m8 P ops Q R Gl f0 s0 w0 ds l dl (k+1)
 |_,_,_=>True
def Qh{σ:Type}(R:σ→World→σ→World→Prop):List (σ→Value→World→Prop)→Prop
 |[]=>True
 |g::r=>(∀v s w s' w',g s v w→R s w s' w'→g s' v w')∧Qh R r
def J2(ops:Array Oper)(m:Nat):List Nat:=(ops.toList.take m).filterMap (·.dst)
def ya(ops:Array Oper)(m n:Nat)(dl:List (List Nat)):Bool:=
 let N:=ops.size
 m≤N&&dl.length==m &&
 (ops.toList.all fun o=>match o.dst with|some d=>d<n|none=>true) &&
 ((List.range N).all fun k=>((ops[k]?).map fun o=>o.after.all fun e=> !Region.binds .any e||e.on<k).getD false) &&
 ((List.range m).all fun k=>(dl.getD k []).all fun j=>ancB ops N j k&&j<m) &&
 ((List.range N).all fun k=>k<m||(List.range k).all fun j=>ancB ops N j k) &&
 ((List.range m).all fun k=>((ops[k]?).bind (·.dst)).isSome&&(List.range m).all fun j=>j==k||Ye ops j != Ye ops k)
section
variable {fc:Fence} [Fw fc] {P:Program} {ops:Array Oper} {n:Nat} {D:List Deferred} {Q:Post} {f0:Fr} {w0:World}
def Xl(ops:Array Oper)(L:Array Bool):Prop:=∀k,k<ops.size→L.getD k true=true→∀o,ops[k]? =some o→∀e∈o.after,Region.binds .any e=true→L.getD e.on false=true
theorem Ym(hs:L.size=ops.size)(hc:Xl ops L):∀fuel j k,k<ops.size→
  (∀o,ops[k]? =some o→∀e∈o.after,Region.binds .any e=true→L.getD e.on false=true)→ancB ops fuel j k=true→L.getD j false=true:=by
 intro fuel
 induction fuel with
 |zero=>intro j k _ _ h;simp[ancB] at h
 |succ fuel ih=>
  intro j k hk hd h;obtain⟨o,ho⟩:∃o,ops[k]? =some o:=⟨ops[k],by simp[hk]⟩;simp only[ancB,rx,ho,Wm,Wj,T5,Array.any_eq_true',T2,beq_iff_eq] at h;rcases h with ⟨e,he,hb,rfl⟩|⟨e,he,hb,hanc⟩
  ·exact hd o ho e he hb
  ·have hl:=hd o ho e he hb;have hlt:e.on<ops.size:=by
    rcases TN e.on L.size with h|h
    ·omega
    ·simp[Ts,Array.getElem?_eq_none h] at hl
   refine ih j e.on hlt ?_ hanc;intro o' ho' e' he' hb';refine hc e.on hlt ?_ o' ho' e' he' hb';simp only[Ts] at hl ⊢
   have:L[e.on]? =some L[e.on]:=by simp[hs,hlt]
   rw[this] at hl ⊢;exact hl
def unl(N:Nat)(L:Array Bool):Nat:=(List.range N).countP fun i=> !L.getD i true
theorem wa(l:List Nat)(hn:l.Nodup)(p q:Nat→Bool)(i:Nat)(hi:i∈l)(hp:p i=true)(hq:q i=false)(h:∀j,j≠i→q j=p j):l.countP p=l.countP q+1:=by
 induction l with
 |nil=>cases hi
 |cons x l ih=>
  obtain⟨hx,hn'⟩:=List.nodup_cons.1 hn;by_cases e:x=i
  ·subst e
   have:l.countP p=l.countP q:=by
    apply List.countP_congr;intro y hy
    have:y≠x:=fun e=>hx (e▸hy)
    rw[h y this]
   rw[List.countP_cons_of_pos hp,List.countP_cons_of_neg WG,this]
  ·have hi':i∈l:=by cases hi with|head=>exact absurd rfl e|tail _ h=>exact h
   have:=ih hn' hi'
   rw[List.countP_cons,List.countP_cons,h x e,this];omega
theorem V8{N:Nat}(hs:L.size=N)(hi:i<N)(hf:L.getD i true=false):unl N L=unl N (L.setIfInBounds i true)+1:=by
 refine wa _ List.nodup_range _ _ i ς (by simp[hf]) ?_ ?_
 ·simp[Ts,hs,hi]
 ·intro j hj
  have:¬i=j:=fun e=>hj e.symm
  simp[Ts,TB,this]
theorem qf{N:Nat}(h:unl N L=0):∀i,i<N→L.getD i true=true:=by
 intro i hi
 have:=Ur.1 h i ς
 simpa using this
theorem J4:i∈Region.ready .any ops L↔i<ops.size∧L.getD i true=false∧∃o,ops[i]? =some o∧∀e∈o.after,Region.binds .any e=true→L.getD e.on false=true:=by
 unfold Region.ready;simp only[UN,UT,T2,T3];constructor
 ·rintro⟨a,d,b⟩
  refine⟨a,d,ops[i],by simp[a],?_⟩;have ho:ops[i]? =some ops[i]:=by simp[a]
  rw[ho] at b;simp only[Wm,Wj,TW] at b;intro e he hb
  have:=b e he
  simpa[hb] using this
 ·rintro⟨a,d,o,ho,b⟩
  refine⟨a,d,?_⟩;rw[ho];simp only[Wm,Wj,TW];intro e he;cases hb:Region.binds .any e with
  |false=>simp
  |true=>simp[b e he hb]
structure DrawFacts (ops:Array Oper) (m n:Nat) (dl:List (List Nat)):Prop where
 le:m≤ops.size
 len:dl.length=m
 dst:∀(k:Nat) (o:Oper),ops[k]? =some o→lo n o.dst
 back:∀(k:Nat) (o:Oper),ops[k]? =some o→∀e∈o.after,Region.binds .any e=true→e.on<k
 deps:∀k,k<m→∀j∈dl.getD k [],ancB ops ops.size j k=true∧j<m
 tail:∀k,k<ops.size→m≤k→∀j,j<k→ancB ops ops.size j k=true
 some:∀k,k<m→((ops[k]?).bind (·.dst)).isSome=true
 apart:∀k,k<m→∀j,j<m→j≠k→Ye ops j≠Ye ops k
theorem Xw(h:ya ops m n dl=true):DrawFacts ops m n dl:=by
 simp only[ya,T2,decide_eq_true_eq,beq_iff_eq,Um,UT,T5,bne_iff_ne] at h;obtain⟨⟨⟨⟨⟨⟨b,g⟩,i⟩,l⟩,p⟩,s⟩,a⟩:=h;refine⟨b,g,?_,?_,fun k hk j hj=>by have:=p k hk j hj;exact this,?_,fun k hk=>(a k hk).1,?_⟩
 ·intro k o ho;have hm:o∈ops.toList:=by
   have:=TY.1 ho
   obtain⟨hk,rfl⟩:=this;simp
  have:=i o hm
  unfold lo;cases hd:o.dst with
  |none=>trivial
  |some d=>rw[hd] at this;simpa using this
 ·intro k o ho e he hb;have hk:=(TY.1 ho).1
  have:=l k hk
  rw[ho] at this;simp only[Wm,Wj,TW] at this
  have:=this e he
  simpa[hb] using this
 ·intro k hk hm j hj;rcases s k hk with h|h
  ·omega
  ·exact h j hj
 ·intro k hk j hj hne
  rcases(a k hk).2 j hj with h|h
  ·exact absurd h hne
  ·exact h
theorem zj  {o:Oper}  {w:World} {K:Act→World→Prop} {Kv:Value→World→Prop} 
  (ho:ops[i]? =some o) (ha:Good n D a)
  (h:OpSt P ops (frOf a) o w Kv Kp) (hk:∀v w',Kv v w'→K (a.put o.dst v) w') (hp:∀c w',Kp c w'→Q (.panic c) (frOf a) w'):
  wpOpIn fc 0 P ops (fun e a' w'=>Good n D a'∧Q e (frOf a') w') i K a w:=by
 unfold wpOpIn;rw[ho];have hy:yielded ops a.tmps=Zk ops (frOf a):=funext (nQ ops a);simp only[hy];unfold OpSt at h;split at h<;>rename_i hw
 ·rw[if_pos hw];exact n3 ha h hk (fun c w' q=>⟨ha,hp c w' q⟩)
 ·rw[if_neg hw];exact⟨fun f _=>Fw.fn f,hk _ _ h⟩
theorem BO(F:DrawFacts ops m n dl):∀(fuel k:Nat) (L:Array Bool) (a:Act) (w:World),m≤k→k+fuel=ops.size→L.size=ops.size→
  (∀i,i<ops.size→(L.getD i true=true↔i<k))→Good n D a→Sq P ops n Q (ops.toList.drop k) (frOf a) w→
  wpAnyIn fc 0 P .any ops (fun e a' w'=>Good n D a'∧Q e (frOf a') w') fuel L a w:=by
 intro fuel;have bridge:∀(L:Array Bool),L.size=ops.size→∀i,i<ops.size→L.getD i false=L.getD i true:=by
  intro L hs i hi
  have:L[i]? =some L[i]:=by simp[hs,hi]
  simp[Ts,this]
 induction fuel with
 |zero=>
  intro k L a w hm hk hs hL ha h;refine⟨?_,?_⟩
  ·rw[Uw];intro i hi;obtain⟨b,d,_⟩:=J4.1 hi
   have:=(hL i b).2 o
   rw[this] at d;cases d
  ·rw[TI B'] at h;exact⟨ha,h⟩
 |succ fuel ih=>
  intro k L a w hm hk hs hL ha h;have hkN:k<ops.size:=o
  have hok:ops[k]? =some ops[k]:=by simp[hkN]
  have hdr:ops.toList.drop k=ops[k]::ops.toList.drop (k+1):=by
   rw[Uu (by simpa using hkN)];simp
  rw[hdr] at h;have hrk:k∈Region.ready .any ops L:=by
   refine J4.2 ⟨hkN,?_,ops[k],hok,?_⟩
   ·cases hb:L.getD k true with
    |false=>rfl
    |true=>have:=(hL k hkN).1 hb;omega
   ·intro e he hb;have hlt:=F.back k _ hok e he hb;rw[bridge L hs _ o]
    exact(hL _ o).2 hlt
  refine⟨(fun hnil=>by rw[hnil] at hrk;cases hrk),?_⟩;intro i hi;obtain⟨b,d,_,ho,g⟩:=J4.1 hi;have hik:i=k:=by
   have hge:k≤i:=by
    rcases TN i k with hl|hl
    ·rw[(hL i b).2 hl] at d;cases d
    ·exact hl
   rcases VD hge with e|hlt
   ·exact e.symm
   ·exfalso;have hc:Xl ops L:=by
     intro k' hk' hl o' ho' e' he' hb';have hlt':=F.back k' _ ho' e' he' hb';rw[bridge L hs _ o]
     have:=(hL k' hk').1 hl
     exact(hL _ o).2 o
    have:=Ym hs hc ops.size k i b (fun o' ho'=>by rw[ho] at ho';cases ho';exact g) (F.tail i b o k hlt)
    rw[bridge L hs k hkN] at this
    have:=(hL k hkN).1 this
    omega
  subst hik;simp only[Sq] at h;obtain⟨hlo,h⟩:=h;refine zj (Kv:=fun v w'=>Sq P ops n Q (ops.toList.drop (i+1)) (updO (frOf a) ops[i].dst v) w') (Kp:=fun ch w'=>Q (.panic ch) (frOf a) w') hok ha h ?_ (fun _ _ q=>q)
  intro v w' hk';refine ih (i+1) _ _ _ o o M' ?_ (ha.put _ _) (by rw[Yp ha _ hlo];exact hk');intro j hj;rw[Ts,TB];by_cases e:i=j
  ·subst e;simp[hs,hkN]
  ·have:=hL j hj
   rw[Ts] at this;simp only[e,if_false];rw[this];omega
theorem Deps.of{f:Fr}{s:σ}{w:World}:∀(d:List Nat),(∀j∈d,(Gl.getD j noG) s (f (Ye ops j)) w)→Deps ops Gl f s w d:=by
 intro d
 induction d with
 |nil=>intro _;trivial
 |cons j r ih=>intro h;exact⟨h j χ,ih fun i hi=>h i (by simp[hi])⟩
theorem Qh.at:∀(Gl:List (σ→Value→World→Prop)),Qh R Gl→∀j v s w s' w',(Gl.getD j noG) s v w→R s w s' w'→(Gl.getD j noG) s' v w':=by
 intro Gl
 induction Gl with
 |nil=>intro _ j v s w s' w' _ _;simp[List.getD,noG]
 |cons g r ih=>
  intro h j v s w s' w' hg hr;cases j with
  |zero=>exact h.1 v s w s' w' hg hr
  |succ j=>exact ih h.2 j v s w s' w' hg hr
theorem m8.at{s0:σ}{ds:List Nat}:∀(l:List Oper) (dl:List (List Nat)) (k:Nat),m8 P ops Q R Gl f0 s0 w0 ds l dl k→
  ∀i o,l[i]? =some o→i<dl.length→∀f s w,R s0 w0 s w→Keep ds f0 f→Deps ops Gl f s w (dl.getD i [])→
   OpSt P ops f o w (fun v w'=>∃s',R s w s' w'∧(Gl.getD (k+i) noG) s' v w') (fun ch w'=>∀f,Q (.panic ch) f w'):=by
 intro l
 induction l with
 |nil=>intro dl k _ i o h;simp at h
 |cons x l ih=>
  intro dl k hst i o ho hi;cases dl with
  |nil=>simp at hi
  |cons d dl=>
   cases i with
   |zero=>simp at ho;subst ho;exact hst.1
   |succ i=>
    have:=ih dl (k+1) hst.2 i o O' ς
    intro f s w a b e
    have:=this f s w a b (by simpa using e)
    rw[show k+(i+1)=k+1+i by omega];exact this
theorem yG  {s0:σ}   (F:DrawFacts ops m n dl)  
  (htr:∀s a t b u c,R s a t b→R t b u c→R s a u c) (hG:Qh R Gl)
  (hst:m8 P ops Q R Gl f0 s0 w0 (J2 ops m) ops.toList dl 0)
  (htail:∀f s w,R s0 w0 s w→Keep (J2 ops m) f0 f→Deps ops Gl f s w (List.range m)→Sq P ops n Q (ops.toList.drop m) f w):
  ∀(fuel:Nat) (L:Array Bool) (a:Act) (s:σ) (w:World),unl ops.size L=fuel→L.size=ops.size→Xl ops L→
   (∀i,i<ops.size→m≤i→L.getD i true=false)→Good n D a→R s0 w0 s w→Keep (J2 ops m) f0 (frOf a)→
   (∀j,j<m→L.getD j true=true→(Gl.getD j noG) s (frOf a (Ye ops j)) w)→
   wpAnyIn fc 0 P .any ops (fun e a' w'=>Good n D a'∧Q e (frOf a') w') fuel L a w:=by
 intro fuel;have bridge:∀(L:Array Bool),L.size=ops.size→∀i,i<ops.size→L.getD i false=L.getD i true:=by
  intro L hs i hi
  have:L[i]? =some L[i]:=by simp[hs,hi]
  simp[Ts,this]
 have done:∀(L:Array Bool) (a:Act) (s:σ) (w:World),unl ops.size L=ops.size-m→L.size=ops.size→(∀i,i<m→L.getD i true=true)→
   (∀i,i<ops.size→m≤i→L.getD i true=false)→Good n D a→R s0 w0 s w→Keep (J2 ops m) f0 (frOf a)→
   (∀j,j<m→L.getD j true=true→(Gl.getD j noG) s (frOf a (Ye ops j)) w)→
   wpAnyIn fc 0 P .any ops (fun e a' w'=>Good n D a'∧Q e (frOf a') w') (ops.size-m) L a w:=by
  intro L a s w _ hs hall hno ha hR hK hg;refine BO F (ops.size-m) m L a w (Tu _) (by have:=F.le;omega) hs ?_ ha (htail _ _ _ hR hK (Deps.of _ fun j hj=>hg j Wr (hall j Wr)));intro i hi;constructor
  ·intro h;rcases TN i m with hl|hl
   ·exact hl
   ·rw[hno i hi hl] at h;cases h
  ·intro h;exact hall i h
 have cnt:∀(L:Array Bool),(∀i,i<m→L.getD i true=true)→(∀i,i<ops.size→m≤i→L.getD i true=false)→unl ops.size L=ops.size-m:=by
  intro L g x;have hle:=F.le
  have:∀N,m≤N→N≤ops.size→unl N L=N-m:=by
   intro N hN
   induction N with
   |zero=>intro _;simp[unl]
   |succ N ih=>
    intro _;simp only[unl,List.range_succ,List.countP_append,Ut];rcases VD hN with e|hlt
    ·have:unl N L=0:=by
      refine Ur.2 ?_;intro i hi;have hi':i<N:=by simpa using hi
      simp[g i ω]
     unfold unl at this;rw[this,g N ω];simp;omega
    ·have:=ih ω ω
     unfold unl at this;rw[this,x N ω ω];simp;omega
  exact this ops.size hle (Tu _)
 induction fuel with
 |zero=>
  intro L a s w hu hs hc hno ha hR hK hg;have hall:=qf hu;have hall':∀i,i<m→L.getD i true=true:=fun i hi=>hall i (by have:=F.le;omega);have hu':=cnt L hall' hno
  have:=done L a s w hu' hs hall' hno ha hR hK hg
  rw[hu'.symm,hu] at this;exact this
 |succ fuel ih=>
  intro L a s w hu hs hc hno ha hR hK hg;by_cases hall:∀i,i<m→L.getD i true=true
  ·have hu':=cnt L hall hno
   have:=done L a s w hu' hs hall hno ha hR hK hg
   rw[hu'.symm,hu] at this;exact this
  ·
   have hex:∃i,i<m∧L.getD i true=false:=by
    refine T6 fun hn=>hall fun i hi=>?_
    cases hb:L.getD i true with
    |true=>rfl
    |false=>exact absurd ⟨i,hi,hb⟩ hn
   have hmin:∃i,i<m∧L.getD i true=false∧∀j,j<i→L.getD j true=true:=by
    obtain⟨i,hi,hb⟩:=hex
    induction i using Nat.strongRecOn with
    |_ i ihh=>
     by_cases h:∃j,j<i∧L.getD j true=false
     ·obtain⟨j,hj,hjb⟩:=h;exact ihh j hj ω hjb
     ·refine⟨i,hi,hb,fun j hj=>?_⟩
      cases hjb:L.getD j true with
      |true=>rfl
      |false=>exact absurd ⟨j,hj,hjb⟩ h
   obtain⟨i0,_,l,hlow⟩:=hmin;have hle:=F.le;have p:i0∈Region.ready .any ops L:=by
    have hok:ops[i0]? =some ops[i0]:=by simp[show i0<ops.size by omega]
    refine J4.2 ⟨by omega,l,ops[i0],hok,?_⟩;intro e he hbe;have hlt:=F.back i0 _ hok e he hbe;rw[bridge L hs _ ω];exact hlow _ hlt
   refine⟨(fun hnil=>by rw[hnil] at p;cases p),?_⟩;intro i hi;obtain⟨g,x,o,ho,y⟩:=J4.1 hi;have him:i<m:=by
    rcases TN i m with hl|hl
    ·exact hl
    ·exfalso
     have:=Ym hs hc ops.size i0 i g (fun o' ho'=>by rw[ho] at ho';cases ho';exact y) (F.tail i g hl i0 ω)
     rw[bridge L hs i0 ω,l] at this;cases this
   have hdep:Deps ops Gl (frOf a) s w (dl.getD i []):=by
    refine Deps.of _ fun j hj=>?_
    obtain⟨hanc,hjm⟩:=F.deps i him j hj
    have:=Ym hs hc ops.size j i g (fun o' ho'=>by rw[ho] at ho';cases ho';exact y) hanc
    rw[bridge L hs j ω] at this;exact hg j hjm this
   have hstep:=m8.at ops.toList dl 0 hst i o O' XD (frOf a) s w hR hK hdep;rw[Wg] at hstep;have hsome:=F.some i him;rw[ho] at hsome;have hdi:Ye ops i=(o.dst).getD 0:=by simp[Ye,ho]
   obtain⟨d,hd⟩:=Wk.1 hsome;simp only[Wi] at hd;have hdd:Ye ops i=d:=by rw[hdi,hd];rfl
   have hlo:=F.dst i o ho;refine zj (Kv:=fun v w'=>∃s',R s w s' w'∧(Gl.getD i noG) s' v w') (Kp:=fun ch w'=>∀f,Q (.panic ch) f w') ho ha hstep ?_ ?_
   ·rintro v w' ⟨s',hRR,hgv⟩;refine ih _ _ s' _ ?_ M' ?_ ?_ (ha.put _ _) (htr _ _ _ _ _ _ hR hRR) ?_ ?_
    ·have:=V8 hs g x;omega
    ·intro k hk hl o' ho' e he hb;rw[Ts,TB];by_cases e1:i=e.on
     ·subst e1;simp[hs,g]
     ·simp only[e1,if_false];rw[←Ts];by_cases e2:i=k
      ·subst e2;rw[ho] at ho';cases ho';exact y e he hb
      ·rw[Ts,TB] at hl;simp only[e2,if_false] at hl;rw[←Ts] at hl;exact hc k hk hl o' ho' e he hb
    ·intro k hk hmk
     have:¬i=k:=ω
     rw[Ts,TB];simp only[this,if_false];rw[←Ts];exact hno k hk hmk
    ·rw[Yp ha _ hlo,hd];intro t ht;have htd:t≠d:=by
      rintro rfl
      have:t∈J2 ops m:=by
       refine UO.2 ⟨o,?_,hd⟩;have h':ops.toList[i]? =some o:=by simpa using ho
       have:(ops.toList.take m)[i]? =some o:=by rw[UD,if_pos him];exact h'
       exact US this
      have:(J2 ops m).contains t=true:=by simpa using this
      rw[this] at ht;cases ht
     simp only[updO,upd,htd,if_false];exact hK t ht
    ·intro j hj hl;rw[Yp ha _ hlo,hd];by_cases e:j=i
     ·subst e;rw[hdd];simp only[updO,upd,if_true];exact hgv
     ·have hne:Ye ops j≠d:=by rw[←hdd];exact F.apart i him j hj e
      simp only[updO,upd,hne,if_false];have e':¬i=j:=fun h=>e h.symm;rw[Ts,TB] at hl;simp only[e',if_false] at hl;rw[←Ts] at hl;exact Qh.at Gl hG j _ s w s' w' (hg j hj hl) hRR
   ·intro c w' hq;exact hq _
theorem SP   (hm:P.follows .mixedOrders=true) (m:Nat) (dl:List (List Nat)) (s0:σ) (R:σ→World→σ→World→Prop) (Gl:List (σ→Value→World→Prop))
  (chk:ya ops m n dl=true) (d:R s0 w0 s0 w0.drew) (htr:∀s a t b u c,R s a t b→R t b u c→R s a u c) (hG:Qh R Gl)
  (hst:m8 P ops Q R Gl f0 s0 w0 (J2 ops m) ops.toList dl 0)
  (htail:∀f s w,R s0 w0 s w→Keep (J2 ops m) f0 f→Deps ops Gl f s w (List.range m)→Sq P ops n Q (ops.toList.drop m) f w):
  W fc P (Code.region id ops true) n D Q f0 w0:=by
 intro a ha hf;have F:=Xw chk;refine wpIn_region_any hm ?_;have hz:∀i,i<ops.size→(Array.replicate ops.size false).getD i true=false:=by
  intro i hi;simp[Ts,hi]
 refine yG F htr hG hst htail ops.size _ a s0 _ ?_ χ ?_ (fun i hi _=>hz i hi) ha d (fun t _=>by rw[hf]) ?_
 ·unfold unl
  have:(List.range ops.size).countP (fun i=> !(Array.replicate ops.size false).getD i true)=(List.range ops.size).length:=by
   refine Up.2 ?_;intro i hi;simp[hz i ς]
  rw[this];simp
 ·intro k hk hl;rw[hz k hk] at hl;cases hl
 ·intro j _ hl;rw[hz j (by have:=F.le;omega)] at hl;cases hl
end
end Go.Wf
namespace Go.Wf
open Go Go.RowKit
variable{C vs:List Value}{T e t:TypeId}{g i j:Nat}{inf:TypeInfo}{s:ByteArray}{v:Value}{w':World}
section
variable {P:Program} {ρ:Operand→Value} {dst:Option Tmp} {ty:TypeId} {pos:String} {after:Array Edge} {gd:Option (Nat×Bool)}
 {w:World} {K:Value→World→Prop} {Kp:List PanicEntry→World→Prop}
theorem P9{o:Oper}(hr:(execOp ρ o).run P w= .ok (.value v) w')(h:K v w'):St P ρ o w K Kp:=by
 unfold St;rw[hr];exact h
theorem Sr{o:Oper}(hr:(execOp ρ o).run P w= .ok .skip w')(h:K undef w'):St P ρ o w K Kp:=by
 unfold St;rw[hr];exact h
theorem PP{x:Operand}(h:K (ρ x) w):St P ρ ⟨dst,.move x,ty,pos,after,gd⟩ w K Kp:=P9 (v:=ρ x) r h
theorem RD{x:Operand}(h:K (ρ x) w):St P ρ ⟨dst,.assign x,ty,pos,after,gd⟩ w K Kp:=P9 (v:=ρ x) r h
theorem QD{c a b:Operand}{t:Bool}(hc:ρ c= .bool t)(h:K (if t then ρ a else ρ b) w):St P ρ ⟨dst,.pick c a b,ty,pos,after,gd⟩ w K Kp:=by
 refine P9 (v:=if t then ρ a else ρ b) ?_ h;simp[execOp,asBool,hc]
theorem Zd{op:BinOp}{x y:Operand}{xt yt:TypeId}(hg:eqGuard op xt x y (ρ x) (ρ y)=pure ())(hr:(binOp op xt (ρ x) (ρ y)).run P w= .ok v w)(h:K v w):
  St P ρ ⟨dst,.binOp op xt x y yt,ty,pos,after,gd⟩ w K Kp:=by
 refine P9 (v:=v) ?_ h;simp[execOp,hg,hr]
theorem Bf(a b:List UInt8):(a==b)=decide (a=b):=by rw[Bool.eq_iff_iff];simp
section
variable {x y:Operand} {xt yt:TypeId} {k:IntKind} {a b z:Int}
theorem St.add(hx:ρ x= .int k a)(hy:ρ y= .int k b)(hz:k.wrap (a+b)=z)(h:K (.int k z) w):St P ρ ⟨dst,.binOp .add xt x y yt,ty,pos,after,gd⟩ w K Kp:=by
 subst hz;refine Zd WD ?_ h;rw[hx,hy,binOp_add];rfl
theorem St.sub(hx:ρ x= .int k a)(hy:ρ y= .int k b)(hz:k.wrap (a-b)=z)(h:K (.int k z) w):St P ρ ⟨dst,.binOp .sub xt x y yt,ty,pos,after,gd⟩ w K Kp:=by
 subst hz;refine Zd WD ?_ h;rw[hx,hy,binOp_sub];rfl
theorem Rq(hx:ρ x= .int k a)(hy:ρ y= .int k b)(hz:k.wrap (a*b)=z)(h:K (.int k z) w):St P ρ ⟨dst,.binOp .mul xt x y yt,ty,pos,after,gd⟩ w K Kp:=by
 subst hz;refine Zd WD ?_ h;rw[hx,hy,binOp_mul];rfl
theorem Ry(hx:ρ x= .int k a)(hy:ρ y= .int k b)(hb:b≠0)(hz:k.wrap (a.tdiv b)=z)(h:K (.int k z) w):St P ρ ⟨dst,.binOp .quo xt x y yt,ty,pos,after,gd⟩ w K Kp:=by
 subst hz;refine Zd WD ?_ h;rw[hx,hy,binOp_quo];simp[Op.intDiv,hb]
theorem RI(hx:ρ x= .int k a)(hy:ρ y= .int k b)(hb:b≠0)(hz:a.tmod b=z)(h:K (.int k z) w):St P ρ ⟨dst,.binOp .rem xt x y yt,ty,pos,after,gd⟩ w K Kp:=by
 subst hz;refine Zd WD ?_ h;rw[hx,hy,binOp_rem];simp[Op.intDiv,hb]
theorem RY{yk:IntKind}(hx:ρ x= .int k a)(hy:ρ y= .int yk b)(hb:0≤b)(hz:k.wrap (a*2^min b.toNat k.bits)=z)(h:K (.int k z) w):St P ρ ⟨dst,.binOp .shl xt x y yt,ty,pos,after,gd⟩ w K Kp:=by
 subst hz;refine Zd WD ?_ h;rw[hx,hy,binOp_shl,shift_shl_any _ _ _ _ hb];rfl
theorem Rl{yk:IntKind}(hx:ρ x= .int k a)(hy:ρ y= .int yk b)(hb:0≤b)(hz:a/2^min b.toNat k.bits=z)(h:K (.int k z) w):St P ρ ⟨dst,.binOp .shr xt x y yt,ty,pos,after,gd⟩ w K Kp:=by
 subst hz;refine Zd WD ?_ h;rw[hx,hy,binOp_shr,shift_shr_any _ _ _ _ hb];rfl
theorem Sf(hx:ρ x= .int k a)(hy:ρ y= .int k b)(hz:k.wrap (BitVec.ofInt k.bits a &&& BitVec.ofInt k.bits b).toNat=z)(h:K (.int k z) w):St P ρ ⟨dst,.binOp .and xt x y yt,ty,pos,after,gd⟩ w K Kp:=by
 subst hz;refine Zd WD ?_ h;rw[hx,hy,binOp_and];rfl
theorem Sa(hx:ρ x= .int k a)(hy:ρ y= .int k b)(hz:k.wrap (BitVec.ofInt k.bits a ||| BitVec.ofInt k.bits b).toNat=z)(h:K (.int k z) w):St P ρ ⟨dst,.binOp .or xt x y yt,ty,pos,after,gd⟩ w K Kp:=by
 subst hz;refine Zd WD ?_ h;rw[hx,hy,binOp_or];rfl
theorem QZ{t:Bool}(hx:ρ x= .int k a)(hy:ρ y= .int k b)(hz:decide (a=b)=t)(h:K (.bool t) w):St P ρ ⟨dst,.binOp .eql xt x y yt,ty,pos,after,gd⟩ w K Kp:=by
 refine Zd (v:= .bool t) ?_ ?_ h
 ·rw[hx];rfl
 ·rw[hx,hy,binOp_eql,←hz];rfl
theorem Rj{t:Bool}(hx:ρ x= .int k a)(hy:ρ y= .int k b)(hz:(!decide (a=b))=t)(h:K (.bool t) w):St P ρ ⟨dst,.binOp .neq xt x y yt,ty,pos,after,gd⟩ w K Kp:=by
 refine Zd (v:= .bool t) ?_ ?_ h
 ·rw[hx];rfl
 ·rw[hx,hy,binOp_neq,←hz];rfl
theorem Rn{t:Bool}(hx:ρ x= .int k a)(hy:ρ y= .int k b)(hz:decide (a<b)=t)(h:K (.bool t) w):St P ρ ⟨dst,.binOp .lss xt x y yt,ty,pos,after,gd⟩ w K Kp:=by
 subst hz;refine Zd WD ?_ h;rw[hx,hy,binOp_lss];rfl
theorem Rx{t:Bool}(hx:ρ x= .int k a)(hy:ρ y= .int k b)(hz:decide (a≤b)=t)(h:K (.bool t) w):St P ρ ⟨dst,.binOp .leq xt x y yt,ty,pos,after,gd⟩ w K Kp:=by
 subst hz;refine Zd WD ?_ h;rw[hx,hy,binOp_leq];rfl
theorem Rw{t:Bool}(hx:ρ x= .int k a)(hy:ρ y= .int k b)(hz:decide (b<a)=t)(h:K (.bool t) w):St P ρ ⟨dst,.binOp .gtr xt x y yt,ty,pos,after,gd⟩ w K Kp:=by
 subst hz;refine Zd WD ?_ h;rw[hx,hy,binOp_gtr];rfl
theorem R1{t:Bool}(hx:ρ x= .int k a)(hy:ρ y= .int k b)(hz:decide (b≤a)=t)(h:K (.bool t) w):St P ρ ⟨dst,.binOp .geq xt x y yt,ty,pos,after,gd⟩ w K Kp:=by
 subst hz;refine Zd WD ?_ h;rw[hx,hy,binOp_geq];rfl
theorem St.neg(hx:ρ x= .int k a)(hz:k.wrap (0-a)=z)(h:K (.int k z) w):St P ρ ⟨dst,.unOp .neg xt x,ty,pos,after,gd⟩ w K Kp:=by
 subst hz;refine P9 (v:= .int k (k.wrap (0-a))) ?_ h;simp[execOp,hx,Op.unary,Op.intArith]
theorem QI{t:Bool}(hx:ρ x= .bool t)(h:K (.bool (!t)) w):St P ρ ⟨dst,.unOp .not xt x,ty,pos,after,gd⟩ w K Kp:=by
 refine P9 (v:= .bool (!t)) ?_ h;simp[execOp,hx,Op.unary]
theorem S5{s t u:Bool}(hT:P.underlying xt=some .bool)(hx:ρ x= .bool s)(hy:ρ y= .bool t)(hz:(s==t)=u)(h:K (.bool u) w):St P ρ ⟨dst,.binOp .eql xt x y yt,ty,pos,after,gd⟩ w K Kp:=by
 refine Zd (v:= .bool u) ?_ ?_ h
 ·rw[hx];rfl
 ·rw[hx,hy,run_eql_bool w xt s t hT,hz]
theorem RP{s t u:Bool}(hT:P.underlying xt=some .bool)(hx:ρ x= .bool s)(hy:ρ y= .bool t)(hz:(s != t)=u)(h:K (.bool u) w):St P ρ ⟨dst,.binOp .neq xt x y yt,ty,pos,after,gd⟩ w K Kp:=by
 refine Zd (v:= .bool u) ?_ ?_ h
 ·rw[hx];rfl
 ·rw[hx,hy,run_neq_bool w xt s t hT,←hz];rfl
theorem Sw{t:ByteArray}{u:Bool}(hx:ρ x= .string s)(hy:ρ y= .string t)(hz:decide (s.data.toList=t.data.toList)=u)(h:K (.bool u) w):St P ρ ⟨dst,.binOp .eql xt x y yt,ty,pos,after,gd⟩ w K Kp:=by
 refine Zd (v:= .bool u) ?_ ?_ h
 ·rw[hx];rfl
 ·rw[hx,hy,binOp_string_eql,←hz,ByteArray.toList_eq,ByteArray.toList_eq,Bf];rfl
theorem SG{t:ByteArray}{u:Bool}(hx:ρ x= .string s)(hy:ρ y= .string t)(hz:(!decide (s.data.toList=t.data.toList))=u)(h:K (.bool u) w):St P ρ ⟨dst,.binOp .neq xt x y yt,ty,pos,after,gd⟩ w K Kp:=by
 refine Zd (v:= .bool u) ?_ ?_ h
 ·rw[hx];rfl
 ·rw[hx,hy,binOp_string_neq,←hz,ByteArray.toList_eq,ByteArray.toList_eq,Bf];rfl
theorem S6{t:ByteArray}(hx:ρ x= .string s)(hy:ρ y= .string t)(hl:s.size+t.size≤9223372036854775807)(h:K (.string (s++t)) w):St P ρ ⟨dst,.binOp .add xt x y yt,ty,pos,after,gd⟩ w K Kp:=by
 refine Zd (v:= .string (s++t)) ?_ ?_ h
 ·rw[hx];rfl
 ·rw[hx,hy,binOp_string_add]
  have:¬(((s.size+t.size:Nat):Int)>IntKind.i64.max):=by rw[IntKind.max_i64];omega
  simp only[Op.stringOp,this,if_false];rfl
end
theorem P6{src d:TypeId}{x:Operand}{k j:IntKind}{a z:Int}(hs:(P.underlying src).isSome=true)(hd:P.underlying d=some (.int j))(hx:ρ x= .int k a)(hz:j.wrap a=z)(h:K (.int j z) w):
  St P ρ ⟨dst,.convert src d x,ty,pos,after,gd⟩ w K Kp:=by
 subst hz;refine P9 (v:= .int j (j.wrap a)) ?_ h;obtain⟨_,hd'⟩:=Wk.mp hs;simp[execOp,hx,convert,run_underlying hd',run_underlying hd,Conv.intToInt]
theorem St.len{x:Operand}{a:Option Addr}{n c:Nat}(ht:P.underlying t=some (.slice e))(hx:ρ x= .slice a n c)(h:K (.int .i64 n) w):
  St P ρ ⟨dst,.call {callee:= .builtin .len,args:= #[x],argTypes:= #[t]},ty,pos,after,gd⟩ w K Kp:=by
 refine P9 (v:= .int .i64 n) ?_ h;simp[execOp,resolve,invoke,builtin,Builtin.len_,run_underlying ht,hx,goInt]
theorem S7{x:Operand}(ht:P.underlying t=some .string)(hx:ρ x= .string s)(h:K (.int .i64 s.size) w):
  St P ρ ⟨dst,.call {callee:= .builtin .len,args:= #[x],argTypes:= #[t]},ty,pos,after,gd⟩ w K Kp:=by
 refine P9 (v:= .int .i64 s.size) ?_ h;simp[execOp,resolve,invoke,builtin,Builtin.len_,run_underlying ht,hx,goInt]
theorem St.max{x y:Operand}{ts:Array TypeId}{k k':IntKind}{a b z:Int}(hx:ρ x= .int k a)(hy:ρ y= .int k' b)(hz:(if b>a then b else a)=z)(h:K (.int k z) w):
  St P ρ ⟨dst,.call {callee:= .builtin .max,args:= #[x,y],argTypes:=ts},ty,pos,after,gd⟩ w K Kp:=by
 subst hz;refine P9 (v:= .int k (if b>a then b else a)) ?_ h;simp[execOp,resolve,invoke,builtin,hx,hy,run_max_int2]
theorem RF{x y:Operand}{ts:Array TypeId}{k k':IntKind}{a b z:Int}(hx:ρ x= .int k a)(hy:ρ y= .int k' b)(hz:(if b<a then b else a)=z)(h:K (.int k z) w):
  St P ρ ⟨dst,.call {callee:= .builtin .min,args:= #[x,y],argTypes:=ts},ty,pos,after,gd⟩ w K Kp:=by
 subst hz;refine P9 (v:= .int k (if b<a then b else a)) ?_ h;simp[execOp,resolve,invoke,builtin,hx,hy,run_min_int2]
theorem St.extract{x:Operand}{vs:Array Value}(hx:ρ x= .tuple vs)(hv:vs[i]? =some v)(h:K v w):St P ρ ⟨dst,.extract x i,ty,pos,after,gd⟩ w K Kp:=by
 refine P9 (v:=v) ?_ h;simp[execOp,hx,Instr.extract,hv]
theorem RG {k:FuncId} {args:Array Operand} {ts:Array TypeId}  {fn:Func} (hf:P.funcs[k]? =some fn) (hn:(fn.name == "runtime.NumGoroutine")=false) (hb:fn.body.isNone=false)
  (ha:args.toList.map ρ=vs) (h:Calls P k vs.toArray w fun
   |.returned v,w'=>K v w'
   |.panicked ch,w'=>Kp ch w'
   |.outgrown,_=>False) (he:ρ (.func k)= .func (.func k) #[] #[]):
  St P ρ ⟨dst,.call {callee:= .value (.func k),args:=args,argTypes:=ts},ty,pos,after,gd⟩ w K Kp:=by
 unfold St;have hr:(execOp ρ ⟨dst,.call {callee:= .value (.func k),args:=args,argTypes:=ts},ty,pos,after,gd⟩).run P w= .ok (.enter k vs.toArray) w:=by
  have ha':args.map ρ=vs.toArray:=by rw[←ha];apply TX;simp
  have hn':¬fn.name= "runtime.NumGoroutine" :=by intro e;rw[e] at hn;simp at hn
  simp[execOp,resolve,Deferred.ofValue,he,invoke,callFunc,hf,ha',hn'];intro e;rw[e] at hb;cases hb
 rw[hr];exact h
theorem Sg {x:Operand} {k:FuncId} {cap:Array Value} {args:Array Operand} {ts:Array TypeId}  {fn:Func} (hx:ρ x= .func (.func k) #[] cap) (hf:P.funcs[k]? =some fn) (hn:(fn.name == "runtime.NumGoroutine")=false) (hb:fn.body.isNone=false)
  (ha:args.toList.map ρ++cap.toList=vs) (h:Calls P k vs.toArray w fun
   |.returned v,w'=>K v w'
   |.panicked ch,w'=>Kp ch w'
   |.outgrown,_=>False):
  St P ρ ⟨dst,.call {callee:= .value x,args:=args,argTypes:=ts},ty,pos,after,gd⟩ w K Kp:=by
 unfold St;have hr:(execOp ρ ⟨dst,.call {callee:= .value x,args:=args,argTypes:=ts},ty,pos,after,gd⟩).run P w= .ok (.enter k vs.toArray) w:=by
  have ha':args.map ρ++cap=vs.toArray:=by rw[←ha];apply TX;simp
  have hn':¬fn.name= "runtime.NumGoroutine" :=by intro e;rw[e] at hn;simp at hn
  simp[execOp,resolve,Deferred.ofValue,hx,invoke,callFunc,hf,ha',hn'];intro e;rw[e] at hb;cases hb
 rw[hr];exact h
theorem QP{x:Operand}(ht:P.concrete t=true)(h:K (.iface t (ρ x)) w):St P ρ ⟨dst,.makeInterface t x,ty,pos,after,gd⟩ w K Kp:=by
 refine P9 (v:= .iface t (ρ x)) ?_ h;simp[execOp,run_makeInterface w t (ρ x) ht]
theorem SC{x i:Operand}{k:IntKind}{a:Int}(ht:P.underlying t=some .string)(hx:ρ x= .string s)(hi:ρ i= .int k a)(ha:a=j)(hj:j<s.size)(h:K (.int .u8 (s[j]'hj).toNat) w):
  St P ρ ⟨dst,.index t x i,ty,pos,after,gd⟩ w K Kp:=by
 subst ha;refine P9 (v:= .int .u8 (s[j]'hj).toNat) ?_ h
 have:s[j]? =some (s[j]'hj):=ByteArray.getElem?_lt' s j hj
 simp[execOp,hx,hi,Instr.index,asIntOf,run_underlying ht,this]
theorem SH {x:Operand}   {l r:Operand} {kl kr:IntKind} {a b:Int}  (ht:P.underlying t=some .string) (hx:ρ x= .string s) (hl:ρ l= .int kl a) (hr:ρ r= .int kr b) (ha:a=i) (hb:b=j) (hij:i≤j) (hj:j≤s.size)
  (h:K (.string (s.extract i j)) w):St P ρ ⟨dst,.slice t x (some l) (some r) none,ty,pos,after,gd⟩ w K Kp:=by
 subst ha;subst hb;refine P9 (v:= .string (s.extract i j)) ?_ h;simp[execOp,hx,hl,hr,Instr.sliceAt,Instr.slice,run_underlying ht,Instr.sliceBounds,Instr.sliceBound,asIntOf,hij,hj]
theorem So {x:Operand}   {l:Operand} {kl:IntKind} {a:Int}  (ht:P.underlying t=some .string) (hx:ρ x= .string s) (hl:ρ l= .int kl a) (ha:a=i) (hij:i≤s.size)
  (h:K (.string (s.extract i s.size)) w):St P ρ ⟨dst,.slice t x (some l) none none,ty,pos,after,gd⟩ w K Kp:=by
 subst ha;refine P9 (v:= .string (s.extract i s.size)) ?_ h;simp[execOp,hx,hl,Instr.sliceAt,Instr.slice,run_underlying ht,Instr.sliceBounds,Instr.sliceBound,asIntOf,hij]
theorem Sl {x:Operand}   {r:Operand} {kr:IntKind} {b:Int}  (ht:P.underlying t=some .string) (hx:ρ x= .string s) (hr:ρ r= .int kr b) (hb:b=j) (hj:j≤s.size)
  (h:K (.string (s.extract 0 j)) w):St P ρ ⟨dst,.slice t x none (some r) none,ty,pos,after,gd⟩ w K Kp:=by
 subst hb;refine P9 (v:= .string (s.extract 0 j)) ?_ h;simp[execOp,hx,hr,Instr.sliceAt,Instr.slice,run_underlying ht,Instr.sliceBounds,Instr.sliceBound,asIntOf,hj]
theorem PZ{x:Operand}{a:Addr}(hx:ρ x= .pointer (some a))(h:K (.pointer (some a)) w):St P ρ ⟨dst,.nilCheck x,ty,pos,after,gd⟩ w K Kp:=by
 refine P9 (v:= .pointer (some a)) ?_ h;simp[execOp,hx]
def Zs(P:Program)(s:TypeId)(i:Nat):Option Nat:=
 match P.underlying s with
 |some (.struct fs)=>match fs[i]? with
  |some f=>match P.info? f.type with
   |some inf=>if inf.size=0 then none else some f.offset
   |none=>none
  |none=>none
 |_=>none
theorem PJ{x:Operand}{s off:Nat}{b o:Nat}(hs:Zs P s i=some off)(hx:ρ x= .pointer (some ⟨b,o,none⟩))(h:K (.pointer (some ⟨b,o+off,none⟩)) w):
  St P ρ ⟨dst,.fieldAddr s x i,ty,pos,after,gd⟩ w K Kp:=by
 refine P9 (v:= .pointer (some ⟨b,o+off,none⟩)) ?_ h;unfold Zs at hs;split at hs
 ·rename_i fs hu;split at hs
  ·rename_i f hf;split at hs
   ·rename_i inf hi;split at hs
    ·cases hs
    ·rename_i hz;cases hs;simp[execOp,hx,Instr.fieldAt,run_underlying hu,hf,Instr.sureAddr,fieldPlace,sizeOf,typeInfo,hi,hz,Addr.add_lit]
   ·cases hs
  ·cases hs
 ·cases hs
theorem Rv {x i:Operand} {t e sz:Nat} {b o n c:Nat} {k:IntKind} {a:Int}   (ht:P.underlying t=some (.slice e)) (hi:P.info? e=some inf) (hsz:inf.size=sz)
  (hx:ρ x= .slice (some ⟨b,o,none⟩) n c) (hy:ρ i= .int k a) (ha:a=j) (hj:j<n) (h:K (.pointer (some ⟨b,o+j*sz,none⟩)) w):
  St P ρ ⟨dst,.indexAddr t x i,ty,pos,after,gd⟩ w K Kp:=by
 subst ha;subst hsz;refine P9 (v:= .pointer (some ⟨b,o+j*inf.size,none⟩)) ?_ h;simp[execOp,hx,hy,Instr.indexAt,asIntOf,run_underlying ht,sizeOf,typeInfo,hi,hj,Addr.add_lit]
def Yw(P:Program)(t:TypeId):Bool:=match P.underlying t with
 |none|some (.struct _)|some (.array _ _)=>false
 |some _=>true
def yv(P:Program)(t:TypeId)(sz:Nat):Bool:=(match P.underlying t with
 |some (.struct _)|some (.array _ _)=>true
 |_=>false)&&(match P.info? t with|some i=>i.size==sz|none=>false)
theorem V6(h:Yw P t=true):(isAgg t).run P w= .ok false w:=by
 unfold Yw at h;split at h
 ·cases h
 ·cases h
 ·cases h
 ·rename_i d e g hu;simp only[isAgg,Sem.run_bind,run_underlying hu,Result.andThen_ok];cases d<;>first|rfl|(exfalso;first|exact e _ rfl|exact g _ _ rfl)
theorem qd{sz:Nat}(h:yv P t sz=true):(isAgg t).run P w= .ok true w∧(sizeOf t).run P w= .ok sz w:=by
 simp only[yv,T2] at h;obtain⟨e,d⟩:=h;constructor
 ·split at e
  ·rename_i hu;simp[isAgg,run_underlying hu]
  ·rename_i hu;simp[isAgg,run_underlying hu]
  ·cases e
 ·split at d
  ·rename_i i hi
   have:i.size=sz:=by simpa using d
   simp[sizeOf,typeInfo,hi,this]
  ·cases d
theorem P0{x:Operand}{a:Addr}(ht:Yw P t=true)(hx:ρ x= .pointer (some a))(hc:w.cell? a=some v)(h:K v w):
  St P ρ ⟨dst,.load t x,ty,pos,after,gd⟩ w K Kp:=by
 refine P9 (v:=v) ?_ h;simp[execOp,hx,Instr.loadAt,Instr.sureAddr,loadVar,V6 ht,hc]
theorem QE {x:Operand}  {sz b o:Nat} {cs:List Value} (ht:yv P t sz=true) (hx:ρ x= .pointer (some ⟨b,o,none⟩)) (hl:cs.length=sz)
  (hc:∀j v,cs[j]? =some v→w.cell? ⟨b,o+j,none⟩=some v) (h:K (.agg cs.toArray) w):
  St P ρ ⟨dst,.load t x,ty,pos,after,gd⟩ w K Kp:=by
 refine P9 (v:= .agg cs.toArray) ?_ h
 have:=run_loadCells_list (P:=P) (w:=w) ⟨b,o,none⟩ cs (fun j v hv=>by rw[Addr.add_lit];exact hc j v hv)
 rw[hl] at this;simp[execOp,hx,Instr.loadAt,Instr.sureAddr,loadVar,qd ht,this]
def Blk(w:World)(g:Nat)(C:List Value)(T:TypeId):Prop:=w.heap[g]? =some (.cells C.toArray T (0,0))
theorem Blk.cell(h:Blk w g C T)(hv:C[j]? =some v):w.cell? ⟨g,j,none⟩=some v:=by
 rw[cell_of_row w g j C.toArray T (0,0) h];simpa using hv
theorem Blk.cells(h:Blk w g C T){o:Nat}{cs:List Value}(hcs:(C.drop o).take cs.length=cs):∀j v,cs[j]? =some v→w.cell? ⟨g,o+j,none⟩=some v:=by
 intro j v hv;refine h.cell ?_;rw[←hcs,UD] at hv;split at hv
 ·rw[UB] at hv;exact hv
 ·cases hv
theorem Blk.lt(h:Blk w g C T):g<w.heap.size:=(TY.1 h).1
theorem Blk.same(h:Blk w g C T)(hs:w'.heap[g]? =w.heap[g]?):Blk w' g C T:=by unfold Blk;rw[hs];exact h
def Y8(w:World)(g:Nat)(C:List Value):World:=w.setRow g C.toArray
theorem Blk.set{C':List Value}(h:Blk w g C T):Blk (Y8 w g C') g C' T:=setRow_heap w g _ _ T (0,0) h
theorem Q3{k:Nat}(h:k≠g):(Y8 w g C).heap[k]? =w.heap[k]? :=setRow_other w g k _ h
theorem RN {x y:Operand}  {sz o:Nat}     (hi:P.info? t=some inf) (hsz:inf.size=sz)
  (hx:ρ x= .pointer (some ⟨g,o,none⟩)) (hy:(ρ y).cells=vs.toArray) (hl:vs.length=sz) (hb:Blk w g C T) (hfit:o+sz≤C.length) (d:vs.all Value.oneCell'=true)
  (h:∀C',C'=C.take o++vs++C.drop (o+vs.length)→K undef (Y8 w g C')):St P ρ ⟨dst,.store t x y,ty,pos,after,gd⟩ w K Kp:=by
 refine Sr ?_ (h _ r);have hst:=run_storeCells_at P g o T vs 0 C.toArray w hb B' (fun v hv=>Um.1 d v hv);simp only[U5] at hst;simp[execOp,hx,hy,Instr.storeAt,Instr.sureAddr,storeVar,sizeOf,typeInfo,hi,hsz,hl,hst,Y8]
theorem SN{x:Operand}(hx:(ρ x).cells=vs.toArray)(h:K (.pointer (some ⟨w.heap.size,0,none⟩)) (w.alloc (.cells vs.toArray e (0,0)))):
  St P ρ ⟨dst,.box e x,ty,pos,after,gd⟩ w K Kp:=by
 refine P9 (v:= .pointer (some ⟨w.heap.size,0,none⟩)) ?_ h;simp[execOp,Instr.box,newVar,newRow,hx]
theorem St.alloc{z:Value}(hi:P.info? e=some inf)(hz:inf.zero=some z)(hv:z.cells=vs.toArray)(h:K (.pointer (some ⟨w.heap.size,0,none⟩)) (w.alloc (.cells vs.toArray e (0,0)))):
  St P ρ ⟨dst,.alloc e,ty,pos,after,gd⟩ w K Kp:=by
 refine P9 (v:= .pointer (some ⟨w.heap.size,0,none⟩)) ?_ h;simp[execOp,Instr.alloc,zeroValue,typeInfo,hi,hz,newVar,newRow,hv]
theorem Blk.alloc:Blk (w.alloc (.cells C.toArray T (0,0))) w.heap.size C T:=heap_alloc_new w _
theorem Kk{o:Obj}{k:Nat}(h:k<w.heap.size):(w.alloc o).heap[k]? =w.heap[k]? :=Below.heap_alloc w o k h
end
end Go.Wf
namespace Go.Wf
variable{j v:Nat}{l m:List Nat}
structure GInt where
 neg:Bool
 mag:List Nat
 deriving DecidableEq,Inhabited
structure GRat where
 num:GInt
 den:GInt
 deriving DecidableEq,Inhabited
inductive GExpr where
 |mk (op:Int) (n:List Int) (c:GRat) (name:List UInt8) (args:List GExpr)
 deriving Inhabited
def GExpr.op:GExpr→Int | .mk o _ _ _ _=>o
def GExpr.n:GExpr→List Int | .mk _ n _ _ _=>n
def GExpr.c:GExpr→GRat | .mk _ _ c _ _=>c
def GExpr.name:GExpr→List UInt8 | .mk _ _ _ s _=>s
def GExpr.args:GExpr→List GExpr | .mk _ _ _ _ a=>a
theorem GExpr.eta(e:GExpr):GExpr.mk e.op e.n e.c e.name e.args=e:=by cases e;rfl
def trim:List Nat→List Nat
 |[]=>[]
 |d::r=>match trim r with
  |[]=>if d=0 then [] else [d]
  |t=>d::t
theorem qu:∀l:List Nat,trim (l++[0])=trim l
 |[]=>by simp[trim]
 |d::r=>by rw[Un,trim,trim,qu r]
theorem qQ{d:Nat}(h:d≠0):∀l:List Nat,trim (l++[d])=l++[d]
 |[]=>by simp[trim,h]
 |e::r=>by
  rw[Un,trim,qQ h r];cases r<;>rfl
theorem lW(m:List Nat)(j:Nat)(h:j<m.length):m.take (j+1)=m.take j++[m.getD j 0]:=by
 rw[List.take_succ_eq_append_getElem h,Tq,Tt h];rfl
theorem Ie{i:Nat}(hj:j≤m.length)(hi:i<j):(m.take j)[i]? =some (m.getD i 0):=by
 rw[UD,if_pos hi,Tq,Tt o];rfl
theorem A0(hj:j≤m.length)(a:(0:Int)<(j:Int))(hz:((m.getD (j-1) 0:Nat):Int)=0)(h:trim (m.take j)=trim m):trim (m.take (j-1))=trim m:=by
 obtain⟨i,rfl⟩:∃i,j=i+1:=⟨j-1,o⟩;rw[U3] at hz ⊢;have hz':m.getD i 0=0:=o
 rw[lW m i o,hz',qu] at h;exact h
theorem DA(_hj:j≤m.length)(a:¬(0:Int)<(j:Int))(h:trim (m.take j)=trim m):m.take j=trim m:=by
 have:j=0:=o
 subst this;rw[←h];rfl
theorem AN(hj:j≤m.length)(a:(0:Int)<(j:Int))(hz:¬((m.getD (j-1) 0:Nat):Int)=0)(h:trim (m.take j)=trim m):m.take j=trim m:=by
 obtain⟨i,rfl⟩:∃i,j=i+1:=⟨j-1,o⟩;rw[U3] at hz;have hz':m.getD i 0≠0:=o
 rw[lW m i o,qQ hz'] at h;rw[lW m i o];exact h
def val:List Nat→Nat
 |[]=>0
 |d::r=>d+4294967296*val r
def Zc:Nat→Nat→List Nat
 |0,_=>[]
 |n+1,v=>v%4294967296::Zc n (v/4294967296)
def digs(v:Nat):List Nat:=trim (Zc v v)
def Jr(l:List Nat):Prop:=∀u∈l,u<4294967296
theorem Zh:Jr []:=fun _ h=>by cases h
theorem Yl{d:Nat}(hd:d<4294967296)(h:Jr l):Jr (d::l):=by
 intro u hu;cases hu with
 |head=>exact hd
 |tail _ hu=>exact h u hu
theorem Yo(h:Jr l)(k:Jr m):Jr (l++m):=by
 intro u hu;rcases List.mem_append.1 hu with hu|hu
 ·exact h u hu
 ·exact k u hu
theorem zu(h:Jr l)(n:Nat):Jr (l.take n):=fun u hu=>h u (List.mem_of_mem_take hu)
theorem nC(h:Jr l)(n:Nat):Jr (l.drop n):=fun u hu=>h u (List.mem_of_mem_drop hu)
theorem V9(n:Nat):Jr (List.replicate n 0):=fun _ hu=>by rw[List.eq_of_mem_replicate hu];omega
theorem Jk(h:Jr l)(i:Nat):l.getD i 0<4294967296:=by
 rw[Tq];cases hi:l[i]? with
 |none=>simp
 |some u=>exact h u (US hi)
theorem Jt:∀n v,(Zc n v).length=n
 |0,_=>rfl
 |n+1,v=>by rw[Zc,Td,Jt n]
theorem Zm:∀n v,Jr (Zc n v)
 |0,_=>Zh
 |n+1,v=>Yl (Tp _ o) (Zm n _)
theorem Vn:∀l m:List Nat,val (l++m)=val l+4294967296^l.length*val m
 |[],m=>by simp[val]
 |d::l,m=>by
  rw[Un,val,val,Vn l m,Td,TF];rw[TH,←TO,TR (4294967296^l.length) 4294967296];omega
theorem F8(n:Nat):val (List.replicate n 0)=0:=by
 induction n with
 |zero=>rfl
 |succ n ih=>rw[List.replicate_succ,val,ih]
theorem Kf(l:List Nat)(d:Nat):val (l++[d])=val l+4294967296^l.length*d:=by rw[Vn];simp[val]
theorem Yk:∀l:List Nat,Jr l→val l<4294967296^l.length
 |[],_=>by simp[val]
 |d::l,h=>by
  have a:d<4294967296:=h d χ;have b:=Yk l fun u hu=>h u WF;rw[val,Td,TF];omega
theorem Yq:∀n v,v<4294967296^n→val (Zc n v)=v
 |0,v,h=>by simp at h;subst h;rfl
 |n+1,v,h=>by
  rw[Zc,val,Yq n (v/4294967296) (by rw[TF] at h;exact VB (by rw[TR];exact h))];omega
theorem rm:∀l:List Nat,Jr l→Zc l.length (val l)=l
 |[],_=>rfl
 |d::l,h=>by
  have b:d<4294967296:=h d χ;have a:=rm l fun u hu=>h u WF;rw[Td,Zc,val];rw[show(d+4294967296*val l)%4294967296=d by omega,show(d+4294967296*val l)/4294967296=val l by omega,a]
theorem Kt:∀l:List Nat,val (trim l)=val l
 |[]=>rfl
 |d::r=>by
  have:=Kt r
  rw[trim];split
  ·rename_i h;rw[h] at this;simp only[val] at this;split
   ·rename_i hd;simp only[val];omega
   ·simp only[val];omega
  ·simp only[val];omega
theorem Xf:∀l:List Nat,trim l=[]↔val l=0
 |[]=>by simp[trim,val]
 |d::r=>by
  have:=Xf r
  rw[trim,val];split
  ·rename_i h;have hv:=this.1 h;split
   ·rename_i hd;simp[hd,hv]
   ·rename_i hd;simp;omega
  ·rename_i h;constructor
   ·intro e;cases e
   ·intro e;exact absurd (this.2 o) h
theorem Jx:∀l:List Nat,(trim l).length≤l.length
 |[]=>Tu _
 |d::r=>by
  have:=Jx r
  rw[trim];split
  ·split<;>simp
  ·simp only[Td];omega
theorem Zo:∀ {l:List Nat},Jr l→Jr (trim l)
 |[],_=>Zh
 |d::r,h=>by
  have hd:d<4294967296:=h d χ;have hr:=Zo (l:=r) fun u hu=>h u WF;rw[trim];split
  ·split
   ·exact Zh
   ·exact Yl hd Zh
  ·exact Yl hd hr
theorem ti:∀ {l m:List Nat},Jr l→Jr m→val l=val m→trim l=trim m
 |[],m,_,_,h=>by rw[(Xf m).2 h.symm];rfl
 |d::r,[],_,_,h=>by rw[(Xf (d::r)).2 h];rfl
 |d::r,e::q,hl,hm,h=>by
  have a:d<4294967296:=hl d χ;have b:e<4294967296:=hm e χ;rw[val,val] at h;have hde:d=e:=o
  have:=ti (l:=r) (m:=q) (fun u hu=>hl u WF) (fun u hu=>hm u WF) o
  rw[trim,trim,this,hde]
theorem BC(v:Nat):v<4294967296^v:=Nat.lt_pow_self o
theorem Z3(v:Nat):val (digs v)=v:=by rw[digs,Kt,Yq v v (BC v)]
theorem Yd(v:Nat):Jr (digs v):=Zo (Zm _ _)
theorem V0(h:Jr l):trim l=digs (val l):=by
 unfold digs;exact ti h (Zm _ _) (by rw[Yq _ _ (BC _)])
theorem ot(h:Jr l)(hv:val l=v):trim l=digs v:=by rw[V0 h,hv]
theorem zo(v:Nat):trim (digs v)=digs v:=by rw[V0 (Yd v),Z3]
theorem Qr(h:Jr l):trim (trim l)=trim l:=by rw[V0 h,zo]
theorem mj:digs 0=[]:=rfl
theorem Q2(v:Nat):digs v=[]↔v=0:=by
 unfold digs;rw[Xf,Yq _ _ (BC v)]
theorem Za{n:Nat}(h:v<4294967296^n):(digs v).length≤n:=by
 have:digs v=trim (Zc n v):=(ot (Zm n v) (Yq n v h)).symm
 rw[this];exact Tj (Jx _) (by rw[Jt];exact Tu _)
theorem Vv(v:Nat):v<4294967296^(digs v).length:=by
 have:=Yk _ (Yd v);rwa [Z3] at this
theorem oO(a:v≠0)(h:v<4294967296):digs v=[v]:=by
 have:trim [v]=digs v:=ot (Yl h Zh) WB
 rw[←this];simp[trim,a]
theorem DH(a:4294967296≤v)(h:v<18446744073709551616):digs v=[v%4294967296,v/4294967296]:=by
 have:trim [v%4294967296,v/4294967296]=digs v:=ot (Yl (Tp _ o) (Yl o Zh)) (by simp[val];omega)
 rw[←this];simp[trim,show ¬v/4294967296=0 by omega]
theorem Jv(l:List Nat)(i:Nat):val (l.take (i+1))=val (l.take i)+4294967296^i*l.getD i 0:=by
 rcases TN i l.length with h|h
 ·rw[lW l i h,Kf,To,VN o]
 ·rw[TE o,TE h,Tq,TQ h];simp
theorem Xn{n:Nat}(hs:Jr l)(hl:l.length=n)(hv:val l=v):l=Zc n v:=by
 rw[←hl,←hv,rm l hs]
theorem Vi{n:Nat}(h:v<4294967296^n):trim (Zc n v)=digs v:=ot (Zm n v) (Yq n v h)
def Yh(b:Bool)(n:Nat):Int:=if b then -(n:Int) else n
def GInt.toZ(a:GInt):Int:=Yh a.neg (val a.mag)
def ofZ(z:Int):GInt:=⟨decide (z<0),digs z.natAbs⟩
def mkSg(neg:Bool)(m:List Nat):GInt:=⟨neg&&decide (0<(trim m).length),trim m⟩
end Go.Wf
namespace Go.Wf
open Go Go.RowKit
variable{E e t:TypeId}{L ds mods:List Nat}{ad:Option Addr}{by_ c1 c2 i id j p:Nat}{ch y':Nat→Prop}{cs cs' vs:List Value}{css:List (List Value)}{kl:IntKind}{ps vals:List (Nat×Value)}{s:List UInt8}
structure Tr (X:Nat→Prop) (w:World) (X':Nat→Prop) (w':World):Prop where
 sub:∀b,b<w.heap.size→X' b→X b
 blk:∀b,b<w.heap.size→¬X b→w'.heap[b]? =w.heap[b]?
 size:w.heap.size≤w'.heap.size
theorem Tr.refl(X:Nat→Prop)(w:World):Tr X w X w:=⟨fun _ _ h=>h,fun _ _ _=>rfl,Tu _⟩
theorem Tr.trans{X Y Z:Nat→Prop}{a b c:World}(h:Tr X a Y b)(k:Tr Y b Z c):Tr X a Z c:=
 ⟨fun i hi hz=>h.sub i hi (k.sub i (Ti hi h.size) hz),
  fun i hi hx=>(k.blk i (Ti hi h.size) (fun hy=>hx (h.sub i hi hy))).trans (h.blk i hi hx),
  Tj h.size k.size⟩
theorem Tr.weak{X X':Nat→Prop}{w:World}(h:∀b,X' b→X b):Tr X w X' w:=⟨fun b _ hb=>h b hb,fun _ _ _=>rfl,Tu _⟩
theorem Tr.below{X:Nat→Prop}{w w':World}(h:Below w.heap.size w w'):Tr X w X w':=⟨fun _ _ h=>h,fun b hb _=>h.block b hb,h.size⟩
theorem Tr.cell{X X':Nat→Prop}{w w':World}(h:Tr X w X' w'){a:Addr}{v:Value}(hx:¬X a.block)(hc:w.cell? a=some v):w'.cell? a=some v:=
 (World.cell?_of_block (h.blk a.block (World.block_lt_of_cell? w a hc) hx)).trans hc
structure Ty (α:Type) where
 sz:Nat
 pos:0<sz
 rd:(Nat→Prop)→World→List Value→α→Prop
 len:∀ {X w cs a},rd X w cs a→cs.length=sz
 one:∀ {X w cs a},rd X w cs a→∀u∈cs,u.oneCell'=true
 tr:∀ {X w X' w' cs a},rd X w cs a→Tr X w X' w'→rd X' w' cs a
section
variable {α:Type} (T:Ty α)
def RS(X:Nat→Prop)(w:World)(v:Value)(l:List α):Prop:=
 ∃a c,v= .slice a l.length c∧l.length≤c∧c≤maxLen∧(l=[]∨∃b o,a=some ⟨b,o,none⟩∧¬X b∧
  ∀i x,l[i]? =some x→∃cs,T.rd X w cs x∧∀j u,cs[j]? =some u→w.cell? ⟨b,o+i*T.sz+j,none⟩=some u)
end
section
variable {α:Type} {T:Ty α} {X X':Nat→Prop} {w w':World} {v:Value} {l:List α}
theorem RS.tr(h:RS T X w v l)(t:Tr X w X' w'):RS T X' w' v l:=by
 obtain⟨a,c,rfl,e,g,d⟩:=h;refine⟨a,c,rfl,e,g,?_⟩;by_cases hl:l=[]
 ·exact .inl hl
 rcases d with d|⟨b,o,rfl,hx,d⟩
 ·exact .inl d
 ·refine .inr ⟨b,o,rfl,?_,?_⟩
  ·have hpos:0<l.length:=UH.2 hl;obtain⟨cs,hr,hc⟩:=d 0 l[0] (by simp[hpos]);have hp:0<cs.length:=by rw[T.len hr];exact T.pos
   have:=hc 0 cs[0] (by simp[hp])
   have hlt:=World.block_lt_of_cell? w _ this;exact fun hx'=>hx (t.sub b hlt hx')
  ·intro i x hi;obtain⟨cs,hr,hc⟩:=d i x hi;exact⟨cs,T.tr hr t,fun j u hu=>t.cell hx (hc j u hu)⟩
theorem RS.len(h:RS T X w v l):∃a c,v= .slice a l.length c∧l.length≤c∧c≤maxLen:=by
 obtain⟨a,c,rfl,b,d,_⟩:=h;exact⟨a,c,rfl,b,d⟩
theorem RS.le{a:Option Addr}{n c:Nat}(h:RS T X w (.slice a n c) l):n=l.length∧l.length≤c∧c≤maxLen:=by
 obtain⟨_,_,e,b,d,_⟩:=h;cases e;exact⟨rfl,b,d⟩
theorem RS.nil:RS T X w (.slice none 0 0) []:=⟨none,0,rfl,Tu _,by unfold maxLen;omega,.inl r⟩
theorem RS.one(h:RS T X w v l):v.oneCell'=true:=by obtain⟨_,_,rfl,_⟩:=h;rfl
theorem RS.at{a:Option Addr}{n c:Nat}(h:RS T X w (.slice a n c) l){x:α}(hi:l[i]? =some x):
  ∃b o cs,a=some ⟨b,o,none⟩∧¬X b∧T.rd X w cs x∧∀j u,cs[j]? =some u→w.cell? ⟨b,o+i*T.sz+j,none⟩=some u:=by
 obtain⟨_,_,e,_,_,d⟩:=h;cases e;rcases d with d|⟨b,o,rfl,hx,d⟩
 ·subst d;simp at hi
 ·obtain⟨cs,hr,hc⟩:=d i x hi;exact⟨b,o,cs,rfl,hx,hr,hc⟩
theorem RS.sub{a:Option Addr}{n c:Nat}(h:RS T X w (.slice a n c) l)(hij:i≤j)(hj:j≤l.length):
  RS T X w (.slice (if c=i then a else a.map (·.add (i*T.sz))) (j-i) (c-i)) ((l.take j).drop i):=by
 obtain⟨_,_,e,_,_,d⟩:=h;cases e;refine⟨if c=i then a else a.map (·.add (i*T.sz)),c-i,?_,?_,?_,?_⟩
 ·have:((l.take j).drop i).length=j-i:=by rw[Tn,To];omega
  rw[this]
 ·rw[Tn,To];omega
 ·omega
 ·by_cases he:(l.take j).drop i=[]
  ·exact .inl he
  ·have hlt:i<j:=by
    rcases TN i j with h|h
    ·exact h
    ·exact absurd (TI Ww) he
   rcases d with d|⟨b,o,rfl,hx,d⟩
   ·subst d;simp at he
   ·have hci:¬c=i:=ω
    refine .inr ⟨b,o+i*T.sz,?_,hx,?_⟩
    ·simp only[hci,if_false,Wm,Addr.add_lit]
    ·intro k x hk;rw[UB,UD] at hk;split at hk
     ·obtain⟨cs,hr,hc⟩:=d (i+k) x hk;refine⟨cs,hr,fun m u hu=>?_⟩
      have:=hc m u hu
      rw[U2] at this;rw[show o+i*T.sz+k*T.sz+m=o+(i*T.sz+k*T.sz)+m by omega];exact this
     ·cases hk
end
def Jh:Ty Nat where
 sz:=1
 pos:=o
 rd _ _ cs n:=cs=[.int .u32 n]∧n<4294967296
 len h:=by rw[h.1];rfl
 one h:=by rw[h.1];intro u hu;simp at hu;subst hu;rfl
 tr h _:=h
def u8Ty:Ty UInt8 where
 sz:=1
 pos:=o
 rd _ _ cs n:=cs=[.int .u8 n.toNat]
 len h:=by rw[h];rfl
 one h:=by rw[h];intro u hu;simp at hu;subst hu;rfl
 tr h _:=h
def Zg:Ty Int where
 sz:=1
 pos:=o
 rd _ _ cs n:=cs=[.int .i64 n]∧ -9223372036854775808≤n∧n≤9223372036854775807
 len h:=by rw[h.1];rfl
 one h:=by rw[h.1];intro u hu;simp at hu;subst hu;rfl
 tr h _:=h
def str(l:List UInt8):Value:= .string ⟨l.toArray⟩
def Y1:Ty (List UInt8) where
 sz:=1
 pos:=o
 rd _ _ cs s:=cs=[str s]∧s.length≤maxLen
 len h:=by rw[h.1];rfl
 one h:=by rw[h.1];intro u hu;simp at hu;subst hu;rfl
 tr h _:=h
def N1(X:Nat→Prop)(w:World)(cs:List Value)(x:GInt):Prop:=∃s,cs=[.bool x.neg,s]∧RS Jh X w s x.mag
def Z0:Ty GInt where
 sz:=2
 pos:=o
 rd:=N1
 len h:=by obtain⟨s,rfl,_⟩:=h;rfl
 one h:=by
  obtain⟨s,rfl,h⟩:=h;intro u hu;simp at hu;rcases hu with rfl|rfl
  ·rfl
  ·exact h.one
 tr h t:=by obtain⟨s,rfl,h⟩:=h;exact⟨s,rfl,h.tr t⟩
def Od(X:Nat→Prop)(w:World)(cs:List Value)(x:GRat):Prop:=
 ∃s t,cs=[.bool x.num.neg,s,.bool x.den.neg,t]∧RS Jh X w s x.num.mag∧RS Jh X w t x.den.mag
def Y6:Ty GRat where
 sz:=4
 pos:=o
 rd:=Od
 len h:=by obtain⟨s,t,rfl,_⟩:=h;rfl
 one h:=by
  obtain⟨s,t,rfl,h,k⟩:=h;intro u hu;simp at hu;rcases hu with rfl|rfl|rfl|rfl
  ·rfl
  ·exact h.one
  ·rfl
  ·exact k.one
 tr h t:=by obtain⟨s,s',rfl,h,k⟩:=h;exact⟨s,s',rfl,h.tr t,k.tr t⟩
def Qb:Nat→Ty GExpr
 |0=>{sz:=8,pos:=o,rd:=fun _ _ _ _=>False,len:=fun h=>h.elim,one:=fun h=>h.elim,tr:=fun h _=>h.elim}
 |k+1=>
  {
   sz:=8
   pos:=o
   rd:=fun X w cs e=>∃s1 s2 s3 s4,cs=[.int .i64 e.op,s1,.bool e.c.num.neg,s2,.bool e.c.den.neg,s3,str e.name,s4]∧
    -9223372036854775808≤e.op∧e.op≤9223372036854775807∧e.name.length≤maxLen∧
    RS Zg X w s1 e.n∧RS Jh X w s2 e.c.num.mag∧RS Jh X w s3 e.c.den.mag∧RS (Qb k) X w s4 e.args
   len:=by rintro X w cs a ⟨s1,s2,s3,s4,rfl,_⟩;rfl
   one:=by
    rintro X w cs a ⟨s1,s2,s3,s4,rfl,_,_,_,h1,h2,h3,h4⟩ u hu;simp at hu;rcases hu with rfl|rfl|rfl|rfl|rfl|rfl|rfl|rfl
    ·rfl
    ·exact h1.one
    ·rfl
    ·exact h2.one
    ·rfl
    ·exact h3.one
    ·rfl
    ·exact h4.one
   tr:=by
    rintro X w X' w' cs a ⟨s1,s2,s3,s4,rfl,g1,g2,g3,h1,h2,h3,h4⟩ t;exact⟨s1,s2,s3,s4,rfl,g1,g2,g3,h1.tr t,h2.tr t,h3.tr t,h4.tr t⟩}
theorem Vp(k:Nat):(Qb k).sz=8:=by cases k<;>rfl
theorem RS.up{α:Type}{T T':Ty α}{X:Nat→Prop}{w:World}{v:Value}{l:List α}(h:RS T X w v l)(hs:T'.sz=T.sz)(hr:∀cs x,T.rd X w cs x→T'.rd X w cs x):RS T' X w v l:=by
 obtain⟨a,c,rfl,e,g,d⟩:=h;refine⟨a,c,rfl,e,g,?_⟩;rcases d with d|⟨b,o,rfl,hx,d⟩
 ·exact .inl d
 ·refine .inr ⟨b,o,rfl,hx,fun i x hi=>?_⟩
  obtain⟨cs,hr',hc⟩:=d i x hi;exact⟨cs,hr _ _ hr',by rw[hs];exact hc⟩
theorem nP{X:Nat→Prop}{w:World}:∀(k j:Nat) (cs:List Value) (e:GExpr),k≤j→(Qb k).rd X w cs e→(Qb j).rd X w cs e:=by
 intro k
 induction k with
 |zero=>intro j cs e _ h;exact h.elim
 |succ k ih=>
  intro j cs e _ h;cases j with
  |zero=>omega
  |succ j=>
   obtain⟨a,b,d,g,rfl,i,m,p,s,y,z,A⟩:=h;exact⟨a,b,d,g,rfl,i,m,p,s,y,z,A.up (by rw[Vp,Vp]) fun cs x hx=>ih j cs x o hx⟩
def Jc:Ty GExpr where
 sz:=8
 pos:=o
 rd X w cs e:=∃k,(Qb k).rd X w cs e
 len h:=by obtain⟨k,h⟩:=h;rw[(Qb k).len h,Vp]
 one h:=by obtain⟨k,h⟩:=h;exact(Qb k).one h
 tr h t:=by obtain⟨k,h⟩:=h;exact⟨k,(Qb k).tr h t⟩
theorem RS.exprs{X:Nat→Prop}{w:World}{v:Value}:∀ {l:List GExpr},RS Jc X w v l→∃k,RS (Qb k) X w v l:=by
 rintro l ⟨a,c,rfl,e,g,d⟩;rcases d with d|⟨b,o,rfl,hx,d⟩
 ·exact⟨0,a,c,rfl,e,g,.inl d⟩
 ·have:∃K,∀i x,l[i]? =some x→∃cs,(Qb K).rd X w cs x∧∀j u,cs[j]? =some u→w.cell? ⟨b,o+i*8+j,none⟩=some u:=by
   clear e g;have key:∀n,∃K,∀i x,i<n→l[i]? =some x→∃cs,(Qb K).rd X w cs x∧∀j u,cs[j]? =some u→w.cell? ⟨b,o+i*8+j,none⟩=some u:=by
    intro n
    induction n with
    |zero=>exact⟨0,fun i x h=>ω⟩
    |succ n ih=>
     obtain⟨K,hK⟩:=ih;by_cases hn:n<l.length
     ·obtain⟨cs,⟨k,hk⟩,hc⟩:=d n l[n] (by simp[hn]);refine⟨max K k,fun i x hi hx=>?_⟩
      rcases TN i n with hl|hl
      ·obtain⟨cs,hr,hc⟩:=hK i x hl hx;exact⟨cs,nP K _ cs x ω hr,hc⟩
      ·have:i=n:=ω
       subst this
       have:x=l[i]:=by simpa[hn] using hx.symm
       subst this;exact⟨cs,nP k _ cs _ ω hk,hc⟩
     ·refine⟨K,fun i x hi hx=>?_⟩
      rcases TN i n with hl|hl
      ·exact hK i x hl hx
      ·rw[TQ ω] at hx;cases hx
   obtain⟨K,hK⟩:=key l.length;refine⟨K,fun i x hi=>hK i x ?_ hi⟩;rcases TN i l.length with h|h
   ·exact h
   ·rw[TQ ω] at hi;cases hi
  obtain⟨K,hK⟩:=this;exact⟨K,some ⟨b,o,none⟩,c,rfl,e,g,.inr ⟨b,o,rfl,hx,fun i x hi=>by
   obtain⟨cs,hr,hc⟩:=hK i x hi;exact⟨cs,hr,by rw[Vp];exact hc⟩⟩⟩
theorem nL{X:Nat→Prop}{w:World}{e:GExpr}:Jc.rd X w cs e↔
  ∃a b d g,cs=[.int .i64 e.op,a,.bool e.c.num.neg,b,.bool e.c.den.neg,d,str e.name,g]∧
    -9223372036854775808≤e.op∧e.op≤9223372036854775807∧e.name.length≤maxLen∧
    RS Zg X w a e.n∧RS Jh X w b e.c.num.mag∧RS Jh X w d e.c.den.mag∧RS Jc X w g e.args:=by
 constructor
 ·rintro⟨k,h⟩
  cases k with
  |zero=>exact h.elim
  |succ k=>
   obtain⟨a,b,d,g,rfl,j,m,p,s,x,y,i⟩:=h;exact⟨a,b,d,g,rfl,j,m,p,s,x,y,i.up (by rw[Vp];rfl) fun cs _ hx=>⟨k,hx⟩⟩
 ·rintro⟨a,b,d,g,rfl,j,m,p,s,x,y,i⟩
  obtain⟨k,i⟩:=i.exprs;exact⟨k+1,a,b,d,g,rfl,j,m,p,s,x,y,i⟩
def RV{α:Type}(T:Ty α)(X:Nat→Prop)(w:World)(v:Value)(x:α):Prop:=∃cs,v= .agg cs.toArray∧T.rd X w cs x
theorem RV.tr{α:Type}{T:Ty α}{X X':Nat→Prop}{w w':World}{v:Value}{x:α}(h:RV T X w v x)(t:Tr X w X' w'):RV T X' w' v x:=by
 obtain⟨cs,rfl,h⟩:=h;exact⟨cs,rfl,T.tr h t⟩
structure Bs where
 w:World
 M:Nat→Prop
instance:Coe World Bs:=⟨fun w=>⟨w,fun _=>False⟩⟩
abbrev Bs.heap(B:Bs):=B.w.heap
structure Bel (B:Bs) (w:World):Prop where
 os:w.os=B.w.os
 tape:w.tape=B.w.tape
 output:w.output=B.w.output
 size:B.heap.size≤w.heap.size
 block:∀k,k<B.heap.size→¬B.M k→w.heap[k]? =B.heap[k]?
theorem Bel.refl(B:Bs):Bel B B.w:=⟨rfl,rfl,rfl,Tu _,fun _ _ _=>rfl⟩
theorem Bel.trans{B:Bs}{w w':World}(h:Bel B w)(k:Below B.heap.size w w'):Bel B w':=
 ⟨k.os.trans h.os,k.tape.trans h.tape,k.output.trans h.output,Tj h.size k.size,fun i hi hm=>(k.block i hi).trans (h.block i hi hm)⟩
theorem Bel.turn{B:Bs}{w w':World}{g:Nat}(h:Bel B w)(k:Bel ⟨w,(· =g)⟩ w')(hg:B.heap.size≤g∨B.M g):Bel B w':=
 ⟨k.os.trans h.os,k.tape.trans h.tape,k.output.trans h.output,Tj h.size k.size,
  fun i hi hm=>(k.block i (Ti hi h.size) (fun e=>hg.elim (fun q=>by subst e;omega) (fun q=>hm (e▸q)))).trans (h.block i hi hm)⟩
structure Cx (X0:Nat→Prop) (w0:Bs) (x y:Nat→Prop) (w:World):Prop where
 below:Bel w0 w
 base:∀b,X0 b→x b
 bd:∀b,x b→b<w.heap.size
 yx:∀b,y b→x b
structure Sp (x y:Nat→Prop) (w:World) (x' y':Nat→Prop) (w':World) (ch:Nat→Prop):Prop where
 tx:Tr x w x' w'
 ty:Tr y w y' w'
 up:∀b,y b→y' b
 same:∀b,b<w.heap.size→¬ch b→w'.heap[b]? =w.heap[b]?
structure Own (w0:Bs) (y:Nat→Prop) (w:World) (g:Nat) (C:List Value) (T:TypeId):Prop where
 mem:y g
 ge:w0.heap.size≤g∨w0.M g
 blk:Blk w g C T
def Zl:Nat→Prop:=fun _=>False
theorem Own.sp{w0:Bs}{x y x':Nat→Prop}{w w':World}{g:Nat}{C:List Value}{T:TypeId}(h:Own w0 y w g C T)(s:Sp x y w x' y' w' ch)(hn:¬ch g):Own w0 y' w' g C T:=
 ⟨s.up _ h.mem,h.ge,h.blk.same (s.same g h.blk.lt hn)⟩
theorem Own.sees{w0:Bs}{y:Nat→Prop}{w:World}{g:Nat}{C:List Value}{T:TypeId}(h:Own w0 y w g C T):∀b,b=g→y b:=fun _ e=>e▸h.mem
theorem Own.spn{w0:Bs}{x y x':Nat→Prop}{w w':World}{g:Nat}{C:List Value}{T:TypeId}(h:Own w0 y w g C T)(s:Sp x y w x' y' w' Zl):Own w0 y' w' g C T:=h.sp s id
theorem Own.spo{w0:Bs}{x y x':Nat→Prop}{w w':World}{g g':Nat}{C:List Value}{T:TypeId}(h:Own w0 y w g C T)(s:Sp x y w x' y' w' (· =g'))(hn:g≠g'):Own w0 y' w' g C T:=h.sp s hn
theorem RS.sp{α:Type}{T:Ty α}{x y x':Nat→Prop}{w w':World}{v:Value}{l:List α}(h:RS T x w v l)(s:Sp x y w x' y' w' ch):RS T x' w' v l:=h.tr s.tx
def Ret(w:World)(Φ:Value→World→Prop):Ending→World→Prop
 |.returned v,w'=>Φ v w'∧Below w.heap.size w w'
 |_,_=>False
def RetM(w:World)(g:Nat)(Φ:Value→World→Prop):Ending→World→Prop
 |.returned v,w'=>Φ v w'∧Bel ⟨w,(· =g)⟩ w'
 |_,_=>False
def Jd(P:Program)(k:FuncId):Bool:=match P.funcs[k]? with
 |some fn=> !(fn.name == "runtime.NumGoroutine") && !fn.body.isNone
 |none=>false
def Zf(P:Program)(t:TypeId):Option (Value×Nat×Nat):=(P.info? t).bind fun i=>i.zero.map fun z=>(z,i.size,i.bytes)
theorem J0{P:Program}{z:Value}{s b:Nat}(h:Zf P t=some (z,s,b)):∃i,P.info? t=some i∧i.zero=some z∧i.size=s∧i.bytes=b:=by
 unfold Zf at h;cases hi:P.info? t with
 |none=>rw[hi] at h;cases h
 |some i=>
  rw[hi] at h;simp only[Wi,Wl] at h;obtain⟨_,hz,e⟩:=h;cases e;exact⟨i,rfl,hz,rfl,rfl⟩
section
variable {X0 x y:Nat→Prop} {w0:Bs} {w w':World}
theorem PV{X0:Nat→Prop}{w0:World}(h:∀b,X0 b→b<w0.heap.size):Cx X0 w0 X0 Zl w0:=⟨Bel.refl _,fun _ h=>h,h,fun _ h=>h.elim⟩
theorem Cx.next(C:Cx X0 w0 x y w)(h:Below w.heap.size w w'):Cx X0 w0 x y w'∧Sp x y w x y w' Zl:=by
 have hle:=C.below.size;refine⟨⟨C.below.trans (h.mono hle),C.base,fun b hb=>Ti (C.bd b hb) h.size,C.yx⟩,⟨Tr.below h,Tr.below h,fun _ h=>h,fun b hb _=>h.block b hb⟩⟩
theorem K5(w:World)(o:Obj):Below w.heap.size w (w.alloc o):=(Below.refl _ _).alloc (Tu _) o
theorem Cx.box(C:Cx X0 w0 x y w)(vs:List Value)(T:TypeId):
  Cx X0 w0 (fun b=>x b∨b=w.heap.size) (fun b=>y b∨b=w.heap.size) (w.alloc (.cells vs.toArray T (0,0)))∧
  Sp x y w (fun b=>x b∨b=w.heap.size) (fun b=>y b∨b=w.heap.size) (w.alloc (.cells vs.toArray T (0,0))) Zl∧
  Own w0 (fun b=>y b∨b=w.heap.size) (w.alloc (.cells vs.toArray T (0,0))) w.heap.size vs T:=by
 have hle:=C.below.size;refine⟨⟨C.below.trans ((K5 w _).mono hle),fun b h=> .inl (C.base b h),?_,?_⟩,⟨?_,?_,fun _ h=> .inl h,fun b hb _=>Kk hb⟩,⟨.inr r,.inl hle,Blk.alloc⟩⟩
 ·rintro b (h|rfl)
  ·have:=C.bd b h;simp;omega
  ·simp
 ·rintro b (h|rfl)
  ·exact .inl (C.yx b h)
  ·exact .inr r
 ·refine⟨?_,fun b hb _=>Kk hb,by simp⟩;rintro b hb (h|rfl)
  ·exact h
  ·omega
 ·refine⟨?_,fun b hb _=>Kk hb,by simp⟩;rintro b hb (h|rfl)
  ·exact h
  ·omega
theorem Cx.set(C:Cx X0 w0 x y w){g:Nat}{T:TypeId}(o:Own w0 y w g cs T):
  Cx X0 w0 x y (Y8 w g cs')∧Sp x y w x y (Y8 w g cs') (· =g)∧Own w0 y (Y8 w g cs') g cs' T:=by
 have hs:(Y8 w g cs').heap.size=w.heap.size:=by simp[Y8,World.setRow]
 have hsame:∀b,b<w.heap.size→¬b=g→(Y8 w g cs').heap[b]? =w.heap[b]? :=fun b _ hb=>Q3 hb;have a:Bel w0 (Y8 w g cs'):=C.below.turn (g:=g) ⟨rfl,rfl,rfl,by rw[hs];exact Tu _,fun b hb hm=>hsame b hb hm⟩ o.ge;refine⟨⟨a,C.base,fun b hb=>by rw[hs];exact C.bd b hb,C.yx⟩,
  ⟨⟨fun _ _ h=>h,fun b hb hx=>hsame b hb (fun e=>hx (e▸C.yx _ o.mem)),ω⟩,⟨fun _ _ h=>h,fun b hb hx=>hsame b hb (fun e=>hx (e▸o.mem)),ω⟩,fun _ h=>h,hsame⟩,
  ⟨o.mem,o.ge,o.blk.set⟩⟩
theorem Cx.turn(C:Cx X0 w0 x y w){g:Nat}{T:TypeId}(o:Own w0 y w g cs T)(h:Bel ⟨w,(· =g)⟩ w')(hb:Blk w' g cs' T):
  Cx X0 w0 x y w'∧Sp x y w x y w' (· =g)∧Own w0 y w' g cs' T:=
 ⟨⟨C.below.turn h o.ge,C.base,fun b hb=>Ti (C.bd b hb) h.size,C.yx⟩,
  ⟨⟨fun _ _ h=>h,fun b hb hx=>h.block b hb (fun e=>hx (e▸C.yx _ o.mem)),h.size⟩,⟨fun _ _ h=>h,fun b hb hx=>h.block b hb (fun e=>hx (e▸o.mem)),h.size⟩,fun _ h=>h,fun b hb hn=>h.block b hb hn⟩,
  ⟨o.mem,o.ge,hb⟩⟩
theorem Rd{X0:Nat→Prop}{w:World}(g:Nat)(h:∀b,X0 b→b<w.heap.size)(hg:X0 g):Cx X0 ⟨w,(· =g)⟩ X0 (· =g) w:=
 ⟨Bel.refl _,fun _ h=>h,h,fun _ h=>h▸hg⟩
theorem SW{w:World}{g:Nat}{T:TypeId}(h:Blk w g cs T):Own ⟨w,(· =g)⟩ (· =g) w g cs T:=⟨rfl,.inr r,h⟩
end
section
variable {P:Program} {ρ:Operand→Value} {dst:Option Tmp} {ty:TypeId} {pos:String} {after:Array Edge} {gd:Option (Nat×Bool)}
 {w:World} {K:Value→World→Prop} {Kp:List PanicEntry→World→Prop} {X0 x y:Nat→Prop} {w0:Bs}
theorem PK {k:FuncId} {args:Array Operand} {ts:Array TypeId}  {Φ:Value→World→Prop} (C:Cx X0 w0 x y w) (hk:Jd P k=true)
  (ha:args.toList.map ρ=vs) (he:ρ (.func k)= .func (.func k) #[] #[]) (hc:Calls P k vs.toArray w (Ret w Φ))
  (h:∀v w',Cx X0 w0 x y w'→Sp x y w x y w' Zl→Φ v w'→K v w'):
  St P ρ ⟨dst,.call {callee:= .value (.func k),args:=args,argTypes:=ts},ty,pos,after,gd⟩ w K Kp:=by
 unfold Jd at hk;split at hk
 ·rename_i fn hf;simp only[T2,T3] at hk;refine RG hf hk.1 hk.2 ha (Calls.mono hc ?_) he;intro e w' hr;cases e with
  |returned v=>obtain⟨a,b⟩:=hr;obtain⟨c,s⟩:=C.next b;exact h v w' c s a
  |panicked ch=>exact hr.elim
  |outgrown=>exact hr.elim
 ·cases hk
theorem SK {k:FuncId} {args:Array Operand} {ts:Array TypeId}  {g:Nat}  {T:TypeId} {Φ:Value→World→Prop} {Ψ:Value→World→List Value→Prop} (C:Cx X0 w0 x y w) (o:Own w0 y w g cs T) (hk:Jd P k=true)
  (ha:args.toList.map ρ=vs) (he:ρ (.func k)= .func (.func k) #[] #[]) (hc:Calls P k vs.toArray w (RetM w g Φ)) (hs:∀v w',Φ v w'→∃cs',Blk w' g cs' T∧Ψ v w' cs')
  (h:∀v w' cs',Cx X0 w0 x y w'→Sp x y w x y w' (· =g)→Own w0 y w' g cs' T→Ψ v w' cs'→K v w'):
  St P ρ ⟨dst,.call {callee:= .value (.func k),args:=args,argTypes:=ts},ty,pos,after,gd⟩ w K Kp:=by
 unfold Jd at hk;split at hk
 ·rename_i fn hf;simp only[T2,T3] at hk;refine RG hf hk.1 hk.2 ha (Calls.mono hc ?_) he;intro e w' hr;cases e with
  |returned v=>
   obtain⟨a,b⟩:=hr;obtain⟨cs',hb,hp⟩:=hs v w' a;obtain⟨c,s,o'⟩:=C.turn o b hb;exact h v w' cs' c s o' hp
  |panicked ch=>exact hr.elim
  |outgrown=>exact hr.elim
 ·cases hk
theorem QA  {o:Operand}  (C:Cx X0 w0 x y w) (hx:(ρ o).cells=vs.toArray)
  (h:∀g w' x' y',(∀b,b<w.heap.size→b≠g)→Cx X0 w0 x' y' w'→Sp x y w x' y' w' Zl→Own w0 y' w' g vs e→K (.pointer (some ⟨g,0,none⟩)) w'):
  St P ρ ⟨dst,.box e o,ty,pos,after,gd⟩ w K Kp:=
 SN hx (h _ _ _ _ (fun b _=>by omega) (C.box vs e).1 (C.box vs e).2.1 (C.box vs e).2.2)
theorem PU  {z:Value} {sz:Nat}  (C:Cx X0 w0 x y w) (hi:Zf P e=some (z,sz,by_)) (hv:z.cells=vs.toArray)
  (h:∀g w' x' y',(∀b,b<w.heap.size→b≠g)→Cx X0 w0 x' y' w'→Sp x y w x' y' w' Zl→Own w0 y' w' g vs e→K (.pointer (some ⟨g,0,none⟩)) w'):
  St P ρ ⟨dst,.alloc e,ty,pos,after,gd⟩ w K Kp:=by
 obtain⟨_,hi',hz,_,_⟩:=J0 hi;exact St.alloc hi' hz hv (h _ _ _ _ (fun b _=>by omega) (C.box vs e).1 (C.box vs e).2.1 (C.box vs e).2.2)
theorem QM {a v:Operand}  {z:Value} {sz g o:Nat}  {T:TypeId} (C:Cx X0 w0 x y w) (hb:Own w0 y w g cs T) (hi:Zf P t=some (z,sz,by_))
  (hx:ρ a= .pointer (some ⟨g,o,none⟩)) (hy:(ρ v).cells=vs.toArray) (hl:vs.length=sz) (hfit:Nat.ble (o+sz) cs.length=true) (b:vs.all Value.oneCell'=true) (hc:cs.take o++vs++cs.drop (o+vs.length)=cs')
  (h:∀w',Cx X0 w0 x y w'→Sp x y w x y w' (· =g)→Own w0 y w' g cs' T→K undef w'):St P ρ ⟨dst,.store t a v,ty,pos,after,gd⟩ w K Kp:=by
 obtain⟨_,hi',_,hs,_⟩:=J0 hi;refine RN hi' hs hx hy hl hb.blk (TG hfit) b ?_;intro _ hC';rw[hc] at hC';subst hC';exact h _ (C.set hb).1 (C.set hb).2.1 (C.set hb).2.2
theorem PO{a:Operand}{g o:Nat}{T:TypeId}{v:Value}(hb:Own w0 y w g cs T)(ht:Yw P t=true)(hx:ρ a= .pointer (some ⟨g,o,none⟩))(hv:cs[o]? =some v)(h:K v w):
  St P ρ ⟨dst,.load t a,ty,pos,after,gd⟩ w K Kp:=P0 ht hx (hb.blk.cell hv) h
theorem QC {a:Operand}  {g o sz:Nat}  {T:TypeId} (hb:Own w0 y w g cs T) (ht:yv P t sz=true) (hx:ρ a= .pointer (some ⟨g,o,none⟩)) (hl:vs.length=sz) (hv:(cs.drop o).take vs.length=vs)
  (h:K (.agg vs.toArray) w):St P ρ ⟨dst,.load t a,ty,pos,after,gd⟩ w K Kp:=QE ht hx hl (hb.blk.cells hv) h
structure ElAt {α:Type} (T:Ty α) (x:Nat→Prop) (w:World) (b o:Nat) (cs:List Value) (u:α):Prop where
 out:¬x b
 rd:T.rd x w cs u
 cell:∀q v,cs[q]? =some v→w.cell? ⟨b,o+q,none⟩=some v
theorem ElAt.tr{α:Type}{T:Ty α}{x x':Nat→Prop}{w w':World}{b o:Nat}{u:α}(h:ElAt T x w b o cs u)(t:Tr x w x' w'):ElAt T x' w' b o cs u:=by
 refine⟨?_,T.tr h.rd t,fun q v hq=>t.cell h.out (h.cell q v hq)⟩;have hp:0<cs.length:=by rw[T.len h.rd];exact T.pos
 have hlt:=World.block_lt_of_cell? w _ (h.cell 0 cs[0] (by simp[hp]));exact fun hx=>h.out (t.sub b hlt hx)
theorem ElAt.sp{α:Type}{T:Ty α}{x y x':Nat→Prop}{w w':World}{b o:Nat}{u:α}(h:ElAt T x w b o cs u)(s:Sp x y w x' y' w' ch):ElAt T x' w' b o cs u:=h.tr s.tx
theorem P4 {α:Type} {T:Ty α} {a i:Operand}  {z:Value}   {n c:Nat} {l:List α} {k:IntKind} {m:Int}  {u:α} (hr:RS T x w (.slice ad n c) l)
  (ht:P.underlying t=some (.slice e)) (hi:Zf P e=some (z,T.sz,by_)) (hx:ρ a= .slice ad n c) (hy:ρ i= .int k m) (hm:m=j) (hj:l[j]? =some u)
  (h:∀b o cs,ElAt T x w b o cs u→K (.pointer (some ⟨b,o,none⟩)) w):St P ρ ⟨dst,.indexAddr t a i,ty,pos,after,gd⟩ w K Kp:=by
 obtain⟨b,o,cs,rfl,hout,hrd,hc⟩:=hr.at hj;obtain⟨_,hi',_,hs,_⟩:=J0 hi;have hlt:j<n:=by
  have:=(RS.le hr).1
  rw[this];rcases TN j l.length with h|h
  ·exact h
  ·rw[TQ h] at hj;cases hj
 exact Rv ht hi' hs hx hy hm hlt (h b _ cs ⟨hout,hrd,hc⟩)
theorem SQ {α:Type} {T:Ty α} {a r:Operand}  {z:Value}   {n c:Nat} {l:List α} {k:IntKind} {m:Int}  (hr:RS T x w (.slice ad n c) l)
  (ht:P.underlying t=some (.slice e)) (hi:Zf P e=some (z,T.sz,by_)) (hx:ρ a= .slice ad n c) (hy:ρ r= .int k m) (hm:m=j) (hj:j≤l.length)
  (h:RS T x w (.slice ad j c) (l.take j)→K (.slice ad j c) w):St P ρ ⟨dst,.slice t a none (some r) none,ty,pos,after,gd⟩ w K Kp:=by
 subst hm;obtain⟨_,hi',_,_,_⟩:=J0 hi;obtain⟨_,_,_⟩:=RS.le hr;have hjc:j≤c:=o
 refine P9 (v:= .slice ad j c) ?_ (h ?_)
 ·simp[execOp,hx,hy,Instr.sliceAt,Instr.slice,run_underlying ht,Instr.sliceBounds,Instr.sliceBound,asIntOf,hjc,sizeOf,typeInfo,hi',Addr.add]
 ·have:=RS.sub hr (Tv j) hj
  simp only[Wh,Nat.sub_zero,Uv,Addr.add_zero'] at this;have e:(if c=0 then ad else Option.map (fun x=>x) ad)=ad:=by split<;>cases ad<;>rfl
  rw[e] at this;exact this
theorem R2 {α:Type} {T:Ty α} {a lo:Operand}  {z:Value}   {n c:Nat} {l:List α} {k:IntKind} {m:Int}  (hr:RS T x w (.slice ad n c) l)
  (ht:P.underlying t=some (.slice e)) (hi:Zf P e=some (z,T.sz,by_)) (hx:ρ a= .slice ad n c) (hy:ρ lo= .int k m) (hm:m=i) (hj:i≤l.length)
  (h:∀ad',RS T x w (.slice ad' (l.length-i) (c-i)) (l.drop i)→K (.slice ad' (l.length-i) (c-i)) w):St P ρ ⟨dst,.slice t a (some lo) none none,ty,pos,after,gd⟩ w K Kp:=by
 subst hm;obtain⟨_,hi',_,hs,_⟩:=J0 hi;obtain⟨hn,_,_⟩:=RS.le hr;subst hn;have hic:i≤l.length:=hj;refine P9 (v:= .slice (if c=i then ad else ad.map (·.add (i*T.sz))) (l.length-i) (c-i)) ?_ (h _ ?_)
 ·simp[execOp,hx,hy,Instr.sliceAt,Instr.slice,run_underlying ht,Instr.sliceBounds,Instr.sliceBound,asIntOf,hic,sizeOf,typeInfo,hi',hs]
 ·have:=RS.sub hr (i:=i) (j:=l.length) hj (Tu _)
  rw[U1] at this;exact this
structure OS {α:Type} (T:Ty α) (E:TypeId) (w0:Bs) (x y:Nat→Prop) (w:World) (v:Value) (l:List α):Prop where
 ex:∃css:List (List Value),css.length=l.length∧(∀(i:Nat) (cs:List Value) (u:α),css[i]? =some cs→l[i]? =some u→T.rd x w cs u)∧w.ownsRow 0 E T.sz v l.length css.flatten
 mem:∀k,v.ownBlock=some k→(x k∧¬y k)∧(w0.heap.size≤k∨w0.M k)
theorem OS.nil{α:Type}{T:Ty α}:OS T E w0 x y w (.slice none 0 0) ([]:List α):=
 ⟨⟨[],rfl,fun _ _ _ h=>by simp at h,World.ownsRow_nil _ _ _ _⟩,fun _ h=>by simp[Value.ownBlock] at h⟩
theorem OS.len{α:Type}{T:Ty α}{v:Value}{l:List α}(h:OS T E w0 x y w v l):∃a c,v= .slice a l.length c∧l.length≤c∧c≤maxLen:=by
 obtain⟨⟨_,_,_,b⟩,_⟩:=h;rcases b.2 with ⟨rfl,h⟩|⟨_,cap,_,rfl,_,_,d,e,_⟩
 ·exact⟨none,0,by rw[h],o,by unfold maxLen;omega⟩
 ·exact⟨_,cap,rfl,d,e⟩
theorem OS.sp{α:Type}{T:Ty α}{v:Value}{l:List α}{x':Nat→Prop}{w':World}(h:OS T E w0 x y w v l)(s:Sp x y w x' y' w' ch)(C:Cx X0 w0 x' y' w')(hup:∀b,x b→x' b):OS T E w0 x' y' w' v l:=by
 obtain⟨⟨css,d,e,a⟩,hm⟩:=h;refine⟨⟨css,d,fun i cs u hi hl=>T.tr (e i cs u hi hl) s.tx,a.1,?_⟩,?_⟩
 ·rcases a.2 with h|⟨g,cap,cur,rfl,hb,hg,r⟩
  ·exact .inl h
  ·refine .inr ⟨g,cap,cur,rfl,hb,?_,r⟩;rw[s.ty.blk g (TY.1 hg).1 (hm g ϱ).1.2];exact hg
 ·intro k hk;have hlt:=(a.lt k hk).2;exact⟨⟨hup k (hm k hk).1.1,fun hy=>(hm k hk).1.2 (s.ty.sub k hlt hy)⟩,(hm k hk).2⟩
theorem yq{sz:Nat}:∀(css:List (List Value)),(∀cs∈css,cs.length=sz)→∀(i j:Nat) (cs:List Value),css[i]? =some cs→j<cs.length→css.flatten[i*sz+j]? =cs[j]? :=by
 intro css
 induction css with
 |nil=>intro _ i j cs h;simp at h
 |cons c css ih=>
  intro hs i j cs hi hj;have hc:=hs c χ;rw[Uy];cases i with
  |zero=>
   simp at hi;subst hi;rw[Wh,Wg,Uz hj]
  |succ i=>
   rw[UA (by rw[hc,Wb];omega)]
   have:=ih (fun cs h=>hs cs WY) i j cs ς hj
   rw[←this]
   congr 1
   rw[hc,Wb];omega
theorem OS.toRS{α:Type}{T:Ty α}{v:Value}{l:List α}(h:OS T E w0 x y w v l)(C:Cx X0 w0 x y w)(hX:∀b,X0 b→b<w0.heap.size)(hM:∀b,w0.M b→y b:=by exact fun _ h=>False.elim h):RS T X0 w v l:=by
 obtain⟨⟨css,k,a,d⟩,hm⟩:=h;rcases d.2 with ⟨rfl,h⟩|⟨g,cap,_,rfl,_,_,m,p,_⟩
 ·exact⟨none,0,by rw[h],o,by unfold maxLen;omega,.inl (TD h)⟩
 ·refine⟨_,cap,rfl,m,p,?_⟩;by_cases hl:l=[]
  ·exact .inl hl
  ·refine .inr ⟨g,0,rfl,fun hx=>by
    have s:=hX g hx
    rcases(hm g rfl).2 with e|e
    ·omega
    ·exact(hm g r).1.2 (hM g e),?_⟩
   intro i u hi;have hlt:i<l.length:=by
    rcases TN i l.length with h|h
    ·exact h
    ·rw[TQ h] at hi;cases hi
   have hci:css[i]? =some css[i]:=by simp[k,hlt]
   have hr:=a i _ u hci hi;refine⟨css[i],T.tr hr (Tr.weak C.base),?_⟩;intro j v hv;have hall:∀cs∈css,cs.length=T.sz:=by
    intro cs hcs;obtain⟨q,hq,rfl⟩:=UP.1 hcs;have hq':q<l.length:=o
    exact T.len (a q _ l[q] WG W3)
   have hj:j<css[i].length:=by
    rcases TN j css[i].length with h|h
    ·exact h
    ·rw[TQ h] at hv;cases hv
   have:=yq css hall i j _ hci hj
   rw[hv] at this;have hcell:=d.cells (g:=g) r (i*T.sz+j) v this;rw[Addr.add_lit] at hcell;rw[show 0+i*T.sz+j=0+(i*T.sz+j) by omega];exact hcell
end
def mixL(vals:List (Nat×Value))(mods:List Nat)(f f0:Fr):Fr:=fun t=>match vals.lookup t with
 |some v=>v
 |none=>if mods.contains t then f t else f0 t
theorem nZ:∀(vals:List (Nat×Value)) (t:Nat) (v:Value),vals.lookup t=some v→(t,v)∈vals:=by
 intro vals
 induction vals with
 |nil=>intro t v h;cases h
 |cons p r ih=>
  intro t v h;obtain⟨k,_⟩:=p;rw[List.lookup_cons] at h;split at h
  ·rename_i e;have e':t=k:=by simpa using e
   cases h;subst e';exact List.mem_cons_self
  ·exact UM _ (ih t v h)
theorem Keep.mix{f0 f:Fr}(h:Keep mods f0 f)(vals:List (Nat×Value))(hv:∀p∈vals,f p.1=p.2):∃f',f=mixL vals mods f' f0:=by
 refine⟨f,?_⟩
 funext t
 unfold mixL;split
 ·rename_i v hl;exact hv (t,v) (nZ _ _ _ hl)
 ·split
  ·rfl
  ·rename_i hm;exact h t (by simpa using hm)
theorem Keep.upd{f f0:Fr}{d:Nat}{v:Value}(hd:mods.contains d=true)(h:Keep mods f0 f):Keep mods f0 (upd f d v):=by
 intro t ht;unfold Wf.upd;split
 ·rename_i e;subst e;rw[hd] at ht;cases ht
 ·exact h t ht
theorem MV{f:Fr}:∀p∈([]:List (Nat×Value)),f p.1=p.2:=fun _ h=>by cases h
theorem IC{f:Fr}{d:Nat}{u:Value}{r:List (Nat×Value)}(hd:f d=u)(h:∀p∈r,f p.1=p.2):∀p∈(d,u)::r,f p.1=p.2:=by
 intro p hp;cases hp with
 |head=>exact hd
 |tail _ hp=>exact h p hp
theorem Keep.updO{f f0:Fr}{d:Nat}{v:Value}(hd:mods.contains d=true)(h:Keep mods f0 f):Keep mods f0 (Wf.updO f (some d) v):=Keep.upd hd h
abbrev Gh:=(Nat→Prop)×(Nat→Prop)
structure RC (X0:Nat→Prop) (w0:Bs) (s:Gh) (w:World) (s':Gh) (w':World):Prop where
 cx:Cx X0 w0 s'.1 s'.2 w'
 sp:Sp s.1 s.2 w s'.1 s'.2 w' Zl
theorem Sp.trans{x y x' x'' y'':Nat→Prop}{a b c:World}(h:Sp x y a x' y' b Zl)(k:Sp x' y' b x'' y'' c Zl):Sp x y a x'' y'' c Zl:=
 ⟨h.tx.trans k.tx,h.ty.trans k.ty,fun b hb=>k.up b (h.up b hb),fun b hb _=>(k.same b (Ti hb h.tx.size) id).trans (h.same b hb id)⟩
theorem Sp.refl{x y:Nat→Prop}{w:World}:Sp x y w x y w Zl:=⟨Tr.refl _ _,Tr.refl _ _,fun _ h=>h,fun _ _ _=>rfl⟩
theorem RC.trans{X0:Nat→Prop}{w0:Bs}:∀(s:Gh) (a:World) (t:Gh) (b:World) (u:Gh) (c:World),RC X0 w0 s a t b→RC X0 w0 t b u c→RC X0 w0 s a u c:=
 fun _ _ _ _ _ _ h k=>⟨k.cx,h.sp.trans k.sp⟩
theorem RB{X0:Nat→Prop}{w0:Bs}{x y:Nat→Prop}{w:World}(C:Cx X0 w0 x y w):RC X0 w0 (x,y) w (x,y) w.drew:=
 let ⟨c,s⟩:=C.next (Below.refl _ _).drew;⟨c,s⟩
theorem PQ{X0:Nat→Prop}{w0:Bs}{s:Gh}{w:World}(C:Cx X0 w0 s.1 s.2 w):RC X0 w0 s w s w:=⟨C,Sp.refl⟩
theorem P1 {P:Program} {ops:Array Oper} {f:Fr} {w:World} {K:Value→World→Prop} {Kp:List PanicEntry→World→Prop} {dst:Option Tmp} {op:Op} {ty:TypeId} {pos:String} {after:Array Edge}
  (h:St P (fe f) ⟨dst,op,ty,pos,after,none⟩ w K Kp):OpSt P ops f ⟨dst,op,ty,pos,after,none⟩ w K Kp:=by
 unfold OpSt;exact h
theorem PY {P:Program} {ops:Array Oper} {f:Fr} {w:World} {K:Value→World→Prop} {Kp:List PanicEntry→World→Prop} {dst:Option Tmp} {op:Op} {ty:TypeId} {pos:String} {after:Array Edge}  {b:Bool}
  (hy:Zk ops f j=some b) (h:St P (fe f) ⟨dst,op,ty,pos,after,some (j,b)⟩ w K Kp):OpSt P ops f ⟨dst,op,ty,pos,after,some (j,b)⟩ w K Kp:=by
 unfold OpSt;rw[if_pos (by simp only[Region.wanted,hy,beq_self_eq_true])];exact h
theorem OpSt.opn {P:Program} {ops:Array Oper} {f:Fr} {w:World} {K:Value→World→Prop} {Kp:List PanicEntry→World→Prop} {dst:Option Tmp} {op:Op} {ty:TypeId} {pos:String} {after:Array Edge}  {b c:Bool}
  (hy:Zk ops f j=some c) (hc:(some c==some b)=false) (h:K undef w):OpSt P ops f ⟨dst,op,ty,pos,after,some (j,b)⟩ w K Kp:=by
 unfold OpSt;rw[if_neg (by simp only[Region.wanted,hy,hc];simp)];exact h
theorem RV.int{X:Nat→Prop}{w:World}{v:Value}{x:GInt}(h:RV Z0 X w v x):∃a c,v= .agg #[.bool x.neg,.slice a x.mag.length c]∧RS Jh X w (.slice a x.mag.length c) x.mag:=by
 obtain⟨_,rfl,_,rfl,h⟩:=h;obtain⟨a,c,rfl,_⟩:=h.len;exact⟨a,c,rfl,h⟩
theorem Jl{X:Nat→Prop}{w:World}{s:Value}{b:Bool}{l:List Nat}(h:RS Jh X w s l):RV Z0 X w (.agg #[.bool b,s]) ⟨b,l⟩:=⟨[_,_],rfl,s,rfl,h⟩
theorem ST{X:Nat→Prop}{w:World}{v:Value}{x:GRat}(h:RV Y6 X w v x):∃a c a' c',v= .agg #[.bool x.num.neg,.slice a x.num.mag.length c,.bool x.den.neg,.slice a' x.den.mag.length c']∧
  RS Jh X w (.slice a x.num.mag.length c) x.num.mag∧RS Jh X w (.slice a' x.den.mag.length c') x.den.mag:=by
 obtain⟨_,rfl,_,_,rfl,h,k⟩:=h;obtain⟨a,c,rfl,_⟩:=h.len;obtain⟨a',c',rfl,_⟩:=k.len;exact⟨a,c,a',c',rfl,h,k⟩
theorem Jz{X:Nat→Prop}{w:World}{s t:Value}{b d:Bool}{l m:List Nat}(h:RS Jh X w s l)(k:RS Jh X w t m):RV Y6 X w (.agg #[.bool b,s,.bool d,t]) ⟨⟨b,l⟩,⟨d,m⟩⟩:=⟨[_,_,_,_],rfl,s,t,rfl,h,k⟩
structure ExprParts (X:Nat→Prop) (w:World) (e:GExpr) (a1:Option Addr) (c1:Nat) (a2:Option Addr) (c2:Nat) (a3:Option Addr) (c3:Nat) (a4:Option Addr) (c4:Nat):Prop where
 lo: -9223372036854775808≤e.op
 hi:e.op≤9223372036854775807
 name:e.name.length≤maxLen
 n:RS Zg X w (.slice a1 e.n.length c1) e.n
 num:RS Jh X w (.slice a2 e.c.num.mag.length c2) e.c.num.mag
 den:RS Jh X w (.slice a3 e.c.den.mag.length c3) e.c.den.mag
 args:RS Jc X w (.slice a4 e.args.length c4) e.args
abbrev ec(e:GExpr)(a1:Option Addr)(c1:Nat)(a2:Option Addr)(c2:Nat)(a3:Option Addr)(c3:Nat)(a4:Option Addr)(c4:Nat):List Value:=
 [.int .i64 e.op,.slice a1 e.n.length c1,.bool e.c.num.neg,.slice a2 e.c.num.mag.length c2,.bool e.c.den.neg,.slice a3 e.c.den.mag.length c3,str e.name,.slice a4 e.args.length c4]
abbrev ea(e:GExpr)(a1:Option Addr)(c1:Nat)(a2:Option Addr)(c2:Nat)(a3:Option Addr)(c3:Nat)(a4:Option Addr)(c4:Nat):Value:=
 .agg #[.int .i64 e.op,.slice a1 e.n.length c1,.bool e.c.num.neg,.slice a2 e.c.num.mag.length c2,.bool e.c.den.neg,.slice a3 e.c.den.mag.length c3,str e.name,.slice a4 e.args.length c4]
theorem Jb{X:Nat→Prop}{w:World}{e:GExpr}(h:Jc.rd X w cs e):∃a1 c1 a2 c2 d g i j,cs=[.int .i64 e.op,.slice a1 e.n.length c1,.bool e.c.num.neg,.slice a2 e.c.num.mag.length c2,.bool e.c.den.neg,.slice d e.c.den.mag.length g,str e.name,.slice i e.args.length j]∧
  ExprParts X w e a1 c1 a2 c2 d g i j:=by
 obtain⟨_,_,_,_,rfl,v,z,A,l,m,p,s⟩:=nL.1 h;obtain⟨a1,c1,rfl,_⟩:=l.len;obtain⟨a2,c2,rfl,_⟩:=m.len;obtain⟨d,g,rfl,_⟩:=p.len;obtain⟨i,j,rfl,_⟩:=s.len;exact⟨a1,c1,a2,c2,d,g,i,j,rfl,v,z,A,l,m,p,s⟩
theorem SR{X:Nat→Prop}{w:World}{v:Value}{e:GExpr}(h:RV Jc X w v e):∃a1 c1 a2 c2 d g i j,
  v= .agg #[.int .i64 e.op,.slice a1 e.n.length c1,.bool e.c.num.neg,.slice a2 e.c.num.mag.length c2,.bool e.c.den.neg,.slice d e.c.den.mag.length g,str e.name,.slice i e.args.length j]∧
  ExprParts X w e a1 c1 a2 c2 d g i j:=by
 obtain⟨_,rfl,h⟩:=h;obtain⟨a1,c1,a2,c2,d,g,i,j,rfl,h'⟩:=Jb h;exact⟨a1,c1,a2,c2,d,g,i,j,rfl,h'⟩
theorem Vg {X:Nat→Prop} {w:World} {g h i j:Value} {o:Int} {b d:Bool} {nm:List UInt8} {l:List Int} {m1 m2:List Nat} {e:List GExpr} (m: -9223372036854775808≤o) (p:o≤9223372036854775807) (s:nm.length≤maxLen)
  (v:RS Zg X w g l) (z:RS Jh X w h m1) (A:RS Jh X w i m2) (B:RS Jc X w j e):
  Jc.rd X w [.int .i64 o,g,.bool b,h,.bool d,i,str nm,j] (.mk o l ⟨⟨b,m1⟩,⟨d,m2⟩⟩ nm e):=nL.2 ⟨g,h,i,j,rfl,m,p,s,v,z,A,B⟩
theorem Zb {X:Nat→Prop} {w:World} {g h i j:Value} {o:Int} {b d:Bool} {nm:List UInt8} {l:List Int} {m1 m2:List Nat} {e:List GExpr} (m: -9223372036854775808≤o) (p:o≤9223372036854775807) (s:nm.length≤maxLen)
  (v:RS Zg X w g l) (z:RS Jh X w h m1) (A:RS Jh X w i m2) (B:RS Jc X w j e):
  RV Jc X w (.agg #[.int .i64 o,g,.bool b,h,.bool d,i,str nm,j]) (.mk o l ⟨⟨b,m1⟩,⟨d,m2⟩⟩ nm e):=⟨_,rfl,Vg m p s v z A B⟩
theorem Rc{w w':World}{Φ:Value→World→Prop}{v:Value}(h:Φ v w')(b:Bel w w'):Ret w Φ (.returned v) w':=⟨h,⟨b.os,b.tape,b.output,b.size,fun k hk=>b.block k hk id⟩⟩
theorem RetM.intro{w w':World}{g:Nat}{Φ:Value→World→Prop}{v:Value}(h:Φ v w')(b:Bel ⟨w,(· =g)⟩ w'):RetM w g Φ (.returned v) w':=⟨h,b⟩
section
variable {P:Program} {fn:Func} {R:Ending→World→Prop} {f:Fr} {w:World}
theorem x9(hr:fn.results= #[]):∀tmps:Array Value,(∀t,tmps.getD t undef=f t)→(results fn tmps).run P w= .ok (.tuple #[]) w:=by
 intro tmps _;simp[results,hr]
theorem uv(hr:fn.results= #[])(h:R (.returned (.tuple #[])) w):retQ P fn R .ret f w:=⟨_,x9 hr,h⟩
theorem Kl(hr:fn.results= #[])(h:R (.returned (.tuple #[])) w):retQ P fn R .normal f w:=⟨_,x9 hr,h⟩
def resV(f:Fr)(w:World):ResultVar→Value→Prop
 |.tmp t,v=>f t=v
 |.cell p t,v=>∃(g o sz:Nat) (cs:List Value),f p= .pointer (some ⟨g,o,none⟩)∧v= .agg cs.toArray∧cs.length=sz∧yv P t sz=true∧∀j u,cs[j]? =some u→w.cell? ⟨g,o+j,none⟩=some u
def resM(tmps:Array Value):ResultVar→Sem Value
 |.tmp t=>pure (tmps.getD t undef)
 |.cell a t=>do loadVar t (←asAddr (tmps.getD a undef))
theorem Vu(tmps:Array Value):results fn tmps=(do let vs ←fn.results.mapM (resM tmps);pure (if h:vs.size=1 then vs[0] else .tuple vs)):=by
 unfold results
 congr 1
theorem V1{r:ResultVar}{v:Value}(h:resV (P:=P) f w r v)(tmps:Array Value)(ht:∀t,tmps.getD t undef=f t):
  (resM tmps r).run P w= .ok v w:=by
 unfold resM;cases r with
 |tmp t=>
  have:f t=v:=h
  simp only[Sem.run_pure,ht t,this]
 |cell p t=>
  obtain⟨g,o,_,cs,hp,rfl,hl,ha,hc⟩:=h
  have:=run_loadCells_list (P:=P) (w:=w) ⟨g,o,none⟩ cs (fun j v hv=>by rw[Addr.add_lit];exact hc j v hv)
  rw[hl] at this;simp only[ht p,hp];simp[asAddr,loadVar,qd ha,this]
theorem px{r:ResultVar}{v:Value}(hr:fn.results= #[r])(h:resV (P:=P) f w r v):∀tmps:Array Value,(∀t,tmps.getD t undef=f t)→(results fn tmps).run P w= .ok v w:=by
 intro tmps ht
 have:=V1 h tmps ht
 simp only[Vu,hr,UJ,List.mapM_cons,List.mapM_nil,Sem.run_bind,Sem.run_map];rw[this];simp
theorem Kd{r:ResultVar}{v:Value}(hr:fn.results= #[r])(h:resV (P:=P) f w r v)(hR:R (.returned v) w):retQ P fn R .ret f w:=⟨v,px hr h,hR⟩
theorem oJ{r s:ResultVar}{v u:Value}(hr:fn.results= #[r,s])(h:resV (P:=P) f w r v)(k:resV (P:=P) f w s u):∀tmps:Array Value,(∀t,tmps.getD t undef=f t)→(results fn tmps).run P w= .ok (.tuple #[v,u]) w:=by
 intro tmps ht;have d:=V1 h tmps ht;have e:=V1 k tmps ht;simp only[Vu,hr,UJ,List.mapM_cons,List.mapM_nil,Sem.run_bind,Sem.run_map];rw[d];simp only[Result.andThen_ok];rw[e];simp
theorem rN{r s:ResultVar}{v u:Value}(hr:fn.results= #[r,s])(h:resV (P:=P) f w r v)(k:resV (P:=P) f w s u)(hR:R (.returned (.tuple #[v,u])) w):retQ P fn R .ret f w:=⟨_,oJ hr h k,hR⟩
theorem oZ{r s q:ResultVar}{v u z:Value}(hr:fn.results= #[r,s,q])(h:resV (P:=P) f w r v)(k:resV (P:=P) f w s u)(m:resV (P:=P) f w q z):∀tmps:Array Value,(∀t,tmps.getD t undef=f t)→(results fn tmps).run P w= .ok (.tuple #[v,u,z]) w:=by
 intro tmps ht;have d:=V1 h tmps ht;have e:=V1 k tmps ht;have g:=V1 m tmps ht;simp only[Vu,hr,UJ,List.mapM_cons,List.mapM_nil,Sem.run_bind,Sem.run_map];rw[d];simp only[Result.andThen_ok];rw[e];simp only[Result.andThen_ok];rw[g];simp
theorem rv{r s q:ResultVar}{v u z:Value}(hr:fn.results= #[r,s,q])(h:resV (P:=P) f w r v)(k:resV (P:=P) f w s u)(m:resV (P:=P) f w q z)(hR:R (.returned (.tuple #[v,u,z])) w):retQ P fn R .ret f w:=⟨_,oZ hr h k m,hR⟩
theorem SV{t:Nat}{v:Value}(h:f t=v):resV (P:=P) f w (.tmp t) v:=h
theorem resV.c{t g sz:Nat}{w0:Bs}{y:Nat→Prop}{T:TypeId}(hb:Own w0 y w g cs T)(hp:f p= .pointer (some ⟨g,0,none⟩))(ha:yv P t sz=true)(hl:cs.length=sz):resV (P:=P) f w (.cell p t) (.agg cs.toArray):=
 ⟨g,0,sz,cs,hp,rfl,hl,ha,hb.blk.cells χ⟩
end
section
variable {P:Program} {ρ:Operand→Value} {dst:Option Tmp} {ty:TypeId} {pos:String} {after:Array Edge} {gd:Option (Nat×Bool)}
 {w:World} {K:Value→World→Prop} {Kp:List PanicEntry→World→Prop} {X0 x y:Nat→Prop} {w0:Bs}
theorem PX{parts:Array (Nat×Operand)}(hp:(parts.toList.map fun p=>(p.1,ρ p.2))=ps)(hb:P.built t ps=some cs.toArray)(h:K (.agg cs.toArray) w):
  St P ρ ⟨dst,.build t parts,ty,pos,after,gd⟩ w K Kp:=by
 refine P9 (v:= .agg cs.toArray) ?_ h;have e:(parts.map fun(i,x)=>(i,ρ x)).toList=ps:=by rw[←hp];simp
 have:=run_build (P:=P) w t (parts.map fun(i,x)=>(i,ρ x)) cs.toArray (by rw[e];exact hb)
 simp[execOp,this]
def zx(z:Value)(sz len:Nat)(ps:List (Nat×Value)):Option (Array Value):=
 Instr.fill (fun i=>some (i*sz,sz)) ((Array.range (len*sz)).map (z.cells[· % z.cells.size]!)) ps
theorem z8  {z:Value} {sz len:Nat} {ps:Array (Nat×Value)}  (ht:P.underlying t=some (.slice e)) (hi:Zf P e=some (z,sz,by_)) (hpos:0<sz) (d:0<len) (hl:len*sz≤2^24)
  (hc:zx z sz len ps.toList=some cs.toArray):(Instr.buildSlice t len ps).run P w= .ok (.slice (some ⟨w.heap.size,0,none⟩) len len) (w.alloc (.cells cs.toArray e (0,0))):=by
 obtain⟨i,hi',hz,hs,_⟩:=J0 hi;subst hs;have g:¬(len*i.size>2^24):=o
 have h:¬(len*i.size=0):=Nat.ne_of_gt (VT d hpos);unfold zx at hc;simp[Instr.buildSlice,run_underlying ht,sizeOf,typeInfo,hi',g,h,zeroValue,hz,hc,newRow]
end
section
variable {P:Program} {ρ:Operand→Value} {dst:Option Tmp} {ty:TypeId} {pos:String} {after:Array Edge} {gd:Option (Nat×Bool)}
 {w:World} {K:Value→World→Prop} {Kp:List PanicEntry→World→Prop} {x y:Operand} {xt yt:TypeId} {k:IntKind} {a b:Int}
theorem PW(hx:ρ x= .int k a)(hy:ρ y= .int k b)(ht:a=b→K (.bool true) w)(hf:¬a=b→K (.bool false) w):St P ρ ⟨dst,.binOp .eql xt x y yt,ty,pos,after,gd⟩ w K Kp:=by
 by_cases h:a=b
 ·exact QZ hx hy (decide_eq_true h) (ht h)
 ·exact QZ hx hy (decide_eq_false h) (hf h)
theorem QH(hx:ρ x= .int k a)(hy:ρ y= .int k b)(ht:¬a=b→K (.bool true) w)(hf:a=b→K (.bool false) w):St P ρ ⟨dst,.binOp .neq xt x y yt,ty,pos,after,gd⟩ w K Kp:=by
 by_cases h:a=b
 ·exact Rj hx hy (by rw[decide_eq_true h];rfl) (hf h)
 ·exact Rj hx hy (by rw[decide_eq_false h];rfl) (ht h)
theorem P2(hx:ρ x= .int k a)(hy:ρ y= .int k b)(ht:a<b→K (.bool true) w)(hf:¬a<b→K (.bool false) w):St P ρ ⟨dst,.binOp .lss xt x y yt,ty,pos,after,gd⟩ w K Kp:=by
 by_cases h:a<b
 ·exact Rn hx hy (decide_eq_true h) (ht h)
 ·exact Rn hx hy (decide_eq_false h) (hf h)
theorem Rt(hx:ρ x= .int k a)(hy:ρ y= .int k b)(ht:a≤b→K (.bool true) w)(hf:¬a≤b→K (.bool false) w):St P ρ ⟨dst,.binOp .leq xt x y yt,ty,pos,after,gd⟩ w K Kp:=by
 by_cases h:a≤b
 ·exact Rx hx hy (decide_eq_true h) (ht h)
 ·exact Rx hx hy (decide_eq_false h) (hf h)
theorem QN(hx:ρ x= .int k a)(hy:ρ y= .int k b)(ht:b<a→K (.bool true) w)(hf:¬b<a→K (.bool false) w):St P ρ ⟨dst,.binOp .gtr xt x y yt,ty,pos,after,gd⟩ w K Kp:=by
 by_cases h:b<a
 ·exact Rw hx hy (decide_eq_true h) (ht h)
 ·exact Rw hx hy (decide_eq_false h) (hf h)
theorem Ra(hx:ρ x= .int k a)(hy:ρ y= .int k b)(ht:b≤a→K (.bool true) w)(hf:¬b≤a→K (.bool false) w):St P ρ ⟨dst,.binOp .geq xt x y yt,ty,pos,after,gd⟩ w K Kp:=by
 by_cases h:b≤a
 ·exact R1 hx hy (decide_eq_true h) (ht h)
 ·exact R1 hx hy (decide_eq_false h) (hf h)
theorem QF{o:Oper}(h:St P ρ o w (fun v w'=>∃b,v= .bool b∧(b=true→K (.bool true) w')∧(b=false→K (.bool false) w')) Kp):St P ρ o w K Kp:=by
 refine h.mono ?_ fun _ _ h=>h
 rintro v w' ⟨b,rfl,d,e⟩;cases b
 ·exact e r
 ·exact d r
theorem QW{x:Operand}(ht:P.underlying t=some .string)(hx:ρ x=str s)(h:K (.int .i64 s.length) w):
  St P ρ ⟨dst,.call {callee:= .builtin .len,args:= #[x],argTypes:= #[t]},ty,pos,after,gd⟩ w K Kp:=by
 refine S7 ht hx ?_
 have:(⟨s.toArray⟩:ByteArray).size=s.length:=by simp[ByteArray.size]
 rw[this];exact h
theorem QK{t:List UInt8}(hx:ρ x=str s)(hy:ρ y=str t)(ht:s=t→K (.bool true) w)(hf:¬s=t→K (.bool false) w):St P ρ ⟨dst,.binOp .eql xt x y yt,ty,pos,after,gd⟩ w K Kp:=by
 by_cases h:s=t
 ·exact Sw hx hy d' (ht h)
 ·exact Sw hx hy d' (hf h)
theorem RX{t:List UInt8}(hx:ρ x=str s)(hy:ρ y=str t)(ht:¬s=t→K (.bool true) w)(hf:s=t→K (.bool false) w):St P ρ ⟨dst,.binOp .neq xt x y yt,ty,pos,after,gd⟩ w K Kp:=by
 by_cases h:s=t
 ·exact SG hx hy d' (hf h)
 ·exact SG hx hy d' (ht h)
theorem QG{t:List UInt8}(hx:ρ x=str s)(hy:ρ y=str t)(hl:s.length+t.length≤9223372036854775807)(h:K (str (s++t)) w):St P ρ ⟨dst,.binOp .add xt x y yt,ty,pos,after,gd⟩ w K Kp:=by
 refine S6 hx hy ?_ ?_
 ·simp[ByteArray.size];exact hl
 ·have:(⟨s.toArray⟩:ByteArray)++⟨t.toArray⟩=⟨(s++t).toArray⟩:=by
   apply ByteArray.ext;simp[ByteArray.data_append]
  rw[this];exact h
theorem QO{x i:Operand}{k:IntKind}{a:Int}{c:UInt8}(ht:P.underlying t=some .string)(hx:ρ x=str s)(hi:ρ i= .int k a)(ha:a=j)(hj:s[j]? =some c)(h:K (.int .u8 c.toNat) w):
  St P ρ ⟨dst,.index t x i,ty,pos,after,gd⟩ w K Kp:=by
 have hlt:j<s.length:=by
  rcases TN j s.length with h|h
  ·exact h
  ·rw[TQ h] at hj;cases hj
 refine SC (j:=j) ht hx hi ha YP ?_
 have:(⟨s.toArray⟩:ByteArray)[j]'YP=c:=by
  have:s[j]=c:=by rw[Tt hlt] at hj;exact Wn hj
  rw[←this];rfl
 rw[this];exact h
theorem zi(s:List UInt8)(i j:Nat):(⟨s.toArray⟩:ByteArray).extract i j=⟨((s.take j).drop i).toArray⟩:=by
 apply ByteArray.ext;rw[ByteArray.data_extract];apply TX;simp[List.drop_take]
theorem RJ {x:Operand}   {l r:Operand} {kr:IntKind} {a b:Int}  (ht:P.underlying t=some .string) (hx:ρ x=str s) (hl:ρ l= .int kl a) (hr:ρ r= .int kr b) (ha:a=i) (hb:b=j) (hij:i≤j) (hj:j≤s.length)
  (h:K (str ((s.take j).drop i)) w):St P ρ ⟨dst,.slice t x (some l) (some r) none,ty,pos,after,gd⟩ w K Kp:=by
 refine SH ht hx hl hr ha hb hij (by simp[ByteArray.size];exact hj) ?_;rw[zi];exact h
theorem RH {x:Operand}   {l:Operand}  {a:Int}  (ht:P.underlying t=some .string) (hx:ρ x=str s) (hl:ρ l= .int kl a) (ha:a=i) (hij:i≤s.length)
  (h:K (str (s.drop i)) w):St P ρ ⟨dst,.slice t x (some l) none none,ty,pos,after,gd⟩ w K Kp:=by
 refine So ht hx hl ha (by simp[ByteArray.size];exact hij) ?_
 have:(⟨s.toArray⟩:ByteArray).size=s.length:=by simp[ByteArray.size]
 rw[zi,this,U1];exact h
theorem Sm {x:Operand}   {r:Operand} {kr:IntKind} {b:Int}  (ht:P.underlying t=some .string) (hx:ρ x=str s) (hr:ρ r= .int kr b) (hb:b=j) (hj:j≤s.length)
  (h:K (str (s.take j)) w):St P ρ ⟨dst,.slice t x none (some r) none,ty,pos,after,gd⟩ w K Kp:=by
 refine Sl ht hx hr hb (by simp[ByteArray.size];exact hj) ?_;rw[zi,Uv];exact h
end
theorem SS{α:Type}{T:Ty α}{X:Nat→Prop}{w:World}{v:Value}{a b:α}(h:RV T X w v a)(e:a=b):RV T X w v b:=e▸h
theorem SX{α:Type}{T:Ty α}{X:Nat→Prop}{w:World}{v:Value}{a b:List α}(h:RS T X w v a)(e:a=b):RS T X w v b:=e▸h
theorem ExprParts.tr {x x':Nat→Prop} {w w':World} {e:GExpr} {a1:Option Addr}  {a2:Option Addr}  {d:Option Addr} {g:Nat} {i:Option Addr} 
  (h:ExprParts x w e a1 c1 a2 c2 d g i j) (s:Tr x w x' w'):ExprParts x' w' e a1 c1 a2 c2 d g i j:=⟨h.lo,h.hi,h.name,h.n.tr s,h.num.tr s,h.den.tr s,h.args.tr s⟩
theorem ExprParts.sp {x y x':Nat→Prop} {w w':World}  {e:GExpr} {a1:Option Addr}  {a2:Option Addr}  {d:Option Addr} {g:Nat} {i:Option Addr} 
  (h:ExprParts x w e a1 c1 a2 c2 d g i j) (s:Sp x y w x' y' w' ch):ExprParts x' w' e a1 c1 a2 c2 d g i j:=⟨h.lo,h.hi,h.name,h.n.sp s,h.num.sp s,h.den.sp s,h.args.sp s⟩
def u32v(n:Nat):Value:= .int .u32 n
theorem l9{w:World}{b o:Nat}{k:Nat}(h:∀q v,cs[q]? =some v→w.cell? ⟨b,o+q,none⟩=some v)(e:(cs.drop k).take cs'.length=cs'):∀q v,cs'[q]? =some v→w.cell? ⟨b,o+k+q,none⟩=some v:=by
 intro q v hq;rw[←e,UD] at hq;split at hq
 ·rw[UB] at hq
  have:=h _ _ hq
  rw[show o+k+q=o+(k+q) by omega];exact this
 ·cases hq
theorem K4{a:Int}(h: -9223372036854775807≤a∧a≤9223372036854775807):IntKind.i64.wrap (0-a)= -a:=by rw[Tz _ o];omega
theorem J5(n:Nat):IntKind.u32.wrap (n:Int)=((n%4294967296:Nat):Int):=by rw[IntKind.wrap_u32];omega
theorem Y0(n:Nat):IntKind.u8.wrap (n:Int)=((n%256:Nat):Int):=by rw[IntKind.wrap_u8];omega
theorem Ja{a b:Nat}(h:a+b≤9223372036854775807):IntKind.i64.wrap ((a:Int)+(b:Int))=((a+b:Nat):Int):=by rw[Tz _ o];omega
theorem Yz{a b:Nat}(h:a+b≤18446744073709551615):IntKind.u64.wrap ((a:Int)+(b:Int))=((a+b:Nat):Int):=by rw[Tw _ o];omega
theorem K3{a b:Nat}(h:a*b≤9223372036854775807):IntKind.i64.wrap ((a:Int)*(b:Int))=((a*b:Nat):Int):=by rw[←T9,Tz _ o]
theorem Xj{a b:Nat}(h:a*b≤18446744073709551615):IntKind.u64.wrap ((a:Int)*(b:Int))=((a*b:Nat):Int):=by rw[←T9,Tw _ o]
theorem Zy{a b:Nat}(h:b≤a)(d:a≤9223372036854775807):IntKind.i64.wrap ((a:Int)-(b:Int))=((a-b:Nat):Int):=by rw[Tz _ o];omega
theorem xi{a b:Nat}(h:b≤a)(d:a≤255):IntKind.u8.wrap ((a:Int)-(b:Int))=((a-b:Nat):Int):=by rw[IntWalk.u8_in _ o];omega
theorem yg{a b:Nat}(h:b≤a)(d:a≤18446744073709551615):IntKind.u64.wrap ((a:Int)-(b:Int))=((a-b:Nat):Int):=by rw[Tw _ o];omega
theorem ym{a b:Nat}(h:a≤18446744073709551615):IntKind.u64.wrap ((a:Int).tdiv (b:Int))=((a/b:Nat):Int):=by
 have:=VA a b
 rw[show((a:Int).tdiv (b:Int))=((a/b:Nat):Int) from rfl];generalize a/b=q at this ⊢;rw[Tw _ o]
theorem K7{a b:Nat}(h:a≤9223372036854775807):IntKind.i64.wrap ((a:Int).tdiv (b:Int))=((a/b:Nat):Int):=by
 have:=VA a b
 rw[show((a:Int).tdiv (b:Int))=((a/b:Nat):Int) from rfl];generalize a/b=q at this ⊢;rw[Tz _ o]
theorem rR{a b:Nat}(h:a≤4294967295):IntKind.u32.wrap ((a:Int).tdiv (b:Int))=((a/b:Nat):Int):=by
 have:=VA a b
 rw[show((a:Int).tdiv (b:Int))=((a/b:Nat):Int) from rfl];generalize a/b=q at this ⊢;rw[IntWalk.u32_in _ o]
theorem yu(a b:Nat):(a:Int).tmod (b:Int)=((a%b:Nat):Int):=rfl
theorem Ka(a:Nat){e:Int}{d:Nat}(h:e=(d:Int)):(a:Int)/e=((a/d:Nat):Int):=by subst h;rfl
theorem Je{α:Type}[Inhabited α]{l:List α}{d:α}(h:i<l.length):l[i]? =some (l.getD i d):=by
 rw[Tq,Tt h];rfl
section
variable {P:Program} {ρ:Operand→Value} {dst:Option Tmp} {ty:TypeId} {pos:String} {after:Array Edge} {gd:Option (Nat×Bool)}
 {w:World} {K:Value→World→Prop} {Kp:List PanicEntry→World→Prop} {X0 x y:Nat→Prop} {w0:Bs}
theorem QX {a i:Operand}  {z:Value} {g n c:Nat} {k:IntKind} {m:Int}  (ht:P.underlying t=some (.slice e)) (hi:Zf P e=some (z,1,by_))
  (hx:ρ a= .slice (some ⟨g,0,none⟩) n c) (hy:ρ i= .int k m) (hm:m=j) (hj:j<n) (h:K (.pointer (some ⟨g,j,none⟩)) w):St P ρ ⟨dst,.indexAddr t a i,ty,pos,after,gd⟩ w K Kp:=by
 obtain⟨_,hi',_,hs,_⟩:=J0 hi;refine Rv ht hi' hs hx hy hm hj ?_;rw[show 0+j*1=j by omega];exact h
theorem RL{a:Operand}{t g u:Nat}(o:Own w0 y w g (L.map u32v) E)(ht:Yw P t=true)(hx:ρ a= .pointer (some ⟨g,j,none⟩))(hu:L[j]? =some u)(h:K (.int .u32 u) w):
  St P ρ ⟨dst,.load t a,ty,pos,after,gd⟩ w K Kp:=PO o ht hx (by rw[TV,hu];rfl) h
theorem QR {a v:Operand} {t g u:Nat} {z:Value}    (C:Cx X0 w0 x y w) (o:Own w0 y w g (L.map u32v) E) (hi:Zf P t=some (z,1,by_)) (hx:ρ a= .pointer (some ⟨g,j,none⟩)) (hv:ρ v= .int .u32 u) (hj:j<L.length)
  (h:∀w',Cx X0 w0 x y w'→Sp x y w x y w' (· =g)→Own w0 y w' g ((L.set j u).map u32v) E→K undef w'):St P ρ ⟨dst,.store t a v,ty,pos,after,gd⟩ w K Kp:=by
 refine QM (vs:=[.int .u32 u]) C o hi hx (by rw[hv];rfl) ϱ ?_ ϱ ?_ h
 ·simp;omega
 ·rw[List.map_set,UX]
  have:j<(L.map u32v).length:=by simpa using hj
  rw[if_pos this];simp[u32v]
theorem Rp  {l c:Operand} {kc:IntKind} {a:Int} {n:Nat} (C:Cx X0 w0 x y w) (ht:P.underlying t=some (.slice e)) (hl:ρ l= .int kl a) (hc:ρ c= .int kc a) (ha:a=n) (hb:n≤1099511627776)
  (hi:Zf P e=some (.int .u32 0,1,by_)) (hby:by_≤8)
  (h:∀g w' x' y',(∀b,b<w.heap.size→b≠g)→Cx X0 w0 x' y' w'→Sp x y w x' y' w' Zl→Own w0 y' w' g ((List.replicate n 0).map u32v) e→K (.slice (some ⟨g,0,none⟩) n n) w'):
  St P ρ ⟨dst,.makeSlice t l c,ty,pos,after,gd⟩ w K Kp:=by
 obtain⟨i,hi',hz,hs,hby'⟩:=J0 hi;subst ha;have hbytes:(i.bytes:Int)*(n:Int)≤281474976710656:=by
  rw[hby'];have j:=VP hby hb;have d:((by_*n:Nat):Int)≤281474976710656:=o
  rw[T9] at d;exact d
 have hr:=run_make (P:=P) w t e i (.int .u32 0) ht hi' hz kl kc (n:Int) (n:Int) o (Int.le_refl _) hbytes o;have e1:madeCells (Value.int IntKind.u32 0).cells (n*i.size)=((List.replicate n 0).map u32v).toArray:=by
  rw[hs,VS];apply TX;simp only[madeCells,Value.cells,Array.toList_map,Array.toList_range,List.map_replicate];apply Ux;intro q;simp only[TV,List.getElem?_replicate];by_cases hq:q<n
  ·simp[hq,Nat.mod_one,u32v]
  ·simp[hq]
 simp only[Int.toNat_natCast] at hr;rw[e1] at hr;refine P9 (v:= .slice (some ⟨w.heap.size,0,none⟩) n n) (w':=w.alloc (.cells ((List.replicate n 0).map u32v).toArray e (0,0))) ?_ (h _ _ _ _ (fun b hb=>by omega) (C.box _ e).1 (C.box _ e).2.1 (C.box _ e).2.2);simp[execOp,hl,hc,hr]
theorem Own.rowRS{w0:Bs}{X0 x y:Nat→Prop}{w:World}{g:Nat}(o:Own w0 y w g (L.map u32v) E)(C:Cx X0 w0 x y w)(hX:∀b,X0 b→b<w0.heap.size){n:Nat}(hn:n=L.length)(hb:n≤1099511627776)(hL:∀u∈L,u<4294967296)(hM:¬w0.M g):
  RS Jh X0 w (.slice (some ⟨g,0,none⟩) n n) L:=by
 subst hn;refine⟨_,L.length,rfl,Tu _,by unfold maxLen;omega,.inr ⟨g,0,rfl,fun hx=>by have:=hX g hx;rcases o.ge with h|h;(· omega);(· exact hM h),?_⟩⟩;intro i u hi;refine⟨[u32v u],⟨rfl,hL u (US hi)⟩,?_⟩;intro j v hj;cases j with
 |zero=>
  simp at hj;subst hj
  have:=o.blk.cell (j:=i) (v:=u32v u) (by rw[TV,hi];rfl)
  rw[show 0+i*Jh.sz+0=i by simp[Jh]];exact this
 |succ j=>simp at hj
def m6{α:Type}(T:Ty α)(x:Nat→Prop)(w:World):List (List Value)→List α→Prop
 |[],[]=>True
 |c::cs,a::as0=>T.rd x w c a∧m6 T x w cs as0
 |_,_=>False
theorem m6.length{α:Type}{T:Ty α}{x:Nat→Prop}{w:World}:∀ {css:List (List Value)} {l:List α},m6 T x w css l→css.length=l.length
 |[],[],_=>rfl
 |[],_::_,h=>h.elim
 |_::_,[],h=>h.elim
 |_::cs,_::d,h=>by simp[m6.length h.2]
theorem m6.at{α:Type}{T:Ty α}{x:Nat→Prop}{w:World}:∀ {css:List (List Value)} {l:List α},m6 T x w css l→∀(i:Nat) (cs:List Value) (u:α),css[i]? =some cs→l[i]? =some u→T.rd x w cs u
 |[],_,_,i,cs,u,hi,_=>by simp at hi
 |c::css,[],h,_,_,_,_,_=>h.elim
 |c::css,a::d,h,0,cs,u,hi,hl=>by simp at hi hl;subst hi;subst hl;exact h.1
 |c::css,a::d,h,i+1,cs,u,hi,hl=>m6.at h.2 i cs u ς YO
theorem DY{α:Type}{T:Ty α}{l:List α}(h:m6 T x w css l):∀cs∈css,cs.length=T.sz:=by
 intro cs hcs;obtain⟨q,hq,rfl⟩:=UP.1 hcs;have hq':q<l.length:=by rw[←h.length];exact hq
 exact T.len (h.at q _ l[q] WG W3)
theorem Cx.row(C:Cx X0 w0 x y w)(vs:List Value)(T:TypeId):
  Cx X0 w0 (fun b=>x b∨b=w.heap.size) y (w.alloc (.cells vs.toArray T (0,0)))∧Sp x y w (fun b=>x b∨b=w.heap.size) y (w.alloc (.cells vs.toArray T (0,0))) Zl:=by
 have hle:=C.below.size;refine⟨⟨C.below.trans ((K5 w _).mono hle),fun b h=> .inl (C.base b h),?_,fun b h=> .inl (C.yx b h)⟩,⟨?_,Tr.below (K5 w _),fun _ h=>h,fun b hb _=>Kk hb⟩⟩
 ·rintro b (h|rfl)
  ·have:=C.bd b h;simp;omega
  ·simp
 ·refine⟨?_,fun b hb _=>Kk hb,by simp⟩;rintro b hb (h|rfl)
  ·exact h
  ·omega
theorem Sj {α:Type} {T:Ty α}  {l:List α}  {z:Value} {len:Nat} {parts:Array (Nat×Operand)}  (C:Cx X0 w0 x y w) (ht:P.underlying t=some (.slice E)) (hi:Zf P E=some (z,T.sz,by_)) (j:0<len) (hl:len*T.sz≤2^24)
  (hp:(parts.toList.map fun p=>(p.1,ρ p.2))=ps) (hc:(zx z T.sz len ps,css.length)=(some css.flatten.toArray,len)) (hr:m6 T x w css l)
  (h:∀g w' x',Cx X0 w0 x' y w'→Sp x y w x' y w' Zl→(∀b,x b→x' b)→OS T E w0 x' y w' (.slice (some ⟨g,0,none⟩) len len) l→K (.slice (some ⟨g,0,none⟩) len len) w'):
  St P ρ ⟨dst,.buildSlice t len parts,ty,pos,after,gd⟩ w K Kp:=by
 have e:zx z T.sz len ps=some css.flatten.toArray:=congrArg Prod.fst hc;have d:css.length=len:=congrArg Prod.snd hc;have hpe:(parts.map fun(i,x)=>(i,ρ x)).toList=ps:=by rw[←hp];simp
 have hrun:=z8 (P:=P) (w:=w) (ps:=parts.map fun(i,x)=>(i,ρ x)) ht hi T.pos j hl (by rw[hpe];exact e);have hll:l.length=len:=by rw[←hr.length];exact d
 refine P9 (v:= .slice (some ⟨w.heap.size,0,none⟩) len len) XJ (h _ _ _ (C.row css.flatten E).1 (C.row css.flatten E).2 (fun b hb=> .inl hb) ?_);refine⟨⟨css,hr.length,fun i cs u hi hu=>T.tr (hr.at i cs u hi hu) (C.row css.flatten E).2.tx,?_⟩,?_⟩
 ·have hfl:css.flatten.length=len*T.sz:=by
   rw[List.length_flatten,←d];have hall:=DY hr;clear hc e d hrun hr hpe hp hll h
   induction css with
   |nil=>simp
   |cons c css ih=>
    rw[TU,List.sum_cons,Td,hall c χ,ih fun cs h=>hall cs WY,Wb];omega
  refine⟨by rw[hfl,hll],.inr ⟨w.heap.size,len,css.flatten.toArray,by rw[hll],Tv _,heap_alloc_new w _,o,?_,by simp[hfl],?_⟩⟩
  ·have:=VH len T.pos;unfold maxLen;omega
  ·rw[hll,←hfl];exact U1
 ·intro _ hk;simp[Value.ownBlock] at hk;subst hk;exact⟨⟨.inr ϱ,fun hy=>by have:=C.bd _ (C.yx _ hy);omega⟩,.inl C.below.size⟩
theorem P5 {α:Type} {T:Ty α}  {l:List α}  {z:Value} {len:Nat} {parts:Array (Nat×Operand)}  (C:Cx X0 w0 x y w) (ht:P.underlying t=some (.slice E)) (hi:Zf P E=some (z,T.sz,by_)) (m:0<len) (hl:len*T.sz≤2^24)
  (hp:(parts.toList.map fun p=>(p.1,ρ p.2))=ps) (hc:(zx z T.sz len ps,css.length)=(some css.flatten.toArray,len)) (hr:m6 T x w css l)
  (h:∀g w',Cx X0 w0 x y w'→Sp x y w x y w' Zl→RS T x w' (.slice (some ⟨g,0,none⟩) len len) l→K (.slice (some ⟨g,0,none⟩) len len) w'):
  St P ρ ⟨dst,.buildSlice t len parts,ty,pos,after,gd⟩ w K Kp:=by
 have d:zx z T.sz len ps=some css.flatten.toArray:=congrArg Prod.fst hc;have e:css.length=len:=congrArg Prod.snd hc;have hpe:(parts.map fun(i,x)=>(i,ρ x)).toList=ps:=by rw[←hp];simp
 have hrun:=z8 (P:=P) (w:=w) (ps:=parts.map fun(i,x)=>(i,ρ x)) ht hi T.pos m hl (by rw[hpe];exact d);have hll:l.length=len:=by rw[←hr.length];exact e
 refine P9 (v:= .slice (some ⟨w.heap.size,0,none⟩) len len) XJ (h _ _ (C.next (K5 w (.cells css.flatten.toArray E (0,0)))).1 (C.next (K5 w _)).2 ?_);refine⟨_,len,by rw[hll],o,?_,.inr ⟨w.heap.size,0,rfl,fun hx=>by have:=C.bd _ hx;omega,?_⟩⟩
 ·have:=VH len T.pos;unfold maxLen;omega
 ·intro i u hi;have hlt:i<l.length:=by
   rcases TN i l.length with h|h
   ·exact h
   ·rw[TQ h] at hi;cases hi
  have hci:css[i]? =some (css[i]'WS):=by simp[hr.length,hlt]
  have hrd:=hr.at i _ u hci hi;refine⟨_,T.tr hrd (Tr.below (K5 w _)),?_⟩;intro j v hv;have hj:j<(css[i]'WS).length:=by
   rcases TN j (css[i]'WS).length with h|h
   ·exact h
   ·rw[TQ h] at hv;cases hv
  have hfg:=yq css (DY hr) i j _ hci hj;rw[hv] at hfg
  have:=cell_of_row (w.alloc (.cells css.flatten.toArray E (0,0))) w.heap.size (i*T.sz+j) css.flatten.toArray _ (0,0) (heap_alloc_new w _)
  rw[show 0+i*T.sz+j=i*T.sz+j by omega,this];simpa using hfg
structure Src {α:Type} (T:Ty α) (x:Nat→Prop) (w:World) (v:Value) (l:List α):Prop where
 ex:∃css:List (List Value),css.length=l.length∧(∀(i:Nat) (cs:List Value) (u:α),css[i]? =some cs→l[i]? =some u→T.rd x w cs u)∧
  ∃a c,v= .slice a l.length c∧(l=[]∨∃b o,a=some ⟨b,o,none⟩∧∀j u,css.flatten[j]? =some u→w.cell? ⟨b,o+j,none⟩=some u)
theorem Ai{sz:Nat}(hsz:0<sz)(b o:Nat):∀(css:List (List Value)) (k:Nat),(∀cs∈css,cs.length=sz)→(∀(i:Nat) (cs:List Value),css[i]? =some cs→∀j u,cs[j]? =some u→w.cell? ⟨b,o+(k+i)*sz+j,none⟩=some u)→
  ∀j u,css.flatten[j]? =some u→w.cell? ⟨b,o+k*sz+j,none⟩=some u:=by
 intro css
 induction css with
 |nil=>intro k _ _ j u h;simp at h
 |cons c css ih=>
  intro k hs hc j u hj;have hcl:=hs c χ;rw[Uy,List.getElem?_append] at hj;split at hj
  ·have:=hc 0 c χ j u hj
   rw[U5] at this;exact this
  ·rename_i hge
   have:=ih (k+1) (fun cs h=>hs cs WY) (fun i cs hi j u hu=>by
    have:=hc (i+1) cs ς j u hu
    rw[show k+1+i=k+(i+1) by omega];exact this) (j-c.length) u hj
   rw[show o+k*sz+j=o+(k+1)*sz+(j-c.length) by rw[Wb];omega];exact this
theorem sk{α β:Type}(l:List α)(p:α→β→Prop)(q:Nat→β→Prop)(h:∀i x,l[i]? =some x→∃b,p x b∧q i b):∃bs:List β,bs.length=l.length∧(∀(i:Nat) (b:β) (x:α),bs[i]? =some b→l[i]? =some x→p x b)∧∀(i:Nat) (b:β),bs[i]? =some b→q i b:=by
 induction l generalizing q with
 |nil=>exact⟨[],rfl,fun i b x h=>by simp at h,fun i b h=>by simp at h⟩
 |cons a l ih=>
  obtain⟨d,e,g⟩:=h 0 a χ;obtain⟨bs,k1,k2,j⟩:=ih (fun i=>q (i+1)) (fun i x hx=>h (i+1) x YL);refine⟨d::bs,by simp[k1],?_,?_⟩
  ·intro i b x hb hx;cases i with
   |zero=>simp at hb hx;subst hb;subst hx;exact e
   |succ i=>exact k2 i b x (by simpa using hb) YL
  ·intro i b hb;cases i with
   |zero=>simp at hb;subst hb;exact g
   |succ i=>exact j i b (by simpa using hb)
theorem Ks{α:Type}{T:Ty α}{l:List α}(hl:css.length=l.length)(h:∀(i:Nat) (cs:List Value) (u:α),css[i]? =some cs→l[i]? =some u→T.rd x w cs u):∀cs∈css,cs.length=T.sz:=by
 intro cs hcs;obtain⟨q,hq,rfl⟩:=UP.1 hcs;have hq':q<l.length:=o
 exact T.len (h q _ l[q] WG W3)
theorem Z5{α:Type}{T:Ty α}{v:Value}{l:List α}(h:RS T x w v l):Src T x w v l:=by
 obtain⟨a,c,rfl,_,_,d⟩:=h;rcases d with rfl|⟨b,o,rfl,_,d⟩
 ·exact⟨[],rfl,fun i cs u h=>by simp at h,a,c,rfl,.inl ϱ⟩
 ·obtain⟨css,k1,k2,e⟩:=sk l (fun x' cs=>T.rd x w cs x') (fun i cs=>∀j u,cs[j]? =some u→w.cell? ⟨b,o+i*T.sz+j,none⟩=some u) (fun i x hi=>d i x hi);refine⟨css,k1,k2,_,c,rfl,.inr ⟨b,o,rfl,?_⟩⟩
  have:=Ai (w:=w) T.pos b o css 0 (Ks k1 k2) (fun i cs hi j u hu=>by rw[Wg];exact e i cs hi j u hu)
  intro j u hj
  have:=this j u hj
  rw[Wh,U5] at this;exact this
theorem Pm{α:Type}{T:Ty α}{v:Value}{l:List α}(h:OS T E w0 x y w v l):Src T x w v l:=by
 obtain⟨⟨css,d,e,i⟩,_⟩:=h;rcases i.2 with ⟨rfl,hn⟩|⟨g,cap,_,rfl,_,_,_,_,_⟩
 ·exact⟨css,d,e,none,0,by rw[hn],.inl (TD hn)⟩
 ·refine⟨css,d,e,_,cap,rfl,.inr ⟨g,0,rfl,?_⟩⟩;intro j u hj
  have:=i.cells (g:=g) ϱ j u hj
  rw[Addr.add_lit] at this;exact this
structure Ap (x:Nat→Prop) (w:World) (x':Nat→Prop) (y:Nat→Prop) (w':World):Prop where
 tx:Tr x w x' w'
 same:∀b,b<w.heap.size→y b→w'.heap[b]? =w.heap[b]?
theorem Own.ap{x':Nat→Prop}{w':World}{g:Nat}{C:List Value}{T:TypeId}(h:Own w0 y w g C T)(s:Ap x w x' y w')(_hm:y g):Own w0 y w' g C T:=⟨h.mem,h.ge,h.blk.same (s.same g h.blk.lt h.mem)⟩
theorem Bel.grown{B:Bs}{w w':World}{o:Option Nat}(h:Bel B w)(g:w.grownBy w' o)(hr:∀k,o=some k→B.heap.size≤k∨B.M k):Bel B w':=
 ⟨g.os.trans h.os,g.tape.trans h.tape,g.output.trans h.output,Tj h.size g.size,fun k hk hm=>(g.block k (Ti hk h.size) (fun e=>by
  rcases hr k e.symm with d|d
  ·omega
  ·exact hm d)).trans (h.block k hk hm)⟩
theorem P8 {α:Type} {T:Ty α}  {z:Value}  {v u:Value} {l m:List α} {a b:Operand} (C:Cx X0 w0 x y w) (ht:P.underlying t=some (.slice E)) (hi:Zf P E=some (z,T.sz,by_)) (hx:ρ a=v) (hy:ρ b=u)
  (ho:OS T E w0 x y w v l) (hs:Src T x w u m) (p:l.length+m.length≤maxLen) (hby:(l.length+m.length)*by_≤140737488355328) (hz:z.cells.size=T.sz)
  (h:∀v' w' x',Cx X0 w0 x' y w'→Ap x w x' y w'→(∀b,x b→x' b)→OS T E w0 x' y w' v' (l++m)→K v' w'):
  St P ρ ⟨dst,.call {callee:= .builtin .append,args:= #[a,b],argTypes:= #[t,t]},ty,pos,after,gd⟩ w K Kp:=by
 obtain⟨inf,hi',hz',hsz,hbyt⟩:=J0 hi;obtain⟨⟨css,d,B,s⟩,hm⟩:=ho;obtain⟨css',k1,k2,ad,c,rfl,A⟩:=hs;have hal:=Ks d B;have hal':=Ks k1 k2;have hfl:∀(css:List (List Value)),(∀cs∈css,cs.length=T.sz)→css.flatten.length=css.length*T.sz:=by
  intro css
  induction css with
  |nil=>intro _;simp
  |cons c css ih=>intro hh;rw[Uy,Tc,hh c χ,ih fun cs h=>hh cs WY,Td,Wb];omega
 have key:∃v' w',(Builtin.append_ #[t,t] ty #[v,.slice ad m.length c]).run P w= .ok v' w'∧w'.ownsRow 0 E T.sz v' (l.length+m.length) (css.flatten++css'.flatten)∧w.grownBy w' v.ownBlock∧
   (∀k,v'.ownBlock=some k→v.ownBlock=some k∨(w.heap.size≤k∧k<w'.heap.size)):=by
  by_cases hml:m=[]
  ·subst hml;have hcss':css'=[]:=TD (by simpa using k1);subst hcss';simp only[Te,U5,List.flatten_nil,TT];refine⟨v,w,?_,s,⟨rfl,rfl,rfl,Tu _,fun _ _ _=>rfl⟩,fun k hk=> .inl hk⟩;rcases s.2 with ⟨rfl,hn⟩|⟨g,cap,cur,rfl,hb,hg,D,_,_⟩
   ·cases ad<;>simp[Builtin.append_,run_underlying ht,sizeOf,typeInfo,hi',Builtin.lenOf,Builtin.firstCells,loadCells,loadCellsFrom]
   ·cases ad<;>simp[Builtin.append_,run_underlying ht,sizeOf,typeInfo,hi',Builtin.lenOf,Builtin.firstCells,loadCells,loadCellsFrom,D,storeCells]
  ·rcases A with A|⟨bb,oo,rfl,hcell⟩
   ·exact absurd A hml
   have hmpos:0<m.length:=UH.2 hml;have hnl:css'.flatten.length=m.length*T.sz:=by rw[hfl css' hal',k1]
   have hnews:∀j u,css'.flatten[j]? =some u→w.cell? ((⟨bb,oo,none⟩:Addr).add j)=some u:=fun j u hj=>by rw[Addr.add_lit];exact hcell j u hj
   have hone:∀u∈css'.flatten,u.oneCell'=true:=by
    intro u hu;obtain⟨cs,hcs,hu'⟩:=List.mem_flatten.1 hu;obtain⟨q,hq,rfl⟩:=UP.1 hcs;have hq':q<m.length:=o
    exact T.one (k2 q _ m[q] WG W3) u hu'
   rcases s.2 with ⟨rfl,hn⟩|⟨g,cap,cur,rfl,hbg,hg,_,hcm,hcs,htake⟩
   ·
    have hl:l=[]:=TD hn;subst hl;have hcss:css=[]:=TD (by simpa using d);subst hcss;have hr:=run_append_nil (P:=P) w t ty E inf z ht hi' hz' ⟨bb,oo,none⟩ m.length c css'.flatten WO hnews hmpos (by simp only[maxLen,Te] at p;omega) (by rw[hbyt];have hb:=hby;simp only[Te,Wg] at hb;omega);simp only[Te,Wg,List.flatten_nil,TJ];refine⟨_,_,hr,⟨by rw[hnl],.inr ⟨w.heap.size,_,_,rfl,Tv _,heap_alloc_new w.drew _,grownCap_ge w _ _ E,grownCap_le_maxLen w _ _ E (by simpa using p),?_,?_⟩⟩,⟨rfl,rfl,rfl,by simp,fun k hk _=>Below.heap_alloc w.drew _ k hk⟩,?_⟩
    ·have hge:=grownCap_ge w m.length 0 E;simp only[T0,UY,size_zeroCells,hz,hnl,←U2]
     congr 1;omega
    ·simp only[Array.toList_append,←hnl];exact List.take_left
    ·intro k hk;simp[Value.ownBlock] at hk;subst hk;exact .inr ⟨Tu _,by simp⟩
   ·by_cases hroom:l.length+m.length≤cap
    ·have hfit:l.length*inf.size+css'.flatten.length≤cur.size:=by rw[hsz,hnl,hcs,←U2];exact VQ _ hroom
     have hr:=run_append_room (P:=P) w t ty E inf ht hi' g l.length cap cur hg ⟨bb,oo,none⟩ m.length c css'.flatten WO hnews hone hroom hfit;rw[hsz] at hr hfit;have hlen:(css.flatten++css'.flatten).length=(l.length+m.length)*T.sz:=by rw[Tc,hnl,hfl css hal,d,U2]
     refine⟨_,_,hr,⟨hlen,.inr ⟨g,cap,_,rfl,hbg,setRow_heap w g cur _ E _ hg,hroom,hcm,?_,?_⟩⟩,⟨rfl,rfl,rfl,by simp,fun k hk hne=>setRow_other w g k _ (fun e=>hne WU)⟩,fun k hk=> .inl hk⟩
     ·simp only[UY,Tc,To,Tn,TZ];omega
     ·rw[htake,←hlen];exact List.take_left
    ·have holds:∀j u,css.flatten[j]? =some u→w.cell? ((⟨g,0,none⟩:Addr).add j)=some u:=s.cells (g:=g) ϱ;have hr:=run_append_grow (P:=P) w t ty E inf z ht hi' hz' ⟨g,0,none⟩ l.length cap css.flatten (by rw[s.1,hsz]) holds ⟨bb,oo,none⟩ m.length c css'.flatten WO hnews o (by simp only[maxLen] at p;omega) XL;have hlen:(css.flatten++css'.flatten).length=(l.length+m.length)*T.sz:=by rw[Tc,hnl,hfl css hal,d,U2]
     refine⟨_,_,hr,⟨hlen,.inr ⟨w.heap.size,_,_,rfl,Tv _,heap_alloc_new w.drew _,grownCap_ge w _ _ E,grownCap_le_maxLen w _ _ E p,?_,?_⟩⟩,⟨rfl,rfl,rfl,by simp,fun k hk _=>Below.heap_alloc w.drew _ k hk⟩,?_⟩
     ·have hge:=grownCap_ge w (l.length+m.length) cap E;have e1:css.flatten.length=l.length*T.sz:=by rw[hfl css hal,d]
      simp only[T0,UY,size_zeroCells,hz,hnl,e1,←U2]
      congr 1;omega
     ·simp only[Array.toList_append,Tm];rw[←Tm,←hlen];exact List.take_left
     ·intro k hk;simp[Value.ownBlock] at hk;subst hk;exact .inr ⟨Tu _,by simp⟩
 obtain⟨v',w',hr,hown,hg,hnew⟩:=key;have hxle:=hg.size;have hrow:∀k,v.ownBlock=some k→w0.heap.size≤k∨w0.M k:=fun k hk=>(hm k hk).2;have htx:Tr x w (fun b=>x b∨(w.heap.size≤b∧b<w'.heap.size)) w':=by
  refine⟨?_,fun b hb hx=>hg.block b hb (fun e=>hx (hm b e.symm).1.1),hxle⟩;rintro b hb (h|h)
  ·exact h
  ·omega
 refine P9 (v:=v') (w':=w') ?_ (h v' w' (fun b=>x b∨(w.heap.size≤b∧b<w'.heap.size)) ?_ ⟨htx,?_⟩ (fun b hb=> .inl hb) ?_)
 ·simp only[execOp,resolve,invoke,builtin,Sem.run_bind,Sem.run_pure,Result.andThen_ok,List.map_toArray,TU,List.map_nil,hx,hy,hr]
 ·refine⟨C.below.grown hg hrow,fun b hb=> .inl (C.base b hb),?_,fun b hb=> .inl (C.yx b hb)⟩;rintro b (hb|hb)
  ·exact Ti (C.bd b hb) hxle
  ·exact hb.2
 ·intro b hb hyb;exact hg.block b hb (fun e=>(hm b e.symm).1.2 hyb)
 ·refine⟨⟨css++css',by simp[d,k1],?_,?_⟩,?_⟩
  ·intro i cs u hic hiu;rw[List.getElem?_append] at hic hiu;by_cases hil:i<l.length
   ·rw[if_pos o] at hic;rw[if_pos hil] at hiu;exact T.tr (B i cs u hic hiu) htx
   ·rw[if_neg o] at hic;rw[if_neg hil] at hiu;rw[d] at hic;exact T.tr (k2 _ cs u hic hiu) htx
  ·rw[List.flatten_append,Tc];exact hown
  ·intro k hk;rcases hnew k hk with hk'|hk'
   ·exact⟨⟨.inl (hm k hk').1.1,(hm k hk').1.2⟩,(hm k hk').2⟩
   ·exact⟨⟨.inr hk',fun hyk=>by have:=C.bd k (C.yx k hyk);omega⟩,.inl (Tj C.below.size hk'.1)⟩
end
section
variable {P:Program} {ρ:Operand→Value} {dst:Option Tmp} {ty:TypeId} {pos:String} {after:Array Edge} {gd:Option (Nat×Bool)}
 {w:World} {K:Value→World→Prop} {Kp:List PanicEntry→World→Prop} {X0 x y:Nat→Prop} {w0:Bs}
theorem RS.u32_small{v:Value}{l:List Nat}(h:RS Jh x w v l):Jr l:=by
 obtain⟨_,_,rfl,_,_,d⟩:=h;rcases d with rfl|⟨_,_,rfl,_,d⟩
 ·exact Zh
 ·intro u hu;obtain⟨i,hi⟩:=UQ.1 hu;obtain⟨_,hr,_⟩:=d i u hi;exact hr.2
theorem R8 {α:Type} {T:Ty α} {a b:Operand} {xt yt:TypeId}  {n c:Nat} {l:List α} (ht:P.underlying xt=some (.slice e)) (hr:RS T x w (.slice ad n c) l) (hx:ρ a= .slice ad n c) (hy:ρ b= .slice none 0 0)
  (hk:l=[]→K (.bool true) w) (hk':K (.bool false) w):St P ρ ⟨dst,.binOp .eql xt a b yt,ty,pos,after,gd⟩ w K Kp:=by
 cases ad with
 |none=>
  have hl:l=[]:=by
   obtain⟨_,_,e,_,_,d⟩:=hr;cases e;rcases d with d|⟨b,_,h,_⟩
   ·exact d
   ·cases h
  refine Zd (v:= .bool true) (by rw[hx];rfl) ?_ (hk hl);rw[hx,hy,Lib.run_eql_slice_nil w xt e none n c 0 0 ht];rfl
 |some p=>
  refine Zd (v:= .bool false) (by rw[hx];rfl) ?_ hk';rw[hx,hy,Lib.run_eql_slice_nil w xt e (some p) n c 0 0 ht];rfl
theorem SO {α:Type} {T:Ty α}  {z:Value}  (C:Cx X0 w0 x y w) (ht:P.underlying t=some (.slice E)) (hi:Zf P E=some (z,T.sz,by_))
  (h:∀g w' x',Cx X0 w0 x' y w'→Sp x y w x' y w' Zl→(∀b,x b→x' b)→OS T E w0 x' y w' (.slice (some ⟨g,0,none⟩) 0 0) ([]:List α)→K (.slice (some ⟨g,0,none⟩) 0 0) w'):
  St P ρ ⟨dst,.buildSlice t 0 #[],ty,pos,after,gd⟩ w K Kp:=by
 obtain⟨i,hi',_,_,_⟩:=J0 hi;have hrun:(Instr.buildSlice t 0 #[]).run P w= .ok (.slice (some ⟨w.heap.size,0,none⟩) 0 0) (w.alloc (.cells #[] E (0,0))):=by
  simp[Instr.buildSlice,run_underlying ht,sizeOf,typeInfo,hi',Instr.fill,newRow,Array.range_zero']
 refine P9 (v:= .slice (some ⟨w.heap.size,0,none⟩) 0 0) XJ (h _ _ _ (C.row [] E).1 (C.row [] E).2 (fun b hb=> .inl hb) ?_);refine⟨⟨[],rfl,fun i _ _ h=>by simp at h,by simp,.inr ⟨w.heap.size,0,#[],rfl,Tv _,heap_alloc_new w _,Tu _,by unfold maxLen;omega,by simp,by simp⟩⟩,?_⟩;intro _ hk;simp[Value.ownBlock] at hk;subst hk;exact⟨⟨.inr ϱ,fun hy=>by have:=C.bd _ (C.yx _ hy);omega⟩,.inl C.below.size⟩
end
section
variable {P:Program} {ops:Array Oper} {n:Nat} {Q:Post} {r:List Oper} {f:Fr} {w:World}
theorem O {d:Nat} {op:Op} {ty:TypeId} {pos:String} {after:Array Edge} (hlo:Nat.blt d n=true)
  (h:St P (fe f) ⟨some d,op,ty,pos,after,none⟩ w (fun v w'=>Sq P ops n Q r (updO f (some d) v) w') (fun ch w'=>Q (.panic ch) f w')):
  Sq P ops n Q (⟨some d,op,ty,pos,after,none⟩::r) f w:=Sq.op (TG hlo) h
theorem Og {d:Nat} {op:Op} {ty:TypeId} {pos:String} {after:Array Edge}  {b:Bool} (hlo:Nat.blt d n=true) (hy:Zk ops f j=some b)
  (h:St P (fe f) ⟨some d,op,ty,pos,after,some (j,b)⟩ w (fun v w'=>Sq P ops n Q r (updO f (some d) v) w') (fun ch w'=>Q (.panic ch) f w')):
  Sq P ops n Q (⟨some d,op,ty,pos,after,some (j,b)⟩::r) f w:=S1 hy (TG hlo) h
theorem Ox {d:Nat} {op:Op} {ty:TypeId} {pos:String} {after:Array Edge}  {b c:Bool} (hlo:Nat.blt d n=true) (hy:Zk ops f j=some c) (hc:(some c==some b)=false)
  (h:Sq P ops n Q r (updO f (some d) undef) w):
  Sq P ops n Q (⟨some d,op,ty,pos,after,some (j,b)⟩::r) f w:=Sq.opn hy hc (TG hlo) h
theorem On {op:Op} {ty:TypeId} {pos:String} {after:Array Edge}
  (h:St P (fe f) ⟨none,op,ty,pos,after,none⟩ w (fun v w'=>Sq P ops n Q r (updO f none v) w') (fun ch w'=>Q (.panic ch) f w')):
  Sq P ops n Q (⟨none,op,ty,pos,after,none⟩::r) f w:=Sq.op trivial h
end
section
variable {P:Program} {ρ:Operand→Value} {dst:Option Tmp} {ty:TypeId} {pos:String} {after:Array Edge} {gd:Option (Nat×Bool)}
 {w:World} {K:Value→World→Prop} {Kp:List PanicEntry→World→Prop} {x y:Operand} {xt yt:TypeId} {k:IntKind} {a b z:Int}
theorem St.xor(hx:ρ x= .int k a)(hy:ρ y= .int k b)(hz:k.wrap (BitVec.ofInt k.bits a ^^^ BitVec.ofInt k.bits b).toNat=z)(h:K (.int k z) w):St P ρ ⟨dst,.binOp .xor xt x y yt,ty,pos,after,gd⟩ w K Kp:=by
 subst hz;refine Zd WD ?_ h;rw[hx,hy,binOp_xor];rfl
theorem Sy(hx:ρ x= .int k a)(hz:k.wrap (BitVec.ofInt k.bits (if k.signed then -1 else k.max) ^^^ BitVec.ofInt k.bits a).toNat=z)(h:K (.int k z) w):St P ρ ⟨dst,.unOp .xor xt x,ty,pos,after,gd⟩ w K Kp:=by
 subst hz;refine P9 (v:= .int k (k.wrap (BitVec.ofInt k.bits (if k.signed then -1 else k.max) ^^^ BitVec.ofInt k.bits a).toNat)) ?_ h;simp[execOp,hx,Op.unary,Op.intBits]
end
theorem bv32{a:Nat}(h:a<4294967296):(BitVec.ofInt IntKind.u32.bits (a:Int)).toNat=a:=by
 rw[T1];simp[IntKind.bits];omega
theorem bv64{a:Nat}(h:a<18446744073709551616):(BitVec.ofInt IntKind.u64.bits (a:Int)).toNat=a:=by
 rw[T1];simp[IntKind.bits];omega
theorem nV{a b:Nat}(ha:a<4294967296)(hb:b<4294967296):IntKind.u32.wrap (BitVec.ofInt IntKind.u32.bits (a:Int) ||| BitVec.ofInt IntKind.u32.bits (b:Int)).toNat=((a ||| b:Nat):Int):=by
 have:=VW (n:=32) ha hb
 rw[BitVec.toNat_or,bv32 ha,bv32 hb,IntWalk.u32_in _ o]
theorem ml{a b:Nat}(ha:a<4294967296)(hb:b<4294967296):IntKind.u32.wrap (BitVec.ofInt IntKind.u32.bits (a:Int) &&& BitVec.ofInt IntKind.u32.bits (b:Int)).toNat=((a &&& b:Nat):Int):=by
 have:=U6 a (n:=32) hb
 rw[BitVec.toNat_and,bv32 ha,bv32 hb,IntWalk.u32_in _ o]
theorem r3{a b:Nat}(ha:a<4294967296)(hb:b<4294967296):IntKind.u32.wrap (BitVec.ofInt IntKind.u32.bits (a:Int) ^^^ BitVec.ofInt IntKind.u32.bits (b:Int)).toNat=((a ^^^ b:Nat):Int):=by
 have:=Nat.xor_lt_two_pow (n:=32) ha hb
 rw[BitVec.toNat_xor,bv32 ha,bv32 hb,IntWalk.u32_in _ o]
theorem vY{a b:Nat}(ha:a<18446744073709551616)(hb:b<18446744073709551616):IntKind.u64.wrap (BitVec.ofInt IntKind.u64.bits (a:Int) ||| BitVec.ofInt IntKind.u64.bits (b:Int)).toNat=((a ||| b:Nat):Int):=by
 have:=VW (n:=64) ha hb
 rw[BitVec.toNat_or,bv64 ha,bv64 hb,Tw _ o]
theorem mP{a:Nat}(ha:a<4294967296):IntKind.u32.wrap (BitVec.ofInt IntKind.u32.bits (if IntKind.u32.signed then -1 else IntKind.u32.max) ^^^ BitVec.ofInt IntKind.u32.bits (a:Int)).toNat=((4294967295-a:Nat):Int):=by
 have e:(BitVec.ofInt IntKind.u32.bits (if IntKind.u32.signed then -1 else IntKind.u32.max))=BitVec.allOnes IntKind.u32.bits:=d
 rw[e,BitVec.allOnes_xor,BitVec.toNat_not,bv32 ha,IntWalk.u32_in _ (by simp[IntKind.bits];omega)];simp[IntKind.bits]
theorem m5{a:Nat}{e:Int}{d:Nat}(h:(2:Int)^min e.toNat IntKind.u64.bits=(d:Int))(hb:a*d<18446744073709551616):IntKind.u64.wrap ((a:Int)*2^min e.toNat IntKind.u64.bits)=((a*d:Nat):Int):=by
 rw[h,←T9,Tw _ o]
theorem uK(s:Nat)(h:s≤64):(2:Int)^min ((s:Nat):Int).toNat IntKind.u64.bits=((2^s:Nat):Int):=by
 rw[Int.toNat_natCast,VN (by simp[IntKind.bits];omega)];simp
theorem pY{a s:Nat}(h:s≤64∧a*2^s<18446744073709551616):IntKind.u64.wrap ((a:Int)*2^min ((s:Nat):Int).toNat IntKind.u64.bits)=((a*2^s:Nat):Int):=by
 rw[uK s h.1,←T9,Tw _ o]
theorem xr{a s:Nat}(h:s≤64):(a:Int)/2^min ((s:Nat):Int).toNat IntKind.u64.bits=((a/2^s:Nat):Int):=by
 rw[uK s h];rfl
def reb(vals:List (Nat×Value))(f:Fr):Fr:=fun t=>match vals.lookup t with
 |some v=>v
 |none=>f t
theorem aN{f:Fr}:∀p∈([]:List (Nat×Value)),f p.1=p.2:=MV
theorem aC{f:Fr}{d:Nat}{u:Value}{r:List (Nat×Value)}(hd:f d=u)(h:∀p∈r,f p.1=p.2):∀p∈(d,u)::r,f p.1=p.2:=IC hd h
theorem mixK{D:List Nat}{f0 f:Fr}(h:Keep D f0 f)(hv:∀p∈vals,f p.1=p.2):∃f',f=mixL vals D f' f0:=h.mix vals hv
section
variable {σ:Type} {fc:Fence} [Fw fc] {P:Program} {ops:Array Oper} {n:Nat} {D:List Deferred} {Q:Post} {f0:Fr} {w0:World}
def x7(P:Program)(ops:Array Oper)(Q:Post)(R:σ→World→σ→World→Prop)(Gl:List (σ→Value→World→Prop))(f:Fr)(s:σ)(w:World):List Oper→List (List Nat)→Nat→Prop
 |o::l,d::dl,k=>
  (Deps ops Gl f s w d→OpSt P ops f o w (fun v w'=>∃s',R s w s' w'∧(Gl.getD k noG) s' v w') (fun ch w'=>∀f,Q (.panic ch) f w'))∧x7 P ops Q R Gl f s w l dl (k+1)
 |_,_,_=>True
theorem v8{s0:σ}{R:σ→World→σ→World→Prop}{Gl:List (σ→Value→World→Prop)}{ds:List Nat}:∀(l:List Oper) (dl:List (List Nat)) (k:Nat),
  (∀f s w,R s0 w0 s w→Keep ds f0 f→x7 P ops Q R Gl f s w l dl k)→m8 P ops Q R Gl f0 s0 w0 ds l dl k
 |[],_,_,_=>trivial
 |_::_,[],_,_=>trivial
 |o::l,d::dl,k,h=>⟨fun f s w r kp dp=>(h f s w r kp).1 dp,v8 l dl (k+1) fun f s w r kp=>(h f s w r kp).2⟩
theorem Sc  (hm:P.follows .mixedOrders=true) (m:Nat) (dl:List (List Nat)) (s0:σ) (R:σ→World→σ→World→Prop) (Gl:List (σ→Value→World→Prop))
  (chk:ya ops m n dl=true) (e:R s0 w0 s0 w0.drew) (htr:∀s a t b u c,R s a t b→R t b u c→R s a u c) (hG:Qh R Gl)
  (h:∀f s w,R s0 w0 s w→Keep (J2 ops m) f0 f→x7 P ops Q R Gl f s w ops.toList dl 0∧(Deps ops Gl f s w (List.range m)→Sq P ops n Q (ops.toList.drop m) f w)):
  W fc P (Code.region id ops true) n D Q f0 w0:=
 SP hm m dl s0 R Gl chk e htr hG (v8 _ _ _ fun f s w r k=>(h f s w r k).1) fun f s w r k=>(h f s w r k).2
theorem RS.opn{α:Type}{T:Ty α}{x:Nat→Prop}{w:World}{v:Value}{l:List α}(h:RS T x w v l):∃a c,v= .slice a l.length c∧RS T x w (.slice a l.length c) l:=by
 obtain⟨a,c,rfl,_,_⟩:=h.len;exact⟨a,c,rfl,h⟩
def fx{τ:Type}(V:Value):τ→Value→World→Prop:=fun _ v _=>v=V
def fr{α:Type}(T:Ty α)(m:α):Gh→Value→World→Prop:=fun s v w=>RV T s.1 w v m
def fs{α:Type}(T:Ty α)(m:List α):Gh→Value→World→Prop:=fun s v w=>RS T s.1 w v m
def fE{α:Type}(T:Ty α)(m:α):Gh→Value→World→Prop:=fun s v w=>∃(b o:Nat) (cs:List Value),v= .pointer (some ⟨b,o,none⟩)∧ElAt T s.1 w b o cs m
theorem sx{τ:Type}{R:τ→World→τ→World→Prop}{V:Value}:∀v s w s' w',fx V s v w→R s w s' w'→fx V s' v w':=fun _ _ _ _ _ h _=>h
theorem sr{X0:Nat→Prop}{a:Bs}{α:Type}{T:Ty α}{m:α}:∀v s w s' w',fr T m s v w→RC X0 a s w s' w'→fr T m s' v w':=fun _ _ _ _ _ h r=>RV.tr h r.sp.tx
theorem ss{X0:Nat→Prop}{a:Bs}{α:Type}{T:Ty α}{m:List α}:∀v s w s' w',fs T m s v w→RC X0 a s w s' w'→fs T m s' v w':=fun _ _ _ _ _ h r=>RS.tr h r.sp.tx
theorem sE{X0:Nat→Prop}{a:Bs}{α:Type}{T:Ty α}{m:α}:∀v s w s' w',fE T m s v w→RC X0 a s w s' w'→fE T m s' v w':=fun _ _ _ _ _ ⟨b,o,cs,e,h⟩ r=>⟨b,o,cs,e,h.tr r.sp.tx⟩
theorem QL  (hm:P.follows .mixedOrders=true) (m:Nat) (dl:List (List Nat)) {X0 x y:Nat→Prop} {a:Bs} (C:Cx X0 a x y w0) (Gl:List (Gh→Value→World→Prop))
  (chk:ya ops m n dl=true) (hG:Qh (RC X0 a) Gl)
  (h:∀f s w,RC X0 a (x,y) w0 s w→Keep (J2 ops m) f0 f→x7 P ops Q (RC X0 a) Gl f s w ops.toList dl 0∧(Deps ops Gl f s w (List.range m)→Sq P ops n Q (ops.toList.drop m) f w)):
  W fc P (Code.region id ops true) n D Q f0 w0:=
 Sc hm m dl (x,y) (RC X0 a) Gl chk (RB C) RC.trans hG h
theorem Jf  {f:Fr} (k:Keep ds f0 f)  (hv:∀p∈vals,f p.1=p.2) {o:Oper} {w:World} {K:Value→World→Prop} {Kp:List PanicEntry→World→Prop}
  (h:∀f',OpSt P ops (mixL vals ds f' f0) o w K Kp):OpSt P ops f o w K Kp:=by
 obtain⟨f',rfl⟩:=k.mix vals hv;exact h f'
section
variable {r:List Oper} {f:Fr} {w:World} {ty:TypeId} {pos:String} {after:Array Edge} {d:Nat}
theorem Om{x:Operand}(h:Sq P ops n Q r (updO f (some d) (fe f x)) w)(hlo:Nat.blt d n=true:=by exact rfl):Sq P ops n Q (⟨some d,.move x,ty,pos,after,none⟩::r) f w:=O hlo (PP h)
theorem Oa{x:Operand}(h:Sq P ops n Q r (updO f (some d) (fe f x)) w)(hlo:Nat.blt d n=true:=by exact rfl):Sq P ops n Q (⟨some d,.assign x,ty,pos,after,none⟩::r) f w:=O hlo (RD h)
theorem OT{c a b:Operand}(h:Sq P ops n Q r (updO f (some d) (fe f a)) w)(hc:fe f c= .bool true:=by exact rfl)(hlo:Nat.blt d n=true:=by exact rfl):Sq P ops n Q (⟨some d,.pick c a b,ty,pos,after,none⟩::r) f w:=O hlo (QD hc h)
theorem OF{c a b:Operand}(h:Sq P ops n Q r (updO f (some d) (fe f b)) w)(hc:fe f c= .bool false:=by exact rfl)(hlo:Nat.blt d n=true:=by exact rfl):Sq P ops n Q (⟨some d,.pick c a b,ty,pos,after,none⟩::r) f w:=O hlo (QD hc h)
theorem Nl(h:Q .normal f w):Sq P ops n Q [] f w:=h
theorem Rg{ops:Array Oper}{y:Code}(h:Sq P ops n (ni (W fc P y n D Q) Q) ops.toList f w):W fc P (Code.seq (Code.region id ops false) y) n D Q f w:=PT (PN h)
theorem Rh{ops:Array Oper}{y z:Code}(h:Sq P ops n (ni (W fc P y n D (ni (W fc P z n D Q) Q)) (ni (W fc P z n D Q) Q)) ops.toList f w):
  W fc P (Code.seq (Code.seq (Code.region id ops false) y) z) n D Q f w:=PT (PT (PN h))
end
theorem rebK{f:Fr}(hv:∀p∈vals,f p.1=p.2):∃f',f=reb vals f':=by
 refine⟨f,?_⟩
 funext t
 unfold reb;split
 ·rename_i v hl;exact hv (t,v) (nZ _ _ _ hl)
 ·rfl
end
section
variable {fc:Fence} [Fw fc] {P:Program} {ops:Array Oper} {n:Nat} {D:List Deferred} {Q:Post} {r:List Oper} {f:Fr} {w:World}
theorem Oz{d:Nat}{op:Op}{ty:TypeId}{pos:String}{after:Array Edge}{b:Bool}(h:Sq P ops n Q r (updO f (some d) undef) w)(hlo:Nat.blt d n=true:=by exact rfl)(a:(Zk ops f j).isSome=true:=by exact rfl)(hy:(Zk ops f j==some b)=false:=by exact rfl):
  Sq P ops n Q (⟨some d,op,ty,pos,after,some (j,b)⟩::r) f w:=by
 obtain⟨_,hc⟩:=Wk.1 a;rw[hc] at hy;exact Ox hlo hc hy h
theorem Ol {d:Nat} {op:Op} {ty:TypeId} {pos:String} {after:Array Edge}
  (h:St P (fe f) ⟨some d,op,ty,pos,after,none⟩ w (fun v w'=>Sq P ops n Q r (updO f (some d) v) w') (fun ch w'=>Q (.panic ch) f w')) (hlo:Nat.blt d n=true:=by exact rfl):
  Sq P ops n Q (⟨some d,op,ty,pos,after,none⟩::r) f w:=O hlo h
theorem OgD {d:Nat} {op:Op} {ty:TypeId} {pos:String} {after:Array Edge}  {b:Bool}
  (h:St P (fe f) ⟨some d,op,ty,pos,after,some (j,b)⟩ w (fun v w'=>Sq P ops n Q r (updO f (some d) v) w') (fun ch w'=>Q (.panic ch) f w')) (hlo:Nat.blt d n=true:=by exact rfl) (hy:Zk ops f j=some b:=by exact rfl):
  Sq P ops n Q (⟨some d,op,ty,pos,after,some (j,b)⟩::r) f w:=S1 hy (TG hlo) h
theorem OyD {d:Nat} {op:Op} {ty:TypeId} {pos:String} {after:Array Edge}  {b:Bool}
  (h:Sq P ops n Q r (updO f (some d) undef) w) (hlo:Nat.blt d n=true:=by exact rfl) (hy:Zk ops f j=none:=by exact rfl):
  Sq P ops n Q (⟨some d,op,ty,pos,after,some (j,b)⟩::r) f w:=⟨TG hlo,by simp only[Region.wanted,hy];exact h⟩
end
abbrev CRt(k:FuncId)(a:Array Value)(w:World)(Φ:Value→World→Prop):Prop:=Calls Go.Proofs.Tryz.prog k a w (Ret w Φ)
theorem Cgo {P:Program} {k:FuncId} {fn:Func} {c:Code} {args:List Value} {w:World} {R:Ending→World→Prop} {n:Nat}
  (hf:P.funcs[k]? =some fn) (hb:fn.body=some c) (hn:fn.ntmps=n) (ha:Nat.ble args.length n=true)
  (h:W Fence.wide P c n [] (retQ P fn R) (nv args) w):Calls P k args.toArray w R:=SZ hf hb hn (TG ha) h
abbrev XB(X:Nat→Prop)(w:World):Prop:=∀b,X b→b<w.heap.size
theorem Wq{P:Program}{fn:Func}{Φ:Value→World→Prop}{t:Nat}{v:Value}{f:Fr}{w w0:World}{X x y:Nat→Prop}(hr:fn.results= #[.tmp t])(hv:f t=v)(C:Cx X w0 x y w)(h:Φ v w):retQ P fn (Ret w0 Φ) .ret f w:=
 Kd hr (SV hv) (Rc h C.below)
theorem J1{P:Program}{fn:Func}{Φ:Value→World→Prop}{t g sz:Nat}{y:Nat→Prop}{T:TypeId}{f:Fr}{w w0:World}{a:Bs}{X x b:Nat→Prop}(hr:fn.results= #[.cell p t])(hp:f p= .pointer (some ⟨g,0,none⟩))(hb:Own a y w g cs T)(ha:yv P t sz=true)(C:Cx X w0 x b w)(h:Φ (.agg cs.toArray) w)(hl:cs.length=sz:=by exact rfl):retQ P fn (Ret w0 Φ) .ret f w:=
 Kd hr (resV.c hb hp ha hl) (Rc h C.below)
theorem Jg{P:Program}{fn:Func}{Φ:Value→World→Prop}{t g sz k:Nat}{u:Value}{y:Nat→Prop}{T:TypeId}{f:Fr}{w w0:World}{a:Bs}{X x b:Nat→Prop}(hr:fn.results= #[.cell p t,.tmp k])(hp:f p= .pointer (some ⟨g,0,none⟩))(hu:f k=u)(hb:Own a y w g cs T)(ha:yv P t sz=true)(C:Cx X w0 x b w)(h:Φ (.tuple #[.agg cs.toArray,u]) w)(hl:cs.length=sz:=by exact rfl):retQ P fn (Ret w0 Φ) .ret f w:=
 rN hr (resV.c hb hp ha hl) (SV hu) (Rc h C.below)
theorem Xi{P:Program}{fn:Func}{Φ:Value→World→Prop}{t k:Nat}{v u:Value}{f:Fr}{w w0:World}{X x a:Nat→Prop}(hr:fn.results= #[.tmp t,.tmp k])(hv:f t=v)(hu:f k=u)(C:Cx X w0 x a w)(h:Φ (.tuple #[v,u]) w):retQ P fn (Ret w0 Φ) .ret f w:=
 rN hr (SV hv) (SV hu) (Rc h C.below)
theorem Cx.wb{X0 x y:Nat→Prop}{w0:Bs}{w v:World}(C:Cx X0 w0 x y w):Tr x v X0 v:=Tr.weak C.base
section
variable {fc:Fence} [Fw fc] {P:Program} {ops:Array Oper} {n:Nat} {D:List Deferred} {Q:Post} {r:List Oper} {f:Fr} {w:World}
theorem Ua{d:Nat}{ty:TypeId}{pos:String}{after:Array Edge}{x:Operand}(h:Q .normal (updO f (some d) (fe f x)) w)(hlo:Nat.blt d n=true:=by exact rfl):
  Sq P ops n Q (⟨some d,.assign x,ty,pos,after,none⟩::[]) f w:=Oa (Nl h) hlo
theorem Ub {d b:Nat} {op:Op} {ty:TypeId} {pos a:String} {after after2:Array Edge} {x:Operand}
  (h:St P (fe (updO f (some d) (fe f x))) ⟨some b,op,e,a,after2,none⟩ w (fun v w'=>Sq P ops n Q r (updO (updO f (some d) (fe f x)) (some b) v) w') (fun ch w'=>Q (.panic ch) (updO f (some d) (fe f x)) w'))
  (g:Nat.blt d n=true:=by exact rfl) (i:Nat.blt b n=true:=by exact rfl):
  Sq P ops n Q (⟨some d,.move x,ty,pos,after,none⟩::⟨some b,op,e,a,after2,none⟩::r) f w:=Om (Ol h i) g
omit [Fw fc] in
theorem Uc{c:Operand}{x:Code}(h:Q .normal f w)(hc:fe f c= .bool false:=by exact rfl):W fc P (Code.cond c x Code.skip) n D Q f w:=PL hc (PR h)
omit [Fw fc] in
theorem Ud{c:Operand}{x y:Code}(h:W fc P x n D Q f w)(hc:fe f c= .bool true:=by exact rfl):W fc P (Code.cond c x y) n D Q f w:=PM hc h
omit [Fw fc] in
theorem Ue{c:Operand}{x y:Code}(h:W fc P y n D Q f w)(hc:fe f c= .bool false:=by exact rfl):W fc P (Code.cond c x y) n D Q f w:=PL hc h
theorem Uf{c:Operand}{ops:Array Oper}{y z:Code}(h:Sq P ops n (ni (W fc P y n D Q) Q) ops.toList f w)(hc:fe f c= .bool true:=by exact rfl):
  W fc P (Code.cond c (Code.seq (Code.region id ops false) y) z) n D Q f w:=PM hc (Rg h)
theorem Ug{c:Operand}{ops:Array Oper}{y z:Code}(h:Sq P ops n (ni (W fc P y n D Q) Q) ops.toList f w)(hc:fe f c= .bool false:=by exact rfl):
  W fc P (Code.cond c z (Code.seq (Code.region id ops false) y)) n D Q f w:=PL hc (Rg h)
theorem Uk{c:Operand}{ops:Array Oper}{z:Code}(h:Sq P ops n Q ops.toList f w)(hc:fe f c= .bool true:=by exact rfl):
  W fc P (Code.cond c (Code.region id ops false) z) n D Q f w:=PM hc (PN h)
theorem Sd0 {f0:Fr}  (k:Keep ds f0 f) {dst:Option Tmp} {op:Op} {ty:TypeId} {pos:String} {after:Array Edge} {K:Value→World→Prop} {Kp:List PanicEntry→World→Prop}
  (h:∀f',St P (fe (mixL [] ds f' f0)) ⟨dst,op,ty,pos,after,none⟩ w K Kp):OpSt P ops f ⟨dst,op,ty,pos,after,none⟩ w K Kp:=Jf k aN fun f'=>P1 (h f')
theorem Sd1 {f0:Fr}   {v:Value} (k:Keep ds f0 f) (e:f i=v) {dst:Option Tmp} {op:Op} {ty:TypeId} {pos:String} {after:Array Edge} {K:Value→World→Prop} {Kp:List PanicEntry→World→Prop}
  (h:∀f',St P (fe (mixL [(i,v)] ds f' f0)) ⟨dst,op,ty,pos,after,none⟩ w K Kp):OpSt P ops f ⟨dst,op,ty,pos,after,none⟩ w K Kp:=Jf k (aC e aN) fun f'=>P1 (h f')
end
section
variable {P:Program} {ρ:Operand→Value} {dst:Option Tmp} {ty:TypeId} {pos:String} {after:Array Edge} {gd:Option (Nat×Bool)} {w:World} {K:Value→World→Prop} {Kp:List PanicEntry→World→Prop} {X0 x y:Nat→Prop} {w0:Bs}
theorem Us {a v:Operand}  {z:Value} {sz g o:Nat}  {T:TypeId} (C:Cx X0 w0 x y w) (hb:Own w0 y w g cs T) (hi:Zf P t=some (z,sz,by_))
  (h:∀w',Cx X0 w0 x y w'→Sp x y w x y w' (· =g)→Own w0 y w' g cs' T→K undef w')
  (hx:ρ a= .pointer (some ⟨g,o,none⟩):=by exact rfl) (hy:(ρ v).cells=vs.toArray:=by exact rfl) (hl:vs.length=sz:=by exact rfl) (hfit:Nat.ble (o+sz) cs.length=true:=by exact rfl) (b:vs.all Value.oneCell'=true:=by exact rfl) (hc:cs.take o++vs++cs.drop (o+vs.length)=cs':=by exact rfl):
  St P ρ ⟨dst,.store t a v,ty,pos,after,gd⟩ w K Kp:=QM C hb hi hx hy hl hfit b hc h
theorem Uo {a:Operand}  {g o sz:Nat}  {T:TypeId} (hb:Own w0 y w g cs T) (ht:yv P t sz=true) (h:K (.agg vs.toArray) w)
  (hx:ρ a= .pointer (some ⟨g,o,none⟩):=by exact rfl) (hl:vs.length=sz:=by exact rfl) (hv:(cs.drop o).take vs.length=vs:=by exact rfl):
  St P ρ ⟨dst,.load t a,ty,pos,after,gd⟩ w K Kp:=QC hb ht hx hl hv h
end
theorem Mx{X:Nat→Prop}{w:World}{a1 a2 a e:Option Addr}{g:Nat}(m:GExpr)(h:ExprParts X w m a1 c1 a2 c2 a g e i):RV Jc X w (ea m a1 c1 a2 c2 a g e i) m:=by
 have h:=Zb (b:=m.c.num.neg) (d:=m.c.den.neg) h.lo h.hi h.name h.n h.num h.den h.args;cases m;exact h
abbrev Ar(a:GExpr)(i:Nat):GExpr:=a.args.getD i Δ
abbrev zX:List Value:=[.int .i64 0,.slice none 0 0,.bool false,.slice none 0 0,.bool false,.slice none 0 0,str [],.slice none 0 0]
abbrev zzC(a:GInt)(p:Option Addr)(c:Nat):List Value:=[.bool a.neg,.slice p a.mag.length c]
abbrev zzA(a:GInt)(p:Option Addr)(c:Nat):Value:= .agg #[.bool a.neg,.slice p a.mag.length c]
abbrev qqC(a:GRat)(p:Option Addr)(c:Nat)(q:Option Addr)(d:Nat):List Value:=[.bool a.num.neg,.slice p a.num.mag.length c,.bool a.den.neg,.slice q a.den.mag.length d]
abbrev qqA(a:GRat)(p:Option Addr)(c:Nat)(q:Option Addr)(d:Nat):Value:= .agg #[.bool a.num.neg,.slice p a.num.mag.length c,.bool a.den.neg,.slice q a.den.mag.length d]
abbrev P10(g:Nat)(o:Nat):Value:=.pointer (some ⟨g,o,none⟩)
abbrev n11:Value:=.slice none 0 0
abbrev S12{α:Type}(a:Option Addr)(m:List α)(c:Nat):Value:=.slice a m.length c
abbrev b13:Value:=.bool false
abbrev b14:Value:=.bool true
section
variable {fc:Fence} [Fw fc] {P:Program} {ops:Array Oper} {n:Nat} {D:List Deferred} {Q:Post} {f0:Fr} {w0:World} {C:World→Prop} {K:List Oper→Fr→Prop}
def OpQ(P:Program)(ops:Array Oper)(C:World→Prop)(f:Fr)(o:Oper)(v:Value):Prop:=
 ∀w,C w→OpSt P ops f o w (fun v' w'=>v'=v∧C w') (fun _ _=>False)
def QS(P:Program)(ops:Array Oper)(C:World→Prop)(K:List Oper→Fr→Prop):Nat→List Oper→Fr→Prop
 |0,l,f=>K l f
 |_+1,[],_=>False
 |m+1,o::r,f=>∃v,OpQ P ops C f o v∧QS P ops C K m r (updO f o.dst v)
def runF:List Oper→List Value→Fr→Fr
 |o::l,v::vs,f=>runF l vs (updO f o.dst v)
 |_,_,f=>f
theorem Dd{l:List Oper}{f:Fr}:runF l [] f=f:=by cases l<;>rfl
theorem QS.run:∀(m:Nat) (l:List Oper) (f:Fr),QS P ops C K m l f→∃vs:List Value,vs.length=m∧m≤l.length∧
  (∀i o,i<m→l[i]? =some o→OpQ P ops C (runF l (vs.take i) f) o (vs.getD i undef))∧K (l.drop m) (runF l vs f)
 |0,l,f,h=>⟨[],rfl,Tv _,fun i o hi=>absurd hi (TC _),by rw[Dd];exact h⟩
 |m+1,[],f,h=>h.elim
 |m+1,o::r,f,h=>by
  obtain⟨v,hv,h⟩:=h;obtain⟨vs,a,b,e,g⟩:=QS.run m r _ h;refine⟨v::vs,by simp[a],by simpa using b,?_,g⟩;intro i o' hi ho;cases i with
  |zero=>
   simp at ho;subst ho;exact hv
  |succ i=>exact e i o' ω O'
theorem vn{t:Tmp}:∀(l:List Oper) (vs:List Value) (f:Fr),(∀i o,i<vs.length→l[i]? =some o→o.dst≠some t)→runF l vs f t=f t
 |[],_,_,_=>rfl
 |_::_,[],_,_=>rfl
 |o::l,v::vs,f,h=>by
  have a:=vn l vs (updO f o.dst v) fun i o' hi ho=>h (i+1) o' ς O';have b:=h 0 o χ ϱ;show runF l vs (updO f o.dst v) t=f t;rw[a];cases hd:o.dst with
  |none=>rfl
  |some d=>
   have:t≠d:=fun e=>b (by rw[hd,e])
   simp only[updO,upd,this,if_false]
theorem wF{t:Tmp}:∀(i:Nat) (l:List Oper) (vs:List Value) (f:Fr) (o:Oper),i<vs.length→l[i]? =some o→o.dst=some t→
  (∀j o',i<j→j<vs.length→l[j]? =some o'→o'.dst≠some t)→runF l vs f t=vs.getD i undef:=by
 intro i
 induction i with
 |zero=>
  intro l vs f o hi ho hd hn;cases l with
  |nil=>simp at ho
  |cons a l=>
   cases vs with
   |nil=>simp at hi
   |cons v vs=>
    simp at ho;subst ho
    have:=vn l vs (updO f a.dst v) fun j o' hj ho'=>hn (j+1) o' ω Wr (by simpa using ho')
    show runF l vs (updO f a.dst v) t=v;rw[this,hd];simp[updO,upd]
 |succ i ih=>
  intro l vs f o hi ho hd hn;cases l with
  |nil=>simp at ho
  |cons a l=>
   cases vs with
   |nil=>simp at hi
   |cons v vs=>
    exact ih l vs _ o ς O' hd fun j o' hj hl ho'=>hn (j+1) o' ω YO (by simpa using ho')
def dlQ(ops:Array Oper)(m:Nat):List (List Nat):=(List.range m).map fun i=>(List.range m).filter fun j=>((ops[i]?).map fun o=>(o.looksAt ops).contains (Ye ops j)).getD false
def Iv:Op→Bool
 |.select _ _=>true
 |_=>false
def so(ops:Array Oper)(m n:Nat):Bool:=
 ya ops m n (dlQ ops m)&&((List.range m).all fun i=>((dlQ ops m).getD i []).all fun j=>Nat.blt j i)&&(ops.toList.all fun o=> !Iv o.op)
theorem Su{o:Oper}{f f':Fr}{w:World}{K:Value→World→Prop}{Kp:List PanicEntry→World→Prop}(hs:Iv o.op=false)(h:∀t∈o.looksAt ops,f t=f' t)(k:OpSt P ops f o w K Kp):OpSt P ops f' o w K Kp:=by
 have e1:execOp (fe f) o=execOp (fe f') o:=execOp_congr o (fun _ _ e=>by rw[e] at hs;cases hs) fun x hx=>by
  cases x with
  |tmp t=>exact h t (List.mem_append_left _ (UO.2 ⟨.tmp t,by simpa using hx,rfl⟩))
  |_=>rfl
 have e2:Region.wanted o (Zk ops f)=Region.wanted o (Zk ops f'):=by
  unfold Region.wanted;cases hg:o.guard with
  |none=>rfl
  |some gw=>
   obtain⟨g,_⟩:=gw
   have:Zk ops f g=Zk ops f' g:=by
    unfold Zk;cases hd:(ops[g]?).bind (·.dst) with
    |none=>rfl
    |some t=>
     have:=h t (by simp[Oper.looksAt,hg,hd])
     simp only[Wm,this]
   simp only[this]
 unfold OpSt St at k ⊢;rw[←e1,←e2];exact k
theorem Deps.get{σ:Type}{Gl:List (σ→Value→World→Prop)}{f:Fr}{s:σ}{w:World}:∀ {d:List Nat},Deps ops Gl f s w d→∀j∈d,(Gl.getD j noG) s (f (Ye ops j)) w
 |_::_,h,j,hj=>by
  rcases UL.1 hj with rfl|hj
  ·exact h.1
  ·exact Deps.get h.2 j hj
theorem tT{σ:Type}{s0:σ}{R:σ→World→σ→World→Prop}{Gl:List (σ→Value→World→Prop)}{ds:List Nat}:∀(l:List Oper) (dl:List (List Nat)) (k:Nat),
  (∀i o,l[i]? =some o→i<dl.length→∀f s w,R s0 w0 s w→Keep ds f0 f→Deps ops Gl f s w (dl.getD i [])→
   OpSt P ops f o w (fun v w'=>∃s',R s w s' w'∧(Gl.getD (k+i) noG) s' v w') (fun ch w'=>∀f,Q (.panic ch) f w'))→m8 P ops Q R Gl f0 s0 w0 ds l dl k
 |[],_,_,_=>trivial
 |_::_,[],_,_=>trivial
 |o::l,d::dl,k,h=>⟨fun f s w r kp dp=>h 0 o ϱ χ f s w r kp dp,tT l dl (k+1) fun i o' ho hi f s w r kp dp=>by
   have:=h (i+1) o' O' ς f s w r kp dp
   rw[show k+(i+1)=k+1+i by omega] at this;exact this⟩
theorem xX{V:List Value}:Qh (fun(_:Unit) (_:World) (_:Unit) (w':World)=>C w') (V.map fun v=>fun(_:Unit) v' (_:World)=>v'=v):=by
 induction V with
 |nil=>trivial
 |cons a V ih=>exact⟨fun v _ _ _ w' h _=>h,ih⟩
theorem S2  (hm:P.follows .mixedOrders=true) (m:Nat) (hC:C w0.drew) (chk:so ops m n=true)
  (h:QS P ops C (fun l f=>∀w,C w→Sq P ops n Q l f w) m ops.toList f0):W fc P (Code.region id ops true) n D Q f0 w0:=by
 obtain⟨vs,_,_,hY,hK⟩:=QS.run m _ _ h;unfold so at chk;simp only[T2] at chk;obtain⟨⟨chk,hlow⟩,hsel⟩:=chk;have F:=Xw chk;have hdst:∀j,j<m→∃o,ops.toList[j]? =some o∧o.dst=some (Ye ops j):=by
  intro j hj;have p:=F.some j hj;obtain⟨d,hd⟩:=Wk.1 p;cases ho:ops[j]? with
  |none=>rw[ho] at hd;cases hd
  |some o=>
   rw[ho] at hd;refine⟨o,by simpa using ho,?_⟩
   have:Ye ops j=d:=by unfold Ye;rw[ho];simp only[Wi] at hd ⊢;rw[hd];rfl
   rw[this];exact hd
 have hpre:∀t,(J2 ops m).contains t=true→∃j,j<m∧Ye ops j=t:=by
  intro t ht
  have:t∈J2 ops m:=by simpa using ht
  obtain⟨o,ho,hd⟩:=UO.1 this;obtain⟨j,hj⟩:=UQ.1 ho;rw[UD] at hj;split at hj
  ·rename_i hjm;refine⟨j,hjm,?_⟩
   have:ops[j]? =some o:=by simpa using hj
   unfold Ye;rw[this];simp[hd]
  ·cases hj
 have hnot:∀t,(J2 ops m).contains t=false→∀i o,i<m→ops.toList[i]? =some o→o.dst≠some t:=by
  intro t ht i o hi ho hd
  have:t∈J2 ops m:=UO.2 ⟨o,US (by rw[UD,if_pos hi];exact ho),hd⟩
  have:(J2 ops m).contains t=true:=by simpa using this
  rw[this] at ht;cases ht
 have hone:∀j,j<m→∀i o,i<m→i≠j→ops.toList[i]? =some o→o.dst≠some (Ye ops j):=by
  intro j hj i o hi hij ho hd;obtain⟨o',ho',hd'⟩:=hdst i hi;rw[ho] at ho';cases ho';rw[hd] at hd';exact F.apart i hi j hj (fun e=>hij e.symm) (Wn hd')
 refine SP hm m (dlQ ops m) () (fun _ _ _ w'=>C w') (vs.map fun v=>fun _ v' _=>v'=v) chk hC (fun _ _ _ _ _ _ _ h=>h) xX (tT _ _ _ ?_) ?_
 ·intro i o ho hi f s w hw hk hd;rw[Wg];have him:i<m:=by rw[F.len] at hi;exact hi
  have hg:(vs.map fun v=>fun(_:Unit) v' (_:World)=>v'=v).getD i noG=fun _ v' _=>v'=vs.getD i undef:=by
   rw[Tq,TV,Tq,Tt ω];rfl
  have hq:=hY i o him ho w hw;have hse:Iv o.op=false:=by
   have:=Um.1 hsel o (US ho)
   simpa using this
  have a:OpSt P ops f o w (fun v' w'=>v'=vs.getD i undef∧C w') (fun _ _=>False):=by
   refine Su hse ?_ hq;intro t ht
   symm
   cases hp:(J2 ops m).contains t with
   |false=>
    rw[vn _ _ _ fun j o' hj ho'=>hnot t hp j o' (by rw[To] at hj;omega) ho'];exact hk t hp
   |true=>
    obtain⟨j,hjm,hjt⟩:=hpre t hp;have hmem:j∈(dlQ ops m).getD i []:=by
     unfold dlQ;rw[Tq,TV,List.getElem?_range him];simp only[Wm,Wj];refine UN.2 ⟨by simpa using hjm,?_⟩;rw[show ops[i]? =some o by simpa using ho];simp only[Wm,Wj,hjt];simpa using ht
    have hji:j<i:=by
     have:=Um.1 (Um.1 hlow i (by simpa using him)) j hmem
     exact TG this
    have hv:=Deps.get hd j hmem;rw[Tq,TV,Tt (by omega:j<vs.length)] at hv;obtain⟨o',ho',hd'⟩:=hdst j hjm;rw[hjt] at hd';rw[wF j _ _ _ o' Ww ho' hd' fun q o2 k g b=>by
     rw[←hjt];exact hone j hjm q o2 (by rw[To] at g;omega) ω b]
    rw[hjt] at hv;rw[Tq,UD,if_pos hji,Tt (by omega:j<vs.length)];exact hv
  unfold OpSt at a ⊢;rw[hg];split
  ·rename_i hwn;rw[if_pos hwn] at a;exact St.mono a (fun v w' h=>⟨(),h.2,h.1⟩) fun _ _ h=>h.elim
  ·rename_i hwn;rw[if_neg hwn] at a;exact⟨(),a.2,a.1⟩
 ·intro f s w hw hk hd
  have:runF ops.toList vs f0=f:=by
   funext t
   cases hp:(J2 ops m).contains t with
   |false=>
    rw[vn _ _ _ fun j o' hj ho'=>hnot t hp j o' ω ho']
    exact(hk t hp).symm
   |true=>
    obtain⟨j,hjm,hjt⟩:=hpre t hp;have hv:=Deps.get hd j (by simpa using hjm);rw[Tq,TV,Tt (by omega:j<vs.length)] at hv;obtain⟨o',ho',hd'⟩:=hdst j hjm;rw[hjt] at hd';rw[wF j _ _ _ o' ω ho' hd' fun q o2 k g b=>by rw[←hjt];exact hone j hjm q o2 ω ω b];rw[hjt] at hv;rw[Tq,Tt (by omega:j<vs.length)];exact hv.symm
  rw[this] at hK;exact hK w hw
section
variable {r:List Oper} {f:Fr} {ty:TypeId} {pos:String} {after:Array Edge} {d m:Nat}
theorem Qw{op:Op}{v:Value}(h:∀w,C w→St P (fe f) ⟨some d,op,ty,pos,after,none⟩ w (fun v' w'=>v'=v∧C w') (fun _ _=>False))(k:QS P ops C K m r (updO f (some d) v)):
  QS P ops C K (m+1) (⟨some d,op,ty,pos,after,none⟩::r) f:=⟨v,fun w c=>P1 (h w c),k⟩
theorem Qp{op:Op}{v:Value}(h:∀w,St P (fe f) ⟨some d,op,ty,pos,after,none⟩ w (fun v' w'=>v'=v∧w'=w) (fun _ _=>False))(k:QS P ops C K m r (updO f (some d) v)):
  QS P ops C K (m+1) (⟨some d,op,ty,pos,after,none⟩::r) f:=Qw (fun w c=>St.mono (h w) (fun _ _ e=>⟨e.1,e.2▸c⟩) fun _ _ h=>h) k
theorem Qm{x:Operand}(k:QS P ops C K m r (updO f (some d) (fe f x))):QS P ops C K (m+1) (⟨some d,.move x,ty,pos,after,none⟩::r) f:=Qp (fun _=>PP ⟨rfl,rfl⟩) k
theorem Qa{x:Operand}(k:QS P ops C K m r (updO f (some d) (fe f x))):QS P ops C K (m+1) (⟨some d,.assign x,ty,pos,after,none⟩::r) f:=Qp (fun _=>RD ⟨rfl,rfl⟩) k
def isPt:Value→Bool
 |.pointer (some _)=>true
 |_=>false
theorem Qn{x:Operand}(k:QS P ops C K m r (updO f (some d) (fe f x)))(hx:isPt (fe f x)=true:=by exact rfl):QS P ops C K (m+1) (⟨some d,.nilCheck x,ty,pos,after,none⟩::r) f:=by
 have:∃a,fe f x= .pointer (some a):=by
  unfold isPt at hx;split at hx
  ·rename_i a h;exact⟨a,h⟩
  ·cases hx
 obtain⟨a,ha⟩:=this;exact Qp (fun _=>PZ ha ⟨ha.symm,rfl⟩) k
theorem Qf{x:Operand}{s off b o:Nat}(hs:Zs P s i=some off)(hx:fe f x= .pointer (some ⟨b,o,none⟩))(k:QS P ops C K m r (updO f (some d) (.pointer (some ⟨b,o+off,none⟩)))):
  QS P ops C K (m+1) (⟨some d,.fieldAddr s x i,ty,pos,after,none⟩::r) f:=Qp (fun _=>PJ hs hx ⟨rfl,rfl⟩) k
theorem Qg{dd:Option Tmp}{op:Op}{b:Bool}(h:QS P ops C K (m+1) (⟨dd,op,ty,pos,after,none⟩::r) f)(hy:Zk ops f j=some b:=by exact rfl):
  QS P ops C K (m+1) (⟨dd,op,ty,pos,after,some (j,b)⟩::r) f:=by
 obtain⟨v,h,k⟩:=h;refine⟨v,fun w c=>PY hy ?_,k⟩
 have:=h w c
 unfold OpSt at this;rw[if_pos (show Region.wanted (⟨dd,op,ty,pos,after,none⟩:Oper) (Zk ops f)=true from rfl)] at this;exact this
theorem Qx{op:Op}{b:Bool}(k:QS P ops C K m r (updO f (some d) undef))(hw:Region.wanted (⟨some d,op,ty,pos,after,some (j,b)⟩:Oper) (Zk ops f)=false:=by exact rfl):
  QS P ops C K (m+1) (⟨some d,op,ty,pos,after,some (j,b)⟩::r) f:=
 ⟨undef,fun _ c=>by unfold OpSt;rw[if_neg (by rw[hw];decide)];exact⟨rfl,c⟩,k⟩
end
def Qc(X0:Nat→Prop)(b0:Bs)(x y:Nat→Prop)(w w':World):Prop:=Cx X0 b0 x y w'∧Sp x y w x y w' Zl
section
variable {X0 x y:Nat→Prop} {b0:Bs} {r:List Oper} {f:Fr} {ty:TypeId} {pos:String} {after:Array Edge} {d m:Nat}
theorem QY(hm:P.follows .mixedOrders=true)(m:Nat)(C:Cx X0 b0 x y w0)(h:QS P ops (Qc X0 b0 x y w0) (fun l f=>∀w,Qc X0 b0 x y w0 w→Sq P ops n Q l f w) m ops.toList f0)(chk:so ops m n=true:=by kernel_rfl):
  W fc P (Code.region id ops true) n D Q f0 w0:=S2 hm m (C.next (Below.refl _ _).drew) chk h
theorem Qz{l:List Oper}(h:∀w,Cx X0 b0 x y w→Sp x y w0 x y w Zl→Sq P ops n Q l f w):QS P ops (Qc X0 b0 x y w0) (fun l f=>∀w,Qc X0 b0 x y w0 w→Sq P ops n Q l f w) 0 l f:=fun w c=>h w c.1 c.2
theorem Qd {a:Operand}  {g o:Nat}  {T:TypeId} {v:Value} (hb:Own b0 y w0 g cs T) (ht:Yw P t=true) (hx:fe f a= .pointer (some ⟨g,o,none⟩)) (hv:cs[o]? =some v)
  (k:QS P ops (Qc X0 b0 x y w0) K m r (updO f (some d) v)):QS P ops (Qc X0 b0 x y w0) K (m+1) (⟨some d,.load t a,ty,pos,after,none⟩::r) f:=
 Qw (fun _ c=>PO (hb.spn c.2) ht hx hv ⟨rfl,c⟩) k
end
end
section
variable {P:Program} {ρ:Operand→Value} {dst:Option Tmp} {ty:TypeId} {pos:String} {after:Array Edge} {gd:Option (Nat×Bool)}
 {w:World} {K:Value→World→Prop} {Kp:List PanicEntry→World→Prop} {X0 x y:Nat→Prop} {w0:Bs}
theorem Re {a i:Operand}  {z:Value} {g n c o:Nat} {k:IntKind} {m:Int}  (ht:P.underlying t=some (.slice e)) (hi:Zf P e=some (z,1,by_))
  (hx:ρ a= .slice (some ⟨g,o,none⟩) n c) (hy:ρ i= .int k m) (hm:m=j) (hj:j<n) (h:K (.pointer (some ⟨g,o+j,none⟩)) w):St P ρ ⟨dst,.indexAddr t a i,ty,pos,after,gd⟩ w K Kp:=by
 obtain⟨_,hi',_,hs,_⟩:=J0 hi;refine Rv ht hi' hs hx hy hm hj ?_;rw[VS];exact h
theorem Ro{a:Operand}{t g o u:Nat}{A U Z:List Nat}(hA:A.length=o)(ow:Own w0 y w g ((A++U++Z).map u32v) E)(ht:Yw P t=true)(hx:ρ a= .pointer (some ⟨g,o+j,none⟩))(hu:U[j]? =some u)(h:K (.int .u32 u) w):
  St P ρ ⟨dst,.load t a,ty,pos,after,gd⟩ w K Kp:=by
 refine RL ow ht hx ?_ h;have hj:=(UC.1 hu).1;rw[Tm,UA ω,hA,U4,Uz hj,hu]
theorem Ru {a v:Operand} {t g o u:Nat} {z:Value}  {A U Z:List Nat}  (hA:A.length=o) (C:Cx X0 w0 x y w) (ow:Own w0 y w g ((A++U++Z).map u32v) E) (hi:Zf P t=some (z,1,by_)) (hx:ρ a= .pointer (some ⟨g,o+j,none⟩)) (hv:ρ v= .int .u32 u) (hj:j<U.length)
  (h:∀w',Cx X0 w0 x y w'→Sp x y w x y w' (· =g)→Own w0 y w' g ((A++U.set j u++Z).map u32v) E→K undef w'):St P ρ ⟨dst,.store t a v,ty,pos,after,gd⟩ w K Kp:=by
 refine QR C ow hi hx hv (by simp only[Tc];omega) ?_;have e:(A++U++Z).set (o+j) u=A++U.set j u++Z:=by
  rw[Tm,UV,if_neg ω,hA,U4,UV,if_pos hj,Tm]
 rw[e];exact h
theorem Sb {a lo r:Operand}  {z:Value} {g n c:Nat} {k k':IntKind} {m m':Int} 
  (ht:P.underlying t=some (.slice e)) (hi:Zf P e=some (z,1,by_)) (hx:ρ a= .slice (some ⟨g,0,none⟩) n c) (hy:ρ lo= .int k m) (hm:m=i) (hy':ρ r= .int k' m') (hm':m'=j) (hij:i≤j) (hj:j≤c) (hic:i<c)
  (h:K (.slice (some ⟨g,i,none⟩) (j-i) (c-i)) w):St P ρ ⟨dst,.slice t a (some lo) (some r) none,ty,pos,after,gd⟩ w K Kp:=by
 subst hm;subst hm';obtain⟨_,hi',_,hs,_⟩:=J0 hi;refine P9 (v:= .slice (some ⟨g,i,none⟩) (j-i) (c-i)) ?_ h;have b:¬c=i:=o
 have d:c-i≠0:=o
 simp[execOp,hx,hy,hy',Instr.sliceAt,Instr.slice,run_underlying ht,Instr.sliceBounds,Instr.sliceBound,asIntOf,hij,hj,sizeOf,typeInfo,hi',hs,b,d,Addr.add]
 try exact fun e=>e.symm
theorem QT {k:FuncId} {args:Array Operand} {ts:Array TypeId}  {g:Nat}  {T:TypeId} {φ:Value→World→Prop} (C:Cx X0 w0 x y w) (o:Own w0 y w g cs T) (hk:Jd P k=true)
  (ha:args.toList.map ρ=vs) (he:ρ (.func k)= .func (.func k) #[] #[]) (hc:Calls P k vs.toArray w (RetM w g fun v w'=>φ v w'∧Blk w' g cs' T))
  (h:∀v w',Cx X0 w0 x y w'→Sp x y w x y w' (· =g)→Own w0 y w' g cs' T→φ v w'→K v w'):
  St P ρ ⟨dst,.call {callee:= .value (.func k),args:=args,argTypes:=ts},ty,pos,after,gd⟩ w K Kp:=
 SK (Ψ:=fun v w' c=>c=cs'∧φ v w') C o hk ha he hc (fun _ _ h=>⟨_,h.2,rfl,h.1⟩) (fun v w' c hC hS hO hp=>by obtain⟨rfl,hp⟩:=hp;exact h v w' hC hS hO hp)
def Ig(w:World)(cs:List Value)(n:Nat)(T:TypeId)(v:Value)(w':World):Prop:=∃g,v= .slice (some ⟨g,0,none⟩) n n∧w.heap.size≤g∧Blk w' g cs T
theorem Cx.adopt{w':World}{g:Nat}{T:TypeId}(C:Cx X0 w0 x y w)(h:Below w.heap.size w w')(hg:w.heap.size≤g)(hb:Blk w' g cs T):
  Cx X0 w0 (fun b=>x b∨b=g) (fun b=>y b∨b=g) w'∧Sp x y w (fun b=>x b∨b=g) (fun b=>y b∨b=g) w' Zl∧Own w0 (fun b=>y b∨b=g) w' g cs T:=by
 have hle:=C.below.size;refine⟨⟨C.below.trans (h.mono hle),fun b hb=> .inl (C.base b hb),?_,?_⟩,⟨⟨?_,fun b hb _=>h.block b hb,h.size⟩,⟨?_,fun b hb _=>h.block b hb,h.size⟩,fun _ h=> .inl h,fun b hb _=>h.block b hb⟩,⟨.inr r,.inl o,hb⟩⟩
 ·rintro b (hx|rfl)
  ·exact Ti (C.bd b hx) h.size
  ·exact hb.lt
 ·rintro b (hy|rfl)
  ·exact .inl (C.yx b hy)
  ·exact .inr r
 ·rintro b hlt (hx|rfl)
  ·exact hx
  ·omega
 ·rintro b hlt (hx|rfl)
  ·exact hx
  ·omega
theorem SL {k:FuncId} {args:Array Operand} {ts:Array TypeId}   {n:Nat} {T:TypeId} (C:Cx X0 w0 x y w) (hk:Jd P k=true)
  (ha:args.toList.map ρ=vs) (he:ρ (.func k)= .func (.func k) #[] #[]) (hc:Calls P k vs.toArray w (Ret w fun v w'=>Ig w cs n T v w'))
  (h:∀g w' x' y',(∀b,b<w.heap.size→b≠g)→Cx X0 w0 x' y' w'→Sp x y w x' y' w' Zl→Own w0 y' w' g cs T→K (.slice (some ⟨g,0,none⟩) n n) w'):
  St P ρ ⟨dst,.call {callee:= .value (.func k),args:=args,argTypes:=ts},ty,pos,after,gd⟩ w K Kp:=by
 unfold Jd at hk;split at hk
 ·rename_i fn hf;simp only[T2,T3] at hk;refine RG hf hk.1 hk.2 ha (Calls.mono hc ?_) he;intro e w' hr;cases e with
  |returned v=>
   obtain⟨⟨g,rfl,hg,hb⟩,a⟩:=hr;obtain⟨c,s,o⟩:=C.adopt a hg hb;exact h g w' _ _ (fun b hb=>by omega) c s o
  |panicked ch=>exact hr.elim
  |outgrown=>exact hr.elim
 ·cases hk
end
def vO(x:Nat→Prop)(g:Nat):Nat→Prop:=fun b=>x b∧b≠g
section
variable {X0 x y:Nat→Prop} {w0:Bs} {w:World}
theorem Cx.freeze(C:Cx X0 w0 x y w)(hX:∀b,X0 b→b<w0.heap.size){g:Nat}{T:TypeId}(o:Own w0 y w g cs T)(hM:¬w0.M g):Cx X0 w0 (vO x g) (vO y g) w:=by
 refine⟨C.below,fun b hb=>⟨C.base b hb,?_⟩,fun b hb=>C.bd b hb.1,fun b hb=>⟨C.yx b hb.1,hb.2⟩⟩;rintro rfl
 have:=hX b hb
 rcases o.ge with h|h
 ·omega
 ·exact hM h
theorem Own.frz{g g':Nat}{T:TypeId}(o:Own w0 y w g' cs T)(hn:g'≠g):Own w0 (vO y g) w g' cs T:=⟨⟨o.mem,hn⟩,o.ge,o.blk⟩
theorem Tr.frz{g:Nat}:Tr x w (vO x g) w:=Tr.weak fun _ h=>h.1
theorem Own.frRS{g n c:Nat}(o:Own w0 y w g (L.map u32v) E)(hn:n≤L.length)(hc:n≤c)(hb:c≤1099511627776)(hL:∀u∈L,u<4294967296):
  RS Jh (vO x g) w (.slice (some ⟨g,0,none⟩) n c) (L.take n):=by
 have hl:(L.take n).length=n:=by rw[To];omega
 refine⟨_,c,by rw[hl],ω,by unfold maxLen;omega,.inr ⟨g,0,rfl,fun h=>h.2 r,?_⟩⟩;intro i u hi;have hi':L[i]? =some u:=by
  have hlt:=(UC.1 hi).1;rw[hl] at hlt;rw[UD,if_pos hlt] at hi;exact hi
 refine⟨[u32v u],⟨rfl,hL u (US hi')⟩,?_⟩;intro j v hj;cases j with
 |zero=>
  simp at hj;subst hj
  have:=o.blk.cell (j:=i) (v:=u32v u) (by rw[TV,hi'];rfl)
  rw[show 0+i*Jh.sz+0=i by simp[Jh]];exact this
 |succ j=>simp at hj
end
section
variable {X0:Nat→Prop} {w0:Bs}
end
section
variable {P:Program} {ρ:Operand→Value} {dst:Option Tmp} {ty:TypeId} {pos:String} {after:Array Edge} {gd:Option (Nat×Bool)}
 {w:World} {K:Value→World→Prop} {Kp:List PanicEntry→World→Prop} {X0 x y:Nat→Prop} {w0:Bs}
end
section
variable {X0 x y x':Nat→Prop} {w0:Bs} {w:World}
theorem OS.pub{α:Type}{T:Ty α}{v:Value}{l:List α}(h:OS T E w0 x y w v l)(hs:∀b,x' b→x b)(hx:∀k,v.ownBlock=some k→¬x' k):RS T x' w v l:=by
 obtain⟨⟨css,m,a,d⟩,_⟩:=h;rcases d.2 with ⟨rfl,h⟩|⟨g,cap,_,rfl,_,_,p,s,_⟩
 ·exact⟨none,0,by rw[h],o,by unfold maxLen;omega,.inl (TD h)⟩
 ·refine⟨_,cap,rfl,p,s,.inr ⟨g,0,rfl,hx g r,?_⟩⟩;intro i u hi;have hlt:i<l.length:=(UC.1 hi).1;have hci:css[i]? =some css[i]:=by simp[m,hlt]
  have hr:=a i _ u hci hi;refine⟨css[i],T.tr hr (Tr.weak hs),?_⟩;intro j v hv;have hall:∀cs∈css,cs.length=T.sz:=by
   intro cs hcs;obtain⟨q,hq,rfl⟩:=UP.1 hcs;have hq':q<l.length:=o
   exact T.len (a q _ l[q] WG W3)
  have hj:j<css[i].length:=(UC.1 hv).1
  have:=yq css hall i j _ hci hj
  rw[hv] at this;have e:=d.cells (g:=g) r _ _ this;rw[Addr.add_lit] at e;rw[show 0+i*T.sz+j=0+(i*T.sz+j) by omega];exact e
theorem OS.freeze{α:Type}{T:Ty α}{v:Value}{l:List α}(h:OS T E w0 x y w v l)(C:Cx X0 w0 x y w)(hX:∀b,X0 b→b<w0.heap.size)(hM:∀b,w0.M b→y b:=by exact fun _ h=>False.elim h):
  ∃x':Nat→Prop,Cx X0 w0 x' y w∧(∀b,x' b→x b)∧RS T x' w v l:=by
 refine⟨fun b=>x b∧v.ownBlock≠some b,⟨C.below,fun b hb=>⟨C.base b hb,fun e=>?_⟩,fun b hb=>C.bd b hb.1,fun b hb=>⟨C.yx b hb,fun e=>(h.mem b e).1.2 hb⟩⟩,fun _ hb=>hb.1,h.pub (fun _ hb=>hb.1) fun _ e hk=>hk.2 e⟩;have d:=hX b hb
 rcases(h.mem b e).2 with a|a
 ·omega
 ·exact(h.mem b e).1.2 (hM b a)
end
section
variable {fc:Fence} [Fw fc] {P:Program} {ops:Array Oper} {n:Nat} {D:List Deferred} {Q:Post} {f0:Fr} {w0:World}
structure DrawFacts2 (ops:Array Oper) (m n q:Nat) (dl:List (List Nat)):Prop where
 le:m≤ops.size
 len:dl.length=m
 dst:∀(k:Nat) (o:Oper),ops[k]? =some o→lo n o.dst
 back:∀(k:Nat) (o:Oper),ops[k]? =some o→∀e∈o.after,Region.binds .any e=true→e.on<k
 deps:∀k,k<m→∀j∈dl.getD k [],ancB ops ops.size j k=true∧j<m
 tail:∀k,k<ops.size→m≤k→∀j,j<k→ancB ops ops.size j k=true
 some:∀k,k<m→k≠q→((ops[k]?).bind (·.dst)).isSome=true
 none:∀k,k<m→k=q→((ops[k]?).bind (·.dst))=none
 apart:∀k,k<m→k≠q→∀j,j<m→j≠k→j≠q→Ye ops j≠Ye ops k
end
structure RW (X0:Nat→Prop) (w0:Bs) (g:Nat) (Φ:Gh→World→Prop) (s:Gh) (w:World) (s':Gh) (w':World):Prop where
 cx:Cx X0 w0 s'.1 s'.2 w'
 sp:Sp s.1 s.2 w s'.1 s'.2 w' (· =g)
 tn:Φ s w→Φ s' w'
 ow:∀C T,Own w0 s.2 w g C T→∃C',C'.length=C.length∧Own w0 s'.2 w' g C' T
section
variable {X0:Nat→Prop} {w0:Bs} {g:Nat} {Φ:Gh→World→Prop}
theorem Sp.wide{x y x':Nat→Prop}{w w':World}(h:Sp x y w x' y' w' Zl):Sp x y w x' y' w' ch:=⟨h.tx,h.ty,h.up,fun b hb _=>h.same b hb id⟩
theorem Sp.transW{x y x' x'' y'':Nat→Prop}{a b c:World}(h:Sp x y a x' y' b ch)(k:Sp x' y' b x'' y'' c ch):Sp x y a x'' y'' c ch:=
 ⟨h.tx.trans k.tx,h.ty.trans k.ty,fun b hb=>k.up b (h.up b hb),fun b hb hc=>(k.same b (Ti hb h.tx.size) hc).trans (h.same b hb hc)⟩
end
section
variable {P:Program} {ρ:Operand→Value} {dst:Option Tmp} {ty:TypeId} {pos:String} {after:Array Edge} {gd:Option (Nat×Bool)}
 {w:World} {K:Value→World→Prop} {Kp:List PanicEntry→World→Prop} {X0 x y:Nat→Prop} {w0:Bs}
end
end Go.Wf
namespace Go.Wf
open Go
variable{A B L Q U a b l m p:List Nat}{D J P T Ul V Vl g h i j s u2 x y:Nat}
def cmpN(a b:Nat):Int:=if a<b then -1 else if a=b then 0 else 1
theorem pi{d:Nat}(h:d<4294967296):IntKind.u64.wrap ((d:Int)*2^min (32:Int).toNat IntKind.u64.bits)=((d*4294967296:Nat):Int):=by
 have:(2:Int)^min (32:Int).toNat IntKind.u64.bits=4294967296:=δ
 rw[this,Tw _ o];omega
theorem oH{d e:Nat}(hd:d<4294967296)(he:e<4294967296):IntKind.u64.wrap (BitVec.ofInt IntKind.u64.bits ((d*4294967296:Nat):Int) ||| BitVec.ofInt IntKind.u64.bits (e:Int)).toNat=((d*4294967296+e:Nat):Int):=by
 have a:(BitVec.ofInt IntKind.u64.bits ((d*4294967296:Nat):Int)).toNat=d*4294967296:=by
  rw[T1];simp[IntKind.bits];omega
 have b:(BitVec.ofInt IntKind.u64.bits (e:Int)).toNat=e:=by
  rw[T1];simp[IntKind.bits];omega
 rw[BitVec.toNat_or,a,b]
 have:d*4294967296 ||| e=d*4294967296+e:=by
  rw[show(4294967296:Nat)=2^32 by decide,TR,Wc o]
 rw[this,Tw _ o]
theorem LT(h:((m.length:Nat):Int)=0):((0:Nat):Int)=((val m:Nat):Int):=by
 have:m=[]:=TD o
 subst this;rfl
theorem ML(h:((m.length:Nat):Int)=1):((m.getD 0 0:Nat):Int)=((val m:Nat):Int):=by
 match m,h with
 |[d],_=>simp[val]
 |[],h=>simp at h
 |_::_::_,h=>simp at h;omega
theorem Mw(h:m.length=2):((m.getD 1 0*4294967296+m.getD 0 0:Nat):Int)=((val m:Nat):Int):=by
 match m,h with
 |[d,e],_=>simp[val];omega
theorem Vx(h:trim l=l)(hl:l≠[]):4294967296^(l.length-1)≤val l:=by
 rcases List.eq_nil_or_concat l with rfl|⟨q,d,rfl⟩
 ·exact absurd r hl
 ·rw[List.concat_eq_append] at h ⊢;have hd:d≠0:=by
   rintro rfl;rw[qu] at h
   have:=Jx q
   rw[h] at this;simp at this;omega
  rw[Kf,Tc,Tf,U3]
  have:4294967296^q.length*1≤4294967296^q.length*d:=TP _ o
  omega
theorem X1(hb:trim b=b)(sa:Jr a)(h:a.length<b.length):val a<val b:=by
 have d:=Yk a sa;have g:=Vx hb (by intro e;subst e;simp at h)
 have:(4294967296:Nat)^a.length≤4294967296^(b.length-1):=TM o o
 omega
theorem Hb(ha:trim a=a)(hb:trim b=b)(sa:Jr a)(sb:Jr b)(h:¬a.length=b.length):(((a.length:Nat):Int)-((b.length:Nat):Int)).sign=cmpN (val a) (val b):=by
 unfold cmpN;rcases TN a.length b.length with hl|hl
 ·rw[if_pos (X1 hb sa hl),Uh o]
 ·have:=X1 ha sb o
  rw[if_neg o,if_neg o,Ui o]
theorem Do(l:List Nat)(i:Nat)(h:i<l.length):l=l.take i++l.getD i 0::l.drop (i+1):=by
 rw[Tq,Tt h];simp
theorem pC(l:List Nat)(i:Nat)(h:i<l.length):val l=val (l.take i)+4294967296^i*(l.getD i 0+4294967296*val (l.drop (i+1))):=by
 conv=>lhs;rw[Do l i h]
 rw[Vn,To,VN o,val]
theorem CT(hl:j≤a.length)(hab:a.length=b.length)(d:0<j)(h:((a.getD (j-1) 0:Nat):Int)=((b.getD (j-1) 0:Nat):Int))(heq:a.drop j=b.drop j):a.drop (j-1)=b.drop (j-1):=by
 obtain⟨i,rfl⟩:∃i,j=i+1:=⟨j-1,o⟩;rw[U3] at h ⊢;have h':a.getD i 0=b.getD i 0:=o
 have e1:a.drop i=a.getD i 0::a.drop (i+1):=by
  rw[Tq,Tt o];simp
 have e2:b.drop i=b.getD i 0::b.drop (i+1):=by
  rw[Tq,Tt o];simp
 rw[e1,e2,h',heq]
theorem Ee(sa:Jr a)(_sb:Jr b)(hl:j≤a.length)(hab:a.length=b.length)(e:0<j)(h:a.getD (j-1) 0<b.getD (j-1) 0)(heq:a.drop j=b.drop j):(-1:Int)=cmpN (val a) (val b):=by
 obtain⟨i,rfl⟩:∃i,j=i+1:=⟨j-1,o⟩;rw[U3] at h
 have:val a<val b:=by
  rw[pC a i o,pC b i o,heq];have d:=Yk (a.take i) (zu sa i);rw[To,VN o] at d;generalize 4294967296*val (b.drop (i+1))=t;have g:4294967296^i*(a.getD i 0+t)+4294967296^i≤4294967296^i*(b.getD i 0+t):=by
   rw[←Nat.mul_succ];exact TP _ o
  omega
 unfold cmpN;rw[if_pos this]
theorem Nf(sa:Jr a)(sb:Jr b)(hl:j≤a.length)(hab:a.length=b.length)(d:0<j)(h:¬a.getD (j-1) 0<b.getD (j-1) 0)(h':¬a.getD (j-1) 0=b.getD (j-1) 0)(heq:a.drop j=b.drop j):(1:Int)=cmpN (val a) (val b):=by
 have:=Ee sb sa o hab.symm d o heq.symm
 unfold cmpN at this ⊢;split at this
 ·rw[if_neg o,if_neg o]
 ·split at this
  ·cases this
  ·cases this
theorem JS(h:j=0)(heq:a.drop j=b.drop j):(0:Int)=cmpN (val a) (val b):=by
 subst h;rw[Uv,Uv] at heq;subst heq;unfold cmpN;rw[if_neg o,if_pos rfl]
theorem tb31{a:Nat}(h:a<4294967296):a.testBit 31=decide (2147483648≤a):=by
 rw[Nat.testBit_eq_decide_div_mod_eq];rw[Bool.eq_iff_iff];simp;omega
theorem OD{a:Nat}(h:a<4294967296):a/2147483648=if a.testBit 31 then 1 else 0:=by
 rw[tb31 h];by_cases b:2147483648≤a
 ·simp[b];omega
 ·simp[b];omega
theorem wg{b d:Nat}(hx:x<4294967296)(hy:y<4294967296)(hb:b≤1)(hd:d=(x+8589934592-y-b)%4294967296):
  (((4294967295-x) &&& y) ||| ((4294967295-(x ^^^ y)) &&& d))/2147483648=if x<y+b then 1 else 0:=by
 have hdl:d<4294967296:=o
 have i:(4294967295-x) &&& y<4294967296:=U6 _ (n:=32) hy;have j:(4294967295-(x ^^^ y)) &&& d<4294967296:=U6 _ (n:=32) hdl;have hxy:x ^^^ y<4294967296:=Nat.xor_lt_two_pow (n:=32) hx hy;have k:((4294967295-x) &&& y) ||| ((4294967295-(x ^^^ y)) &&& d)<4294967296:=VW (n:=32) i j;rw[OD k,Nat.testBit_or,Nat.testBit_and,Nat.testBit_and,tb31 hy,tb31 hdl,tb31 (a:=4294967295-x) o,tb31 (a:=4294967295-(x ^^^ y)) o];have hxor:decide (2147483648≤4294967295-(x ^^^ y))= !(decide (2147483648≤x) ^^ decide (2147483648≤y)):=by
  have:=Nat.testBit_xor x y 31
  rw[tb31 hx,tb31 hy,tb31 hxy] at this;rw[←this];rw[Bool.eq_iff_iff];simp;omega
 rw[hxor];by_cases e:2147483648≤x<;>by_cases g:2147483648≤y<;>by_cases h:2147483648≤d<;>by_cases hlt:x<y+b<;>simp[e,g,h,hlt]<;>omega
theorem FF(hy:y<4294967296):IntKind.u32.wrap ((x:Int)-(y:Int))=(((x+4294967296-y)%4294967296:Nat):Int):=by
 rw[IntKind.wrap_u32];omega
theorem X7{n d:Nat}(hp:p.length=i)(hi:i<n):(p++List.replicate (n-i) 0).set i d=(p++[d])++List.replicate (n-(i+1)) 0:=by
 obtain⟨k,hk⟩:∃k,n-i=k+1:=⟨n-i-1,o⟩;rw[hk,show n-(i+1)=k by omega,List.replicate_succ,UV,if_neg o,hp,Wa,UW,Tm];rfl
theorem zK{n d:Nat}(hp:p.length=n):(p++List.replicate (n+1-n) 0).set n d=p++[d]:=by
 have:=X7 (d:=d) hp (VM n)
 rw[this,Wa];simp
theorem pO{n d:Nat}(hp:p.length=i)(hi:i=n):(p++List.replicate (n+1-i) 0).set n d=p++[d]:=by
 subst hi;exact zK hp
theorem mulB{q:Nat}:q*(s%4294967296)+q*4294967296*(s/4294967296)=q*s:=by
 rw[TO,←TH]
 congr 1;omega
theorem qg{c:Nat}(hp:p.length=i)(hv:val p+4294967296^i*c=val (A.take i)+val (B.take i))(hx:x=A.getD i 0)(hy:y=B.getD i 0):
  val (p++[(x+y+c)%4294967296])+4294967296^(i+1)*((x+y+c)/4294967296)=val (A.take (i+1))+val (B.take (i+1)):=by
 rw[Kf,hp,TF,Jv,Jv,←hx,←hy]
 have:=mulB (q:=4294967296^i) (s:=x+y+c)
 rw[TH,TH] at this;omega
theorem Zz(h:Jr p){d:Nat}(hd:d<4294967296):Jr (p++[d]):=Yo h (Yl hd Zh)
theorem my(h:l.length≤i):0=l.getD i 0:=by rw[Tq,TQ h];rfl
theorem tC{n c:Nat}(hs:Jr p)(hp:p.length=n)(hn:n=A.length)(hBA:B.length≤A.length)(hc:c≤1)(hv:val p+4294967296^n*c=val (A.take n)+val (B.take n)):
  p++[c]=Zc (A.length+1) (val A+val B):=by
 subst hn;refine Xn (Zz hs o) E' ?_;rw[Kf,hp,hv,U1,TE hBA]
theorem qX{c:Nat}(hp:p.length=i)(hc:c≤1)(hxl:x<4294967296)(hyl:y<4294967296)(hv:val p+val (B.take i)=val (A.take i)+4294967296^i*c)(hx:x=A.getD i 0)(hy:y=B.getD i 0):
  val (p++[(x+8589934592-y-c)%4294967296])+val (B.take (i+1))=val (A.take (i+1))+4294967296^(i+1)*(if x<y+c then 1 else 0):=by
 rw[Kf,hp,TF,Jv,Jv,←hx,←hy];have key:(x+8589934592-y-c)%4294967296+y+c=x+4294967296*(if x<y+c then 1 else 0):=by
  split<;>omega
 have:=congrArg (4294967296^i * ·) key
 simp only[TH] at this;rw[←TO] at this;omega
theorem DI{n c:Nat}(hs:Jr p)(hp:p.length=n)(hn:n=A.length)(hBA:B.length≤A.length)(hle:val B≤val A)(hv:val p+val (B.take n)=val (A.take n)+4294967296^n*c):
  p=Zc A.length (val A-val B):=by
 subst hn;rw[U1,TE hBA] at hv;refine Xn hs hp ?_;have hlt:=Yk p hs;rw[hp] at hlt;rcases VE c with rfl|hcp
 ·omega
 ·exfalso
  have:4294967296^A.length*1≤4294967296^A.length*c:=TP _ hcp
  omega
theorem Du(hx:x<4294967296)(hy:y<4294967296):x*y≤18446744065119617025:=
 Tj (VP (show x≤4294967295 by omega) (show y≤4294967295 by omega)) o
theorem qe(h:Jr l){d:Nat}(hd:d<4294967296)(k:Nat):Jr (l.set k d):=by
 intro u hu;rcases List.mem_or_eq_of_mem_set hu with hu|rfl
 ·exact h u hu
 ·exact hd
theorem mm{k m d:Nat}(h:m≠k):(l.set k d).getD m 0=l.getD m 0:=by
 have h':¬k=m:=fun e=>h e.symm;simp[Tq,List.getElem?_set,h']
theorem oc:∀ {l:List Nat} {k d:Nat},k<l.length→val (l.set k d)+4294967296^k*l.getD k 0=val l+4294967296^k*d
 |[],_,_,h=>by simp at h
 |e::l,0,d,_=>by simp[val];omega
 |e::l,k+1,d,h=>by
  have:=oc (l:=l) (k:=k) (d:=d) d'
  have e1:(e::l).getD (k+1) 0=l.getD k 0:=by simp[Tq]
  rw[List.set_cons_succ,val,val,e1,TF];generalize hq:4294967296^k=q at this ⊢;rw[TR q 4294967296,TO,TO];omega
theorem vR{c W:Nat}(hk:i+j<L.length)(hv:val L+4294967296^(i+j)*c=V+4294967296^i*(x*W)){W':Nat}(hW:W'=W+4294967296^j*y):
  val (L.set (i+j) ((x*y+L.getD (i+j) 0+c)%4294967296))+4294967296^(i+(j+1))*((x*y+L.getD (i+j) 0+c)/4294967296)=V+4294967296^i*(x*W'):=by
 have b:=oc (d:=(x*y+L.getD (i+j) 0+c)%4294967296) hk;have a:=mulB (q:=4294967296^(i+j)) (s:=x*y+L.getD (i+j) 0+c);rw[show i+(j+1)=(i+j)+1 by omega,TF,hW];rw[TH,TH] at a;have e:4294967296^i*(x*(W+4294967296^j*y))=4294967296^i*(x*W)+4294967296^(i+j)*(x*y):=by
  rw[TH,TH,VX]
  congr 1
  rw[TO,VR x]
 omega
theorem yC{L':List Nat}{n c W:Nat}(hk:i+n<L'.length)(hz:L'.getD (i+n) 0=0)(hv:val L'+4294967296^(i+n)*c=V*W+4294967296^i*(x*W)):
  val (L'.set (i+n) c)=(V+4294967296^i*x)*W:=by
 have a:=oc (d:=c) hk;rw[hz,VU] at a;rw[U2,TO];omega
def Qq(a b:List Nat):List Nat:=if a=[]∨b=[] then [] else if a.length=1∧b.length=1 then digs (val a*val b) else Zc (a.length+b.length) (val a*val b)
theorem nW(sa:Jr a)(sb:Jr b):val a*val b<4294967296^(a.length+b.length):=by
 rw[VX];exact Nat.mul_lt_mul'' (Yk a sa) (Yk b sb)
theorem rP(sa:Jr a)(sb:Jr b):trim (Qq a b)=digs (val a*val b):=by
 unfold Qq;split
 ·rename_i h;rcases h with rfl|rfl<;>simp[val,mj,trim]
 ·split
  ·exact zo _
  ·exact Vi (nW sa sb)
theorem oG(sa:Jr a)(sb:Jr b):(Qq a b).length≤a.length+b.length:=by
 unfold Qq;split
 ·simp
 ·split
  ·exact Za (nW sa sb)
  ·rw[Jt];exact Tu _
theorem sM(h:a.length=1):a.getD 0 0=val a:=by
 match a,h with
 |[d],_=>simp[val]
theorem vi(b:0<j)(hj:j≤a.length):val (a.drop (j-1))=a.getD (j-1) 0+4294967296*val (a.drop j):=by
 obtain⟨i,rfl⟩:∃i,j=i+1:=⟨j-1,o⟩;rw[U3];have e1:a.drop i=a.getD i 0::a.drop (i+1):=by
  rw[Tq,Tt o];simp
 conv=>lhs;rw[e1]
 rfl
theorem vL{q:List Nat}{r d:Nat}(b:0<j)(hj:j≤a.length)(hv:val q*d+r=val (a.drop j)):
  val (((r*4294967296+a.getD (j-1) 0)/d)::q)*d+(r*4294967296+a.getD (j-1) 0)%d=val (a.drop (j-1)):=by
 rw[vi b hj,←hv,val,U2]
 have:=U7 (r*4294967296+a.getD (j-1) 0) d
 rw[TR d] at this;have e:4294967296*val q*d=4294967296*(val q*d):=TO _ _ _;omega
theorem tA{q:List Nat}{d:Nat}(a:0<j):(List.replicate j 0++q).set (j-1) d=List.replicate (j-1) 0++d::q:=by
 obtain⟨i,rfl⟩:∃i,j=i+1:=⟨j-1,o⟩;rw[U3,List.replicate_succ',Tm,UV,if_neg χ,Tl,Wa];rfl
theorem yS{q:List Nat}{r d:Nat}(hs:Jr q)(hl:q.length=a.length)(hr:r<d)(hv:val q*d+r=val (a.drop 0)):q=Zc a.length (val a/d)∧r=val a%d:=by
 rw[Uv] at hv;have b:val a/d=val q:=by
  rw[←hv,TR,Nat.mul_add_div o,U9 hr,U5]
 have e:val a%d=r:=by
  rw[←hv,TR,Nat.mul_add_mod,VO hr]
 exact⟨Xn hs hl b.symm,e.symm⟩
theorem pd(h:s<32):2^s≤2147483648:=by
 have:2^s≤2^31:=TM o o
 omega
theorem KP(hx:x<4294967296)(hs:s<32):s≤64∧x*2^s<18446744073709551616:=
 ⟨by omega,TS (VP (show x≤4294967295 by omega) (pd hs)) o⟩
theorem GO(hx:x<4294967296):x*2^s/4294967296<2^s:=
 VB (by rw[TR x,TR 4294967296];exact Nat.mul_lt_mul_of_pos_left hx (We s))
theorem GY(hs:s<32):x*2^s%4294967296=2^s*(x%2^(32-s)):=by
 have e:4294967296=2^s*2^(32-s):=by rw[←VX,show s+(32-s)=32 by omega]
 rw[e,TR x,Nat.mul_mod_mul_left]
theorem D1(hs:s<32)(hh:h<2^s):h ||| (x*2^s%4294967296)=h+x*2^s%4294967296:=by
 rw[GY hs,Nat.or_comm,←Wc hh,Nat.add_comm]
theorem AU(hs:s<32)(hh:h<2^s):h+x*2^s%4294967296<4294967296:=by
 rw[←D1 hs hh]
 have:=pd hs
 exact VW (n:=32) o (Tp _ o)
theorem pL(hp:p.length=i)(hv:val p+4294967296^i*h=val (a.take i)*2^s):
  val (p++[h+a.getD i 0*2^s%4294967296])+4294967296^(i+1)*(a.getD i 0*2^s/4294967296)=val (a.take (i+1))*2^s:=by
 rw[Kf,hp,TF,Jv,U2,←hv]
 have:=mulB (q:=4294967296^i) (s:=a.getD i 0*2^s)
 rw[TH,TO (4294967296^i) (a.getD i 0)];omega
theorem Np{r:List Nat}{d:Nat}(hp:p.length=i):(p++h::r).set i d=p++d::r:=by
 rw[UV,if_neg o,hp,Wa,UW]
theorem F0{n d:Nat}(hp:p.length=i)(hi:i<n):(p++h::List.replicate (n-i) 0).set (i+1) d=(p++[h])++d::List.replicate (n-(i+1)) 0:=by
 obtain⟨k,hk⟩:∃k,n-i=k+1:=⟨n-i-1,o⟩;rw[hk,show n-(i+1)=k by omega,List.replicate_succ,UV,if_neg o,hp,U4,List.set_cons_succ,UW,Tm];rfl
theorem FS{r:List Nat}(hp:p.length=i):(p++h::r)[i]? =some h:=by
 rw[UA o,hp,Wa];rfl
theorem ta(hsm:Jr p)(hs:s<32)(hh:h<2^s)(hp:p.length=i)(hi:i=a.length)(hv:val p+4294967296^i*h=val (a.take i)*2^s):
  p++h::List.replicate (a.length-i) 0=Zc (a.length+1) (val a*2^s):=by
 subst hi;rw[Wa,UU]
 have:=pd hs
 refine Xn (Zz hsm o) E' ?_;rw[Kf,hp,hv,U1]
theorem nz:∀(n v:Nat),Zc (n+1) v=Zc n v++[v/4294967296^n%4294967296]
 |0,v=>by simp[Zc]
 |n+1,v=>by
  rw[Zc,nz n,Zc,Un,TF,U8,TR 4294967296]
theorem mF:∀ {a:List Nat},Jr a→∀i,val a/4294967296^i=val (a.drop i)
 |[],_,i=>by simp[val]
 |d::r,_,0=>by simp
 |d::r,h,i+1=>by
  have hd:d<4294967296:=h d χ
  have:=mF (a:=r) (fun u hu=>h u WF) i
  rw[List.drop_succ_cons,←this,val,TF,TR (4294967296^i),←U8]
  congr 1
  omega
theorem wf{r:Nat}(hs:s<32):((x+4294967296*(y+4294967296*r))/2^s)%4294967296=((x+y*4294967296)/2^s)%4294967296:=by
 have e:4294967296=2^s*2^(32-s):=by rw[←VX,show s+(32-s)=32 by omega]
 have a:x+4294967296*(y+4294967296*r)=(x+y*4294967296)+2^s*(2^(32-s)*r*4294967296):=by
  have:2^s*(2^(32-s)*r*4294967296)=4294967296*(4294967296*r):=by
   rw[TO (2^(32-s)),←TO (2^s),←e,TR r]
  rw[this];omega
 rw[a,Nat.add_mul_div_left _ _ (We s),TR (2^(32-s)*r),Nat.add_mul_mod_self_left]
theorem rl(sa:Jr a)(hs:s<32)(hi:i<a.length)(hy:y=a.getD (i+1) 0):
  Zc i (val a/2^s)++[(a.getD i 0+y*4294967296)/2^s%4294967296]=Zc (i+1) (val a/2^s):=by
 rw[nz,U8,TR (2^s),←U8,mF sa];have b:=vi (a:=a) (j:=i+1) o o;rw[U3] at b;rw[b,hy]
 congr 2
 rcases TN (i+1) a.length with h|h
 ·have d:=vi (a:=a) (j:=i+2) o o;rw[show i+2-1=i+1 by omega] at d;rw[d,wf hs]
 ·have:a.drop (i+1)=[]:=TI h
  rw[this,←my h];simp[val]
theorem C0{n d:Nat}(hj:j<n)(h:∀k,L.getD (i+n+k) 0=0∨L.length≤i+n+k):∀k,(L.set (i+j) d).getD (i+n+k) 0=0∨(L.set (i+j) d).length≤i+n+k:=by
 intro k;rw[mm o,UI];exact h k
theorem Gf{n d:Nat}(h:∀k,L.getD (i+n+k) 0=0∨L.length≤i+n+k):∀k,(L.set (i+n) d).getD (i+1+n+k) 0=0∨(L.set (i+n) d).length≤i+1+n+k:=by
 intro k;rw[mm o,UI,show i+1+n+k=i+n+(k+1) by omega];exact h (k+1)
theorem B8{n:Nat}(h:∀k,L.getD (i+n+k) 0=0∨L.length≤i+n+k)(hl:i+n<L.length):L.getD (i+n) 0=0:=by
 rcases h 0 with h|h
 ·exact h
 ·omega
theorem Br(d:0<a.length)(e:0<b.length)(g:¬(a.length=1∧b.length=1))(hL:L.length=a.length+b.length)(hs:Jr L)(hv:val L=val a*val b):L=Qq a b:=by
 unfold Qq;rw[if_neg (by rintro(h|h)<;>simp[h] at d e),if_neg g];exact Xn hs hL hv
theorem rs(h:a.length=0∨b.length=0):[]=Qq a b:=by
 unfold Qq;rw[if_pos (h.imp UF.1 UF.1)]
theorem xG(ha:a.length=1)(hb:b.length=1):digs (a.getD 0 0*b.getD 0 0)=Qq a b:=by
 unfold Qq;rw[if_neg (by rintro(h|h)<;>simp[h] at ha hb),if_pos ⟨ha,hb⟩,sM ha,sM hb]
theorem pW{q:List Nat}{r d:Nat}(hj:j=0)(hs:Jr q)(hl:j+q.length=a.length)(hr:r<d)(hv:val q*d+r=val (a.drop j)):List.replicate j 0++q=Zc a.length (val a/d)∧r=val a%d:=by
 subst hj;rw[UU,TJ];exact yS hs o hr hv
theorem wh(sa:Jr a)(hs:s<32)(hi:i<a.length)(hy:a.length≤i+1):
  Zc i (val a/2^s)++[a.getD i 0/2^s%4294967296]=Zc (i+1) (val a/2^s):=by
 have:=rl sa hs hi (my hy)
 rw[Wh,U5] at this;exact this
theorem Ny(hx:x<4294967296):x ||| y*4294967296=x+y*4294967296:=by
 have:=Wc (i:=32) hx y
 rw[Nat.or_comm,TR];have e:(2:Nat)^32=4294967296:=rfl;rw[e] at this;omega
theorem OK{b top a:Nat}(hUl:Ul<P)(j:u2<4294967296):
  (Ul+P*(u2+4294967296*top))/(Vl+P*(b+4294967296*a))≤top/a∨a=0:=by
 rcases VE a with h|h
 ·exact .inr h
 refine .inl ((VG h).2 ?_);generalize hq:(Ul+P*(u2+4294967296*top))/(Vl+P*(b+4294967296*a))=q;have d:q*(Vl+P*(b+4294967296*a))≤Ul+P*(u2+4294967296*top):=by rw[←hq];exact Nat.div_mul_le_self _ _
 have e:P*(4294967296*(q*a))≤q*(Vl+P*(b+4294967296*a)):=by
  rw[show P*(4294967296*(q*a))=q*(P*(4294967296*a)) by rw[VR q P,VR q 4294967296]];refine TP _ (Tj (TP P (show 4294967296*a≤b+4294967296*a by omega)) (VF _ _))
 have g:Ul+P*(u2+4294967296*top)<P*(u2+4294967296*top+1):=by rw[TH P _ 1];omega
 have i:P*(4294967296*(q*a))<P*(u2+4294967296*top+1):=TS (Tj e d) g
 have:=VL i
 omega
theorem LA{a top b r:Nat}(hUl:Ul<P)(hv:g*b+r=top)(h:r*4294967296+u2<g*a):
  (Ul+P*(u2+4294967296*top))/(Vl+P*(a+4294967296*b))<g:=by
 have hg:0<g:=by
  rcases VE g with e|e
  ·rw[e] at h;omega
  ·exact e
 refine VB ?_;have e1:(Vl+P*(a+4294967296*b))*g=g*Vl+P*(g*a+4294967296*(g*b)):=by
  rw[TR _ g,TH,VR g P,TH g,VR g 4294967296]
 rw[e1];generalize g*a=X at *;generalize g*b=Y at *;have d:u2+4294967296*top+1≤X+4294967296*Y:=o
 have i:=TP P d;rw[TH P _ 1] at i;omega
theorem KI{a top b:Nat}(hU:Ul+P*(u2+4294967296*top)<(Vl+P*(a+4294967296*b))*4294967296)(h:4294967296≤g):
  (Ul+P*(u2+4294967296*top))/(Vl+P*(a+4294967296*b))<g:=
 VB (Ti hU (TP _ h))
theorem oN{q:Nat}(h:q<g):q≤g-1:=o
theorem NV{b top a r:Nat}(hP:0<P)(hVl:Vl<P)(d:0<a)(hg:g<4294967296)(hv:g*a+r=top)(h:g*b≤r*4294967296+u2):
  g≤(Ul+P*(u2+4294967296*top))/(Vl+P*(b+4294967296*a))+1:=by
 have hV:0<Vl+P*(b+4294967296*a):=Ti (VT hP (show 0<b+4294967296*a by omega)) (VF _ _);have hk:g-1≤(Ul+P*(u2+4294967296*top))/(Vl+P*(b+4294967296*a)):=by
  rw[VG hV];rcases VE g with e|e
  ·rw[e];omega
  have e1:g*(Vl+P*(b+4294967296*a))=g*Vl+P*(g*b+4294967296*(g*a)):=by
   rw[TH,VR g P,TH g,VR g 4294967296]
  have i:P*(g*b+4294967296*(g*a))≤P*(u2+4294967296*top):=TP P o;have j:g*Vl≤4294967296*P:=VP o o;have k:4294967296*P≤P*(b+4294967296*a):=by rw[TR];exact TP P o
  rw[Nat.sub_mul,e1,Nat.one_mul];omega
 omega
theorem B4{b top a r:Nat}(hVl:Vl<P)(e:b<4294967296)(i:0<a)(htop:top<(a+1)*4294967296)(hv:g*a+r=top)(h:4294967296≤r):
  g≤(Ul+P*(u2+4294967296*top))/(Vl+P*(b+4294967296*a))∧g<4294967296:=by
 have hP:0<P:=o
 have hg:g<4294967296:=by
  have d:g*a<4294967296*a:=by rw[U2] at htop;omega
  exact Nat.lt_of_mul_lt_mul_right d
 refine⟨?_,hg⟩;have hV:0<Vl+P*(b+4294967296*a):=Ti (VT hP (show 0<b+4294967296*a by omega)) (VF _ _);rw[VG hV];have e1:g*(Vl+P*(b+4294967296*a))=g*(Vl+P*b)+P*(4294967296*(g*a)):=by
  rw[TH P,←Nat.add_assoc,TH g,VR g P (4294967296*a),VR g 4294967296]
 have d:Vl+P*b≤P*4294967296:=by
  have:=TP P (show b+1≤4294967296 by omega)
  rw[TH] at this;omega
 have j:g*(Vl+P*b)≤P*(4294967296*g):=by
  have:=TP g d
  rw[show P*(4294967296*g)=g*(P*4294967296) by rw[VR g P,TR 4294967296]];exact this
 have k:P*(4294967296*g)+P*(4294967296*(g*a))≤P*(u2+4294967296*top):=by
  rw[←TH];exact TP P o
 rw[e1];omega
theorem Gv {b un d a:Nat} (hVl:Vl<P) (h:b<4294967296) (i:d<4294967296)
  (hU:Ul+P*(u2+4294967296*(un*4294967296+d))<(Vl+P*(b+4294967296*a))*4294967296):un*4294967296+d<(a+1)*4294967296:=by
 have e:Vl+P*(b+4294967296*a)<P*(4294967296*(a+1)):=by
  have:=TP P (show b+4294967296*a+1≤4294967296*(a+1) by omega)
  rw[TH P _ 1] at this;omega
 have g:P*(4294967296*(4294967296*un))<P*(4294967296*(4294967296*(a+1))):=by
  have a1:P*(4294967296*(4294967296*un))≤Ul+P*(u2+4294967296*(un*4294967296+d)):=Tj (TP P o) (VF _ _);have a2:(Vl+P*(b+4294967296*a))*4294967296≤P*(4294967296*(4294967296*(a+1))):=by
   have:=VQ 4294967296 (VI e)
   refine Tj this (Nat.le_of_eq ?_);rw[TO,TR (4294967296*(a+1))]
  omega
 have j:=VL g
 have:un<a+1:=o
 have:=VQ 4294967296 (show un+1≤a+1 by omega)
 omega
theorem DG{m:Nat}(h:l.length=m+2):val l=val (l.take m)+4294967296^m*(l.getD m 0+4294967296*l.getD (m+1) 0):=by
 have a:val l=val (l.take (m+2)):=by rw[TE o]
 rw[a,Jv,Jv,TF,TH,TO];omega
theorem DB{m:Nat}(h:l.length=m+3):val l=val (l.take m)+4294967296^m*(l.getD m 0+4294967296*(l.getD (m+2) 0*4294967296+l.getD (m+1) 0)):=by
 have a:val l=val (l.take (m+3)):=by rw[TE o]
 rw[a,Jv,Jv,Jv,TF,TF,TF];generalize 4294967296^m=p;rw[TH,TO p,TO p,TO (p),TH 4294967296,TH p];have e1:p*(4294967296*(l.getD (m+2) 0*4294967296))=p*(4294967296*4294967296*l.getD (m+2) 0):=by
  rw[TR (l.getD (m+2) 0),←TO 4294967296]
 have e2:4294967296*4294967296*l.getD (m+2) 0=18446744073709551616*l.getD (m+2) 0:=o
 omega
theorem IX  {c bo:Nat} (hp:p.length=i) (hg:g<4294967296) (hx:x<4294967296) (hc:c<4294967296) (hb:bo≤1) (hu:U.getD i 0<4294967296)
  (hv:val p+g*V=val (U.take i)+4294967296^i*(c+bo)) {V':Nat} (hV:V'=V+4294967296^i*x):
  val (p++[(U.getD i 0+8589934592-(g*x+c)%4294967296-bo)%4294967296])+g*V'=val (U.take (i+1))+4294967296^(i+1)*((g*x+c)/4294967296+(if U.getD i 0<(g*x+c)%4294967296+bo then 1 else 0)):=by
 rw[Kf,hp,Jv,hV,TH,VR g,TF];generalize hq:4294967296^i=q at *;generalize hX:g*x=X at *;generalize U.getD i 0=u at *;have e:(u+8589934592-(X+c)%4294967296-bo)%4294967296+X+c+bo=u+4294967296*((X+c)/4294967296+(if u<(X+c)%4294967296+bo then 1 else 0)):=by
  split<;>omega
 have e2:=congrArg (q * ·) e;simp only[TH] at e2;rw[TO q 4294967296,TH 4294967296,TH q];rw[TH] at hv;omega
theorem Nc{c:Nat}(hg:g<4294967296)(hx:x<4294967296)(hc:c<4294967296):g*x+c≤18446744073709551615∧(g*x+c)/4294967296<4294967296:=by
 have:=Du hg hx
 omega
theorem FU  {n c bo:Nat} (hp:p.length=n) (hc:c<4294967296) (hb:bo≤1) (hu:U.getD n 0<4294967296) (hU:U.length=n+1)
  (hv:val p+g*V=val (U.take n)+4294967296^n*(c+bo)):
  val (p++[(U.getD n 0+8589934592-c-bo)%4294967296])+g*V=val U+4294967296^(n+1)*(if U.getD n 0<c+bo then 1 else 0):=by
 have a:val U=val (U.take (n+1)):=by rw[TE o]
 rw[a,Kf,hp,Jv,TF];generalize 4294967296^n=q at *;generalize U.getD n 0=u at *;have e:(u+8589934592-c-bo)%4294967296+c+bo=u+4294967296*(if u<c+bo then 1 else 0):=by split<;>omega
 have e2:=congrArg (q * ·) e;simp only[TH] at e2;rw[TO q 4294967296];rw[TH] at hv;omega
theorem Nh{U R:Nat}(hV:0<V)(a:U/V≤g)(h:R+g*V=U):g=U/V∧R=U%V:=by
 have hle:g≤U/V:=(VG hV).2 o;have hg:g=U/V:=o
 refine⟨hg,?_⟩
 have:=U7 U V
 rw[TR,←hg] at this;omega
theorem HN{U R M:Nat}(hV:0<V)(a:g≤U/V+1)(hR:R<M)(h:R+g*V=U+M):g-1=U/V∧0<g∧R+V=U%V+M:=by
 have hlt:U<g*V:=o
 have hg:U/V<g:=VB (by rw[TR];exact hlt)
 have:=U7 U V
 rw[TR] at this;generalize U/V=q at *;generalize U%V=t at *;have e:g=q+1:=o
 refine⟨by omega,o,?_⟩;rw[e,U2,Nat.one_mul] at h;omega
theorem vQ{R:List Nat}{c:Nat}(hp:p.length=i)(hv:val p+4294967296^i*c=val (R.take i)+V){V':Nat}(hV:V'=V+4294967296^i*x):
  val (p++[(R.getD i 0+x+c)%4294967296])+4294967296^(i+1)*((R.getD i 0+x+c)/4294967296)=val (R.take (i+1))+V':=by
 rw[Kf,hp,Jv,hV,TF]
 have:=mulB (q:=4294967296^i) (s:=R.getD i 0+x+c)
 rw[TH,TH] at this;omega
theorem vT{R:List Nat}{n c:Nat}(hp:p.length=n)(hsp:Jr p)(hc:c≤1)(hR:R.length=n+1)(hT:T<4294967296^(n+1))(hv:val p+4294967296^n*c=val (R.take n)+V)(ht:val R+V=T+4294967296^(n+1)):
  p++[(R.getD n 0+c)%4294967296]=Zc (n+1) T:=by
 refine Xn (Zz hsp (Tp _ o)) E' ?_;have d:val R=val (R.take (n+1)):=by rw[TE o]
 rw[d,Jv] at ht;rw[Kf,hp];have g:=Yk p hsp;rw[hp] at g;have b:=mulB (q:=4294967296^n) (s:=R.getD n 0+c);rw[TH (4294967296^n) (R.getD n 0)] at b;rw[TF] at hT ht;generalize 4294967296^n=q at *;have hm:q*((R.getD n 0+c)%4294967296)≤q*4294967295:=TP q o;have hk:(R.getD n 0+c)/4294967296=1:=by
  have:q*4294967296*((R.getD n 0+c)/4294967296)<q*4294967296*2:=o
  have a:=VL this;rcases VE ((R.getD n 0+c)/4294967296) with e|e
  ·rw[e] at b;omega
  ·omega
 rw[hk] at b;omega
def blen(x:Nat):Nat:=if x=0 then 0 else x.log2+1
theorem yf(x:Nat):x<2^blen x:=by
 unfold blen;split
 ·subst_vars;decide
 ·exact Nat.lt_log2_self
theorem xf{k:Nat}(h:x<2^k):blen x≤k:=by
 unfold blen;split
 ·omega
 ·rename_i a
  exact(Nat.log2_lt a).2 h
theorem oY(h:0<x):0<blen x:=by
 unfold blen;rw[if_neg o];omega
theorem Af(h:0<x):2^(blen x-1)≤x:=by
 unfold blen;rw[if_neg o,U3];exact Nat.log2_self_le o
theorem pV{k:Nat}(e:0<x)(d:x<2^k)(g:2^k≤2*x):blen x=k:=by
 have a:=xf d;rcases TN (blen x) k with h|h
 ·have b:=yf x;have c:2^(blen x+1)≤2^k:=TM o h;rw[TF] at c;omega
 ·omega
theorem zr{k:Nat}(h:2^k≤x):blen x=blen (x/2^k)+k:=by
 have hp:=We k;have a:0<x/2^k:=Nat.div_pos h hp;refine pV o ?_ ?_
 ·rw[VX];exact(Nat.div_lt_iff_lt_mul hp).1 (yf _)
 ·have b:=Af a;have d:=oY a;have e:blen (x/2^k)+k=(blen (x/2^k)-1+k)+1:=o
  rw[e,TF,TR];refine TP 2 ?_;rw[VX]
  exact(VG hp).1 b
theorem CQ(hp:p.length=i)(hj:j=i)(h:j<U.length):(p++U.drop i)[j]? =some (U.getD j 0):=by
 subst hj;rw[UA o,hp,Wa,UB,U5,Tq,Tt h];rfl
theorem Ht{d:Nat}(hp:p.length=i)(h:i<U.length):(p++U.drop i).set i d=(p++[d])++U.drop (i+1):=by
 rw[UV,if_neg o,hp,Wa,Uu h,UW,Tm];rfl
theorem Er{d:Nat}(hp:p.length=i)(hj:j=i)(h:U.length=i+1):(p++U.drop i).set j d=p++[d]:=by
 subst hj;rw[Ht hp o,TI o,TT]
theorem PB{k a r top:Nat}(h:0<a)(hv:k*a+r=top):k≤top:=Tj (VH k h) o
theorem JU{k a b:Nat}(h:a<k*b):0<k:=Nat.pos_of_ne_zero fun e=>by rw[e,Wh] at h;omega
theorem vP{k a r top:Nat}(h:0<k)(hv:k*a+r=top):(k-1)*a+(r+a)=top:=by
 obtain⟨m,rfl⟩:∃m,k=m+1:=⟨k-1,o⟩;rw[U2,Nat.one_mul] at hv;rw[U3];omega
theorem Pu{v:List Nat}(hn:2≤v.length):val v=val (v.take (v.length-2))+4294967296^(v.length-2)*(v.getD (v.length-2) 0+4294967296*v.getD (v.length-1) 0):=by
 have:=DG (l:=v) (m:=v.length-2) o
 rw[show v.length-2+1=v.length-1 by omega] at this;exact this
theorem OU{n:Nat}(hn:2≤n)(h:U.length=n+1):val U=val (U.take (n-2))+4294967296^(n-2)*(U.getD (n-2) 0+4294967296*(U.getD n 0*4294967296+U.getD (n-1) 0)):=by
 have:=DB (l:=U) (m:=n-2) o
 rw[show n-2+1=n-1 by omega,show n-2+2=n by omega] at this;exact this
theorem Vz{k:Nat}(h:Jr l)(hk:k≤l.length):val (l.take k)<4294967296^k:=by
 have:=Yk _ (zu h k)
 rwa [To,VN hk] at this
theorem kn_T{v:List Nat}(sv:Jr v)(hV:0<val v):val U%val v<4294967296^(v.length+1):=by
 have a:=Tp (val U) hV;have b:=Yk v sv;have d:4294967296^v.length≤4294967296^(v.length+1):=TM o o;omega
def EG:List UInt8:=(List.range 256).map fun i=>UInt8.ofNat (blen i)
theorem rD(h:x<4294967296):blen x≤32:=xf (k:=32) h
theorem tabv(h:j<256):(UInt8.ofNat (blen j)).toNat=blen j:=by
 have:=xf (k:=8) h
 show blen j%256=_;omega
theorem K8(h:j<256):EG[j]? =some (UInt8.ofNat (blen j)):=by
 unfold EG;rw[TV,List.getElem?_range h];rfl
theorem xF(h:65536≤x)(a:256≤x/65536)(hx:x<4294967296):blen x=blen (x/65536/256%256)+24:=by
 rw[VO o,zr (x:=x) (k:=16) h,zr (x:=x/2^16) (k:=8) a]
theorem wM(h:65536≤x)(a:x/65536<256):blen x=blen (x/65536%256)+16:=by
 rw[VO o,zr (x:=x) (k:=16) h]
theorem Bn(h:256≤x)(hx:x<65536):blen x=blen (x/256%256)+8:=by
 rw[VO o,zr (x:=x) (k:=8) h]
theorem Ag(h:x<256):blen x=blen (x%256):=by
 rw[VO h]
theorem xl(l:List Nat)(k:Nat)(hk:k≤l.length):val l=val (l.take k)+4294967296^k*val (l.drop k):=by
 conv=>lhs;rw[←U0 k l]
 rw[Vn,To,VN hk]
theorem sG{a b:Nat}(h:cmpN a b<0):a<b:=by
 unfold cmpN at h;split at h
 ·assumption
 ·split at h<;>omega
theorem rB{a b:Nat}(h:¬cmpN a b<0):b≤a:=by
 unfold cmpN at h;split at h
 ·omega
 ·omega
theorem Q7(hb:trim b=b)(sa:Jr a)(h:val b≤val a):b.length≤a.length:=by
 rcases TN a.length b.length with d|d
 ·have:=X1 hb sa d;omega
 ·exact d
theorem MK(ha:trim a=a)(sa:Jr a):a=digs (val a):=by
 conv=>lhs;rw[←ha,V0 sa]
theorem Ou(h:val a<val b):[]=digs (val a/val b):=by rw[U9 h];rfl
theorem LI(ha:trim a=a)(sa:Jr a)(h:val a<val b):a=digs (val a%val b):=by
 rw[VO h];exact MK ha sa
theorem Vs(sa:Jr a)(h:a.length≤2):val a<18446744073709551616:=by
 have:=Yk a sa
 have b:4294967296^a.length≤4294967296^2:=TM o h;omega
theorem DC(h:x<18446744073709551616):x/y<18446744073709551616:=TS (VA _ _) h
theorem Cq(h:x<18446744073709551616):x%y<18446744073709551616:=TS (Nat.mod_le _ _) h
theorem s5(hb:trim b=b)(sb:Jr b)(h:b≠[]):0<b.getD (b.length-1) 0:=by
 rcases List.eq_nil_or_concat b with rfl|⟨q,d,rfl⟩
 ·exact absurd r h
 ·have a:=Vx hb h;simp only[List.concat_eq_append] at *;have sq:Jr q:=fun u hu=>sb u WF;have g:=Yk q sq;rw[Kf,Tc,Tf,U3] at a;rw[Tc,Tf,U3,Tq,UA o,Wa];show 0<d;rcases VE d with e|e
  ·rw[e,VU] at a;omega
  ·exact e
theorem Db(sb:Jr b)(hne:b≠[])(hs:s≤32-blen (b.getD (b.length-1) 0)):val b*2^s<4294967296^b.length:=by
 have hpos:0<b.length:=UH.2 hne;have i:=Vz (k:=b.length-1) sb o;have d:=Jv b (b.length-1);rw[show b.length-1+1=b.length by omega,U1] at d;have j:=yf (b.getD (b.length-1) 0);have l:=rD (Jk sb (b.length-1));generalize b.getD (b.length-1) 0=t at *;have e:(t+1)*2^s≤4294967296:=by
  refine Tj (VQ _ (show t+1≤2^blen t by omega)) ?_;rw[←VX];exact Tj (TM o (show blen t+s≤32 by omega)) δ
 have g:val b+1≤4294967296^(b.length-1)*(t+1):=by rw[TH,VS];omega
 have a:=VQ (2^s) g;rw[TO] at a;have h:=TP (4294967296^(b.length-1)) e;rw[←TF,show(b.length-1).succ=b.length by omega] at h;rw[U2,Nat.one_mul] at a
 have:=We s
 omega
theorem DM{v n:Nat}(d:v<4294967296^n)(e:4294967296^(n-1)≤v)(hn:0<n):(digs v).length=n:=by
 have a:=Za d;rcases TN (digs v).length n with h|h
 ·have b:=Vv v;have c:4294967296^(digs v).length≤4294967296^(n-1):=TM o o;omega
 ·omega
theorem Il(hb:trim b=b)(sb:Jr b)(hne:b≠[])(hs:s≤32-blen (b.getD (b.length-1) 0)):(trim (Zc (b.length+1) (val b*2^s))).length=b.length∧val (trim (Zc (b.length+1) (val b*2^s)))=val b*2^s∧trim (trim (Zc (b.length+1) (val b*2^s)))=trim (Zc (b.length+1) (val b*2^s)):=by
 have a:=Db sb hne hs;have hpos:0<b.length:=UH.2 hne;have h1':val b*2^s<4294967296^(b.length+1):=Ti a (TM o o);rw[Vi h1'];refine⟨DM a (Tj (Vx hb hne) (VH _ (We s))) hpos,Z3 _,zo _⟩
theorem GB(sa:Jr a)(hb:trim b=b)(hne:b≠[])(hle:b.length≤a.length)(hL:L.length=a.length+1)(hs:Jr L)(hv:val L=val a*2^s):
  val (L.drop (a.length+1-b.length))<val b*2^s:=by
 have hpos:0<b.length:=UH.2 hne;have i:=xl L (a.length+1-b.length) o;have d:=Yk a sa;have e:=Vx hb hne;have g:4294967296^(a.length+1-b.length)*val (L.drop (a.length+1-b.length))<4294967296^(a.length+1-b.length)*(4294967296^(b.length-1)*2^s):=by
  rw[←TO,←VX,show a.length+1-b.length+(b.length-1)=a.length by omega]
  have:=Nat.mul_lt_mul_of_pos_right d (We s)
  omega
 have h:=VL g;exact Ti h (VQ _ e)
theorem Cg{n:Nat}(hJ:0<J)(hl:J+n≤L.length):L=L.take (J-1)++(L.drop (J-1)).take (n+1)++L.drop (J+n):=by
 rw[Tm]
 conv=>lhs;rw[←U0 (J-1) L]
 congr 1
 conv=>lhs;rw[←U0 (n+1) (L.drop (J-1))]
 rw[List.drop_drop,show J-1+(n+1)=J+n by omega]
theorem xE{n:Nat}(hJ:0<J)(hl:J+n≤L.length):((L.drop (J-1)).take (n+1)).length=n+1:=by
 rw[To,Tn];omega
theorem rt{n:Nat}(hl:J+n≤L.length)(hD:D<4294967296^n)(hlo:val (L.drop J)<D):val (L.drop (J+n))=0:=by
 have h:=xl (L.drop J) n Y';rw[List.drop_drop] at h;rcases VE (val (L.drop (J+n))) with e|e
 ·exact e
 ·have:=TP (4294967296^n) e
  rw[VS] at this;omega
theorem xM{n:Nat}(hJ:0<J)(hl:J+n≤L.length)(hD:D<4294967296^n)(hlo:val (L.drop J)<D):val (L.drop (J-1))=val ((L.drop (J-1)).take (n+1)):=by
 have h:=xl (L.drop (J-1)) (n+1) Y';rw[List.drop_drop,show J-1+(n+1)=J+n by omega,rt hl hD hlo,VU,U5] at h;exact h
theorem EE{n:Nat}(hs:Jr L)(hJ:0<J)(hl:J+n≤L.length)(hD:D<4294967296^n)(hlo:val (L.drop J)<D):val ((L.drop (J-1)).take (n+1))<D*4294967296:=by
 rw[←xM hJ hl hD hlo,vi hJ o]
 have:=Jk hs (J-1)
 omega
theorem Cj{u:Nat}(h:u<D*4294967296):u/D<4294967296:=VB h
theorem DZ{n:Nat}(hJ:0<J)(hl:J+n≤L.length):(L.take (J-1)++Zc (n+1) T++L.drop (J+n)).length=L.length:=by
 simp only[Tc,To,Tn,Jt];omega
theorem u7{n u:Nat}(hJ:0<J)(hl:J+n≤L.length)(hD:D<4294967296^n)(hlo:val (L.drop J)<D):val ((L.take (J-1)++Zc (n+1) (u%D)++L.drop (J+n)).drop (J-1))=u%D:=by
 have hlen:(L.take (J-1)).length=J-1:=by rw[To];omega
 have hT:u%D<4294967296^(n+1):=by
  have a:=Tp u (show 0<D by omega);have b:4294967296^n≤4294967296^(n+1):=TM o o;omega
 rw[Tm,List.drop_append_of_le_length o,TI o,TJ,Vn,Yq _ _ hT,rt hl hD hlo,VU,U5]
theorem HF{n N:Nat}(hJ:0<J)(hl:J+n≤L.length)(hD:D<4294967296^n)(hlo:val (L.drop J)<D)(hN:N=val Q*D*4294967296^J+val L):
  N=val ((val ((L.drop (J-1)).take (n+1))/D)::Q)*D*4294967296^(J-1)+val (L.take (J-1)++Zc (n+1) (val ((L.drop (J-1)).take (n+1))%D)++L.drop (J+n)):=by
 have hlen:(L.take (J-1)).length=J-1:=by rw[To];omega
 have a:=xl (L.take (J-1)++Zc (n+1) (val ((L.drop (J-1)).take (n+1))%D)++L.drop (J+n)) (J-1) (by rw[DZ hJ hl];omega);rw[u7 hJ hl hD hlo] at a;rw[Tm,List.take_append_of_le_length o,List.take_take,Nat.min_self,←Tm] at a;have b:=xl L (J-1) o;have g:=xM hJ hl hD hlo;rw[g] at b;rw[a,hN,b,val];generalize val ((L.drop (J-1)).take (n+1))=u;have h:=U7 u D;generalize u%D=r at *;generalize u/D=d at *;have e:4294967296^J=4294967296*4294967296^(J-1):=by rw[TR,←TF,show(J-1).succ=J by omega]
 rw[e,←h];generalize 4294967296^(J-1)=p;generalize val (L.take (J-1))=t;generalize val Q=q;rw[U2,U2,TH,TR d D,TR (D*d) p];have e2:q*D*(4294967296*p)=4294967296*q*D*p:=by
  rw[←TO,TR (q*D),←TO]
 rw[e2];omega
theorem ET(sa:Jr a)(hs:s≤32):val a*2^s<4294967296^(a.length+1):=by
 have b:=Yk a sa;have d:2^s≤4294967296:=Tj (TM o hs) δ;have e:=TP (val a) d;have g:=Nat.mul_lt_mul_of_pos_right b (show 0<4294967296 by decide);rw[TF];omega
theorem Be{k n:Nat}(hs:Jr L):Jr (L.take i++Zc n T++L.drop k):=Yo (Yo (zu hs _) (Zm _ _)) (nC hs _)
theorem dv_q(hQ:Jr Q)(hb:0<val b)(hN:val a*2^s=val Q*(val b*2^s)*4294967296^0+val L)(hlo:val (L.drop 0)<val b*2^s):trim Q=digs (val a/val b):=by
 rw[Uv] at hlo;rw[Nat.pow_zero,VS] at hN;rw[V0 hQ]
 congr 1
 have hp:=We s;have d:val a*2^s/(val b*2^s)=val Q:=by
  rw[hN,TR (val Q),Nat.mul_add_div (VT hb hp),U9 hlo,U5]
 rw[←d,Nat.mul_div_mul_right _ _ hp]
theorem dv_r{n:Nat}(hL:Jr L)(hb:0<val b)(hn:n≤L.length)(hD:val b*2^s<4294967296^n)(hN:val a*2^s=val Q*(val b*2^s)*4294967296^0+val L)(hlo:val (L.drop 0)<val b*2^s):
  trim (Zc (L.take n).length (val (L.take n)/2^s))=digs (val a%val b):=by
 rw[Uv] at hlo;rw[Nat.pow_zero,VS] at hN;have hp:=We s;have g:val (L.take n)=val L:=by
  have h:=xl L n hn;have e:=rt (J:=0) (n:=n) (L:=L) o hD (by rw[Uv];exact hlo);rw[Wg] at e;rw[e] at h;omega
 have i:val L=val a*2^s%(val b*2^s):=by
  rw[hN,TR (val Q),Nat.mul_add_mod,VO hlo]
 have d:val L/2^s=val a%val b:=by
  rw[i,Nat.mul_mod_mul_right,Nat.mul_div_cancel _ hp]
 rw[g,d];refine Vi ?_;rw[←d,To,VN hn];exact TS (VA _ _) (Nat.lt_trans hlo hD)
theorem zq(b:Bool)(n:Nat):(Yh b n).natAbs=n:=by cases b<;>simp[Yh]
theorem uc(b:Bool)(n:Nat):decide (Yh b n<0)=(b&&decide (0<n)):=by
 cases b
 ·simp[Yh]
 ·simp[Yh]
theorem BR(b:Bool)(n:Nat):Yh (!b) n= - Yh b n:=by cases b<;>simp[Yh]
theorem y1(n:Nat):Yh false n=n:=rfl
theorem zl(v:Nat):decide (0<(digs v).length)=decide (0<v):=by
 rcases VE v with rfl|h
 ·rfl
 ·have:digs v≠[]:=fun e=>by rw[Q2] at e;omega
  rw[decide_eq_true h,decide_eq_true (UH.2 this)]
theorem F9{b:Bool}(h:Jr m):mkSg b m=ofZ (Yh b (val m)):=by
 unfold mkSg ofZ;rw[V0 h,zq,uc,zl]
theorem Y4{b:Bool}{z:Int}(h:Jr m)(e:Yh b (val m)=z):mkSg b m=ofZ z:=by rw[F9 h,e]
theorem Jo(z:Int):(ofZ z).toZ=z:=by
 unfold GInt.toZ ofZ;rw[Z3];rcases Int.lt_or_le z 0 with h|h
 ·rw[decide_eq_true h];simp[Yh];omega
 ·rw[decide_eq_false o];simp[Yh];omega
theorem Im{y z:Int}(h:ofZ y=ofZ z):y=z:=by rw[←Jo y,h,Jo]
theorem oX(z:Int):(ofZ z).mag=digs z.natAbs:=rfl
theorem yB(z:Int):(ofZ z).neg=decide (z<0):=rfl
theorem Jq(a:GInt):a.toZ.natAbs=val a.mag:=zq _ _
theorem qR{a:GInt}:a.toZ=0↔val a.mag=0:=by rw[←Int.natAbs_eq_zero,Jq]
theorem X6(_h:Jr m):(trim m).length=0↔val m=0:=by
 rw[UF,Xf]
theorem xN{a:GInt}(h:val a.mag=0):(0:Int)=a.toZ.sign:=by rw[qR.2 h];rfl
theorem pu{a:GInt}(hn:a.neg=true)(h:val a.mag≠0):(-1:Int)=a.toZ.sign:=by
 unfold GInt.toZ;rw[hn];rw[Uh];simp[Yh];omega
theorem DJ{a:GInt}(hn:a.neg=false)(h:val a.mag≠0):(1:Int)=a.toZ.sign:=by
 unfold GInt.toZ;rw[hn];rw[Ui];simp[Yh];omega
theorem CG{a:GInt}{n:Bool}(h:a.neg=n):Yh n (val a.mag+val b)=a.toZ+Yh n (val b):=by
 unfold GInt.toZ;rw[h];cases n<;>simp[Yh]<;>omega
theorem NK{a:GInt}{n:Bool}(h:¬a.neg=n)(hle:val b≤val a.mag):Yh a.neg (val a.mag-val b)=a.toZ+Yh n (val b):=by
 unfold GInt.toZ
 have:n= !a.neg:=by cases n<;>cases hh:a.neg<;>simp_all
 rw[this];cases a.neg<;>simp[Yh]<;>omega
theorem Lx{a:GInt}{n:Bool}(h:¬a.neg=n)(hle:val a.mag≤val b):Yh n (val b-val a.mag)=a.toZ+Yh n (val b):=by
 unfold GInt.toZ
 have:n= !a.neg:=by cases n<;>cases hh:a.neg<;>simp_all
 rw[this];cases a.neg<;>simp[Yh]<;>omega
theorem AY(a b:GInt):Yh (a.neg != b.neg) (val a.mag*val b.mag)=a.toZ*b.toZ:=by
 unfold GInt.toZ;cases a.neg<;>cases b.neg<;>simp[Yh,Int.neg_mul,Int.mul_neg]
theorem l6{a b:GInt}(hb:val b.mag≠0)(h:a.neg=false∨val a.mag%val b.mag=0):
  Yh (a.neg != b.neg) (val a.mag/val b.mag)=a.toZ/b.toZ∧((val a.mag%val b.mag:Nat):Int)=a.toZ%b.toZ:=by
 unfold GInt.toZ;have hm:=U7 (val a.mag) (val b.mag);generalize val a.mag=x at *;generalize val b.mag=y at *;cases ha:a.neg with
 |false=>
  cases b.neg with
  |false=>simp[Yh]
  |true=>simp[Yh]
 |true=>
  have d:x%y=0:=by
   rcases h with h|h
   ·rw[ha] at h;cases h
   ·exact h
  rw[d,U5] at hm;generalize x/y=q at *;subst hm;have hy:(y:Int)≠0:=o
  cases b.neg with
  |false=>
   simp only[Yh];refine⟨?_,?_⟩
   ·have: -((y*q:Nat):Int)=(y:Int)*(-(q:Int)):=by simp[Int.mul_neg]
    simp only[if_true,Bool.bne_false,if_false,Bool.false_eq_true];rw[this,T7 _ hy]
   ·simp[d]
  |true=>
   simp only[Yh];refine⟨?_,?_⟩
   ·have: -((y*q:Nat):Int)=(-(y:Int))*(q:Int):=by simp[Int.neg_mul]
    simp only[if_true,bne_self_eq_false,if_false,Bool.false_eq_true];rw[this,T7 _ o]
   ·simp[d]
theorem t8{a b:GInt}(hb:val b.mag≠0)(ha:a.neg=true)(h:val a.mag%val b.mag≠0):
  Yh (a.neg != b.neg) (val a.mag/val b.mag+1)=a.toZ/b.toZ∧((val b.mag-val a.mag%val b.mag:Nat):Int)=a.toZ%b.toZ:=by
 unfold GInt.toZ;have hm:=U7 (val a.mag) (val b.mag);have hlt:=Tp (val a.mag) (show 0<val b.mag by omega);generalize val a.mag=x at *;generalize val b.mag=y at *;generalize x/y=q at *;generalize x%y=r at *;rw[ha];have key:∀s:Int,(s=y∨s= -y)→∀Q:Int,-(x:Int)=s*Q+((y-r:Nat):Int)→Q= -(x:Int)/s∧((y-r:Nat):Int)= -(x:Int)%s:=by
  intro s hs Q hQ;have d:0≤((y-r:Nat):Int):=Int.natCast_nonneg _;have i:((y-r:Nat):Int)<s.natAbs:=by
   have:s.natAbs=y:=by rcases hs with rfl|rfl<;>simp
   rw[this];omega
  have e:s≠0:=by rcases hs with rfl|rfl<;>omega
  have e1: -(x:Int)/s=Q:=by
   have g:((y-r:Nat):Int)/s=0:=by
    rcases hs with rfl|rfl
    ·exact Int.ediv_eq_zero_of_lt d o
    ·rw[Int.ediv_neg,Int.ediv_eq_zero_of_lt d o,Int.neg_zero]
   rw[hQ,Int.mul_add_ediv_left _ _ e,g,Int.add_zero]
  refine⟨e1.symm,?_⟩
  have:=Int.emod_def (-(x:Int)) s
  rw[this,e1];omega
 have hx:(x:Int)=(y:Int)*q+r:=by rw[←hm];simp
 have hsub:((y-r:Nat):Int)=(y:Int)-r:=o
 cases b.neg with
 |false=>
  have:=key y (.inl ϱ) (-((q:Int)+1)) (by rw[hsub,hx,Int.mul_neg,Int.mul_add];omega)
  simpa[Yh] using this
 |true=>
  have:=key (-y) (.inr ϱ) ((q:Int)+1) (by rw[hsub,hx,Int.neg_mul,Int.mul_add];omega)
  simpa[Yh] using this
def GRat.q(r:GRat):Rat:=Rat.divInt r.num.toZ r.den.toZ
def ofQ(q:Rat):GRat:=⟨ofZ q.num,ofZ (q.den:Int)⟩
theorem J9(q:Rat):(ofQ q).q=q:=by
 unfold GRat.q ofQ;rw[Jo,Jo];exact Wo q
def low(n d:Int):GRat:=ofQ (Rat.divInt n d)
theorem rk(n:Int):low n 0=⟨ofZ 0,ofZ 1⟩:=by
 unfold low ofQ;rw[Rat.divInt_zero];rfl
theorem pZ(d:Int):low 0 d=⟨ofZ 0,ofZ 1⟩:=by
 unfold low ofQ;rw[Rat.zero_divInt];rfl
theorem sO{n d:Int}(hd:0<d):low n d=⟨ofZ (n/(Int.gcd n d:Int)),ofZ (d/(Int.gcd n d:Int))⟩:=by
 unfold low ofQ;rw[Rat.num_divInt,Rat.den_divInt,if_neg o,Int.gcd_comm,Ui hd,Int.one_mul]
 congr 2
 have:(d.natAbs:Int)=d:=o
 rw[←this];simp
theorem Ga{n d:Int}(hd:d=1):low n d=⟨ofZ n,ofZ d⟩:=by
 subst hd;rw[sO δ,Int.gcd_one_right];simp
theorem rZ{n d:Int}(hd:0<d)(h:Int.gcd n d=1):low n d=⟨ofZ n,ofZ d⟩:=by
 rw[sO hd,h];simp
theorem nS{a:GRat}(h:a.den.toZ=0):a.q=0:=by
 unfold GRat.q;rw[h,Rat.divInt_zero]
theorem MA{a b:GRat}(ha:a.den.toZ≠0)(hb:b.den.toZ≠0):a.q+b.q=Rat.divInt (a.num.toZ*b.den.toZ+b.num.toZ*a.den.toZ) (a.den.toZ*b.den.toZ):=Rat.divInt_add_divInt _ _ ha hb
theorem OG(a:GRat):Rat.divInt (-a.num.toZ) a.den.toZ= - a.q:=by
 unfold GRat.q;rw[Rat.neg_divInt]
def Xr(q:Rat):Int:=q.num.sign
theorem L4(a:GRat):a.num.toZ.sign*a.den.toZ.sign=Xr a.q:=by
 unfold GRat.q Xr;rw[Rat.num_divInt];generalize a.num.toZ=n;generalize a.den.toZ=d;rcases Int.lt_trichotomy d 0 with h|h|h
 ·rw[Uh h];have hg:0<Int.gcd d n:=Int.gcd_pos_of_ne_zero_left _ o;have hdvd:(Int.gcd d n:Int)∣n:=Int.gcd_dvd_right _ _;obtain⟨k,hk⟩:=hdvd;generalize Int.gcd d n=g at *;subst hk;rw[show(-1:Int)*((g:Int)*k)=(g:Int)*(-k) by rw[Int.mul_neg,Int.neg_mul,Int.one_mul],T7 _ o,Int.sign_mul,Int.sign_neg,Ui o];omega
 ·subst h;simp
 ·rw[Ui h];have hg:0<Int.gcd d n:=Int.gcd_pos_of_ne_zero_left _ o;have hdvd:(Int.gcd d n:Int)∣n:=Int.gcd_dvd_right _ _;obtain⟨k,hk⟩:=hdvd;generalize Int.gcd d n=g at *;subst hk;rw[Int.one_mul,T7 _ o,Int.sign_mul,Ui (show 0<(g:Int) by omega)];omega
abbrev YT:GRat:=⟨⟨false,[]⟩,⟨false,[]⟩⟩
abbrev YU:GRat:=ofQ (Rat.divInt 1 1)
def ocmp(c d:Int):Int:=if c=0 then d else c
def cmpI(a b:Int):Int:=if a<b then -1 else if a=b then 0 else 1
def qcmp(p q:Rat):Int:=Xr (p-q)
def cmpL{α:Type}(f:α→α→Int):List α→List α→Int
 |[],[]=>0
 |[],_::_=> -1
 |_::_,[]=>1
 |a::as0,b::bs=>ocmp (f a b) (cmpL f as0 bs)
def cmpB(a b:UInt8):Int:=cmpI a.toNat b.toNat
mutual
def cmpE:GExpr→GExpr→Int
 |.mk o n c s as0,e=>ocmp (cmpI o e.op) (ocmp (cmpL cmpI n e.n) (ocmp (qcmp c.q e.c.q) (ocmp (cmpL cmpB s e.name) (K1 as0 e.args))))
def K1:List GExpr→List GExpr→Int
 |[],[]=>0
 |[],_::_=> -1
 |_::_,[]=>1
 |a::as0,b::bs=>ocmp (cmpE a b) (K1 as0 bs)
end
theorem Qs(a e:GExpr):cmpE a e=ocmp (cmpI a.op e.op) (ocmp (cmpL cmpI a.n e.n) (ocmp (qcmp a.c.q e.c.q) (ocmp (cmpL cmpB a.name e.name) (K1 a.args e.args)))):=by
 cases a;rw[cmpE];rfl
def Anti(p q:Int):Prop:=q= -p
def Tri(ab bc ac:Int):Prop:=ab≤0→bc≤0→ac≤0
theorem n4{p q p' q':Int}(h:Anti p q)(h':Anti p' q'):Anti (ocmp p p') (ocmp q q'):=by
 unfold Anti ocmp at *;split<;>split<;>omega
theorem vW{ab bc ac ba cb ca ab' bc' ac':Int}(a:Anti ab ba)(b:Anti bc cb)(d:Anti ac ca)(t:Tri ab bc ac)(t1:Tri ca ab cb)(t2:Tri bc ca ba)(t':Tri ab' bc' ac'):
  Tri (ocmp ab ab') (ocmp bc bc') (ocmp ac ac'):=by
 unfold Tri Anti ocmp at *;intro ha hb;split at ha<;>split at hb<;>split<;>first|omega|skip
 all_goals first|exact t' ha hb|skip
 all_goals omega
structure IsCmp {α:Type} (f:α→α→Int):Prop where
 anti:∀a b,Anti (f a b) (f b a)
 tri:∀a b c,Tri (f a b) (f b c) (f a c)
theorem qw:IsCmp cmpI:=by
 refine⟨fun a b=>?_,fun a b _=>?_⟩
 ·unfold Anti cmpI;split<;>split<;>(try split)<;>(try split)<;>omega
 ·unfold Tri cmpI;split<;>split<;>(try split)<;>(try split)<;>(try split)<;>(try split)<;>omega
theorem A9:IsCmp cmpB:=⟨fun a b=>qw.anti _ _,fun a b _=>qw.tri _ _ _⟩
theorem AX(q:Rat):Xr (-q)= - Xr q:=by
 unfold Xr;rw[Rat.neg_num,Int.sign_neg]
theorem y5{q:Rat}:Xr q≤0↔q≤0:=by
 unfold Xr;have h:0≤(-q).num↔0≤ -q:=Rat.num_nonneg;rw[Rat.neg_num] at h;have b:0≤ -q↔q≤0:=by
  constructor
  ·intro h;have:=Rat.neg_le_neg h;rwa [Rat.neg_neg,Rat.neg_zero] at this
  ·intro h;have:=Rat.neg_le_neg h;rwa [Rat.neg_zero] at this
 rw[←b,←h];constructor
 ·intro hs;rcases Int.lt_or_le 0 q.num with a|a
  ·rw[Ui a] at hs;omega
  ·omega
 ·intro hs;rcases Int.lt_or_le q.num 0 with a|a
  ·rw[Uh a];omega
  ·rw[show q.num=0 by omega];decide
theorem Bw:IsCmp qcmp:=by
 refine⟨fun a b=>?_,fun a b c=>?_⟩
 ·unfold Anti qcmp;rw[←AX,Rat.neg_sub]
 ·unfold Tri qcmp;rw[y5,y5,y5];intro g h;have e:a-c=(a-b)+(b-c):=by
   rw[Rat.sub_eq_add_neg,Rat.sub_eq_add_neg,Rat.sub_eq_add_neg,Rat.add_assoc,←Rat.add_assoc (-b),Rat.neg_add_cancel,Rat.zero_add]
  rw[e];have d:(a-b)+(b-c)≤(a-b)+0:=(Rat.add_le_add_left).2 h;rw[Rat.add_zero] at d;exact Rat.le_trans d g
theorem oC{α:Type}{f:α→α→Int}(h:IsCmp f):IsCmp (cmpL f):=by
 have anti:∀a b,Anti (cmpL f a b) (cmpL f b a):=by
  intro a
  induction a with
  |nil=>intro b;cases b<;>simp[cmpL,Anti]
  |cons x a ih=>
   intro b;cases b with
   |nil=>simp[cmpL,Anti]
   |cons y b=>exact n4 (h.anti _ _) (ih b)
 refine⟨anti,?_⟩;intro a
 induction a with
 |nil=>intro b c;cases b<;>cases c<;>simp[cmpL,Tri]
 |cons x a ih=>
  intro b c;cases b with
  |nil=>intro d;simp[cmpL] at d
  |cons y b=>
   cases c with
   |nil=>intro _ e;simp[cmpL] at e
   |cons z c=>exact vW (h.anti _ _) (h.anti _ _) (h.anti _ _) (h.tri _ _ _) (h.tri _ _ _) (h.tri _ _ _) (ih b c)
theorem y8:(∀a b:GExpr,Anti (cmpE a b) (cmpE b a))∧∀a b:List GExpr,Anti (K1 a b) (K1 b a):=by
 have key:∀n,(∀a b:GExpr,SizeOf.sizeOf a<n→Anti (cmpE a b) (cmpE b a))∧∀a b:List GExpr,SizeOf.sizeOf a<n→Anti (K1 a b) (K1 b a):=by
  intro n
  induction n with
  |zero=>exact⟨fun _ _ h=>absurd h (TC _),fun _ _ h=>absurd h (TC _)⟩
  |succ n ih=>
   refine⟨fun a b h=>?_,fun a b h=>?_⟩
   ·rw[Qs,Qs];refine n4 (qw.anti _ _) (n4 ((oC qw).anti _ _) (n4 (Bw.anti _ _) (n4 ((oC A9).anti _ _) (ih.2 _ _ ?_))));cases a;simp[GExpr.args] at h ⊢;omega
   ·cases a with
    |nil=>cases b<;>simp[K1,Anti]
    |cons x a=>
     cases b with
     |nil=>simp[K1,Anti]
     |cons y b=>
      rw[K1,K1];simp at h;exact n4 (ih.1 _ _ o) (ih.2 _ _ o)
 exact⟨fun a b=>(key _).1 a b (VM _),fun a b=>(key _).2 a b (VM _)⟩
theorem AV:(∀a b c:GExpr,Tri (cmpE a b) (cmpE b c) (cmpE a c))∧∀a b c:List GExpr,Tri (K1 a b) (K1 b c) (K1 a c):=by
 have key:∀n,(∀a b c:GExpr,SizeOf.sizeOf a+SizeOf.sizeOf b+SizeOf.sizeOf c<n→Tri (cmpE a b) (cmpE b c) (cmpE a c))∧∀a b c:List GExpr,SizeOf.sizeOf a+SizeOf.sizeOf b+SizeOf.sizeOf c<n→Tri (K1 a b) (K1 b c) (K1 a c):=by
  intro n
  induction n with
  |zero=>exact⟨fun _ _ _ h=>absurd h (TC _),fun _ _ _ h=>absurd h (TC _)⟩
  |succ n ih=>
   refine⟨fun a b c h=>?_,fun a b c h=>?_⟩
   ·rw[Qs,Qs,Qs];have I:=qw;have L:=oC qw;have S:=oC A9;have Q:=Bw;refine vW (I.anti _ _) (I.anti _ _) (I.anti _ _) (I.tri _ _ _) (I.tri _ _ _) (I.tri _ _ _)
     (vW (L.anti _ _) (L.anti _ _) (L.anti _ _) (L.tri _ _ _) (L.tri _ _ _) (L.tri _ _ _)
     (vW (Q.anti _ _) (Q.anti _ _) (Q.anti _ _) (Q.tri _ _ _) (Q.tri _ _ _) (Q.tri _ _ _)
     (vW (S.anti _ _) (S.anti _ _) (S.anti _ _) (S.tri _ _ _) (S.tri _ _ _) (S.tri _ _ _) (ih.2 _ _ _ ?_))))
    cases a;cases b;cases c;simp[GExpr.args] at h ⊢;omega
   ·cases a with
    |nil=>cases b<;>cases c<;>simp[K1,Tri]
    |cons x a=>
     cases b with
     |nil=>intro d;simp[K1] at d
     |cons y b=>
      cases c with
      |nil=>intro _ e;simp[K1] at e
      |cons z c=>
       rw[K1,K1,K1];simp at h;exact vW (y8.1 _ _) (y8.1 _ _) (y8.1 _ _) (ih.1 _ _ _ o) (ih.1 _ _ _ o) (ih.1 _ _ _ o) (ih.2 _ _ _ o)
 exact⟨fun a b c=>(key _).1 a b c (VM _),fun a b c=>(key _).2 a b c (VM _)⟩
end Go.Wf
namespace Go.Wf
open Go Go.Proofs Go.RowKit
section
variable {P:Program} {ops:Array Oper} {n:Nat} {Q:Post} {r:List Oper} {f:Fr} {w:World}
theorem Oy {d:Nat} {op:Op} {ty:TypeId} {pos:String} {after:Array Edge} {j:Nat} {b:Bool} (hlo:Nat.blt d n=true) (hy:Zk ops f j=none)
  (h:Sq P ops n Q r (updO f (some d) undef) w):
  Sq P ops n Q (⟨some d,op,ty,pos,after,some (j,b)⟩::r) f w:=⟨TG hlo,by simp only[Region.wanted,hy];exact h⟩
end
section
variable {P:Program} {ρ:Operand→Value} {w:World} {K:Value→World→Prop} {Kp:List PanicEntry→World→Prop} {dst:Option Tmp} {ty:TypeId} {pos:String} {after:Array Edge} {gd:Option (Nat×Bool)} {X0 x y:Nat→Prop} {w0:Bs}
theorem RE {o:Operand} {k:FuncId} {args:Array Operand} {ts:Array TypeId} {vs:List Value} {Φ:Value→World→Prop} (C:Cx X0 w0 x y w) (hk:Jd P k=true)
  (ha:args.toList.map ρ=vs) (he:ρ o= .func (.func k) #[] #[]) (hc:Calls P k vs.toArray w (Ret w Φ))
  (h:∀v w',Cx X0 w0 x y w'→Sp x y w x y w' Zl→Φ v w'→K v w'):
  St P ρ ⟨dst,.call {callee:= .value o,args:=args,argTypes:=ts},ty,pos,after,gd⟩ w K Kp:=by
 unfold Jd at hk;split at hk
 ·rename_i fn hf;simp only[T2,T3] at hk;refine Sg he hf hk.1 hk.2 (by rw[ha];simp) (Calls.mono hc ?_);intro e w' hr;cases e with
  |returned v=>obtain⟨a,b⟩:=hr;obtain⟨c,s⟩:=C.next b;exact h v w' c s a
  |panicked ch=>exact hr.elim
  |outgrown=>exact hr.elim
 ·cases hk
theorem S3{x y z:Operand}{ts:Array TypeId}{k k' k'':IntKind}{a b c e:Int}(hx:ρ x= .int k a)(hy:ρ y= .int k' b)(hw:ρ z= .int k'' c)(hz:(if c>(if b>a then b else a) then c else(if b>a then b else a))=e)(h:K (.int k e) w):
  St P ρ ⟨dst,.call {callee:= .builtin .max,args:= #[x,y,z],argTypes:=ts},ty,pos,after,gd⟩ w K Kp:=by
 subst hz;refine P9 (v:= .int k (if c>(if b>a then b else a) then c else(if b>a then b else a))) ?_ h;simp[execOp,resolve,invoke,builtin,hx,hy,hw,Builtin.max_,Builtin.max2]
end
theorem py {X:Nat→Prop} {w:World} {a e g i:Value} (m:GExpr) (j: -9223372036854775808≤m.op) (k:m.op≤9223372036854775807) (l:m.name.length≤maxLen)
  (p:RS Zg X w a m.n) (s:RS Jh X w e m.c.num.mag) (v:RS Jh X w g m.c.den.mag) (z:RS Jc X w i m.args):
  RV Jc X w (.agg #[.int .i64 m.op,a,.bool m.c.num.neg,e,.bool m.c.den.neg,g,str m.name,i]) m:=by
 have h:=Zb (b:=m.c.num.neg) (d:=m.c.den.neg) j k l p s v z;cases m;exact h
theorem RV.args_max{X:Nat→Prop}{w:World}{v:Value}{a:GExpr}(h:RV Jc X w v a):a.args.length≤9223372036854775807:=by
 obtain⟨_,_,_,_,_,_,_,_,_,h'⟩:=SR h;obtain⟨_,_,_,_,_⟩:=h'.args.len;have hml:maxLen=9223372036854775807:=rfl;omega
theorem nU:∀a b:List UInt8,Lib.compareBytes a b=cmpL cmpB a b
 |[],[]=>rfl
 |[],_::_=>rfl
 |_::_,[]=>rfl
 |a::l,b::m=>by
  unfold Lib.compareBytes cmpL;rw[nU l m];unfold ocmp cmpB cmpI;simp only[UInt8.lt_iff_toNat_lt];by_cases d:a.toNat<b.toNat
  ·simp[d]
  ·by_cases e:b.toNat<a.toNat
   ·have:¬((a.toNat:Nat):Int)=((b.toNat:Nat):Int):=o
    simp[d,e,if_neg this]
   ·have:a.toNat=b.toNat:=o
    simp[this]
theorem I1:∃fn,Tryz.prog.funcs[173]? =some fn∧(fn.name == "runtime.NumGoroutine")=false∧fn.body.isNone=true∧Extern.findNext fn=none∧Extern.find fn=some Extern.BytealgCompare.compare:=
 ⟨Tryz.f173,Tryz.func173,k,rfl,k,k⟩
theorem SI {ρ:Operand→Value} {w:World} {K:Value→World→Prop} {Kp:List PanicEntry→World→Prop} {dst:Option Tmp} {ty:TypeId} {pos:String} {after:Array Edge} {gd:Option (Nat×Bool)} {args:Array Operand} {ts:Array TypeId} {a b:List UInt8}
  (ha:args.toList.map ρ=[str a,str b]) (he:ρ (.func 173)= .func (.func 173) #[] #[]) (h:K (.int .i64 (cmpL cmpB a b)) w):
  St Tryz.prog ρ ⟨dst,.call {callee:= .value (.func 173),args:=args,argTypes:=ts},ty,pos,after,gd⟩ w K Kp:=by
 obtain⟨_,d,e,g,i,j⟩:=I1;refine P9 (v:= .int .i64 (cmpL cmpB a b)) (w':=w) ?_ h;have ha':args.map ρ= #[str a,str b]:=by apply TX;simpa using ha
 have hr:(callFunc 173 #[str a,str b]).run Tryz.prog w= .ok (.value (.int .i64 (cmpL cmpB a b))) w:=by
  rw[run_callFunc_extern d e g i j];unfold str;rw[Lib.run_compareString];rw[←nU];rfl
 simp[execOp,resolve,Deferred.ofValue,he,invoke,ha',hr]
end Go.Wf
namespace Go.Proofs.YtjiojpmoleilgaaGreatDoor
open Go Go.Proofs Go.Wf Go.RowKit Go.ChangeShapes Go.WideShapes
abbrev NX:Nat→Prop:=fun _=>False
section
variable {H:Type} {enc:TypeId×Value→H} {w:World} {base:Nat} {sp:Nat→Bool} {held:Bool}
theorem und4:Tryz.prog.underlying 4=some .bool:=k
theorem und9:Tryz.prog.underlying 9=some .string:=k
end
end Go.Proofs.YtjiojpmoleilgaaGreatDoor
namespace Go.Wf
open Go
variable{a:GInt}{z:Int}
theorem r8:ofZ 1=⟨false,[1]⟩:=by
 unfold ofZ;rw[show(1:Int).natAbs=1 from rfl,oO d d];rfl
theorem FK{m:List Nat}(h:((m.length:Nat):Int)=1):m=[m.getD 0 0]:=by
 match m,h with
 |[d],_=>rfl
 |[],h=>simp at h
 |_::_::_,h=>simp at h;omega
theorem Nt(d:((a.mag.length:Nat):Int)=1)(b:((a.mag.getD 0 0:Nat):Int)=1):(!a.neg)=decide (a=ofZ 1):=by
 have e:=FK d;have b:a.mag.getD 0 0=1:=o
 rw[b] at e;obtain⟨n,m⟩:=a;have e:m=[1]:=e;subst e;rw[r8];cases n<;>simp
theorem LW(b:¬((a.mag.getD 0 0:Nat):Int)=1):false=decide (a=ofZ 1):=by
 refine(decide_eq_false fun e=>b ?_).symm
 rw[e,r8];rfl
theorem LK(b:¬((a.mag.length:Nat):Int)=1):false=decide (a=ofZ 1):=by
 refine(decide_eq_false fun e=>b ?_).symm
 rw[e,r8];rfl
theorem Xa:ofZ z=ofZ 1↔z=1:=⟨fun h=>Im h,fun h=>by rw[h]⟩
theorem Z1(sa:Jr a.mag):(ofZ a.toZ).mag.length≤a.mag.length:=by
 rw[oX,Jq];exact Za (Yk _ sa)
theorem Xe(z:Int):(ofZ (-z)).mag=(ofZ z).mag:=by rw[oX,oX,Int.natAbs_neg]
theorem K0{a b:Nat}(h:a≤b):(digs a).length≤(digs b).length:=Za (TS h (Vv b))
theorem u6{y:Int}(h:y.natAbs≤z.natAbs):(ofZ y).mag.length≤(ofZ z).mag.length:=K0 h
theorem Xt:(ofZ z).mag.length=0↔z=0:=by
 rw[oX,UF,Q2,Int.natAbs_eq_zero]
theorem pw(z:Int):val (ofZ z).mag=z.natAbs:=Z3 _
theorem Ac{n d:Int}(hd:d≠0):(ofZ (Int.gcd n d:Int)).mag.length≤(ofZ d).mag.length:=
 u6 (by
  have:Int.gcd n d∣d.natAbs:=Nat.gcd_dvd_right _ _
  have a:=Nat.le_of_dvd o this;simpa using a)
theorem EZ{n d:Int}(hd:d≠0):((Int.gcd n d:Nat):Int)≠0:=by
 have:=Int.gcd_pos_of_ne_zero_right n hd
 omega
theorem pT(n d:Int):n%((Int.gcd n d:Nat):Int)=0:=Int.emod_eq_zero_of_dvd (Int.gcd_dvd_left _ _)
theorem qI(n d:Int):d%((Int.gcd n d:Nat):Int)=0:=Int.emod_eq_zero_of_dvd (Int.gcd_dvd_right _ _)
theorem qH{n d:Int}(h:d=0∨n=0):(⟨⟨false,[]⟩,ofZ 1⟩:GRat)=ofQ (Rat.divInt n d):=by
 rcases h with rfl|rfl
 ·exact(rk n).symm
 ·exact(pZ d).symm
theorem Vy{n d:Int}(h:d=1):(⟨ofZ n,ofZ d⟩:GRat)=ofQ (Rat.divInt n d):=(Ga h).symm
theorem mg{n d:Int}(hd:0<d)(h:((Int.gcd n d:Nat):Int)=1):(⟨ofZ n,ofZ d⟩:GRat)=ofQ (Rat.divInt n d):=(rZ hd o).symm
theorem tp{n d:Int}(hd:0<d):(⟨ofZ (n/((Int.gcd n d:Nat):Int)),ofZ (d/((Int.gcd n d:Nat):Int))⟩:GRat)=ofQ (Rat.divInt n d):=(sO hd).symm
theorem om(n d:Int):Rat.divInt (-n) (-d)=Rat.divInt n d:=Rat.neg_divInt_neg n d
end Go.Wf
