/- Part 2 of the texts for the claim. -/
import Derived.Test.YtjiojpmoleilgaaGreatDoorPrints1
set_option linter.unusedVariables false
set_option linter.unusedSimpArgs false
set_option maxRecDepth 100000
set_option maxHeartbeats 4000000
noncomputable section
namespace Go.Wf
open Go
theorem y0(l:List Nat)(k:Nat)(hk:k≤l.length):val l=val (l.take k)+4294967296 ^ k * val (l.drop k):=by
 conv=>lhs;rw [← List.take_append_drop k l]
 rw [Qa,J9b,Nat.min_eq_left hk]
theorem Je4{a b:Nat}(h:cmpN a b < 0):a < b:=by
 unfold cmpN at h
 split at h
 ·assumption
 ·split at h <;> omega
theorem Jd6{a b:Nat}(h:¬ cmpN a b < 0):b≤a:=by
 unfold cmpN at h
 split at h
 ·omega
 ·omega
theorem Yr{a b:List Nat}(hb:trim b=b)(sa:Jn a)(h:val b≤val a):b.length≤a.length:=by
 rcases J9w a.length b.length with h1 | h1
 ·have:=Yy hb sa h1;omega
 ·exact h1
theorem Jpo{a:List Nat}(ha:trim a=a)(sa:Jn a):a=digs (val a):=by
 conv=>lhs;rw [← ha,X5 sa]
theorem dv_lt{a b:List Nat}(h:val a < val b):[]=digs (val a / val b):=by rw [Nat.div_eq_of_lt h];rfl
theorem Jky{a b:List Nat}(ha:trim a=a)(sa:Jn a)(h:val a < val b):a=digs (val a % val b):=by
 rw [Nat.mod_eq_of_lt h];exact Jpo ha sa
theorem Kq{a:List Nat}(sa:Jn a)(h:a.length≤2):val a < 18446744073709551616:=by
 have:=Zp a sa
 have h2:4294967296 ^ a.length≤4294967296 ^ 2:=J9v (by omega) h;omega
theorem Jhl{x y:Nat}(h:x < 18446744073709551616):x / y < 18446744073709551616:=J91 (Nat.div_le_self _ _) h
theorem Jf7{x y:Nat}(h:x < 18446744073709551616):x % y < 18446744073709551616:=J91 (Nat.mod_le _ _) h
theorem Jfm{b:List Nat}(hb:trim b=b)(sb:Jn b)(h:b≠[]):0 < b.getD (b.length - 1) 0:=by
 rcases List.eq_nil_or_concat b with rfl | ⟨q,d,rfl⟩
 ·exact absurd rfl h
 ·have h1:=Xy hb h;simp only [List.concat_eq_append] at *;have sq:Jn q:=fun u hu=>sb u (by simp [hu]);have h2:=Zp q sq;rw [Z3,J8z,J82,Nat.add_sub_cancel] at h1;rw [J8z,J82,Nat.add_sub_cancel,J9d,List.getElem?_append_right (by omega),Nat.sub_self]
  show 0 < d
  rcases Nat.eq_zero_or_pos d with e | e
  ·rw [e,Nat.mul_zero] at h1;omega
  ·exact e
theorem Jpd{b:List Nat}(sb:Jn b)(hne:b≠[]){s:Nat}(hs:s≤32 - blen (b.getD (b.length - 1) 0)):val b * 2 ^ s < 4294967296 ^ b.length:=by
 have hpos:0 < b.length:=List.length_pos_iff.2 hne;have h1:=Qo (k:=b.length - 1) sb (by omega);have h2:=Jr b (b.length - 1);rw [show b.length - 1+1=b.length by omega,List.take_length] at h2;have h3:=Q9 (b.getD (b.length - 1) 0);have h4:=Jbi (Jj sb (b.length - 1))
 generalize b.getD (b.length - 1) 0=t at *
 have h5:(t+1) * 2 ^ s≤4294967296:=by
  refine J86 (Nat.mul_le_mul_right _ (show t+1≤2 ^ blen t by omega)) ?_;rw [← Nat.pow_add];exact J86 (J9v (by omega) (show blen t+s≤32 by omega)) (by decide)
 have h6:val b+1≤4294967296 ^ (b.length - 1) * (t+1):=by rw [J9r,Nat.mul_one];omega
 have h7:=Nat.mul_le_mul_right (2 ^ s) h6;rw [J9x] at h7;have h8:=J9y (4294967296 ^ (b.length - 1)) h5;rw [← J9p,show(b.length - 1).succ=b.length by omega] at h8;rw [Nat.add_mul,Nat.one_mul] at h7
 have:=Nat.two_pow_pos s
 omega
theorem Jp5{v n:Nat}(h1:v < 4294967296 ^ n)(h2:4294967296 ^ (n - 1)≤v)(hn:0 < n):(digs v).length=n:=by
 have a:=Jz h1
 rcases J9w (digs v).length n with h | h
 ·have b:=Qk v;have c:4294967296 ^ (digs v).length≤4294967296 ^ (n - 1):=J9v (by omega) (by omega);omega
 ·omega
theorem Jwf{b:List Nat}(hb:trim b=b)(sb:Jn b)(hne:b≠[]){s:Nat}(hs:s≤32 - blen (b.getD (b.length - 1) 0)):(trim (Jq (b.length+1) (val b * 2 ^ s))).length=b.length∧val (trim (Jq (b.length+1) (val b * 2 ^ s)))=val b * 2 ^ s∧trim (trim (Jq (b.length+1) (val b * 2 ^ s)))=trim (Jq (b.length+1) (val b * 2 ^ s)):=by
 have h1:=Jpd sb hne hs;have hpos:0 < b.length:=List.length_pos_iff.2 hne;have h1':val b * 2 ^ s < 4294967296 ^ (b.length+1):=J85 h1 (J9v (by omega) (by omega));rw [K1 h1'];refine⟨Jp5 h1 (J86 (Xy hb hne) (Nat.le_mul_of_pos_right _ (Nat.two_pow_pos s))) hpos,Jt _,Yx _⟩
theorem Jtu{a b L:List Nat}(sa:Jn a)(hb:trim b=b)(hne:b≠[]){s:Nat}(hle:b.length≤a.length)(hL:L.length=a.length+1)(hs:Jn L)(hv:val L=val a * 2 ^ s):
  val (L.drop (a.length+1 - b.length)) < val b * 2 ^ s:=by
 have hpos:0 < b.length:=List.length_pos_iff.2 hne;have h1:=y0 L (a.length+1 - b.length) (by omega);have h2:=Zp a sa;have h3:=Xy hb hne;have h4:4294967296 ^ (a.length+1 - b.length) * val (L.drop (a.length+1 - b.length)) < 4294967296 ^ (a.length+1 - b.length) * (4294967296 ^ (b.length - 1) * 2 ^ s):=by
  rw [← J9x,← Nat.pow_add,show a.length+1 - b.length+(b.length - 1)=a.length by omega]
  have:=Nat.mul_lt_mul_of_pos_right h2 (Nat.two_pow_pos s)
  omega
 have h5:=Nat.lt_of_mul_lt_mul_left h4;exact J85 h5 (Nat.mul_le_mul_right _ h3)
theorem Jnp{L:List Nat}{J n:Nat}(hJ:0 < J)(hl:J+n≤L.length):L=L.take (J - 1)++(L.drop (J - 1)).take (n+1)++L.drop (J+n):=by
 rw [J89]
 conv=>lhs;rw [← List.take_append_drop (J - 1) L]
 congr 1
 conv=>lhs;rw [← List.take_append_drop (n+1) (L.drop (J - 1))]
 rw [List.drop_drop,show J - 1+(n+1)=J+n by omega]
theorem Jjw{L:List Nat}{J n:Nat}(hJ:0 < J)(hl:J+n≤L.length):((L.drop (J - 1)).take (n+1)).length=n+1:=by
 rw [J9b,J9a];omega
theorem Jd2{L:List Nat}{J n D:Nat}(hl:J+n≤L.length)(hD:D < 4294967296 ^ n)(hlo:val (L.drop J) < D):val (L.drop (J+n))=0:=by
 have h:=y0 (L.drop J) n (by rw [J9a];omega);rw [List.drop_drop] at h
 rcases Nat.eq_zero_or_pos (val (L.drop (J+n))) with e | e
 ·exact e
 ·have:=J9y (4294967296 ^ n) e
  rw [Nat.mul_one] at this;omega
theorem Jj7{L:List Nat}{J n D:Nat}(hJ:0 < J)(hl:J+n≤L.length)(hD:D < 4294967296 ^ n)(hlo:val (L.drop J) < D):val (L.drop (J - 1))=val ((L.drop (J - 1)).take (n+1)):=by
 have h:=y0 (L.drop (J - 1)) (n+1) (by rw [J9a];omega);rw [List.drop_drop,show J - 1+(n+1)=J+n by omega,Jd2 hl hD hlo,Nat.mul_zero,Nat.add_zero] at h;exact h
theorem Jrf{L:List Nat}{J n D:Nat}(hs:Jn L)(hJ:0 < J)(hl:J+n≤L.length)(hD:D < 4294967296 ^ n)(hlo:val (L.drop J) < D):val ((L.drop (J - 1)).take (n+1)) < D * 4294967296:=by
 rw [← Jj7 hJ hl hD hlo,Vr hJ (by omega)]
 have:=Jj hs (J - 1)
 omega
theorem Jnt{u D:Nat}(h:u < D * 4294967296):u / D < 4294967296:=Nat.div_lt_of_lt_mul h
theorem Jqj{L:List Nat}{J n T:Nat}(hJ:0 < J)(hl:J+n≤L.length):(L.take (J - 1)++Jq (n+1) T++L.drop (J+n)).length=L.length:=by
 simp only [J8z,J9b,J9a,Jg];omega
theorem Jho{L:List Nat}{J n D u:Nat}(hJ:0 < J)(hl:J+n≤L.length)(hD:D < 4294967296 ^ n)(hlo:val (L.drop J) < D):val ((L.take (J - 1)++Jq (n+1) (u % D)++L.drop (J+n)).drop (J - 1))=u % D:=by
 have hlen:(L.take (J - 1)).length=J - 1:=by rw [J9b];omega
 have hT:u % D < 4294967296 ^ (n+1):=by
  have h1:=J9c u (show 0 < D by omega);have h2:4294967296 ^ n≤4294967296 ^ (n+1):=J9v (by omega) (by omega);omega
 rw [J89,List.drop_append_of_le_length (by omega),J9s (by omega),J9t,Qa,Zd _ _ hT,Jd2 hl hD hlo,Nat.mul_zero,Nat.add_zero]
theorem Jvc{L Q:List Nat}{J n D N:Nat}(hJ:0 < J)(hl:J+n≤L.length)(hD:D < 4294967296 ^ n)(hlo:val (L.drop J) < D)(hN:N=val Q * D * 4294967296 ^ J+val L):
  N=val ((val ((L.drop (J - 1)).take (n+1)) / D)::Q) * D * 4294967296 ^ (J - 1)+val (L.take (J - 1)++Jq (n+1) (val ((L.drop (J - 1)).take (n+1)) % D)++L.drop (J+n)):=by
 have hlen:(L.take (J - 1)).length=J - 1:=by rw [J9b];omega
 have h1:=y0 (L.take (J - 1)++Jq (n+1) (val ((L.drop (J - 1)).take (n+1)) % D)++L.drop (J+n)) (J - 1) (by rw [Jqj hJ hl];omega);rw [Jho hJ hl hD hlo] at h1;rw [J89,List.take_append_of_le_length (by omega),List.take_take,Nat.min_self,← J89] at h1;have h2:=y0 L (J - 1) (by omega);have h3:=Jj7 hJ hl hD hlo;rw [h3] at h2;rw [h1,hN,h2,val]
 generalize val ((L.drop (J - 1)).take (n+1))=u
 have h4:=Nat.div_add_mod u D
 generalize u % D=r at *
 generalize u / D=d at *
 have e:4294967296 ^ J=4294967296 * 4294967296 ^ (J - 1):=by rw [J90,← J9p,show(J - 1).succ=J by omega]
 rw [e,← h4]
 generalize 4294967296 ^ (J - 1)=p
 generalize val (L.take (J - 1))=t
 generalize val Q=q
 rw [Nat.add_mul,Nat.add_mul,J9r,J90 d D,J90 (D * d) p];have e2:q * D * (4294967296 * p)=4294967296 * q * D * p:=by
  rw [← J9x,J90 (q * D),← J9x]
 rw [e2];omega
theorem Jru{a:List Nat}(sa:Jn a){s:Nat}(hs:s≤32):val a * 2 ^ s < 4294967296 ^ (a.length+1):=by
 have h1:=Zp a sa;have h2:2 ^ s≤4294967296:=J86 (J9v (by omega) hs) (by decide);have h3:=J9y (val a) h2;have h4:=Nat.mul_lt_mul_of_pos_right h1 (show 0 < 4294967296 by decide);rw [J9p];omega
theorem Jmj{L:List Nat}{i k n T:Nat}(hs:Jn L):Jn (L.take i++Jq n T++L.drop k):=Zz (Zz (Vt hs _) (J0 _ _)) (yf hs _)
theorem dv_q{a b Q L:List Nat}{s:Nat}(hQ:Jn Q)(hb:0 < val b)(hN:val a * 2 ^ s=val Q * (val b * 2 ^ s) * 4294967296 ^ 0+val L)(hlo:val (L.drop 0) < val b * 2 ^ s):trim Q=digs (val a / val b):=by
 rw [List.drop_zero] at hlo;rw [Nat.pow_zero,Nat.mul_one] at hN;rw [X5 hQ]
 congr 1
 have hp:=Nat.two_pow_pos s;have h1:val a * 2 ^ s / (val b * 2 ^ s)=val Q:=by
  rw [hN,J90 (val Q),Nat.mul_add_div (Nat.mul_pos hb hp),Nat.div_eq_of_lt hlo,Nat.add_zero]
 rw [← h1,Nat.mul_div_mul_right _ _ hp]
theorem dv_r{a b Q L:List Nat}{s n:Nat}(hL:Jn L)(hb:0 < val b)(hn:n≤L.length)(hD:val b * 2 ^ s < 4294967296 ^ n)(hN:val a * 2 ^ s=val Q * (val b * 2 ^ s) * 4294967296 ^ 0+val L)(hlo:val (L.drop 0) < val b * 2 ^ s):
  trim (Jq (L.take n).length (val (L.take n) / 2 ^ s))=digs (val a % val b):=by
 rw [List.drop_zero] at hlo;rw [Nat.pow_zero,Nat.mul_one] at hN;have hp:=Nat.two_pow_pos s;have h0:val (L.take n)=val L:=by
  have h:=y0 L n hn;have e:=Jd2 (J:=0) (n:=n) (L:=L) (by omega) hD (by rw [List.drop_zero];exact hlo);rw [Nat.zero_add] at e;rw [e] at h;omega
 have h1:val L=val a * 2 ^ s % (val b * 2 ^ s):=by
  rw [hN,J90 (val Q),Nat.mul_add_mod,Nat.mod_eq_of_lt hlo]
 have h2:val L / 2 ^ s=val a % val b:=by
  rw [h1,Nat.mul_mod_mul_right,Nat.mul_div_cancel _ hp]
 rw [h0,h2];refine K1 ?_;rw [← h2,J9b,Nat.min_eq_left hn];exact J91 (Nat.div_le_self _ _) (Nat.lt_trans hlo hD)
theorem Vp(b:Bool)(n:Nat):(Jl b n).natAbs=n:=by cases b <;> simp [Jl]
theorem Jgo(b:Bool)(n:Nat):decide (Jl b n < 0)=(b && decide (0 < n)):=by
 cases b
 ·simp [Jl]
 ·simp [Jl]
theorem Jdx(b:Bool)(n:Nat):Jl (!b) n= - Jl b n:=by cases b <;> simp [Jl]
theorem Yv(n:Nat):Jl false n=n:=rfl
theorem Vk(v:Nat):decide (0 < (digs v).length)=decide (0 < v):=by
 rcases Nat.eq_zero_or_pos v with rfl | h
 ·rfl
 ·have:digs v≠[]:=fun e=>by rw [X1] at e;omega
  rw [J84 h,J84 (List.length_pos_iff.2 this)]
theorem Ji5{b:Bool}{m:List Nat}(h:Jn m):mkSg b m=ofZ (Jl b (val m)):=by
 unfold mkSg ofZ;rw [X5 h,Vp,Jgo,Vk]
theorem Yu{b:Bool}{m:List Nat}{z:Int}(h:Jn m)(e:Jl b (val m)=z):mkSg b m=ofZ z:=by rw [Ji5 h,e]
theorem Jo(z:Int):(ofZ z).toZ=z:=by
 unfold GInt.toZ ofZ;rw [Jt]
 rcases Int.lt_or_le z 0 with h | h
 ·rw [J84 h];simp [Jl];omega
 ·rw [J83 (by omega)];simp [Jl];omega
theorem Kf(z:Int):Jn (ofZ z).mag:=Zx _
theorem Vw(z:Int):trim (ofZ z).mag=(ofZ z).mag:=Yx _
theorem Jmi{y z:Int}(h:ofZ y=ofZ z):y=z:=by rw [← Jo y,h,Jo]
theorem Vh(z:Int):(ofZ z).mag=digs z.natAbs:=rfl
theorem yh(z:Int):(ofZ z).neg=decide (z < 0):=rfl
theorem Qh(a:GInt):a.toZ.natAbs=val a.mag:=Vp _ _
theorem qm{a:GInt}:a.toZ=0↔val a.mag=0:=by rw [← Int.natAbs_eq_zero,Qh]
theorem Xd{m:List Nat}(_h:Jn m):(trim m).length=0↔val m=0:=by
 rw [List.length_eq_zero_iff,Ks]
theorem Jj8{a:GInt}(h:val a.mag=0):(0:Int)=a.toZ.sign:=by rw [qm.2 h];rfl
theorem Jhm{a:GInt}(hn:a.neg=true)(h:val a.mag≠0):(-1:Int)=a.toZ.sign:=by
 unfold GInt.toZ;rw [hn];rw [Int.sign_eq_neg_one_of_neg];simp [Jl];omega
theorem Jp2{a:GInt}(hn:a.neg=false)(h:val a.mag≠0):(1:Int)=a.toZ.sign:=by
 unfold GInt.toZ;rw [hn];rw [Int.sign_eq_one_of_pos];simp [Jl];omega
theorem Jgi{a:GInt}{b:List Nat}{n:Bool}(h:a.neg=n):Jl n (val a.mag+val b)=a.toZ+Jl n (val b):=by
 unfold GInt.toZ;rw [h];cases n <;> simp [Jl] <;> omega
theorem Jsn{a:GInt}{b:List Nat}{n:Bool}(h:¬ a.neg=n)(hle:val b≤val a.mag):Jl a.neg (val a.mag - val b)=a.toZ+Jl n (val b):=by
 unfold GInt.toZ
 have:n= !a.neg:=by cases n <;> cases hh:a.neg <;> simp_all
 rw [this];cases a.neg <;> simp [Jl] <;> omega
theorem Jrj{a:GInt}{b:List Nat}{n:Bool}(h:¬ a.neg=n)(hle:val a.mag≤val b):Jl n (val b - val a.mag)=a.toZ+Jl n (val b):=by
 unfold GInt.toZ
 have:n= !a.neg:=by cases n <;> cases hh:a.neg <;> simp_all
 rw [this];cases a.neg <;> simp [Jl] <;> omega
theorem Jma(a b:GInt):Jl (a.neg != b.neg) (val a.mag * val b.mag)=a.toZ * b.toZ:=by
 unfold GInt.toZ
 cases a.neg <;> cases b.neg <;> simp [Jl,Int.neg_mul,Int.mul_neg]
theorem zw{a b:GInt}(hb:val b.mag≠0)(h:a.neg=false∨val a.mag % val b.mag=0):
  Jl (a.neg != b.neg) (val a.mag / val b.mag)=a.toZ / b.toZ∧((val a.mag % val b.mag:Nat):Int)=a.toZ % b.toZ:=by
 unfold GInt.toZ;have hm:=Nat.div_add_mod (val a.mag) (val b.mag)
 generalize val a.mag=x at *
 generalize val b.mag=y at *
 cases ha:a.neg with
 | false=>
  cases b.neg with
  | false=>simp [Jl]
  | true=>simp [Jl]
 | true=>
  have h0:x % y=0:=by
   rcases h with h | h
   ·rw [ha] at h;cases h
   ·exact h
  rw [h0,Nat.add_zero] at hm
  generalize x / y=q at *
  subst hm;have hy:(y:Int)≠0:=by omega
  cases b.neg with
  | false=>
   simp only [Jl];refine⟨?_,?_⟩
   ·have: -((y * q:Nat):Int)=(y:Int) * (-(q:Int)):=by simp [Int.mul_neg]
    simp only [if_true,Bool.bne_false,if_false,Bool.false_eq_true];rw [this,Int.mul_ediv_cancel_left _ hy]
   ·simp [h0]
  | true=>
   simp only [Jl];refine⟨?_,?_⟩
   ·have: -((y * q:Nat):Int)=(-(y:Int)) * (q:Int):=by simp [Int.neg_mul]
    simp only [if_true,bne_self_eq_false,if_false,Bool.false_eq_true];rw [this,Int.mul_ediv_cancel_left _ (by omega)]
   ·simp [h0]
theorem Jbt{a b:GInt}(hb:val b.mag≠0)(ha:a.neg=true)(h:val a.mag % val b.mag≠0):
  Jl (a.neg != b.neg) (val a.mag / val b.mag+1)=a.toZ / b.toZ∧((val b.mag - val a.mag % val b.mag:Nat):Int)=a.toZ % b.toZ:=by
 unfold GInt.toZ;have hm:=Nat.div_add_mod (val a.mag) (val b.mag);have hlt:=J9c (val a.mag) (show 0 < val b.mag by omega)
 generalize val a.mag=x at *
 generalize val b.mag=y at *
 generalize x / y=q at *
 generalize x % y=r at *
 rw [ha];have key:∀ s:Int,(s=y∨s= -y)→∀ Q:Int,-(x:Int)=s * Q+((y - r:Nat):Int)→Q= -(x:Int) / s∧((y - r:Nat):Int)= -(x:Int) % s:=by
  intro s hs Q hQ;have h1:0≤((y - r:Nat):Int):=Int.natCast_nonneg _;have h2:((y - r:Nat):Int) < s.natAbs:=by
   have:s.natAbs=y:=by rcases hs with rfl | rfl <;> simp
   rw [this];omega
  have hs0:s≠0:=by rcases hs with rfl | rfl <;> omega
  have e1: -(x:Int) / s=Q:=by
   have h3:((y - r:Nat):Int) / s=0:=by
    rcases hs with rfl | rfl
    ·exact Int.ediv_eq_zero_of_lt h1 (by omega)
    ·rw [Int.ediv_neg,Int.ediv_eq_zero_of_lt h1 (by omega),Int.neg_zero]
   rw [hQ,Int.mul_add_ediv_left _ _ hs0,h3,Int.add_zero]
  refine⟨e1.symm,?_⟩
  have:=Int.emod_def (-(x:Int)) s
  rw [this,e1];omega
 have hx:(x:Int)=(y:Int) * q+r:=by rw [← hm];simp
 have hsub:((y - r:Nat):Int)=(y:Int) - r:=by omega
 cases b.neg with
 | false=>
  have:=key y (.inl rfl) (-((q:Int)+1)) (by rw [hsub,hx,Int.mul_neg,Int.mul_add];omega)
  simpa [Jl] using this
 | true=>
  have:=key (-y) (.inr rfl) ((q:Int)+1) (by rw [hsub,hx,Int.neg_mul,Int.mul_add];omega)
  simpa [Jl] using this
def GRat.q(r:GRat):Rat:=Rat.divInt r.num.toZ r.den.toZ
def ofQ(q:Rat):GRat:=⟨ofZ q.num,ofZ (q.den:Int)⟩
theorem Yb(q:Rat):(ofQ q).q=q:=by
 unfold GRat.q ofQ;rw [Jo,Jo];exact Rat.num_divInt_den q
def low(n d:Int):GRat:=ofQ (Rat.divInt n d)
theorem Jdt(n:Int):low n 0=⟨ofZ 0,ofZ 1⟩:=by
 unfold low ofQ;rw [Rat.divInt_zero];rfl
theorem Jc6(d:Int):low 0 d=⟨ofZ 0,ofZ 1⟩:=by
 unfold low ofQ;rw [Rat.zero_divInt];rfl
theorem Jfb{n d:Int}(hd:0 < d):low n d=⟨ofZ (n / (Int.gcd n d:Int)),ofZ (d / (Int.gcd n d:Int))⟩:=by
 unfold low ofQ;rw [Rat.num_divInt,Rat.den_divInt,if_neg (by omega),Int.gcd_comm,Int.sign_eq_one_of_pos hd,Int.one_mul]
 congr 2
 have:(d.natAbs:Int)=d:=by omega
 rw [← this];simp
theorem Jta{n d:Int}(hd:d=1):low n d=⟨ofZ n,ofZ d⟩:=by
 subst hd;rw [Jfb (by decide),Int.gcd_one_right];simp
theorem Jen{n d:Int}(hd:0 < d)(h:Int.gcd n d=1):low n d=⟨ofZ n,ofZ d⟩:=by
 rw [Jfb hd,h];simp
theorem Jax{a:GRat}(h:a.den.toZ=0):a.q=0:=by
 unfold GRat.q;rw [h,Rat.divInt_zero]
theorem Jz5{a b:GRat}(ha:a.den.toZ≠0)(hb:b.den.toZ≠0):a.q+b.q=Rat.divInt (a.num.toZ * b.den.toZ+b.num.toZ * a.den.toZ) (a.den.toZ * b.den.toZ):=Rat.divInt_add_divInt _ _ ha hb
theorem Jyk(a:GRat):Rat.divInt (-a.num.toZ) a.den.toZ= - a.q:=by
 unfold GRat.q;rw [Rat.neg_divInt]
def K5(q:Rat):Int:=q.num.sign
theorem Jrt(a:GRat):a.num.toZ.sign * a.den.toZ.sign=K5 a.q:=by
 unfold GRat.q K5;rw [Rat.num_divInt]
 generalize a.num.toZ=n
 generalize a.den.toZ=d
 rcases Int.lt_trichotomy d 0 with h | h | h
 ·rw [Int.sign_eq_neg_one_of_neg h];have hg:0 < Int.gcd d n:=Int.gcd_pos_of_ne_zero_left _ (by omega);have hdvd:(Int.gcd d n:Int) ∣ n:=Int.gcd_dvd_right _ _;obtain⟨k,hk⟩:=hdvd
  generalize Int.gcd d n=g at *
  subst hk;rw [show(-1:Int) * ((g:Int) * k)=(g:Int) * (-k) by rw [Int.mul_neg,Int.neg_mul,Int.one_mul],Int.mul_ediv_cancel_left _ (by omega),Int.sign_mul,Int.sign_neg,Int.sign_eq_one_of_pos (by omega)];omega
 ·subst h;simp
 ·rw [Int.sign_eq_one_of_pos h];have hg:0 < Int.gcd d n:=Int.gcd_pos_of_ne_zero_left _ (by omega);have hdvd:(Int.gcd d n:Int) ∣ n:=Int.gcd_dvd_right _ _;obtain⟨k,hk⟩:=hdvd
  generalize Int.gcd d n=g at *
  subst hk;rw [Int.one_mul,Int.mul_ediv_cancel_left _ (by omega),Int.sign_mul,Int.sign_eq_one_of_pos (show 0 < (g:Int) by omega)];omega
def qcmp(p q:Rat):Int:=K5 (p - q)
theorem Jbb{q:Rat}:K5 q≤0↔q≤0:=by
 unfold K5;have h:0≤(-q).num↔0≤ -q:=Rat.num_nonneg;rw [Rat.neg_num] at h;have h2:0≤ -q↔q≤0:=by
  constructor
  ·intro h;have:=Rat.neg_le_neg h;rwa [Rat.neg_neg,Rat.neg_zero] at this
  ·intro h;have:=Rat.neg_le_neg h;rwa [Rat.neg_zero] at this
 rw [← h2,← h]
 constructor
 ·intro hs
  rcases Int.lt_or_le 0 q.num with h3 | h3
  ·rw [Int.sign_eq_one_of_pos h3] at hs;omega
  ·omega
 ·intro hs
  rcases Int.lt_or_le q.num 0 with h3 | h3
  ·rw [Int.sign_eq_neg_one_of_neg h3];omega
  ·rw [show q.num=0 by omega];decide
end Go.Wf
namespace Go.Wf
open Go Go.Proofs Go.RowKit
section
variable {P:Program} {ops:Array Oper} {n:Nat} {Q:Post} {r:List Oper} {f:Fr} {w:World}
theorem Oy {d:Nat} {op:Op} {ty:TypeId} {pos:String} {after:Array Edge} {j:Nat} {b:Bool} (hlo:Nat.blt d n=true) (hy:Zl ops f j=none)
  (h:Sq P ops n Q r (updO f (some d) undef) w):
  Sq P ops n Q (⟨some d,op,ty,pos,after,some (j,b)⟩::r) f w:=⟨J9q hlo,by simp only [Region.wanted,hy];exact h⟩
end
section
variable {P:Program} {ρ:Operand→Value} {w:World} {K:Value→World→Prop} {Kp:List PanicEntry→World→Prop} {dst:Option Tmp} {ty:TypeId} {pos:String} {after:Array Edge} {gd:Option (Nat × Bool)} {X0 x y:Nat→Prop} {w0:Bs}
theorem J8s{x y z:Operand}{ts:Array TypeId}{k k' k'':IntKind}{a b c e:Int}(hx:ρ x= .int k a)(hy:ρ y= .int k' b)(hw:ρ z= .int k'' c)(hz:(if c > (if b > a then b else a) then c else(if b > a then b else a))=e)(h:K (.int k e) w):
  St P ρ ⟨dst,.call {callee:= .builtin .max,args:= #[x,y,z],argTypes:=ts},ty,pos,after,gd⟩ w K Kp:=by
 subst hz;refine J5d (v:= .int k (if c > (if b > a then b else a) then c else(if b > a then b else a))) ?_ h;simp [execOp,resolve,invoke,builtin,hx,hy,hw,Builtin.max_,Builtin.max2]
end
theorem vz {X:Nat→Prop} {w:World} {s1 s2 s3 s4:Value} (m:GExpr) (g1: -9223372036854775808≤m.op) (g2:m.op≤9223372036854775807) (g3:m.name.length≤maxLen)
  (h1:RS Zi X w s1 m.n) (h2:RS Je X w s2 m.c.num.mag) (h3:RS Je X w s3 m.c.den.mag) (h4:RS Jf X w s4 m.args):
  RV Jf X w (.agg #[.int .i64 m.op,s1,.bool m.c.num.neg,s2,.bool m.c.den.neg,s3,str m.name,s4]) m:=by
 have h:=Y5 (b:=m.c.num.neg) (d:=m.c.den.neg) g1 g2 g3 h1 h2 h3 h4
 cases m;exact h
theorem RV.args_max{X:Nat→Prop}{w:World}{v:Value}{a:GExpr}(h:RV Jf X w v a):a.args.length≤9223372036854775807:=by
 obtain⟨a1,c1,a2,c2,a3,c3,a4,c4,_,h'⟩:=J8e h;obtain⟨_,_,_,h1,h2⟩:=h'.args.len;have hml:maxLen=9223372036854775807:=rfl;omega
end Go.Wf
namespace Go.Proofs.YtjiojpmoleilgaaGreatDoor
open Go Go.Proofs Go.Wf Go.RowKit Go.ChangeShapes Go.WideShapes
theorem Jl8{α:Type}{p:Nat→α→Prop}:∀ (k:Nat) (h:∀ i,i < k→∃ x,p i x),∃ l:List α,l.length=k∧∀ i x,l[i]? =some x→p i x
 | 0,_=>⟨[],rfl,fun i x h=>by simp at h⟩
 | k+1,h=>by
  obtain⟨l,hl,hp⟩:=Jl8 k fun i hi=>h i (by omega);obtain⟨x,hx⟩:=h k (by omega);refine⟨l++[x],by simp [hl],fun i y hy=>?_⟩
  rcases J9w i l.length with h1 | h1
  ·rw [List.getElem?_append_left h1] at hy;exact hp i y hy
  ·rw [List.getElem?_append_right h1] at hy;have h2:i - l.length=0:=by
    have:=(List.getElem?_eq_some_iff.1 hy).1
    simp at this;omega
   rw [h2] at hy;simp at hy;subst hy;rw [show i=k by omega];exact hx
abbrev NX:Nat→Prop:=fun _=>False
section
variable {H:Type} {enc:TypeId × Value→H} {w:World} {base:Nat} {sp:Nat→Bool} {held:Bool}
theorem Jjn {α:Type} {T:Ty α} {P:Program} {t e:TypeId} (ht:P.underlying t=some (.slice e)) (hc:P.cellsOf e=T.sz) {fuel:Nat} {cs:List Value} {y:DataW H × List MemPlace}
  (h:DataW.trod enc P w base sp held fuel t cs=some y) (hel:∀ n,fuel=n+1→∀ cs y,DataW.trod enc P w base sp held n e cs=some y→∃ x,T.rd NX w cs x):
  ∃ v l,cs=[v]∧RS T NX w v l:=by
 rcases DataW.trod_slice ht h with ⟨rfl,_⟩ | ⟨a,len,cap,elems,rest,n,hn,rfl,_,hb,hl,hm,hlen,hi,_,_⟩
 ·exact⟨_,[],rfl,J8g⟩
 ·obtain⟨l,hll,hp⟩:=Jl8 (p:=fun i x=>∃ cs',T.rd NX w cs' x∧∀ j,j < T.sz→w.cell? ((a.add (i * T.sz)).add j)=cs'[j]?) len (by
   intro i hil;have h1:=hi i hil;rw [J9f (by omega),hc] at h1;obtain⟨cs',h2,h3⟩:=Option.bind_eq_some_iff.1 h1;obtain⟨_,_,h4⟩:=World.cells?_some h2;obtain⟨x,hx⟩:=hel n hn _ _ h3;exact⟨x,cs',hx,h4⟩)
  refine⟨_,l,rfl,some a,cap,by rw [hll],by omega,hm,?_⟩
  by_cases h0:l=[]
  ·exact .inl h0
  ·have hpos:0 < l.length:=List.length_pos_iff.2 h0;have hsp:a.spot=none:=by
    obtain⟨cs',h1,h2⟩:=hp 0 l[0] (J9f hpos);have h3:=h2 0 T.pos;rw [J9f (by rw [T.len h1];exact T.pos)] at h3;have h4:=World.cell?_spot h3;simpa [Addr.add] using h4
   obtain⟨b,o,s⟩:=a;have hsp:s=none:=hsp;subst hsp;refine .inr ⟨b,o,rfl,id,fun i x hx=>?_⟩
   obtain⟨cs',h1,h2⟩:=hp i x hx;refine⟨cs',h1,fun j u hu=>?_⟩
   have hj:j < T.sz:=by
    have:=(List.getElem?_eq_some_iff.1 hu).1
    rwa [T.len h1] at this
   have h3:=h2 j hj;rw [hu] at h3;rw [Addr.add_lit,Addr.add_lit] at h3;exact h3
theorem Jq5:Tryz.prog.cellsOf 3=1:=by kernel_rfl
theorem Jw2:Tryz.prog.cellsOf 4=1:=by kernel_rfl
theorem Jzq:Tryz.prog.cellsOf 9=1:=by kernel_rfl
theorem Jva:Tryz.prog.cellsOf 23=1:=by kernel_rfl
theorem Js2:Tryz.prog.cellsOf 24=1:=by kernel_rfl
theorem Jtq:Tryz.prog.cellsOf 29=1:=by kernel_rfl
theorem Jlk:Tryz.prog.cellsOf 26=2:=by kernel_rfl
theorem Jio:Tryz.prog.cellsOf 28=4:=by kernel_rfl
theorem Jlz:Tryz.prog.cellsOf 31=8:=by kernel_rfl
theorem Jpv:Tryz.prog.cellsOf 118=1:=by kernel_rfl
theorem und3:Tryz.prog.underlying 3=some (.int .i64):=by kernel_rfl
theorem und4:Tryz.prog.underlying 4=some .bool:=by kernel_rfl
theorem und9:Tryz.prog.underlying 9=some .string:=by kernel_rfl
theorem J05:Tryz.prog.underlying 118=some (.int .u32):=by kernel_rfl
theorem und23:Tryz.prog.underlying 23=some (.slice 3):=by kernel_rfl
theorem und24:Tryz.prog.underlying 24=some (.slice 118):=by kernel_rfl
theorem und29:Tryz.prog.underlying 29=some (.slice 31):=by kernel_rfl
theorem Joy{fuel:Nat}{cs:List Value}{y:DataW H × List MemPlace}(h:DataW.trod enc Tryz.prog w base sp held fuel 23 cs=some y):∃ v l,cs=[v]∧RS Zi NX w v l:=by
 refine Jjn und23 Jq5 h fun n _ cs y h=>?_
 obtain⟨z,rfl,_,hw⟩:=DataW.trod_int und3 h;exact⟨z,rfl,by simpa [Lit.wf,IntKind.min,IntKind.max,IntKind.signed,IntKind.bits] using hw⟩
theorem Jlh{fuel:Nat}{cs:List Value}{y:DataW H × List MemPlace}(h:DataW.trod enc Tryz.prog w base sp held fuel 24 cs=some y):∃ v l,cs=[v]∧RS Je NX w v l:=by
 refine Jjn und24 Jpv h fun n _ cs y h=>?_
 obtain⟨z,rfl,_,hw⟩:=DataW.trod_int J05 h;have hw:0≤z∧z≤4294967295:=by simpa [Lit.wf,IntKind.min,IntKind.max,IntKind.signed,IntKind.bits] using hw
 exact⟨z.toNat,by rw [show((z.toNat:Nat):Int)=z by omega],by omega⟩
theorem Jzk{l:List Value}(h:l.length=2):∃ a b,l=[a,b]:=by
 match l,h with
 | [a,b],_=>exact⟨a,b,rfl⟩
theorem Jwu{l:List Value}(h:l.length=4):∃ a b c d,l=[a,b,c,d]:=by
 match l,h with
 | [a,b,c,d],_=>exact⟨a,b,c,d,rfl⟩
theorem Jo7{l:List Value}(h:l.length=8):∃ a b c d e f g i,l=[a,b,c,d,e,f,g,i]:=by
 match l,h with
 | [a,b,c,d,e,f,g,i],_=>exact⟨a,b,c,d,e,f,g,i,rfl⟩
theorem Jko{fuel:Nat}{cs:List Value}{y:DataW H × List MemPlace}(h:DataW.trod enc Tryz.prog w base sp held fuel 26 cs=some y):∃ z,Jv.rd NX w cs z:=by
 obtain⟨xs,n,rfl,_,hlen,hxl,hf⟩:=DataW.trod_struct Tryz.underlying26 h;rw [Jlk] at hlen;obtain⟨a,b,rfl⟩:=Jzk hlen;have f0:DataW.trod enc Tryz.prog w base sp held n 4 ((List.drop 0 [a,b]).take (Tryz.prog.cellsOf 4))=xs[0]? :=hf 0 _ rfl;have f1:DataW.trod enc Tryz.prog w base sp held n 24 ((List.drop 1 [a,b]).take (Tryz.prog.cellsOf 24))=xs[1]? :=hf 1 _ rfl;rw [J9f (by rw [hxl];decide)] at f0 f1;rw [Jw2] at f0;rw [Js2] at f1;obtain⟨b',e0,_⟩:=DataW.trod_bool und4 f0;obtain⟨v,l,e1,h1⟩:=Jlh f1
 cases e0
 cases e1
 exact⟨⟨b',l⟩,_,rfl,h1⟩
theorem Jwr{fuel:Nat}{cs:List Value}{y:DataW H × List MemPlace}(h:DataW.trod enc Tryz.prog w base sp held fuel 28 cs=some y):∃ z,Yp.rd NX w cs z:=by
 obtain⟨xs,n,rfl,_,hlen,hxl,hf⟩:=DataW.trod_struct Tryz.underlying28 h;rw [Jio] at hlen;obtain⟨a,b,c,d,rfl⟩:=Jwu hlen;have f0:DataW.trod enc Tryz.prog w base sp held n 26 ((List.drop 0 [a,b,c,d]).take (Tryz.prog.cellsOf 26))=xs[0]? :=hf 0 _ rfl;have f1:DataW.trod enc Tryz.prog w base sp held n 26 ((List.drop 2 [a,b,c,d]).take (Tryz.prog.cellsOf 26))=xs[1]? :=hf 1 _ rfl;rw [J9f (by rw [hxl];decide)] at f0 f1;rw [Jlk] at f0 f1;obtain⟨z0,s0,e0,h0⟩:=Jko f0;obtain⟨z1,s1,e1,h1⟩:=Jko f1
 cases e0
 cases e1
 exact⟨⟨z0,z1⟩,_,_,rfl,h0,h1⟩
theorem Joe:∀ (fuel:Nat) (cs:List Value) (y:DataW H × List MemPlace),DataW.trod enc Tryz.prog w base sp held fuel 31 cs=some y→∃ e,Jf.rd NX w cs e:=by
 intro fuel
 induction fuel using Nat.strongRecOn with
 | ind fuel ih=>
 intro cs y h;obtain⟨xs,n,rfl,_,hlen,hxl,hf⟩:=DataW.trod_struct Tryz.underlying31 h;rw [Jlz] at hlen;obtain⟨c0,c1,c2,c3,c4,c5,c6,c7,rfl⟩:=Jo7 hlen;have f0:DataW.trod enc Tryz.prog w base sp held n 3 ((List.drop 0 [c0,c1,c2,c3,c4,c5,c6,c7]).take (Tryz.prog.cellsOf 3))=xs[0]? :=hf 0 _ rfl;have f1:DataW.trod enc Tryz.prog w base sp held n 23 ((List.drop 1 [c0,c1,c2,c3,c4,c5,c6,c7]).take (Tryz.prog.cellsOf 23))=xs[1]? :=hf 1 _ rfl;have f2:DataW.trod enc Tryz.prog w base sp held n 28 ((List.drop 2 [c0,c1,c2,c3,c4,c5,c6,c7]).take (Tryz.prog.cellsOf 28))=xs[2]? :=hf 2 _ rfl;have f3:DataW.trod enc Tryz.prog w base sp held n 9 ((List.drop 6 [c0,c1,c2,c3,c4,c5,c6,c7]).take (Tryz.prog.cellsOf 9))=xs[3]? :=hf 3 _ rfl;have f4:DataW.trod enc Tryz.prog w base sp held n 29 ((List.drop 7 [c0,c1,c2,c3,c4,c5,c6,c7]).take (Tryz.prog.cellsOf 29))=xs[4]? :=hf 4 _ rfl;rw [J9f (by rw [hxl];decide)] at f0 f1 f2 f3 f4;rw [Jq5] at f0;rw [Jva] at f1;rw [Jio] at f2;rw [Jzq] at f3;rw [Jtq] at f4;obtain⟨op,e0,_,hw⟩:=DataW.trod_int und3 f0;obtain⟨v1,ns,e1,h1⟩:=Joy f1;obtain⟨r,s0,s1,e2,h2,h3⟩:=Jwr f2;obtain⟨s,e3,_,hs⟩:=DataW.trod_string und9 f3;obtain⟨v4,l,e4,h4⟩:=Jjn (T:=Jf) und29 Jlz f4 fun m hm cs y h=>ih m (by omega) cs y h;have hw: -9223372036854775808≤op∧op≤9223372036854775807:=by simpa [Lit.wf,IntKind.min,IntKind.max,IntKind.signed,IntKind.bits] using hw
 cases e0
 cases e1
 cases e2
 cases e3
 cases e4
 refine⟨.mk op ns r s.data.toList l,yi.2 ⟨_,_,_,_,?_,hw.1,hw.2,?_,h1,h2,h3,h4⟩⟩
 ·obtain⟨⟨d⟩⟩:=s;rfl
 ·obtain⟨⟨d⟩⟩:=s;exact hs
theorem Jzu{r:Reach}{b0:Nat}{v:Value}{d:DataW H}{ps:List MemPlace}(hv:Value.okWide Tryz.prog w r b0 31 v)(hd:DataW.Trod enc Tryz.prog w base sp held 31 v d ps):
  ∃ e,RV Jf NX w v e:=by
 obtain⟨cs,rfl,hcs⟩:=okWide_struct Tryz.underlying31 hv;obtain⟨fuel,hf⟩:=hd;have hc:(Value.agg cs).cells=cs:=by rfl
 rw [hc] at hf;obtain⟨e,he⟩:=Joe fuel _ _ hf;exact⟨e,cs.toList,by simp,he⟩
end
end Go.Proofs.YtjiojpmoleilgaaGreatDoor
namespace Go.Wf
open Go
theorem Jeq:ofZ 1=⟨false,[1]⟩:=by
 unfold ofZ;rw [show(1:Int).natAbs=1 from rfl,Jb0 (by decide) (by decide)];rfl
theorem Jsp{m:List Nat}(h:((m.length:Nat):Int)=1):m=[m.getD 0 0]:=by
 match m,h with
 | [d],_=>rfl
 | [],h=>simp at h
 | _::_::_,h=>simp at h;omega
theorem J1g{a:GInt}(h1:((a.mag.length:Nat):Int)=1)(h2:((a.mag.getD 0 0:Nat):Int)=1):(!a.neg)=decide (a=ofZ 1):=by
 have e:=Jsp h1;have h2:a.mag.getD 0 0=1:=by omega
 rw [h2] at e;obtain⟨n,m⟩:=a;have e:m=[1]:=e;subst e;rw [Jeq]
 cases n <;> simp
theorem Jzb{a:GInt}(h2:¬ ((a.mag.getD 0 0:Nat):Int)=1):false=decide (a=ofZ 1):=by
 refine(J83 fun e=>h2 ?_).symm
 rw [e,Jeq];rfl
theorem Jyx{a:GInt}(h1:¬ ((a.mag.length:Nat):Int)=1):false=decide (a=ofZ 1):=by
 refine(J83 fun e=>h1 ?_).symm
 rw [e,Jeq];rfl
theorem Kb{z:Int}:ofZ z=ofZ 1↔z=1:=⟨fun h=>Jmi h,fun h=>by rw [h]⟩
theorem J3{a:GInt}(sa:Jn a.mag):(ofZ a.toZ).mag.length≤a.mag.length:=by
 rw [Vh,Qh];exact Jz (Zp _ sa)
theorem Z7(z:Int):(ofZ (-z)).mag=(ofZ z).mag:=by rw [Vh,Vh,Int.natAbs_neg]
theorem X8{a b:Nat}(h:a≤b):(digs a).length≤(digs b).length:=Jz (J91 h (Qk b))
theorem Jch{y z:Int}(h:y.natAbs≤z.natAbs):(ofZ y).mag.length≤(ofZ z).mag.length:=X8 h
theorem Zh{z:Int}:(ofZ z).mag.length=0↔z=0:=by
 rw [Vh,List.length_eq_zero_iff,X1,Int.natAbs_eq_zero]
theorem Y7(z:Int):val (ofZ z).mag=z.natAbs:=Jt _
theorem Je2{n d:Int}(hd:d≠0):(ofZ (Int.gcd n d:Int)).mag.length≤(ofZ d).mag.length:=
 Jch (by
  have:Int.gcd n d ∣ d.natAbs:=Nat.gcd_dvd_right _ _
  have h2:=Nat.le_of_dvd (by omega) this;simpa using h2)
theorem Jrw{n d:Int}(hd:d≠0):((Int.gcd n d:Nat):Int)≠0:=by
 have:=Int.gcd_pos_of_ne_zero_right n hd
 omega
theorem Jc0(n d:Int):n % ((Int.gcd n d:Nat):Int)=0:=Int.emod_eq_zero_of_dvd (Int.gcd_dvd_left _ _)
theorem Jdb(n d:Int):d % ((Int.gcd n d:Nat):Int)=0:=Int.emod_eq_zero_of_dvd (Int.gcd_dvd_right _ _)
theorem Jda{n d:Int}(h:d=0∨n=0):(⟨⟨false,[]⟩,ofZ 1⟩:GRat)=ofQ (Rat.divInt n d):=by
 rcases h with rfl | rfl
 ·exact(Jdt n).symm
 ·exact(Jc6 d).symm
theorem Ql{n d:Int}(h:d=1):(⟨ofZ n,ofZ d⟩:GRat)=ofQ (Rat.divInt n d):=(Jta h).symm
theorem z8{n d:Int}(hd:0 < d)(h:((Int.gcd n d:Nat):Int)=1):(⟨ofZ n,ofZ d⟩:GRat)=ofQ (Rat.divInt n d):=(Jen hd (by omega)).symm
theorem qv{n d:Int}(hd:0 < d):(⟨ofZ (n / ((Int.gcd n d:Nat):Int)),ofZ (d / ((Int.gcd n d:Nat):Int))⟩:GRat)=ofQ (Rat.divInt n d):=(Jfb hd).symm
theorem qw(n d:Int):Rat.divInt (-n) (-d)=Rat.divInt n d:=Rat.neg_divInt_neg n d
theorem Jca(n d:Int):(Rat.divInt n d).num.natAbs≤n.natAbs:=by
 rw [Rat.num_divInt];refine J86 (Int.natAbs_ediv_le_natAbs _ _) ?_;rw [Int.natAbs_mul]
 have:d.sign.natAbs≤1:=by
  rcases Int.lt_trichotomy d 0 with h | h | h
  ·rw [Int.sign_eq_neg_one_of_neg h];decide
  ·rw [h];decide
  ·rw [Int.sign_eq_one_of_pos h];decide
 calc d.sign.natAbs * n.natAbs≤1 * n.natAbs:=Nat.mul_le_mul_right _ this
  _=n.natAbs:=Nat.one_mul _
theorem Jb3(n d:Int):(Rat.divInt n d).den≤max 1 d.natAbs:=by
 rw [Rat.den_divInt]
 split
 ·exact Nat.le_max_left _ _
 ·exact J86 (Nat.div_le_self _ _) (Nat.le_max_right _ _)
theorem Jdc:(digs 1).length=1:=by rw [Jb0 (by decide) (by decide)];rfl
theorem Jab(n d:Int):(ofQ (Rat.divInt n d)).num.mag.length≤(ofZ n).mag.length:=Jch (Jca n d)
theorem vn(n d:Int):(ofQ (Rat.divInt n d)).den.mag.length≤(ofZ d).mag.length+1:=by
 have h:=Jb3 n d
 show(digs _).length≤(digs d.natAbs).length+1
 have e:((Rat.divInt n d).den:Int).natAbs=(Rat.divInt n d).den:=by simp
 rw [e];refine J86 (X8 h) ?_
 rcases Nat.le_total 1 d.natAbs with h1 | h1
 ·rw [Nat.max_eq_right h1];omega
 ·rw [Nat.max_eq_left h1,Jdc];omega
theorem Kd{a:GRat}(sn:Jn a.num.mag):(ofQ a.q).num.mag.length≤a.num.mag.length:=J86 (Jab _ _) (J3 sn)
theorem Ke{a:GRat}(sd:Jn a.den.mag):(ofQ a.q).den.mag.length≤a.den.mag.length+1:=by
 have h1:=vn a.num.toZ a.den.toZ;have h2:=J3 sd;unfold GRat.q;omega
theorem K2(q:Rat):(ofQ (-q)).num.mag=(ofQ q).num.mag:=by
 show(ofZ (-q).num).mag=(ofZ q.num).mag
 rw [Rat.neg_num,Z7]
theorem Qt(q:Rat):(ofQ (-q)).den.mag=(ofQ q).den.mag:=by
 show(ofZ ((-q).den:Int)).mag=(ofZ (q.den:Int)).mag
 rw [Rat.neg_den]
theorem Jfp(n:Int)(d:Nat)(h:d≠0):(Rat.normalize n d h).num.natAbs≤n.natAbs:=by
 rw [Rat.normalize_eq];exact Int.natAbs_ediv_le_natAbs _ _
theorem Je3(n:Int)(d:Nat)(h:d≠0):(Rat.normalize n d h).den≤d:=by
 rw [Rat.normalize_eq];exact Nat.div_le_self _ _
theorem Jgm(v:Nat):v < 4294967296 ^ (digs v).length:=Qk v
theorem Jcm(x y:Nat):(digs (x * y)).length≤(digs x).length+(digs y).length:=by
 refine Jz ?_;rw [Nat.pow_add];exact Nat.mul_lt_mul'' (Jgm x) (Jgm y)
theorem Jhw(x y:Nat):(digs (x+y)).length≤(digs x).length+(digs y).length+1:=by
 refine Jz ?_;have h1:=Jgm x;have h2:=Jgm y;have h3:4294967296 ^ (digs x).length≤4294967296 ^ ((digs x).length+(digs y).length):=J9v (by omega) (by omega);have h4:4294967296 ^ (digs y).length≤4294967296 ^ ((digs x).length+(digs y).length):=J9v (by omega) (by omega);rw [J9p];omega
theorem Jec(p q:Rat):(ofQ (p+q)).num.mag.length≤(ofQ p).num.mag.length+(ofQ q).den.mag.length+(ofQ q).num.mag.length+(ofQ p).den.mag.length+1:=by
 show(digs (p+q).num.natAbs).length≤(digs p.num.natAbs).length+(digs ((q.den:Int)).natAbs).length+(digs q.num.natAbs).length+(digs ((p.den:Int)).natAbs).length+1
 have h:(p+q).num.natAbs≤p.num.natAbs * q.den+q.num.natAbs * p.den:=by
  rw [Rat.add_def];refine J86 (Jfp _ _ _) ?_;refine J86 (Int.natAbs_add_le _ _) ?_;rw [Int.natAbs_mul,Int.natAbs_mul];simp
 refine J86 (X8 h) ?_;have h1:=Jhw (p.num.natAbs * q.den) (q.num.natAbs * p.den);have h2:=Jcm p.num.natAbs q.den;have h3:=Jcm q.num.natAbs p.den;simp only [Int.natAbs_natCast];omega
theorem Jfg(p q:Rat):(ofQ (p+q)).den.mag.length≤(ofQ p).den.mag.length+(ofQ q).den.mag.length:=by
 show(digs (((p+q).den:Int)).natAbs).length≤(digs ((p.den:Int)).natAbs).length+(digs ((q.den:Int)).natAbs).length
 simp only [Int.natAbs_natCast];have h:(p+q).den≤p.den * q.den:=by rw [Rat.add_def];exact Je3 _ _ _
 exact J86 (X8 h) (Jcm _ _)
theorem vl{x y:Int}:(ofZ (x * y)).mag.length≤(ofZ x).mag.length+(ofZ y).mag.length:=by
 show(digs (x * y).natAbs).length≤(digs x.natAbs).length+(digs y.natAbs).length
 rw [Int.natAbs_mul];exact Jcm _ _
theorem Jna{x y:Int}:(ofZ (x+y)).mag.length≤(ofZ x).mag.length+(ofZ y).mag.length+1:=by
 show(digs (x+y).natAbs).length≤(digs x.natAbs).length+(digs y.natAbs).length+1
 exact J86 (X8 (Int.natAbs_add_le _ _)) (Jhw _ _)
theorem Juu(z:Int): -1≤z.sign∧z.sign≤1:=by
 rcases Int.lt_trichotomy z 0 with h | h | h
 ·rw [Int.sign_eq_neg_one_of_neg h];omega
 ·rw [h];simp
 ·rw [Int.sign_eq_one_of_pos h];omega
theorem vm(x y:Int): -9223372036854775808≤x.sign * y.sign∧x.sign * y.sign≤9223372036854775807:=by
 rw [← Int.sign_mul]
 have:=Juu (x * y)
 omega
theorem Jww{a b:GRat}(h:a.den.toZ.sign=0):ofQ b.q=ofQ (a.q+b.q):=by
 rw [Jax (Int.sign_eq_zero_iff_zero.1 h),Rat.zero_add]
theorem Jw3{a b:GRat}(h:b.den.toZ.sign=0):ofQ a.q=ofQ (a.q+b.q):=by
 rw [Jax (a:=b) (Int.sign_eq_zero_iff_zero.1 h),Rat.add_zero]
theorem Jwt{a b:GRat}(ha:a.den=ofZ 1)(hb:b.den=ofZ 1):(⟨ofZ (a.num.toZ+b.num.toZ),ofZ 1⟩:GRat)=ofQ (a.q+b.q):=by
 have ea:a.den.toZ=1:=by rw [ha,Jo]
 have eb:b.den.toZ=1:=by rw [hb,Jo]
 rw [Jz5 (by omega) (by omega),ea,eb,Int.mul_one,Int.mul_one,Int.mul_one];exact Ql rfl
theorem Jhu{a b:GRat}(ha:¬ a.den.toZ.sign=0)(hb:¬ b.den.toZ.sign=0):ofQ (Rat.divInt (a.num.toZ * b.den.toZ+b.num.toZ * a.den.toZ) (a.den.toZ * b.den.toZ))=ofQ (a.q+b.q):=by
 rw [Jz5 (fun e=>ha (Int.sign_eq_zero_iff_zero.2 e)) (fun e=>hb (Int.sign_eq_zero_iff_zero.2 e))]
theorem Jjg{a:GInt}(sa:Jn a.mag){b:Bool}(hb:b=(a.neg && decide (0 < (trim a.mag).length))):(⟨b,trim a.mag⟩:GInt)=ofZ a.toZ:=by
 subst hb;have h:=Ji5 (b:=a.neg) sa;unfold mkSg at h;exact h
theorem Jbg{x y:Nat}:cmpN x y= -1↔x < y:=by
 unfold cmpN
 split
 ·exact⟨fun _=>by assumption,fun _=>rfl⟩
 ·split <;> constructor <;> intro h <;> omega
theorem Jnc{a b:List Nat}(ha:trim a=a)(hb:trim b=b)(sa:Jn a)(sb:Jn b)(h:¬ a.length=b.length):decide (((a.length:Nat):Int) < ((b.length:Nat):Int))=decide (val a < val b):=by
 rcases J9w a.length b.length with hl | hl
 ·rw [J84 (by omega),J84 (Yy hb sa hl)]
 ·have:=Yy ha sb (by omega)
  rw [J83 (by omega),J83 (by omega)]
theorem Jjc{a b:List Nat}{j:Nat}(sa:Jn a)(sb:Jn b)(hl:j≤a.length)(hab:a.length=b.length)(h0:0 < j)(h:¬ ((a.getD (j - 1) 0:Nat):Int)=((b.getD (j - 1) 0:Nat):Int))(heq:a.drop j=b.drop j):
  decide (((a.getD (j - 1) 0:Nat):Int) < ((b.getD (j - 1) 0:Nat):Int))=decide (val a < val b):=by
 rcases J9w (a.getD (j - 1) 0) (b.getD (j - 1) 0) with hd | hd
 ·have:=(Jjk sa sb hl hab h0 hd heq).symm
  rw [J84 (by omega),J84 (Jbg.1 this)]
 ·have:=(Jr6 sa sb hl hab h0 (by omega) (by omega) heq).symm
  rw [J83 (by omega),J83 (fun h=>by have h2:=Jbg.2 h;omega)]
theorem Jph{a b:List Nat}{j:Nat}(h:j=0)(heq:a.drop j=b.drop j):false=decide (val a < val b):=by
 have:=Jqo h heq
 exact(J83 fun h=>by have h2:=Jbg.2 h;omega).symm
theorem yn{a b p:List Nat}{i c s:Nat}(hp:p.length=i)(hv:val p+4294967296 ^ i * c=val (a.take i)+val (b.take i))(hs:s=c+a.getD i 0+b.getD i 0):
  val (p++[s % 4294967296])+4294967296 ^ (i+1) * (s / 4294967296)=val (a.take (i+1))+val (b.take (i+1)):=by
 rw [Z3,Jr,Jr,hp,J9p,J9x,Nat.add_assoc,← J9r,Nat.mod_add_div,hs,J9r,J9r];omega
theorem Jjo{a b p:List Nat}{i c:Nat}(sp:Jn p)(hp:p.length=i)(hi:i=max a.length b.length)(hc:c≤1)(hv:val p+4294967296 ^ i * c=val (a.take i)+val (b.take i)):
  p++[c % 4294967296]=Jq (max a.length b.length+1) (val a+val b):=by
 rw [Nat.mod_eq_of_lt (by omega)];rw [J9o (by omega),J9o (by omega)] at hv;refine Y0 (Jx sp (by omega)) (by rw [J8z,hp,hi];rfl) ?_;rw [Z3,hp,hv]
theorem Q0{a b p:List Nat}{i c c' s d:Nat}(hp:p.length=i)(hv:val p+val (b.take i)=val (a.take i)+4294967296 ^ i * c)(hs:s=c+b.getD i 0)(hd:d+s=a.getD i 0+4294967296 * c'):
  val (p++[d])+val (b.take (i+1))=val (a.take (i+1))+4294967296 ^ (i+1) * c':=by
 rw [Z3,Jr,Jr,hp,J9p,J9x];have h:=J87 (4294967296 ^ i * ·) hd;simp only [hs,J9r] at h;omega
theorem Jji{x y:GInt}(h:x.neg=y.neg):Jl x.neg (val x.mag+val y.mag)=x.toZ+y.toZ:=by
 have:=Jgi (a:=x) (b:=y.mag) h
 rw [h,this];rfl
theorem Jto{x y:GInt}(h:¬ x.neg=y.neg)(hle:val x.mag≤val y.mag):Jl y.neg (val y.mag - val x.mag)=x.toZ+y.toZ:=by
 rw [Jrj (a:=x) h hle];rfl
theorem Jwe{x y:GInt}(h:¬ x.neg=y.neg)(hle:val y.mag≤val x.mag):Jl x.neg (val x.mag - val y.mag)=x.toZ+y.toZ:=by
 rw [Jsn (a:=x) h hle];rfl
theorem Jcz{x:Nat}(h:0 < x):blen x=blen (x / 2)+1:=by
 rcases Nat.eq_zero_or_pos (x / 2) with e | e
 ·have:x=1:=by omega
  subst this;rfl
 ·refine xo h ?_ ?_
  ·have:=Q9 (x / 2)
   rw [J9p];omega
  ·have:=vi e
   have hp:=zu e;rw [J9p];have e2:2 ^ blen (x / 2)=2 ^ (blen (x / 2) - 1) * 2:=by rw [← J9p];congr 1;omega
   omega
theorem Jg3{d:List Nat}(hd:trim d=d)(sd:Jn d)(hne:d.length≠0):blen (val d)=32 * (d.length - 1)+blen (d.getD (d.length - 1) 0):=by
 have hne':d≠[]:=fun e=>hne (by rw [e];rfl);have ht:=Jfm hd sd hne';have h2:=Jr d (d.length - 1);rw [show d.length - 1+1=d.length by omega,List.take_length] at h2;have h1:=Qo (k:=d.length - 1) sd (by omega);have hb:=Q9 (d.getD (d.length - 1) 0);have hg:=vi ht;have hp:=zu ht
 generalize d.getD (d.length - 1) 0=t at *
 generalize val (d.take (d.length - 1))=l at *
 have e:(4294967296:Nat) ^ (d.length - 1)=2 ^ (32 * (d.length - 1)):=by rw [Nat.pow_mul]
 rw [e] at h1 h2;rw [h2];have hP:=Nat.two_pow_pos (32 * (d.length - 1))
 generalize 32 * (d.length - 1)=k at *
 refine xo ?_ ?_ ?_
 ·have:=Nat.mul_pos hP ht;omega
 ·rw [Nat.pow_add]
  have:=J9y (2 ^ k) (show t+1≤2 ^ blen t by omega)
  rw [J9r] at this;omega
 ·rw [Nat.pow_add];have e2:2 ^ blen t=2 ^ (blen t - 1) * 2:=by rw [← J9p];congr 1;omega
  have:=J9y (2 ^ k) hg
  rw [e2,← J9x];omega
theorem Jsu{m:List Nat}{j:Nat}(sm:Jn m)(hl:m.length≤2)(hj:0 < j):val (m.drop j) < 4294967296:=by
 have h:=Zp (m.drop j) (yf sm j);rw [J9a] at h
 have:4294967296 ^ (m.length - j)≤4294967296 ^ 1:=J9v (by omega) (by omega)
 omega
theorem Jo8{n:Nat}(h:n < 18446744073709551616):trim [n % 4294967296,n / 4294967296 % 4294967296]=digs n:=by
 refine yd (Zu (J9c _ (by decide)) (Zu (J9c _ (by decide)) J6)) ?_;simp only [val]
 have:n / 4294967296 < 4294967296:=by omega
 rw [Nat.mod_eq_of_lt this];omega
theorem Jhz{a p:List Nat}{i c n x:Nat}(hp:p.length=n / 32+i)(hv:val p+4294967296 ^ p.length * c=val (a.take i) * 2 ^ n)(hx:x=a.getD i 0 * 2 ^ (n % 32)+c):
  val (p++[x % 4294967296])+4294967296 ^ (p++[x % 4294967296]).length * (x / 4294967296)=val (a.take (i+1)) * 2 ^ n:=by
 rw [Z3,J8z,J82,Jr,J9p,J9x,Nat.add_assoc,← J9r,Nat.mod_add_div,hx,J9r,Nat.add_mul,← hv];have e:4294967296 ^ p.length * (a.getD i 0 * 2 ^ (n % 32))=4294967296 ^ i * a.getD i 0 * 2 ^ n:=by
  rw [hp];have e1:(4294967296:Nat) ^ (n / 32+i)=2 ^ (32 * (n / 32)) * 4294967296 ^ i:=by rw [Nat.pow_add,Nat.pow_mul]
  have e2:(2:Nat) ^ n=2 ^ (32 * (n / 32)) * 2 ^ (n % 32):=by rw [← Nat.pow_add];congr 1;omega
  rw [e1,e2]
  generalize (2:Nat) ^ (32 * (n / 32))=u
  generalize (4294967296:Nat) ^ i=v
  generalize (2:Nat) ^ (n % 32)=z
  generalize a.getD i 0=t
  rw [J9x,J9x,Nat.mul_left_comm t,Nat.mul_left_comm u]
 rw [e];omega
theorem Jmb{a p:List Nat}{i c n:Nat}(sp:Jn p)(hi:a.length≤i)(hc:c < 4294967296)(hv:val p+4294967296 ^ p.length * c=val (a.take i) * 2 ^ n):trim (p++[c % 4294967296])=digs (val a * 2 ^ n):=by
 rw [Nat.mod_eq_of_lt hc];rw [J9o hi] at hv;exact yd (Jx sp hc) (by rw [Z3,hv])
theorem Jlb{x s c:Nat}(hx:x < 4294967296)(hs:s < 32)(hc:c < 4294967296):x * 2 ^ s+c < 18446744073709551616∧(x * 2 ^ s+c) / 4294967296 < 4294967296:=by
 have h:=zg hs;have h2:x * 2 ^ s≤4294967295 * 2147483648:=Nat.mul_le_mul (by omega) h;omega
theorem Ja0(n:Nat):Jq n 0=List.replicate n 0:=(Y0 (Kt n) (J88 ..) (Jd9 n)).symm
theorem Jne{n v i:Nat}(hv:v < 4294967296 ^ n)(hi:i < n):(Jq n v).getD i 0=v / 4294967296 ^ i % 4294967296:=by
 have h:=zb (J0 n v) i;rw [Zd n v hv] at h;have hd:=Vr (a:=Jq n v) (j:=i+1) (by omega) (by rw [Jg];omega);rw [Nat.add_sub_cancel] at hd;rw [h,hd]
 have:=Jj (J0 n v) i
 omega
theorem Jcy(k:Nat):(2:Nat) ^ k=4294967296 ^ (k / 32) * 2 ^ (k % 32):=by
 have e:(4294967296:Nat) ^ (k / 32)=2 ^ (32 * (k / 32)):=by rw [Nat.pow_mul]
 rw [e,← Nat.pow_add];congr 1;omega
theorem yw{n q k:Nat}(hk:k / 32 < n)(hd:q % 2 ^ (k+1)=0)(hq:q < 4294967296 ^ n):(Jq n q).getD (k / 32) 0+2 ^ (k % 32) < 4294967296:=by
 rw [Jne hq hk];obtain⟨m,hm⟩:=Nat.dvd_of_mod_eq_zero hd;have hP:0 < (4294967296:Nat) ^ (k / 32):=Nat.pow_pos (by decide);have e1:(2:Nat) ^ (k+1)=4294967296 ^ (k / 32) * 2 ^ (k % 32+1):=by rw [J9p,Jcy k,J9p,J9x]
 have e2:q / 4294967296 ^ (k / 32)=2 ^ (k % 32+1) * m:=by
  rw [hm,e1,J9x,Nat.mul_div_cancel_left _ hP]
 rw [e2];have hr:k % 32 < 32:=J9c _ (by decide);have e3:(4294967296:Nat)=2 ^ (k % 32+1) * 2 ^ (31 - k % 32):=by
  rw [← Nat.pow_add,show k % 32+1+(31 - k % 32)=32 by omega]
 have h1:2 ^ (k % 32+1) * m % 4294967296=2 ^ (k % 32+1) * (m % 2 ^ (31 - k % 32)):=by
  conv=>lhs;rw [e3]
  rw [Nat.mul_mod_mul_left]
 rw [h1];have h2:=J9c m (Nat.two_pow_pos (31 - k % 32));have h3:=J9y (2 ^ (k % 32+1)) (show m % 2 ^ (31 - k % 32)+1≤2 ^ (31 - k % 32) by omega);rw [← e3,J9r,Nat.mul_one] at h3;have h4:(2:Nat) ^ (k % 32+1)=2 ^ (k % 32) * 2:=J9p ..;have h5:=Nat.two_pow_pos (k % 32);omega
theorem Jd1{n q k:Nat}(hk:k / 32 < n)(hd:q % 2 ^ (k+1)=0)(hq:q+2 ^ k < 4294967296 ^ n):(Jq n q).set (k / 32) ((Jq n q).getD (k / 32) 0+2 ^ (k % 32))=Jq n (q+2 ^ k):=by
 have hq':q < 4294967296 ^ n:=by have:=Nat.two_pow_pos k;omega
 refine Y0 (Vc (J0 _ _) (yw hk hd hq') _) (by rw [List.length_set,Jg]) ?_;have h:=xg (l:=Jq n q) (k:=k / 32) (d:=(Jq n q).getD (k / 32) 0+2 ^ (k % 32)) (by rw [Jg];exact hk);rw [Zd n q hq',J9r,← Jcy] at h;omega
def dvQ(a b:List Nat):List Nat:=if a.length≤2∧b.length≤2 then digs (val a / val b) else if blen (val a) < blen (val b) then [] else Jq ((blen (val a) - blen (val b)) / 32+1) (val a / val b)
theorem xi{x y:Nat}(hy:0 < y):x / y < 2 ^ (blen x - blen y+1):=by
 rcases Nat.eq_zero_or_pos (x / y) with e | e
 ·rw [e];exact Nat.two_pow_pos _
 ·rw [Nat.div_lt_iff_lt_mul hy];have h1:=Q9 x;have h2:=vi hy;have h3:=zu hy;have h4:blen y≤blen x:=by
   refine Nat.le_of_not_lt fun hh=>?_
   have:2 ^ blen x≤2 ^ (blen y - 1):=J9v (by omega) (by omega)
   have:=Nat.div_eq_of_lt (show x < y by omega)
   omega
  have h5:=J9y (2 ^ (blen x - blen y+1)) h2;rw [← Nat.pow_add,show blen x - blen y+1+(blen y - 1)=blen x by omega] at h5;omega
theorem Jbp{x y:Nat}(hy:0 < y):x / y < 4294967296 ^ ((blen x - blen y) / 32+1):=by
 have h:=xi (x:=x) hy;have e:(4294967296:Nat) ^ ((blen x - blen y) / 32+1)=2 ^ (32 * ((blen x - blen y) / 32+1)):=by rw [Nat.pow_mul]
 rw [e];exact J85 h (J9v (by omega) (by omega))
theorem yg{x y:Nat}(hy:0 < y)(h:blen x < blen y):x < y:=by
 have h1:=Q9 x;have h2:=vi hy
 have:2 ^ blen x≤2 ^ (blen y - 1):=J9v (by omega) (by omega)
 omega
theorem Jiw{a b:List Nat}:Jn (dvQ a b):=by
 unfold dvQ
 split
 ·exact Zx _
 ·split
  ·exact J6
  ·exact J0 _ _
theorem Jex{a b:List Nat}(hb:0 < val b):val (dvQ a b)=val a / val b:=by
 unfold dvQ
 split
 ·exact Jt _
 ·split
  ·rename_i h;rw [Nat.div_eq_of_lt (yg hb h)];rfl
  ·exact Zd _ _ (Jbp hb)
theorem V0{a:List Nat}(sa:Jn a):blen (val a)≤32 * a.length:=by
 have h:=Zp a sa;have e:(4294967296:Nat) ^ a.length=2 ^ (32 * a.length):=by rw [Nat.pow_mul]
 rw [e] at h;exact Jb8 h
theorem Jv0{a b:List Nat}(sa:Jn a):(dvQ a b).length≤a.length+1:=by
 unfold dvQ
 split
 ·have:=digs_div_len' sa (val b)
  omega
 ·split
  ·simp
  ·rw [Jg]
   have:=V0 sa
   omega
where digs_div_len' {a:List Nat} (sa:Jn a) (n:Nat):(digs (val a / n)).length≤a.length:=Jz (J91 (Nat.div_le_self _ _) (Zp a sa))
theorem Jdr{a b:List Nat}(sa:Jn a){k:Nat}(hk:k≤blen (val a) - blen (val b))(hle:blen (val b)≤blen (val a)):(digs (val b * 2 ^ k)).length≤a.length:=by
 refine Jz ?_;have h1:=Q9 (val b);have h2:=V0 sa;have e:(4294967296:Nat) ^ a.length=2 ^ (32 * a.length):=by rw [Nat.pow_mul]
 rw [e];have h3:=Nat.mul_lt_mul_of_pos_right h1 (Nat.two_pow_pos k);rw [← Nat.pow_add] at h3;exact J85 h3 (J9v (by omega) (by omega))
theorem dv0{a b:List Nat}(hb:0 < val b)(hle:blen (val b)≤blen (val a)):val a < val b * 2 ^ (blen (val a) - blen (val b)+1):=by
 have h:=xi (x:=val a) hb;rw [Nat.div_lt_iff_lt_mul hb,J90] at h;exact h
theorem Jkn{A B R q k:Nat}(hv:A=q * B+R)(hlt:R < B * 2 ^ (k+1))(hd:q % 2 ^ (k+1)=0)(h:B * 2 ^ k≤R):
  A=(q+2 ^ k) * B+(R - B * 2 ^ k)∧R - B * 2 ^ k < B * 2 ^ k∧(q+2 ^ k) % 2 ^ k=0:=by
 refine⟨?_,?_,?_⟩
 ·rw [Nat.add_mul,J90 (2 ^ k)];omega
 ·rw [J9p,← J9x] at hlt;omega
 ·obtain⟨m,hm⟩:=Nat.dvd_of_mod_eq_zero hd;rw [hm,J9p,J9x,Nat.add_mod_right,Nat.mul_mod_right]
theorem Jq8{q k:Nat}(hd:q % 2 ^ (k+1)=0):q % 2 ^ k=0:=by
 obtain⟨m,hm⟩:=Nat.dvd_of_mod_eq_zero hd;rw [hm,J9p,J9x,Nat.mul_mod_right]
theorem Jhc{A B R q k n:Nat}(hB:0 < B)(hv:A=q * B+R)(h:B * 2 ^ k≤R)(hq:A / B < n):q+2 ^ k < n:=by
 refine J91 ?_ hq;rw [Nat.le_div_iff_mul_le hB,Nat.add_mul,J90 (2 ^ k)];omega
theorem Jbd{A B R q:Nat}(hv:A=q * B+R)(hlt:R < B * 2 ^ 0):q=A / B∧R=A % B:=by
 rw [Nat.pow_zero,Nat.mul_one] at hlt;have hB:0 < B:=by omega
 rw [hv,J90,Nat.mul_add_div hB,Nat.div_eq_of_lt hlt,Nat.mul_add_mod,Nat.mod_eq_of_lt hlt];exact⟨rfl,rfl⟩
theorem Jhq{r:Nat}(h:r < 32):IntKind.u32.wrap ((1:Int) * 2 ^ min ((r:Nat):Int).toNat IntKind.u32.bits)=((2 ^ r:Nat):Int):=by
 have hp:=zg h;rw [Int.toNat_natCast,Nat.min_eq_left (by simp [IntKind.bits];omega),Int.one_mul];have e:(2:Int) ^ r=((2 ^ r:Nat):Int):=by simp
 rw [e]
 generalize (2:Nat) ^ r=z at *
 rw [IntWalk.u32_in _ (by omega)]
theorem K9{z:Int}(h:z≠0):0 < val (ofZ z).mag:=by rw [Y7];omega
theorem Ju6{z:Int}(h:z≠0):(ofZ z).mag≠[]:=fun e=>h (Zh.1 (by rw [e];rfl))
theorem Jye{b:GInt}(h:val b.mag≠0):b.toZ≠0:=fun e=>h (qm.1 e)
theorem Jpj{m:Nat}{y:Int}(h:y≠0):(digs (m % val (ofZ y).mag)).length≤(ofZ y).mag.length:=by
 rw [Vh,Jt];exact X8 (Nat.le_of_lt (J9c _ (by omega)))
theorem Jmv{n:Nat}:(ofZ (Jl false n)).mag.length=0↔n=0:=by
 rw [Zh,Yv];omega
theorem Jsh{x y:Int}(hy:y≠0)(hx:(ofZ x).neg=true)(hr:val (ofZ x).mag % val (ofZ y).mag≠0):
  Jl (!(ofZ y).neg) (val (ofZ x).mag / val (ofZ y).mag+1)=x / y∧(y.natAbs:Int) - ((val (ofZ x).mag % val (ofZ y).mag:Nat):Int)=x % y:=by
 have h:=Jbt (a:=ofZ x) (b:=ofZ y) (by have:=K9 hy;omega) hx hr;have h3:=J9c (val (ofZ x).mag) (K9 hy);rw [hx,Jo,Jo] at h;refine⟨?_,?_⟩
 ·rw [← h.1];cases (ofZ y).neg <;> rfl
 ·rw [← h.2];rw [Y7,Y7] at *;omega
theorem Jhj{x y:Int}(hy:y≠0)(h:(ofZ x).neg=false∨val (ofZ x).mag % val (ofZ y).mag=0):
  Jl ((ofZ x).neg != (ofZ y).neg) (val (ofZ x).mag / val (ofZ y).mag)=x / y∧((val (ofZ x).mag % val (ofZ y).mag:Nat):Int)=x % y:=by
 have h:=zw (a:=ofZ x) (b:=ofZ y) (by have:=K9 hy;omega) h
 rwa [Jo,Jo] at h
theorem Jcq{x y:Int}(hx:0≤x)(hy:0≤y):Int.gcd y (x % y)=Int.gcd x y:=by
 obtain⟨n,rfl⟩:=Int.eq_ofNat_of_zero_le hx;obtain⟨m,rfl⟩:=Int.eq_ofNat_of_zero_le hy;rw [← Int.natCast_emod,Int.gcd_natCast_natCast,Int.gcd_natCast_natCast,Nat.gcd_comm m,Nat.gcd_comm n,← Nat.gcd_rec]
theorem Jjb(x y:Int):Int.gcd ((x.natAbs:Nat):Int) ((y.natAbs:Nat):Int)=Int.gcd x y:=by
 unfold Int.gcd;rw [Int.natAbs_natCast,Int.natAbs_natCast]
theorem vd(z:Int):(ofZ ((z.natAbs:Nat):Int)).mag=(ofZ z).mag:=by rw [Vh,Vh,Int.natAbs_natCast]
theorem Jhs{x y:Int}{g:Nat}(hx:0≤x)(hg:Int.gcd x y=g)(h:(ofZ y).mag.length=0):x=(g:Int):=by
 rw [← hg,Zh.1 h,Int.gcd_zero_right];omega
theorem vo{x y:Int}(hy:0≤y)(h:(ofZ y).mag.length≠0):(x % y).natAbs < y.natAbs:=by
 have h0:y≠0:=fun e=>h (Zh.2 e);have h1:=Int.emod_nonneg x h0;have h2:=Int.emod_lt_of_pos x (show 0 < y by omega);omega
theorem Jk9{y:Int}(h:(ofZ y).mag.length≠0):val (ofZ y).mag≠0:=by
 rw [Y7];intro e;exact h (Zh.2 (by omega))
theorem Jry{x y:Int}(h:(ofZ y).mag.length≠0):0≤x % y:=Int.emod_nonneg x fun e=>h (Zh.2 e)
theorem Jcn{x y:Int}(h:(ofZ y).mag.length≠0):(ofZ (x % y)).mag.length≤(ofZ y).mag.length:=by
 have h0:y≠0:=fun e=>h (Zh.2 e);have h1:=Int.emod_nonneg x h0;have h2:=Int.emod_lt x h0;refine Jch ?_;omega
theorem Ja4{n:Nat}(h:n < 18446744073709551616):val [n % 4294967296,n / 4294967296 % 4294967296]=n:=by
 simp [val];omega
theorem Joz{a b:GInt}(h:(a.neg != b.neg)=true):false=decide (a=b):=by
 refine(J83 ?_).symm
 rintro rfl;simp at h
theorem Jox{a b:GInt}(h:¬ ((a.mag.length:Nat):Int)=((b.mag.length:Nat):Int)):false=decide (a=b):=by
 refine(J83 ?_).symm
 rintro rfl;exact h rfl
theorem Jpx{a b:GInt}{i:Nat}(h:¬ ((a.mag.getD i 0:Nat):Int)=((b.mag.getD i 0:Nat):Int)):false=decide (a=b):=by
 refine(J83 ?_).symm
 rintro rfl;exact h rfl
theorem Jp9{a b:GInt}{i:Nat}(h:(a.neg != b.neg)=false)(hl:((a.mag.length:Nat):Int)=((b.mag.length:Nat):Int))(hi:¬ (i:Int) < ((a.mag.length:Nat):Int))(he:a.mag.take i=b.mag.take i):true=decide (a=b):=by
 refine(J84 ?_).symm
 obtain⟨an,am⟩:=a;obtain⟨bn,bm⟩:=b;rw [J9o (by omega),J9o (by simp only at *;omega)] at he;simp only at *;rw [he,show an=bn by cases an <;> cases bn <;> simp_all]
theorem Jwv{α:Type}{a b:List α}{d:α}{i:Nat}(ha:i < a.length)(hb:i < b.length)(he:a.take i=b.take i)(h:a.getD i d=b.getD i d):a.take (i+1)=b.take (i+1):=by
 rw [List.take_add_one,List.take_add_one,he];rw [J9d,J9d,J9f ha,J9f hb] at h;rw [J9f ha,J9f hb];simp only [Option.getD_some] at h;rw [h]
theorem Jvt{n d:Int}(h:d.sign=0):ofQ (Rat.divInt 0 1)=ofQ (Rat.divInt n d):=by
 rw [Int.sign_eq_zero_iff_zero.1 h,Rat.divInt_zero,Rat.zero_divInt]
theorem J00{n d:Int}(h:d.sign < 0):(⟨ofZ (n / -((Int.gcd n d:Nat):Int)),ofZ (d / -((Int.gcd n d:Nat):Int))⟩:GRat)=ofQ (Rat.divInt n d):=by
 have hd:d < 0:=Int.sign_neg_iff.1 h;have h1:=qv (n:= -n) (d:= -d) (by omega);rw [qw] at h1;rw [← h1,Int.gcd_neg,Int.neg_gcd,Int.ediv_neg,Int.ediv_neg,Int.neg_ediv_of_dvd (Int.gcd_dvd_left ..),Int.neg_ediv_of_dvd (Int.gcd_dvd_right ..)]
theorem Jqt{n d:Int}(h0:¬ d.sign=0)(h:¬ d.sign < 0):0 < d:=by
 have:=mt Int.sign_neg_iff.2 h
 have:d≠0:=fun e=>h0 (by rw [e];rfl)
 omega
theorem Jyz{n d:Int}(h:ofZ (-((Int.gcd n d:Nat):Int))=ofZ 1):False:=by
 have:=Jmi h;omega
theorem xo_ne{n d:Int}(h0:¬ d.sign=0):Int.gcd n d≠0:=by
 intro e
 have:=(Int.gcd_eq_zero_iff.1 e).2
 exact h0 (by rw [this];rfl)
theorem Jx1{n d:Int}(h0:¬ d.sign=0):(ofZ ((Int.gcd n d:Nat):Int)).mag.length≤(ofZ d).mag.length:=Je2 fun e=>h0 (by rw [e];rfl)
section
variable {α:Type} {f:α→α→Int} {a b:List α} {d:α} {i:Nat}
end
mutual
def Yd:GExpr→Bool
 | .mk _ n c s l=>decide (n.length≤80) && decide (c.num.mag.length≤8) && decide (c.den.mag.length≤8) && decide (s.length≤100) && xn l
def xn:List GExpr→Bool
 | []=>true
 | a::l=>Yd a && xn l
end
theorem vw:∀ {l:List GExpr},xn l=true↔∀ i,i < l.length→Yd (l.getD i default)=true
 | []=>by simp [xn]
 | a::l=>by
  rw [xn,Bool.and_eq_true,vw (l:=l)]
  constructor
  ·rintro⟨h1,h2⟩ i hi
   cases i with
   | zero=>exact h1
   | succ i=>exact h2 i (by simp at hi;omega)
  ·intro h;exact⟨h 0 (by simp),fun i hi=>h (i+1) (by simp;omega)⟩
theorem Ka{a:GExpr}:Yd a=true↔a.n.length≤80∧a.c.num.mag.length≤8∧a.c.den.mag.length≤8∧a.name.length≤100∧∀ i,i < a.args.length→Yd (a.args.getD i default)=true:=by
 cases a
 rw [Yd,← vw];simp only [Bool.and_eq_true,decide_eq_true_eq,GExpr.n,GExpr.c,GExpr.name,GExpr.args,and_assoc]
theorem Vb{a:GExpr}{i:Nat}(h:Yd a=true)(hi:i < a.args.length):Yd (a.args.getD i default)=true:=(Ka.1 h).2.2.2.2 i hi
theorem Qi{a:GExpr}{i:Nat}(hi:i < a.args.length):SizeOf.sizeOf (a.args.getD i default) < SizeOf.sizeOf a:=by
 have h1:a.args.getD i default ∈ a.args:=by
  rw [J9d,J9f hi];exact List.getElem_mem hi
 have h2:=List.sizeOf_lt_of_mem h1;refine Nat.lt_trans h2 ?_
 cases a
 simp only [GExpr.args];simp;omega
theorem xc{a:GExpr}(h:(80:Int) < (a.n.length:Nat)∨(8:Int) < (a.c.num.mag.length:Nat)∨(8:Int) < (a.c.den.mag.length:Nat)∨(100:Int) < (a.name.length:Nat)):false=Yd a:=by
 refine(Bool.eq_false_iff.2 fun hp=>?_).symm
 have:=Ka.1 hp
 omega
theorem Jet{a:GExpr}{i:Nat}(hi:i < a.args.length)(h:Yd (a.args.getD i default)=false):false=Yd a:=by
 refine(Bool.eq_false_iff.2 fun hp=>?_).symm
 rw [Vb hp hi] at h;cases h
theorem Jme {a:GExpr} {i:Nat} (h1:¬ (80:Int) < (a.n.length:Nat)) (h2:¬ (8:Int) < (a.c.num.mag.length:Nat)) (h3:¬ (8:Int) < (a.c.den.mag.length:Nat)) (h4:¬ (100:Int) < (a.name.length:Nat)) (hi:¬ (i:Int) < (a.args.length:Nat))
  (h:∀ j,j < i→Yd (a.args.getD j default)=true):true=Yd a:=
 (Ka.2 ⟨by omega,by omega,by omega,by omega,fun j hj=>h j (by omega)⟩).symm
theorem Xh{p:Nat→Prop}{i:Nat}(h:∀ j,j < i→p j)(hi:p i):∀ j,j < i+1→p j:=fun j hj=>by
 rcases J9w j i with h2 | h2
 ·exact h j h2
 ·rw [show j=i by omega];exact hi
section
variable {a b:GExpr}
end
def Y6(n:Nat):Bool:=decide ((97≤n∧n≤122)∨(65≤n∧n≤90))
def Yn(n:Nat):Bool:=decide (48≤n∧n≤57)
theorem Je0{n:Nat}(h:(97≤n∧n≤122)∨(65≤n∧n≤90)):true=Y6 n:=(J84 h).symm
theorem qa{n:Nat}(h:¬ ((97≤n∧n≤122)∨(65≤n∧n≤90))):false=Y6 n:=(J83 h).symm
theorem yc{n:Nat}{p:Prop}[Decidable p](h:p↔((97≤n∧n≤122)∨(65≤n∧n≤90))):decide p=Y6 n:=decide_eq_decide.2 h
theorem Jej{n:Nat}(h:¬ (48≤n∧n≤57)):false=Yn n:=(J83 h).symm
theorem Je8{n:Nat}{p:Prop}[Decidable p](h:p↔(48≤n∧n≤57)):decide p=Yn n:=decide_eq_decide.2 h
def okB(c:UInt8):Bool:=Y6 c.toNat || Yn c.toNat
def digB(c:UInt8):Bool:=Yn c.toNat
def Xn:List (List UInt8):=[[71],[101,116,97],[116,104,101,116,97],[68,101,108,116,97],[106],[110,101,119,102,111,114,109],[86],[85],[84],[116,119,105,115,116],[115,101,114,114,101],[98,114,97,99,107,101,116]]
def J2(s:List UInt8):Bool:=decide (1 < s.length) && decide (s.getD 0 0=69) && (s.drop 1).all digB
def Z1(s:List UInt8):Bool:=decide (s ∈ Xn) || J2 s
def Kc(s:List UInt8):Bool:=decide (1≤s.length) && decide (s.length≤20) && Y6 (s.getD 0 0).toNat && !Z1 s && s.all okB
theorem zy{p:UInt8→Bool}{s:List UInt8}:s.all p=true↔∀ j,j < s.length→p (s.getD j 0)=true:=by
 rw [List.all_eq_true]
 constructor
 ·intro h j hj;rw [J9d,J9f hj];exact h _ (List.getElem_mem hj)
 ·intro h c hc;obtain⟨j,hj,rfl⟩:=List.mem_iff_getElem.1 hc
  have:=h j hj
  rwa [J9d,J9f hj] at this
theorem Jm9{p:UInt8→Bool}{s:List UInt8}{j:Nat}(hj:j < s.length)(h:p (s.getD j 0)=false):s.all p=false:=
 Bool.eq_false_iff.2 fun ha=>by rw [zy.1 ha j hj] at h;cases h
theorem Jaz(s:List UInt8)(j:Nat):(s.drop 1).getD j 0=s.getD (j+1) 0:=by
 rw [J9d,J9d,List.getElem?_drop,Nat.add_comm]
theorem Jar{n:Nat}(h:128≤n):Y6 n=false:=J83 (by omega)
theorem qd{n:Nat}(h:128≤n):Yn n=false:=J83 (by omega)
theorem Jyp{n:Nat}{C:Prop}(h:128≤n)(h2:Y6 n=true):C:=by rw [Jar h] at h2;cases h2
theorem Jq4{n:Nat}{C:Prop}(h:128≤n)(h2:Yn n=true):C:=by rw [qd h] at h2;cases h2
theorem Jrd{c:UInt8}(h:Y6 c.toNat=true):okB c=true:=by unfold okB;rw [h];rfl
theorem Jkd{c:UInt8}(h:Yn c.toNat=true):okB c=true:=by unfold okB;rw [h,Bool.or_true]
theorem Jo3{c:UInt8}(h:Y6 c.toNat=false)(h2:Yn c.toNat=false):okB c=false:=by unfold okB;rw [h,h2];rfl
theorem J03{c:UInt8}(h:128≤c.toNat):okB c=false:=Jo3 (Jar h) (qd h)
section
variable {s:List UInt8}
theorem Jo2(h:((s.length:Nat):Int) < 1):false=Kc s:=by unfold Kc;rw [J83 (by omega)];rfl
theorem Jk6(h:(20:Int) < ((s.length:Nat):Int)):false=Kc s:=by unfold Kc;rw [J83 (show ¬ s.length≤20 by omega)];simp
theorem Jz1(h:s=[]):false=Kc s:=by rw [h];rfl
theorem Jhd(h:Y6 (s.getD 0 0).toNat=false):false=Kc s:=by unfold Kc;rw [h];simp
theorem Jlg{i:Nat}(h:Y6 (s.getD i 0).toNat=false)(h0:((i:Nat):Int)=0):false=Kc s:=by
 have e:i=0:=by omega
 subst e;exact Jhd h
theorem Jgd{j:Nat}(hj:j < s.length)(h:okB (s.getD j 0)=false):false=Kc s:=by unfold Kc;rw [Jm9 hj h];simp
theorem Jq1(h:Z1 s=true):false=Kc s:=by unfold Kc;rw [h];simp
theorem Xc(h:s ∈ Xn):false=Kc s:=Jq1 (by unfold Z1;rw [J84 h];rfl)
theorem Jrv(h1:¬ ((s.length:Nat):Int) < 1)(h2:¬ (20:Int) < ((s.length:Nat):Int))(h3:Y6 (s.getD 0 0).toNat=true)(h4:Z1 s=false)(h5:∀ j,j < s.length→okB (s.getD j 0)=true):true=Kc s:=by
 unfold Kc;rw [J84 (show 1≤s.length by omega),J84 (show s.length≤20 by omega),h3,h4,zy.2 h5];rfl
theorem wt_no{j:Nat}(h1:1≤j)(hj:j < s.length)(h:Yn (s.getD j 0).toNat=false):false=J2 s:=by
 unfold J2;rw [Jm9 (p:=digB) (j:=j - 1) (by rw [J9a];omega) (by rw [Jaz,show j - 1+1=j by omega];exact h)];simp
theorem Jx8{j:Nat}(h:∀ i,1≤i→i < j→Yn (s.getD i 0).toNat=true)(hj:s.length≤j):(s.drop 1).all digB=true:=
 zy.2 fun i hi=>by rw [Jaz];exact h _ (by omega) (by rw [J9a] at hi;omega)
theorem J1b(h:¬ (1:Int) < ((s.length:Nat):Int)):false=J2 s:=by unfold J2;rw [J83 (by omega)];rfl
theorem Jy2{j:Nat}(h0:(1:Int) < ((s.length:Nat):Int))(h:∀ i,1≤i→i < j→Yn (s.getD i 0).toNat=true)(hj:¬ (j:Int) < ((s.length:Nat):Int)):decide ((((s.getD 0 0).toNat:Nat):Int)=69)=J2 s:=by
 unfold J2;rw [J84 (show 1 < s.length by omega),Jx8 h (by omega),Bool.true_and,Bool.and_true];refine decide_eq_decide.2 ⟨fun e=>?_,fun e=>by rw [e];rfl⟩;exact UInt8.toNat_inj.1 (by have:(69:UInt8).toNat=69:=rfl;omega)
theorem Jsq{i:Nat}(h:∀ j,j < i→¬ Xn.getD j []=s)(hi:¬ (i:Int) < 12):J2 s=Z1 s:=by
 unfold Z1;rw [J83,Bool.false_or];intro hm;obtain⟨j,hj,e⟩:=List.mem_iff_getElem.1 hm;refine h j ?_ ?_
 ·have:Xn.length=12:=rfl
  omega
 ·rw [J9d,J9f hj];exact e
theorem Js3{i:Nat}(hi:i < 12)(h:Xn.getD i []=s):true=Z1 s:=by
 unfold Z1;rw [J84,Bool.true_or];rw [← h,J9d,J9f (show i < Xn.length from hi)];exact List.getElem_mem _
theorem J0u{j:Nat}(hj:j < s.length)(h:Yn (s.getD j 0).toNat=false):false=(s.all digB && decide (¬ s=[])):=by rw [Jm9 (p:=digB) hj h];rfl
theorem dg_hi{j:Nat}(hj:j < s.length)(h:128≤(s.getD j 0).toNat):false=(s.all digB && decide (¬ s=[])):=J0u hj (qd h)
theorem Jqd{j:Nat}(h:∀ i,i < j→Yn (s.getD i 0).toNat=true)(hj:s.length≤j){b:Bool}(hb:b=decide (¬ s=[])):b=(s.all digB && decide (¬ s=[])):=by
 rw [zy.2 fun i hi=>h i (by omega),Bool.true_and];exact hb
theorem nm_E(h0:¬ s=[])(hw:s ∉ Xn)(h2:¬ (20:Int) < ((s.length:Nat):Int))(h3:Y6 (s.getD 0 0).toNat=true)(h5:∀ j,j < s.length→okB (s.getD j 0)=true)(h:¬ (((s.getD 0 0).toNat:Nat):Int)=69):true=Kc s:=by
 have hp:=List.length_pos_iff.2 h0;refine Jrv (by omega) h2 h3 ?_ h5;unfold Z1 J2;rw [J83 hw,J83 (show ¬ s.getD 0 0=69 from fun e=>h (by rw [e];rfl))];simp
theorem nm_D(h0:¬ s=[])(hw:s ∉ Xn)(h2:¬ (20:Int) < ((s.length:Nat):Int))(h3:Y6 (s.getD 0 0).toNat=true)(h5:∀ j,j < s.length→okB (s.getD j 0)=true)(h:(((s.getD 0 0).toNat:Nat):Int)=69):
  (!((s.drop 1).all digB && decide (¬ s.drop 1=[])))=Kc s:=by
 have hp:=List.length_pos_iff.2 h0;have he:s.getD 0 0=69:=UInt8.toNat_inj.1 (by have:(69:UInt8).toNat=69:=rfl;omega);have hd:decide (¬ s.drop 1=[])=decide (1 < s.length):=decide_eq_decide.2 (by
  have h1:¬ s.drop 1=[]↔0 < (s.drop 1).length:=(List.length_pos_iff (l:=s.drop 1)).symm;rw [h1,J9a];omega)
 have hr:Z1 s=((s.drop 1).all digB && decide (1 < s.length)):=by
  unfold Z1 J2;rw [J83 hw,he];simp [Bool.and_comm]
 unfold Kc;rw [J84 (show 1≤s.length by omega),J84 (show s.length≤20 by omega),h3,zy.2 h5,hr,hd];simp
end
mutual
def cntE:GExpr→Nat
 | .mk _ _ _ _ l=>1+cntL l
def cntL:List GExpr→Nat
 | []=>0
 | a::l=>cntE a+cntL l
end
mutual
def lvlE:GExpr→Nat
 | .mk _ _ _ _ l=>lvlL l+1
def lvlL:List GExpr→Nat
 | []=>0
 | a::l=>max (lvlE a) (lvlL l)
end
theorem K3(a:GExpr):cntE a=1+cntL a.args:=by cases a;rw [cntE];rfl
theorem Ky(a:GExpr):lvlE a=lvlL a.args+1:=by cases a;rw [lvlE];rfl
theorem zk:∀ l m:List GExpr,cntL (l++m)=cntL l+cntL m
 | [],m=>by simp [cntL]
 | a::l,m=>by rw [List.cons_append,cntL,cntL,zk l m];omega
theorem zi:∀ l m:List GExpr,lvlL (l++m)=max (lvlL l) (lvlL m)
 | [],m=>by simp [lvlL]
 | a::l,m=>by rw [List.cons_append,lvlL,lvlL,zi l m];omega
theorem V1{l:List GExpr}{i:Nat}(h:i < l.length):l.take (i+1)=l.take i++[l.getD i default]:=by
 rw [List.take_succ_eq_append_getElem h,J9d,J9f h];rfl
theorem Jn3{l:List GExpr}{i:Nat}(h:i < l.length):cntL (l.take (i+1))=cntL (l.take i)+cntE (l.getD i default):=by
 rw [V1 h,zk,cntL,cntL];omega
theorem Jny{l:List GExpr}{i:Nat}(h:i < l.length):lvlL (l.take (i+1))=max (lvlL (l.take i)) (lvlE (l.getD i default)):=by
 rw [V1 h,zi,lvlL,lvlL];omega
theorem Jdf(l:List GExpr)(i:Nat):cntL l=cntL (l.take i)+cntL (l.drop i):=by
 rw [← zk,List.take_append_drop]
theorem Jka(l:List GExpr)(i:Nat):lvlL l=max (lvlL (l.take i)) (lvlL (l.drop i)):=by
 rw [← zi,List.take_append_drop]
theorem Zt{l:List GExpr}{i:Nat}(h:i < l.length):l.drop i=l.getD i default::l.drop (i+1):=by
 rw [List.drop_eq_getElem_cons h,J9d,J9f h];rfl
theorem Ja3{l:List GExpr}{i:Nat}(h:i < l.length):cntE (l.getD i default)≤cntL l:=by
 rw [Jdf l i,Zt h,cntL];omega
theorem J0p{l:List GExpr}{i:Nat}(h:i < l.length):lvlE (l.getD i default)≤lvlL l:=by
 rw [Jka l i,Zt h,lvlL];omega
theorem Jpl(a:GExpr):1≤cntE a:=by rw [K3];omega
theorem Jk4:∀ l:List GExpr,l.length≤cntL l
 | []=>J9h _
 | a::l=>by rw [J80,cntL];have:=Jk4 l;have:=Jpl a;omega
theorem Jwd:∀ n:Nat,(∀ a:GExpr,SizeOf.sizeOf a < n→lvlE a≤cntE a)∧∀ l:List GExpr,SizeOf.sizeOf l < n→lvlL l≤cntL l:=by
 intro n
 induction n with
 | zero=>exact⟨fun _ h=>absurd h (J9m _),fun _ h=>absurd h (J9m _)⟩
 | succ n ih=>
  refine⟨fun a h=>?_,fun l h=>?_⟩
  ·cases a with
   | mk o q c s l=>
    rw [lvlE,cntE]
    have:=ih.2 l (by simp at h;omega)
    omega
  ·cases l with
   | nil=>exact J9g _
   | cons a l=>
    rw [lvlL,cntL];simp at h
    have:=ih.1 a (by omega)
    have:=ih.2 l (by omega)
    omega
theorem J04(a:GExpr):lvlE a≤cntE a:=(Jwd _).1 a (Nat.lt_succ_self _)
theorem zq{l:List GExpr}{i:Nat}(h:l.length≤i):l.take i=l:=J9o h
theorem Jtf{a:GExpr}{i m z:Nat}(h:i < a.args.length)(hz:z=min (1+cntL (a.args.take i)) (m+1))(hm:z≤m):
  z+min (cntE (a.args.getD i default)) (m - z+1)=min (1+cntL (a.args.take (i+1))) (m+1):=by
 rw [Jn3 h];omega
theorem Jvj{a:GExpr}{i m z:Nat}(h:a.args.length≤i)(hz:z=min (1+cntL (a.args.take i)) (m+1)):z=min (cntE a) (m+1):=by
 rw [hz,zq h,K3]
theorem Jty{a:GExpr}{i m z:Nat}(hm:m < z)(hz:z=min (1+cntL (a.args.take i)) (m+1)):z=min (cntE a) (m+1):=by
 have:=Jdf a.args i
 rw [K3];omega
theorem Js4{a:GExpr}{i z:Nat}(h:i < a.args.length)(hz:z=lvlL (a.args.take i)):max z (lvlE (a.args.getD i default))=lvlL (a.args.take (i+1)):=by rw [Jny h,hz]
theorem Jr5{a:GExpr}{i z:Nat}(h:a.args.length≤i)(hz:z=lvlL (a.args.take i)):z+1=lvlE a:=by rw [hz,zq h,Ky]
mutual
def pszE:GExpr→Nat→Nat→Nat × Bool
 | .mk _ _ _ _ l,k,v=>if 60 < k+1∨12 < v then(k+1,false) else pszL l (k+1) (v+1)
def pszL:List GExpr→Nat→Nat→Nat × Bool
 | [],k,_=>(k,true)
 | a::l,k,v=>if(pszE a k v).2=true then pszL l (pszE a k v).1 v else(pszE a k v)
end
theorem Jbc(a:GExpr)(k v:Nat):pszE a k v=if 60 < k+1∨12 < v then(k+1,false) else pszL a.args (k+1) (v+1):=by cases a;rw [pszE];rfl
theorem Jnq{l:List GExpr}{i k v:Nat}{R:Nat × Bool}(h:i < l.length)(hR:pszL (l.drop i) k v=R)(hb:(pszE (l.getD i default) k v).2=true):pszL (l.drop (i+1)) (pszE (l.getD i default) k v).1 v=R:=by
 rw [← hR,Zt h,pszL,if_pos hb]
theorem Jn1{l:List GExpr}{i k v:Nat}{R:Nat × Bool}(h:i < l.length)(hR:pszL (l.drop i) k v=R)(hb:(pszE (l.getD i default) k v).2=false):pszE (l.getD i default) k v=R:=by
 rw [← hR,Zt h,pszL,if_neg (by rw [hb];simp)]
theorem Juh{l:List GExpr}{i k v:Nat}{R:Nat × Bool}(h:l.length≤i)(hR:pszL (l.drop i) k v=R):(k,true)=R:=by
 rw [← hR,J9s h,pszL]
theorem Jg4:∀ n:Nat,(∀ a:GExpr,SizeOf.sizeOf a < n→∀ k v,k≤60→(pszE a k v).2=decide (k+cntE a≤60∧v+lvlE a≤13)∧((pszE a k v).2=true→(pszE a k v).1=k+cntE a))∧
  ∀ l:List GExpr,SizeOf.sizeOf l < n→∀ k v,k≤60→v≤13→(pszL l k v).2=decide (k+cntL l≤60∧v+lvlL l≤13)∧((pszL l k v).2=true→(pszL l k v).1=k+cntL l):=by
 intro n
 induction n with
 | zero=>exact⟨fun _ h=>absurd h (J9m _),fun _ h=>absurd h (J9m _)⟩
 | succ n ih=>
  refine⟨fun a h k v hk=>?_,fun l h k v hk hv=>?_⟩
  ·rw [Jbc,K3,Ky]
   split
   ·rename_i hc
    refine⟨(J83 (by omega)).symm,fun h=>by cases h⟩
   ·rename_i hc
    obtain⟨h1,h2⟩:=ih.2 a.args (by cases a;simp [GExpr.args] at h ⊢;omega) (k+1) (v+1) (by omega) (by omega);refine⟨?_,fun hb=>by rw [h2 hb];omega⟩;rw [h1];exact decide_eq_decide.2 (by omega)
  ·cases l with
   | nil=>
    rw [pszL,cntL,lvlL];exact⟨(J84 (by omega)).symm,fun _=>rfl⟩
   | cons a l=>
    simp at h;obtain⟨h1,h2⟩:=ih.1 a (by omega) k v hk;rw [pszL,cntL,lvlL]
    by_cases hb:(pszE a k v).2=true
    ·rw [if_pos hb];have hb':=hb;rw [h1] at hb';have hd:=of_decide_eq_true hb';obtain⟨h3,h4⟩:=ih.2 l (by omega) (pszE a k v).1 v (by rw [h2 hb];omega) hv;refine⟨?_,fun hc=>by rw [h4 hc,h2 hb];omega⟩;rw [h3,h2 hb];exact decide_eq_decide.2 (by omega)
    ·rw [if_neg hb];refine⟨?_,fun hc=>absurd hc hb⟩;rw [h1] at hb ⊢;have hd:¬ (k+cntE a≤60∧v+lvlE a≤13):=fun e=>hb (J84 e);rw [J83 hd]
     exact(J83 (by omega)).symm
theorem Jim(a:GExpr):(pszE a 0 1).2=decide (cntE a≤60∧lvlE a≤12):=by
 rw [((Jg4 _).1 a (Nat.lt_succ_self _) 0 1 (by omega)).1];exact decide_eq_decide.2 (by omega)
def cA(n:Int):Int:=if n=1∨n=6∨n=7∨n=8 then 0 else if n=2 then 1 else if n=3∨n=9 then 4 else if n=4 then 2 else if n=5 then 2 else if n=10∨n=11 then 0 else if n=12∨n=13∨n=14∨n=15∨n=16 then 1 else if n=17 then 0 else 1
def cB(n:Int):Int:=if n=1∨n=6∨n=7∨n=8 then 0 else if n=2 then 1 else if n=3∨n=9 then 4 else if n=4 then 41 else if n=5 then 65 else if n=10∨n=11 then 0 else if n=12∨n=13∨n=14∨n=15∨n=16 then 1 else if n=17 then 0 else 1
def cC(n:Int):Int:=if 1≤n∧n≤9 then 0 else if n=10∨n=11 then 2 else if 12≤n∧n≤17 then 1 else 2
def cD(n:Int):Int:=if 1≤n∧n≤9 then 0 else if n=10∨n=11 then 60 else if 12≤n∧n≤17 then 1 else 2
def lA(n:Int):Int:=if n=12 then -200 else if n=13∨n=14∨n=15 then 1 else if n=18 then 0 else if n=2 then 0 else -1000000
def lB(n:Int):Int:=if n=12 then 200 else if n=13∨n=14∨n=15 then 1000 else if n=18 then 6 else 1000000
def sA(n:Int):Int:=if 1≤n∧n≤18 then cA n else 0
def sB(n:Int):Int:=if 1≤n∧n≤18 then cB n else 0
def sC(n:Int):Int:=if n=10∨n=11 then -1 else if 1≤n∧n≤18 then cC n else 0
def okOp(n:Int):Bool:=decide (1≤n∧n≤18)
theorem Ku{a b c a' b' c':Int}(h1:a=a')(h2:b=b')(h3:c=c'):(Value.agg #[.int .i64 a,.int .i64 b,.int .i64 c])= .agg #[.int .i64 a',.int .i64 b',.int .i64 c']:=by rw [h1,h2,h3]
structure cntOk (a:GExpr):Prop where
 o1:1≤a.op
 o2:a.op≤18
 n1:cA a.op≤((a.n.length:Nat):Int)
 n2:((a.n.length:Nat):Int)≤cB a.op
 a1:cC a.op≤((a.args.length:Nat):Int)
 a2:((a.args.length:Nat):Int)≤cD a.op
structure nameOk (a:GExpr):Prop where
 e:decide (a.op=8)=Kc a.name
 s:a.op=8∨a.name=[]
 c:a.op=1∨K5 a.c.q=0
def Jb2(a:GExpr):Prop:=∀ i,i < a.n.length→lA a.op≤a.n.getD i 0∧a.n.getD i 0≤lB a.op
open Classical in
def Kx(a:GExpr):Int:=if cntOk a∧nameOk a then if Jb2 a then 0 else 2 else 3
mutual
def errE:GExpr→Int
 | .mk o n c s l=>if Kx (.mk o n c s l)=0 then errL l else Kx (.mk o n c s l)
def errL:List GExpr→Int
 | []=>0
 | a::l=>if errE a=0 then errL l else errE a
end
theorem yo(a:GExpr):errE a=if Kx a=0 then errL a.args else Kx a:=by cases a;rw [errE];rfl
section
variable {a:GExpr}
theorem Q2(h:¬ cntOk a):3=Kx a:=by unfold Kx;rw [if_neg fun e=>h e.1]
theorem Xv(h:¬ nameOk a):3=Kx a:=by unfold Kx;rw [if_neg fun e=>h e.2]
theorem Jgb(h1:cntOk a)(h2:nameOk a){i:Nat}(hi:i < a.n.length)(h:a.n.getD i 0 < lA a.op∨lB a.op < a.n.getD i 0):2=Kx a:=by
 unfold Kx;rw [if_pos ⟨h1,h2⟩,if_neg fun e=>by have:=e i hi;omega]
theorem J0h(h1:cntOk a)(h2:nameOk a){i:Nat}(hi:a.n.length≤i)(h:∀ j,j < i→lA a.op≤a.n.getD j 0∧a.n.getD j 0≤lB a.op):0=Kx a:=by
 unfold Kx;rw [if_pos ⟨h1,h2⟩,if_pos (show Jb2 a from fun j hj=>h j (by omega))]
theorem Jws(h1:cntOk a)(h2:nameOk a){i:Nat}(hi:a.n.length≤i)(h:∀ j,j < i→lA a.op≤a.n.getD j 0∧a.n.getD j 0≤lB a.op):Kx a=0:=(J0h h1 h2 hi h).symm
theorem K8{e:Int}(h:e=Kx a)(h0:¬ e=0):e=errE a:=by rw [yo,if_neg (by rw [← h];exact h0)];exact h
theorem Jiy{i:Nat}(hi:i < a.args.length)(hv:errL (a.args.drop i)=errL a.args)(h:errE (a.args.getD i default)=0):errL (a.args.drop (i+1))=errL a.args:=by
 rw [← hv,Zt hi,errL,if_pos h]
theorem Jmz{i:Nat}(h0:Kx a=0)(hi:i < a.args.length)(hv:errL (a.args.drop i)=errL a.args)(h:¬ errE (a.args.getD i default)=0):errE (a.args.getD i default)=errE a:=by
 rw [yo a,if_pos h0,← hv,Zt hi,errL,if_neg h]
theorem Jrh{i:Nat}(h0:Kx a=0)(hi:a.args.length≤i)(hv:errL (a.args.drop i)=errL a.args):0=errE a:=by
 rw [yo a,if_pos h0,← hv,J9s hi,errL]
end
theorem Jyv{n:Int}(h:okOp n=true):sA n=cA n:=if_pos (of_decide_eq_true h)
theorem Jgl{a:GExpr}(h:okOp a.op=true)(h1:¬ ((a.n.length:Nat):Int) < sA a.op)(h2:¬ sB a.op < ((a.n.length:Nat):Int))(h3:0≤sC a.op→((a.args.length:Nat):Int)=sC a.op)(h4:sC a.op < 0→¬ ((a.args.length:Nat):Int) < 2)(h5:a.args.length≤60):cntOk a:=by
 have hr:=of_decide_eq_true h;have hb:sB a.op=cB a.op:=if_pos hr;rw [Jyv h] at h1;rw [hb] at h2;refine⟨hr.1,hr.2,by omega,by omega,?_,?_⟩
 ·unfold sC at h3 h4;unfold cC
  (repeat' split at h3) <;> (repeat' split) <;> first | omega | (unfold cC at h3;(repeat' split at h3) <;> omega)
 ·unfold sC at h3 h4;unfold cD
  (repeat' split at h3) <;> (repeat' split) <;> first | omega | (unfold cC at h3;(repeat' split at h3) <;> omega)
theorem Ja5{a:GExpr}(h:okOp a.op=false∨((a.n.length:Nat):Int) < sA a.op∨sB a.op < ((a.n.length:Nat):Int)∨(0≤sC a.op∧¬ ((a.args.length:Nat):Int)=sC a.op)∨(sC a.op < 0∧((a.args.length:Nat):Int) < 2)):¬ cntOk a:=by
 intro c;have hr:okOp a.op=true:=J84 ⟨c.o1,c.o2⟩;have hp:=of_decide_eq_true hr;have hb:sB a.op=cB a.op:=if_pos hp;rw [Jyv hr,hb,hr] at h;have c1:=c.n1;have c2:=c.n2;have c3:=c.a1;have c4:=c.a2
 rcases h with h | h | h | h | h
 ·cases h
 ·omega
 ·omega
 ·unfold sC at h;unfold cC at c3 h;unfold cD at c4
  (repeat' split at h) <;> (repeat' split at c3) <;> (repeat' split at c4) <;> omega
 ·unfold sC at h;unfold cC at c3 h;unfold cD at c4
  (repeat' split at h) <;> (repeat' split at c3) <;> (repeat' split at c4) <;> omega
theorem Jdd{a:GExpr}(h1:(a.op=8∧Kc a.name=true)∨(¬ a.op=8∧a.name=[]))(h2:a.op=1∨K5 a.c.q=0):nameOk a:=by
 rcases h1 with ⟨h,h3⟩ | ⟨h,h3⟩
 ·exact⟨by rw [J84 h,h3],.inl h,h2⟩
 ·exact⟨by rw [J83 h,h3];rfl,.inr h3,h2⟩
theorem Jey{a:GExpr}(h:(a.op=8∧Kc a.name=false)∨(¬ a.op=8∧¬ a.name=[])∨(¬ a.op=1∧¬ K5 a.c.q=0)):¬ nameOk a:=by
 intro c
 rcases h with ⟨h,h3⟩ | ⟨h,h3⟩ | ⟨h,h3⟩
 ·have:=c.e;rw [J84 h,h3] at this;cases this
 ·exact c.s.elim h h3
 ·exact c.c.elim h h3
def Zs(a:GExpr):Int:=if cntE a≤60∧lvlE a≤12 then errE a else 7
theorem Jgk{a:GExpr}{k v:Nat}(h:60 < k+1∨12 < v):(k+1,false)=pszE a k v:=by rw [Jbc,if_pos h]
theorem Jl6{a:GExpr}{k v i kk:Nat}(h:¬ (60 < k+1∨12 < v))(hi:i < a.args.length)(hR:pszL (a.args.drop i) kk (v+1)=pszL a.args (k+1) (v+1))(hb:(pszE (a.args.getD i default) kk (v+1)).2=false):pszE (a.args.getD i default) kk (v+1)=pszE a k v:=by
 rw [Jbc a,if_neg h];exact Jn1 hi hR hb
theorem Jrq{a:GExpr}{k v i kk:Nat}(h:¬ (60 < k+1∨12 < v))(hi:a.args.length≤i)(hR:pszL (a.args.drop i) kk (v+1)=pszL a.args (k+1) (v+1)):(kk,true)=pszE a k v:=by
 rw [Jbc a,if_neg h];exact Juh hi hR
theorem pr_le{a:GExpr}{k v:Nat}(hk:k≤60)(hb:(pszE a k v).2=true):(pszE a k v).1≤60:=by
 obtain⟨h1,h2⟩:=(Jg4 _).1 a (Nat.lt_succ_self _) k v hk;rw [h2 hb];rw [h1] at hb
 have:=of_decide_eq_true hb
 omega
end Go.Wf
namespace Go.Wf
open Go Go.Proofs Go.RowKit
def ItB(w:World)(g:Nat)(s:List UInt8)(pos:Nat):Prop:=w.heap[g]? =some (.stringIter ⟨s.toArray⟩ pos)
theorem ItB.lt{w:World}{g:Nat}{s:List UInt8}{pos:Nat}(h:ItB w g s pos):g < w.heap.size:=(Array.getElem?_eq_some_iff.1 h).1
structure Itr (w0:Bs) (y:Nat→Prop) (w:World) (g:Nat) (s:List UInt8) (pos:Nat):Prop where
 mem:y g
 ge:w0.heap.size≤g∨w0.M g
 blk:ItB w g s pos
section
variable {w0:Bs} {X0 x y x' y':Nat→Prop} {w w':World} {g g':Nat} {s:List UInt8} {pos:Nat}
theorem Itr.sp{ch:Nat→Prop}(h:Itr w0 y w g s pos)(p:Sp x y w x' y' w' ch)(hn:¬ ch g):Itr w0 y' w' g s pos:=⟨p.up _ h.mem,h.ge,(p.same g h.blk.lt hn).trans h.blk⟩
theorem Itr.spn(h:Itr w0 y w g s pos)(p:Sp x y w x' y' w' Zn):Itr w0 y' w' g s pos:=h.sp p id
theorem Itr.spo(h:Itr w0 y w g s pos)(p:Sp x y w x' y' w' (· =g'))(hn:g≠g'):Itr w0 y' w' g s pos:=h.sp p hn
theorem Cx.iter(C:Cx X0 w0 x y w)(s:List UInt8):
  Cx X0 w0 (fun b=>x b∨b=w.heap.size) (fun b=>y b∨b=w.heap.size) (w.alloc (.stringIter ⟨s.toArray⟩ 0))∧
  Sp x y w (fun b=>x b∨b=w.heap.size) (fun b=>y b∨b=w.heap.size) (w.alloc (.stringIter ⟨s.toArray⟩ 0)) Zn∧
  Itr w0 (fun b=>y b∨b=w.heap.size) (w.alloc (.stringIter ⟨s.toArray⟩ 0)) w.heap.size s 0:=by
 have hle:=C.below.size;refine⟨⟨C.below.trans ((Kk w _).mono hle),fun b h=> .inl (C.base b h),?_,?_⟩,⟨?_,?_,fun _ h=> .inl h,fun b hb _=>Y4 hb⟩,⟨.inr rfl,.inl hle,heap_alloc_new _ _⟩⟩
 ·rintro b (h | rfl)
  ·have:=C.bd b h;simp;omega
  ·simp
 ·rintro b (h | rfl)
  ·exact .inl (C.yx b h)
  ·exact .inr rfl
 ·refine⟨?_,fun b hb _=>Y4 hb,by simp⟩;rintro b hb (h | rfl)
  ·exact h
  ·omega
 ·refine⟨?_,fun b hb _=>Y4 hb,by simp⟩;rintro b hb (h | rfl)
  ·exact h
  ·omega
def itSet(w:World)(g:Nat)(s:List UInt8)(pos:Nat):World:={w with heap:=w.heap.setIfInBounds g (.stringIter ⟨s.toArray⟩ pos)}
theorem Cx.itSet(C:Cx X0 w0 x y w)(I:Itr w0 y w g s pos)(q:Nat):Cx X0 w0 x y (itSet w g s q)∧Sp x y w x y (itSet w g s q) (· =g)∧Itr w0 y (itSet w g s q) g s q:=by
 have hs:(Wf.itSet w g s q).heap.size=w.heap.size:=by simp [Wf.itSet]
 have ho:∀ b,b≠g→(Wf.itSet w g s q).heap[b]? =w.heap[b]? :=fun b hb=>by simp [Wf.itSet,J9l,J9k hb]
 have hb:Bel ⟨w,(· =g)⟩ (Wf.itSet w g s q):=⟨rfl,rfl,rfl,by rw [hs];exact J9g _,fun k hk hm=>ho k hm⟩;refine⟨⟨C.below.turn hb I.ge,C.base,fun b h=>by rw [hs];exact C.bd b h,C.yx⟩,⟨⟨fun _ _ h=>h,fun b hb hx=>ho b fun e=>hx (e ▸ C.yx _ I.mem),by rw [hs];exact J9g _⟩,⟨fun _ _ h=>h,fun b hb hx=>ho b fun e=>hx (e ▸ I.mem),by rw [hs];exact J9g _⟩,fun _ h=>h,fun b hb hn=>ho b hn⟩,⟨I.mem,I.ge,?_⟩⟩;simp [ItB,Wf.itSet,J9l,I.blk.lt]
end
section
variable {P:Program} {ρ:Operand→Value} {w:World} {K:Value→World→Prop} {Kp:List PanicEntry→World→Prop} {dst:Option Tmp} {ty:TypeId} {pos:String} {after:Array Edge} {gd:Option (Nat × Bool)} {X0 x y:Nat→Prop} {w0:Bs}
theorem J7b {t:TypeId} {a:Operand} {s:List UInt8} (C:Cx X0 w0 x y w) (ht:P.underlying t=some .string) (hx:ρ a=str s)
  (h:∀ g w' x' y',(∀ b,b < w.heap.size→b≠g)→Cx X0 w0 x' y' w'→Sp x y w x' y' w' Zn→Itr w0 y' w' g s 0→K (.pointer (some ⟨g,0,none⟩)) w'):
  St P ρ ⟨dst,.range t a,ty,pos,after,gd⟩ w K Kp:=by
 obtain⟨c,p,i⟩:=C.iter s;refine J5d (v:= .pointer (some ⟨w.heap.size,0,none⟩)) (w':=w.alloc (.stringIter ⟨s.toArray⟩ 0)) ?_ (h _ _ _ _ (fun b hb=>by omega) c p i);simp only [execOp,hx,str]
 have:=run_range_string (P:=P) w t ⟨s.toArray⟩ ht
 simp [this,World.iter]
theorem Jpk{w:World}{g:Nat}{s:List UInt8}{q:Nat}{ty:TypeId}(h:ItB w g s q)(hq:s.length≤q):(Instr.next (.pointer (some ⟨g,0,none⟩)) true ty).run P w= .ok (.tuple #[.bool false]) w:=by
 have hn:¬ q < (⟨s.toArray⟩:ByteArray).size:=by simp [ByteArray.size];omega
 simp [Instr.next,getObj,Sem.run,show w.heap[g]? =_ from h,hn]
theorem Jpu{w:World}{g:Nat}{s:List UInt8}{q:Nat}{ty:TypeId}(h:ItB w g s q)(hq:q < s.length):
  (Instr.next (.pointer (some ⟨g,0,none⟩)) true ty).run P w= .ok (.tuple #[.bool true,.int .i64 q,.int .i32 (Utf8.decode ⟨s.toArray⟩ q).1]) (itSet w g s (q+(Utf8.decode ⟨s.toArray⟩ q).2)):=by
 have hn:q < (⟨s.toArray⟩:ByteArray).size:=by simp [ByteArray.size];omega
 simp [Instr.next,getObj,setObj,Sem.run,show w.heap[g]? =_ from h,hn,itSet,goInt]
theorem J7h {it:Operand} {g:Nat} {s:List UInt8} {q:Nat} (C:Cx X0 w0 x y w) (I:Itr w0 y w g s q) (hx:ρ it= .pointer (some ⟨g,0,none⟩))
  (he:s.length≤q→K (.tuple #[.bool false]) w)
  (ha:∀ w',q < s.length→(s.getD q 0).toNat < 128→Cx X0 w0 x y w'→Sp x y w x y w' (· =g)→Itr w0 y w' g s (q+1)→K (.tuple #[.bool true,.int .i64 q,.int .i32 (((s.getD q 0).toNat:Nat):Int)]) w')
  (hh:∀ w' r p,q < s.length→128≤(s.getD q 0).toNat→128≤r→Cx X0 w0 x y w'→Sp x y w x y w' (· =g)→Itr w0 y w' g s p→K (.tuple #[.bool true,.int .i64 q,.int .i32 ((r:Nat):Int)]) w'):
  St P ρ ⟨dst,.next it true,ty,pos,after,gd⟩ w K Kp:=by
 rcases J9w q s.length with hq | hq
 ·obtain⟨c,p,i⟩:=C.itSet I (q+(Utf8.decode ⟨s.toArray⟩ q).2);refine J5d (v:= .tuple #[.bool true,.int .i64 q,.int .i32 (Utf8.decode ⟨s.toArray⟩ q).1]) (w':=Wf.itSet w g s (q+(Utf8.decode ⟨s.toArray⟩ q).2)) ?_ ?_
  ·simp [execOp,hx,Jpu I.blk hq]
  ·have hn:q < (⟨s.toArray⟩:ByteArray).size:=by simp [ByteArray.size];omega
   have hb:((⟨s.toArray⟩:ByteArray)[q]'hn)=s.getD q 0:=by
    rw [J9d,J9f hq];rfl
   rcases J9w (s.getD q 0).toNat 128 with h1 | h1
   ·have hd:=decode_ascii ⟨s.toArray⟩ q hn (by rw [hb];exact h1);rw [hb] at hd;rw [hd] at c p i ⊢;exact ha _ hq h1 c p i
   ·have hd:=decode_high ⟨s.toArray⟩ q hn (by rw [hb];exact h1);exact hh _ _ _ hq h1 hd.1 c p i
 ·refine J5d (v:= .tuple #[.bool false]) (w':=w) ?_ (he hq);simp [execOp,hx,Jpk I.blk hq]
end
section
variable {P:Program} {ρ:Operand→Value} {w:World} {K:Value→World→Prop} {Kp:List PanicEntry→World→Prop} {dst:Option Tmp} {ty:TypeId} {pos:String} {after:Array Edge} {gd:Option (Nat × Bool)} {X0 x y:Nat→Prop} {w0:Bs}
theorem J6i {α:Type} {T:Ty α} {E t:TypeId} {z u:Value} {by_ g:Nat} {m:List α} {a b:Operand} (C:Cx X0 w0 x y w) (ht:P.underlying t=some (.slice E)) (hi:Zg P E=some (z,T.sz,by_)) (hx:ρ a= .slice (some ⟨g,0,none⟩) 0 0) (hy:ρ b=u)
  (hs:RS T x w u m) (h63:m.length≤maxLen) (hby:m.length * by_≤140737488355328) (hz:z.cells.size=T.sz)
  (h:∀ v' w',Cx X0 w0 x y w'→Sp x y w x y w' Zn→RS T x w' v' m→K v' w'):
  St P ρ ⟨dst,.call {callee:= .builtin .append,args:= #[a,b],argTypes:= #[t,t]},ty,pos,after,gd⟩ w K Kp:=by
 obtain⟨inf,hi',hz',hsz,hbyt⟩:=Jy hi;obtain⟨css',k1,k2,ad,c,rfl,k3⟩:=Yi hs;have hal':=K7 k1 k2
 by_cases hml:m=[]
 ·subst hml;have hrun:(Builtin.append_ #[t,t] ty #[.slice (some ⟨g,0,none⟩) 0 0,.slice ad ([]:List α).length c]).run P w= .ok (.slice (some ⟨g,0,none⟩) 0 0) w:=by
   cases ad <;> simp [Builtin.append_,run_underlying ht,sizeOf,typeInfo,hi',Builtin.lenOf,Builtin.firstCells,loadCells,loadCellsFrom,storeCells]
  refine J5d (v:= .slice (some ⟨g,0,none⟩) 0 0) (w':=w) (by simp only [J81] at hrun hy;simp [execOp,resolve,invoke,builtin,hx,hy,hrun]) (h _ _ C Sp.refl ⟨_,0,rfl,J9g _,by unfold maxLen;omega,.inl rfl⟩)
 ·rcases k3 with k3 | ⟨bb,oo,rfl,hcell⟩
  ·exact absurd k3 hml
  have hmpos:0 < m.length:=List.length_pos_iff.2 hml;have hnl:css'.flatten.length=m.length * T.sz:=by
   have:∀ (css:List (List Value)),(∀ cs ∈ css,cs.length=T.sz)→css.flatten.length=css.length * T.sz:=by
    intro css
    induction css with
    | nil=>intro _;simp
    | cons c css ih=>intro hh;rw [List.flatten_cons,J8z,hh c (by simp),ih fun cs h=>hh cs (by simp [h]),J80,Nat.succ_mul];omega
   rw [this css' hal',k1]
  have hnews:∀ j u,css'.flatten[j]? =some u→w.cell? ((⟨bb,oo,none⟩:Addr).add j)=some u:=fun j u hj=>by rw [Addr.add_lit];exact hcell j u hj
  have hr:=run_append_grow (P:=P) w t ty E inf z ht hi' hz' ⟨g,0,none⟩ 0 0 [] (by simp) (fun j v hj=>by simp at hj) ⟨bb,oo,none⟩ m.length c css'.flatten (by rw [hnl,hsz]) hnews (by omega) (by simp only [maxLen] at h63;omega)
   (by rw [hbyt];exact growslice_fits (by omega) (by rw [Nat.zero_add];exact hby))
  simp only [Nat.zero_add,J9t] at hr;refine J5d (v:= .slice (some ⟨w.heap.size,0,none⟩) m.length (grownCap w m.length 0 E)) (w':=w.drew.alloc (.cells (#[]++css'.flatten.toArray++Builtin.zeroCells z.cells (grownCap w m.length 0 E - m.length)) E)) (by
   simp [execOp,resolve,invoke,builtin,hx,hy,hr]) ?_
  have hB:Below w.heap.size w (w.drew.alloc (.cells (#[]++css'.flatten.toArray++Builtin.zeroCells z.cells (grownCap w m.length 0 E - m.length)) E)):=((Below.refl _ _).drew).alloc (J9g _) _;obtain⟨C',S'⟩:=C.next hB;have ho:OS T E w0 (fun b=>x b∨b=w.heap.size) y (w.drew.alloc (.cells (#[]++css'.flatten.toArray++Builtin.zeroCells z.cells (grownCap w m.length 0 E - m.length)) E)) (.slice (some ⟨w.heap.size,0,none⟩) m.length (grownCap w m.length 0 E)) m:=by
   refine⟨⟨css',k1,fun i cs u h1 h2=>T.tr (k2 i cs u h1 h2) ⟨?_,S'.tx.blk,S'.tx.size⟩,by rw [hnl],.inr ⟨w.heap.size,_,_,rfl,J9h _,heap_alloc_new w.drew _,grownCap_ge w _ _ E,grownCap_le_maxLen w _ _ E (by simpa using h63),?_,?_⟩⟩,fun k hk=>?_⟩
   ·rintro b hb (h | rfl)
    ·exact h
    ·exact absurd hb (Nat.lt_irrefl _)
   ·have hge:=grownCap_ge w m.length 0 E;simp only [Array.size_append,List.size_toArray,size_zeroCells,hz,hnl,Array.size_empty,J81,Nat.zero_add,← Nat.add_mul]
    congr 1;omega
   ·simp only [Array.toList_append,Array.toList_empty,J9t,← hnl];exact List.take_left
   ·simp [Value.ownBlock] at hk;subst hk;exact⟨⟨.inr rfl,fun hy=>by have:=C.bd _ (C.yx _ hy);omega⟩,.inl C.below.size⟩
  exact h _ _ C' S' (ho.pub (fun _ h=> .inl h) fun k hk=>by
   simp [Value.ownBlock] at hk;subst hk;exact fun hx=>by have:=C.bd _ hx;omega)
end
section
variable {P:Program} {ρ:Operand→Value} {w:World} {K:Value→World→Prop} {Kp:List PanicEntry→World→Prop} {dst:Option Tmp} {ty:TypeId} {pos:String} {after:Array Edge} {gd:Option (Nat × Bool)} {X0 x y:Nat→Prop} {w0:Bs}
theorem J66 {t E:TypeId} {z:Value} {by_:Nat} (C:Cx X0 w0 x y w) (ht:P.underlying t=some (.slice E)) (hi:Zg P E=some (z,1,by_))
  (h:∀ g w',Cx X0 w0 x y w'→Sp x y w x y w' Zn→K (.slice (some ⟨g,0,none⟩) 0 0) w'):
  St P ρ ⟨dst,.buildSlice t 0 #[],ty,pos,after,gd⟩ w K Kp:=by
 refine J7j (T:=Je) C ht hi fun g w' x' C' S' up ho=>h g w' ⟨C'.below,C.base,fun b hb=>J85 (C.bd b hb) S'.tx.size,C.yx⟩ ⟨⟨fun _ _ h=>h,S'.tx.blk,S'.tx.size⟩,S'.ty,fun _ h=>h,S'.same⟩
def RU(X0:Nat→Prop)(b0:Bs)(x y:Nat→Prop):Unit→World→Unit→World→Prop:=fun _ w _ w'=>Cx X0 b0 x y w'∧Sp x y w x y w' Zn
def ur{α:Type}(x:Nat→Prop)(T:Ty α)(m:α):Unit→Value→World→Prop:=fun _ v w=>RV T x w v m
def us{α:Type}(x:Nat→Prop)(T:Ty α)(m:List α):Unit→Value→World→Prop:=fun _ v w=>RS T x w v m
def uE{α:Type}(x:Nat→Prop)(T:Ty α)(m:α):Unit→Value→World→Prop:=fun _ v w=>∃ (b o:Nat) (cs:List Value),v= .pointer (some ⟨b,o,none⟩)∧ElAt T x w b o cs m
def u0{τ:Type}:τ→Value→World→Prop:=fun _ v _=>∃ g,v= .slice (some ⟨g,0,none⟩) 0 0
theorem tr{b0:Bs}{α:Type}{T:Ty α}{m:α}:∀ v s w s' w',ur x T m s v w→RU X0 b0 x y s w s' w'→ur x T m s' v w':=fun _ _ _ _ _ h r=>RV.tr h r.2.tx
theorem ts{b0:Bs}{α:Type}{T:Ty α}{m:List α}:∀ v s w s' w',us x T m s v w→RU X0 b0 x y s w s' w'→us x T m s' v w':=fun _ _ _ _ _ h r=>RS.tr h r.2.tx
theorem tE{b0:Bs}{α:Type}{T:Ty α}{m:α}:∀ v s w s' w',uE x T m s v w→RU X0 b0 x y s w s' w'→uE x T m s' v w':=fun _ _ _ _ _ ⟨b,o,cs,e,h⟩ r=>⟨b,o,cs,e,h.tr r.2.tx⟩
end
section
variable {fc:Fence} [Fw fc] {P:Program} {ops:Array Oper} {n:Nat} {D:List Deferred} {Q:Post} {f0:Fr} {w0:World}
theorem J63 {id:Nat} (hm:P.follows .mixedOrders=true) (m:Nat) (dl:List (List Nat)) {X0 x y:Nat→Prop} {b0:Bs} (C:Cx X0 b0 x y w0) (Gl:List (Unit→Value→World→Prop))
  (chk:qg ops m n dl=true) (hG:Xz (RU X0 b0 x y) Gl)
  (h:∀ f w,Cx X0 b0 x y w→Sp x y w0 x y w Zn→Keep (J4 ops m) f0 f→Ja8 P ops Q (RU X0 b0 x y) Gl f () w ops.toList dl 0∧(Deps ops Gl f () w (List.range m)→Sq P ops n Q (ops.toList.drop m) f w)):
  W fc P (Code.region id ops true) n D Q f0 w0:=
 J62 hm m dl () (RU X0 b0 x y) Gl chk (by obtain⟨c,s⟩:=C.next (Below.refl _ _).drew;exact⟨c,s⟩) (fun _ _ _ _ _ _ h k=>⟨k.1,h.2.trans k.2⟩) hG fun f s w r k=>h f w r.1 r.2 k
end
end Go.Wf
namespace Go.Wf
open Go Go.RowKit
section
variable {fc:Fence} [Fw fc] {P:Program} {ops:Array Oper} {n:Nat} {D:List Deferred} {Q:Post} {f0:Fr} {w0:World}
def Jap{σ:Type}(P:Program)(ops:Array Oper)(Q:Post)(R R0:σ→World→σ→World→Prop)(N:σ→World→Prop)(q:Nat)(Gl:List (σ→Value→World→Prop))(f:Fr)(s:σ)(w:World):List Oper→List (List Nat)→Nat→Prop
 | o::l,d::dl,k=>
  (Deps ops Gl f s w d→(Nat.beq k q=true→N s w)→OpSt P ops f o w (fun v w'=>∃ s',(bif Nat.beq k q then R else R0) s w s' w'∧(Gl.getD k noG) s' v w') (fun ch w'=>∀ f,Q (.panic ch) f w'))∧Jap P ops Q R R0 N q Gl f s w l dl (k+1)
 | _,_,_=>True
def qf{σ:Type}(R R0:σ→World→σ→World→Prop)(q:Nat):List (σ→Value→World→Prop)→Nat→Prop
 | [],_=>True
 | g::r,k=>(∀ v s w s' w',g s v w→(bif Nat.beq k q then R0 else R) s w s' w'→g s' v w')∧qf R R0 q r (k+1)
theorem qf.at{σ:Type}{R R0:σ→World→σ→World→Prop}{q:Nat}:∀ (Gl:List (σ→Value→World→Prop)) (k:Nat),qf R R0 q Gl k→∀ j v s w s' w',(Gl.getD j noG) s v w→(bif Nat.beq (k+j) q then R0 else R) s w s' w'→(Gl.getD j noG) s' v w':=by
 intro Gl
 induction Gl with
 | nil=>intro k _ j v s w s' w' _ _;simp [List.getD,noG]
 | cons g r ih=>
  intro k h j v s w s' w' hg hr
  cases j with
  | zero=>exact h.1 v s w s' w' hg hr
  | succ j=>exact ih (k+1) h.2 j v s w s' w' hg (by rw [show k+1+j=k+(j+1) by omega];exact hr)
theorem Jap.at{σ:Type}{R R0:σ→World→σ→World→Prop}{N:σ→World→Prop}{q:Nat}{Gl:List (σ→Value→World→Prop)}{f:Fr}{s:σ}{w:World}:∀ (l:List Oper) (dl:List (List Nat)) (k:Nat),Jap P ops Q R R0 N q Gl f s w l dl k→
  ∀ i o,l[i]? =some o→i < dl.length→Deps ops Gl f s w (dl.getD i [])→(Nat.beq (k+i) q=true→N s w)→
   OpSt P ops f o w (fun v w'=>∃ s',(bif Nat.beq (k+i) q then R else R0) s w s' w'∧(Gl.getD (k+i) noG) s' v w') (fun ch w'=>∀ f,Q (.panic ch) f w'):=by
 intro l
 induction l with
 | nil=>intro dl k _ i o h;simp at h
 | cons x l ih=>
  intro dl k hst i o ho hi
  cases dl with
  | nil=>simp at hi
  | cons d dl=>
   cases i with
   | zero=>simp at ho;subst ho;exact hst.1
   | succ i=>
    have:=ih dl (k+1) hst.2 i o (by simpa using ho) (by simpa using hi)
    intro h3 h4;rw [show k+(i+1)=k+1+i by omega] at h4 ⊢;exact this (by simpa using h3) h4
theorem Joa {σ:Type} {s0:σ} {m q:Nat} {dl:List (List Nat)} (F:DrawFacts ops m n dl) {R R0:σ→World→σ→World→Prop} {N:σ→World→Prop} {Gl:List (σ→Value→World→Prop)}
  (htr:∀ s a t b u c,R s a t b→R t b u c→R s a u c) (h01:∀ s a t b,R0 s a t b→R s a t b) (hN:∀ s a t b,N s a→R0 s a t b→N t b) (hG:qf R R0 q Gl 0)
  (hst:∀ f s w,R s0 w0 s w→Keep (J4 ops m) f0 f→Jap P ops Q R R0 N q Gl f s w ops.toList dl 0)
  (htail:∀ f s w,R s0 w0 s w→Keep (J4 ops m) f0 f→Deps ops Gl f s w (List.range m)→Sq P ops n Q (ops.toList.drop m) f w):
  ∀ (fuel:Nat) (L:Array Bool) (a:Act) (s:σ) (w:World),unl ops.size L=fuel→L.size=ops.size→Qv ops L→
   (∀ i,i < ops.size→m≤i→L.getD i true=false)→Good n D a→R s0 w0 s w→Keep (J4 ops m) f0 (frOf a)→
   (∀ j,j < m→L.getD j true=true→(Gl.getD j noG) s (frOf a (Ya ops j)) w)→(L.getD q true=false→N s w)→
   wpAnyIn fc 0 P .any ops (fun e a' w'=>Good n D a'∧Q e (frOf a') w') fuel L a w:=by
 intro fuel;have bridge:∀ (L:Array Bool),L.size=ops.size→∀ i,i < ops.size→L.getD i false=L.getD i true:=by
  intro L hs i hi
  have:L[i]? =some L[i]:=by simp [hs,hi]
  simp [J9e,this]
 have done:∀ (L:Array Bool) (a:Act) (s:σ) (w:World),unl ops.size L=ops.size - m→L.size=ops.size→(∀ i,i < m→L.getD i true=true)→
   (∀ i,i < ops.size→m≤i→L.getD i true=false)→Good n D a→R s0 w0 s w→Keep (J4 ops m) f0 (frOf a)→
   (∀ j,j < m→L.getD j true=true→(Gl.getD j noG) s (frOf a (Ya ops j)) w)→
   wpAnyIn fc 0 P .any ops (fun e a' w'=>Good n D a'∧Q e (frOf a') w') (ops.size - m) L a w:=by
  intro L a s w _ hs hall hno ha hR hK hg;refine Jm8 F (ops.size - m) m L a w (J9g _) (by have:=F.le;omega) hs ?_ ha (htail _ _ _ hR hK (Deps.of _ fun j hj=>hg j (by simpa using hj) (hall j (by simpa using hj))));intro i hi
  constructor
  ·intro h
   rcases J9w i m with hl | hl
   ·exact hl
   ·rw [hno i hi hl] at h;cases h
  ·intro h;exact hall i h
 have cnt:∀ (L:Array Bool),(∀ i,i < m→L.getD i true=true)→(∀ i,i < ops.size→m≤i→L.getD i true=false)→unl ops.size L=ops.size - m:=by
  intro L h1 h2;have hle:=F.le
  have:∀ N,m≤N→N≤ops.size→unl N L=N - m:=by
   intro N hN
   induction N with
   | zero=>intro _;simp [unl]
   | succ N ih=>
    intro hNs;simp only [unl,List.range_succ,List.countP_append,List.countP_singleton]
    rcases Nat.eq_or_lt_of_le hN with e | hlt
    ·have:unl N L=0:=by
      refine List.countP_eq_zero.2 ?_;intro i hi;have hi':i < N:=by simpa using hi
      simp [h1 i (by omega)]
     unfold unl at this;rw [this,h1 N (by omega)];simp;omega
    ·have:=ih (by omega) (by omega)
     unfold unl at this;rw [this,h2 N (by omega) (by omega)];simp;omega
  exact this ops.size hle (J9g _)
 induction fuel with
 | zero=>
  intro L a s w hu hs hc hno ha hR hK hg hNn;have hall:=q5 hu;have hall':∀ i,i < m→L.getD i true=true:=fun i hi=>hall i (by have:=F.le;omega);have hu':=cnt L hall' hno
  have:=done L a s w hu' hs hall' hno ha hR hK hg
  rw [hu'.symm,hu] at this;exact this
 | succ fuel ih=>
  intro L a s w hu hs hc hno ha hR hK hg hNn
  by_cases hall:∀ i,i < m→L.getD i true=true
  ·have hu':=cnt L hall hno
   have:=done L a s w hu' hs hall hno ha hR hK hg
   rw [hu'.symm,hu] at this;exact this
  ·
   have hex:∃ i,i < m∧L.getD i true=false:=by
    refine Classical.byContradiction fun hn=>hall fun i hi=>?_
    cases hb:L.getD i true with
    | true=>rfl
    | false=>exact absurd ⟨i,hi,hb⟩ hn
   have hmin:∃ i,i < m∧L.getD i true=false∧∀ j,j < i→L.getD j true=true:=by
    obtain⟨i,hi,hb⟩:=hex
    induction i using Nat.strongRecOn with
    | _ i ihh=>
     by_cases h:∃ j,j < i∧L.getD j true=false
     ·obtain⟨j,hj,hjb⟩:=h;exact ihh j hj (by omega) hjb
     ·refine⟨i,hi,hb,fun j hj=>?_⟩
      cases hjb:L.getD j true with
      | true=>rfl
      | false=>exact absurd ⟨j,hj,hjb⟩ h
   obtain⟨i0,hi0,hb0,hlow⟩:=hmin;have hle:=F.le;have hr0:i0 ∈ Region.ready .any ops L:=by
    have hok:ops[i0]? =some ops[i0]:=by simp [show i0 < ops.size by omega]
    refine Z4.2 ⟨by omega,hb0,ops[i0],hok,?_⟩;intro e he hbe;have hlt:=F.back i0 _ hok e he hbe;rw [bridge L hs _ (by omega)];exact hlow _ hlt
   refine⟨(fun hnil=>by rw [hnil] at hr0;cases hr0),?_⟩;intro i hi;obtain⟨h1,h2,o,ho,h3⟩:=Z4.1 hi;have him:i < m:=by
    rcases J9w i m with hl | hl
    ·exact hl
    ·exfalso
     have:=Ko hs hc ops.size i0 i h1 (fun o' ho'=>by rw [ho] at ho';cases ho';exact h3) (F.tail i h1 hl i0 (by omega))
     rw [bridge L hs i0 (by omega),hb0] at this
     cases this
   have hdep:Deps ops Gl (frOf a) s w (dl.getD i []):=by
    refine Deps.of _ fun j hj=>?_
    obtain⟨hanc,hjm⟩:=F.deps i him j hj
    have:=Ko hs hc ops.size j i h1 (fun o' ho'=>by rw [ho] at ho';cases ho';exact h3) hanc
    rw [bridge L hs j (by omega)] at this;exact hg j hjm this
   have hstep:=Jap.at ops.toList dl 0 (hst (frOf a) s w hR hK) i o (by simpa using ho) (by rw [F.len];exact him) hdep (fun e=>hNn (by rw [← Nat.zero_add i,Nat.eq_of_beq_eq_true e] at h2;exact h2));rw [Nat.zero_add] at hstep;have hsome:=F.some i him;rw [ho] at hsome;have hdi:Ya ops i=(o.dst).getD 0:=by simp [Ya,ho]
   obtain⟨d,hd⟩:=Option.isSome_iff_exists.1 hsome;simp only [Option.bind_some] at hd;have hdd:Ya ops i=d:=by rw [hdi,hd];rfl
   have hlo:=F.dst i o ho;refine yp (Kv:=fun v w'=>∃ s',(bif Nat.beq i q then R else R0) s w s' w'∧(Gl.getD i noG) s' v w') (Kp:=fun ch w'=>∀ f,Q (.panic ch) f w') ho ha hstep ?_ ?_
   ·rintro v w' ⟨s',hRR0,hgv⟩;have hRR:R s w s' w':=by
     cases hb:Nat.beq i q with
     | true=>rw [hb] at hRR0;exact hRR0
     | false=>rw [hb] at hRR0;exact h01 _ _ _ _ hRR0
    refine ih _ _ s' _ ?_ (by simp [hs]) ?_ ?_ (ha.put _ _) (htr _ _ _ _ _ _ hR hRR) ?_ ?_ ?_
    ·have:=Jbl hs h1 h2;omega
    ·intro k hk hl o' ho' e he hb;rw [J9e,J9l]
     by_cases e1:i=e.on
     ·subst e1;simp [hs,h1]
     ·simp only [e1,if_false];rw [← J9e]
      by_cases e2:i=k
      ·subst e2;rw [ho] at ho';cases ho';exact h3 e he hb
      ·rw [J9e,J9l] at hl;simp only [e2,if_false] at hl;rw [← J9e] at hl;exact hc k hk hl o' ho' e he hb
    ·intro k hk hmk
     have:¬ i=k:=by omega
     rw [J9e,J9l];simp only [this,if_false];rw [← J9e];exact hno k hk hmk
    ·rw [Yg ha _ hlo,hd];intro t ht;have htd:t≠d:=by
      rintro rfl
      have:t ∈ J4 ops m:=by
       refine List.mem_filterMap.2 ⟨o,?_,hd⟩;have h':ops.toList[i]? =some o:=by simpa using ho
       have:(ops.toList.take m)[i]? =some o:=by rw [List.getElem?_take,if_pos him];exact h'
       exact List.mem_of_getElem? this
      have:(J4 ops m).contains t=true:=by simpa using this
      rw [this] at ht;cases ht
     simp only [updO,upd,htd,if_false];exact hK t ht
    ·intro j hj hl;rw [Yg ha _ hlo,hd]
     by_cases e:j=i
     ·subst e;rw [hdd];simp only [updO,upd,if_true];exact hgv
     ·have hne:Ya ops j≠d:=by rw [← hdd];exact F.apart i him j hj e
      simp only [updO,upd,hne,if_false];have e':¬ i=j:=fun h=>e h.symm;rw [J9e,J9l] at hl;simp only [e',if_false] at hl;rw [← J9e] at hl;have hsj:=qf.at Gl 0 hG j _ s w s' w' (hg j hj hl);rw [Nat.zero_add] at hsj
      cases hb:Nat.beq j q with
      | true=>
       have hjq:=Nat.eq_of_beq_eq_true hb;subst hjq;rw [hb] at hsj;have hbi:Nat.beq i j=false:=Bool.eq_false_iff.2 fun e=>e' (Nat.eq_of_beq_eq_true e);rw [hbi] at hRR0;exact hsj hRR0
      | false=>rw [hb] at hsj;exact hsj hRR
    ·intro hl;rw [J9e,J9l] at hl
     by_cases e:i=q
     ·subst e;simp [hs,h1] at hl
     ·simp only [e,if_false] at hl;rw [← J9e] at hl;have hbi:Nat.beq i q=false:=Bool.eq_false_iff.2 fun e2=>e (Nat.eq_of_beq_eq_true e2);rw [hbi] at hRR0;exact hN _ _ _ _ (hNn hl) hRR0
   ·intro c w' hq;exact hq _
theorem Jcb{f:Fr}{w:World}{fn:Func}{r s q z:ResultVar}{v u x y:Value}(hr:fn.results= #[r,s,q,z])(h:resV (P:=P) f w r v)(k:resV (P:=P) f w s u)(m:resV (P:=P) f w q x)(l:resV (P:=P) f w z y):∀ tmps:Array Value,(∀ t,tmps.getD t undef=f t)→(results fn tmps).run P w= .ok (.tuple #[v,u,x,y]) w:=by
 intro tmps ht;have h1:=Kw h tmps ht;have h2:=Kw k tmps ht;have h3:=Kw m tmps ht;have h4:=Kw l tmps ht;simp only [Xj,hr,List.mapM_toArray,List.mapM_cons,List.mapM_nil,Sem.run_bind,Sem.run_map];rw [h1];simp only [Result.andThen_ok];rw [h2];simp only [Result.andThen_ok];rw [h3];simp only [Result.andThen_ok];rw [h4];simp
theorem Q7{f:Fr}{w:World}{fn:Func}{R:Ending→World→Prop}{r s q z:ResultVar}{v u x y:Value}(hr:fn.results= #[r,s,q,z])(h:resV (P:=P) f w r v)(k:resV (P:=P) f w s u)(m:resV (P:=P) f w q x)(l:resV (P:=P) f w z y)(hR:R (.returned (.tuple #[v,u,x,y])) w):retQ P fn R .ret f w:=⟨_,Jcb hr h k m l,hR⟩
structure RA (X0:Nat→Prop) (b0:Bs) (s:Gh) (w:World) (s':Gh) (w':World):Prop where
 cx:Cx X0 b0 s'.1 s'.2 w'
 yy:s'.2=s.2
 ap:Ap s.1 w s'.1 s.2 w'
theorem RA.trans{X0:Nat→Prop}{b0:Bs}:∀ (s:Gh) (a:World) (t:Gh) (b:World) (u:Gh) (c:World),RA X0 b0 s a t b→RA X0 b0 t b u c→RA X0 b0 s a u c:=
 fun s a t b u c h k=>⟨k.cx,k.yy.trans h.yy,h.ap.tx.trans k.ap.tx,fun g hg hy=>(k.ap.same g (J85 hg h.ap.tx.size) (by rw [h.yy];exact hy)).trans (h.ap.same g hg hy)⟩
theorem OS.opn{α:Type}{T:Ty α}{E:TypeId}{b0:Bs}{x y:Nat→Prop}{w:World}{v:Value}{l:List α}(h:OS T E b0 x y w v l):∃ a c,v= .slice a l.length c∧OS T E b0 x y w (.slice a l.length c) l:=by
 obtain⟨a,c,rfl,_,_⟩:=h.len;exact⟨a,c,rfl,h⟩
theorem RA.step{X0:Nat→Prop}{b0:Bs}{s:Gh}{w w':World}{x':Nat→Prop}(C:Cx X0 b0 x' s.2 w')(a:Ap s.1 w x' s.2 w'):RA X0 b0 s w (x',s.2) w':=⟨C,rfl,a⟩
end
end Go.Wf
namespace Go.Wf
open Go
mutual
def okE:GExpr→Prop
 | .mk _ _ c s l=>c.num.mag.length≤1000∧c.den.mag.length≤1000∧s.length≤1000∧okL l
def okL:List GExpr→Prop
 | []=>True
 | a::l=>okE a∧okL l
end
theorem Xq(a:GExpr):okE a=(a.c.num.mag.length≤1000∧a.c.den.mag.length≤1000∧a.name.length≤1000∧okL a.args):=by cases a;rw [okE];rfl
theorem Jau:∀ {l:List GExpr},okL l↔∀ i,i < l.length→okE (l.getD i default)
 | []=>⟨fun _ i h=>absurd h (J9m _),fun _=>trivial⟩
 | a::l=>by
  rw [okL,Jau (l:=l)]
  constructor
  ·rintro⟨h1,h2⟩ i hi
   cases i with
   | zero=>exact h1
   | succ i=>exact h2 i (by simp at hi;omega)
  ·intro h;exact⟨h 0 (by simp),fun i hi=>h (i+1) (by simp;omega)⟩
theorem xq{a:GExpr}{i:Nat}(h:okE a)(hi:i < a.args.length):okE (a.args.getD i default):=by
 rw [Xq] at h;exact Jau.1 h.2.2.2 i hi
theorem Jem:∀ n:Nat,∀ a:GExpr,SizeOf.sizeOf a < n→Yd a=true→okE a:=by
 intro n
 induction n with
 | zero=>intro _ h;exact absurd h (J9m _)
 | succ n ih=>
  intro a ha h;obtain⟨_,h2,h3,h4,h5⟩:=Ka.1 h;rw [Xq];exact⟨by omega,by omega,by omega,Jau.2 fun i hi=>ih _ (by have:=Qi hi;omega) (h5 i hi)⟩
theorem q9{a:GExpr}(h:Yd a=true):okE a:=Jem _ a (Nat.lt_succ_self _) h
theorem zz(a:GExpr):a.args.length < cntE a:=by rw [K3];have:=Jk4 a.args;omega
theorem RV.n_max{X:Nat→Prop}{w:World}{v:Value}{a:GExpr}(h:RV Jf X w v a):a.n.length≤9223372036854775807:=by
 obtain⟨a1,c1,a2,c2,a3,c3,a4,c4,_,h'⟩:=J8e h;obtain⟨_,_,_,h1,h2⟩:=h'.n.len;have hml:maxLen=9223372036854775807:=rfl;omega
theorem Zm {X:Nat→Prop} {w:World} {s1 s2 s3 s4:Value} (m:GExpr) (g1: -9223372036854775808≤m.op) (g2:m.op≤9223372036854775807) (g3:m.name.length≤maxLen)
  (h1:RS Zi X w s1 m.n) (h2:RS Je X w s2 m.c.num.mag) (h3:RS Je X w s3 m.c.den.mag) (h4:RS Jf X w s4 m.args):
  Jf.rd X w [.int .i64 m.op,s1,.bool m.c.num.neg,s2,.bool m.c.den.neg,s3,str m.name,s4] m:=by
 have h:=yz (b:=m.c.num.neg) (d:=m.c.den.neg) g1 g2 g3 h1 h2 h3 h4
 cases m;exact h
theorem J09{a:GExpr}{p:List GExpr}{i:Nat}(hp:p=a.args.take i)(hi:a.args.length≤i):GExpr.mk a.op a.n ⟨⟨a.c.num.neg,a.c.num.mag⟩,⟨a.c.den.neg,a.c.den.mag⟩⟩ a.name p=a:=by
 rw [hp,zq hi];cases a;rfl
theorem Jun{a:GExpr}{p:List GExpr}{i:Nat}(hp:p=a.args.take i)(hi:i < a.args.length):p++[a.args.getD i default]=a.args.take (i+1):=by
 rw [hp,V1 hi]
theorem vb{a:GExpr}(h:¬ (cntE a≤60∧lvlE a≤12)):7=Zs a:=by unfold Zs;rw [if_neg h]
theorem Jj5{a:GExpr}(h:cntE a≤60∧lvlE a≤12):errE a=Zs a:=by unfold Zs;rw [if_pos h]
def Xb:GRat:=⟨⟨false,[]⟩,⟨false,[]⟩⟩
def Vj:GExpr:= .mk 0 [] Xb [] []
def lowC(o:Int)(c:GRat):GRat:=if o=1 then ofQ c.q else Xb
mutual
def lowE:GExpr→GExpr
 | .mk o n c s l=> .mk o n (lowC o c) s (lowL l)
def lowL:List GExpr→List GExpr
 | []=>[]
 | a::l=>lowE a::lowL l
end
mutual
def repE(nm:List UInt8)(y:GExpr):GExpr→GExpr
 | .mk o n c s l=>if o=8∧s=nm then y else .mk o n c s (repL nm y l)
def repL(nm:List UInt8)(y:GExpr):List GExpr→List GExpr
 | []=>[]
 | a::l=>repE nm y a::repL nm y l
end
theorem Qq(a:GExpr):lowE a= .mk a.op a.n (lowC a.op a.c) a.name (lowL a.args):=by cases a;rw [lowE];rfl
theorem Yh:∀ l:List GExpr,lowL l=l.map lowE
 | []=>rfl
 | a::l=>by rw [lowL,Yh l];rfl
theorem Jmn{f:GExpr→GExpr}{l:List GExpr}{i:Nat}(h:i < l.length):(l.map f).getD i default=f (l.getD i default):=by
 rw [J9d,J9d,J94,J9f h];rfl
section
variable {a y:GExpr} {nm:List UInt8} {p:List GExpr} {i:Nat}
theorem Jgz(hp:p=lowL (a.args.take i))(hi:i < a.args.length):p++[lowE (a.args.getD i default)]=lowL (a.args.take (i+1)):=by
 rw [hp,V1 hi,Yh,Yh,List.map_append];rfl
theorem Jkw(hp:p=lowL (a.args.take i))(hi:a.args.length≤i):GExpr.mk a.op a.n ⟨⟨(lowC a.op a.c).num.neg,(lowC a.op a.c).num.mag⟩,⟨(lowC a.op a.c).den.neg,(lowC a.op a.c).den.mag⟩⟩ a.name p=lowE a:=by
 rw [Qq,hp,zq hi]
end
theorem Jq2{α:Type}{T:Ty α}{x:Nat→Prop}{w:World}{v:Value}{l:List α}(h:RS T x w v l):l.length≤9223372036854775807:=by
 obtain⟨_,_,_,h1,h2⟩:=h.len
 have:maxLen=9223372036854775807:=rfl
 omega
theorem Jxf{x:Nat→Prop}{w:World}{v:Value}{a:GInt}(h:RV Jv x w v a):a.mag.length≤9223372036854775807:=by
 obtain⟨_,_,_,h1⟩:=RV.int h;exact Jq2 h1
theorem va{p:GExpr→Prop}(h:∀ a,(∀ i,i < a.args.length→p (a.args.getD i default))→p a):∀ a,p a:=by
 have:∀ n:Nat,∀ a:GExpr,SizeOf.sizeOf a < n→p a:=by
  intro n
  induction n with
  | zero=>intro _ h;exact absurd h (J9m _)
  | succ n ih=>intro a ha;exact h a fun i hi=>ih _ (by have:=Qi hi;omega)
 exact fun a=>this _ a (Nat.lt_succ_self _)
theorem Jje{f:GExpr→GExpr}{k:Nat}:∀ l:List GExpr,(∀ i,i < l.length→cntE (f (l.getD i default))≤cntE (l.getD i default) * k)→cntL (l.map f)≤cntL l * k
 | [],_=>by simp [cntL]
 | a::l,h=>by
  have h0:=h 0 (by simp);have h1:=Jje l fun i hi=>h (i+1) (by simp;omega);rw [J93,cntL,cntL,Nat.add_mul];simp only [J9u] at h0;omega
theorem Jt0:∀ a:GExpr,cntE (lowE a)≤cntE a * 1:=va fun a ih=>by
 rw [Qq,cntE,Yh,K3 a]
 have:=Jje (f:=lowE) (k:=1) a.args ih
 omega
theorem zm:∀ {l:List GExpr},errL l=0↔∀ i,i < l.length→errE (l.getD i default)=0
 | []=>⟨fun _ i h=>absurd h (J9m _),fun _=>by rw [errL]⟩
 | a::l=>by
  rw [errL]
  constructor
  ·intro h i hi
   by_cases h0:errE a=0
   ·rw [if_pos h0] at h
    cases i with
    | zero=>exact h0
    | succ i=>exact zm.1 h i (by simp at hi;omega)
   ·rw [if_neg h0] at h;exact absurd h h0
  ·intro h;rw [if_pos (show errE a=0 from h 0 (by simp))];exact zm.2 fun i hi=>h (i+1) (by simp;omega)
theorem Jc3{a:GExpr}:errE a=0↔Kx a=0∧∀ i,i < a.args.length→errE (a.args.getD i default)=0:=by
 rw [yo]
 constructor
 ·intro h
  by_cases h0:Kx a=0
  ·rw [if_pos h0] at h;exact⟨h0,zm.1 h⟩
  ·rw [if_neg h0] at h;exact absurd h h0
 ·rintro⟨h1,h2⟩
  rw [if_pos h1];exact zm.2 h2
theorem Ja9{a:GExpr}:Kx a=0↔(cntOk a∧nameOk a)∧Jb2 a:=by
 unfold Kx
 constructor
 ·intro h
  by_cases h1:cntOk a∧nameOk a
  ·rw [if_pos h1] at h
   by_cases h2:Jb2 a
   ·exact⟨h1,h2⟩
   ·rw [if_neg h2] at h;cases h
  ·rw [if_neg h1] at h;cases h
 ·rintro⟨h1,h2⟩
  rw [if_pos h1,if_pos h2]
theorem Jk0{a:GExpr}{c:GRat}{l:List GExpr}(h:Kx a=0)(hc:a.op=1∨K5 c.q=0)(hl:l.length=a.args.length):Kx (.mk a.op a.n c a.name l)=0:=by
 obtain⟨⟨h1,h2⟩,h3⟩:=Ja9.1 h;refine Ja9.2 ⟨⟨⟨h1.o1,h1.o2,h1.n1,h1.n2,?_,?_⟩,⟨h2.e,h2.s,hc⟩⟩,h3⟩
 ·show cC a.op≤((l.length:Nat):Int)
  rw [hl];exact h1.a1
 ·show((l.length:Nat):Int)≤cD a.op
  rw [hl];exact h1.a2
theorem Jic:K5 Xb.q=0:=by
 unfold Xb GRat.q;simp [K5,GInt.toZ,val,Jl]
theorem Jtl:∀ a:GExpr,errE a=0→errE (lowE a)=0:=va fun a ih h=>by
 obtain⟨h1,h2⟩:=Jc3.1 h;rw [Qq];refine Jc3.2 ⟨Jk0 h1 ?_ (by rw [Yh,List.length_map]),?_⟩
 ·rcases Classical.em (a.op=1) with h3 | h3
  ·exact .inl h3
  ·exact .inr (by rw [lowC,if_neg h3];exact Jic)
 ·intro i hi;have hi':i < a.args.length:=by simpa [GExpr.args,Yh] using hi
  show errE ((lowL a.args).getD i default)=0
  rw [Yh,Jmn hi'];exact ih i hi' (h2 i hi')
def smE(a:GExpr):Prop:=∃ (X:Nat→Prop) (w:World) (v:Value),RV Jf X w v a
theorem Jli{a:GExpr}{i:Nat}(h:smE a)(hi:i < a.args.length):smE (a.args.getD i default):=by
 obtain⟨X,w,v,h⟩:=h;obtain⟨a1,c1,a2,c2,a3,c3,a4,c4,_,h'⟩:=J8e h;obtain⟨a5,c5,e,g1,g2,g3⟩:=h'.args
 rcases g3 with g3 | ⟨b,o,e2,hx,g3⟩
 ·rw [g3] at hi;exact absurd hi (J9m _)
 ·obtain⟨cs,hr,_⟩:=g3 i (a.args.getD i default) (Jc hi);exact⟨X,w,.agg cs.toArray,cs,rfl,hr⟩
theorem Jr2:∀ a:GExpr,Yd a=true→smE a→okE (lowE a):=va fun a ih h hs=>by
 obtain⟨_,h2,h3,h4,h5⟩:=Ka.1 h;rw [Qq,Xq];have hk:(lowC a.op a.c).num.mag.length≤1000∧(lowC a.op a.c).den.mag.length≤1000:=by
  unfold lowC
  split
  ·obtain⟨X,w,v,hv⟩:=hs;obtain⟨a1,c1,a2,c2,a3,c3,a4,c4,_,h'⟩:=J8e hv;have e1:=Kd (a:=a.c) h'.num.u32_small;have e2:=Ke (a:=a.c) h'.den.u32_small;omega
  ·exact⟨J9h _,J9h _⟩
 refine⟨hk.1,hk.2,by show a.name.length≤1000;omega,Jau.2 fun i hi=>?_⟩
 have hi':i < a.args.length:=by simpa [GExpr.args,Yh] using hi
 show okE ((lowL a.args).getD i default)
 rw [Yh,Jmn hi'];exact ih i hi' (h5 i hi') (Jli hs hi')
inductive Rr (α:Type) where
 | ok (a:α) (p:Nat)
 | er (e:Int) (p:Nat)
def Rr.th{α β:Type}(x:Rr α)(f:α→Nat→Rr β):Rr β:=match x with
 | .ok a p=>f a p
 | .er e p=> .er e p
theorem Rr.th_ok{α β:Type}(a:α)(p:Nat)(f:α→Nat→Rr β):(Rr.ok a p).th f=f a p:=rfl
def spM(s:List UInt8)(p:Nat):Nat:=p+((s.drop p).takeWhile (fun c=>decide (c.toNat=32))).length
def hdM(s:List UInt8)(p:Nat):Nat:=(s.getD (spM s p) 0).toNat
def folB(s:List UInt8)(p c:Nat):Bool:=decide (spM s p < s.length∧hdM s p=c)
def tkM(s:List UInt8)(p c:Nat):Rr Unit:=if folB s p c then .ok () (spM s p+1) else .er 19 (spM s p)
def opnM(s:List UInt8)(o p:Nat):Rr Unit:=if folB s p 40 then(if o=64 then .er 7 (spM s p) else .ok () (spM s p+1)) else .er 19 (spM s p)
def digL(s:List UInt8)(p:Nat):List UInt8:=(s.drop p).takeWhile digB
def dgsM(s:List UInt8)(p:Nat):Rr (List UInt8):=
 if digL s (spM s p)=[] then .er 19 (spM s p) else .ok (digL s (spM s p)) (spM s p+(digL s (spM s p)).length)
def Jm(d:List UInt8):Nat:=d.foldl (fun n c=>n * 10+(c.toNat - 48)) 0
def fpM(s:List UInt8)(p c:Nat):Nat:=if folB s p c then spM s p+1 else spM s p
def intM(s:List UInt8)(p:Nat):Rr Int:=(dgsM s (fpM s p 45)).th fun d q=>
 if 1000000 < Jm d then .er 2 (spM s p) else .ok (if folB s p 45 then -(Jm d:Int) else(Jm d:Int)) q
def Q3(s:List UInt8)(c:Nat):Nat→List Int→Nat→Rr (List Int)
 | 0,_,p=> .er 0 p
 | k+1,l,p=>if folB s p 44 then(intM s (spM s p+1)).th fun i q=>Q3 s c k (l++[i]) q
  else(tkM s p c).th fun _ q=> .ok l q
def Qj(s:List UInt8)(c p:Nat):Rr (List Int):=(intM s p).th fun i q=>Q3 s c (s.length+1) [i] q
def eNum(n d:Int):GExpr:= .mk 1 [] (ofQ (Rat.divInt n d)) [] []
def eOp(op:Int)(n:List Int)(l:List GExpr):GExpr:= .mk op n Xb [] l
def Jmq(w:List UInt8):GExpr:= .mk 8 [] Xb w []
def numM(s:List UInt8)(p:Nat):Rr GExpr:=(dgsM s p).th fun n q=>
 if folB s q 47 then(dgsM s (spM s q+1)).th fun d q'=>
  if Jm d=0 then .er 19 (spM s (spM s q+1)) else .ok (eNum (Jm n) (Jm d)) q'
 else .ok (eNum (Jm n) 1) (spM s q)
def Zo(s:List UInt8)(p:Nat):List UInt8:=(s.drop p).takeWhile okB
section
variable (s:List UInt8) (S:Nat→Nat→Rr GExpr)
def oneM(op:Int)(two:Bool)(o p:Nat):Rr GExpr:=(opnM s o p).th fun _ p1=>(intM s p1).th fun n p2=>(tkM s p2 44).th fun _ p3=>(S (o+1) p3).th fun a p4=>
 if two then(tkM s p4 44).th fun _ p5=>(S (o+1) p5).th fun b p6=>(tkM s p6 41).th fun _ p7=> .ok (eOp op [n] [a,b]) p7
 else(tkM s p4 41).th fun _ p5=> .ok (eOp op [n] [a]) p5
def V8(op:Int)(o p:Nat):Rr GExpr:=(opnM s o p).th fun _ p1=>(Qj s 41 p1).th fun l p2=> .ok (eOp op l []) p2
def twoM(op:Int)(o p:Nat):Rr GExpr:=(opnM s o p).th fun _ p1=>(intM s p1).th fun n p2=>(tkM s p2 41).th fun _ p3=>(tkM s p3 91).th fun _ p4=>
 (Qj s 93 p4).th fun l p5=> .ok (eOp op (n::l) []) p5
def serM(o p:Nat):Rr GExpr:=(opnM s o p).th fun _ p1=>(S (o+1) p1).th fun a p2=>(tkM s p2 41).th fun _ p3=> .ok (eOp 17 [] [a]) p3
def Z2(w:List UInt8)(q o p:Nat):Rr GExpr:=
 if w=[68,101,108,116,97] then .ok (eOp 6 [] []) p
 else if w=[106] then .ok (eOp 7 [] []) p
 else if w=[71] then V8 s 3 o p
 else if w=[110,101,119,102,111,114,109] then V8 s 9 o p
 else if w=[101,116,97] then twoM s 4 o p
 else if w=[116,104,101,116,97] then twoM s 5 o p
 else if w=[86] then oneM s S 13 false o p
 else if w=[85] then oneM s S 14 false o p
 else if w=[84] then oneM s S 15 false o p
 else if w=[116,119,105,115,116] then oneM s S 16 false o p
 else if w=[98,114,97,99,107,101,116] then oneM s S 18 true o p
 else if w=[115,101,114,114,101] then serM s S o p
 else if Kc w then .ok (Jmq w) p else .er 19 q
def Yj(o p:Nat):Rr (GExpr × Bool):=
 if Yn (hdM s p) then(numM s (spM s p)).th fun a q=> .ok (a,true) q
 else if hdM s p=40 then(opnM s o (spM s p)).th fun _ p1=>(S (o+1) p1).th fun a p2=>(tkM s p2 41).th fun _ p3=> .ok (a,false) p3
 else if Y6 (hdM s p) then
  let w:=Zo s (spM s p)
  let q:=spM s p+w.length
  if J2 w then(if 1000000 < Jm (w.drop 1) then .er 2 (spM s p+1) else .ok (eOp 2 [(Jm (w.drop 1):Int)] [],false) q)
  else(Z2 s S w (spM s p) o q).th fun a q=> .ok (a,false) q
 else .er 19 (spM s p)
def powM(o p:Nat):Rr (GExpr × Bool):=(Yj s S o p).th fun a q=>
 if folB s q 94 then(intM s (spM s q+1)).th fun n q'=> .ok (eOp 12 [n] [a.1],false) q' else .ok a (spM s q)
def Jb1(o:Nat):Nat→List GExpr→Nat→Rr (List GExpr)
 | 0,_,p=> .er 0 p
 | k+1,l,p=>if folB s p 42 then(powM s S o (spM s p+1)).th fun a q=>Jb1 o k (l++[a.1]) q else .ok l (spM s p)
def Kg(op:Int)(l:List GExpr):GExpr:=match l with
 | [a]=>a
 | l=>eOp op [] l
def negE(a:GExpr):GExpr:= .mk a.op a.n (ofQ (-a.c.q)) a.name a.args
def negL(minus plain:Bool)(l:List GExpr):List GExpr:=
 if minus then(if plain then negE (l.getD 0 default)::l.drop 1 else eNum (-1) 1::l) else l
def Kz(minus:Bool)(o p:Nat):Rr GExpr:=(powM s S o p).th fun a q=>(Jb1 s S o (s.length+1) [a.1] q).th fun l q'=> .ok (Kg 11 (negL minus a.2 l)) q'
def sumL(o:Nat):Nat→List GExpr→Nat→Rr (List GExpr)
 | 0,_,p=> .er 0 p
 | k+1,l,p=>if folB s p 43 then(Kz s S false o (spM s p+1)).th fun a q=>sumL o k (l++[a]) q
  else if folB s p 45 then(Kz s S true o (spM s p+1)).th fun a q=>sumL o k (l++[a]) q else .ok l (spM s p)
def sumF(o p:Nat):Rr GExpr:=(Kz s S (folB s p 45) o (fpM s p 45)).th fun a q=>(sumL s S o (s.length+1) [a] q).th fun l q'=> .ok (Kg 10 l) q'
end
def sumM(s:List UInt8):Nat→Nat→Nat→Rr GExpr
 | 0,_,p=> .er 0 p
 | k+1,o,p=>sumF s (sumM s k) o p
def zd(s:List UInt8):Rr GExpr:=(sumM s (s.length+1) 0 0).th fun a p=>if spM s p < s.length then .er 19 (spM s p) else .ok a 0
def Yz(s:List UInt8):GExpr × Nat × Int:=if 4000 < s.length then(Vj,0,7) else match zd s with
 | .er e p=>(Vj,p,e)
 | .ok a _=>if Zs a=0 then(a,0,0) else(Vj,0,Zs a)
theorem V3{s:List UInt8}{p:Nat}:p≤spM s p:=Nat.le_add_right _ _
theorem xz{α:Type}(f:α→Bool):∀ l:List α,(l.takeWhile f).length≤l.length
 | []=>J9g _
 | a::l=>by
  rw [List.takeWhile_cons];split
  ·simp only [J80];have:=xz f l;omega
  ·exact J9h _
theorem K0{s:List UInt8}{p:Nat}(h:p≤s.length):spM s p≤s.length:=by
 unfold spM
 have:=xz (fun c:UInt8=>decide (c.toNat=32)) (s.drop p)
 rw [J9a] at this;omega
theorem Vf{s:List UInt8}{p:Nat}(h:p < s.length):s.drop p=s.getD p 0::s.drop (p+1):=by
 rw [List.drop_eq_getElem_cons h,J9d,J9f h];rfl
theorem Jja{s:List UInt8}{p:Nat}(h:p < s.length)(h2:(s.getD p 0).toNat=32):spM s (p+1)=spM s p:=by
 unfold spM;rw [Vf h,List.takeWhile_cons,if_pos (J84 h2),J80];omega
theorem Jfk{s:List UInt8}{p:Nat}(h2:¬ (s.getD p 0).toNat=32):spM s p=p:=by
 unfold spM
 by_cases h:p < s.length
 ·rw [Vf h,List.takeWhile_cons,if_neg (by rw [decide_eq_true_eq];exact h2)];rfl
 ·rw [List.drop_eq_nil_of_le (by omega)];rfl
theorem Jkj{s:List UInt8}{p:Nat}(h:s.length≤p):spM s p=p:=by
 unfold spM;rw [List.drop_eq_nil_of_le h];rfl
theorem Ji4:∀ (n:Nat) (s:List UInt8) (p:Nat),s.length≤p+n→¬ (s.getD (spM s p) 0).toNat=32
 | 0,s,p,h=>by rw [Jkj (by omega),J9d,J9z (by omega)];decide
 | n+1,s,p,h=>by
  by_cases h1:p < s.length
  ·by_cases h2:(s.getD p 0).toNat=32
   ·rw [← Jja h1 h2];exact Ji4 n s (p+1) (by omega)
   ·rw [Jfk h2];exact h2
  ·rw [Jkj (by omega),J9d,J9z (by omega)];decide
theorem Jih(s:List UInt8)(p:Nat):spM s (spM s p)=spM s p:=Jfk (Ji4 s.length s p (by omega))
theorem Jz0{s:List UInt8}{p c:Nat}(h1:spM s p < s.length)(h2:hdM s p=c):folB s p c=true:=J84 ⟨h1,h2⟩
theorem Jpi{s:List UInt8}{p c:Nat}(h:¬ (spM s p < s.length∧hdM s p=c)):folB s p c=false:=J83 h
theorem Qy{s:List UInt8}{p c:Nat}:folB s p c=true↔spM s p < s.length∧hdM s p=c:=decide_eq_true_iff
theorem hd_sp(s:List UInt8)(p:Nat):hdM s (spM s p)=hdM s p:=by unfold hdM;rw [Jih]
theorem Jcx(s:List UInt8)(p c:Nat):folB s (spM s p) c=folB s p c:=by unfold folB;rw [Jih,hd_sp]
theorem vf{s:List UInt8}{p c:Nat}:p≤fpM s p c:=by
 unfold fpM;have:=V3 (s:=s) (p:=p);split <;> omega
theorem Y1{s:List UInt8}{p c:Nat}(h:p≤s.length):fpM s p c≤s.length:=by
 unfold fpM;have:=K0 h
 split
 ·rename_i hf;exact(Qy.1 hf).1
 ·exact this
theorem Jk1{s:List UInt8}{i p:Nat}(hR:spM s i=spM s p)(h:s.length≤i):i=spM s p:=by rw [← hR,Jkj h]
theorem Jyh{s:List UInt8}{i p:Nat}(hR:spM s i=spM s p)(h:s.length≤i):(0:Int)=((hdM s p:Nat):Int):=by
 unfold hdM;rw [← Jk1 hR h,J9d,J9z h];rfl
theorem Jrz{s:List UInt8}{i p:Nat}(hR:spM s i=spM s p)(h:¬ (s.getD i 0).toNat=32):i=spM s p:=by rw [← hR,Jfk h]
theorem pk_at{s:List UInt8}{i p:Nat}(hR:spM s i=spM s p)(h:¬ (s.getD i 0).toNat=32):(((s.getD i 0).toNat:Nat):Int)=((hdM s p:Nat):Int):=by
 unfold hdM;rw [← Jrz hR h]
theorem Ji8{α:Type}(f:α→Bool):∀ l:List α,l.takeWhile f=l.take (l.takeWhile f).length
 | []=>rfl
 | a::l=>by
  rw [List.takeWhile_cons];split
  ·rw [J80,List.take_succ_cons,← Ji8 f l]
  ·rfl
section
variable {f:UInt8→Bool} {s:List UInt8} {i p:Nat}
theorem Jks(h:i < s.length)(h2:f (s.getD i 0)=true):(i+1)+((s.drop (i+1)).takeWhile f).length=i+((s.drop i).takeWhile f).length:=by
 rw [Vf h,List.takeWhile_cons,if_pos h2,J80];omega
theorem Jgt(h:s.length≤i):(s.drop i).takeWhile f=[]:=by rw [List.drop_eq_nil_of_le h];rfl
theorem Jd8(h2:f (s.getD i 0)=false):(s.drop i).takeWhile f=[]:=by
 by_cases h:i < s.length
 ·rw [Vf h,List.takeWhile_cons,if_neg (by rw [h2];decide)]
 ·exact Jgt (by omega)
theorem Jfh(h0:(s.drop i).takeWhile f=[])(hR:i+((s.drop i).takeWhile f).length=p+((s.drop p).takeWhile f).length):i=p+((s.drop p).takeWhile f).length:=by
 rw [h0] at hR;exact hR
theorem Jrg(h0:(s.drop i).takeWhile f=[])(hR:i+((s.drop i).takeWhile f).length=p+((s.drop p).takeWhile f).length):(s.take i).drop p=(s.drop p).takeWhile f:=by
 have h:=Jfh h0 hR;rw [List.drop_take,Ji8 f (s.drop p)]
 congr 1;omega
end
theorem Jkt{s:List UInt8}{i:Nat}(h:i < s.length)(h2:Y6 (s.getD i 0).toNat=true∨Yn (s.getD i 0).toNat=true):(i+1)+(Zo s (i+1)).length=i+(Zo s i).length:=by
 refine Jks h ?_;unfold okB
 rcases h2 with h2 | h2
 ·rw [h2];rfl
 ·rw [h2,Bool.or_true]
theorem Jk3{s:List UInt8}{i:Nat}(h1:¬ Y6 (s.getD i 0).toNat=true)(h2:¬ Yn (s.getD i 0).toNat=true):Zo s i=[]:=
 Jd8 (Jo3 (Bool.eq_false_iff.2 h1) (Bool.eq_false_iff.2 h2))
theorem Jsc{s:List UInt8}{i:Nat}(h:s.length≤i):Zo s i=[]:=Jgt h
theorem Jrn{s:List UInt8}{i p:Nat}(h0:Zo s i=[])(hR:i+(Zo s i).length=p+(Zo s p).length):(s.take i).drop p=Zo s p:=Jrg h0 hR
theorem Jm0{s:List UInt8}{i p:Nat}(h0:Zo s i=[])(hR:i+(Zo s i).length=p+(Zo s p).length):i=p+(Zo s p).length:=Jfh h0 hR
theorem Jx7{s:List UInt8}{i p:Nat}(h0:digL s i=[])(hR:i+(digL s i).length=spM s p+(digL s (spM s p)).length)(hc:i=spM s p):dgsM s p= .er 19 i:=by
 have h:digL s (spM s p)=[]:=by rw [← hc];exact h0
 unfold dgsM;rw [if_pos h,hc]
theorem Jzw{s:List UInt8}{i p:Nat}(h0:digL s i=[])(hR:i+(digL s i).length=spM s p+(digL s (spM s p)).length)(hc:¬ i=spM s p):dgsM s p= .ok ((s.take i).drop (spM s p)) i:=by
 have h1:=Jfh (f:=digB) h0 hR;have h:¬ digL s (spM s p)=[]:=fun h=>by
  have:(digL s (spM s p)).length=0:=by rw [h];rfl
  unfold digL at this;omega
 unfold dgsM;rw [if_neg h,Jrg (f:=digB) h0 hR];unfold digL;rw [← h1]
def Rr.fw{α:Type}(s:List UInt8)(p:Nat)(x:Rr α):Prop:=match x with
 | .ok _ q=>p≤q∧q≤s.length
 | .er _ q=>q≤s.length
theorem Rr.fw_th{α β:Type}{s:List UInt8}{p:Nat}{x:Rr α}{f:α→Nat→Rr β}(h:x.fw s p)(hf:∀ a q,p≤q→q≤s.length→(f a q).fw s q):(x.th f).fw s p:=by
 cases x with
 | ok a q=>
  rw [Rr.th_ok]
  have:=hf a q h.1 h.2
  cases hx:f a q with
  | ok b r=>rw [hx] at this;exact⟨J86 h.1 this.1,this.2⟩
  | er e r=>rw [hx] at this;exact this
 | er e q=>exact h
theorem Rr.fw_mono{α:Type}{s:List UInt8}{p q:Nat}{x:Rr α}(h:x.fw s q)(hp:p≤q):x.fw s p:=by
 cases x with
 | ok a r=>exact⟨J86 hp h.1,h.2⟩
 | er e r=>exact h
theorem Rr.fw_ite{α:Type}{c:Prop}[Decidable c]{s:List UInt8}{p:Nat}{x y:Rr α}(hx:x.fw s p)(hy:y.fw s p):(if c then x else y).fw s p:=by split <;> assumption
theorem Xf{s:List UInt8}{p c:Nat}(h:p≤s.length):(tkM s p c).fw s (p+1):=by
 unfold tkM;have h1:=V3 (s:=s) (p:=p)
 split
 ·rename_i hf;exact⟨by omega,(Qy.1 hf).1⟩
 ·exact K0 h
theorem Z5{s:List UInt8}{o p:Nat}(h:p≤s.length):(opnM s o p).fw s (p+1):=by
 unfold opnM;have h1:=V3 (s:=s) (p:=p)
 split
 ·rename_i hf
  split
  ·exact K0 h
  ·exact⟨by omega,(Qy.1 hf).1⟩
 ·exact K0 h
theorem Ja1{s:List UInt8}{p:Nat}(h:p≤s.length):(dgsM s p).fw s (p+1):=by
 unfold dgsM;have h1:=V3 (s:=s) (p:=p);have h2:=K0 h;have h3:=xz digB (s.drop (spM s p));rw [J9a] at h3
 split
 ·exact h2
 ·rename_i hn
  have:0 < (digL s (spM s p)).length:=List.length_pos_iff.2 hn
  unfold digL at this ⊢;exact⟨by omega,by omega⟩
theorem Yq{s:List UInt8}{p:Nat}(h:p≤s.length):(intM s p).fw s p:=by
 unfold intM;refine Rr.fw_th (Rr.fw_mono (Ja1 (Y1 h)) (by have:=vf (s:=s) (p:=p) (c:=45);omega)) fun d q h1 h2=>?_
 split
 ·exact K0 h
 ·exact⟨J9g _,h2⟩
theorem Jgn{s:List UInt8}{c:Nat}:∀ (k:Nat) (l:List Int) (p:Nat),p≤s.length→(Q3 s c k l p).fw s p
 | 0,l,p,h=>h
 | k+1,l,p,h=>by
  unfold Q3;have h1:=V3 (s:=s) (p:=p)
  split
  ·rename_i hf
   exact Rr.fw_mono (Rr.fw_th (Yq (Qy.1 hf).1) fun i q _ hq=>Jgn k _ q hq) (by omega)
  ·exact Rr.fw_th (Rr.fw_mono (Xf h) (by omega)) fun _ q _ hq=>⟨J9g _,hq⟩
theorem Jiz{s:List UInt8}{c p:Nat}(h:p≤s.length):(Qj s c p).fw s p:=Rr.fw_th (Yq h) fun i q _ hq=>Jgn _ _ q hq
theorem Jxj{s:List UInt8}{p:Nat}(h:p≤s.length):(numM s p).fw s p:=by
 unfold numM;refine Rr.fw_th (Rr.fw_mono (Ja1 h) (by omega)) fun n q h1 h2=>?_
 have h3:=V3 (s:=s) (p:=q)
 split
 ·rename_i hf
  have h4:=(Qy.1 hf).1;refine Rr.fw_mono (Rr.fw_th (Rr.fw_mono (Ja1 (p:=spM s q+1) h4) (Nat.le_succ _)) fun d r h5 h6=>?_) (by omega)
  split
  ·exact K0 h4
  ·exact⟨J9g _,h6⟩
 ·exact⟨h3,K0 h2⟩
section
variable {s:List UInt8} {S:Nat→Nat→Rr GExpr} (hS:∀ o p,p≤s.length→(S o p).fw s p)
include hS
theorem Jcv{op:Int}{two:Bool}{o p:Nat}(h:p≤s.length):(oneM s S op two o p).fw s p:=by
 unfold oneM;refine Rr.fw_th (Rr.fw_mono (Z5 h) (Nat.le_succ _)) fun _ p1 _ h1=>Rr.fw_th (Yq h1) fun n p2 _ h2=>Rr.fw_th (Rr.fw_mono (Xf h2) (Nat.le_succ _)) fun _ p3 _ h3=>Rr.fw_th (hS _ _ h3) fun a p4 _ h4=>?_
 split
 ·exact Rr.fw_th (Rr.fw_mono (Xf h4) (Nat.le_succ _)) fun _ p5 _ h5=>Rr.fw_th (hS _ _ h5) fun b p6 _ h6=>Rr.fw_th (Rr.fw_mono (Xf h6) (Nat.le_succ _)) fun _ p7 _ h7=>⟨J9g _,h7⟩
 ·exact Rr.fw_th (Rr.fw_mono (Xf h4) (Nat.le_succ _)) fun _ p5 _ h5=>⟨J9g _,h5⟩
theorem Jz6{o p:Nat}(h:p≤s.length):(serM s S o p).fw s p:=
 Rr.fw_th (Rr.fw_mono (Z5 h) (Nat.le_succ _)) fun _ p1 _ h1=>Rr.fw_th (hS _ _ h1) fun a p2 _ h2=>Rr.fw_th (Rr.fw_mono (Xf h2) (Nat.le_succ _)) fun _ p3 _ h3=>⟨J9g _,h3⟩
omit hS in
theorem Jmw{op:Int}{o p:Nat}(h:p≤s.length):(V8 s op o p).fw s p:=
 Rr.fw_th (Rr.fw_mono (Z5 h) (Nat.le_succ _)) fun _ p1 _ h1=>Rr.fw_th (Jiz h1) fun l p2 _ h2=>⟨J9g _,h2⟩
omit hS in
theorem Jql{op:Int}{o p:Nat}(h:p≤s.length):(twoM s op o p).fw s p:=
 Rr.fw_th (Rr.fw_mono (Z5 h) (Nat.le_succ _)) fun _ p1 _ h1=>Rr.fw_th (Yq h1) fun n p2 _ h2=>Rr.fw_th (Rr.fw_mono (Xf h2) (Nat.le_succ _)) fun _ p3 _ h3=>
  Rr.fw_th (Rr.fw_mono (Xf h3) (Nat.le_succ _)) fun _ p4 _ h4=>Rr.fw_th (Jiz h4) fun l p5 _ h5=>⟨J9g _,h5⟩
theorem Jv9{w:List UInt8}{q o p:Nat}(h:p≤s.length)(hq:q≤s.length):(Z2 s S w q o p).fw s p:=by
 unfold Z2;have e:∀ a:GExpr,(Rr.ok a p).fw s p:=fun a=>⟨J9g _,h⟩;refine Rr.fw_ite (e _) (Rr.fw_ite (e _) (Rr.fw_ite (Jmw h) (Rr.fw_ite (Jmw h) (Rr.fw_ite (Jql h) (Rr.fw_ite (Jql h) ?_)))));refine Rr.fw_ite (Jcv hS h) (Rr.fw_ite (Jcv hS h) (Rr.fw_ite (Jcv hS h) (Rr.fw_ite (Jcv hS h) (Rr.fw_ite (Jcv hS h) (Rr.fw_ite (Jz6 hS h) (Rr.fw_ite (e _) hq))))))
theorem Xu{o p:Nat}(h:p≤s.length):(Yj s S o p).fw s p:=by
 have h1:=V3 (s:=s) (p:=p);have h2:=K0 h;have hw:spM s p+(Zo s (spM s p)).length≤s.length:=by
  have:=xz okB (s.drop (spM s p))
  rw [J9a] at this;unfold Zo;omega
 unfold Yj
 split
 ·exact Rr.fw_mono (Rr.fw_th (Jxj h2) fun a q _ hq=>⟨J9g _,hq⟩) h1
 split
 ·exact Rr.fw_mono (Rr.fw_th (Rr.fw_mono (Z5 h2) (Nat.le_succ _)) fun _ p1 _ h3=>Rr.fw_th (hS _ _ h3) fun a p2 _ h4=>Rr.fw_th (Rr.fw_mono (Xf h4) (Nat.le_succ _)) fun _ p3 _ h5=>⟨J9g _,h5⟩) h1
 split
 ·dsimp only
  split
  ·rename_i hwt
   split
   ·have:0 < (Zo s (spM s p)).length:=by
     unfold J2 at hwt;simp only [Bool.and_eq_true,decide_eq_true_eq] at hwt;omega
    show _≤_
    omega
   ·exact⟨by omega,hw⟩
  ·exact Rr.fw_mono (Rr.fw_th (Jv9 hS hw h2) fun a q _ hq=>⟨J9g _,hq⟩) (by omega)
 ·exact h2
theorem Jmr{o p:Nat}(h:p≤s.length):(powM s S o p).fw s p:=by
 unfold powM;refine Rr.fw_th (Xu hS h) fun a q h1 h2=>?_
 have h3:=V3 (s:=s) (p:=q)
 split
 ·rename_i hf
  exact Rr.fw_mono (Rr.fw_th (Yq (Qy.1 hf).1) fun n r _ hr=>⟨J9g _,hr⟩) (by omega)
 ·exact⟨h3,K0 h2⟩
theorem Jfz{o:Nat}:∀ (k:Nat) (l:List GExpr) (p:Nat),p≤s.length→(Jb1 s S o k l p).fw s p
 | 0,l,p,h=>h
 | k+1,l,p,h=>by
  unfold Jb1;have h1:=V3 (s:=s) (p:=p)
  split
  ·rename_i hf
   exact Rr.fw_mono (Rr.fw_th (Jmr hS (Qy.1 hf).1) fun a q _ hq=>Jfz k _ q hq) (by omega)
  ·exact⟨h1,K0 h⟩
theorem Kl{minus:Bool}{o p:Nat}(h:p≤s.length):(Kz s S minus o p).fw s p:=
 Rr.fw_th (Jmr hS h) fun a q _ hq=>Rr.fw_th (Jfz hS _ _ q hq) fun l r _ hr=>⟨J9g _,hr⟩
theorem Jfj{o:Nat}:∀ (k:Nat) (l:List GExpr) (p:Nat),p≤s.length→(sumL s S o k l p).fw s p
 | 0,l,p,h=>h
 | k+1,l,p,h=>by
  unfold sumL;have h1:=V3 (s:=s) (p:=p)
  split
  ·rename_i hf
   exact Rr.fw_mono (Rr.fw_th (Kl hS (Qy.1 hf).1) fun a q _ hq=>Jfj k _ q hq) (by omega)
  split
  ·rename_i hf
   exact Rr.fw_mono (Rr.fw_th (Kl hS (Qy.1 hf).1) fun a q _ hq=>Jfj k _ q hq) (by omega)
  ·exact⟨h1,K0 h⟩
theorem Jvy{o p:Nat}(h:p≤s.length):(sumF s S o p).fw s p:=
 Rr.fw_mono (Rr.fw_th (Kl hS (Y1 h)) fun a q _ hq=>Rr.fw_th (Jfj hS _ _ q hq) fun l r _ hr=>⟨J9g _,hr⟩) vf
end
theorem Jgw{s:List UInt8}:∀ (k o p:Nat),p≤s.length→(sumM s k o p).fw s p
 | 0,o,p,h=>h
 | k+1,o,p,h=>Jvy (Jgw k) h
end Go.Wf
namespace Go.Wf
open Go Go.RowKit
structure OW {α:Type} (T:Ty α) (E:TypeId) (x:Nat→Prop) (w:World) (v:Value) (l:List α):Prop where
 ex:∃ css:List (List Value),css.length=l.length∧(∀ (i:Nat) (cs:List Value) (u:α),css[i]? =some cs→l[i]? =some u→T.rd x w cs u)∧w.ownsRow 0 E T.sz v l.length css.flatten
def RetO(w:World)(o:Option Nat)(Φ:Value→World→Prop):Ending→World→Prop
 | .returned v,w'=>Φ v w'∧Bel ⟨w,fun k=>o=some k⟩ w'
 | _,_=>False
def OWr{α:Type}(T:Ty α)(E:TypeId)(X:Nat→Prop)(w:World)(o:Option Nat)(v:Value)(w':World)(l:List α):Prop:=
 OW T E (fun b=>X b∨v.ownBlock=some b) w' v l∧∀ k,v.ownBlock=some k→o=some k∨w.heap.size≤k
section
variable {α:Type} {T:Ty α} {E:TypeId} {X X0 x y:Nat→Prop} {w w':World} {w0:Bs} {v:Value} {l:List α}
theorem OW.opn(h:OW T E X w v l):∃ a c,v= .slice a l.length c∧l.length≤c∧c≤maxLen:=by
 obtain⟨⟨css,h1,h2,h3⟩⟩:=h
 rcases h3.2 with ⟨rfl,h⟩ | ⟨g,cap,cur,rfl,_,_,h4,h5,_⟩
 ·exact⟨none,0,by rw [h],by omega,by unfold maxLen;omega⟩
 ·exact⟨_,cap,rfl,h4,h5⟩
theorem OW.start(h:OW T E X w v l)(hX:∀ b,X b→b < w.heap.size)(hm:∀ k,v.ownBlock=some k→X k):
  ∃ M:Nat→Prop,Cx X ⟨w,M⟩ X Zn w∧OS T E ⟨w,M⟩ X Zn w v l∧∀ k,M k→v.ownBlock=some k:=
 ⟨fun k=>v.ownBlock=some k,⟨Bel.refl _,fun _ h=>h,hX,fun _ h=>h.elim⟩,⟨h.ex,fun k hk=>⟨⟨hm k hk,id⟩,.inr hk⟩⟩,fun _ h=>h⟩
theorem Cx.backO{v2:Value}{l2:List α}(C:Cx X0 w0 x y w)(ho:∀ k,v.ownBlock=some k→(x k∧¬ y k)∧(w0.heap.size≤k∨w0.M k))(b:Bel ⟨w,fun k=>v.ownBlock=some k⟩ w')(h:OWr T E x w v.ownBlock v2 w' l2):
  Cx X0 w0 (fun b=>x b∨v2.ownBlock=some b) y w'∧Ap x w (fun b=>x b∨v2.ownBlock=some b) y w'∧OS T E w0 (fun b=>x b∨v2.ownBlock=some b) y w' v2 l2:=by
 obtain⟨⟨css,h1,h2,h3⟩,hn⟩:=h;have hsz:w.heap.size≤w'.heap.size:=b.size;have hlt:∀ k,v2.ownBlock=some k→k < w'.heap.size:=fun k hk=>(h3.lt k hk).2;refine⟨⟨⟨b.os.trans C.below.os,b.tape.trans C.below.tape,b.output.trans C.below.output,J86 C.below.size hsz,fun k hk hm=>?_⟩,fun k hk=> .inl (C.base k hk),?_,fun k hk=> .inl (C.yx k hk)⟩,⟨⟨?_,fun k hk hx=>b.block k hk fun e=>hx (ho k e).1.1,hsz⟩,fun k hk hy=>b.block k hk fun e=>(ho k e).1.2 hy⟩,⟨⟨css,h1,h2,h3⟩,fun k hk=>?_⟩⟩
 ·refine(b.block k (J85 hk C.below.size) fun e=>?_).trans (C.below.block k hk hm)
  rcases(ho k e).2 with h4 | h4
  ·omega
  ·exact hm h4
 ·rintro k (hk | hk)
  ·exact J85 (C.bd k hk) hsz
  ·exact hlt k hk
 ·rintro k hk (h4 | h4)
  ·exact h4
  ·rcases hn k h4 with h5 | h5
   ·exact(ho k h5).1.1
   ·omega
 ·rcases hn k hk with h5 | h5
  ·exact⟨⟨.inr hk,(ho k h5).1.2⟩,(ho k h5).2⟩
  ·exact⟨⟨.inr hk,fun hy=>by have:=C.bd k (C.yx k hy);omega⟩,.inl (J86 C.below.size h5)⟩
theorem OS.ow(h:OS T E w0 x y w v l):OW T E x w v l:=⟨h.ex⟩
theorem OS.take{a:Option Addr}{n c j:Nat}(h:OS T E w0 x y w (.slice a n c) l)(hj:j≤l.length):OS T E w0 x y w (.slice a j c) (l.take j):=by
 obtain⟨⟨css,h1,h2,h3⟩,hm⟩:=h;have hall:=K7 h1 h2;have hfl:∀ (css:List (List Value)) (j:Nat),(∀ cs ∈ css,cs.length=T.sz)→j≤css.length→(css.take j).flatten=css.flatten.take (j * T.sz)∧(css.take j).flatten.length=j * T.sz:=by
  intro css
  induction css with
  | nil=>intro j _ hj;simp at hj;subst hj;simp
  | cons cs css ih=>
   intro j hh hj
   cases j with
   | zero=>simp
   | succ j=>
    obtain⟨e1,e2⟩:=ih j (fun q hq=>hh q (by simp [hq])) (by simpa using hj);have h0:=hh cs (by simp);rw [List.take_succ_cons,List.flatten_cons,List.flatten_cons,List.take_append,e1,Nat.succ_mul,h0];refine⟨?_,?_⟩
    ·rw [show cs.take (j * T.sz+T.sz)=cs from J9o (by omega),show j * T.sz+T.sz - T.sz=j * T.sz by omega]
    ·rw [J8z,← e1,e2,h0];omega
 obtain⟨e1,e2⟩:=hfl css j hall (by omega);refine⟨⟨css.take j,by rw [J9b,J9b];omega,fun i cs u hi hu=>?_,?_⟩,fun k hk=>hm k (by cases a <;> simp [Value.ownBlock] at hk ⊢ <;> exact hk)⟩
 ·rw [List.getElem?_take] at hi hu
  split at hi
  ·rename_i hlt
   rw [if_pos hlt] at hu;exact h2 i cs u hi hu
  ·cases hi
 ·have hjl:(l.take j).length=j:=by rw [J9b];omega
  rw [hjl];refine⟨e2,?_⟩
  rcases h3.2 with ⟨e,h⟩ | ⟨g,cap,cur,e,hb,hg,h4,h5,h6,h7⟩
  ·cases e
   left
   refine⟨by rw [show j=0 by omega],by omega⟩
  ·injection e with e3 e4 e5
   subst e3;subst e5
   right
   refine⟨g,c,cur,rfl,hb,hg,by omega,h5,h6,?_⟩;rw [e1,← h7,List.take_take,Nat.min_eq_left (Nat.mul_le_mul_right _ hj)]
end
section
variable {P:Program} {ρ:Operand→Value} {w:World} {K:Value→World→Prop} {Kp:List PanicEntry→World→Prop} {dst:Option Tmp} {ty:TypeId} {pos:String} {after:Array Edge} {gd:Option (Nat × Bool)} {X0 x y:Nat→Prop} {w0:Bs} {α:Type} {T:Ty α} {E:TypeId}
theorem J68 {k:FuncId} {args:Array Operand} {ts:Array TypeId} {vs:List Value} {v1:Value} {l l2:List α} (C:Cx X0 w0 x y w) (ho:OS T E w0 x y w v1 l) (hk:Jb P k=true)
  (ha:args.toList.map ρ=vs) (he:ρ (.func k)= .func (.func k) #[] #[]) (hc:Calls P k vs.toArray w (RetO w v1.ownBlock fun _ w'=>OWr T E x w v1.ownBlock v1 w' l2))
  (h:∀ v w' x',Cx X0 w0 x' y w'→Ap x w x' y w'→(∀ b,x b→x' b)→OS T E w0 x' y w' v1 l2→K v w'):
  St P ρ ⟨dst,.call {callee:= .value (.func k),args:=args,argTypes:=ts},ty,pos,after,gd⟩ w K Kp:=by
 unfold Jb at hk
 split at hk
 ·rename_i fn hf
  simp only [Bool.and_eq_true,Bool.not_eq_true'] at hk;refine J6y hf hk.1 hk.2 ha (Calls.mono hc ?_) he;intro e w' hr
  cases e with
  | returned v=>obtain⟨h1,h2⟩:=hr;obtain⟨c,a,o⟩:=C.backO ho.mem h2 h1;exact h v w' _ c a (fun _ h=> .inl h) o
  | panicked ch=>exact hr.elim
  | outgrown=>exact hr.elim
 ·cases hk
theorem J8x {a r:Operand} {t e:TypeId} {z:Value} {by_:Nat} {ad:Option Addr} {n c:Nat} {l:List α} {k:IntKind} {m:Int} {j:Nat} (ho:OS T E w0 x y w (.slice ad n c) l) (ht:P.underlying t=some (.slice e)) (hi:Zg P e=some (z,T.sz,by_))
  (hx:ρ a= .slice ad n c) (hy:ρ r= .int k m) (hm:m=j) (hj:j≤l.length)
  (h:K (.slice ad j c) w):St P ρ ⟨dst,.slice t a none (some r) none,ty,pos,after,gd⟩ w K Kp:=by
 subst hm;obtain⟨inf,hi',_,hs,_⟩:=Jy hi;obtain⟨a',c',e',hle,hc⟩:=ho.len
 cases e'
 have hjc:j≤c:=by omega
 refine J5d (v:= .slice ad j c) ?_ h;have hz:(if c=0 then ad else Option.map (fun x=>Addr.add x 0) ad)=ad:=by
  have:∀ p:Addr,p.add 0=p:=fun p=>Addr.add_zero' p
  split <;> cases ad <;> simp [this]
 simp [execOp,hx,hy,Instr.sliceAt,Instr.slice,run_underlying ht,Instr.sliceBounds,Instr.sliceBound,asIntOf,hjc,sizeOf,typeInfo,hi',Addr.add]
theorem J6t {a i:Operand} {t e:TypeId} {z:Value} {by_:Nat} {ad:Option Addr} {n c:Nat} {l:List α} {k:IntKind} {m:Int} {j:Nat} (ho:OS T E w0 x y w (.slice ad n c) l) (ht:P.underlying t=some (.slice e)) (hi:Zg P e=some (z,T.sz,by_))
  (hx:ρ a= .slice ad n c) (hy:ρ i= .int k m) (hm:m=j) (hj:j < l.length)
  (h:K (.pointer (ad.map (·.add (j * T.sz)))) w):St P ρ ⟨dst,.indexAddr t a i,ty,pos,after,gd⟩ w K Kp:=by
 obtain⟨inf,hi',_,hs,_⟩:=Jy hi;obtain⟨⟨css,h1,h2,h3⟩,hmm⟩:=ho
 rcases h3.2 with ⟨e1,h4⟩ | ⟨g,cap,cur,e1,hb,hg,h4,h5,_⟩
 ·omega
 ·cases e1
  refine J6h ht hi' hs hx hy hm hj ?_;have h8:(Value.pointer (Option.map (fun x=>x.add (j * T.sz)) (some (⟨g,0,none⟩:Addr))))= .pointer (some ⟨g,0+j * T.sz,none⟩):=by simp [Addr.add];intro h;exact h.symm
  rw [h8] at h;exact h
end
section
variable {P:Program} {ρ:Operand→Value} {w:World} {K:Value→World→Prop} {Kp:List PanicEntry→World→Prop} {dst:Option Tmp} {ty:TypeId} {pos:String} {after:Array Edge} {gd:Option (Nat × Bool)} {X0 x y:Nat→Prop} {w0:Bs}
theorem J6w {e:TypeId} {z:Value} {sz by_:Nat} {vs:List Value} (C:Cx X0 w0 x y w) (hi:Zg P e=some (z,sz,by_)) (hv:z.cells=vs.toArray)
  (h:∀ g w' x' y',(∀ b,b < w.heap.size→b≠g)→Cx X0 w0 x' y' w'→Sp x y w x' y' w' Zn→Own w0 y' w' g vs e→(∀ b,x b→x' b)→K (.pointer (some ⟨g,0,none⟩)) w'):
  St P ρ ⟨dst,.alloc e,ty,pos,after,gd⟩ w K Kp:=by
 obtain⟨i,hi',hz,_,_⟩:=Jy hi;exact St.alloc hi' hz hv (h _ _ _ _ (fun b hb=>by omega) (C.box vs e).1 (C.box vs e).2.1 (C.box vs e).2.2 fun _ h=> .inl h)
end
section
variable {P:Program} {ρ:Operand→Value} {w:World} {K:Value→World→Prop} {Kp:List PanicEntry→World→Prop} {dst:Option Tmp} {ty:TypeId} {pos:String} {after:Array Edge} {gd:Option (Nat × Bool)} {X0 x y:Nat→Prop} {w0:Bs}
theorem J6b {α:Type} {T:Ty α} {E t:TypeId} {z u:Value} {by_ g n:Nat} {l m:List α} {a b:Operand} (C:Cx X0 w0 x y w) (ht:P.underlying t=some (.slice E)) (hi:Zg P E=some (z,T.sz,by_)) (hx:ρ a= .slice (some ⟨g,0,none⟩) n n) (hy:ρ b=u)
  (hv:RS T x w (.slice (some ⟨g,0,none⟩) n n) l) (hs:Src T x w u m) (h63:l.length+m.length≤maxLen) (hby:(l.length+m.length) * by_≤140737488355328) (hz:z.cells.size=T.sz)
  (h:∀ v' w',Cx X0 w0 x y w'→Sp x y w x y w' Zn→RS T x w' v' (l++m)→K v' w'):
  St P ρ ⟨dst,.call {callee:= .builtin .append,args:= #[a,b],argTypes:= #[t,t]},ty,pos,after,gd⟩ w K Kp:=by
 obtain⟨inf,hi',hz',hsz,hbyt⟩:=Jy hi;obtain⟨css',k1,k2,ad,c,rfl,k3⟩:=hs;have hal':=K7 k1 k2;obtain⟨_,_,e0,hn0,hc0⟩:=hv.len;obtain⟨rfl⟩:n=l.length:=by injection e0
 have hfl:∀ (css:List (List Value)),(∀ cs ∈ css,cs.length=T.sz)→css.flatten.length=css.length * T.sz:=by
  intro css
  induction css with
  | nil=>intro _;simp
  | cons c css ih=>intro hh;rw [List.flatten_cons,J8z,hh c (by simp),ih fun cs h=>hh cs (by simp [h]),J80,Nat.succ_mul];omega
 by_cases hml:m=[]
 ·subst hml;have hcss':css'=[]:=J9n (by simpa using k1);subst hcss';have hrun:(Builtin.append_ #[t,t] ty #[.slice (some ⟨g,0,none⟩) l.length l.length,.slice ad ([]:List α).length c]).run P w= .ok (.slice (some ⟨g,0,none⟩) l.length l.length) w:=by
   cases ad <;> simp [Builtin.append_,run_underlying ht,sizeOf,typeInfo,hi',Builtin.lenOf,Builtin.firstCells,loadCells,loadCellsFrom,storeCells]
  refine J5d (v:= .slice (some ⟨g,0,none⟩) l.length l.length) (w':=w) (by simp only [J81] at hrun hy;simp [execOp,resolve,invoke,builtin,hx,hy,hrun]) (h _ _ C Sp.refl (by rw [J92];exact hv))
 ·rcases k3 with k3 | ⟨bb,oo,rfl,hcell⟩
  ·exact absurd k3 hml
  have hmpos:0 < m.length:=List.length_pos_iff.2 hml;have hnl:css'.flatten.length=m.length * T.sz:=by rw [hfl css' hal',k1]
  have hnews:∀ j u,css'.flatten[j]? =some u→w.cell? ((⟨bb,oo,none⟩:Addr).add j)=some u:=fun j u hj=>by rw [Addr.add_lit];exact hcell j u hj
  obtain⟨⟨css,h1,h2,ad2,c2,e2,h3⟩⟩:=Yi hv;have hal:=K7 h1 h2;have hcl:css.flatten.length=l.length * T.sz:=by rw [hfl css hal,h1]
  have holds:∀ j u,css.flatten[j]? =some u→w.cell? ((⟨g,0,none⟩:Addr).add j)=some u:=by
   intro j u hj
   rcases h3 with h3 | ⟨b3,o3,e3,h3⟩
   ·subst h3
    have:css=[]:=J9n (by simpa using h1)
    subst this;simp at hj
   ·injection e2 with e4 _ _
    rw [e3] at e4
    injection e4 with e4
    injection e4 with e5 e6 _
    subst e5;subst e6;rw [Addr.add_lit];exact h3 j u hj
  have hr:=run_append_grow (P:=P) w t ty E inf z ht hi' hz' ⟨g,0,none⟩ l.length l.length css.flatten (by rw [hcl,hsz]) holds ⟨bb,oo,none⟩ m.length c css'.flatten (by rw [hnl,hsz]) hnews (by omega) (by simp only [maxLen] at h63;omega) (by rw [hbyt];exact growslice_fits (by omega) hby);have hlen:(css.flatten++css'.flatten).length=(l.length+m.length) * T.sz:=by rw [J8z,hnl,hcl,Nat.add_mul]
  have hB:=((Below.refl w.heap.size w).drew).alloc (J9g _) (.cells (css.flatten.toArray++css'.flatten.toArray++Builtin.zeroCells z.cells (grownCap w (l.length+m.length) l.length E - (l.length+m.length))) E);obtain⟨C',S'⟩:=C.next hB;have ho:OS T E w0 (fun b=>x b∨b=w.heap.size) y (w.drew.alloc (.cells (css.flatten.toArray++css'.flatten.toArray++Builtin.zeroCells z.cells (grownCap w (l.length+m.length) l.length E - (l.length+m.length))) E)) (.slice (some ⟨w.heap.size,0,none⟩) (l++m).length (grownCap w (l.length+m.length) l.length E)) (l++m):=by
   have hT:Tr x w (fun b=>x b∨b=w.heap.size) (w.drew.alloc (.cells (css.flatten.toArray++css'.flatten.toArray++Builtin.zeroCells z.cells (grownCap w (l.length+m.length) l.length E - (l.length+m.length))) E)):=⟨by
    rintro b hb (h | rfl)
    ·exact h
    ·exact absurd hb (Nat.lt_irrefl _),S'.tx.blk,S'.tx.size⟩
   refine⟨⟨css++css',by simp [h1,k1],?_,by rw [List.flatten_append,hlen,J8z],.inr ⟨w.heap.size,_,_,by rw [J8z],J9h _,heap_alloc_new w.drew _,by rw [J8z];exact grownCap_ge w _ _ E,grownCap_le_maxLen w _ _ E h63,?_,?_⟩⟩,fun k hk=>?_⟩
   ·intro i cs u hic hiu;rw [List.getElem?_append] at hic hiu
    by_cases hil:i < l.length
    ·rw [if_pos (by omega)] at hic;rw [if_pos hil] at hiu;exact T.tr (h2 i cs u hic hiu) hT
    ·rw [if_neg (by omega)] at hic;rw [if_neg hil] at hiu;rw [h1] at hic;exact T.tr (k2 _ cs u hic hiu) hT
   ·have hge:=grownCap_ge w (l.length+m.length) l.length E;simp only [Array.size_append,List.size_toArray,size_zeroCells,hz,hnl,hcl,← Nat.add_mul]
    congr 1;omega
   ·simp only [Array.toList_append,J89,List.flatten_append];rw [← J89,J8z,← hlen];exact List.take_left
   ·simp [Value.ownBlock] at hk;subst hk;exact⟨⟨.inr rfl,fun hy=>by have:=C.bd _ (C.yx _ hy);omega⟩,.inl C.below.size⟩
  refine J5d (v:= .slice (some ⟨w.heap.size,0,none⟩) (l++m).length (grownCap w (l.length+m.length) l.length E)) (w':=_) (by
   rw [J8z];simp [execOp,resolve,invoke,builtin,hx,hy,hr]) (h _ _ C' S' (ho.pub (fun _ h=> .inl h) fun k hk=>by
   simp [Value.ownBlock] at hk;subst hk;exact fun hx=>by have:=C.bd _ hx;omega))
end
end Go.Wf
namespace Go.Wf
open Go Go.Proofs
abbrev rc(s:List UInt8)(p o:Nat):List Value:=[str s,.int .i64 ((p:Nat):Int),.int .i64 ((o:Nat):Int)]
def flt(e:Int)(p:Nat):PanicEntry:={v:= .iface 82 (.agg #[.int .i64 e,.int .i64 ((p:Nat):Int)]),recovered:=false}
def RetP{α:Type}(w:World)(g:Nat)(x:Rr α)(Φ:α→Nat→Value→World→Prop):Ending→World→Prop
 | .returned v,w'=>(∃ a q,x= .ok a q∧Φ a q v w')∧Bel ⟨w,(· =g)⟩ w'
 | .panicked ch,w'=>(∃ e q,x= .er e q∧ch=[flt e q])∧Bel ⟨w,(· =g)⟩ w'
 | .outgrown,_=>False
theorem RetP.ok{α:Type}{w w':World}{g:Nat}{x:Rr α}{Φ:α→Nat→Value→World→Prop}{v:Value}{a:α}{q:Nat}(hx:x= .ok a q)(h:Φ a q v w')(b:Bel ⟨w,(· =g)⟩ w'):RetP w g x Φ (.returned v) w':=⟨⟨a,q,hx,h⟩,b⟩
theorem RetP.er{α:Type}{w w':World}{g:Nat}{x:Rr α}{Φ:α→Nat→Value→World→Prop}{e:Int}{q:Nat}(hx:x= .er e q)(b:Bel ⟨w,(· =g)⟩ w'):RetP w g x Φ (.panicked [flt e q]) w':=⟨⟨e,q,hx,rfl⟩,b⟩
section
variable {P:Program} {ρ:Operand→Value} {dst:Option Tmp} {ty:TypeId} {pos:String} {after:Array Edge} {gd:Option (Nat × Bool)} {w:World} {K:Value→World→Prop} {Kp:List PanicEntry→World→Prop} {X0 x y:Nat→Prop} {w0:Bs}
theorem J5q {α:Type} {k:FuncId} {args:Array Operand} {ts:Array TypeId} {vs:List Value} {g:Nat} {cs:List Value} {T:TypeId} {m:Rr α} {Φ:α→Nat→Value→World→Prop} {cs':α→Nat→List Value}
  (C:Cx X0 w0 x y w) (o:Own w0 y w g cs T) (hk:Jb P k=true)
  (ha:args.toList.map ρ=vs) (he:ρ (.func k)= .func (.func k) #[] #[]) (hc:Calls P k vs.toArray w (RetP w g m fun a q v w'=>Φ a q v w'∧Blk w' g (cs' a q) T))
  (hp:∀ w' e q,m= .er e q→Bel w0 w'→Kp [flt e q] w')
  (h:∀ v w' a q,m= .ok a q→Cx X0 w0 x y w'→Sp x y w x y w' (· =g)→Own w0 y w' g (cs' a q) T→Φ a q v w'→K v w'):
  St P ρ ⟨dst,.call {callee:= .value (.func k),args:=args,argTypes:=ts},ty,pos,after,gd⟩ w K Kp:=by
 unfold Jb at hk
 split at hk
 ·rename_i fn hf
  simp only [Bool.and_eq_true,Bool.not_eq_true'] at hk;refine J6y hf hk.1 hk.2 ha (Calls.mono hc ?_) he;intro e w' hr
  cases e with
  | returned v=>
   obtain⟨⟨a,q,hx,h1,hb⟩,h2⟩:=hr;obtain⟨c,s,o'⟩:=C.turn o h2 hb;exact h v w' a q hx c s o' h1
  | panicked ch=>
   obtain⟨⟨e,q,hx,rfl⟩,h2⟩:=hr;exact hp w' e q hx (C.below.turn h2 o.ge)
  | outgrown=>exact hr.elim
 ·cases hk
theorem J6q{x:Operand}{t:TypeId}{v:Value}(hx:ρ x= .iface t v)(h:Kp [{v:= .iface t v,recovered:=false}] w):St P ρ ⟨dst,.panic x,ty,pos,after,gd⟩ w K Kp:=by
 unfold St;have hr:(execOp ρ ⟨dst,.panic x,ty,pos,after,gd⟩).run P w= .halt (.panic (.iface t v)) w:=by
  have hp:Sem.run P (Instr.panic (.iface t v)) w= .halt (.panic (.iface t v)) w:=rfl;simp [execOp,hx,hp]
 rw [hr];exact h
end
theorem Ze{α:Type}{w w':World}{g:Nat}{x:Rr α}{e:Int}{q:Nat}(hx:x= .er e q)(b:Bel ⟨w,(· =g)⟩ w'):(∃ e' q',x= .er e' q'∧[flt e q]=[flt e' q'])∧Bel ⟨w,(· =g)⟩ w':=⟨⟨e,q,hx,rfl⟩,b⟩
structure RZ (X0:Nat→Prop) (b0:Bs) (s:Gh) (w:World) (s':Gh) (w':World):Prop where
 eq:s'=s
 cx:Cx X0 b0 s'.1 s'.2 w'
 sp:Sp s.1 s.2 w s'.1 s'.2 w' Zn
structure RT (X0:Nat→Prop) (b0:Bs) (g:Nat) (s:Gh) (w:World) (s':Gh) (w':World):Prop where
 eq:s'=s
 cx:Cx X0 b0 s'.1 s'.2 w'
 sp:Sp s.1 s.2 w s'.1 s'.2 w' (· =g)
section
variable {fc:Fence} [Fw fc] {P:Program} {ops:Array Oper} {n:Nat} {D:List Deferred} {Q:Post} {f0:Fr} {w0:World} {X0 x y:Nat→Prop} {b0:Bs} {g:Nat}
theorem RT.of:∀ (s:Gh) (a:World) (t:Gh) (b:World),RZ X0 b0 s a t b→RT X0 b0 g s a t b:=fun _ _ _ _ r=>⟨r.eq,r.cx,r.sp.wide⟩
theorem RT.trans:∀ (s:Gh) (a:World) (t:Gh) (b:World) (u:Gh) (c:World),RT X0 b0 g s a t b→RT X0 b0 g t b u c→RT X0 b0 g s a u c:=fun _ _ _ _ _ _ h k=>⟨k.eq.trans h.eq,k.cx,h.sp.transW k.sp⟩
theorem RT.step{w w':World}(C:Cx X0 b0 x y w')(S:Sp x y w x y w' (· =g)):RT X0 b0 g (x,y) w (x,y) w':=⟨rfl,C,S⟩
theorem RZ.same{s:Gh}{w:World}(C:Cx X0 b0 s.1 s.2 w):RZ X0 b0 s w s w:=⟨rfl,C,Sp.refl⟩
theorem RZ.go{s:Gh}{w w':World}(C:Cx X0 b0 s.1 s.2 w')(S:Sp s.1 s.2 w s.1 s.2 w' Zn):RZ X0 b0 s w s w':=⟨rfl,C,S⟩
theorem RT.up{s:Gh}{w w':World}(r:RT X0 b0 g (x,y) w s w'):∀ b,x b→s.1 b:=fun _ h=>by rw [r.eq];exact h
theorem tSl{α:Type}{T:Ty α}{m:List α}:∀ v s w s' w',fs T m s v w→RT X0 b0 g s w s' w'→fs T m s' v w':=fun _ _ _ _ _ h r=>RS.tr h r.sp.tx
theorem J6x {cs:List Value} {T:TypeId} {id:Nat} (hm:P.follows .mixedOrders=true) (m q:Nat) (dl:List (List Nat)) (C:Cx X0 b0 x y w0) (ho:Own b0 y w0 g cs T)
  (Gl:List (Gh→Value→World→Prop)) (chk:qg ops m n dl=true) (hG:qf (RT X0 b0 g) (RZ X0 b0) q Gl 0)
  (h:∀ f s w,RT X0 b0 g (x,y) w0 s w→Keep (J4 ops m) f0 f→Jap P ops Q (RT X0 b0 g) (RZ X0 b0) (fun s w=>Own b0 s.2 w g cs T) q Gl f s w ops.toList dl 0∧(Deps ops Gl f s w (List.range m)→Sq P ops n Q (ops.toList.drop m) f w)):
  W fc P (Code.region id ops true) n D Q f0 w0:=by
 intro a ha hf;have F:=Vo chk;refine wpIn_region_any hm ?_;have hz:∀ i,i < ops.size→(Array.replicate ops.size false).getD i true=false:=by
  intro i hi;simp [J9e,hi]
 have c0:RZ X0 b0 (x,y) w0 (x,y) w0.drew:=⟨rfl,(J6n C).cx,(J6n C).sp⟩;refine Joa (R:=RT X0 b0 g) F RT.trans RT.of (fun s a t b o r=>o.spn r.sp) hG (fun f s w r k=>(h f s w r k).1) (fun f s w r k=>(h f s w r k).2) ops.size _ a (x,y) _ ?_ (by simp) ?_ (fun i hi _=>hz i hi) ha (RT.of _ _ _ _ c0) (fun t _=>by rw [hf]) ?_ (fun _=>ho.spn c0.sp)
 ·unfold unl
  have:(List.range ops.size).countP (fun i=> !(Array.replicate ops.size false).getD i true)=(List.range ops.size).length:=by
   refine List.countP_eq_length.2 ?_;intro i hi;simp [hz i (by simpa using hi)]
  rw [this];simp
 ·intro k hk hl;rw [hz k hk] at hl;cases hl
 ·intro j hj hl;rw [hz j (by have:=F.le;omega)] at hl;cases hl
end
end Go.Wf
namespace Go.Wf
open Go Go.RowKit
section
variable {X0 x y:Nat→Prop} {w0:Bs} {w:World} {E:TypeId} {v:Value} {l:List Nat}
theorem OS.u32(h:OS Je E w0 x y w v l):(∀ u ∈ l,u < 4294967296)∧w.ownsRow 0 E 1 v l.length (l.map u32v):=by
 obtain⟨⟨css,h1,h2,h3⟩,hm⟩:=h;have hc:∀ (i:Nat) (u:Nat),l[i]? =some u→css[i]? =some [u32v u]∧u < 4294967296:=by
  intro i u hu;have hi:i < css.length:=by rw [h1];exact(List.getElem?_eq_some_iff.1 hu).1
  have hci:css[i]? =some css[i]:=J9f hi;have hr:css[i]=[.int .u32 u]∧u < 4294967296:=h2 i _ u hci hu;exact⟨by rw [hci,hr.1];rfl,hr.2⟩
 have hcss:css=l.map fun u=>[u32v u]:=by
  apply List.ext_getElem?
  intro i
  cases hu:l[i]? with
  | none=>rw [J94,hu,J9z (by rw [h1];exact List.getElem?_eq_none_iff.1 hu)];rfl
  | some u=>rw [J94,hu,(hc i u hu).1];rfl
 have hfl:∀ m:List Nat,(m.map fun u=>[u32v u]).flatten=m.map u32v:=by
  intro m
  induction m with
  | nil=>rfl
  | cons a m ih=>simp only [J93,List.flatten_cons,ih];rfl
 rw [hcss,hfl] at h3;refine⟨fun u hu=>?_,h3⟩
 obtain⟨i,hi⟩:=List.mem_iff_getElem?.1 hu
 exact(hc i u hi).2
theorem J8p(hl:∀ u ∈ l,u < 4294967296)(h:w.ownsRow 0 E 1 v l.length (l.map u32v))(hm:∀ k,v.ownBlock=some k→(x k∧¬ y k)∧(w0.heap.size≤k∨w0.M k)):OS Je E w0 x y w v l:=by
 have hfl:∀ m:List Nat,(m.map fun u=>[u32v u]).flatten=m.map u32v:=by
  intro m
  induction m with
  | nil=>rfl
  | cons a m ih=>simp only [J93,List.flatten_cons,ih];rfl
 refine⟨⟨l.map fun u=>[u32v u],by simp,fun i cs u hcs hu=>?_,by rw [hfl];exact h⟩,hm⟩;rw [J94,hu] at hcs
 cases hcs
 exact⟨rfl,hl u (List.mem_of_getElem? hu)⟩
end
section
variable {P:Program} {ρ:Operand→Value} {w:World} {K:Value→World→Prop} {Kp:List PanicEntry→World→Prop} {dst:Option Tmp} {ty:TypeId} {pos:String} {after:Array Edge} {gd:Option (Nat × Bool)} {X0 x y:Nat→Prop} {w0:Bs}
theorem J61{o:Operand}{t E:TypeId}{ad:Option Addr}{n c j:Nat}{l:List Nat}(ho:OS Je E w0 x y w (.slice ad n c) l)(ht:Ym P t=true)(hx:ρ o= .pointer (ad.map (·.add (j * 1))))(hj:j < l.length)(h:K (.int .u32 ((l.getD j 0:Nat):Int)) w):
  St P ρ ⟨dst,.load t o,ty,pos,after,gd⟩ w K Kp:=by
 obtain⟨h1,h2⟩:=ho.u32
 rcases h2.2 with ⟨e,h⟩ | ⟨g,cap,cur,e,hb,hg,h4,h5,_⟩
 ·omega
 ·cases e
  have h8:(Value.pointer (Option.map (fun x=>x.add (j * 1)) (some (⟨g,0,none⟩:Addr))))= .pointer (some ⟨g,j,none⟩):=by simp [Addr.add];intro h;exact h.symm
  rw [h8] at hx;have h9:=h2.cells (g:=g) rfl j (u32v (l.getD j 0)) (by rw [J94,Jc hj];rfl);rw [Addr.add_lit,Nat.zero_add] at h9;exact J44 ht hx h9 h
theorem J64 {a b:Operand} {t E:TypeId} {z:Value} {by_:Nat} {ad:Option Addr} {n c j u:Nat} {l:List Nat} (C:Cx X0 w0 x y w) (ho:OS Je E w0 x y w (.slice ad n c) l) (hi:Zg P t=some (z,1,by_))
  (hx:ρ a= .pointer (ad.map (·.add (j * 1)))) (hv:ρ b= .int .u32 ((u:Nat):Int)) (hj:j < l.length) (hu:u < 4294967296)
  (h:∀ w',Cx X0 w0 x y w'→Ap x w x y w'→OS Je E w0 x y w' (.slice ad n c) (l.set j u)→K undef w'):St P ρ ⟨dst,.store t a b,ty,pos,after,gd⟩ w K Kp:=by
 obtain⟨h1,h2⟩:=ho.u32;have hmem:=ho.mem;obtain⟨inf,hi',_,hs,_⟩:=Jy hi
 rcases h2.2 with ⟨e,h0⟩ | ⟨g,cap,cur,e,hb,hg,h4,h5,h6,h7⟩
 ·omega
 ·cases e
  have h8:(Value.pointer (Option.map (fun x=>x.add (j * 1)) (some (⟨g,0,none⟩:Addr))))= .pointer (some ⟨g,j,none⟩):=by simp [Addr.add];intro h;exact h.symm
  rw [h8] at hx;have hB:Blk w g cur.toList E:=by unfold Blk;rw [hg]
  have hcl:cur.toList.length=c:=by rw [Array.length_toList,h6,Nat.mul_one]
  refine J65 (vs:=[u32v u]) hi' hs hx (by rw [hv];rfl) rfl hB (by omega) rfl fun C' hC'=>?_
  have hC2:C'=cur.toList.set j (u32v u):=by
   rw [hC',List.set_eq_take_append_cons_drop,if_pos (by omega)];simp
  have hm:=hmem g rfl;have hsz:(Kn w g C').heap.size=w.heap.size:=by simp [Kn,World.setRow]
  have hsame:∀ b,b < w.heap.size→¬ b=g→(Kn w g C').heap[b]? =w.heap[b]? :=fun b _ hb=>Ve hb;have hb2:Bel w0 (Kn w g C'):=C.below.turn (g:=g) ⟨rfl,rfl,rfl,by rw [hsz];exact J9g _,fun b hb hm=>hsame b hb hm⟩ hm.2;refine h _ ⟨hb2,C.base,fun b hb=>by rw [hsz];exact C.bd b hb,C.yx⟩ ⟨⟨fun _ _ h=>h,fun b hb hx=>hsame b hb (fun e=>hx (e ▸ hm.1.1)),by omega⟩,fun b hb hy=>hsame b hb (fun e=>hm.1.2 (e ▸ hy))⟩ ?_;refine J8p (fun q hq=>?_) ?_ hmem
  ·rcases List.mem_or_eq_of_mem_set hq with hq | rfl
   ·exact h1 q hq
   ·exact hu
  ·refine⟨by simp,.inr ⟨g,c,C'.toArray,by simp,J9h _,hB.set,by simpa using h4,h5,?_,?_⟩⟩
   ·rw [hC2];simp [h6]
   ·rw [hC2,List.map_set];simp only [List.length_set,Nat.mul_one] at h7 ⊢;rw [← h7,List.take_set]
theorem J7k {t e:TypeId} {l c:Operand} {kl kc:IntKind} {a:Int} {n by_:Nat} (C:Cx X0 w0 x y w) (ht:P.underlying t=some (.slice e)) (hl:ρ l= .int kl 0) (hc:ρ c= .int kc a) (ha:a=n) (hb:n≤1099511627776)
  (hi:Zg P e=some (.int .u32 0,1,by_)) (hby:by_≤8)
  (h:∀ g w' x',Cx X0 w0 x' y w'→Sp x y w x' y w' Zn→OS Je e w0 x' y w' (.slice (some ⟨g,0,none⟩) 0 n) []→K (.slice (some ⟨g,0,none⟩) 0 n) w'):
  St P ρ ⟨dst,.makeSlice t l c,ty,pos,after,gd⟩ w K Kp:=by
 obtain⟨i,hi',hz,hs,hby'⟩:=Jy hi;subst ha;have hbytes:(i.bytes:Int) * (n:Int)≤281474976710656:=by
  rw [hby'];have h1:=Nat.mul_le_mul hby hb;have h2:((by_ * n:Nat):Int)≤281474976710656:=by omega
  rw [Int.natCast_mul] at h2;exact h2
 have hr:=run_make (P:=P) w t e i (.int .u32 0) ht hi' hz kl kc 0 (n:Int) (Int.le_refl _) (by omega) hbytes (by omega);simp only [Int.toNat_natCast,Int.toNat_zero,hs,Nat.mul_one] at hr;obtain⟨vs,hvs⟩:∃ vs:List Value,madeCells (Value.int IntKind.u32 0).cells n=vs.toArray:=⟨_,(Array.toArray_toList).symm⟩;have hvl:vs.toArray.size=n:=by rw [← hvs];simp [madeCells]
 rw [hvs] at hr;refine J5d (v:= .slice (some ⟨w.heap.size,0,none⟩) 0 n) (w':=w.alloc (.cells vs.toArray e (0,0))) ?_ (h _ _ _ (C.row vs e).1 (C.row vs e).2 (J8p (fun u hu=>by cases hu) ⟨rfl,.inr ⟨w.heap.size,n,vs.toArray,rfl,J9h _,heap_alloc_new w _,J9h _,by unfold maxLen;omega,by rw [hvl,Nat.mul_one],by simp⟩⟩ fun k hk=>?_))
 ·simp [execOp,hl,hc,hr]
 ·simp [Value.ownBlock] at hk;subst hk;exact⟨⟨.inr rfl,fun hy=>by have:=C.bd _ (C.yx _ hy);omega⟩,.inl C.below.size⟩
theorem J7g {a:Operand} {src d2 e:TypeId} {s:List UInt8} (C:Cx X0 w0 x y w) (hs:P.underlying src=some .string) (hd:P.underlying d2=some (.slice e)) (he:P.underlying e=some (.int .u8)) (hl:s.length≤65536) (hx:ρ a=str s)
  (h:∀ g c w',Cx X0 w0 x y w'→Sp x y w x y w' Zn→RS u8Ty x w' (.slice (some ⟨g,0,none⟩) s.length c) s→K (.slice (some ⟨g,0,none⟩) s.length c) w'):St P ρ ⟨dst,.convert src d2 a,ty,pos,after,gd⟩ w K Kp:=by
 have hsz:(⟨s.toArray⟩:ByteArray).size=s.length:=by simp [ByteArray.size]
 have hr:=Lib.run_convert_string_bytes (P:=P) w src d2 e ⟨s.toArray⟩ hs hd he;rw [hsz] at hr;have hsz2:=Lib.bytesWorld_size w e ⟨s.toArray⟩;have hbel:Below w.heap.size w (Lib.bytesWorld w e ⟨s.toArray⟩):=⟨by simp [Lib.bytesWorld,World.freeze,World.alloc,World.drew,-World.alloc_eq,-World.drew_eq],by simp [Lib.bytesWorld,World.freeze,World.alloc,World.drew,-World.alloc_eq,-World.drew_eq],
  by simp [Lib.bytesWorld,World.freeze,World.alloc,World.drew,-World.alloc_eq,-World.drew_eq],by omega,fun k hk=>Lib.bytesWorld_at_old w e _ k hk⟩
 obtain⟨C',S'⟩:=C.next hbel;refine J5d (v:= .slice (some ⟨w.heap.size,0,none⟩) s.length (grownCap w s.length 0 e)) (by simp [execOp,hx,str,hr]) (h _ _ _ C' S' ⟨_,_,rfl,grownCap_ge _ _ _ _,grownCap_le_maxLen _ _ _ _ (by unfold maxLen;omega),.inr ⟨w.heap.size,0,rfl,fun hx=>by have:=C.bd _ hx;omega,?_⟩⟩);intro i u hu;refine⟨[.int .u8 u.toNat],rfl,?_⟩;intro j q hq;have hi:=(List.getElem?_eq_some_iff.1 hu).1;have hj:j=0:=by
  have:=(List.getElem?_eq_some_iff.1 hq).1
  simp at this;exact this
 subst hj;simp at hq;subst hq
 have:=Lib.bytesWorld_cell w e ⟨s.toArray⟩ i (by rw [hsz];exact hi)
 rw [show 0+i * u8Ty.sz+0=i by show 0+i * 1+0=i;omega,this];simp [List.getD,hu]
end
def u8v(u:UInt8):Value:= .int .u8 (u.toNat:Int)
section
variable {X0 x y:Nat→Prop} {w0:Bs} {w:World} {E:TypeId} {v:Value} {l:List UInt8}
theorem Jtz:∀ m:List UInt8,(m.map fun u=>[u8v u]).flatten=m.map u8v
 | []=>rfl
 | a::m=>by simp only [J93,List.flatten_cons,Jtz m];rfl
theorem row8{css:List (List Value)}(h1:css.length=l.length)(h2:∀ (i:Nat) (cs:List Value) (u:UInt8),css[i]? =some cs→l[i]? =some u→u8Ty.rd x w cs u):css.flatten=l.map u8v:=by
 have hcss:css=l.map fun u=>[u8v u]:=by
  apply List.ext_getElem?
  intro i
  cases hu:l[i]? with
  | none=>rw [J94,hu,J9z (by rw [h1];exact List.getElem?_eq_none_iff.1 hu)];rfl
  | some u=>
   have hi:i < css.length:=by rw [h1];exact(List.getElem?_eq_some_iff.1 hu).1
   have hci:css[i]? =some css[i]:=J9f hi;have hr:css[i]=[.int .u8 u.toNat]:=h2 i _ u hci hu;rw [J94,hu,hci,hr];rfl
 rw [hcss,Jtz]
theorem OS.u8(h:OS u8Ty E w0 x y w v l):w.ownsRow 0 E 1 v l.length (l.map u8v):=by
 obtain⟨⟨css,h1,h2,h3⟩,hm⟩:=h;rw [row8 h1 h2] at h3;exact h3
theorem OW.u8{X:Nat→Prop}(h:OW u8Ty E X w v l):w.ownsRow 0 E 1 v l.length (l.map u8v):=by
 obtain⟨⟨css,h1,h2,h3⟩⟩:=h;rw [row8 h1 h2] at h3;exact h3
theorem OW.of8{X:Nat→Prop}(h:w.ownsRow 0 E 1 v l.length (l.map u8v)):OW u8Ty E X w v l:=by
 refine⟨⟨l.map fun u=>[u8v u],by simp,fun i cs u hcs hu=>?_,by rw [Jtz];exact h⟩⟩;rw [J94,hu] at hcs
 cases hcs
 exact rfl
end
section
variable {P:Program} {ρ:Operand→Value} {w:World} {K:Value→World→Prop} {Kp:List PanicEntry→World→Prop} {dst:Option Tmp} {ty:TypeId} {pos:String} {after:Array Edge} {gd:Option (Nat × Bool)} {X0 x y:Nat→Prop} {w0:Bs}
theorem J7v{o:Operand}{t E:TypeId}{ad:Option Addr}{n c j:Nat}{l:List UInt8}(ho:OS u8Ty E w0 x y w (.slice ad n c) l)(ht:Ym P t=true)(hx:ρ o= .pointer (ad.map (·.add (j * 1))))(hj:j < l.length)(h:K (.int .u8 (((l.getD j 0).toNat:Nat):Int)) w):
  St P ρ ⟨dst,.load t o,ty,pos,after,gd⟩ w K Kp:=by
 have h2:=ho.u8
 rcases h2.2 with ⟨e,h⟩ | ⟨g,cap,cur,e,hb,hg,h4,h5,_⟩
 ·omega
 ·cases e
  have h8:(Value.pointer (Option.map (fun x=>x.add (j * 1)) (some (⟨g,0,none⟩:Addr))))= .pointer (some ⟨g,j,none⟩):=by simp [Addr.add];intro h;exact h.symm
  rw [h8] at hx;have h9:=h2.cells (g:=g) rfl j (u8v (l.getD j 0)) (by rw [J94,Jc hj];rfl);rw [Addr.add_lit,Nat.zero_add] at h9;exact J44 ht hx h9 h
theorem J7n {a:Operand} {src d2 e E:TypeId} {ad:Option Addr} {n c:Nat} {l:List UInt8} (ho:OS u8Ty E w0 x y w (.slice ad n c) l) (hs:P.underlying src=some (.slice e)) (he:P.underlying e=some (.int .u8)) (hd:P.underlying d2=some .string) (hx:ρ a= .slice ad n c)
  (h:K (str l) w):St P ρ ⟨dst,.convert src d2 a,ty,pos,after,gd⟩ w K Kp:=by
 have h2:=ho.u8;have hr:(convert src d2 (.slice ad n c)).run P w= .ok (str l) w:=by
  rcases h2.2 with ⟨e,h0⟩ | ⟨g,cap,cur,e,hb,hg,h4,h5,_⟩
  ·cases e
   obtain rfl:=J9n h0;rw [run_convert_bytes_string w src d2 _ none 0 0 hs he hd];simp [Conv.bytesToString]
   rfl
  ·cases e
   refine run_convert_bytes_back w src d2 _ _ c l hs he hd fun j hj=>?_
   exact h2.cells (g:=g) rfl j (u8v l[j]) (by rw [J94,J9f hj];rfl)
 refine J5d (v:=str l) ?_ h;simp [execOp,hx,hr]
theorem J78 {a:Operand} {src d2 e:TypeId} {X:Nat→Prop} {b n c:Nat} {l:List UInt8} (hr:RS u8Ty X w (.slice (some ⟨b,0,none⟩) n c) l) (hs:P.underlying src=some (.slice e)) (he:P.underlying e=some (.int .u8)) (hd:P.underlying d2=some .string) (hx:ρ a= .slice (some ⟨b,0,none⟩) n c)
  (h:K (str l) w):St P ρ ⟨dst,.convert src d2 a,ty,pos,after,gd⟩ w K Kp:=by
 obtain⟨rfl,_,_⟩:=RS.le hr;have hc:(convert src d2 (.slice (some ⟨b,0,none⟩) l.length c)).run P w= .ok (str l) w:=by
  refine run_convert_bytes_back w src d2 _ _ c l hs he hd fun j hj=>?_
  obtain⟨b',o,cs,e1,_,h1,h2⟩:=hr.at (J9f hj)
  cases e1
  have h1:cs=[.int .u8 (l[j].toNat:Int)]:=h1;subst h1
  have:=h2 0 _ rfl
  rw [Addr.add_lit];rw [show 0+j=0+j * u8Ty.sz+0 by show 0+j=0+j * 1+0;omega];exact this
 refine J5d (v:=str l) ?_ h;simp [execOp,hx,hc]
theorem J60{k:FuncId}{cap:Array Operand}{cs:List Value}(hc:cap.toList.map ρ=cs)(h:K (.func (.func k) #[] cs.toArray) w):St P ρ ⟨dst,.makeFunc (.func k) #[] cap,ty,pos,after,gd⟩ w K Kp:=by
 refine J5d (v:= .func (.func k) #[] cs.toArray) ?_ h
 have:cap.map ρ=cs.toArray:=by rw [← hc];apply Array.ext';simp
 simp [execOp,Instr.makeFunc,this]
theorem J6d {o:Operand} {k:FuncId} {cap:List Value} {args:Array Operand} {ts:Array TypeId} {vs:List Value} {Φ:Value→World→Prop} (C:Cx X0 w0 x y w) (hk:Jb P k=true)
  (ha:args.toList.map ρ++cap=vs) (he:ρ o= .func (.func k) #[] cap.toArray) (hc:Calls P k vs.toArray w (Ret w Φ))
  (h:∀ v w',Cx X0 w0 x y w'→Sp x y w x y w' Zn→Φ v w'→K v w'):
  St P ρ ⟨dst,.call {callee:= .value o,args:=args,argTypes:=ts},ty,pos,after,gd⟩ w K Kp:=by
 unfold Jb at hk
 split at hk
 ·rename_i fn hf
  simp only [Bool.and_eq_true,Bool.not_eq_true'] at hk;refine J79 he hf hk.1 hk.2 (by rw [← ha]) (Calls.mono hc ?_);intro e w' hr
  cases e with
  | returned v=>obtain⟨h1,h2⟩:=hr;obtain⟨c,s⟩:=C.next h2;exact h v w' c s h1
  | panicked ch=>exact hr.elim
  | outgrown=>exact hr.elim
 ·cases hk
end
structure Tb (P:Program) (nm:String) (k:IntKind) (zs:List Int) (X:Nat→Prop) (w:World):Prop where
 tab:Lib.TabIs P w nm k zs
 out:∀ g,P.globalNamed nm=some g→¬ X g∧g < w.heap.size
section
variable {P:Program} {nm:String} {k:IntKind} {zs:List Int} {X X' x y x' y':Nat→Prop} {w w':World} {ch:Nat→Prop}
theorem Tb.tr(h:Tb P nm k zs X w)(t:Tr X w X' w'):Tb P nm k zs X' w':=by
 obtain⟨h1,h2⟩:=h;refine⟨?_,fun g hg=>⟨fun hx=>(h2 g hg).1 (t.sub g (h2 g hg).2 hx),J85 (h2 g hg).2 t.size⟩⟩;unfold Lib.TabIs World.var? at h1 ⊢
 cases hg:P.globalNamed nm with
 | none=>rw [hg] at h1;cases h1
 | some g=>
  rw [hg] at h1
  have:=h2 g hg
  simp only [Option.bind_some] at h1 ⊢;rw [t.blk g this.2 this.1];exact h1
theorem Tb.sp(h:Tb P nm k zs x w)(s:Sp x y w x' y' w' ch):Tb P nm k zs x' w':=h.tr s.tx
end
end Go.Wf
namespace Go.Proofs
open Go.Shelf
def Tryz.lays156_ren:Go.Shelf.Ren:=⟨fun | 156=>109 | 165=>159 | 166=>160 | 169=>161 | 240=>212 | 241=>213 | 276=>237 | 277=>238 | n=>n,fun | 31=>50 | 9=>9 | 3=>3 | 4=>4 | 0=>0 | 20=>20 | 72=>160 | 76=>164 | 70=>157 | 37=>158 | 75=>163 | 127=>191 | 164=>214 | 5=>5 | 80=>166 | n=>n,fun | n=>n⟩
theorem Tryz.lays156:Go.Proofs.Lays.n156 Tryz.prog Tryz.lays156_ren:={
 mixed:=by kernel_rfl
 f156:=Tryz.func109.trans (J87 some (by kernel_rfl))
 f165:=Tryz.func159.trans (J87 some (by kernel_rfl))
 f166:=Tryz.func160.trans (J87 some (by kernel_rfl))
 f169:=Tryz.func161.trans (J87 some (by kernel_rfl))
 f240:=Tryz.func212.trans (J87 some (by kernel_rfl))
 f241:=Tryz.func213.trans (J87 some (by kernel_rfl))
 f276:=Tryz.func237.trans (J87 some (by kernel_rfl))
 f277:=Tryz.func238.trans (J87 some (by kernel_rfl))
 t0:=Tryz.underlying0
 a0:=Tryz.isAgg0
 z0:=Tryz.sizeOf0
 v0:=Tryz.zeroValue0
 t3:=Tryz.underlying3
 a3:=Tryz.isAgg3
 z3:=Tryz.sizeOf3
 v3:=Tryz.zeroValue3
 t4:=Tryz.underlying4
 a4:=Tryz.isAgg4
 z4:=Tryz.sizeOf4
 v4:=Tryz.zeroValue4
 t9:=Tryz.underlying9
 a9:=Tryz.isAgg9
 z9:=Tryz.sizeOf9
 v9:=Tryz.zeroValue9
 t20:=Tryz.underlying20
 a20:=Tryz.isAgg20
 z20:=Tryz.sizeOf20
 v20:=Tryz.zeroValue20
 t31:=Tryz.underlying50
 a31:=Tryz.isAgg50
 z31:=Tryz.sizeOf50
 v31:=Tryz.zeroValue50
 t37:=Tryz.underlying158
 a37:=Tryz.isAgg158
 z37:=Tryz.sizeOf158
 v37:=Tryz.zeroValue158
 t70:=Tryz.underlying157
 a70:=Tryz.isAgg157
 z70:=Tryz.sizeOf157
 v70:=Tryz.zeroValue157
 t72:=Tryz.underlying160
 a72:=Tryz.isAgg160
 z72:=Tryz.sizeOf160
 v72:=Tryz.zeroValue160
 t75:=Tryz.underlying163
 a75:=Tryz.isAgg163
 z75:=Tryz.sizeOf163
 v75:=Tryz.zeroValue163
 t76:=Tryz.underlying164
 a76:=Tryz.isAgg164
 z76:=Tryz.sizeOf164
 v76:=Tryz.zeroValue164
 t127:=Tryz.underlying191
 a127:=Tryz.isAgg191
 z127:=Tryz.sizeOf191
 v127:=Tryz.zeroValue191
 t164:=Tryz.underlying214
 a164:=Tryz.isAgg214
 z164:=Tryz.sizeOf214
 v164:=Tryz.zeroValue214}
theorem Tryz.Builder_Extra_156:Builder.Extra Tryz.prog Tryz.lays156_ren:={
 sizeBuilder:=by kernel_rfl
 liesBuilder:=by kernel_rfl
 t5:=Tryz.underlying5
 a5:=Tryz.isAgg5
 z5:=Tryz.sizeOf5
 v5:=Tryz.zeroValue5
 infoByte:=by kernel_rfl
 cellsByte:=by kernel_rfl
 sizeByte:=by kernel_rfl
 neB5:=by decide}
def Tryz.laysM171_ren:Go.Shelf.Ren:=⟨fun | 171=>157 | 243=>210 | 246=>236 | 283=>249 | 284=>250 | 285=>251 | 286=>252 | 129=>136 | 317=>266 | 318=>267 | 319=>268 | 320=>269 | 337=>274 | 338=>275 | n=>n,fun | 3=>3 | 9=>9 | 2=>2 | 4=>4 | 171=>221 | 0=>0 | 53=>140 | 37=>158 | 5=>5 | 173=>223 | 212=>236 | 51=>118 | 20=>20 | 213=>237 | 46=>110 | 232=>242 | 233=>243 | n=>n,fun | 17=>2 | 18=>3 | 19=>4 | n=>n⟩
theorem Tryz.laysM171:Go.Proofs.LaysM.n171 Tryz.prog Tryz.laysM171_ren:={
 mixed:=by kernel_rfl
 f129:=Tryz.func136.trans (J87 some (by kernel_rfl))
 f171:=Tryz.func157.trans (J87 some (by kernel_rfl))
 f243:=Tryz.func210.trans (J87 some (by kernel_rfl))
 f246:=Tryz.func236.trans (J87 some (by kernel_rfl))
 f283:=Tryz.func249.trans (J87 some (by kernel_rfl))
 f284:=Tryz.func250.trans (J87 some (by kernel_rfl))
 f285:=Tryz.func251.trans (J87 some (by kernel_rfl))
 f286:=Tryz.func252.trans (J87 some (by kernel_rfl))
 f317:=Tryz.func266.trans (J87 some (by kernel_rfl))
 f318:=Tryz.func267.trans (J87 some (by kernel_rfl))
 f319:=Tryz.func268.trans (J87 some (by kernel_rfl))
 f320:=Tryz.func269.trans (J87 some (by kernel_rfl))
 f337:=Tryz.func274.trans (J87 some (by kernel_rfl))
 f338:=Tryz.func275.trans (J87 some (by kernel_rfl))
 t0:=Tryz.underlying0
 a0:=Tryz.isAgg0
 z0:=Tryz.sizeOf0
 v0:=Tryz.zeroValue0
 t2:=Tryz.underlying2
 a2:=Tryz.isAgg2
 z2:=Tryz.sizeOf2
 v2:=Tryz.zeroValue2
 t3:=Tryz.underlying3
 a3:=Tryz.isAgg3
 z3:=Tryz.sizeOf3
 v3:=Tryz.zeroValue3
 t4:=Tryz.underlying4
 a4:=Tryz.isAgg4
 z4:=Tryz.sizeOf4
 v4:=Tryz.zeroValue4
 t5:=Tryz.underlying5
 a5:=Tryz.isAgg5
 z5:=Tryz.sizeOf5
 v5:=Tryz.zeroValue5
 t9:=Tryz.underlying9
 a9:=Tryz.isAgg9
 z9:=Tryz.sizeOf9
 v9:=Tryz.zeroValue9
 t20:=Tryz.underlying20
 a20:=Tryz.isAgg20
 z20:=Tryz.sizeOf20
 v20:=Tryz.zeroValue20
 t37:=Tryz.underlying158
 a37:=Tryz.isAgg158
 z37:=Tryz.sizeOf158
 v37:=Tryz.zeroValue158
 t46:=Tryz.underlying110
 a46:=Tryz.isAgg110
 z46:=Tryz.sizeOf110
 v46:=Tryz.zeroValue110
 t51:=Tryz.underlying118
 a51:=Tryz.isAgg118
 z51:=Tryz.sizeOf118
 v51:=Tryz.zeroValue118
 t53:=Tryz.underlying140
 a53:=Tryz.isAgg140
 z53:=Tryz.sizeOf140
 v53:=Tryz.zeroValue140
 t171:=Tryz.underlying221
 a171:=Tryz.isAgg221
 z171:=Tryz.sizeOf221
 v171:=Tryz.zeroValue221
 t173:=Tryz.underlying223
 a173:=Tryz.isAgg223
 z173:=Tryz.sizeOf223
 v173:=Tryz.zeroValue223
 t212:=Tryz.underlying236
 a212:=Tryz.isAgg236
 z212:=Tryz.sizeOf236
 v212:=Tryz.zeroValue236
 t213:=Tryz.underlying237
 a213:=Tryz.isAgg237
 z213:=Tryz.sizeOf237
 t232:=Tryz.underlying242
 a232:=Tryz.isAgg242
 z232:=Tryz.sizeOf242
 v232:=Tryz.zeroValue242
 t233:=Tryz.underlying243
 a233:=Tryz.isAgg243
 z233:=Tryz.sizeOf243
 v233:=Tryz.zeroValue243
 g17:=by kernel_rfl
 g18:=by kernel_rfl
 g19:=by kernel_rfl
 i0:=by kernel_rfl
 i2:=by kernel_rfl
 i3:=by kernel_rfl
 i4:=by kernel_rfl
 i5:=by kernel_rfl
 i9:=by kernel_rfl
 i20:=by kernel_rfl
 i37:=by kernel_rfl
 i46:=by kernel_rfl
 i51:=by kernel_rfl
 i53:=by kernel_rfl
 i171:=by kernel_rfl
 i173:=by kernel_rfl
 i212:=by kernel_rfl
 i232:=by kernel_rfl
 i233:=by kernel_rfl
 m17:=by kernel_rfl
 m18:=by kernel_rfl
 m19:=by kernel_rfl}
def Tryz.rev8_ren:Go.Shelf.Ren:=⟨fun | 35=>207 | n=>n,fun | 22=>158 | 23=>5 | 3=>3 | 4=>4 | 0=>0 | n=>n,fun | n=>n⟩
theorem Tryz.rev8:Go.Proofs.SlLaysE.n35 Tryz.prog Tryz.rev8_ren:={
 mixed:=by kernel_rfl
 f35:=⟨Tryz.f207.name,by decide,Tryz.func207.trans (J87 some (by kernel_rfl))⟩
 t0:=Tryz.underlying0
 a0:=Tryz.isAgg0
 z0:=Tryz.sizeOf0
 v0:=Tryz.zeroValue0
 t3:=Tryz.underlying3
 a3:=Tryz.isAgg3
 z3:=Tryz.sizeOf3
 v3:=Tryz.zeroValue3
 t4:=Tryz.underlying4
 a4:=Tryz.isAgg4
 z4:=Tryz.sizeOf4
 v4:=Tryz.zeroValue4
 t22:=Tryz.underlying158
 a22:=Tryz.isAgg158
 z22:=Tryz.sizeOf158
 v22:=Tryz.zeroValue158
 a23:=Tryz.isAgg5
 z23:=Tryz.sizeOf5}
end Go.Proofs
namespace Go.Wf
open Go Go.Proofs Go.RowKit Go.Sort
abbrev T10(X:Nat→Prop)(w:World):Prop:=Tb Tryz.prog "internal/strconv.uint64pow10" .u64 Lib.pow10Tab X w
section
variable {X:Nat→Prop} {w:World} {v:Value} {E:TypeId}
theorem Jdq(hX:∀ b,X b→b < w.heap.size){n:Int}(hT:T10 X w)(h0: -9223372036854775808≤n)(h1:n≤9223372036854775807):
  Calls Tryz.prog 157 #[.int .i64 n] w (Ret w fun v w'=>v=str (Lib.itoa n)):=by
 refine(Any.strconv_Itoa Tryz.laysM171 n h0 h1 w hT.tab).mono ?_
 rintro e w' ⟨rfl,k,os,rfl⟩;refine⟨rfl,⟨rfl,rfl,rfl,by simp [grow],fun i hi=>?_⟩⟩
 simp only [grow];exact Array.getElem?_append_left hi
def bas(l:List UInt8):ByteArray:=⟨l.toArray⟩
theorem Jv4(l:List (List UInt8)):(l.map bas).map (·.data.toList)=l:=by
 induction l with
 | nil=>rfl
 | cons a l ih=>rw [J93,J93,ih];rfl
theorem Jl3(hX:∀ b,X b→b < w.heap.size){l:List (List UInt8)}{s:List UInt8}(r0:RS K6 X w v l)(hl:l.length≤10000000000)(hj:(Lib.join l s).length≤100000000000):
  Calls Tryz.prog 109 #[v,str s] w (Ret w fun v w'=>v=str (Lib.join l s)):=by
 obtain⟨a,c,rfl,h1,h2,h3⟩:=r0
 by_cases hn:l=[]
 ·subst hn
  refine(Any.strings_Join_none Tryz.lays156 Tryz.Builder_Extra_156 a c (bas s) w).mono ?_
  rintro e w' ⟨rfl,rfl⟩;exact⟨rfl,Below.refl _ _⟩
 ·rcases h3 with h3 | ⟨b,o,rfl,hx,h3⟩
  ·exact absurd h3 hn
  have hc:∀ (j:Nat) (u:ByteArray),(l.map bas)[j]? =some u→w.cell? ⟨b,o+j,none⟩=some (.string u):=by
   intro j u hu;rw [J94] at hu;obtain⟨q,hq,rfl⟩:=Option.map_eq_some_iff.1 hu;obtain⟨cs,⟨rfl,_⟩,h5⟩:=h3 j q hq
   have:=h5 0 _ rfl
   rw [show o+j=o+j * K6.sz+0 by show o+j=o+j * 1+0;omega];exact this
  have hp:0 < l.length:=List.length_pos_iff.2 hn;have hb:b < w.heap.size:=World.block_lt_of_cell? w _ (hc 0 (bas l[0]) (by rw [J94,J9f hp];rfl));have hml:(l.map bas).length=l.length:=List.length_map ..;have hjj:Lib.join ((l.map bas).map (·.data.toList)) (bas s).data.toList=Lib.join l s:=by rw [Jv4];rfl
  have h:=Any.strings_Join Tryz.lays156 Tryz.Builder_Extra_156 b o c (l.map bas) (bas s) w hc hb (by rw [hml];omega) (by rw [hml];exact h1) (by rw [hjj];omega);rw [hjj,hml] at h;refine h.mono ?_;rintro e w' ⟨rfl,hbl⟩;exact⟨rfl,hbl⟩
theorem Jqf(hX:∀ b,X b→b < w.heap.size){l:List UInt8}(o0:OW u8Ty E X w v l)(m0:∀ k,v.ownBlock=some k→X k)(hl:l.length≤100000000000):
  Calls Tryz.prog 207 #[v] w (RetO w v.ownBlock fun _ w'=>OWr u8Ty E X w v.ownBlock v w' l.reverse):=by
 have h:=o0.u8
 by_cases hv:v= .slice none 0 0
 ·subst hv;have h0:l=[]:=by
   obtain⟨a,c,e,_,_⟩:=o0.opn
   injection e with _ e2 _
   exact J9n e2.symm
  subst h0
  refine(AnyE.slices_Reverse_empty Tryz.rev8 none 0 w).mono ?_
  rintro e w' ⟨rfl,rfl⟩;exact⟨⟨OW.of8 (World.ownsRow_nil _ _ _ _),fun k hk=> .inl hk⟩,Bel.refl _⟩
 ·obtain⟨g,cap,rfl,_,hlt,hn,hc,hlen,hH⟩:=Lib.holds_of_ownsRow h hv
  refine(AnyE.slices_Reverse Tryz.rev8 u8v (fun _=>rfl) g 0 cap l w hH (by omega)).mono ?_
  rintro e w' ⟨rfl,q,rfl⟩;have hr:=Lib.ownsRow_putRow (q:=q) (k:=l.length) (ys:=l.reverse) h List.length_reverse (J9g _);rw [J9o (by rw [List.length_reverse];exact J9g _)] at hr;refine⟨⟨OW.of8 (by rw [List.length_reverse];exact hr),fun k hk=> .inl hk⟩,⟨rfl,rfl,rfl,by simp [putRow,mapBlock,Sort.ahead],fun k hk hm=>?_⟩⟩
  have hgk:g≠k:=fun e=>hm (by simp [Value.ownBlock,e]);simp [putRow,mapBlock,Sort.ahead,Array.getElem?_modify,hgk]
end
theorem rs_n{α:Type}{T:Ty α}{x:Nat→Prop}{w:World}{a:Option Addr}{n m c:Nat}{l:List α}(h:RS T x w (.slice a n c) l)(e:n=m):RS T x w (.slice a m c) l:=e ▸ h
theorem Jrc{α:Type}{l:List α}{j:Nat}(h:j≤l.length):(l.take j).length=j:=by rw [J9b,Nat.min_eq_left h]
theorem OS.tk8{w0:Bs}{x y:Nat→Prop}{w:World}{E:TypeId}{a:Option Addr}{n c j:Nat}{l:List UInt8}(h:OS u8Ty E w0 x y w (.slice a n c) l)(hj:j≤l.length):OS u8Ty E w0 x y w (.slice a (l.take j).length c) (l.take j):=by
 rw [Jrc hj];exact h.take hj
theorem RV.n_rng{X:Nat→Prop}{w:World}{v:Value}{a:GExpr}{i:Nat}(h:RV Jf X w v a)(hi:i < a.n.length): -9223372036854775808≤a.n.getD i 0∧a.n.getD i 0≤9223372036854775807:=by
 obtain⟨a1,c1,a2,c2,a3,c3,a4,c4,_,h'⟩:=J8e h;obtain⟨b,o,cs,_,_,hr,_⟩:=h'.n.at (J9f hi);rw [J9d,J9f hi];exact hr.2
theorem el_of{P:Program}{X:Nat→Prop}{w:World}{g:Nat}{cs:List Value}{E:TypeId}{a:GExpr}(hB:Blk w g cs E)(hr:Jf.rd X w cs a)(hX:¬ X g):ElAt Jf X w g 0 cs a:=
 ⟨hX,hr,fun q v hq=>by rw [Nat.zero_add];exact hB.cell hq⟩
end Go.Wf
namespace Go.Proofs.YtjiojpmoleilgaaGreatDoor
open Go Go.Proofs Go.Wf Go.RowKit
theorem Jno:(Rows.laid_internal_strconv_uint64pow10:DataW Unit)=Lib.tabData .u64 Lib.pow10Tab:=by kernel_rfl
theorem gP10:Tryz.prog.globalNamed "internal/strconv.uint64pow10" =some 2:=by kernel_rfl
theorem tP10:(Tryz.prog.globals[2]?).map (·.type)=some 236:=by kernel_rfl
theorem uP10:Tryz.prog.underlying 236=some (.array 20 140):=by kernel_rfl
theorem u140:Tryz.prog.underlying 140=some (.int .u64):=by kernel_rfl
theorem c140:Tryz.prog.cellsOf 140=1:=by kernel_rfl
theorem cP10:Tryz.prog.cellsOf 236=20:=by kernel_rfl
theorem J0g{W:World}(h:laidMetH Tryz.prog ya W):T10 (fun _=>False) W:=by
 rw [MakeChecks.laidMetH_plain _ _ _ Jqr] at h;obtain⟨g,t,cs,fuel,p,h1,h2,h3,h4⟩:=Lib.laidMet.reads h (n:= "internal/strconv.uint64pow10") (d:=Rows.laid_internal_strconv_uint64pow10) (.tail _ (.tail _ (.head _)));obtain rfl:=Option.some.inj (gP10.symm.trans h1);obtain rfl:=Option.some.inj (tP10.symm.trans h2);rw [Jno] at h4;have hcs:=Lib.cells_of_tab uP10 u140 c140 cP10 h4;refine⟨?_,fun g hg=>⟨id,?_⟩⟩
 ·unfold Lib.TabIs;rw [h3];exact J87 some (by rw [← hcs])
 ·obtain rfl:=Option.some.inj (gP10.symm.trans hg);unfold World.var? at h3;rw [h1] at h3;simp only [Option.bind_some] at h3
  rcases J9w 2 W.heap.size with hl | hl
  ·exact hl
  ·rw [Array.getElem?_eq_none hl] at h3;cases h3
end Go.Proofs.YtjiojpmoleilgaaGreatDoor
namespace Go.Wf
open Go Go.Proofs
theorem pl2:Ym Tryz.prog 2=true:=by kernel_rfl
theorem io3:Zg Tryz.prog 3=some (.int .i64 0,1,8):=by kernel_rfl
theorem pl3:Ym Tryz.prog 3=true:=by kernel_rfl
theorem pl4:Ym Tryz.prog 4=true:=by kernel_rfl
theorem io5:Zg Tryz.prog 5=some (.int .u8 0,1,1):=by kernel_rfl
theorem pl5:Ym Tryz.prog 5=true:=by kernel_rfl
theorem io9:Zg Tryz.prog 9=some (str [],1,16):=by kernel_rfl
theorem pl9:Ym Tryz.prog 9=true:=by kernel_rfl
theorem io23:Zg Tryz.prog 23=some (.slice none 0 0,1,24):=by kernel_rfl
theorem pl23:Ym Tryz.prog 23=true:=by kernel_rfl
theorem pl24:Ym Tryz.prog 24=true:=by kernel_rfl
theorem io26:Zg Tryz.prog 26=some (.agg #[.bool false,.slice none 0 0],2,32):=by kernel_rfl
theorem ag26:vr Tryz.prog 26 2=true:=by kernel_rfl
theorem io28:Zg Tryz.prog 28=some (.agg #[.bool false,.slice none 0 0,.bool false,.slice none 0 0],4,64):=by kernel_rfl
theorem ag28:vr Tryz.prog 28 4=true:=by kernel_rfl
theorem io29:Zg Tryz.prog 29=some (.slice none 0 0,1,24):=by kernel_rfl
theorem pl29:Ym Tryz.prog 29=true:=by kernel_rfl
theorem io31:Zg Tryz.prog 31=some (.agg #[.int .i64 0,.slice none 0 0,.bool false,.slice none 0 0,.bool false,.slice none 0 0,str [],.slice none 0 0],8,136):=by kernel_rfl
theorem ag31:vr Tryz.prog 31 8=true:=by kernel_rfl
theorem io32:Zg Tryz.prog 32=some (.int .i64 0,1,8):=by kernel_rfl
theorem pl32:Ym Tryz.prog 32=true:=by kernel_rfl
theorem Jh:Zg Tryz.prog 118=some (.int .u32 0,1,4):=by kernel_rfl
theorem Zj:Ym Tryz.prog 118=true:=by kernel_rfl
theorem sl23:Tryz.prog.underlying 23=some (.slice 3):=by kernel_rfl
theorem sl24:Tryz.prog.underlying 24=some (.slice 118):=by kernel_rfl
theorem sl29:Tryz.prog.underlying 29=some (.slice 31):=by kernel_rfl
theorem sl50:Tryz.prog.underlying 50=some (.slice 9):=by kernel_rfl
theorem Q6:Tryz.prog.underlying 158=some (.slice 5):=by kernel_rfl
theorem un3:Tryz.prog.underlying 3=some (.int .i64):=by kernel_rfl
theorem us3:(Tryz.prog.underlying 3).isSome=true:=by kernel_rfl
theorem un5:Tryz.prog.underlying 5=some (.int .u8):=by kernel_rfl
theorem us5:(Tryz.prog.underlying 5).isSome=true:=by kernel_rfl
theorem Yo:Tryz.prog.underlying 118=some (.int .u32):=by kernel_rfl
theorem Z8:(Tryz.prog.underlying 118).isSome=true:=by kernel_rfl
theorem Z9:Tryz.prog.underlying 140=some (.int .u64):=by kernel_rfl
theorem Yl:(Tryz.prog.underlying 140).isSome=true:=by kernel_rfl
theorem Jok:Tryz.prog.underlying 110=some (.int .u64):=by kernel_rfl
theorem un9:Tryz.prog.underlying 9=some .string:=by kernel_rfl
theorem un4:Tryz.prog.underlying 4=some .bool:=by kernel_rfl
theorem Zv:Zy Tryz.prog 26 0=some 0:=by kernel_rfl
theorem J5:Zy Tryz.prog 26 1=some 1:=by kernel_rfl
theorem Km:Zy Tryz.prog 28 0=some 0:=by kernel_rfl
theorem Yk:Zy Tryz.prog 28 1=some 2:=by kernel_rfl
theorem Js:Zy Tryz.prog 31 0=some 0:=by kernel_rfl
theorem Zb:Zy Tryz.prog 31 1=some 1:=by kernel_rfl
theorem Z6:Zy Tryz.prog 31 2=some 2:=by kernel_rfl
theorem X9:Zy Tryz.prog 31 3=some 6:=by kernel_rfl
theorem J1:Zy Tryz.prog 31 4=some 7:=by kernel_rfl
theorem cb9:Jb Tryz.prog 9=true:=by kernel_rfl
theorem cb10:Jb Tryz.prog 10=true:=by kernel_rfl
theorem cb12:Jb Tryz.prog 12=true:=by kernel_rfl
theorem cb13:Jb Tryz.prog 13=true:=by kernel_rfl
theorem cb14:Jb Tryz.prog 14=true:=by kernel_rfl
theorem cb15:Jb Tryz.prog 15=true:=by kernel_rfl
theorem cb16:Jb Tryz.prog 16=true:=by kernel_rfl
theorem cb17:Jb Tryz.prog 17=true:=by kernel_rfl
theorem cb18:Jb Tryz.prog 18=true:=by kernel_rfl
theorem cb19:Jb Tryz.prog 19=true:=by kernel_rfl
theorem cb20:Jb Tryz.prog 20=true:=by kernel_rfl
theorem cb21:Jb Tryz.prog 21=true:=by kernel_rfl
theorem cb30:Jb Tryz.prog 30=true:=by kernel_rfl
theorem cb34:Jb Tryz.prog 34=true:=by kernel_rfl
theorem cb35:Jb Tryz.prog 35=true:=by kernel_rfl
theorem cb36:Jb Tryz.prog 36=true:=by kernel_rfl
theorem cb37:Jb Tryz.prog 37=true:=by kernel_rfl
theorem cb38:Jb Tryz.prog 38=true:=by kernel_rfl
theorem cb39:Jb Tryz.prog 39=true:=by kernel_rfl
theorem cb40:Jb Tryz.prog 40=true:=by kernel_rfl
theorem cb41:Jb Tryz.prog 41=true:=by kernel_rfl
theorem cb42:Jb Tryz.prog 42=true:=by kernel_rfl
theorem cb43:Jb Tryz.prog 43=true:=by kernel_rfl
theorem cb44:Jb Tryz.prog 44=true:=by kernel_rfl
theorem cb45:Jb Tryz.prog 45=true:=by kernel_rfl
theorem cb46:Jb Tryz.prog 46=true:=by kernel_rfl
theorem cb47:Jb Tryz.prog 47=true:=by kernel_rfl
theorem cb48:Jb Tryz.prog 48=true:=by kernel_rfl
theorem cb49:Jb Tryz.prog 49=true:=by kernel_rfl
theorem cb50:Jb Tryz.prog 50=true:=by kernel_rfl
theorem cb51:Jb Tryz.prog 51=true:=by kernel_rfl
theorem cb52:Jb Tryz.prog 52=true:=by kernel_rfl
theorem cb53:Jb Tryz.prog 53=true:=by kernel_rfl
theorem cb63:Jb Tryz.prog 63=true:=by kernel_rfl
theorem cb67:Jb Tryz.prog 67=true:=by kernel_rfl
theorem cb68:Jb Tryz.prog 68=true:=by kernel_rfl
theorem cb72:Jb Tryz.prog 72=true:=by kernel_rfl
theorem cb73:Jb Tryz.prog 73=true:=by kernel_rfl
theorem cb74:Jb Tryz.prog 74=true:=by kernel_rfl
theorem cb75:Jb Tryz.prog 75=true:=by kernel_rfl
theorem cb76:Jb Tryz.prog 76=true:=by kernel_rfl
theorem cb77:Jb Tryz.prog 77=true:=by kernel_rfl
theorem cb78:Jb Tryz.prog 78=true:=by kernel_rfl
theorem cb79:Jb Tryz.prog 79=true:=by kernel_rfl
theorem cb80:Jb Tryz.prog 80=true:=by kernel_rfl
theorem cb81:Jb Tryz.prog 81=true:=by kernel_rfl
theorem cb82:Jb Tryz.prog 82=true:=by kernel_rfl
theorem cb83:Jb Tryz.prog 83=true:=by kernel_rfl
theorem cb85:Jb Tryz.prog 85=true:=by kernel_rfl
theorem cb91:Jb Tryz.prog 91=true:=by kernel_rfl
theorem cb92:Jb Tryz.prog 92=true:=by kernel_rfl
theorem cb98:Jb Tryz.prog 98=true:=by kernel_rfl
theorem cb99:Jb Tryz.prog 99=true:=by kernel_rfl
theorem Jxs:Jb Tryz.prog 101=true:=by kernel_rfl
theorem Jys:Jb Tryz.prog 102=true:=by kernel_rfl
theorem Jeh:Jb Tryz.prog 104=true:=by kernel_rfl
theorem Jp4:Jb Tryz.prog 105=true:=by kernel_rfl
theorem Jjd:Jb Tryz.prog 106=true:=by kernel_rfl
theorem Jn2:Jb Tryz.prog 107=true:=by kernel_rfl
theorem Jjx:Jb Tryz.prog 108=true:=by kernel_rfl
theorem Jvf:Jb Tryz.prog 109=true:=by kernel_rfl
theorem Jyu:Jb Tryz.prog 110=true:=by kernel_rfl
theorem Jn9:Jb Tryz.prog 111=true:=by kernel_rfl
theorem Joh:Jb Tryz.prog 112=true:=by kernel_rfl
theorem cb113:Jb Tryz.prog 113=true:=by kernel_rfl
theorem cb114:Jb Tryz.prog 114=true:=by kernel_rfl
theorem Jv1:Jb Tryz.prog 115=true:=by kernel_rfl
theorem Jsv:Jb Tryz.prog 116=true:=by kernel_rfl
theorem Jjv:Jb Tryz.prog 117=true:=by kernel_rfl
theorem vp:Jb Tryz.prog 118=true:=by kernel_rfl
theorem Jnm:Jb Tryz.prog 119=true:=by kernel_rfl
theorem cb120:Jb Tryz.prog 120=true:=by kernel_rfl
theorem Jia:Jb Tryz.prog 121=true:=by kernel_rfl
theorem cb123:Jb Tryz.prog 123=true:=by kernel_rfl
theorem cb135:Jb Tryz.prog 135=true:=by kernel_rfl
theorem Jm4:Jb Tryz.prog 137=true:=by kernel_rfl
theorem cb141:Jb Tryz.prog 141=true:=by kernel_rfl
theorem cb147:Jb Tryz.prog 147=true:=by kernel_rfl
theorem Ji9:Jb Tryz.prog 148=true:=by kernel_rfl
theorem Jes:Jb Tryz.prog 152=true:=by kernel_rfl
theorem Jud:Jb Tryz.prog 153=true:=by kernel_rfl
theorem Jt6:Jb Tryz.prog 154=true:=by kernel_rfl
theorem Jdi:Jb Tryz.prog 155=true:=by kernel_rfl
theorem Jtg:Jb Tryz.prog 156=true:=by kernel_rfl
theorem Jd3:Jb Tryz.prog 157=true:=by kernel_rfl
theorem Jh0:Jb Tryz.prog 158=true:=by kernel_rfl
theorem J0j:Jb Tryz.prog 162=true:=by kernel_rfl
theorem zh:Jb Tryz.prog 163=true:=by kernel_rfl
theorem Jn0:Jb Tryz.prog 164=true:=by kernel_rfl
theorem Jve:Jb Tryz.prog 165=true:=by kernel_rfl
theorem Jib:Jb Tryz.prog 166=true:=by kernel_rfl
theorem qs:Jb Tryz.prog 167=true:=by kernel_rfl
theorem Jvo:Jb Tryz.prog 168=true:=by kernel_rfl
theorem Js1:Jb Tryz.prog 169=true:=by kernel_rfl
theorem Jei:Jb Tryz.prog 170=true:=by kernel_rfl
theorem Jh7:Jb Tryz.prog 171=true:=by kernel_rfl
theorem cb174:Jb Tryz.prog 174=true:=by kernel_rfl
theorem J1e:Jb Tryz.prog 182=true:=by kernel_rfl
theorem Jyf:Jb Tryz.prog 183=true:=by kernel_rfl
theorem Jpt:Jb Tryz.prog 184=true:=by kernel_rfl
theorem Jv3:Jb Tryz.prog 186=true:=by kernel_rfl
theorem Jid:Jb Tryz.prog 187=true:=by kernel_rfl
theorem Jkk:Jb Tryz.prog 191=true:=by kernel_rfl
theorem cb192:Jb Tryz.prog 192=true:=by kernel_rfl
theorem qe:Jb Tryz.prog 193=true:=by kernel_rfl
theorem Jnu:Jb Tryz.prog 194=true:=by kernel_rfl
theorem cb195:Jb Tryz.prog 195=true:=by kernel_rfl
theorem Jt3:Jb Tryz.prog 196=true:=by kernel_rfl
theorem Jzg:Jb Tryz.prog 197=true:=by kernel_rfl
theorem Jpr:Jb Tryz.prog 198=true:=by kernel_rfl
theorem Qr:Jb Tryz.prog 205=true:=by kernel_rfl
theorem Jxu:Jb Tryz.prog 206=true:=by kernel_rfl
theorem Jw9:Jb Tryz.prog 207=true:=by kernel_rfl
theorem Vm:Jb Tryz.prog 208=true:=by kernel_rfl
theorem Jnl:Jb Tryz.prog 209=true:=by kernel_rfl
theorem Jea:Jb Tryz.prog 211=true:=by kernel_rfl
theorem cb214:Jb Tryz.prog 214=true:=by kernel_rfl
theorem cb215:Jb Tryz.prog 215=true:=by kernel_rfl
theorem Jw1:Jb Tryz.prog 216=true:=by kernel_rfl
theorem cb217:Jb Tryz.prog 217=true:=by kernel_rfl
theorem Juf:Jb Tryz.prog 218=true:=by kernel_rfl
theorem Jn4:Jb Tryz.prog 219=true:=by kernel_rfl
theorem cb221:Jb Tryz.prog 221=true:=by kernel_rfl
theorem cb222:Jb Tryz.prog 222=true:=by kernel_rfl
theorem cb225:Jb Tryz.prog 225=true:=by kernel_rfl
theorem cb226:Jb Tryz.prog 226=true:=by kernel_rfl
theorem J1p:Jb Tryz.prog 228=true:=by kernel_rfl
theorem J0s:Jb Tryz.prog 229=true:=by kernel_rfl
theorem Jx0:Jb Tryz.prog 230=true:=by kernel_rfl
theorem cb235:Jb Tryz.prog 235=true:=by kernel_rfl
theorem Jo0:Jb Tryz.prog 239=true:=by kernel_rfl
theorem Jw6:Jb Tryz.prog 240=true:=by kernel_rfl
theorem Jp8:Jb Tryz.prog 241=true:=by kernel_rfl
theorem Jwm:Jb Tryz.prog 242=true:=by kernel_rfl
theorem Jxc:Jb Tryz.prog 243=true:=by kernel_rfl
theorem Jvp:Jb Tryz.prog 244=true:=by kernel_rfl
theorem J0m:Jb Tryz.prog 246=true:=by kernel_rfl
theorem cb247:Jb Tryz.prog 247=true:=by kernel_rfl
theorem Jz7:Jb Tryz.prog 248=true:=by kernel_rfl
theorem cb253:Jb Tryz.prog 253=true:=by kernel_rfl
theorem Jyw:Jb Tryz.prog 254=true:=by kernel_rfl
theorem cb255:Jb Tryz.prog 255=true:=by kernel_rfl
theorem cb256:Jb Tryz.prog 256=true:=by kernel_rfl
theorem Jm2:Jb Tryz.prog 257=true:=by kernel_rfl
theorem Jnz:Jb Tryz.prog 258=true:=by kernel_rfl
theorem cb260:Jb Tryz.prog 260=true:=by kernel_rfl
theorem cb261:Jb Tryz.prog 261=true:=by kernel_rfl
theorem cb265:Jb Tryz.prog 265=true:=by kernel_rfl
theorem cb273:Jb Tryz.prog 273=true:=by kernel_rfl
theorem cb278:Jb Tryz.prog 278=true:=by kernel_rfl
theorem mixed:Tryz.prog.follows .mixedOrders=true:=by kernel_rfl
theorem Xx:Zg Tryz.prog 125=some (.agg #[.int .i64 0,.int .i64 0,.int .i64 0],3,24):=by kernel_rfl
theorem Qs:vr Tryz.prog 125 3=true:=by kernel_rfl
theorem Js5:Zy Tryz.prog 125 0=some 0:=by kernel_rfl
theorem Jst:Zy Tryz.prog 125 1=some 1:=by kernel_rfl
theorem Jce:Zy Tryz.prog 125 2=some 2:=by kernel_rfl
theorem Yf:Zy Tryz.prog 86 0=some 0:=by kernel_rfl
theorem J7:Zy Tryz.prog 86 1=some 1:=by kernel_rfl
theorem Yc:Zy Tryz.prog 88 0=some 0:=by kernel_rfl
theorem Jdk:Zy Tryz.prog 88 1=some 2:=by kernel_rfl
end Go.Wf
namespace Go.Wf
open Go Go.Proofs Go.RowKit
theorem X2{X:Nat→Prop}{w:World}(hX:XB X w){g:Nat}{s:List UInt8}{p o:Nat}(hB:Blk w g (rc s p o) 88)(hXg:X g)(hp:p≤s.length)(hs:s.length≤65536):Calls Tryz.prog 68 #[(.pointer (some ⟨g,0,none⟩))] w (RetM w g fun v w'=>v=(.int .u8 (((hdM s p):Nat):Int))∧Blk w' g (rc s (spM s p) o) 88):=by
 have C:=J53 g hX hXg;have M:=J8j hB;refine Cgo (args:=[(.pointer (some ⟨g,0,none⟩))]) Tryz.func68 rfl rfl rfl (Rg<|Ua<|J40<|W.block<|J5e (fun μ f v=>∃ (x y:Nat→Prop) (i:Nat),Cx X ⟨w,(· =g)⟩ x y v∧f 0=(.pointer (some ⟨g,0,none⟩))∧f 2=(.int .u8 0)∧Own ⟨w,(· =g)⟩ y v g [(str s),(.int .i64 ((i:Nat):Int)),(.int .i64 ((o:Nat):Int))] 88∧i≤s.length∧spM s i=spM s p∧μ=(s.length - i)) _ ⟨_,_,p,C,rfl,rfl,M,hp,rfl,rfl⟩ ?_);rintro P f1 w2 ⟨x3,y4,i,e,h,k,d,hi,hR,N⟩;obtain⟨Q,rfl⟩:=rebK (aC h<|aC k aN);clear h k;refine J40<|J40 ?_
 by_cases hin:i < s.length
 ·by_cases hbl:(s.getD i 0).toNat=32
  ·refine J52 mixed 19 e (Qm<|Qn<|Qf J7 rfl<|Qd d pl3 rfl rfl<|Qm<|Qn<|Qf Yf rfl<|Qd d pl9 rfl rfl<|Qp (fun _=>J5x un9 rfl ⟨rfl,rfl⟩)<|Qp (fun _=>J56 (t:=true) rfl rfl (J84 (by omega)) ⟨rfl,rfl⟩)<|Qm<|Qg<|Qm<|Qg<|Qn<|Qg<|Qf Yf rfl<|Qg<|Qd d pl9 rfl rfl<|Qg<|Qm<|Qg<|Qn<|Qg<|Qf J7 rfl<|Qg<|Qd d pl3 rfl rfl ?_);refine Qz fun R l m=>?_
   replace d:=d.spn m;refine OgD (J5t (j:=i) (c:=(s.getD i 0)) un9 rfl rfl rfl (Jc (by omega))<|OgD<|J5y (t:=true) rfl rfl (J84 (by omega))<|OT<|Nl<|Ud<|J4v<|W.block<|J4u<|Ub<|J45 rfl<|Ol<|J4o J7 rfl<|Ol<|J4t d pl3 rfl rfl<|Ol<|St.add rfl rfl (Ja (a:=i) (b:=1) (by omega)) ?_);refine Ol (J45 rfl<|Ol<|J4o J7 rfl<|On<|J5r (cs':=[(str s),(.int .i64 ((i+1:Nat):Int)),(.int .i64 ((o:Nat):Int))]) l d io3 rfl rfl rfl rfl rfl rfl ?_);intro S r T A;refine Nl<|⟨_,(by omega),_,_,(i+1),r,rfl,rfl,A,(by omega),((Jja (by omega) (by omega)).trans hR),rfl⟩
  refine J52 mixed 19 e (Qm<|Qn<|Qf J7 rfl<|Qd d pl3 rfl rfl<|Qm<|Qn<|Qf Yf rfl<|Qd d pl9 rfl rfl<|Qp (fun _=>J5x un9 rfl ⟨rfl,rfl⟩)<|Qp (fun _=>J56 (t:=true) rfl rfl (J84 (by omega)) ⟨rfl,rfl⟩)<|Qm<|Qg<|Qm<|Qg<|Qn<|Qg<|Qf Yf rfl<|Qg<|Qd d pl9 rfl rfl<|Qg<|Qm<|Qg<|Qn<|Qg<|Qf J7 rfl<|Qg<|Qd d pl3 rfl rfl ?_);refine Qz fun U B D=>?_
  replace d:=d.spn D;refine OgD (J5t (j:=i) (c:=(s.getD i 0)) un9 rfl rfl rfl (Jc (by omega))<|OgD<|J5y (t:=false) rfl rfl (J83 (by omega))<|OT<|Nl<|Ue<|J5i<|J40<|J40<|J52 mixed 9 B<|Qm<|Qn<|Qf J7 rfl<|Qd d pl3 rfl rfl<|Qm<|Qn<|Qf Yf rfl<|Qd d pl9 rfl rfl<|Qp (fun _=>J5x un9 rfl ⟨rfl,rfl⟩) ?_);refine Qz fun V E F=>?_
  replace d:=d.spn F;refine Ol<|J5y (t:=false) rfl rfl (J83 (by omega))<|Nl<|Uc<|J40<|J52 mixed 8 E<|Qm<|Qn<|Qf Yf rfl<|Qd d pl9 rfl rfl<|Qm<|Qn<|Qf J7 rfl<|Qd d pl3 rfl rfl<|Qz fun Y G H=>?_
  replace d:=d.spn H;refine Ol<|J5t (j:=i) (c:=(s.getD i 0)) un9 rfl rfl rfl (Jc (by omega))<|Ua<|J4y<|Ju rfl (J8d rfl)<|RetM.intro ⟨?_,?_⟩ G.below
  ·exact J87 (Value.int _)<|pk_at hR hbl
  have hh:=d.blk;rw [show i=(spM s p) from Jrz hR hbl] at hh;exact hh
 refine J52 mixed 19 e<|Qm<|Qn<|Qf J7 rfl<|Qd d pl3 rfl rfl<|Qm<|Qn<|Qf Yf rfl<|Qd d pl9 rfl rfl<|Qp (fun _=>J5x un9 rfl ⟨rfl,rfl⟩)<|Qp (fun _=>J56 (t:=false) rfl rfl (J83 (by omega)) ⟨rfl,rfl⟩)<|Qm<|Qx<|Qx<|Qx<|Qx<|Qx<|Qx<|Qx<|Qx<|Qz fun Z I J=>?_
 replace d:=d.spn J;refine Oz<|Oz<|OF<|Nl<|Ue<|J5i<|J40<|J40<|J52 mixed 9 I<|Qm<|Qn<|Qf J7 rfl<|Qd d pl3 rfl rfl<|Qm<|Qn<|Qf Yf rfl<|Qd d pl9 rfl rfl<|Qp (fun _=>J5x un9 rfl ⟨rfl,rfl⟩)<|Qz fun aa K L=>?_
 replace d:=d.spn L;refine Ol<|J5y (t:=true) rfl rfl (J84 (by omega))<|Nl<|Uf<|Ua<|J4y<|Ju rfl (J8d rfl)<|RetM.intro ⟨?_,?_⟩ K.below
 ·exact J87 (Value.int _)<|Jyh hR (by omega)
 have hh:=d.blk;rw [show i=(spM s p) from Jk1 hR (by omega)] at hh;exact hh
theorem Jf2{X:Nat→Prop}{w:World}(hX:XB X w){n:Nat}  :CRt 194 #[(.int .u8 ((n:Nat):Int))] w fun v w'=>v=(.bool (Y6 n)):=by
 have C:=J4z hX;refine Cgo (args:=[(.int .u8 ((n:Nat):Int))]) Tryz.func194 rfl rfl rfl<|Rg<|Ua<|Rg<|Ub<|J50 rfl rfl (fun a=>?_)<|fun a=>?_
 ·refine Om<|OgD<|J4x<|OgD<|J6f rfl rfl (fun b=>?_)<|fun b=>?_
  ·exact OT<|Om<|Oz<|Oz<|Oz<|OyD<|OyD<|Oz<|OT<|Ua<|J4y<|Wq rfl rfl C<|J87 (Value.bool)<|Je0 (by omega)
  refine OT<|Om<|OgD<|J4x<|OgD<|J50 rfl rfl (fun d=>?_)<|fun d=>?_
  ·exact OgD<|J4x<|OgD<|J4x<|OgD<|J6j rfl rfl rfl<|OgD<|J5j (t:=true) rfl<|OF<|Ua<|J4y<|Wq rfl rfl C<|J87 (Value.bool)<|yc (by omega)
  exact OgD<|J4x<|Oz<|Oz<|OgD<|J5j (t:=false) rfl<|OF<|Ua<|J4y<|Wq rfl rfl C<|J87 (Value.bool)<|qa (by omega)
 refine Om<|Oz<|Oz<|OF<|Om<|OgD<|J4x<|OgD<|J50 rfl rfl (fun e=>?_)<|fun e=>?_
 ·exact OgD<|J4x<|OgD<|J4x<|OgD<|J6j rfl rfl rfl<|OgD<|J5j (t:=true) rfl<|OF<|Ua<|J4y<|Wq rfl rfl C<|J87 (Value.bool)<|yc (by omega)
 exact OgD<|J4x<|Oz<|Oz<|OgD<|J5j (t:=false) rfl<|OF<|Ua<|J4y<|Wq rfl rfl C<|J87 (Value.bool)<|qa (by omega)
theorem Jc5{X:Nat→Prop}{w:World}(hX:XB X w){n:Nat}  :CRt 191 #[(.int .u8 ((n:Nat):Int))] w fun v w'=>v=(.bool (Yn n)):=by
 have C:=J4z hX;refine Cgo (args:=[(.int .u8 ((n:Nat):Int))]) Tryz.func191 rfl rfl rfl<|Rg<|Ua<|Rg<|Ub<|J50 rfl rfl (fun a=>?_)<|fun a=>?_
 ·exact Om<|OgD<|J4x<|OgD<|J6j rfl rfl rfl<|OT<|Ua<|J4y<|Wq rfl rfl C<|J87 (Value.bool)<|Je8 (by omega)
 exact Om<|Oz<|Oz<|OF<|Ua<|J4y<|Wq rfl rfl C<|J87 (Value.bool)<|Jej (by omega)
theorem Jpy{X:Nat→Prop}{w:World}(hX:XB X w){g:Nat}{s:List UInt8}{p o:Nat}(hB:Blk w g (rc s p o) 88)(hXg:X g)(hp:p≤s.length)(hs:s.length≤65536):Calls Tryz.prog 195 #[(.pointer (some ⟨g,0,none⟩))] w (RetM w g fun v w'=>v=(str (Zo s p))∧Blk w' g (rc s (p+(Zo s p).length) o) 88):=by
 have C:=J53 g hX hXg;have A:=J8j hB;refine Cgo (args:=[(.pointer (some ⟨g,0,none⟩))]) Tryz.func195 rfl rfl rfl (Rg<|Ua<|Rg<|Ub<|J45 rfl<|Ol<|J4o J7 rfl<|Ol<|J4t A pl3 rfl rfl<|Ua<|J40<|W.block<|J5e (fun μ f v=>∃ (x y:Nat→Prop) (i:Nat),Cx X ⟨w,(· =g)⟩ x y v∧f 0=(.pointer (some ⟨g,0,none⟩))∧f 2=(str [])∧f 3=(.int .i64 ((p:Nat):Int))∧Own ⟨w,(· =g)⟩ y v g [(str s),(.int .i64 ((i:Nat):Int)),(.int .i64 ((o:Nat):Int))] 88∧i≤s.length∧p≤i∧i+(Zo s i).length=p+(Zo s p).length∧μ=(s.length - i)) _ ⟨_,_,p,C,rfl,rfl,rfl,A,hp,(J9g _),rfl,rfl⟩ ?_);rintro ab f1 w2 ⟨x3,y4,i,e,B,D,E,d,hi,hpi,hR,aa⟩;obtain⟨ac,rfl⟩:=rebK (aC B<|aC D<|aC E aN);clear B D E;refine J40<|J40 ?_
 by_cases hin:i < s.length
 ·by_cases hle:Y6 (s.getD i 0).toNat=true
  ·refine J52 mixed 30 e (Qm<|Qn<|Qf J7 rfl<|Qd d pl3 rfl rfl<|Qm<|Qn<|Qf Yf rfl<|Qd d pl9 rfl rfl<|Qp (fun _=>J5x un9 rfl ⟨rfl,rfl⟩)<|Qp (fun _=>J56 (t:=true) rfl rfl (J84 (by omega)) ⟨rfl,rfl⟩)<|Qm<|Qg<|Qm<|Qg<|Qn<|Qg<|Qf Yf rfl<|Qg<|Qd d pl9 rfl rfl<|Qg<|Qm<|Qg<|Qn<|Qg<|Qf J7 rfl<|Qg<|Qd d pl3 rfl rfl ?_);refine Qg<|Qp (fun _=>J5t (j:=i) (c:=(s.getD i 0)) un9 rfl rfl rfl (Jc (by omega)) ⟨rfl,rfl⟩)<|Qg<|Qw (fun w c=>J4p c.1 Jnu rfl rfl (Jf2 c.1.bd (n:=(s.getD i 0).toNat)) fun _ _ C s h=>⟨h.trans<|J87 Value.bool hle,C,c.2.trans s⟩)<|Qg<|Qm<|Qx<|Qx<|Qx<|Qx<|Qx<|Qx<|Qx<|Qx<|Qz fun ad F G=>?_
   replace d:=d.spn G;refine Oz (Oz<|OgD<|J5j (t:=true) rfl<|OT<|Nl<|Ud<|J4v<|W.block<|J4u<|Ub<|J45 rfl<|Ol<|J4o J7 rfl<|Ol<|J4t d pl3 rfl rfl<|Ol<|St.add rfl rfl (Ja (a:=i) (b:=1) (by omega))<|Ol<|J45 rfl<|Ol<|J4o J7 rfl ?_);refine On (J5r (cs':=[(str s),(.int .i64 ((i+1:Nat):Int)),(.int .i64 ((o:Nat):Int))]) F d io3 rfl rfl rfl rfl rfl rfl ?_);intro ae H af I;refine Nl<|⟨_,(by omega),_,_,(i+1),H,rfl,rfl,rfl,I,(by omega),(by omega),((Jkt (by omega)<|.inl hle).trans hR),rfl⟩
  by_cases hdi:Yn (s.getD i 0).toNat=true
  ·refine J52 mixed 30 e (Qm<|Qn<|Qf J7 rfl<|Qd d pl3 rfl rfl<|Qm<|Qn<|Qf Yf rfl<|Qd d pl9 rfl rfl<|Qp (fun _=>J5x un9 rfl ⟨rfl,rfl⟩)<|Qp (fun _=>J56 (t:=true) rfl rfl (J84 (by omega)) ⟨rfl,rfl⟩)<|Qm<|Qg<|Qm<|Qg<|Qn<|Qg<|Qf Yf rfl<|Qg<|Qd d pl9 rfl rfl<|Qg<|Qm<|Qg<|Qn<|Qg<|Qf J7 rfl<|Qg<|Qd d pl3 rfl rfl ?_);refine Qg (Qp (fun _=>J5t (j:=i) (c:=(s.getD i 0)) un9 rfl rfl rfl (Jc (by omega)) ⟨rfl,rfl⟩)<|Qg<|Qw (fun w c=>J4p c.1 Jnu rfl rfl (Jf2 c.1.bd (n:=(s.getD i 0).toNat)) fun _ _ C s h=>⟨h.trans<|J87 Value.bool<|Bool.eq_false_iff.2 hle,C,c.2.trans s⟩)<|Qg<|Qm<|Qg<|Qm<|Qg<|Qn<|Qg<|Qf Yf rfl<|Qg<|Qd d pl9 rfl rfl<|Qg<|Qm ?_);refine Qg<|Qn<|Qg<|Qf J7 rfl<|Qg<|Qd d pl3 rfl rfl<|Qz fun ag k J=>?_
   refine OgD (J5t (j:=i) (c:=(s.getD i 0)) un9 rfl rfl rfl (Jc (by omega))<|OgD<|J4p k Jkk rfl rfl (Jc5 k.bd (n:=(s.getD i 0).toNat)) ?_);intro ah ai K L l;replace d:=(d.spn J).spn L;rw [hdi] at l;subst l;refine OgD (J5j (t:=false) rfl<|OT<|Nl<|Ud<|J4v<|W.block<|J4u<|Ub<|J45 rfl<|Ol<|J4o J7 rfl<|Ol<|J4t d pl3 rfl rfl<|Ol<|St.add rfl rfl (Ja (a:=i) (b:=1) (by omega))<|Ol<|J45 rfl<|Ol<|J4o J7 rfl<|On<|J5r (cs':=[(str s),(.int .i64 ((i+1:Nat):Int)),(.int .i64 ((o:Nat):Int))]) K d io3 rfl rfl rfl rfl rfl rfl ?_);intro aj M ak N;refine Nl<|⟨_,(by omega),_,_,(i+1),M,rfl,rfl,rfl,N,(by omega),(by omega),((Jkt (by omega)<|.inr hdi).trans hR),rfl⟩
  refine J52 mixed 30 e (Qm<|Qn<|Qf J7 rfl<|Qd d pl3 rfl rfl<|Qm<|Qn<|Qf Yf rfl<|Qd d pl9 rfl rfl<|Qp (fun _=>J5x un9 rfl ⟨rfl,rfl⟩)<|Qp (fun _=>J56 (t:=true) rfl rfl (J84 (by omega)) ⟨rfl,rfl⟩)<|Qm<|Qg<|Qm<|Qg<|Qn<|Qg<|Qf Yf rfl<|Qg<|Qd d pl9 rfl rfl<|Qg<|Qm<|Qg<|Qn<|Qg<|Qf J7 rfl<|Qg<|Qd d pl3 rfl rfl ?_);refine Qg (Qp (fun _=>J5t (j:=i) (c:=(s.getD i 0)) un9 rfl rfl rfl (Jc (by omega)) ⟨rfl,rfl⟩)<|Qg<|Qw (fun w c=>J4p c.1 Jnu rfl rfl (Jf2 c.1.bd (n:=(s.getD i 0).toNat)) fun _ _ C s h=>⟨h.trans<|J87 Value.bool<|Bool.eq_false_iff.2 hle,C,c.2.trans s⟩)<|Qg<|Qm<|Qg<|Qm<|Qg<|Qn<|Qg<|Qf Yf rfl<|Qg<|Qd d pl9 rfl rfl<|Qg<|Qm ?_);refine Qg<|Qn<|Qg<|Qf J7 rfl<|Qg<|Qd d pl3 rfl rfl<|Qz fun am m P=>?_
  refine OgD (J5t (j:=i) (c:=(s.getD i 0)) un9 rfl rfl rfl (Jc (by omega))<|OgD<|J4p m Jkk rfl rfl (Jc5 m.bd (n:=(s.getD i 0).toNat)) ?_);intro an ao Q R r;replace d:=(d.spn P).spn R;rw [(Bool.eq_false_iff.2 hdi)] at r;subst r;refine OgD<|J5j (t:=false) rfl<|OT<|Nl<|Ue<|J5i<|J40<|J52 mixed 9 Q<|Qm<|Qn<|Qf Yf rfl<|Qd d pl9 rfl rfl<|Qm<|Qm<|Qn<|Qf J7 rfl<|Qd d pl3 rfl rfl<|Qz fun aq S T=>?_
  replace d:=d.spn T;refine Ol<|J6s (i:=p) (j:=i) un9 rfl rfl rfl rfl rfl (by omega) (by omega)<|Ua<|J4y<|Ju rfl (J8d rfl)<|RetM.intro ⟨?_,?_⟩ S.below
  ·exact J87 (str)<|Jrn (Jk3 hle hdi) hR
  have hh:=d.blk;rw [show i=(p+(Zo s p).length) from Jm0 (Jk3 hle hdi) hR] at hh;exact hh
 refine J52 mixed 30 e<|Qm<|Qn<|Qf J7 rfl<|Qd d pl3 rfl rfl<|Qm<|Qn<|Qf Yf rfl<|Qd d pl9 rfl rfl<|Qp (fun _=>J5x un9 rfl ⟨rfl,rfl⟩)<|Qp (fun _=>J56 (t:=false) rfl rfl (J83 (by omega)) ⟨rfl,rfl⟩)<|Qm<|Qx<|Qx<|Qx<|Qx<|Qx<|Qx<|Qx<|Qx<|Qx<|Qx<|Qx<|Qx<|Qx<|Qx<|Qx<|Qx<|Qx<|Qx<|Qx<|Qz fun ar U V=>?_
 replace d:=d.spn V;refine OyD<|OyD<|Oz<|OF<|Nl<|Ue<|J5i<|J40<|J52 mixed 9 U<|Qm<|Qn<|Qf Yf rfl<|Qd d pl9 rfl rfl<|Qm<|Qm<|Qn<|Qf J7 rfl<|Qd d pl3 rfl rfl<|Qz fun au Y Z=>?_
 replace d:=d.spn Z;refine Ol<|J6s (i:=p) (j:=i) un9 rfl rfl rfl rfl rfl (by omega) (by omega)<|Ua<|J4y<|Ju rfl (J8d rfl)<|RetM.intro ⟨?_,?_⟩ Y.below
 ·exact J87 (str)<|Jrn (Jsc (by omega)) hR
 have hh:=d.blk;rw [show i=(p+(Zo s p).length) from Jm0 (Jsc (by omega)) hR] at hh;exact hh
theorem Vu{X:Nat→Prop}{w:World}(hX:XB X w){g:Nat}{s:List UInt8}{p o:Nat}(hB:Blk w g (rc s p o) 88)(hXg:X g)(hp:p≤s.length)(hs:s.length≤65536):Calls Tryz.prog 198 #[(.pointer (some ⟨g,0,none⟩))] w (RetP w g (dgsM s p) fun a q v w'=>v=(str a)∧Blk w' g (rc s q o) 88):=by
 have C:=J53 g hX hXg;have F:=J8j hB;have hsp:=K0 hp;refine Cgo (args:=[(.pointer (some ⟨g,0,none⟩))]) Tryz.func198 rfl rfl rfl (Rg<|Ua<|Rg<|Ub<|J5z C F cb68 rfl rfl (X2 C.bd (s:=s) (p:=p) (o:=o) F.blk (C.yx _ F.mem) hp hs) ?_);intro v1 w2 Z s4 I h6;subst h6;refine Nl (Rg<|Ub<|J45 rfl<|Ol<|J4o J7 rfl<|Ol<|J4t I pl3 rfl rfl<|Ua<|J40<|W.block<|J5e (fun μ f v=>∃ (x y:Nat→Prop) (i:Nat),Cx X ⟨w,(· =g)⟩ x y v∧f 0=(.pointer (some ⟨g,0,none⟩))∧f 2=(str [])∧f 3=(.int .i64 (((spM s p):Nat):Int))∧Own ⟨w,(· =g)⟩ y v g [(str s),(.int .i64 ((i:Nat):Int)),(.int .i64 ((o:Nat):Int))] 88∧i≤s.length∧spM s p≤i∧i+(digL s i).length=spM s p+(digL s<|spM s p).length∧μ=(s.length - i)) _ ⟨_,_,(spM s p),Z,rfl,rfl,rfl,I,hsp,(J9g _),rfl,rfl⟩ ?_);rintro ab f7 w8 ⟨x9,ac,i,e,h,k,l,d,hi,hpi,hR,Y⟩;obtain⟨ad,rfl⟩:=rebK (aC h<|aC k<|aC l aN);clear h k l;refine J40<|J40 ?_
 by_cases hin:i < s.length
 ·by_cases hdg:Yn (s.getD i 0).toNat=true
  ·refine J52 mixed 19 e (Qm<|Qn<|Qf J7 rfl<|Qd d pl3 rfl rfl<|Qm<|Qn<|Qf Yf rfl<|Qd d pl9 rfl rfl<|Qp (fun _=>J5x un9 rfl ⟨rfl,rfl⟩)<|Qp (fun _=>J56 (t:=true) rfl rfl (J84 (by omega)) ⟨rfl,rfl⟩)<|Qm<|Qg<|Qm<|Qg<|Qn<|Qg<|Qf Yf rfl<|Qg<|Qd d pl9 rfl rfl<|Qg<|Qm<|Qg<|Qn<|Qg<|Qf J7 rfl<|Qg<|Qd d pl3 rfl rfl ?_);refine Qz fun ae m J=>?_
   refine OgD (J5t (j:=i) (c:=(s.getD i 0)) un9 rfl rfl rfl (Jc (by omega))<|OgD<|J4p m Jkk rfl rfl (Jc5 m.bd (n:=(s.getD i 0).toNat)) ?_);intro af ag K L r;replace d:=(d.spn J).spn L;rw [hdg] at r;subst r;refine OT (Nl<|Ud<|J4v<|W.block<|J4u<|Ub<|J45 rfl<|Ol<|J4o J7 rfl<|Ol<|J4t d pl3 rfl rfl<|Ol<|St.add rfl rfl (Ja (a:=i) (b:=1) (by omega))<|Ol<|J45 rfl<|Ol<|J4o J7 rfl<|On<|J5r (cs':=[(str s),(.int .i64 ((i+1:Nat):Int)),(.int .i64 ((o:Nat):Int))]) K d io3 rfl rfl rfl rfl rfl rfl ?_);intro ah M ai N;refine Nl<|⟨_,(by omega),_,_,(i+1),M,rfl,rfl,rfl,N,(by omega),(by omega),((Jks (f:=digB) (by omega) hdg).trans hR),rfl⟩
  refine J52 mixed 19 e (Qm<|Qn<|Qf J7 rfl<|Qd d pl3 rfl rfl<|Qm<|Qn<|Qf Yf rfl<|Qd d pl9 rfl rfl<|Qp (fun _=>J5x un9 rfl ⟨rfl,rfl⟩)<|Qp (fun _=>J56 (t:=true) rfl rfl (J84 (by omega)) ⟨rfl,rfl⟩)<|Qm<|Qg<|Qm<|Qg<|Qn<|Qg<|Qf Yf rfl<|Qg<|Qd d pl9 rfl rfl<|Qg<|Qm<|Qg<|Qn<|Qg<|Qf J7 rfl<|Qg<|Qd d pl3 rfl rfl ?_);refine Qz fun aj A P=>?_
  refine OgD (J5t (j:=i) (c:=(s.getD i 0)) un9 rfl rfl rfl (Jc (by omega))<|OgD<|J4p A Jkk rfl rfl (Jc5 A.bd (n:=(s.getD i 0).toNat)) ?_);intro ak am B Q D;replace d:=(d.spn P).spn Q;rw [(Bool.eq_false_iff.2 hdg)] at D;subst D;refine OT<|Nl<|Ue<|J5i<|Rh<|Om<|Ub<|J45 rfl<|Ol<|J4o J7 rfl<|Ol<|J4t d pl3 rfl rfl<|Ol<|J42 rfl rfl (fun G=>?_)<|fun G=>?_
  ·exact Nl<|Uk<|Ub<|J45 rfl<|Ol<|J4o J7 rfl<|Ol<|J4t d pl3 rfl rfl<|Ol<|J47 (cs:=[(.int .i64 19),(.int .i64 ((i:Nat):Int))]) rfl (by kernel_rfl)<|Ol<|J5v (by kernel_rfl)<|On<|J6q rfl<|Ze (Jx7 (Jd8 (f:=digB)<|Bool.eq_false_iff.2 hdg) hR (by omega)) B.below
  refine Nl<|Uc<|J40<|J52 mixed 9 B<|Qm<|Qn<|Qf Yf rfl<|Qd d pl9 rfl rfl<|Qm<|Qm<|Qn<|Qf J7 rfl<|Qd d pl3 rfl rfl<|Qz fun an R S=>?_
  replace d:=d.spn S;refine Ol<|J6s (i:=(spM s p)) (j:=i) un9 rfl rfl rfl rfl rfl (by omega) (by omega)<|Ua<|J4y<|Ju rfl (J8d rfl)<|RetP.ok (a:=((s.take i).drop (spM s p))) (q:=i) (Jzw (Jd8 (f:=digB)<|Bool.eq_false_iff.2 hdg) hR (by omega)) ⟨?_,?_⟩ R.below
  ·rfl
  exact d.blk
 refine J52 mixed 19 e<|Qm<|Qn<|Qf J7 rfl<|Qd d pl3 rfl rfl<|Qm<|Qn<|Qf Yf rfl<|Qd d pl9 rfl rfl<|Qp (fun _=>J5x un9 rfl ⟨rfl,rfl⟩)<|Qp (fun _=>J56 (t:=false) rfl rfl (J83 (by omega)) ⟨rfl,rfl⟩)<|Qm<|Qx<|Qx<|Qx<|Qx<|Qx<|Qx<|Qx<|Qx<|Qz fun ao E T=>?_
 replace d:=d.spn T;refine Oz<|Oz<|OF<|Nl<|Ue<|J5i<|Rh<|Om<|Ub<|J45 rfl<|Ol<|J4o J7 rfl<|Ol<|J4t d pl3 rfl rfl<|Ol<|J42 rfl rfl (fun H=>?_)<|fun H=>?_
 ·exact Nl<|Uk<|Ub<|J45 rfl<|Ol<|J4o J7 rfl<|Ol<|J4t d pl3 rfl rfl<|Ol<|J47 (cs:=[(.int .i64 19),(.int .i64 ((i:Nat):Int))]) rfl (by kernel_rfl)<|Ol<|J5v (by kernel_rfl)<|On<|J6q rfl<|Ze (Jx7 (Jgt (by omega)) hR (by omega)) E.below
 refine Nl<|Uc<|J40<|J52 mixed 9 E<|Qm<|Qn<|Qf Yf rfl<|Qd d pl9 rfl rfl<|Qm<|Qm<|Qn<|Qf J7 rfl<|Qd d pl3 rfl rfl<|Qz fun aq U V=>?_
 replace d:=d.spn V;refine Ol<|J6s (i:=(spM s p)) (j:=i) un9 rfl rfl rfl rfl rfl (by omega) (by omega)<|Ua<|J4y<|Ju rfl (J8d rfl)<|RetP.ok (a:=((s.take i).drop (spM s p))) (q:=i) (Jzw (Jgt (by omega)) hR (by omega)) ⟨?_,?_⟩ U.below
 ·rfl
 exact d.blk
end Go.Wf
namespace Go.Wf
open Go
theorem fp_t{s:List UInt8}{p c:Nat}(h:folB s p c=true):spM s p+1=fpM s p c:=by unfold fpM;rw [if_pos h]
theorem fp_f{s:List UInt8}{p c:Nat}(h:folB s p c=false):spM s p=fpM s p c:=by unfold fpM;rw [if_neg (by rw [h];decide)]
theorem Jq3{s:List UInt8}{p c:Nat}(h:¬ hdM s p=c):folB s p c=false:=Jpi fun k=>h k.2
theorem Jll{s:List UInt8}{p c:Nat}(h:spM s p=s.length):folB s p c=false:=Jpi fun k=>by omega
theorem Jrb{s:List UInt8}{p c:Nat}(h:hdM s p=c)(hn:¬ spM s p=s.length)(hp:p≤s.length):folB s p c=true:=Jz0 (by have:=K0 hp;omega) h
theorem Jjp(s:List UInt8)(p c:Nat):fpM s (spM s p) c=fpM s p c:=by unfold fpM;rw [Jcx,Jih]
theorem Jjq(s:List UInt8)(p:Nat):dgsM s (spM s p)=dgsM s p:=by unfold dgsM;rw [Jih]
theorem Rr.le{α:Type}{s:List UInt8}{p q:Nat}{x:Rr α}{a:α}(h:x.fw s p)(e:x= .ok a q):q≤s.length:=by rw [e] at h;exact h.2
theorem Rr.ge{α:Type}{s:List UInt8}{p q:Nat}{x:Rr α}{a:α}(h:x.fw s p)(e:x= .ok a q):p≤q:=by rw [e] at h;exact h.1
def qt(s:List UInt8)(o p c:Nat):Rr Unit:=if c=40 then opnM s o p else tkM s p c
def opA(c o:Nat):Nat:=if c=40 then o+1 else if c=41 then o - 1 else o
theorem Jum{s:List UInt8}{o p c:Nat}(h:folB s p c=false):qt s o p c= .er 19 (fpM s p c):=by
 rw [← fp_f h];unfold qt opnM tkM
 split
 ·rename_i e;subst e;rw [if_neg (by rw [h];decide)]
 ·rw [if_neg (by rw [h];decide)]
theorem Jt4{s:List UInt8}{o p c:Nat}(h:folB s p c=true)(hc:c=40)(ho:o=64):qt s o p c= .er 7 (fpM s p c - 1):=by
 subst hc;rw [← fp_t h,Nat.add_sub_cancel];unfold qt opnM;rw [if_pos rfl,if_pos h,if_pos ho]
theorem Jue{s:List UInt8}{o p c:Nat}(h:folB s p c=true)(hc:c=40)(ho:¬ o=64):qt s o p c= .ok () (fpM s p c):=by
 subst hc;rw [← fp_t h];unfold qt opnM;rw [if_pos rfl,if_pos h,if_neg ho]
theorem Jl1{s:List UInt8}{o p c:Nat}(h:folB s p c=true)(hc:¬ c=40):qt s o p c= .ok () (fpM s p c):=by
 rw [← fp_t h];unfold qt tkM;rw [if_neg hc,if_pos h]
theorem Jxa{c o:Nat}(h:c=40):o+1=opA c o:=by unfold opA;rw [if_pos h]
theorem Jz2{c o:Nat}(h:¬ c=40)(h2:c=41):o - 1=opA c o:=by unfold opA;rw [if_neg h,if_pos h2]
theorem Jrl{c o:Nat}(h:¬ c=40)(h2:¬ c=41):o=opA c o:=by unfold opA;rw [if_neg h,if_neg h2]
theorem zn{d:List UInt8}{i:Nat}(h:i < d.length):Jm (d.take (i+1))=Jm (d.take i) * 10+((d.getD i 0).toNat - 48):=by
 unfold Jm;rw [List.take_add_one,List.foldl_append,J9d,J9f h]
 rfl
theorem Jwo{c:UInt8}(h:digB c=true):48≤c.toNat∧c.toNat≤57:=by
 unfold digB Yn at h;simp only [Bool.and_eq_true,decide_eq_true_eq] at h;omega
theorem X7{s d:List UInt8}{p q:Nat}(h:dgsM s p= .ok d q):∀ c ∈ d,digB c=true:=by
 unfold dgsM at h
 split at h
 ·cases h
 ·cases h
  intro c hc;exact List.all_eq_true.1 (List.all_takeWhile (l:=s.drop (spM s p)) (p:=digB)) c hc
theorem Xl{s d:List UInt8}{p q:Nat}(h:dgsM s p= .ok d q):d.length≤s.length:=by
 unfold dgsM at h
 split at h
 ·cases h
 ·cases h
  have:=xz digB (s.drop (spM s p))
  rw [J9a] at this;unfold digL;omega
theorem J02{s d:List UInt8}{p q:Nat}(h:dgsM s p= .ok d q):d≠[]:=by
 unfold dgsM at h
 split at h
 ·cases h
 ·rename_i hn;cases h;exact hn
def valM(d:List UInt8):Nat:=min 1000001 (Jm d)
theorem Joj{d:List UInt8}{i:Nat}(h:i < d.length)(hd:∀ c ∈ d,digB c=true):((valM (d.take (i+1)):Nat):Int)=if((valM (d.take i) * 10+((d.getD i 0).toNat - 48):Nat):Int) < 1000001 then((valM (d.take i) * 10+((d.getD i 0).toNat - 48):Nat):Int) else 1000001:=by
 unfold valM;rw [zn h]
 split <;> omega
theorem yl{d:List UInt8}{i:Nat}(h:i < d.length)(hd:∀ c ∈ d,digB c=true):48≤(d.getD i 0).toNat∧(d.getD i 0).toNat≤57:=by
 rw [J9d,J9f h];exact Jwo (hd _ (List.getElem_mem h))
theorem Jtt{d:List UInt8}{i:Nat}(h:¬ i < d.length):valM (d.take i)=valM d:=by rw [J9o (by omega)]
theorem Jj9(d:List UInt8):valM d≤1000001:=by unfold valM;omega
theorem Jqx{s:List UInt8}{p q:Nat}{e:Int}(h:dgsM s (fpM s (spM s p) 45)= .er e q):intM s p= .er e q:=by
 rw [Jjp] at h;unfold intM;rw [h];rfl
theorem Jld{s d:List UInt8}{p q:Nat}(h:dgsM s (fpM s (spM s p) 45)= .ok d q)(hb:1000000 < ((valM d:Nat):Int)):intM s p= .er 2 (spM s p):=by
 rw [Jjp] at h;unfold intM;rw [h,Rr.th_ok,if_pos (by unfold valM at hb;omega)]
theorem Js6{s d:List UInt8}{p q:Nat}(h:dgsM s (fpM s (spM s p) 45)= .ok d q)(hb:¬ 1000000 < ((valM d:Nat):Int))(hm:folB s (spM s p) 45=true):intM s p= .ok (-((valM d:Nat):Int)) q:=by
 rw [Jjp] at h;rw [Jcx] at hm;unfold intM;unfold valM at hb ⊢;rw [h,Rr.th_ok,if_neg (by omega),if_pos hm,Nat.min_eq_right (by omega)]
theorem Jtx{s d:List UInt8}{p q:Nat}(h:dgsM s (fpM s (spM s p) 45)= .ok d q)(hb:¬ 1000000 < ((valM d:Nat):Int))(hm:folB s (spM s p) 45=false):intM s p= .ok ((valM d:Nat):Int) q:=by
 rw [Jjp] at h;rw [Jcx] at hm;unfold intM;unfold valM at hb ⊢;rw [h,Rr.th_ok,if_neg (by omega),if_neg (by rw [hm];decide),Nat.min_eq_right (by omega)]
theorem X6{s:List UInt8}{p q:Nat}{i:Int}(h:intM s p= .ok i q): -1000000≤i∧i≤1000000:=by
 unfold intM at h
 cases hd:dgsM s (fpM s p 45) with
 | er e q=>rw [hd] at h;cases h
 | ok d q=>
  rw [hd,Rr.th_ok] at h
  split at h
  ·cases h
  ·cases h;split <;> omega
theorem Jvv{s:List UInt8}{p q c:Nat}{i:Int}(h:intM s p= .ok i q):Qj s c p=Q3 s c (s.length+1) [i] q:=by unfold Qj;rw [h];rfl
theorem Jnv{s:List UInt8}{p q c:Nat}{e:Int}(h:intM s p= .er e q):Qj s c p= .er e q:=by unfold Qj;rw [h];rfl
section
variable {s:List UInt8} {q q' c k o:Nat} {i e:Int} {l:List Int} {M:Rr (List Int)}
theorem Jly(hM:M=Q3 s c k l q)(hk:s.length < q+k)(hq:q≤s.length)(hb:folB s q 44=true)(hx:intM s (fpM s q 44)= .ok i q'):M=Q3 s c (k - 1) (l++[i]) q':=by
 obtain⟨k,rfl⟩:∃ j,k=j+1:=⟨k - 1,by omega⟩;rw [hM,Q3,if_pos hb,fp_t hb,hx];rfl
theorem Jwp(hM:M=Q3 s c k l q)(hk:s.length < q+k)(hq:q≤s.length)(hb:folB s q 44=true)(hx:intM s (fpM s q 44)= .er e q'):M= .er e q':=by
 obtain⟨k,rfl⟩:∃ j,k=j+1:=⟨k - 1,by omega⟩;rw [hM,Q3,if_pos hb,fp_t hb,hx];rfl
theorem Jgs{x:Rr Unit}(hM:M=Q3 s c k l q)(hk:s.length < q+k)(hq:q≤s.length)(hb:folB s q 44=false)(hc:¬ c=40)(hx:qt s o (fpM s q 44) c=x):M=x.th fun _ q=> .ok l q:=by
 obtain⟨k,rfl⟩:∃ j,k=j+1:=⟨k - 1,by omega⟩;rw [← hx,hM,Q3,if_neg (by rw [hb];decide),← fp_f hb];unfold qt tkM;rw [if_neg hc,Jcx,Jih]
theorem xe(hb:folB s q 44=true)(hq:q≤s.length)(hx:intM s (fpM s q 44)= .ok i q'):q+1≤q'∧q'≤s.length:=by
 have h:=Yq (s:=s) (p:=fpM s q 44) (Y1 hq);rw [hx] at h;have h1:=V3 (s:=s) (p:=q);rw [← fp_t hb] at h;exact⟨by have:=h.1;omega,h.2⟩
end
end Go.Wf
namespace Go.Wf
open Go Go.Proofs Go.RowKit
theorem Xa{X:Nat→Prop}{w:World}(hX:XB X w){g:Nat}{s:List UInt8}{p o:Nat}(hB:Blk w g (rc s p o) 88)(hXg:X g){c:Nat}(hp:p≤s.length)(hs:s.length≤65536):Calls Tryz.prog 99 #[(.pointer (some ⟨g,0,none⟩)),(.int .u8 ((c:Nat):Int))] w (RetM w g fun v w'=>v=(.bool (folB s p c))∧Blk w' g (rc s (fpM s p c) o) 88):=by
 have C:=J53 g hX hXg;have F:=J8j hB;have hsp:=K0 hp;refine Cgo (args:=[(.pointer (some ⟨g,0,none⟩)),(.int .u8 ((c:Nat):Int))]) Tryz.func99 rfl rfl rfl<|Rg<|Ua<|J40<|J40 ?_
 by_cases hpc:hdM s p=c
 ·by_cases hpl:spM s p=s.length
  ·refine J6x mixed 14 1 [[],[0],[],[1,2],[3],[4],[4,5],[4,6],[1,4,7],[4],[4,9],[4,10],[1,4,11],[1,4,12]] C F [fx<|.pointer (some ⟨g,0,none⟩),fun(z:Gh) (v:Value) (w':World)=>(v=(.int .u8 (((hdM s p):Nat):Int)))∧Own ⟨w,(· =g)⟩ z.2 w' g (rc s (spM s p) o) 88,fx<|.int .u8 ((c:Nat):Int),fx<|.bool false,fx<|.bool false,fx<|.pointer (some ⟨g,0,none⟩),fx<|.pointer (some ⟨g,0,none⟩),fx<|.pointer (some ⟨g,1,none⟩),fx<|.int .i64 (((spM s p):Nat):Int),fx<|.pointer (some ⟨g,0,none⟩),fx<|.pointer (some ⟨g,0,none⟩),fx<|.pointer (some ⟨g,0,none⟩),fx<|str s,fx<|.int .i64 ((s.length:Nat):Int)] (by kernel_rfl) ⟨sx,(fun _ _ _ _ _ ⟨h,o⟩ r=>⟨h,o.spn r.sp⟩),sx,sx,sx,sx,sx,sx,sx,sx,sx,sx,sx,sx,trivial⟩ fun f8 y cP bk j=>?_
   have k:=bk.cx;have j:Keep [5,6,7,8,9,10,11,12,13,14,15,16,17,18] _ f8:=j;refine⟨⟨fun _ _=>?_,fun⟨bl,_⟩ B=>?_,fun _ _=>?_,fun⟨bm,bn,_⟩ _=>?_,fun⟨bo,_⟩ _=>?_,fun⟨bp,_⟩ _=>?_,fun⟨bq,br,_⟩ _=>?_,fun⟨bs,bt,_⟩ _=>?_,fun⟨bu,bv,bw,_⟩ _=>?_,fun⟨bx,_⟩ _=>?_,fun⟨bz,bA,_⟩ _=>?_,fun⟨bB,bC,_⟩ _=>?_,fun⟨bD,bE,bF,_⟩ _=>?_,fun⟨bG,bH,bI,_⟩ _=>?_,trivial⟩,fun⟨bJ,bK,bL,bM,bN,bO,bP,bQ,bR,bS,bT,bU,bV,bW,_⟩=>?_⟩
   ·exact Sd0 j fun _=>J4x ⟨y,RZ.same k,rfl⟩
   ·replace B:=B rfl;refine Sd1 j bl fun _=>J5z k B cb68 rfl rfl (X2 k.bd (s:=s) (p:=p) (o:=o) B.blk (k.yx _ B.mem) hp hs) ?_;intro cQ cR bX bY bZ b0;exact⟨y,RT.step bX bY,b0,bZ⟩
   ·exact Sd0 j fun _=>J4x ⟨y,RZ.same k,rfl⟩
   ·obtain⟨b1,cS⟩:=bm;exact Jp j (aC b1<|aC bn aN) fun _=>J5b<|J58 (t:=false) rfl rfl (by rw [J84 (by omega)];rfl) ⟨y,RZ.same k,rfl⟩
   ·exact Sd1 j bo fun _=>J4x ⟨y,RZ.same k,rfl⟩
   ·exact Jp j (aC bp aN) fun _=>J5m rfl<|J4x ⟨y,RZ.same k,rfl⟩
   ·exact Jp j (aC bq<|aC br aN) fun _=>J5m rfl<|J45 rfl ⟨y,RZ.same k,rfl⟩
   ·exact Jp j (aC bs<|aC bt aN) fun _=>J5m rfl<|J4o J7 rfl ⟨y,RZ.same k,rfl⟩
   ·obtain⟨b2,b3⟩:=bu;exact Jp j (aC b2<|aC bv<|aC bw aN) fun _=>J5m rfl<|J4t b3 pl3 rfl rfl ⟨y,RZ.same k,rfl⟩
   ·exact Jp j (aC bx aN) fun _=>J5m rfl<|J4x ⟨y,RZ.same k,rfl⟩
   ·exact Jp j (aC bz<|aC bA aN) fun _=>J5m rfl<|J45 rfl ⟨y,RZ.same k,rfl⟩
   ·exact Jp j (aC bB<|aC bC aN) fun _=>J5m rfl<|J4o Yf rfl ⟨y,RZ.same k,rfl⟩
   ·obtain⟨b4,b5⟩:=bD;exact Jp j (aC b4<|aC bE<|aC bF aN) fun _=>J5m rfl<|J4t b5 pl9 rfl rfl ⟨y,RZ.same k,rfl⟩
   ·obtain⟨b6,cT⟩:=bG;exact Jp j (aC b6<|aC bH<|aC bI aN) fun _=>J5m rfl<|J5x un9 rfl ⟨y,RZ.same k,rfl⟩
   obtain⟨b7,b8⟩:=bK;obtain⟨cU,rfl⟩:=mixK j (aC bJ<|aC b7<|aC bL<|aC bM<|aC bN<|aC bO<|aC bP<|aC bQ<|aC bR<|aC bS<|aC bT<|aC bU<|aC bV<|aC bW aN);refine OgD<|J5y (t:=true) rfl rfl (J84 (by omega))<|OF<|Nl<|Uf<|Ua<|J4y<|Ju rfl (J8d rfl)<|RetM.intro ⟨?_,?_⟩ k.below
   ·exact J87 (Value.bool)<|(Jll hpl).symm
   have hh:=b8.blk;rw [show(spM s p)=(fpM s p c) from(fp_f<|Jll hpl)] at hh;exact hh
  refine J6x mixed 14 1 [[],[0],[],[1,2],[3],[4],[4,5],[4,6],[1,4,7],[4],[4,9],[4,10],[1,4,11],[1,4,12]] C F [fx<|.pointer (some ⟨g,0,none⟩),fun(z:Gh) (v:Value) (w':World)=>(v=(.int .u8 (((hdM s p):Nat):Int)))∧Own ⟨w,(· =g)⟩ z.2 w' g (rc s (spM s p) o) 88,fx<|.int .u8 ((c:Nat):Int),fx<|.bool false,fx<|.bool false,fx<|.pointer (some ⟨g,0,none⟩),fx<|.pointer (some ⟨g,0,none⟩),fx<|.pointer (some ⟨g,1,none⟩),fx<|.int .i64 (((spM s p):Nat):Int),fx<|.pointer (some ⟨g,0,none⟩),fx<|.pointer (some ⟨g,0,none⟩),fx<|.pointer (some ⟨g,0,none⟩),fx<|str s,fx<|.int .i64 ((s.length:Nat):Int)] (by kernel_rfl) ⟨sx,(fun _ _ _ _ _ ⟨h,o⟩ r=>⟨h,o.spn r.sp⟩),sx,sx,sx,sx,sx,sx,sx,sx,sx,sx,sx,sx,trivial⟩ fun b9 x cV ca l=>?_
  have m:=ca.cx;have l:Keep [5,6,7,8,9,10,11,12,13,14,15,16,17,18] _ b9:=l;refine⟨⟨fun _ _=>?_,fun⟨cb,_⟩ D=>?_,fun _ _=>?_,fun⟨cc,cd,_⟩ _=>?_,fun⟨G,_⟩ _=>?_,fun⟨H,_⟩ _=>?_,fun⟨I,J,_⟩ _=>?_,fun⟨K,L,_⟩ _=>?_,fun⟨M,N,P,_⟩ _=>?_,fun⟨Q,_⟩ _=>?_,fun⟨R,S,_⟩ _=>?_,fun⟨T,U,_⟩ _=>?_,fun⟨V,Y,Z,_⟩ _=>?_,fun⟨aa,ab,ac,_⟩ _=>?_,trivial⟩,fun⟨ad,ae,af,ag,ah,ai,aj,ak,am,an,ao,aq,ar,au,_⟩=>?_⟩
  ·exact Sd0 l fun _=>J4x ⟨x,RZ.same m,rfl⟩
  ·replace D:=D rfl;refine Sd1 l cb fun _=>J5z m D cb68 rfl rfl (X2 m.bd (s:=s) (p:=p) (o:=o) D.blk (m.yx _ D.mem) hp hs) ?_;intro cf cg av aw ax ay;exact⟨x,RT.step av aw,ay,ax⟩
  ·exact Sd0 l fun _=>J4x ⟨x,RZ.same m,rfl⟩
  ·obtain⟨az,ch⟩:=cc;exact Jp l (aC az<|aC cd aN) fun _=>J5b<|J58 (t:=false) rfl rfl (by rw [J84 (by omega)];rfl) ⟨x,RZ.same m,rfl⟩
  ·exact Sd1 l G fun _=>J4x ⟨x,RZ.same m,rfl⟩
  ·exact Jp l (aC H aN) fun _=>J5m rfl<|J4x ⟨x,RZ.same m,rfl⟩
  ·exact Jp l (aC I<|aC J aN) fun _=>J5m rfl<|J45 rfl ⟨x,RZ.same m,rfl⟩
  ·exact Jp l (aC K<|aC L aN) fun _=>J5m rfl<|J4o J7 rfl ⟨x,RZ.same m,rfl⟩
  ·obtain⟨aA,aB⟩:=M;exact Jp l (aC aA<|aC N<|aC P aN) fun _=>J5m rfl<|J4t aB pl3 rfl rfl ⟨x,RZ.same m,rfl⟩
  ·exact Jp l (aC Q aN) fun _=>J5m rfl<|J4x ⟨x,RZ.same m,rfl⟩
  ·exact Jp l (aC R<|aC S aN) fun _=>J5m rfl<|J45 rfl ⟨x,RZ.same m,rfl⟩
  ·exact Jp l (aC T<|aC U aN) fun _=>J5m rfl<|J4o Yf rfl ⟨x,RZ.same m,rfl⟩
  ·obtain⟨aD,aE⟩:=V;exact Jp l (aC aD<|aC Y<|aC Z aN) fun _=>J5m rfl<|J4t aE pl9 rfl rfl ⟨x,RZ.same m,rfl⟩
  ·obtain⟨aF,ci⟩:=aa;exact Jp l (aC aF<|aC ab<|aC ac aN) fun _=>J5m rfl<|J5x un9 rfl ⟨x,RZ.same m,rfl⟩
  obtain⟨aG,E⟩:=ae;obtain⟨cj,rfl⟩:=mixK l (aC ad<|aC aG<|aC af<|aC ag<|aC ah<|aC ai<|aC aj<|aC ak<|aC am<|aC an<|aC ao<|aC aq<|aC ar<|aC au aN);refine OgD (J5y (t:=false) rfl rfl (J83 (by omega))<|OF<|Nl<|Uc<|Rg<|Ub<|J45 rfl<|Ol<|J4o J7 rfl<|Ol<|J4t E pl3 rfl rfl<|Ol<|St.add rfl rfl (Ja (a:=(spM s p)) (b:=1) (by omega))<|Ol<|J45 rfl ?_);refine Ol (J4o J7 rfl<|On<|J5r (cs':=[(str s),(.int .i64 (((spM s p)+1:Nat):Int)),(.int .i64 ((o:Nat):Int))]) m E io3 rfl rfl rfl rfl rfl rfl ?_);intro ck aH cl aI;refine Nl<|Rg<|Ua<|J4y<|Ju rfl (J8d rfl)<|RetM.intro ⟨?_,?_⟩ aH.below
  ·exact J87 (Value.bool)<|(Jrb hpc hpl hp).symm
  have hh:=aI.blk;rw [show(spM s p)+1=(fpM s p c) from(fp_t<|Jrb hpc hpl hp)] at hh;exact hh
 refine J6x mixed 14 1 [[],[0],[],[1,2],[3],[4],[4,5],[4,6],[1,4,7],[4],[4,9],[4,10],[1,4,11],[1,4,12]] C F [fx<|.pointer (some ⟨g,0,none⟩),fun(z:Gh) (v:Value) (w':World)=>(v=(.int .u8 (((hdM s p):Nat):Int)))∧Own ⟨w,(· =g)⟩ z.2 w' g (rc s (spM s p) o) 88,fx<|.int .u8 ((c:Nat):Int),fx<|.bool true,fx<|.bool true,noG,noG,noG,noG,noG,noG,noG,noG,noG] (by kernel_rfl) ⟨sx,(fun _ _ _ _ _ ⟨h,o⟩ r=>⟨h,o.spn r.sp⟩),sx,sx,sx,(fun _ _ _ _ _ h _=>h),(fun _ _ _ _ _ h _=>h),(fun _ _ _ _ _ h _=>h),(fun _ _ _ _ _ h _=>h),(fun _ _ _ _ _ h _=>h),(fun _ _ _ _ _ h _=>h),(fun _ _ _ _ _ h _=>h),(fun _ _ _ _ _ h _=>h),(fun _ _ _ _ _ h _=>h),trivial⟩ fun aJ i cm aK d=>?_
 have e:=aK.cx;have d:Keep [5,6,7,8,9,10,11,12,13,14,15,16,17,18] _ aJ:=d;refine⟨⟨fun _ _=>?_,fun⟨aL,_⟩ A=>?_,fun _ _=>?_,fun⟨aM,aO,_⟩ _=>?_,fun⟨aP,_⟩ _=>?_,fun⟨aQ,_⟩ _=>?_,fun⟨aR,cn,_⟩ _=>?_,fun⟨aS,co,_⟩ _=>?_,fun⟨aT,aU,cp,_⟩ _=>?_,fun⟨aV,_⟩ _=>?_,fun⟨aW,cq,_⟩ _=>?_,fun⟨aX,cr,_⟩ _=>?_,fun⟨aY,aZ,cs,_⟩ _=>?_,fun⟨a0,a3,ct,_⟩ _=>?_,trivial⟩,fun⟨a4,a5,a6,a7,a8,cu,cv,cw,cy,cz,cE,cF,cG,cH,_⟩=>?_⟩
 ·exact Sd0 d fun _=>J4x ⟨i,RZ.same e,rfl⟩
 ·replace A:=A rfl;refine Sd1 d aL fun _=>J5z e A cb68 rfl rfl (X2 e.bd (s:=s) (p:=p) (o:=o) A.blk (e.yx _ A.mem) hp hs) ?_;intro cI cJ a9 ba bb bc;exact⟨i,RT.step a9 ba,bc,bb⟩
 ·exact Sd0 d fun _=>J4x ⟨i,RZ.same e,rfl⟩
 ·obtain⟨be,cK⟩:=aM;exact Jp d (aC be<|aC aO aN) fun _=>J5b<|J58 (t:=true) rfl rfl (by rw [J83 (by omega)];rfl) ⟨i,RZ.same e,rfl⟩
 ·exact Sd1 d aP fun _=>J4x ⟨i,RZ.same e,rfl⟩
 ·exact Jp d (aC aQ aN) fun _=>OpSt.opn rfl rfl ⟨i,RZ.same e,trivial⟩
 ·exact Jp d (aC aR aN) fun _=>OpSt.opn rfl rfl ⟨i,RZ.same e,trivial⟩
 ·exact Jp d (aC aS aN) fun _=>OpSt.opn rfl rfl ⟨i,RZ.same e,trivial⟩
 ·obtain⟨bf,cL⟩:=aT;exact Jp d (aC bf<|aC aU aN) fun _=>OpSt.opn rfl rfl ⟨i,RZ.same e,trivial⟩
 ·exact Jp d (aC aV aN) fun _=>OpSt.opn rfl rfl ⟨i,RZ.same e,trivial⟩
 ·exact Jp d (aC aW aN) fun _=>OpSt.opn rfl rfl ⟨i,RZ.same e,trivial⟩
 ·exact Jp d (aC aX aN) fun _=>OpSt.opn rfl rfl ⟨i,RZ.same e,trivial⟩
 ·obtain⟨bg,cM⟩:=aY;exact Jp d (aC bg<|aC aZ aN) fun _=>OpSt.opn rfl rfl ⟨i,RZ.same e,trivial⟩
 ·obtain⟨bh,cN⟩:=a0;exact Jp d (aC bh<|aC a3 aN) fun _=>OpSt.opn rfl rfl ⟨i,RZ.same e,trivial⟩
 obtain⟨bi,bj⟩:=a5;obtain⟨cO,rfl⟩:=mixK d (aC a4<|aC bi<|aC a6<|aC a7<|aC a8 aN);refine Oz<|OT<|Nl<|Uf<|Ua<|J4y<|Ju rfl (J8d rfl)<|RetM.intro ⟨?_,?_⟩ e.below
 ·exact J87 (Value.bool)<|(Jq3 hpc).symm
 have hh:=bj.blk;rw [show(spM s p)=(fpM s p c) from(fp_f<|Jq3 hpc)] at hh;exact hh
theorem qz{X:Nat→Prop}{w:World}(hX:XB X w){g:Nat}{s:List UInt8}{p o:Nat}(hB:Blk w g (rc s p o) 88)(hXg:X g){c:Nat}(hp:p≤s.length)(hs:s.length≤65536)(hc:c=41→1≤o)(ho:o≤64):Calls Tryz.prog 193 #[(.pointer (some ⟨g,0,none⟩)),(.int .u8 ((c:Nat):Int))] w (RetP w g (qt s o p c) fun a q v w'=>v= .tuple #[]∧Blk w' g (rc s q (opA c o)) 88):=by
 have C:=J53 g hX hXg;have i:=J8j hB;refine Cgo (args:=[(.pointer (some ⟨g,0,none⟩)),(.int .u8 ((c:Nat):Int))]) Tryz.func193 rfl rfl rfl (Rh<|Ub<|J45 rfl<|Ol<|J4o Yc rfl<|Ub<|J5h<|J5z C i cb99 rfl rfl (Xa C.bd (s:=s) (p:=p) (o:=o) i.blk (C.yx _ i.mem) (c:=c) hp hs) ?_);intro G H h I e A;refine⟨_,A,fun d=>?_,fun d=>?_⟩
 ·refine Ol<|J5n rfl<|Nl<|Uc<|Rg<|Om<|Nl<|W.block<|Rg<|Ol<|J42 rfl rfl (fun k=>?_)<|fun k=>?_
  ·refine Ua<|Ud<|Rh<|Ub<|J45 rfl<|Ol<|J4o Jdk rfl<|Ol<|J4t e pl3 rfl rfl<|Ol<|J42 rfl rfl (fun l=>?_)<|fun l=>?_
   ·refine Nl<|J4r rfl ?_
    have:=fp_t d
    have:=Y1 (c:=c) hp
    refine J4u (Ub<|J45 rfl<|Ol<|J4o Yc rfl<|Ol<|J4o J7 rfl<|Ol<|J4t e pl3 rfl rfl<|Ol<|St.sub rfl rfl (Zw (a:=(fpM s p c)) (b:=1) (by omega) (by omega))<|Ol<|J47 (cs:=[(.int .i64 7),(.int .i64 (((fpM s p c) - 1:Nat):Int))]) rfl (by kernel_rfl)<|Ol<|J5v (by kernel_rfl) ?_);exact On<|J6q rfl<|Ze (Jt4 d (by omega) (by omega)) h.below
   refine Nl (Uc<|J4u<|Ub<|J45 rfl<|Ol<|J4o Jdk rfl<|Ol<|J4t e pl3 rfl rfl<|Ol<|St.add rfl rfl (Ja (a:=o) (b:=1) (by omega))<|Ol<|J45 rfl<|Ol<|J4o Jdk rfl<|On<|J5r (cs':=[(str s),(.int .i64 (((fpM s p c):Nat):Int)),(.int .i64 ((o+1:Nat):Int))]) h e io3 rfl rfl rfl rfl rfl rfl ?_);intro B m D r;refine Nl<|xv rfl<|RetP.ok (a:=()) (q:=(fpM s p c)) (Jue d (by omega) (by omega)) ⟨?_,?_⟩ m.below
   ·exact rfl
   have hh:=r.blk;rw [show o+1=(opA c o) from(Jxa (by omega))] at hh;exact hh
  refine Ua<|Ug<|Ol<|J42 rfl rfl (fun j=>?_)<|fun j=>?_
  ·refine Ua<|J4r rfl ?_
   have:=hc (by omega)
   refine J4u (Ub<|J45 rfl<|Ol<|J4o Jdk rfl<|Ol<|J4t e pl3 rfl rfl<|Ol<|St.sub rfl rfl (Zw (a:=o) (b:=1) (by omega) (by omega))<|Ol<|J45 rfl<|Ol<|J4o Jdk rfl<|On<|J5r (cs':=[(str s),(.int .i64 (((fpM s p c):Nat):Int)),(.int .i64 ((o - 1:Nat):Int))]) h e io3 rfl rfl rfl rfl rfl rfl ?_);intro E x F y;refine Nl<|xv rfl<|RetP.ok (a:=()) (q:=(fpM s p c)) (Jl1 d (by omega)) ⟨?_,?_⟩ x.below
   ·exact rfl
   have hh:=y.blk;rw [show o - 1=(opA c o) from(Jz2 (by omega) (by omega))] at hh;exact hh
  refine Ua<|Uc<|xv rfl<|RetP.ok (a:=()) (q:=(fpM s p c)) (Jl1 d (by omega)) ⟨?_,?_⟩ h.below
  ·exact rfl
  have hh:=e.blk;rw [show o=(opA c o) from(Jrl (by omega) (by omega))] at hh;exact hh
 exact Ol<|J5n rfl<|Nl<|Uk<|Ub<|J45 rfl<|Ol<|J4o Yc rfl<|Ol<|J4o J7 rfl<|Ol<|J4t e pl3 rfl rfl<|Ol<|J47 (cs:=[(.int .i64 19),(.int .i64 (((fpM s p c):Nat):Int))]) rfl (by kernel_rfl)<|Ol<|J5v (by kernel_rfl)<|On<|J6q rfl<|Ze (Jum d) h.below
theorem Jfl{X:Nat→Prop}{w:World}(hX:XB X w){d:List UInt8}(hd:∀ c ∈ d,digB c=true)(hl:d.length≤65536):CRt 196 #[(str d)] w fun v w'=>v=(.int .i64 (((valM d):Nat):Int)):=by
 have C:=J4z hX;refine Cgo (args:=[(str d)]) Tryz.func196 rfl rfl rfl (Rg<|Ua<|Rg<|Ua<|Rh<|Ub<|J5x un9 rfl<|Om<|Nl<|W.block<|J5e (fun μ f v=>∃ (x y:Nat→Prop) (i:Nat),Cx X w x y v∧f 0=(str d)∧f 2=(.int .i64 0)∧f 6=(.int .i64 ((d.length:Nat):Int))∧f 7=(.int .i64 ((i:Nat):Int))∧f 3=(.int .i64 ((valM (d.take i):Nat):Int))∧i≤d.length∧μ=(d.length - i)) _ ⟨_,_,0,C,rfl,rfl,rfl,rfl,rfl,(J9h _),rfl⟩ ?_);rintro r A B ⟨D,E,i,h,k,l,m,o,e,hi,p⟩;obtain⟨s,rfl⟩:=rebK (aC k<|aC l<|aC m<|aC o<|aC e aN);clear k l m o e;refine Rg<|Ol<|J5c rfl rfl (fun g=>?_)<|fun g=>?_
 ·refine Nl (J40<|Ud<|J4v<|J40<|W.block<|Rg<|Om<|Oa<|Nl ?_);have hr:=yl (i:=i) (by omega) hd;have hv:=Jj9 (d.take i);refine J4u (Ub<|J6l rfl rfl (zc (a:=valM<|d.take i) (b:=10) (by omega))<|Om<|Ub<|J5t (j:=i) (c:=(d.getD i 0)) un9 rfl rfl rfl (Jc (by omega))<|Ol<|St.sub rfl rfl (yu (a:=(d.getD i 0).toNat) (b:=48) (by omega) (by omega))<|Ol<|J48 (z:=((((d.getD i 0).toNat) - 48:Nat):Int)) us5 un3 rfl (J9j _ (by omega)) ?_);refine Ol<|St.add rfl rfl (Ja (a:=(valM<|d.take i) * 10) (b:=((d.getD i 0).toNat) - 48) (by omega))<|Ol<|J7e rfl rfl (Joj (by omega) hd).symm<|Ua<|J4u<|Ol<|St.add rfl rfl (Ja (a:=i) (b:=1) (by omega))<|Om<|Nl<|⟨_,(by omega),_,_,(i+1),h,rfl,rfl,rfl,rfl,rfl,(by omega),rfl⟩
 exact Nl<|J40<|Ue<|J5i<|Rg<|Om<|Ua<|J4y<|Wq rfl rfl h<|J87 (Value.int _)<|J87 Nat.cast<|Jtt (by omega)
theorem vg{X:Nat→Prop}{w:World}(hX:XB X w){g:Nat}{s:List UInt8}{p o:Nat}(hB:Blk w g (rc s p o) 88)(hXg:X g)(hp:p≤s.length)(hs:s.length≤65536):Calls Tryz.prog 148 #[(.pointer (some ⟨g,0,none⟩))] w (RetP w g (intM s p) fun a q v w'=>v=(.int .i64 a)∧Blk w' g (rc s q o) 88):=by
 have C:=J53 g hX hXg;have E:=J8j hB;refine Cgo (args:=[(.pointer (some ⟨g,0,none⟩))]) Tryz.func148 rfl rfl rfl (Rg<|Ua<|Rg<|Ub<|J45 rfl<|Ol<|J4o Yc rfl<|Ol<|J5z C E cb68 rfl rfl (X2 C.bd (s:=s) (p:=p) (o:=o) E.blk (C.yx _ E.mem) hp hs) ?_);intro v1 w2 F s4 x T;subst T;refine Nl (Rg<|Ub<|J45 rfl<|Ol<|J4o Yc rfl<|Ol<|J4o J7 rfl<|Ol<|J4t x pl3 rfl rfl<|Ua<|Rg<|Ub<|J45 rfl<|Ol<|J4o Yc rfl<|Ol<|J5h<|J5z F x cb99 rfl rfl (Xa F.bd (s:=s) (p:=(spM s p)) (o:=o) x.blk (F.yx _ x.mem) (c:=45) (K0 hp) hs) ?_);intro v7 w8 k U e G;refine⟨_,G,fun h=>?_,fun h=>?_⟩
 ·refine Ua<|Rg<|Ub<|J45 rfl<|Ol<|J4o Yc rfl<|Ol<|J5q (cs':=fun a q=>rc s q o) k e Jpr rfl rfl (Vu k.bd (s:=s) (p:=(fpM s (spM s p) 45)) (o:=o) e.blk (k.yx _ e.mem) (Y1<|K0 hp) hs) ?_ ?_
  ·intro V Y Z b H;exact Ze (Jqx b) H
  intro aa ab l I b y ac m J;subst J;refine Ol (J4p y Jt3 rfl rfl (Jfl y.bd (X7 b)<|J86 (Xl b) hs) ?_);intro ad ae A K L;replace m:=m.spn K;subst L;refine Ua<|Rh<|Ub<|J5o rfl rfl (fun i=>?_)<|fun i=>?_
  ·exact Nl<|Uk<|Ub<|J47 (cs:=[(.int .i64 2),(.int .i64 (((spM s p):Nat):Int))]) rfl (by kernel_rfl)<|Ol<|J5v (by kernel_rfl)<|On<|J6q rfl<|Ze (Jld b i) A.below
  refine Nl<|Uc<|Rh<|Om<|Nl<|J4r rfl ?_
  have:=Jj9 l
  refine J4u<|Ub<|St.neg (z:=(-(((valM l):Nat):Int))) rfl (vk (by omega))<|Ua<|Rg<|Om<|Ua<|J4y<|Ju rfl (J8d rfl)<|RetP.ok (a:=(-(((valM l):Nat):Int))) (q:=I) (Js6 b i h) ⟨?_,?_⟩ A.below
  ·rfl
  exact m.blk
 refine Ua<|Rg<|Ub<|J45 rfl<|Ol<|J4o Yc rfl<|Ol<|J5q (cs':=fun a q=>rc s q o) k e Jpr rfl rfl (Vu k.bd (s:=s) (p:=(fpM s (spM s p) 45)) (o:=o) e.blk (k.yx _ e.mem) (Y1<|K0 hp) hs) ?_ ?_
 ·intro af ag ah d M;exact Ze (Jqx d) M
 intro ai aj N P d B ak r Q;subst Q;refine Ol (J4p B Jt3 rfl rfl (Jfl B.bd (X7 d)<|J86 (Xl d) hs) ?_);intro am an D R S;replace r:=r.spn R;subst S;refine Ua<|Rh<|Ub<|J5o rfl rfl (fun j=>?_)<|fun j=>?_
 ·exact Nl<|Uk<|Ub<|J47 (cs:=[(.int .i64 2),(.int .i64 (((spM s p):Nat):Int))]) rfl (by kernel_rfl)<|Ol<|J5v (by kernel_rfl)<|On<|J6q rfl<|Ze (Jld d j) D.below
 refine Nl<|Uc<|Rh<|Om<|Nl<|Uc<|Rg<|Om<|Ua<|J4y<|Ju rfl (J8d rfl)<|RetP.ok (a:=(((valM N):Nat):Int)) (q:=P) (Jtx d j h) ⟨?_,?_⟩ D.below
 ·rfl
 exact r.blk
theorem Jgc{X:Nat→Prop}{w:World}(hX:XB X w){g:Nat}{s:List UInt8}{p o:Nat}(hB:Blk w g (rc s p o) 88)(hXg:X g){c:Nat}(hp:p≤s.length)(hs:s.length≤65536)(hc:c=41→1≤o)(ho:o≤64)(hn:¬ c=40):Calls Tryz.prog 230 #[(.pointer (some ⟨g,0,none⟩)),(.int .u8 ((c:Nat):Int))] w (RetP w g (Qj s c p) fun a q v w'=>RS Zi X w' v a∧Blk w' g (rc s q (opA c o)) 88):=by
 have C:=J53 g hX hXg;have Q:=J8j hB
 have:maxLen=9223372036854775807:=rfl
 refine Cgo (args:=[(.pointer (some ⟨g,0,none⟩)),(.int .u8 ((c:Nat):Int))]) Tryz.func230 rfl rfl rfl<|Rg<|Ua<|Rg<|Ub<|J5q (cs':=fun a q=>rc s q o) C Q Ji9 rfl rfl (vg C.bd (s:=s) (p:=p) (o:=o) Q.blk (C.yx _ Q.mem) hp hs) ?_ ?_
 ·intro w4 e1 q2 i b3;exact Ze (Jnv i) b3
 intro v5 w6 R q8 i S aw A U;subst U;refine Ol (J7m (T:=Zi) (css:=[[(.int .i64 R)]]) (l:=[R]) S sl23 io3 (by decide) (by decide) rfl (by kernel_rfl) ⟨⟨rfl,(by have:=X6 i;omega),(by have:=X6 i;omega)⟩,trivial⟩ ?_);intro V ax ay Y Z az aa;replace A:=A.spn Z;refine Oa (Nl<|J40<|W.block<|J5e (fun μ f v=>∃ (x y:Nat→Prop) (q:Nat) (k:Nat) (l:List Int) (la:Option Addr) (lc:Nat),Cx X ⟨w,(· =g)⟩ x y v∧f 0=(.pointer (some ⟨g,0,none⟩))∧f 1=(.int .u8 ((c:Nat):Int))∧f 4=(.slice none 0 0)∧f 5=(.slice la l.length lc)∧OS Zi 3 ⟨w,(· =g)⟩ x y v (.slice la l.length lc) l∧Own ⟨w,(· =g)⟩ y v g [(str s),(.int .i64 ((q:Nat):Int)),(.int .i64 ((o:Nat):Int))] 88∧q≤s.length∧s.length < q+k∧l.length≤q+1∧Qj s c p=Q3 s c k l q∧μ=(s.length+1 - q)) _ ⟨_,_,q8,(s.length+1),[R],(some ⟨V,0,none⟩),1,Y,rfl,rfl,rfl,rfl,aa,A,(Rr.le (Yq hp) i),(by omega),(by rw [J82];omega),(Jvv i),rfl⟩ ?_);rintro aA aB aD ⟨aE,aF,q,k,l,la,lc,B,G,H,I,J,hL,D,hq,hk,hl,hM,ar⟩;obtain⟨aG,rfl⟩:=rebK (aC G<|aC H<|aC I<|aC J aN);clear G H I J;refine Rh (Ub<|J45 rfl<|Ol<|J4o Yc rfl<|Ol<|J5h<|J5z B D cb99 rfl rfl (Xa B.bd (s:=s) (p:=q) (o:=o) D.blk (B.yx _ D.mem) (c:=44) hq hs) ?_);intro aH aI e ab j ac;replace hL:=hL.sp ab e<|fun _ h=>h
 refine⟨_,ac,fun b=>?_,fun b=>?_⟩
 ·refine Nl<|Ud<|J4v<|W.block<|J4u<|Om<|Ub<|J5q (cs':=fun a q=>rc s q o) e j Ji9 rfl rfl (vg e.bd (s:=s) (p:=(fpM s q 44)) (o:=o) j.blk (e.yx _ j.mem) (Y1 hq) hs) ?_ ?_
  ·intro aJ aK aL d ad;exact Ze (Jwp hM hk hq b d) ad
  intro aM aO E ae d K af m ag;subst ag;refine Ol (J5f (T:=Zi) (css:=[[(.int .i64 E)]]) (l:=[E]) K sl23 io3 (by decide) (by decide) rfl (by kernel_rfl) ⟨⟨rfl,(by have:=X6 d;omega),(by have:=X6 d;omega)⟩,trivial⟩ ?_);intro aP aQ L M ah;replace hL:=(hL.sp af K<|fun _ h=>h).sp M L (fun _ h=>h)
  replace m:=m.spn M;refine Ol (J5k (T:=Zi) L sl23 io3 rfl rfl hL (Yi ah) (by simp only [J80,J81];omega) (by simp only [J80,J81];omega) rfl ?_);intro aR aS aT ai aj aU N;replace m:=m.ap aj m.mem;obtain⟨ak,am,rfl,_,_⟩:=N.len;refine Ua<|⟨_,(by have:=(xe b hq d);omega),_,_,ae,(k - 1),(l++[E]),ak,am,ai,rfl,rfl,rfl,rfl,N,m,(xe b hq d).2,(by have:=(xe b hq d);omega),(by have:=(xe b hq d);rw [J8z,J82];omega),(Jly hM hk hq b d),rfl⟩
 refine Nl<|Ue<|J5i<|Rg<|Om<|Ub<|J5q (cs':=fun a q=>rc s q<|opA c o) e j qe rfl rfl (qz e.bd (s:=s) (p:=(fpM s q 44)) (o:=o) j.blk (e.yx _ j.mem) (c:=c) (Y1 hq) hs hc ho) ?_ ?_
 ·intro aV aW aX r an;exact Ze (Jgs hM hk hq b hn r) an
 intro aY aZ a0 ao r F aq P a3;replace hL:=hL.sp aq F<|fun _ h=>h
 refine Nl<|Rg<|Om<|Ua<|J4y<|Ju rfl (J8d rfl)<|RetP.ok (a:=l) (q:=ao) (Jgs hM hk hq b hn r) ⟨?_,?_⟩ F.below
 ·exact J8i (hL.toRS F hX P.sees)<|rfl
 have hh:=P.blk;rw [show(opA c o)=(opA c o) from rfl] at hh;exact hh
end Go.Wf
namespace Go.Wf
open Go
theorem Jdp{s:List UInt8}{c:Nat}:∀ (k:Nat) (l m:List Int) (p q:Nat),Q3 s c k l p= .ok m q→m.length≤l.length+k
 | 0,l,m,p,q,h=>by cases h
 | k+1,l,m,p,q,h=>by
  unfold Q3 at h
  split at h
  ·cases hi:intM s (spM s p+1) with
   | er e q=>rw [hi] at h;cases h
   | ok i r=>rw [hi] at h;have:=Jdp k (l++[i]) m r q h;rw [J8z,J82] at this;omega
  ·cases hi:tkM s p c with
   | er e q=>rw [hi] at h;cases h
   | ok i r=>rw [hi] at h;cases h;omega
theorem Jf3{s:List UInt8}{c p q:Nat}{l:List Int}(h:Qj s c p= .ok l q):l.length≤s.length+2:=by
 unfold Qj at h
 cases hi:intM s p with
 | er e q=>rw [hi] at h;cases h
 | ok i r=>rw [hi] at h;have:=Jdp _ _ _ _ _ h;rw [J82] at this;omega
theorem tk_o{s:List UInt8}{o p q:Nat}(h:opnM s o p= .ok () q)(ho:o≤64):o+1≤64:=by
 unfold opnM at h
 split at h
 ·split at h
  ·cases h
  ·omega
 ·cases h
section
variable {s w:List UInt8} {S:Nat→Nat→Rr GExpr} {o p q0 p1 p2 p3 p4 p5 p6 p7 q:Nat} {op n e:Int} {l:List Int} {a b:GExpr} {M:Rr GExpr} {u u1 u2 u3 u4:Unit}
theorem ls1(hM:M=V8 s op o p)(h:opnM s o p= .er e q):M= .er e q:=by rw [hM,V8,h];rfl
theorem ls2(hM:M=V8 s op o p)(h:opnM s o p= .ok u p1)(h2:Qj s 41 p1= .er e q):M= .er e q:=by rw [hM,V8,h,Rr.th_ok,h2];rfl
theorem ls3(hM:M=V8 s op o p)(h:opnM s o p= .ok u p1)(h2:Qj s 41 p1= .ok l q):M= .ok (eOp op l []) q:=by rw [hM,V8,h,Rr.th_ok,h2];rfl
theorem tw1(hM:M=twoM s op o p)(h:opnM s o p= .er e q):M= .er e q:=by rw [hM,twoM,h];rfl
theorem tw2(hM:M=twoM s op o p)(h:opnM s o p= .ok u p1)(h2:intM s p1= .er e q):M= .er e q:=by rw [hM,twoM,h,Rr.th_ok,h2];rfl
theorem tw3(hM:M=twoM s op o p)(h:opnM s o p= .ok u p1)(h2:intM s p1= .ok n p2)(h3:tkM s p2 41= .er e q):M= .er e q:=by rw [hM,twoM,h,Rr.th_ok,h2,Rr.th_ok,h3];rfl
theorem tw4(hM:M=twoM s op o p)(h:opnM s o p= .ok u p1)(h2:intM s p1= .ok n p2)(h3:tkM s p2 41= .ok u1 p3)(h4:tkM s p3 91= .er e q):M= .er e q:=by
 rw [hM,twoM,h,Rr.th_ok,h2,Rr.th_ok,h3,Rr.th_ok,h4];rfl
theorem tw5(hM:M=twoM s op o p)(h:opnM s o p= .ok u p1)(h2:intM s p1= .ok n p2)(h3:tkM s p2 41= .ok u1 p3)(h4:tkM s p3 91= .ok u2 p4)(h5:Qj s 93 p4= .er e q):M= .er e q:=by
 rw [hM,twoM,h,Rr.th_ok,h2,Rr.th_ok,h3,Rr.th_ok,h4,Rr.th_ok,h5];rfl
theorem tw6(hM:M=twoM s op o p)(h:opnM s o p= .ok u p1)(h2:intM s p1= .ok n p2)(h3:tkM s p2 41= .ok u1 p3)(h4:tkM s p3 91= .ok u2 p4)(h5:Qj s 93 p4= .ok l q):M= .ok (eOp op (n::l) []) q:=by
 rw [hM,twoM,h,Rr.th_ok,h2,Rr.th_ok,h3,Rr.th_ok,h4,Rr.th_ok,h5];rfl
theorem sr1(hM:M=serM s S o p)(h:opnM s o p= .er e q):M= .er e q:=by rw [hM,serM,h];rfl
theorem sr2(hM:M=serM s S o p)(h:opnM s o p= .ok u p1)(h2:S (o+1) p1= .er e q):M= .er e q:=by rw [hM,serM,h,Rr.th_ok,h2];rfl
theorem sr3(hM:M=serM s S o p)(h:opnM s o p= .ok u p1)(h2:S (o+1) p1= .ok a p2)(h3:tkM s p2 41= .er e q):M= .er e q:=by rw [hM,serM,h,Rr.th_ok,h2,Rr.th_ok,h3];rfl
theorem sr4(hM:M=serM s S o p)(h:opnM s o p= .ok u p1)(h2:S (o+1) p1= .ok a p2)(h3:tkM s p2 41= .ok u1 q):M= .ok (eOp 17 [] [a]) q:=by rw [hM,serM,h,Rr.th_ok,h2,Rr.th_ok,h3];rfl
def oneB(s:List UInt8)(S:Nat→Nat→Rr GExpr)(op:Int)(two:Bool)(o p4:Nat)(n:Int)(a:GExpr):Rr GExpr:=
 if two then(tkM s p4 44).th fun _ p5=>(S (o+1) p5).th fun b p6=>(tkM s p6 41).th fun _ p7=> .ok (eOp op [n] [a,b]) p7
 else(tkM s p4 41).th fun _ p5=> .ok (eOp op [n] [a]) p5
variable {t:Bool}
theorem on1(hM:M=oneM s S op t o p)(h:opnM s o p= .er e q):M= .er e q:=by rw [hM,oneM,h];rfl
theorem on2(hM:M=oneM s S op t o p)(h:opnM s o p= .ok u p1)(h2:intM s p1= .er e q):M= .er e q:=by rw [hM,oneM,h,Rr.th_ok,h2];rfl
theorem on3(hM:M=oneM s S op t o p)(h:opnM s o p= .ok u p1)(h2:intM s p1= .ok n p2)(h3:tkM s p2 44= .er e q):M= .er e q:=by rw [hM,oneM,h,Rr.th_ok,h2,Rr.th_ok,h3];rfl
theorem on4(hM:M=oneM s S op t o p)(h:opnM s o p= .ok u p1)(h2:intM s p1= .ok n p2)(h3:tkM s p2 44= .ok u1 p3)(h4:S (o+1) p3= .er e q):M= .er e q:=by
 rw [hM,oneM,h,Rr.th_ok,h2,Rr.th_ok,h3,Rr.th_ok,h4];rfl
theorem on5(hM:M=oneM s S op t o p)(h:opnM s o p= .ok u p1)(h2:intM s p1= .ok n p2)(h3:tkM s p2 44= .ok u1 p3)(h4:S (o+1) p3= .ok a p4):M=oneB s S op t o p4 n a:=by
 rw [hM,oneM,h,Rr.th_ok,h2,Rr.th_ok,h3,Rr.th_ok,h4];rfl
theorem ob1(hM:M=oneB s S op t o p4 n a)(ht:t=true)(h:tkM s p4 44= .er e q):M= .er e q:=by rw [hM,oneB,if_pos ht,h];rfl
theorem ob2(hM:M=oneB s S op t o p4 n a)(ht:t=true)(h:tkM s p4 44= .ok u p5)(h2:S (o+1) p5= .er e q):M= .er e q:=by rw [hM,oneB,if_pos ht,h,Rr.th_ok,h2];rfl
theorem ob3(hM:M=oneB s S op t o p4 n a)(ht:t=true)(h:tkM s p4 44= .ok u p5)(h2:S (o+1) p5= .ok b p6):M=(tkM s p6 41).th fun _ q=> .ok (eOp op [n] [a,b]) q:=by rw [hM,oneB,if_pos ht,h,Rr.th_ok,h2];rfl
theorem ob4(hM:M=oneB s S op t o p4 n a)(ht:t=false):M=(tkM s p4 41).th fun _ q=> .ok (eOp op [n] [a]) q:=by rw [hM,oneB,if_neg (by rw [ht];decide)]
theorem oz1{l:List GExpr}(hM:M=(tkM s p6 41).th fun _ q=> .ok (eOp op [n] l) q)(h:tkM s p6 41= .er e q):M= .er e q:=by rw [hM,h];rfl
theorem oz2{l:List GExpr}(hM:M=(tkM s p6 41).th fun _ q=> .ok (eOp op [n] l) q)(h:tkM s p6 41= .ok u q):M= .ok (eOp op [n] l) q:=by rw [hM,h];rfl
end
abbrev wG:List UInt8:=[71]
abbrev wNew:List UInt8:=[110,101,119,102,111,114,109]
abbrev wEta:List UInt8:=[101,116,97]
abbrev Jml:List UInt8:=[116,104,101,116,97]
abbrev Jkg:List UInt8:=[116,119,105,115,116]
abbrev wBr:List UInt8:=[98,114,97,99,107,101,116]
abbrev wSer:List UInt8:=[115,101,114,114,101]
section
variable {s w:List UInt8} {S:Nat→Nat→Rr GExpr} {o p q0:Nat}
theorem Jl2{op:Int}(h:(w=wG∧op=3)∨(w=wNew∧op=9)):Z2 s S w q0 o p=V8 s op o p:=by rcases h with ⟨rfl,rfl⟩ | ⟨rfl,rfl⟩ <;> rfl
theorem Jqw{op:Int}(h:(w=wEta∧op=4)∨(w=Jml∧op=5)):Z2 s S w q0 o p=twoM s op o p:=by rcases h with ⟨rfl,rfl⟩ | ⟨rfl,rfl⟩ <;> rfl
def Jig(w:List UInt8)(op:Int):Prop:=(w=[86]∧op=13)∨(w=[85]∧op=14)∨(w=[84]∧op=15)∨(w=Jkg∧op=16)∨(w=wBr∧op=18)
theorem Jzd{op:Int}(h:Jig w op):Z2 s S w q0 o p=oneM s S op (decide (w=wBr)) o p:=by rcases h with ⟨rfl,rfl⟩ | ⟨rfl,rfl⟩ | ⟨rfl,rfl⟩ | ⟨rfl,rfl⟩ | ⟨rfl,rfl⟩ <;> rfl
theorem Jur{op:Int}(h:Jig w op):13≤op∧op≤18:=by rcases h with ⟨_,rfl⟩ | ⟨_,rfl⟩ | ⟨_,rfl⟩ | ⟨_,rfl⟩ | ⟨_,rfl⟩ <;> decide
def Jot(w:List UInt8):Prop:=¬ w=[86]∧¬ w=[85]∧¬ w=[84]∧¬ w=Jkg∧¬ w=wBr
def Jfu(w:List UInt8):Prop:=¬ w=wG∧¬ w=wNew
def Jo1(w:List UInt8):Prop:=¬ w=wEta∧¬ w=Jml
theorem Jx6{w:List UInt8}(h:∃ op,Jig w op)(h1:¬ w=[86])(h2:¬ w=[85])(h3:¬ w=[84])(h4:¬ w=Jkg):Jig w 18:=by
 obtain⟨op,h | h | h | h | h⟩:=h
 ·exact absurd h.1 h1
 ·exact absurd h.1 h2
 ·exact absurd h.1 h3
 ·exact absurd h.1 h4
 ·exact .inr (.inr (.inr (.inr ⟨h.1,rfl⟩)))
theorem Jgx(h:w=wSer):Z2 s S w q0 o p=serM s S o p:=by subst h;rfl
theorem Jnj(h:w=[68,101,108,116,97]):Z2 s S w q0 o p= .ok (eOp 6 [] []) p:=by subst h;rfl
theorem rs_j(h:w=[106]):Z2 s S w q0 o p= .ok (eOp 7 [] []) p:=by subst h;rfl
theorem Jy1(h1:¬ w=[68,101,108,116,97])(h2:¬ w=[106])(h3:Jfu w)(h4:Jo1 w)(h5:Jot w)(h6:¬ w=wSer):Z2 s S w q0 o p=if Kc w then .ok (Jmq w) p else .er 19 q0:=by
 unfold Z2;rw [if_neg h1,if_neg h2,if_neg h3.1,if_neg h3.2,if_neg h4.1,if_neg h4.2,if_neg h5.1,if_neg h5.2.1,if_neg h5.2.2.1,if_neg h5.2.2.2.1,if_neg h5.2.2.2.2,if_neg h6]
theorem Ju4(h1:¬ w=[68,101,108,116,97])(h2:¬ w=[106])(h3:Jfu w)(h4:Jo1 w)(h5:Jot w)(h6:¬ w=wSer)(h7:Kc w=true):Z2 s S w q0 o p= .ok (Jmq w) p:=by
 rw [Jy1 h1 h2 h3 h4 h5 h6,if_pos h7]
theorem Jxd(h1:¬ w=[68,101,108,116,97])(h2:¬ w=[106])(h3:Jfu w)(h4:Jo1 w)(h5:Jot w)(h6:¬ w=wSer)(h7:Kc w=false):Z2 s S w q0 o p= .er 19 q0:=by
 rw [Jy1 h1 h2 h3 h4 h5 h6,if_neg (by rw [h7];decide)]
end
end Go.Wf
